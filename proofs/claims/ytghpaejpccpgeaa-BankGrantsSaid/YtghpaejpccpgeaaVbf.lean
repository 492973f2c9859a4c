/-
  The bank's order.
-/
import Derived.Test.YtghpaejpccpgeaaVbe
set_option maxRecDepth 100000
set_option linter.unusedVariables false
set_option linter.unusedSimpArgs false
set_option maxHeartbeats 1000000
namespace Go.Proofs
open Go Go.Vc
namespace Ytghpaejpccpgeaa

/-- Bits tell who can go home. -/
theorem can_bits {l : List ClaimD} (h : fMay l = true) (k : Nat) : (bitsOf .and .u64 (fOthers l (k : Int) : Int) (fWants (l.getD k zeroC) : Int) != 0) = !fCan l k := by
  obtain ⟨h1, h2⟩ := fMay_iff.1 h
  rw [and64 (fOthers l k) (fWants (l.getD k zeroC)) (others_lt _ _ _) (fWants_lt _)]
  have key : fOthers l k &&& fWants (l.getD k zeroC) = 0 ↔ fCan l k = true := by
    unfold fCan
    rw [and_zero, List.all_eq_true]
    constructor
    · intro g w hw
      rw [fClear_iff]
      intro j hj hk e he hf
      have hb := (h2 _ (mem_getD zeroC hj)).at_.2 e he
      refine g e.toNat ⟨(others_bit _ _ _ _).2 ⟨by omega, j, hj, hk, ?_⟩, (fWants_bit _ _).2 ⟨w, hw, (fOf_bit _ _).2 ⟨by omega, ?_⟩⟩⟩
      · rw [Int.toNat_of_nonneg hb.1]; exact he
      · rw [Int.toNat_of_nonneg hb.1]; exact hf
    · rintro g i ⟨g1, g2⟩
      obtain ⟨_, j, hj, hk, he⟩ := (others_bit _ _ _ _).1 g1
      obtain ⟨w, hw, hf⟩ := (fWants_bit _ _).1 g2
      exact fClear_iff.1 (g w hw) j hj hk _ he ((fOf_bit _ _).1 hf).2
  cases hc : fCan l k with
  | true => rw [key.2 hc]; rfl
  | false =>
    have : ¬ fOthers l k &&& fWants (l.getD k zeroC) = 0 := fun h0 => by rw [key.1 h0] at hc; cases hc
    rw [bne_iff_ne.2]
    · rfl
    · omega

theorem next_eq {l : List ClaimD} {gone : List Bool} {k : Nat} (hk : k < l.length) (h : (List.range k).any (fElig l gone) = false) (h1 : fElig l gone k = true) : fNext l gone = k := by
  unfold fNext
  rw [List.findIdx_eq (by simpa using hk)]
  refine ⟨by simpa using h1, fun j hj => ?_⟩
  rw [List.any_eq_false] at h
  have := h j (List.mem_range.2 hj)
  simpa using this

theorem next_none {l : List ClaimD} {gone : List Bool} (h : (List.range l.length).any (fElig l gone) = false) : ¬ fNext l gone < l.length := by
  unfold fNext
  rw [List.any_eq_false] at h
  intro hlt
  have h2 := List.findIdx_getElem (p := fElig l gone) (xs := List.range l.length) (w := by simpa using hlt)
  rw [List.getElem_range] at h2
  exact h _ (List.mem_range.2 hlt) h2

theorem may_set {l : List ClaimD} (h : fMay l = true) (k : Nat) : fMay (l.set k zeroC) = true := by
  obtain ⟨h1, h2⟩ := fMay_iff.1 h
  refine fMay_iff.2 ⟨by simpa using h1, fun c hc => ?_⟩
  rcases List.mem_or_eq_of_mem_set hc with hc | rfl
  · exact h2 c hc
  · exact ⟨by simp [zeroC], ⟨by simp [zeroC], by simp [zeroC]⟩, by simp [zeroC]⟩

theorem OrdOk.start {l : List ClaimD} (h : fMay l = true) : OrdOk l 0 l (List.replicate l.length false) [] where
  n := by omega
  ll := rfl
  lg := by simp
  lo := rfl
  may := h
  cnt := by simp [List.count_replicate]
  ord := rfl
  ins := fun k hk => by simp [List.getD_eq_getElem?_getD, List.getElem?_replicate, hk]

theorem OrdOk.step {l left : List ClaimD} {s : Nat} {gone : List Bool} {out : List Int} (h : OrdOk l s left gone out) (hs : s < l.length) (hn : fNext left gone < left.length) (hg : gone.getD (fNext left gone) true = false) :
    OrdOk l (s + 1) (left.set (fNext left gone) zeroC) (gone.set (fNext left gone) true) (out ++ [(fNext left gone : Int)]) where
  n := hs
  ll := by simp [h.ll]
  lg := by simp [h.lg]
  lo := by simp [h.lo]
  may := may_set h.may _
  cnt := by
    have hlt : fNext left gone < gone.length := by rw [h.lg, ← h.ll]; exact hn
    rw [List.count_set hlt, h.cnt]
    have : gone[fNext left gone] = false := by rw [← getD_at true hlt]; exact hg
    rw [this]
    simp
  ord := by
    rw [h.ord, show l.length - s = (l.length - (s + 1)) + 1 by omega]
    show (if fNext left gone < left.length then _ else none) = _
    rw [if_pos hn]
  ins := fun k hk => by
    have hlt : k < gone.length := by rw [h.lg]; exact hk
    rw [List.mem_append, List.mem_singleton, ← h.ins k hk]
    by_cases hkn : fNext left gone = k
    · subst hkn
      simp [List.getD_eq_getElem?_getD, hlt]
    · rw [List.getD_eq_getElem?_getD, List.getElem?_set_ne hkn, ← List.getD_eq_getElem?_getD]
      constructor
      · exact .inl
      · rintro (h | h)
        · exact h
        · omega

theorem OrdOk.stuck {l left : List ClaimD} {s : Nat} {gone : List Bool} {out : List Int} (h : OrdOk l s left gone out) (hs : s < l.length) (hn : ¬ fNext left gone < left.length) : fOrder l = none := by
  rw [h.ord, show l.length - s = (l.length - (s + 1)) + 1 by omega]
  show (if fNext left gone < left.length then _ else none) = _
  rw [if_neg hn]

theorem OrdOk.done {l left : List ClaimD} {s : Nat} {gone : List Bool} {out : List Int} (h : OrdOk l s left gone out) (hs : l.length ≤ s) : fOrder l = some out := by
  rw [h.ord, show l.length - s = 0 by omega]
  rfl

/-- Somebody is not home. -/
theorem OrdOk.any {l left : List ClaimD} {s : Nat} {gone : List Bool} {out : List Int} (h : OrdOk l s left gone out) (hs : s < l.length) : gone.any (fun n => !n) = true := by
  cases ha : gone.any (fun n => !n) with
  | true => rfl
  | false =>
    exfalso
    rw [List.any_eq_false] at ha
    have : gone.count true = gone.length := by
      rw [List.count_eq_length]
      intro b hb
      have := ha b hb
      cases b
      · simp at this
      · rfl
    rw [h.cnt, h.lg] at this
    omega

theorem v14 (l : List (List Int × List (List Int × Int))) : bodyVC (ctxOf tab [(31, c31), (340032, c340032), (34, c34), (35, c35)] [] [(33, .unit)]) Try.f14 c14 (a14 (l, ())) (l, ()) = (
short l ∧
((0 : Int) ≤ (↑l.length : Int) ∧ (↑l.length : Int) ≤ (↑l.length : Int)) ∧
(roomFor (↑l.length : Int).toNat (1 : Nat) ∧ (↑l.length : Int) ≤ (↑maxLenI : Int)) ∧
(∃ (s01 : Nat × List ClaimD × List Bool × List Int),
OrdOk l s01.fst s01.snd.fst s01.snd.snd.fst s01.snd.snd.snd ∧
(↑s01.fst : Int) = (0 : Int) ∧
l = l ∧ (↑l.length : Int) = (↑l.length : Int) ∧ s01.snd.fst = l ∧ s01.snd.snd.fst = List.replicate (↑l.length : Int).toNat false ∧ s01.snd.snd.snd = [] ∧ True) ∧
∀ (s1 : Nat × List ClaimD × List Bool × List Int),
lett (decide ((↑s1.fst : Int) < (↑l.length : Int))) fun (y2 : Bool) =>
OrdOk l s1.fst s1.snd.fst s1.snd.snd.fst s1.snd.snd.snd →
(y2 = true →
short s1.snd.snd.fst ∧
(∃ (s03 : Nat),
(s03 ≤ l.length ∧ (List.range s03).any (fElig s1.snd.fst s1.snd.snd.fst) = false) ∧
(↑s03 : Int) = fFind (fun (n : Bool) => !n) s1.snd.snd.fst ∧
l = l ∧
(↑l.length : Int) = (↑l.length : Int) ∧
(↑s1.fst : Int) = (↑s1.fst : Int) ∧ s1.snd.fst = s1.snd.fst ∧ s1.snd.snd.fst = s1.snd.snd.fst ∧ s1.snd.snd.snd = s1.snd.snd.snd ∧ True) ∧
∀ (s3 : Nat),
lett (decide ((↑s3 : Int) < (↑l.length : Int))) fun (y4 : Bool) =>
lett (s1.snd.snd.fst.getD (↑s3 : Int).toNat false) fun (y5 : Bool) =>
lett (s1.snd.fst.getD (↑s3 : Int).toNat ([], [])) fun (y6 : List Int × List (List Int × Int)) =>
lett (bif y4 then bif y5 then true else bitsOf BinOp.and IntKind.u64 (↑(fOthers s1.snd.fst (↑s3 : Int)) : Int) (↑(fWants y6) : Int) != (0 : Int) else false)
fun (y7 : Bool) =>
lett ((↑s3 : Int) == (↑l.length : Int)) fun (y8 : Bool) =>
lett ((List.replicate (1 : Nat) (0 : Int)).set (0 : Nat) (↑s3 : Int)) fun (y9 : List Int) =>
s3 ≤ l.length ∧ (List.range s3).any (fElig s1.snd.fst s1.snd.snd.fst) = false →
(y4 = true → InB (↑s3 : Int) s1.snd.snd.fst.length) ∧
(y4 = true → y5 = false → shortL s1.snd.fst) ∧
(y4 = true → y5 = false → InB (↑s3 : Int) s1.snd.fst.length) ∧
(y4 = true → y5 = false → shortC y6) ∧
(y7 = true →
InR IntKind.i64 ((↑s3 : Int) + (1 : Int)) ∧
∃ (s'10 : Nat),
(s'10 ≤ l.length ∧ (List.range s'10).any (fElig s1.snd.fst s1.snd.snd.fst) = false) ∧
l.length - s'10 < l.length - s3 ∧
(↑s'10 : Int) = (↑s3 : Int) + (1 : Int) ∧
l = l ∧
(↑l.length : Int) = (↑l.length : Int) ∧
(↑s1.fst : Int) = (↑s1.fst : Int) ∧
s1.snd.fst = s1.snd.fst ∧ s1.snd.snd.fst = s1.snd.snd.fst ∧ s1.snd.snd.snd = s1.snd.snd.snd ∧ True) ∧
(y7 = false →
(y8 = true → [] = (fOrder l).getD [] ∧ false = (fOrder l).isSome ∧ True) ∧
(y8 = false →
InB (↑s3 : Int) s1.snd.snd.fst.length ∧
InB (↑s3 : Int) s1.snd.fst.length ∧
roomFor (s1.snd.snd.snd.length + y9.length) (8 : Nat) ∧
InR IntKind.i64 ((↑s1.fst : Int) + (1 : Int)) ∧
∃ (s'10 : Nat × List ClaimD × List Bool × List Int),
OrdOk l s'10.fst s'10.snd.fst s'10.snd.snd.fst s'10.snd.snd.snd ∧
l.length - s'10.fst < l.length - s1.fst ∧
(↑s'10.fst : Int) = (↑s1.fst : Int) + (1 : Int) ∧
l = l ∧
(↑l.length : Int) = (↑l.length : Int) ∧
s'10.snd.fst = s1.snd.fst.set (↑s3 : Int).toNat ([], []) ∧
s'10.snd.snd.fst = s1.snd.snd.fst.set (↑s3 : Int).toNat true ∧ s'10.snd.snd.snd = s1.snd.snd.snd ++ y9 ∧ True))) ∧
(y2 = false → s1.snd.snd.snd = (fOrder l).getD [] ∧ true = (fOrder l).isSome ∧ True)) := by kernel_rfl

theorem b14 (l : List ClaimD) (hm : fMay l = true) : bodyVC (ctxOf tab [(31, c31), (340032, c340032), (34, c34), (35, c35)] [] [(33, .unit)]) Try.f14 c14 (a14 (l, ())) (l, ()) := by
  have h8 : l.length ≤ 8 := (fMay_iff.1 hm).1
  rw [v14]
  simp only [true_and, and_true, Int.toNat_natCast]
  refine ⟨by show l.length ≤ 1000000; omega, ⟨by omega, by omega⟩, ⟨room (by omega) (by omega), by simp only [maxLenI]; omega⟩, ⟨(0, l, List.replicate l.length false, []), OrdOk.start hm, rfl, rfl, rfl, rfl⟩, ?_⟩
  rintro ⟨s, left, gone, out⟩
  refine lett.mk fun y2 e2 => ?_
  intro hO
  simp only at hO e2 ⊢
  have hll := hO.ll
  have hlg := hO.lg
  have hlo := hO.lo
  refine ⟨fun h2 => ?_, fun h2 => ?_⟩
  · have hs := lt_of_y e2 h2
    have hany := hO.any hs
    refine ⟨by show gone.length ≤ 1000000; omega, ⟨gone.findIdx fun n => !n, ⟨?_, ?_⟩, ?_⟩, fun k => lett.mk fun y4 e4 => lett.mk fun y5 e5 => lett.mk fun y6 e6 => lett.mk fun y7 e7 => lett.mk fun y8 e8 => lett.mk fun y9 e9 => ?_⟩
    · have := List.findIdx_le_length (p := fun n => !n) (xs := gone)
      omega
    · rw [List.any_eq_false]
      intro j hj
      have hj := List.mem_range.1 hj
      have hlt : j < gone.length := by have := List.findIdx_le_length (p := fun n => !n) (xs := gone); omega
      have := List.not_of_lt_findIdx hj
      unfold fElig
      rw [getD_at true hlt]
      intro h
      rw [Bool.and_eq_true] at h
      rw [h.1] at this
      cases this
    · unfold fFind
      rw [if_pos hany]
    · rintro ⟨k1, k2⟩
      have hg : k < l.length → gone.getD k true = gone.getD k false := fun h => by rw [getD_at true (by omega), getD_at false (by omega)]
      have h7 : y4 = true → y7 = !fElig left gone k := fun h4 => by
        have hk := lt_of_y e4 h4
        rw [e7, h4]
        have e6 : y6 = left.getD k zeroC := e6
        rw [e6, can_bits hO.may k]
        unfold fElig
        rw [hg hk, ← e5]
        cases y5 <;> cases fCan left k <;> rfl
      have hS := may_short hO.may
      refine ⟨fun h4 => ?_, fun _ _ => hS, fun h4 _ => ?_, fun h4 _ => ?_, fun h => ?_, fun h => ⟨fun h8' => ?_, fun h8' => ?_⟩⟩
      · have := lt_of_y e4 h4; exact ⟨by omega, by omega⟩
      · have := lt_of_y e4 h4; exact ⟨by omega, by omega⟩
      · have := lt_of_y e4 h4
        rw [e6]
        exact hS.2 _ (mem_getD zeroC (by omega))
      · have h4 : y4 = true := by
          cases h4 : y4 with
          | true => rfl
          | false => rw [h4, h] at e7; cases e7
        have hk := lt_of_y e4 h4
        have := h7 h4
        rw [h] at this
        refine ⟨inR64 (by omega) (by omega), k + 1, ⟨by omega, ?_⟩, by omega, by omega⟩
        rw [List.range_succ, List.any_append, k2]
        simpa using this.symm
      · rw [e8] at h8'
        have hk : k = l.length := by have := beq_iff_eq.1 h8'; omega
        have := hO.stuck hs (next_none (by rw [hll, ← hk]; exact k2))
        rw [this]
        exact ⟨rfl, rfl⟩
      · rw [e8] at h8'
        have hk : k < l.length := by have := beq_eq_false_iff_ne.1 h8'; omega
        have h4 : y4 = true := by rw [e4]; exact decide_eq_true (by omega)
        have := h7 h4
        rw [h] at this
        have hel : fElig left gone k = true := by
          cases hx : fElig left gone k with
          | true => rfl
          | false => rw [hx] at this; cases this
        have hne := next_eq (by omega) k2 hel
        have hgo : gone.getD k true = false := by
          unfold fElig at hel
          rw [Bool.and_eq_true] at hel
          simpa using hel.1
        have e9 : y9 = [(k : Int)] := e9
        have hst := hO.step hs (by rw [hne]; omega) (by rw [hne]; exact hgo)
        rw [hne] at hst
        refine ⟨⟨by omega, by omega⟩, ⟨by omega, by omega⟩, room (by rw [e9]; simp; omega) (by omega), inR64 (by omega) (by omega), (s + 1, left.set k zeroC, gone.set k true, out ++ [(k : Int)]), hst, by show _ < _; omega, by show ((s + 1 : Nat) : Int) = _; omega, rfl, rfl, ?_⟩
        rw [e9]
  · have hs := le_of_y e2 h2
    rw [hO.done hs]
    exact ⟨rfl, rfl⟩

theorem ok14 : DOk Try.prog 14 c14 :=
  DOk.of' (l := [(31, c31), (340032, c340032), (34, c34), (35, c35)]) (clos := [(33, .unit)]) (A := a14) tabOk ⟨ok31, ok340032, ok34, ok35, trivial⟩ Try.func14 (by kernel_rfl) (by kernel_rfl) fun x _ hp => b14 x.1 hp

theorem v17 (l : List (List Int × List (List Int × Int))) : bodyVC (ctxOf tab [(14, c14)]) Try.f17 c17 noAnn (l, ()) = (
fMay l = true ∧ (fOrder l).isSome = (fOrder l).isSome ∧ True) := by kernel_rfl

theorem ok17 : DOk Try.prog 17 c17 :=
  DOk.of' (l := [(14, c14)]) (A := fun _ => noAnn) tabOk ⟨ok14, trivial⟩ Try.func17 (by kernel_rfl) (by kernel_rfl) fun x _ hp => by
    obtain ⟨l, ⟨⟩⟩ := x
    rw [v17]
    exact ⟨hp, rfl, trivial⟩

end Ytghpaejpccpgeaa
end Go.Proofs
