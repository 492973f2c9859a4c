/-
  Who may go: both ways, written out and proved.
-/
import Derived.Test.YtghpaejpccpgeaaVbj
import Derived.Test.YtghpaejpccpgeaaVbg
set_option maxRecDepth 100000
set_option linter.unusedVariables false
set_option linter.unusedSimpArgs false
set_option maxHeartbeats 1000000
namespace Go.Proofs
open Go Go.Vc
namespace Ytghpaejpccpgeaa

theorem v40 (l : List (List Int × List (List Int × Int))) : bodyVC (ctxOf tab [(15, c15)]) Try.f40 c40 noAnn (l, ()) = (
fMay l = true ∧ (fOrder l).isSome = (fOrder l).isSome ∧ True) := by kernel_rfl

theorem ok40 : DOk Try.prog 40 c40 :=
  DOk.of' (l := [(15, c15)]) (A := fun _ => noAnn) tabOk ⟨ok15, trivial⟩ Try.func40 (by kernel_rfl) (by kernel_rfl) fun x _ hp => by
    obtain ⟨l, ⟨⟩⟩ := x
    rw [v40]
    exact ⟨hp, rfl, trivial⟩

/-! ### Bits of a number -/

theorem bit_i64 (m s : Nat) (hm : m < 2 ^ 40) (hs : s ≤ 60) : (bitsOf .and .i64 ((m : Int).fdiv ((2 : Int) ^ min s IntKind.i64.bits)) (1 : Int) == (1 : Int)) = m.testBit s := by
  have hmin : min s IntKind.i64.bits = s := Nat.min_eq_left (by show s ≤ 64; omega)
  have hp : ((2 : Int) ^ s) = ((2 ^ s : Nat) : Int) := by simp
  have hd : (m : Int).fdiv ((2 ^ s : Nat) : Int) = ((m / 2 ^ s : Nat) : Int) := (Int.ofNat_fdiv m (2 ^ s)).symm
  rw [hmin, hp, hd]
  have hlt : m / 2 ^ s < 2 ^ 40 := Nat.lt_of_le_of_lt (Nat.div_le_self _ _) hm
  have hb : bitsOf .and .i64 ((m / 2 ^ s : Nat) : Int) ((1 : Nat) : Int) = ((m / 2 ^ s &&& 1 : Nat) : Int) := by
    unfold bitsOf
    show IntKind.i64.wrap (((BitVec.ofInt 64 ((m / 2 ^ s : Nat) : Int) &&& BitVec.ofInt 64 ((1 : Nat) : Int)).toNat : Nat) : Int) = _
    rw [BitVec.ofInt_natCast, BitVec.ofInt_natCast, BitVec.toNat_and, BitVec.toNat_ofNat, BitVec.toNat_ofNat, Nat.mod_eq_of_lt (by omega), Nat.mod_eq_of_lt (by omega)]
    have : m / 2 ^ s &&& 1 ≤ 1 := Nat.and_le_right
    exact IntWalk.i64_in _ (by omega)
  have hb : bitsOf .and .i64 ((m / 2 ^ s : Nat) : Int) (1 : Int) = ((m / 2 ^ s &&& 1 : Nat) : Int) := hb
  rw [hb, Nat.and_one_is_mod, Nat.testBit_eq_decide_div_mod_eq]
  rw [Bool.eq_iff_iff, beq_iff_eq, decide_eq_true_iff]
  omega

theorem pow_i64 (y : Nat) (h : y ≤ 40) : IntKind.i64.wrap ((1 : Int) * (2 : Int) ^ min y IntKind.i64.bits) = ((2 ^ y : Nat) : Int) := by
  have hmin : min y IntKind.i64.bits = y := Nat.min_eq_left (by show y ≤ 64; omega)
  have hp : ((2 : Int) ^ y) = ((2 ^ y : Nat) : Int) := by simp
  have hlt : 2 ^ y ≤ 2 ^ 40 := Nat.pow_le_pow_right (by omega) h
  rw [hmin, Int.one_mul, hp]
  obtain ⟨z, hz⟩ : ∃ z, z = 2 ^ y := ⟨_, rfl⟩
  rw [← hz] at hlt ⊢
  exact IntWalk.i64_in _ (by omega)

theorem pow_le40 {y : Nat} (h : y ≤ 38) : 2 ^ y ≤ 2 ^ 38 := Nat.pow_le_pow_right (by omega) h

/-! ### Those that go -/

theorem goes_len (l : List ClaimD) (k : Int) (asking : List Int) (s : Nat) : (fGoes l k asking s).length ≤ s + 1 := by
  unfold fGoes
  have := List.length_filter_le (fAskd l k asking) (List.range s)
  simp only [List.length_cons, List.length_map, List.length_range] at *
  omega

theorem goes_succ (l : List ClaimD) (k : Int) (asking : List Int) (s : Nat) : fGoes l k asking (s + 1) = bif fAskd l k asking s then fGoes l k asking s ++ [(s : Int)] else fGoes l k asking s := by
  unfold fGoes
  rw [List.range_succ, List.filter_append]
  cases h : fAskd l k asking s <;> simp [h]

theorem free_in {l : List ClaimD} {k : Int} (h : fFree l k = true) : 0 ≤ k ∧ k < l.length := by
  unfold fFree at h
  simp only [Bool.and_eq_true, decide_eq_true_eq] at h
  exact ⟨h.1, h.2.1⟩

theorem goes_in {l : List ClaimD} {k : Int} {asking : List Int} {s : Nat} (h : fFree l k = true) (hs : s ≤ l.length) : ∀ x ∈ fGoes l k asking s, 0 ≤ x ∧ x < l.length := by
  intro x hx
  unfold fGoes at hx
  rcases List.mem_cons.1 hx with rfl | hx
  · exact free_in h
  · obtain ⟨i, hi, rfl⟩ := List.mem_map.1 hx
    have := List.mem_range.1 (List.mem_filter.1 hi).1
    omega

theorem after_may {c : ClaimD} (h : MayC c) : MayC (fAfter c) := by
  obtain ⟨at_, legs⟩ := c
  unfold fAfter
  match legs, h with
  | [], _ => exact ⟨by simp, ⟨by simp, by simp⟩, by simp⟩
  | w :: r, h =>
    have hw := (h.want w List.mem_cons_self).2
    have ha : (bif decide (w.2 ≥ 0) then [w.2] else []).length ≤ 40 ∧ ∀ x ∈ (bif decide (w.2 ≥ 0) then [w.2] else []), 0 ≤ x ∧ x ≤ 39 := by
      cases hd : decide (w.2 ≥ 0) with
      | false => exact ⟨Nat.zero_le _, fun x hx => by cases hx⟩
      | true =>
        have hd := of_decide_eq_true hd
        refine ⟨by show 1 ≤ 40; omega, fun x hx => ?_⟩
        have hx : x ∈ [w.2] := hx
        have hx : x = w.2 := by simpa using hx
        omega
    exact ⟨by have := h.legs; simp at this ⊢; omega, ha, fun v hv => h.want v (List.mem_cons_of_mem _ hv)⟩

theorem may_set' {l : List ClaimD} {c : ClaimD} (h : fMay l = true) (hc : MayC c) (k : Nat) : fMay (l.set k c) = true := by
  obtain ⟨h1, h2⟩ := fMay_iff.1 h
  refine fMay_iff.2 ⟨by simpa using h1, fun d hd => ?_⟩
  rcases List.mem_or_eq_of_mem_set hd with hd | rfl
  · exact h2 d hd
  · exact hc

theorem then_may {l : List ClaimD} {goes : List Int} {m : Nat} (h : fMay l = true) (hg : ∀ x ∈ goes, 0 ≤ x ∧ x < l.length) : ∀ s, s ≤ goes.length → fMay (fThen l goes m s) = true ∧ (fThen l goes m s).length = l.length
  | 0, _ => ⟨h, rfl⟩
  | s + 1, hs => by
    obtain ⟨g1, g2⟩ := then_may (m := m) h hg s (by omega)
    have hx := hg _ (mem_getD (0 : Int) (show s < goes.length by omega))
    unfold fThen
    cases m.testBit s
    · exact ⟨g1, g2⟩
    · exact ⟨may_set' g1 (after_may ((fMay_iff.1 h).2 _ (mem_getD zeroC (by omega)))) _, by simpa using g2⟩

theorem v20 (l : List (List Int × List (List Int × Int))) (k : Int) (asking : List Int) : bodyVC (ctxOf tab [(18, c18), (39, c39), (31, c31), (24, c24), (17, c17)]) Try.f20 c20 (a20 (l, k, asking, ())) (l, k, asking, ()) = (
lett (bif !fFree l k then true else decide ((↑l.length : Int) > (8 : Int))) fun (y3 : Bool) =>
fMay l = true ∧
(y3 = true → false = fGrant l k asking ∧ True) ∧
(y3 = false →
(∃ (s04 : Nat),
s04 ≤ l.length ∧
(↑s04 : Int) = (0 : Int) ∧
l = l ∧ k = k ∧ asking = asking ∧ l = l ∧ (↑l.length : Int) = (↑l.length : Int) ∧ fGoes l k asking s04 = (List.replicate (1 : Nat) (0 : Int)).set (0 : Nat) k ∧ True) ∧
∀ (s4 : Nat),
lett (decide ((↑s4 : Int) < (↑l.length : Int))) fun (y5 : Bool) =>
lett (bif (↑s4 : Int) != k then decide ((↑(l.getD (↑s4 : Int).toNat ([], [])).snd.length : Int) > (0 : Int)) else false) fun (y6 : Bool) =>
lett (bif y6 then asking.contains (↑s4 : Int) else false) fun (y7 : Bool) =>
lett (fGoes l k asking s4).length fun (y8 : Nat) =>
lett ((List.replicate (1 : Nat) (0 : Int)).set (0 : Nat) (↑s4 : Int)) fun (y9 : List Int) =>
lett (IntKind.i64.wrap ((1 : Int) * (2 : Int) ^ min (↑y8 : Int).toNat IntKind.i64.bits)) fun (y10 : Int) =>
s4 ≤ l.length →
(y5 = true →
InB (↑s4 : Int) l.length ∧
(y6 = true → short asking) ∧
(y7 = true →
roomFor (y8 + y9.length) (8 : Nat) ∧
InR IntKind.i64 ((↑s4 : Int) + (1 : Int)) ∧
∃ (s'11 : Nat),
s'11 ≤ l.length ∧
l.length - s'11 < l.length - s4 ∧
(↑s'11 : Int) = (↑s4 : Int) + (1 : Int) ∧
l = l ∧ k = k ∧ asking = asking ∧ l = l ∧ (↑l.length : Int) = (↑l.length : Int) ∧ fGoes l k asking s'11 = fGoes l k asking s4 ++ y9 ∧ True) ∧
(y7 = false →
InR IntKind.i64 ((↑s4 : Int) + (1 : Int)) ∧
∃ (s'11 : Nat),
s'11 ≤ l.length ∧
l.length - s'11 < l.length - s4 ∧
(↑s'11 : Int) = (↑s4 : Int) + (1 : Int) ∧
l = l ∧ k = k ∧ asking = asking ∧ l = l ∧ (↑l.length : Int) = (↑l.length : Int) ∧ fGoes l k asking s'11 = fGoes l k asking s4 ∧ True)) ∧
(y5 = false →
(∃ (s011 : Nat),
((1 : Nat) ≤ s011 ∧ s011 ≤ (2 : Nat) ^ y8 ∧ (List.range s011).all (fSafeAt l (fGoes l k asking s4)) = true) ∧
(↑s011 : Int) = (1 : Int) ∧ l = l ∧ fGoes l k asking s4 = fGoes l k asking s4 ∧ True) ∧
∀ (s11 : Nat),
(1 : Nat) ≤ s11 ∧ s11 ≤ (2 : Nat) ^ y8 ∧ (List.range s11).all (fSafeAt l (fGoes l k asking s4)) = true →
(0 : Int) ≤ (↑y8 : Int) ∧
(decide ((↑s11 : Int) < y10) = true →
short l ∧
(∃ (s012 : Nat),
s012 ≤ y8 ∧
(↑s012 : Int) = (0 : Int) ∧
l = l ∧
(↑s11 : Int) = (↑s11 : Int) ∧
(↑y8 : Int) = (↑y8 : Int) ∧ fThen l (fGoes l k asking s4) (↑s11 : Int).toNat s012 = l ∧ fGoes l k asking s4 = fGoes l k asking s4 ∧ True) ∧
∀ (s12 : Nat),
lett (decide ((↑s12 : Int) < (↑y8 : Int))) fun (y13 : Bool) =>
lett (bitsOf BinOp.and IntKind.i64 ((↑s11 : Int).fdiv ((2 : Int) ^ min (↑s12 : Int).toNat IntKind.i64.bits)) (1 : Int) == (1 : Int))
fun (y14 : Bool) =>
lett ((fGoes l k asking s4).getD (↑s12 : Int).toNat (0 : Int)) fun (y15 : Int) =>
lett (l.getD y15.toNat ([], [])) fun (y16 : List Int × List (List Int × Int)) =>
lett (fThen l (fGoes l k asking s4) (↑s11 : Int).toNat s12) fun (y17 : List ClaimD) =>
s12 ≤ y8 →
(y13 = true →
InB (↑s12 : Int) y8 ∧
(0 : Int) ≤ (↑s12 : Int) ∧
(y14 = true →
InB y15 l.length ∧
fClaim y16 = true ∧
InB y15 y17.length ∧
InR IntKind.i64 ((↑s12 : Int) + (1 : Int)) ∧
∃ (s'18 : Nat),
s'18 ≤ y8 ∧
y8 - s'18 < y8 - s12 ∧
(↑s'18 : Int) = (↑s12 : Int) + (1 : Int) ∧
l = l ∧
(↑s11 : Int) = (↑s11 : Int) ∧
(↑y8 : Int) = (↑y8 : Int) ∧
fThen l (fGoes l k asking s4) (↑s11 : Int).toNat s'18 = y17.set y15.toNat (fAfter y16) ∧
fGoes l k asking s4 = fGoes l k asking s4 ∧ True) ∧
(y14 = false →
InR IntKind.i64 ((↑s12 : Int) + (1 : Int)) ∧
∃ (s'18 : Nat),
s'18 ≤ y8 ∧
y8 - s'18 < y8 - s12 ∧
(↑s'18 : Int) = (↑s12 : Int) + (1 : Int) ∧
l = l ∧
(↑s11 : Int) = (↑s11 : Int) ∧
(↑y8 : Int) = (↑y8 : Int) ∧
fThen l (fGoes l k asking s4) (↑s11 : Int).toNat s'18 = y17 ∧
fGoes l k asking s4 = fGoes l k asking s4 ∧ True)) ∧
(y13 = false →
fMay y17 = true ∧
((!(fOrder y17).isSome) = true → false = fGrant l k asking ∧ True) ∧
((!(fOrder y17).isSome) = false →
InR IntKind.i64 ((↑s11 : Int) + (1 : Int)) ∧
∃ (s'18 : Nat),
((1 : Nat) ≤ s'18 ∧ s'18 ≤ (2 : Nat) ^ y8 ∧ (List.range s'18).all (fSafeAt l (fGoes l k asking s4)) = true) ∧
(2 : Nat) ^ y8 - s'18 < (2 : Nat) ^ y8 - s11 ∧
(↑s'18 : Int) = (↑s11 : Int) + (1 : Int) ∧ l = l ∧ fGoes l k asking s4 = fGoes l k asking s4 ∧ True))) ∧
(decide ((↑s11 : Int) < y10) = false → true = fGrant l k asking ∧ True)))) := by kernel_rfl

theorem askd_key {l : List ClaimD} {k : Int} {asking : List Int} {s : Nat} {y6 y7 : Bool} (e6 : y6 = bif (s : Int) != k then decide (((l.getD s zeroC).2.length : Int) > (0 : Int)) else false) (e7 : y7 = bif y6 then asking.contains (s : Int) else false) :
    y7 = fAskd l k asking s := by
  have h : decide (((l.getD s zeroC).2.length : Int) > (0 : Int)) = decide (0 < (l.getD s zeroC).2.length) := decide_eq_decide.2 (by omega)
  rw [h] at e6
  rw [e7, e6]
  unfold fAskd
  cases (s : Int) != k <;> cases decide (0 < (l.getD s zeroC).2.length) <;> rfl

theorem b20 (l : List ClaimD) (k : Int) (asking : List Int) (hm : fMay l = true) (ha : asking.length ≤ 1000000) :
    bodyVC (ctxOf tab [(18, c18), (39, c39), (31, c31), (24, c24), (17, c17)]) Try.f20 c20 (a20 (l, k, asking, ())) (l, k, asking, ()) := by
  have h8 : l.length ≤ 8 := (fMay_iff.1 hm).1
  rw [v20]
  simp only [true_and, and_true, Int.toNat_natCast]
  refine lett.mk fun y3 e3 => ⟨hm, fun h3 => ?_, fun h3 => ⟨⟨0, by omega, rfl, rfl⟩, fun s => ?_⟩⟩
  · have : fFree l k = false := by
      cases hf : fFree l k with
      | false => rfl
      | true =>
        rw [e3, hf] at h3
        have : (l.length : Int) > 8 := of_decide_eq_true h3
        omega
    unfold fGrant
    rw [this]
    rfl
  have hf : fFree l k = true := by
    cases hf : fFree l k with
    | true => rfl
    | false => rw [e3, hf] at h3; cases h3
  refine lett.mk fun y5 e5 => lett.mk fun y6 e6 => lett.mk fun y7 e7 => lett.mk fun y8 e8 => lett.mk fun y9 e9 => lett.mk fun y10 e10 => ?_
  intro hs
  have h7 := askd_key (asking := asking) e6 e7
  have hgl := goes_len l k asking s
  have hsu := goes_succ l k asking s
  have e9 : y9 = [(s : Int)] := e9
  refine ⟨fun h5 => ?_, fun h5 => ?_⟩
  · have hlt := lt_of_y e5 h5
    refine ⟨⟨by omega, by omega⟩, fun _ => ha, fun h => ?_, fun h => ?_⟩
    · rw [h7] at h
      rw [h, cond_true] at hsu
      exact ⟨room (by rw [e9]; simp; omega) (by omega), inR64 (by omega) (by omega), s + 1, by omega, by omega, by omega, by rw [hsu, e9]⟩
    · rw [h7] at h
      rw [h, cond_false] at hsu
      exact ⟨inR64 (by omega) (by omega), s + 1, by omega, by omega, by omega, hsu⟩
  · have hle := le_of_y e5 h5
    have hsl : s = l.length := by omega
    subst hsl
    have hgi := goes_in (asking := asking) hf (Nat.le_refl l.length)
    rw [pow_i64 y8 (by omega)] at e10
    have hpow := pow_le40 (y := y8) (by omega)
    have hpos : 1 ≤ 2 ^ y8 := Nat.one_le_two_pow
    refine ⟨⟨1, ⟨Nat.le_refl _, hpos, ?_⟩, rfl⟩, fun m => ?_⟩
    · rfl
    rintro ⟨m1, m2, m3⟩
    refine ⟨by omega, fun hlt => ?_, fun hge => ?_⟩
    · rw [e10] at hlt
      have hlt := of_decide_eq_true hlt
      refine ⟨by show l.length ≤ 1000000; omega, ⟨0, by omega, rfl, rfl⟩, fun i => ?_⟩
      refine lett.mk fun y13 e13 => lett.mk fun y14 e14 => lett.mk fun y15 e15 => lett.mk fun y16 e16 => lett.mk fun y17 e17 => ?_
      intro hi
      rw [bit_i64 m i (by omega) (by omega)] at e14
      obtain ⟨t1, t2⟩ := then_may (m := m) hm hgi i (by rw [← e8]; exact hi)
      rw [← e17] at t1 t2
      refine ⟨fun h13 => ?_, fun h13 => ?_⟩
      · have hlt' := lt_of_y e13 h13
        have hx := hgi _ (mem_getD (0 : Int) (by rw [← e8]; exact hlt'))
        have e15 : y15 = (fGoes l k asking l.length).getD i 0 := e15
        rw [← e15] at hx
        have e16 : y16 = l.getD y15.toNat zeroC := e16
        refine ⟨⟨by omega, by omega⟩, by omega, fun h => ⟨⟨by omega, by omega⟩, ?_, ⟨by omega, by omega⟩, inR64 (by omega) (by omega), i + 1, by omega, by omega, by omega, ?_⟩, fun h => ⟨inR64 (by omega) (by omega), i + 1, by omega, by omega, by omega, ?_⟩⟩
        · rw [e16]; exact fClaim_iff.2 ((fMay_iff.1 hm).2 _ (mem_getD zeroC (by omega)))
        · show (bif m.testBit i then _ else _) = _
          rw [← e14, h, cond_true, ← e17, e16, e15]
        · show (bif m.testBit i then _ else _) = _
          rw [← e14, h, cond_false, ← e17]
      · have hle' := le_of_y e13 h13
        have hil : i = y8 := by omega
        refine ⟨t1, fun h => ?_, fun h => ⟨inR64 (by omega) (by omega), m + 1, ⟨by omega, by omega, range_succ_all m3 ?_⟩, by omega, by omega⟩⟩
        · unfold fGrant
          rw [range_no (s := m) (by rw [← e8]; omega), Bool.and_false]
          unfold fSafeAt
          rw [← e8, ← hil, ← e17]
          have : (m == 0) = false := beq_eq_false_iff_ne.2 (by omega)
          rw [this, Bool.false_or]
          simpa using h
        · unfold fSafeAt
          rw [← e8, ← hil, ← e17]
          have : (fOrder y17).isSome = true := by simpa using h
          rw [this, Bool.or_true]
    · rw [e10] at hge
      have hge := of_decide_eq_false hge
      have hmy : m = 2 ^ y8 := by omega
      unfold fGrant
      rw [hf, ← e8, ← hmy, m3]
      rfl

theorem ok20 : DOk Try.prog 20 c20 :=
  DOk.of' (l := [(18, c18), (39, c39), (31, c31), (24, c24), (17, c17)]) (A := a20) tabOk ⟨ok18, ok39, ok31, ok24, ok17, trivial⟩ Try.func20 (by kernel_rfl) (by kernel_rfl) fun x _ hp => b20 x.1 x.2.1 x.2.2.1 hp.1 hp.2

end Ytghpaejpccpgeaa
end Go.Proofs
