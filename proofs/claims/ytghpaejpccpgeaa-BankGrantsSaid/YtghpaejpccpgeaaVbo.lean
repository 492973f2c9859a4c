/-
  Who may go, as the reference says it, and that both are the same.
-/
import Derived.Test.YtghpaejpccpgeaaVbl
set_option maxRecDepth 100000
set_option linter.unusedVariables false
set_option linter.unusedSimpArgs false
set_option maxHeartbeats 1000000
namespace Go.Proofs
open Go Go.Vc
namespace Ytghpaejpccpgeaa

/-- The reference asks this of each who asks. -/
def fAsksR (l : List ClaimD) (a : Int) : Bool := bif (bif decide (0 ≤ a) then decide (a < l.length) else false) then decide (0 < (l.getD a.toNat zeroC).2.length) else false

theorem who_succ (l : List ClaimD) (k : Int) (asking : List Int) (s : Nat) : fWho l k asking (s + 1) = bif fAsksR l (asking.getD s 0) && !(fWho l k asking s).contains (asking.getD s 0) then fWho l k asking s ++ [asking.getD s 0] else fWho l k asking s := rfl

theorem asksR_in {l : List ClaimD} {a : Int} (h : fAsksR l a = true) : 0 ≤ a ∧ a < l.length ∧ 0 < (l.getD a.toNat zeroC).2.length := by
  unfold fAsksR at h
  cases h0 : decide (0 ≤ a) with
  | false => rw [h0] at h; cases h
  | true =>
    rw [h0, cond_true] at h
    cases h1 : decide (a < (l.length : Int)) with
    | false => rw [h1] at h; cases h
    | true =>
      rw [h1, cond_true] at h
      exact ⟨of_decide_eq_true h0, of_decide_eq_true h1, of_decide_eq_true h⟩

theorem asksR_of {l : List ClaimD} {a : Int} (h0 : 0 ≤ a) (h1 : a < l.length) (h2 : 0 < (l.getD a.toNat zeroC).2.length) : fAsksR l a = true := by
  unfold fAsksR
  rw [decide_eq_true h0, cond_true, decide_eq_true h1, cond_true, decide_eq_true h2]

theorem who_len (l : List ClaimD) (k : Int) (asking : List Int) : ∀ s, (fWho l k asking s).length ≤ s + 1
  | 0 => Nat.le_refl _
  | s + 1 => by
    have := who_len l k asking s
    rw [who_succ]
    cases fAsksR l (asking.getD s 0) && !(fWho l k asking s).contains (asking.getD s 0)
    · rw [cond_false]; omega
    · rw [cond_true, List.length_append]; show _ + 1 ≤ _; omega

theorem who_in {l : List ClaimD} {k : Int} {asking : List Int} (h : fFree l k = true) : ∀ s, ∀ x ∈ fWho l k asking s, 0 ≤ x ∧ x < l.length
  | 0 => fun x hx => by
    have : x = k := by simpa [fWho] using hx
    subst this
    exact free_in h
  | s + 1 => fun x hx => by
    rw [who_succ] at hx
    cases hc : fAsksR l (asking.getD s 0) && !(fWho l k asking s).contains (asking.getD s 0)
    · rw [hc, cond_false] at hx; exact who_in h s x hx
    · rw [hc, cond_true] at hx
      rcases List.mem_append.1 hx with hx | hx
      · exact who_in h s x hx
      · rw [Bool.and_eq_true] at hc
        have : x = asking.getD s 0 := by simpa using hx
        subst this
        have := asksR_in hc.1
        exact ⟨this.1, this.2.1⟩

theorem thenR_may {l : List ClaimD} {who : List Int} {m : Nat} (h : fMay l = true) (hg : ∀ x ∈ who, 0 ≤ x ∧ x < l.length) : ∀ s, s ≤ who.length → fMay (fThenR l who m s) = true ∧ (fThenR l who m s).length = l.length
  | 0, _ => ⟨h, rfl⟩
  | s + 1, hs => by
    obtain ⟨g1, g2⟩ := thenR_may (m := m) h hg s (by omega)
    have hx := hg _ (mem_getD (0 : Int) (show s < who.length by omega))
    unfold fThenR
    cases m.testBit s
    · exact ⟨g1, g2⟩
    · exact ⟨may_set' g1 (after_may ((fMay_iff.1 g1).2 _ (mem_getD zeroC (by omega)))) _, by simpa using g2⟩

theorem v21 (l : List (List Int × List (List Int × Int))) (k : Int) (asking : List Int) : bodyVC (ctxOf tab [(19, c19), (36, c36), (25, c25), (40, c40)]) Try.f21 c21 (a21 (l, k, asking, ())) (l, k, asking, ()) = (
fMay l = true ∧
((!fFree l k) = true → false = fGrantR l k asking ∧ True) ∧
((!fFree l k) = false →
(∃ (s03 : Nat),
s03 ≤ asking.length ∧
(↑s03 : Int) = (0 : Int) ∧ l = l ∧ asking = asking ∧ (↑asking.length : Int) = (↑asking.length : Int) ∧ fWho l k asking s03 = (List.replicate (1 : Nat) (0 : Int)).set (0 : Nat) k ∧ True) ∧
∀ (s3 : Nat),
lett (decide ((↑s3 : Int) < (↑asking.length : Int))) fun (y4 : Bool) =>
lett (asking.getD (↑s3 : Int).toNat (0 : Int)) fun (y5 : Int) =>
lett (bif decide (y5 ≥ (0 : Int)) then decide (y5 < (↑l.length : Int)) else false) fun (y6 : Bool) =>
lett (bif y6 then decide ((↑(l.getD y5.toNat ([], [])).snd.length : Int) > (0 : Int)) else false) fun (y7 : Bool) =>
lett (bif y7 then !(fWho l k asking s3).contains y5 else false) fun (y8 : Bool) =>
lett (fWho l k asking s3).length fun (y9 : Nat) =>
lett ((List.replicate (1 : Nat) (0 : Int)).set (0 : Nat) y5) fun (y10 : List Int) =>
lett (IntKind.i64.wrap ((1 : Int) * (2 : Int) ^ min (IntKind.u64.wrap (↑y9 : Int)).toNat IntKind.i64.bits)) fun (y11 : Int) =>
s3 ≤ asking.length →
(y4 = true →
InB (↑s3 : Int) asking.length ∧
(y6 = true → InB y5 l.length) ∧
(y7 = true → short (fWho l k asking s3)) ∧
(y8 = true →
roomFor (y9 + y10.length) (8 : Nat) ∧
InR IntKind.i64 ((↑s3 : Int) + (1 : Int)) ∧
∃ (s'12 : Nat),
s'12 ≤ asking.length ∧
asking.length - s'12 < asking.length - s3 ∧
(↑s'12 : Int) = (↑s3 : Int) + (1 : Int) ∧
l = l ∧ asking = asking ∧ (↑asking.length : Int) = (↑asking.length : Int) ∧ fWho l k asking s'12 = fWho l k asking s3 ++ y10 ∧ True) ∧
(y8 = false →
InR IntKind.i64 ((↑s3 : Int) + (1 : Int)) ∧
∃ (s'12 : Nat),
s'12 ≤ asking.length ∧
asking.length - s'12 < asking.length - s3 ∧
(↑s'12 : Int) = (↑s3 : Int) + (1 : Int) ∧
l = l ∧ asking = asking ∧ (↑asking.length : Int) = (↑asking.length : Int) ∧ fWho l k asking s'12 = fWho l k asking s3 ∧ True)) ∧
(y4 = false →
(∃ (s012 : Nat),
((1 : Nat) ≤ s012 ∧ s012 ≤ (2 : Nat) ^ y9 ∧ (List.range s012).all (fSafeAtR l (fWho l k asking s3)) = true) ∧
(↑s012 : Int) = (1 : Int) ∧ l = l ∧ fWho l k asking s3 = fWho l k asking s3 ∧ True) ∧
∀ (s12 : Nat),
(1 : Nat) ≤ s12 ∧ s12 ≤ (2 : Nat) ^ y9 ∧ (List.range s12).all (fSafeAtR l (fWho l k asking s3)) = true →
(0 : Int) ≤ IntKind.u64.wrap (↑y9 : Int) ∧
(decide ((↑s12 : Int) < y11) = true →
roomFor ((List.replicate (0 : Nat) (([], []) : List Int × List (List Int × Int))).length + l.length) (48 : Nat) ∧
(∃ (s013 : Nat),
s013 ≤ y9 ∧
(↑s013 : Int) = (0 : Int) ∧
l = l ∧
(↑s12 : Int) = (↑s12 : Int) ∧
(↑y9 : Int) = (↑y9 : Int) ∧
fThenR l (fWho l k asking s3) (↑s12 : Int).toNat s013 = List.replicate (0 : Nat) ([], []) ++ l ∧
fWho l k asking s3 = fWho l k asking s3 ∧ True) ∧
∀ (s13 : Nat),
lett (decide ((↑s13 : Int) < (↑y9 : Int))) fun (y14 : Bool) =>
lett
(bitsOf BinOp.and IntKind.i64 ((↑s12 : Int).fdiv ((2 : Int) ^ min (IntKind.u64.wrap (↑s13 : Int)).toNat IntKind.i64.bits)) (1 : Int) == (1 : Int))
fun (y15 : Bool) =>
lett ((fWho l k asking s3).getD (↑s13 : Int).toNat (0 : Int)) fun (y16 : Int) =>
lett (fThenR l (fWho l k asking s3) (↑s12 : Int).toNat s13) fun (y17 : List ClaimD) =>
lett (y17.getD y16.toNat ([], [])) fun (y18 : List Int × List (List Int × Int)) =>
s13 ≤ y9 →
(y14 = true →
InB (↑s13 : Int) y9 ∧
(0 : Int) ≤ IntKind.u64.wrap (↑s13 : Int) ∧
(y15 = true →
InB y16 y17.length ∧
fClaim y18 = true ∧
InB y16 y17.length ∧
InR IntKind.i64 ((↑s13 : Int) + (1 : Int)) ∧
∃ (s'19 : Nat),
s'19 ≤ y9 ∧
y9 - s'19 < y9 - s13 ∧
(↑s'19 : Int) = (↑s13 : Int) + (1 : Int) ∧
l = l ∧
(↑s12 : Int) = (↑s12 : Int) ∧
(↑y9 : Int) = (↑y9 : Int) ∧
fThenR l (fWho l k asking s3) (↑s12 : Int).toNat s'19 = y17.set y16.toNat (fAfter y18) ∧
fWho l k asking s3 = fWho l k asking s3 ∧ True) ∧
(y15 = false →
InR IntKind.i64 ((↑s13 : Int) + (1 : Int)) ∧
∃ (s'19 : Nat),
s'19 ≤ y9 ∧
y9 - s'19 < y9 - s13 ∧
(↑s'19 : Int) = (↑s13 : Int) + (1 : Int) ∧
l = l ∧
(↑s12 : Int) = (↑s12 : Int) ∧
(↑y9 : Int) = (↑y9 : Int) ∧
fThenR l (fWho l k asking s3) (↑s12 : Int).toNat s'19 = y17 ∧
fWho l k asking s3 = fWho l k asking s3 ∧ True)) ∧
(y14 = false →
fMay y17 = true ∧
((!(fOrder y17).isSome) = true → false = fGrantR l k asking ∧ True) ∧
((!(fOrder y17).isSome) = false →
InR IntKind.i64 ((↑s12 : Int) + (1 : Int)) ∧
∃ (s'19 : Nat),
((1 : Nat) ≤ s'19 ∧ s'19 ≤ (2 : Nat) ^ y9 ∧ (List.range s'19).all (fSafeAtR l (fWho l k asking s3)) = true) ∧
(2 : Nat) ^ y9 - s'19 < (2 : Nat) ^ y9 - s12 ∧
(↑s'19 : Int) = (↑s12 : Int) + (1 : Int) ∧ l = l ∧ fWho l k asking s3 = fWho l k asking s3 ∧ True))) ∧
(decide ((↑s12 : Int) < y11) = false → true = fGrantR l k asking ∧ True)))) := by kernel_rfl

theorem b21 (l : List ClaimD) (k : Int) (asking : List Int) (hm : fMay l = true) (ha : asking.length ≤ 20) :
    bodyVC (ctxOf tab [(19, c19), (36, c36), (25, c25), (40, c40)]) Try.f21 c21 (a21 (l, k, asking, ())) (l, k, asking, ()) := by
  have h8 : l.length ≤ 8 := (fMay_iff.1 hm).1
  rw [v21]
  simp only [true_and, and_true, Int.toNat_natCast]
  refine ⟨hm, fun h3 => ?_, fun h3 => ⟨⟨0, by omega, rfl, rfl⟩, fun s => ?_⟩⟩
  · have h3 := not_t h3
    unfold fGrantR
    rw [h3]
    rfl
  have hf := not_f h3
  refine lett.mk fun y4 e4 => lett.mk fun y5 e5 => lett.mk fun y6 e6 => lett.mk fun y7 e7 => lett.mk fun y8 e8 => lett.mk fun y9 e9 => lett.mk fun y10 e10 => lett.mk fun y11 e11 => ?_
  intro hs
  have e5 : y5 = asking.getD s 0 := e5
  have e10 : y10 = [y5] := e10
  have h7 : y7 = fAsksR l y5 := by
    have h : decide (((l.getD y5.toNat zeroC).2.length : Int) > (0 : Int)) = decide (0 < (l.getD y5.toNat zeroC).2.length) := decide_eq_decide.2 (by omega)
    have e7 : y7 = bif y6 then decide (((l.getD y5.toNat zeroC).2.length : Int) > (0 : Int)) else false := e7
    rw [h] at e7
    rw [e7, e6]
    rfl
  have h8' : y8 = (fAsksR l (asking.getD s 0) && !(fWho l k asking s).contains (asking.getD s 0)) := by
    rw [e8, h7, e5]
    cases fAsksR l (asking.getD s 0) <;> rfl
  have hwl := who_len l k asking s
  have hsu := who_succ l k asking s
  rw [← h8', ← e5] at hsu
  refine ⟨fun h4 => ?_, fun h4 => ?_⟩
  · have hlt := lt_of_y e4 h4
    refine ⟨⟨by omega, by omega⟩, fun h6 => ?_, fun _ => ?_, fun h => ?_, fun h => ?_⟩
    · rw [e6] at h6
      cases h0 : decide (y5 ≥ (0 : Int)) with
      | false => rw [h0] at h6; cases h6
      | true =>
        rw [h0, cond_true] at h6
        exact ⟨of_decide_eq_true h0, of_decide_eq_true h6⟩
    · show _ ≤ 1000000; omega
    · rw [h, cond_true] at hsu
      exact ⟨room (by rw [e10]; simp; omega) (by omega), inR64 (by omega) (by omega), s + 1, by omega, by omega, by omega, by rw [hsu, e10]⟩
    · rw [h, cond_false] at hsu
      exact ⟨inR64 (by omega) (by omega), s + 1, by omega, by omega, by omega, hsu⟩
  · have hle := le_of_y e4 h4
    have hsl : s = asking.length := by omega
    subst hsl
    have hgi := who_in (asking := asking) hf asking.length
    rw [u64_nat y9 (by omega), Int.toNat_natCast, pow_i64 y9 (by omega)] at e11
    have hpow := pow_le40 (y := y9) (by omega)
    have hpos : 1 ≤ 2 ^ y9 := Nat.one_le_two_pow
    refine ⟨⟨1, ⟨Nat.le_refl _, hpos, ?_⟩, rfl⟩, fun m => ?_⟩
    · rfl
    rintro ⟨m1, m2, m3⟩
    rw [u64_nat y9 (by omega)]
    refine ⟨by omega, fun hlt => ?_, fun hge => ?_⟩
    · rw [e11] at hlt
      have hlt := of_decide_eq_true hlt
      refine ⟨room (by simp; omega) (by omega), ⟨0, by omega, rfl, rfl⟩, fun i => ?_⟩
      refine lett.mk fun y14 e14 => lett.mk fun y15 e15 => lett.mk fun y16 e16 => lett.mk fun y17 e17 => lett.mk fun y18 e18 => ?_
      intro hi
      rw [u64_nat i (by omega)] at e15 ⊢
      rw [Int.toNat_natCast, bit_i64 m i (by omega) (by omega)] at e15
      obtain ⟨t1, t2⟩ := thenR_may (m := m) hm hgi i (by rw [← e9]; exact hi)
      rw [← e17] at t1 t2
      refine ⟨fun h13 => ?_, fun h13 => ?_⟩
      · have hlt' := lt_of_y e14 h13
        have hx := hgi _ (mem_getD (0 : Int) (by rw [← e9]; exact hlt'))
        have e16 : y16 = (fWho l k asking asking.length).getD i 0 := e16
        rw [← e16] at hx
        have e18 : y18 = y17.getD y16.toNat zeroC := e18
        refine ⟨⟨by omega, by omega⟩, by omega, fun h => ⟨⟨by omega, by omega⟩, ?_, ⟨by omega, by omega⟩, inR64 (by omega) (by omega), i + 1, by omega, by omega, by omega, ?_⟩, fun h => ⟨inR64 (by omega) (by omega), i + 1, by omega, by omega, by omega, ?_⟩⟩
        · rw [e18]; exact fClaim_iff.2 ((fMay_iff.1 t1).2 _ (mem_getD zeroC (by omega)))
        · show (bif m.testBit i then _ else _) = _
          rw [← e15, h, cond_true, ← e17, e18, e16]
        · show (bif m.testBit i then _ else _) = _
          rw [← e15, h, cond_false, ← e17]
      · have hle' := le_of_y e14 h13
        have hil : i = y9 := by omega
        refine ⟨t1, fun h => ?_, fun h => ⟨inR64 (by omega) (by omega), m + 1, ⟨by omega, by omega, range_succ_all m3 ?_⟩, by omega, by omega⟩⟩
        · unfold fGrantR
          rw [range_no (s := m) (by rw [← e9]; omega), Bool.and_false]
          unfold fSafeAtR
          rw [← e9, ← hil, ← e17]
          have : (m == 0) = false := beq_eq_false_iff_ne.2 (by omega)
          rw [this, Bool.false_or]
          simpa using h
        · unfold fSafeAtR
          rw [← e9, ← hil, ← e17]
          have : (fOrder y17).isSome = true := by simpa using h
          rw [this, Bool.or_true]
    · rw [e11] at hge
      have hge := of_decide_eq_false hge
      have hmy : m = 2 ^ y9 := by omega
      unfold fGrantR
      rw [hf, ← e9, ← hmy, m3]
      rfl

theorem ok21 : DOk Try.prog 21 c21 :=
  DOk.of' (l := [(19, c19), (36, c36), (25, c25), (40, c40)]) (A := a21) tabOk ⟨ok19, ok36, ok25, ok40, trivial⟩ Try.func21 (by kernel_rfl) (by kernel_rfl) fun x _ hp => b21 x.1 x.2.1 x.2.2.1 hp.1 hp.2

/-! ### Both are the same -/

theorem who_nodup (l : List ClaimD) (k : Int) (asking : List Int) : ∀ s, (fWho l k asking s).Nodup
  | 0 => by simp [fWho]
  | s + 1 => by
    rw [who_succ]
    cases hc : fAsksR l (asking.getD s 0) && !(fWho l k asking s).contains (asking.getD s 0)
    · exact who_nodup l k asking s
    · rw [Bool.and_eq_true] at hc
      have hn : asking.getD s 0 ∉ fWho l k asking s := fun h => by
        have := hc.2
        rw [List.contains_iff_mem.2 h] at this
        cases this
      rw [cond_true, List.nodup_append]
      refine ⟨who_nodup l k asking s, by simp, fun a ha b hb => ?_⟩
      have : b = asking.getD s 0 := by simpa using hb
      subst this
      exact fun e => hn (e ▸ ha)

theorem who_mem (l : List ClaimD) (k : Int) (asking : List Int) (x : Int) : ∀ s, s ≤ asking.length → (x ∈ fWho l k asking s ↔ x = k ∨ (fAsksR l x = true ∧ x ∈ asking.take s))
  | 0, _ => by simp [fWho]
  | s + 1, h => by
    have ih := who_mem l k asking x s (by omega)
    rw [who_succ, take_succ' 0 (show s < asking.length by omega), List.mem_append, List.mem_singleton]
    cases hc : fAsksR l (asking.getD s 0) && !(fWho l k asking s).contains (asking.getD s 0)
    · rw [cond_false, ih]
      constructor
      · rintro (h | ⟨h1, h2⟩)
        · exact .inl h
        · exact .inr ⟨h1, .inl h2⟩
      · rintro (h | ⟨h1, h2 | h2⟩)
        · exact .inl h
        · exact .inr ⟨h1, h2⟩
        · subst h2
          rw [h1, Bool.true_and] at hc
          have : (fWho l k asking s).contains (asking.getD s 0) = true := not_f hc
          exact ih.1 (List.contains_iff_mem.1 this)
    · rw [Bool.and_eq_true] at hc
      rw [cond_true, List.mem_append, List.mem_singleton, ih]
      constructor
      · rintro ((h | ⟨h1, h2⟩) | h)
        · exact .inl h
        · exact .inr ⟨h1, .inl h2⟩
        · subst h; exact .inr ⟨hc.1, .inr rfl⟩
      · rintro (h | ⟨h1, h2 | h2⟩)
        · exact .inl (.inl h)
        · exact .inl (.inr ⟨h1, h2⟩)
        · exact .inr h2

theorem goes_mem (l : List ClaimD) (k : Int) (asking : List Int) (x : Int) : x ∈ fGoes l k asking l.length ↔ x = k ∨ (fAsksR l x = true ∧ x ∈ asking) := by
  unfold fGoes
  rw [List.mem_cons, List.mem_map]
  constructor
  · rintro (h | ⟨i, hi, rfl⟩)
    · exact .inl h
    · obtain ⟨h1, h2⟩ := List.mem_filter.1 hi
      have h1 := List.mem_range.1 h1
      unfold fAskd at h2
      simp only [Bool.and_eq_true, decide_eq_true_eq] at h2
      exact .inr ⟨asksR_of (by omega) (by omega) (by rw [Int.toNat_natCast]; exact h2.2.1), List.contains_iff_mem.1 h2.2.2⟩
  · rintro (h | ⟨h1, h2⟩)
    · exact .inl h
    · by_cases hk : x = k
      · exact .inl hk
      · obtain ⟨g0, g1, g2⟩ := asksR_in h1
        refine .inr ⟨x.toNat, List.mem_filter.2 ⟨List.mem_range.2 (by omega), ?_⟩, by omega⟩
        unfold fAskd
        rw [Int.toNat_of_nonneg g0, bne_iff_ne.2 hk, decide_eq_true g2, List.contains_iff_mem.2 h2]
        rfl

/-- Is he among those of number m? -/
def sel (goes : List Int) (m s : Nat) (i : Nat) : Bool := (List.range s).any fun j => m.testBit j && goes.getD j 0 == (i : Int)

theorem sel_succ (goes : List Int) (m s i : Nat) : sel goes m (s + 1) i = (sel goes m s i || (m.testBit s && goes.getD s 0 == (i : Int))) := by
  unfold sel
  rw [List.range_succ, List.any_append]
  simp

theorem then_at {l : List ClaimD} {goes : List Int} {m : Nat} (hg : ∀ x ∈ goes, 0 ≤ x ∧ x < l.length) : ∀ s, s ≤ goes.length → (fThen l goes m s).length = l.length ∧ ∀ i, i < l.length → (fThen l goes m s).getD i zeroC = bif sel goes m s i then fAfter (l.getD i zeroC) else l.getD i zeroC
  | 0, _ => ⟨rfl, fun i hi => rfl⟩
  | s + 1, hs => by
    obtain ⟨g1, g2⟩ := then_at (m := m) hg s (by omega)
    have hx := hg _ (mem_getD (0 : Int) (show s < goes.length by omega))
    unfold fThen
    cases hb : m.testBit s with
    | false =>
      refine ⟨g1, fun i hi => ?_⟩
      rw [cond_false, sel_succ, hb, Bool.false_and, Bool.or_false]
      exact g2 i hi
    | true =>
      refine ⟨by simpa using g1, fun i hi => ?_⟩
      rw [cond_true, sel_succ, hb, Bool.true_and]
      by_cases e : (goes.getD s 0).toNat = i
      · have : (goes.getD s 0 == (i : Int)) = true := beq_iff_eq.2 (by omega)
        rw [this, Bool.or_true, cond_true, e]
        simp [List.getD_eq_getElem?_getD, g1, hi]
      · have : (goes.getD s 0 == (i : Int)) = false := beq_eq_false_iff_ne.2 (by omega)
        rw [this, Bool.or_false, ← g2 i hi]
        rw [List.getD_eq_getElem?_getD, List.getElem?_set_ne e, ← List.getD_eq_getElem?_getD]

theorem thenR_at {l : List ClaimD} {who : List Int} {m : Nat} (hd : who.Nodup) (hg : ∀ x ∈ who, 0 ≤ x ∧ x < l.length) : ∀ s, s ≤ who.length → (fThenR l who m s).length = l.length ∧ ∀ i, i < l.length → (fThenR l who m s).getD i zeroC = bif sel who m s i then fAfter (l.getD i zeroC) else l.getD i zeroC
  | 0, _ => ⟨rfl, fun i hi => rfl⟩
  | s + 1, hs => by
    obtain ⟨g1, g2⟩ := thenR_at (m := m) hd hg s (by omega)
    have hx := hg _ (mem_getD (0 : Int) (show s < who.length by omega))
    unfold fThenR
    cases hb : m.testBit s with
    | false =>
      refine ⟨g1, fun i hi => ?_⟩
      rw [cond_false, sel_succ, hb, Bool.false_and, Bool.or_false]
      exact g2 i hi
    | true =>
      refine ⟨by simpa using g1, fun i hi => ?_⟩
      rw [cond_true, sel_succ, hb, Bool.true_and]
      by_cases e : (who.getD s 0).toNat = i
      · have : (who.getD s 0 == (i : Int)) = true := beq_iff_eq.2 (by omega)
        have hno : sel who m s i = false := by
          unfold sel
          rw [List.any_eq_false]
          intro j hj
          have hj := List.mem_range.1 hj
          have hne : who.getD j 0 ≠ who.getD s 0 := by
            rw [getD_at 0 (show j < who.length by omega), getD_at 0 (show s < who.length by omega)]
            intro e'
            have := (List.getElem_inj hd).1 e'
            omega
          have : (who.getD j 0 == (i : Int)) = false := beq_eq_false_iff_ne.2 (by omega)
          rw [this, Bool.and_false]
          exact Bool.false_ne_true
        have g3 := g2 i hi
        rw [hno, cond_false] at g3
        rw [this, Bool.or_true, cond_true, e, ← g3]
        simp [List.getD_eq_getElem?_getD, g1, hi]
      · have : (who.getD s 0 == (i : Int)) = false := beq_eq_false_iff_ne.2 (by omega)
        rw [this, Bool.or_false, ← g2 i hi]
        rw [List.getD_eq_getElem?_getD, List.getElem?_set_ne e, ← List.getD_eq_getElem?_getD]

/-- Each choice has a number. -/
theorem number (p : Nat → Bool) : ∀ n, ∃ m, m < 2 ^ n ∧ ∀ s, s < n → m.testBit s = p s
  | 0 => ⟨0, by simp, fun s hs => by omega⟩
  | n + 1 => by
    obtain ⟨m, h1, h2⟩ := number p n
    cases hp : p n with
    | false =>
      refine ⟨m, by rw [Nat.pow_succ]; omega, fun s hs => ?_⟩
      by_cases e : s = n
      · subst e; rw [hp]; exact Nat.testBit_lt_two_pow h1
      · exact h2 s (by omega)
    | true =>
      refine ⟨2 ^ n + m, by rw [Nat.pow_succ]; omega, fun s hs => ?_⟩
      by_cases e : s = n
      · subst e
        rw [Nat.testBit_two_pow_add_eq, Nat.testBit_lt_two_pow h1, hp]
        rfl
      · rw [Nat.testBit_two_pow_add_gt (by omega)]
        exact h2 s (by omega)

theorem sel_true {goes : List Int} {m s i : Nat} : sel goes m s i = true ↔ ∃ j, j < s ∧ m.testBit j = true ∧ goes.getD j 0 = (i : Int) := by
  unfold sel
  rw [List.any_eq_true]
  constructor
  · rintro ⟨j, hj, h⟩
    rw [Bool.and_eq_true, beq_iff_eq] at h
    exact ⟨j, List.mem_range.1 hj, h⟩
  · rintro ⟨j, hj, h1, h2⟩
    exact ⟨j, List.mem_range.2 hj, by rw [h1, h2, beq_self_eq_true]; rfl⟩

/-- A choice of the one list is a choice of the other. -/
theorem choice {g h : List Int} (hgh : ∀ x, x ∈ g ↔ x ∈ h) {m : Nat} (hg0 : ∀ x ∈ g, 0 ≤ x) (hm0 : m ≠ 0) (hm : m < 2 ^ g.length) : ∃ m', m' ≠ 0 ∧ m' < 2 ^ h.length ∧ ∀ i, sel h m' h.length i = sel g m g.length i := by
  obtain ⟨m', h1, h2⟩ := number (fun s => sel g m g.length (h.getD s 0).toNat) h.length
  have key : ∀ i, sel h m' h.length i = sel g m g.length i := fun i => by
    rw [Bool.eq_iff_iff, sel_true]
    constructor
    · rintro ⟨j, hj, hb, hv⟩
      rw [h2 j hj, hv, Int.toNat_natCast] at hb
      exact hb
    · intro hs
      obtain ⟨j, hj, hb, hv⟩ := sel_true.1 hs
      have hx : (i : Int) ∈ h := (hgh _).1 (hv ▸ mem_getD 0 hj)
      obtain ⟨j', hj', hv'⟩ := List.mem_iff_getElem.1 hx
      have hv' : h.getD j' 0 = (i : Int) := by rw [getD_at 0 hj']; exact hv'
      exact ⟨j', hj', by rw [h2 j' hj', hv', Int.toNat_natCast]; exact hs, hv'⟩
  refine ⟨m', fun e => ?_, h1, key⟩
  obtain ⟨j, hj⟩ := Nat.exists_testBit_of_ne_zero hm0
  have hjl : j < g.length := by
    rcases Nat.lt_or_ge j g.length with h | h
    · exact h
    · rw [Nat.testBit_lt_two_pow (Nat.lt_of_lt_of_le hm (Nat.pow_le_pow_right (by omega) h))] at hj
      cases hj
  have hx := hg0 _ (mem_getD 0 hjl)
  have := key (g.getD j 0).toNat
  rw [sel_true.2 ⟨j, hjl, hj, by omega⟩, e] at this
  obtain ⟨_, _, hb, _⟩ := sel_true.1 this
  simp at hb

theorem list_same {a b : List ClaimD} (h : a.length = b.length) (h' : ∀ i, i < a.length → a.getD i zeroC = b.getD i zeroC) : a = b := by
  refine List.ext_getElem h fun i h1 h2 => ?_
  rw [← getD_at zeroC h1, ← getD_at zeroC h2]
  exact h' i h1

theorem grant_same (l : List ClaimD) (k : Int) (asking : List Int) : fGrant l k asking = fGrantR l k asking := by
  unfold fGrant fGrantR
  cases hf : fFree l k with
  | false => rfl
  | true =>
    rw [Bool.true_and, Bool.true_and]
    have hgi := goes_in (asking := asking) hf (Nat.le_refl l.length)
    have hwi := who_in (asking := asking) hf asking.length
    have hnd := who_nodup l k asking asking.length
    have hmem : ∀ x, x ∈ fGoes l k asking l.length ↔ x ∈ fWho l k asking asking.length := fun x => by
      rw [goes_mem, who_mem _ _ _ _ _ (Nat.le_refl _), List.take_length]
    revert hgi hwi hnd hmem
    generalize fGoes l k asking l.length = g
    generalize fWho l k asking asking.length = h
    intro hgi hwi hnd hmem
    have eq : ∀ m m', (∀ i, sel h m' h.length i = sel g m g.length i) → fThen l g m g.length = fThenR l h m' h.length := fun m m' hs => by
      obtain ⟨p1, p2⟩ := then_at (m := m) hgi g.length (Nat.le_refl _)
      obtain ⟨q1, q2⟩ := thenR_at (m := m') hnd hwi h.length (Nat.le_refl _)
      exact list_same (p1.trans q1.symm) fun i hi => by rw [p2 i (by omega), q2 i (by omega), hs]
    rw [Bool.eq_iff_iff, List.all_eq_true, List.all_eq_true]
    constructor
    · intro H m' hm'
      have hm' := List.mem_range.1 hm'
      unfold fSafeAtR
      by_cases h0 : m' = 0
      · subst h0; rfl
      · obtain ⟨m, n0, n1, n2⟩ := choice (fun x => (hmem x).symm) (fun x hx => (hwi x hx).1) h0 hm'
        have := H m (List.mem_range.2 n1)
        unfold fSafeAt at this
        rw [beq_eq_false_iff_ne.2 n0, Bool.false_or, eq m m' fun i => (n2 i).symm] at this
        rw [this, Bool.or_true]
    · intro H m hm
      have hm := List.mem_range.1 hm
      unfold fSafeAt
      by_cases h0 : m = 0
      · subst h0; rfl
      · obtain ⟨m', n0, n1, n2⟩ := choice hmem (fun x hx => (hgi x hx).1) h0 hm
        have := H m' (List.mem_range.2 n1)
        unfold fSafeAtR at this
        rw [beq_eq_false_iff_ne.2 n0, Bool.false_or, ← eq m m' n2] at this
        rw [this, Bool.or_true]

theorem v4 (l : List (List Int × List (List Int × Int))) (k : Int) (asking : List Int) : bodyVC (ctxOf tab [(10, c10), (11, c11), (13, c13), (20, c20), (21, c21)]) Try.f4 c4 noAnn (l, k, asking, ()) = (
lett (bif !fAsked l then true else decide ((↑asking.length : Int) > (20 : Int))) fun (y3 : Bool) =>
lett (bif y3 then true else !fMay l) fun (y4 : Bool) =>
True ∧
((!true) = true → false = true ∧ True) ∧
((!true) = false →
True ∧
(y3 = false → shortL l) ∧
(y4 = true → true = true ∧ True) ∧ (y4 = false → (fMay l = true ∧ short asking) ∧ (fMay l = true ∧ asking.length ≤ (20 : Nat)) ∧ (fGrant l k asking == fGrantR l k asking) = true ∧ True))) := by kernel_rfl

theorem b4 (l : List ClaimD) (k : Int) (asking : List Int) : bodyVC (ctxOf tab [(10, c10), (11, c11), (13, c13), (20, c20), (21, c21)]) Try.f4 c4 noAnn (l, k, asking, ()) := by
  rw [v4]
  refine lett.mk fun y3 e3 => lett.mk fun y4 e4 => ⟨trivial, (fun h => by cases h), fun _ => ⟨trivial, fun h3 => ?_, fun _ => ⟨rfl, trivial⟩, fun h4 => ?_⟩⟩
  · cases ha : fAsked l with
    | false => rw [e3, ha] at h3; cases h3
    | true => exact asked_short ha
  · have h3 : y3 = false := by
      cases h : y3 with
      | false => rfl
      | true => rw [e4, h] at h4; cases h4
    have hm : fMay l = true := by
      rw [e4, h3] at h4
      exact not_f h4
    have ha : asking.length ≤ 20 := by
      cases ha : fAsked l with
      | false => rw [e3, ha] at h3; cases h3
      | true =>
        rw [e3, ha] at h3
        have := of_decide_eq_false h3
        omega
    exact ⟨⟨hm, by show asking.length ≤ 1000000; omega⟩, ⟨hm, ha⟩, by rw [grant_same, beq_self_eq_true], trivial⟩

theorem ok4 : DOk Try.prog 4 c4 :=
  DOk.of' (l := [(10, c10), (11, c11), (13, c13), (20, c20), (21, c21)]) (A := fun _ => noAnn) tabOk ⟨ok10', ok11, ok13, ok20, ok21, trivial⟩ Try.func4 (by kernel_rfl) (by kernel_rfl) fun x _ hp => b4 x.1 x.2.1 x.2.2.1

end Ytghpaejpccpgeaa
end Go.Proofs
