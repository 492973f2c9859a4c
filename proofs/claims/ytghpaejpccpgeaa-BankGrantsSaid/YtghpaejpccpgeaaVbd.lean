/-
  The bank's sets, and what is clear: written out and proved.
-/
import Derived.Test.YtghpaejpccpgeaaVbc
set_option maxRecDepth 100000
set_option linter.unusedVariables false
set_option linter.unusedSimpArgs false
set_option maxHeartbeats 1000000
namespace Go.Proofs
open Go Go.Vc
namespace Ytghpaejpccpgeaa

/-! ### Sets as bits -/

theorem or64 (a b : Nat) (ha : a < 2 ^ 40) (hb : b < 2 ^ 40) : bitsOf .or .u64 (a : Int) (b : Int) = ((a ||| b : Nat) : Int) := by
  unfold bitsOf
  show IntKind.u64.wrap (((BitVec.ofInt 64 (a : Int) ||| BitVec.ofInt 64 (b : Int)).toNat : Nat) : Int) = _
  rw [BitVec.ofInt_natCast, BitVec.ofInt_natCast, BitVec.toNat_or, BitVec.toNat_ofNat, BitVec.toNat_ofNat, Nat.mod_eq_of_lt (by omega), Nat.mod_eq_of_lt (by omega)]
  have := Nat.or_lt_two_pow ha hb
  exact IntWalk.u64_in _ (by omega)

theorem and64 (a b : Nat) (ha : a < 2 ^ 40) (hb : b < 2 ^ 40) : bitsOf .and .u64 (a : Int) (b : Int) = ((a &&& b : Nat) : Int) := by
  unfold bitsOf
  show IntKind.u64.wrap (((BitVec.ofInt 64 (a : Int) &&& BitVec.ofInt 64 (b : Int)).toNat : Nat) : Int) = _
  rw [BitVec.ofInt_natCast, BitVec.ofInt_natCast, BitVec.toNat_and, BitVec.toNat_ofNat, BitVec.toNat_ofNat, Nat.mod_eq_of_lt (by omega), Nat.mod_eq_of_lt (by omega)]
  have := Nat.and_lt_two_pow a hb
  exact IntWalk.u64_in _ (by omega)

def ofStep (s : Nat) (x : Int) : Nat := bif fEl x then s ||| 1 <<< x.toNat else s

theorem fEl_iff {x : Int} : fEl x = true ↔ 0 ≤ x ∧ x ≤ 39 := by simp [fEl, fIn]

theorem bit_lt {x : Nat} (h : x ≤ 39) : 1 <<< x < 2 ^ 40 := by
  rw [Nat.one_shiftLeft]
  exact Nat.pow_lt_pow_right (by omega) (by omega)

theorem ofStep_lt {s : Nat} (x : Int) (h : s < 2 ^ 40) : ofStep s x < 2 ^ 40 := by
  unfold ofStep
  cases hx : fEl x
  · exact h
  · have := fEl_iff.1 hx
    exact Nat.or_lt_two_pow h (bit_lt (by omega))

theorem fOf_eq (l : List Int) : fOf l = l.foldl ofStep 0 := rfl

theorem fold_lt : ∀ (l : List Int) (s : Nat), s < 2 ^ 40 → l.foldl ofStep s < 2 ^ 40
  | [], s, h => h
  | x :: l, s, h => fold_lt l _ (ofStep_lt x h)

theorem fOf_lt (l : List Int) : fOf l < 2 ^ 40 := fold_lt l 0 (by omega)

theorem fOfUp_succ {l : List Int} {s : Nat} (h : s < l.length) : fOfUp l (s + 1) = ofStep (fOfUp l s) (l.getD s 0) := by
  unfold fOfUp
  rw [take_succ' 0 h, fOf_eq, fOf_eq, List.foldl_append]
  rfl

theorem ofStep_bit (s : Nat) (x : Int) (i : Nat) : (ofStep s x).testBit i = (s.testBit i || (fEl x && decide (x = (i : Int)))) := by
  unfold ofStep
  cases hx : fEl x
  · simp
  · have := fEl_iff.1 hx
    simp only [cond_true, Nat.testBit_or, Nat.one_shiftLeft, Nat.testBit_two_pow, Bool.true_and]
    congr 1
    exact decide_eq_decide.2 (by omega)

theorem fold_bit (i : Nat) : ∀ (l : List Int) (s : Nat), (l.foldl ofStep s).testBit i = (s.testBit i || l.any fun x => fEl x && decide (x = (i : Int)))
  | [], s => by simp
  | x :: l, s => by
    rw [List.foldl_cons, fold_bit i l, ofStep_bit, List.any_cons, Bool.or_assoc]

theorem fOf_bit (l : List Int) (i : Nat) : (fOf l).testBit i = true ↔ i ≤ 39 ∧ (i : Int) ∈ l := by
  rw [fOf_eq, fold_bit]
  simp only [Nat.zero_testBit, Bool.false_or, List.any_eq_true, Bool.and_eq_true, decide_eq_true_eq, fEl_iff]
  constructor
  · rintro ⟨x, h1, h2, rfl⟩
    exact ⟨by omega, h1⟩
  · rintro ⟨h1, h2⟩
    exact ⟨_, h2, by omega, rfl⟩

theorem el_key (n : Int) : (bif decide (n ≥ 0) then decide (n < 40) else false) = fEl n := by
  unfold fEl fIn
  by_cases h1 : 0 ≤ n
  · by_cases h2 : n ≤ 39
    · have : n < 40 := by omega
      simp [*]
    · have : ¬ n < 40 := by omega
      simp [*]
  · simp [h1]

theorem u64_nat (c : Nat) (h : c < 2 ^ 40) : IntKind.u64.wrap (c : Int) = c := IntWalk.u64_in _ (by omega)

theorem u64_bit {x : Int} (h : 0 ≤ x ∧ x ≤ 39) : IntKind.u64.wrap ((1 : Int) * (2 : Int) ^ min x.toNat IntKind.u64.bits) = ((1 <<< x.toNat : Nat) : Int) := by
  have hm : min x.toNat IntKind.u64.bits = x.toNat := Nat.min_eq_left (by show x.toNat ≤ 64; omega)
  have hb := bit_lt (x := x.toNat) (by omega)
  rw [hm, Int.one_mul, Nat.one_shiftLeft]
  rw [Nat.one_shiftLeft] at hb
  have : ((2 : Int) ^ x.toNat) = ((2 ^ x.toNat : Nat) : Int) := by simp
  rw [this]
  exact u64_nat _ hb

theorem v37 (l : List Int) : bodyVC (ctxOf tab []) Try.f37 c37 (a37 (l, ())) (l, ()) = (
(∃ (s01 : Nat), s01 ≤ l.length ∧ (↑(fOfUp l s01) : Int) = (0 : Int) ∧ (↑s01 : Int) = (0 : Int) ∧ l = l ∧ (↑l.length : Int) = (↑l.length : Int) ∧ True) ∧
∀ (s1 : Nat),
lett (decide ((↑s1 : Int) < (↑l.length : Int))) fun (y2 : Bool) =>
lett (l.getD (↑s1 : Int).toNat (0 : Int)) fun (y3 : Int) =>
lett (bif decide (y3 ≥ (0 : Int)) then decide (y3 < (40 : Int)) else false) fun (y4 : Bool) =>
s1 ≤ l.length →
(y2 = true →
InB (↑s1 : Int) l.length ∧
(y4 = true → (0 : Int) ≤ y3) ∧
InR IntKind.i64 ((↑s1 : Int) + (1 : Int)) ∧
∃ (s'5 : Nat),
s'5 ≤ l.length ∧
l.length - s'5 < l.length - s1 ∧
((↑(fOfUp l s'5) : Int) =
bif y4 then bitsOf BinOp.or IntKind.u64 (↑(fOfUp l s1) : Int) (IntKind.u64.wrap ((1 : Int) * (2 : Int) ^ min y3.toNat IntKind.u64.bits)) else (↑(fOfUp l s1) : Int)) ∧
(↑s'5 : Int) = (↑s1 : Int) + (1 : Int) ∧ l = l ∧ (↑l.length : Int) = (↑l.length : Int) ∧ True) ∧
(y2 = false → (↑(fOfUp l s1) : Int) = (↑(fOf l) : Int) ∧ True)) := by kernel_rfl

theorem ok37 : DOk Try.prog 37 c37 :=
  DOk.of' (l := []) (A := a37) tabOk trivial Try.func37 (by kernel_rfl) (by kernel_rfl) fun x _ hp => by
    obtain ⟨l, ⟨⟩⟩ := x
    have hp : l.length ≤ 1000000 := hp
    rw [v37]
    simp only [true_and, and_true]
    refine ⟨⟨0, by omega, rfl, rfl⟩, fun s => lett.mk fun y2 e2 => lett.mk fun y3 e3 => lett.mk fun y4 e4 => fun h => ⟨fun hs => ?_, fun hs => ?_⟩⟩
    · have hs := lt_of_y e2 hs
      rw [Int.toNat_natCast] at e3
      have hy : y4 = fEl y3 := by rw [e4]; exact el_key y3
      refine ⟨⟨by omega, by omega⟩, fun h4 => ?_, inR64 (by omega) (by omega), s + 1, by omega, by omega, ?_, by omega⟩
      · rw [hy] at h4
        exact (fEl_iff.1 h4).1
      · rw [fOfUp_succ hs, ← e3, hy]
        unfold ofStep
        cases hf : fEl y3
        · rfl
        · have h3 := fEl_iff.1 hf
          simp only [cond_true]
          rw [u64_bit h3, or64 (fOfUp l s) (1 <<< y3.toNat) (fOf_lt _) (bit_lt (by omega))]
    · have hs := le_of_y e2 hs
      unfold fOfUp
      rw [List.take_of_length_le hs]

theorem others_lt (l : List ClaimD) (k : Int) : ∀ s, fOthersUp l k s < 2 ^ 40
  | 0 => by show 0 < _; omega
  | s + 1 => by
    unfold fOthersUp
    cases (s : Int) != k
    · exact others_lt l k s
    · exact Nat.or_lt_two_pow (others_lt l k s) (fOf_lt _)

theorem others_bit (l : List ClaimD) (k : Int) (i : Nat) : ∀ s, (fOthersUp l k s).testBit i = true ↔ i ≤ 39 ∧ ∃ j, j < s ∧ (j : Int) ≠ k ∧ (i : Int) ∈ (l.getD j zeroC).1
  | 0 => by simp [fOthersUp]
  | s + 1 => by
    unfold fOthersUp
    have ih := others_bit l k i s
    cases hk : (s : Int) != k
    · simp only [cond_false]
      rw [ih]
      have hk : (s : Int) = k := by simpa using hk
      constructor
      · rintro ⟨h, j, h1, h2, h3⟩; exact ⟨h, j, by omega, h2, h3⟩
      · rintro ⟨h, j, h1, h2, h3⟩; exact ⟨h, j, by omega, h2, h3⟩
    · simp only [cond_true, Nat.testBit_or, Bool.or_eq_true]
      rw [ih, fOf_bit]
      have hk : (s : Int) ≠ k := by simpa using hk
      constructor
      · rintro (⟨h, j, h1, h2, h3⟩ | ⟨h, h1⟩)
        · exact ⟨h, j, by omega, h2, h3⟩
        · exact ⟨h, s, by omega, hk, h1⟩
      · rintro ⟨h, j, h1, h2, h3⟩
        by_cases hj : j = s
        · subst hj; exact .inr ⟨h, h3⟩
        · exact .inl ⟨h, j, by omega, h2, h3⟩

theorem v34 (l : List (List Int × List (List Int × Int))) (k : Int) : bodyVC (ctxOf tab [(37, c37)]) Try.f34 c34 (a34 (l, k, ())) (l, k, ()) = (
(∃ (s02 : Nat), s02 ≤ l.length ∧ (↑(fOthersUp l k s02) : Int) = (0 : Int) ∧ (↑s02 : Int) = (0 : Int) ∧ k = k ∧ l = l ∧ (↑l.length : Int) = (↑l.length : Int) ∧ True) ∧
∀ (s2 : Nat),
lett (decide ((↑s2 : Int) < (↑l.length : Int))) fun (y3 : Bool) =>
lett (l.getD (↑s2 : Int).toNat ([], [])).fst fun (y4 : List Int) =>
s2 ≤ l.length →
(y3 = true →
InB (↑s2 : Int) l.length ∧
(((↑s2 : Int) != k) = true → short y4) ∧
InR IntKind.i64 ((↑s2 : Int) + (1 : Int)) ∧
∃ (s'5 : Nat),
s'5 ≤ l.length ∧
l.length - s'5 < l.length - s2 ∧
((↑(fOthersUp l k s'5) : Int) = bif (↑s2 : Int) != k then bitsOf BinOp.or IntKind.u64 (↑(fOthersUp l k s2) : Int) (↑(fOf y4) : Int) else (↑(fOthersUp l k s2) : Int)) ∧
(↑s'5 : Int) = (↑s2 : Int) + (1 : Int) ∧ k = k ∧ l = l ∧ (↑l.length : Int) = (↑l.length : Int) ∧ True) ∧
(y3 = false → (↑(fOthersUp l k s2) : Int) = (↑(fOthers l k) : Int) ∧ True)) := by kernel_rfl

theorem b34 (l : List ClaimD) (k : Int) (hp : shortL l) : bodyVC (ctxOf tab [(37, c37)]) Try.f34 c34 (a34 (l, k, ())) (l, k, ()) := by
  obtain ⟨hp, hc⟩ := hp
  have hp : l.length ≤ 1000000 := hp
  rw [v34]
  simp only [true_and, and_true]
  refine ⟨⟨0, by omega, rfl, rfl⟩, fun s => lett.mk fun y3 e3 => lett.mk fun y4 e4 => fun h => ⟨fun hs => ?_, fun hs => ?_⟩⟩
  · have hs := lt_of_y e3 hs
    rw [Int.toNat_natCast] at e4
    have e4 : y4 = (l.getD s zeroC).1 := e4
    refine ⟨⟨by omega, by omega⟩, fun _ => by rw [e4]; exact (hc _ (mem_getD _ hs)).1, inR64 (by omega) (by omega), s + 1, by omega, by omega, ?_, by omega⟩
    rw [or64 _ _ (others_lt _ _ _) (fOf_lt _), e4]
    show ((bif (s : Int) != k then fOthersUp l k s ||| fOf (l.getD s zeroC).1 else fOthersUp l k s : Nat) : Int) = _
    cases (s : Int) != k <;> rfl
  · have hs := le_of_y e3 hs
    have : s = l.length := by omega
    rw [this]
    rfl

theorem ok34 : DOk Try.prog 34 c34 :=
  DOk.of' (l := [(37, c37)]) (A := a34) tabOk ⟨ok37, trivial⟩ Try.func34 (by kernel_rfl) (by kernel_rfl) fun x _ hp => b34 x.1 x.2.1 hp

def wantStep (s : Nat) (w : WantD) : Nat := s ||| fOf w.1

theorem wants_lt : ∀ (l : List WantD) (s : Nat), s < 2 ^ 40 → l.foldl wantStep s < 2 ^ 40
  | [], s, h => h
  | w :: l, s, h => wants_lt l _ (Nat.or_lt_two_pow h (fOf_lt _))

theorem fWants_lt (c : ClaimD) : fWants c < 2 ^ 40 := wants_lt c.2 0 (by omega)

theorem wants_bit (i : Nat) : ∀ (l : List WantD) (s : Nat), (l.foldl wantStep s).testBit i = true ↔ s.testBit i = true ∨ ∃ w ∈ l, (fOf w.1).testBit i = true
  | [], s => by simp
  | w :: l, s => by
    rw [List.foldl_cons, wants_bit i l]
    unfold wantStep
    simp only [Nat.testBit_or, Bool.or_eq_true, List.mem_cons]
    constructor
    · rintro ((h | h) | ⟨v, h1, h2⟩)
      · exact .inl h
      · exact .inr ⟨w, .inl rfl, h⟩
      · exact .inr ⟨v, .inr h1, h2⟩
    · rintro (h | ⟨v, (rfl | h1), h2⟩)
      · exact .inl (.inl h)
      · exact .inl (.inr h2)
      · exact .inr ⟨v, h1, h2⟩

theorem fWants_bit (c : ClaimD) (i : Nat) : (fWants c).testBit i = true ↔ ∃ w ∈ c.2, (fOf w.1).testBit i = true := by
  rw [show fWants c = c.2.foldl wantStep 0 from rfl, wants_bit i c.2 0]
  simp

theorem v35 (c : List Int × List (List Int × Int)) : bodyVC (ctxOf tab [(37, c37)]) Try.f35 c35 (a35 (c, ())) (c, ()) = (
(∃ (s01 : Nat), s01 ≤ c.snd.length ∧ (↑(fWantsUp c.snd s01) : Int) = (0 : Int) ∧ (↑s01 : Int) = (0 : Int) ∧ c.snd = c.snd ∧ (↑c.snd.length : Int) = (↑c.snd.length : Int) ∧ True) ∧
∀ (s1 : Nat),
lett (decide ((↑s1 : Int) < (↑c.snd.length : Int))) fun (y2 : Bool) =>
lett (c.snd.getD (↑s1 : Int).toNat ([], (0 : Int))).fst fun (y3 : List Int) =>
s1 ≤ c.snd.length →
(y2 = true →
InB (↑s1 : Int) c.snd.length ∧
short y3 ∧
InR IntKind.i64 ((↑s1 : Int) + (1 : Int)) ∧
∃ (s'4 : Nat),
s'4 ≤ c.snd.length ∧
c.snd.length - s'4 < c.snd.length - s1 ∧
(↑(fWantsUp c.snd s'4) : Int) = bitsOf BinOp.or IntKind.u64 (↑(fWantsUp c.snd s1) : Int) (↑(fOf y3) : Int) ∧
(↑s'4 : Int) = (↑s1 : Int) + (1 : Int) ∧ c.snd = c.snd ∧ (↑c.snd.length : Int) = (↑c.snd.length : Int) ∧ True) ∧
(y2 = false → (↑(fWantsUp c.snd s1) : Int) = (↑(fWants c) : Int) ∧ True)) := by kernel_rfl

theorem b35 (c : ClaimD) (hp : shortC c) : bodyVC (ctxOf tab [(37, c37)]) Try.f35 c35 (a35 (c, ())) (c, ()) := by
  obtain ⟨_, hp, hw⟩ := hp
  have hp : c.2.length ≤ 1000000 := hp
  rw [v35]
  simp only [true_and, and_true]
  refine ⟨⟨0, by omega, rfl, rfl⟩, fun s => lett.mk fun y3 e3 => lett.mk fun y4 e4 => fun h => ⟨fun hs => ?_, fun hs => ?_⟩⟩
  · have hs := lt_of_y e3 hs
    rw [Int.toNat_natCast] at e4
    refine ⟨⟨by omega, by omega⟩, by rw [e4]; exact hw _ (mem_getD _ hs), inR64 (by omega) (by omega), s + 1, by omega, by omega, ?_, by omega⟩
    rw [or64 (fWantsUp c.2 s) (fOf y4) (fWants_lt _) (fOf_lt _), e4]
    unfold fWantsUp fWants
    rw [take_succ' ([], 0) hs, List.foldl_append]
    rfl
  · have hs := le_of_y e3 hs
    unfold fWantsUp fWants
    rw [List.take_of_length_le hs]

theorem ok35 : DOk Try.prog 35 c35 :=
  DOk.of' (l := [(37, c37)]) (A := a35) tabOk ⟨ok37, trivial⟩ Try.func35 (by kernel_rfl) (by kernel_rfl) fun x _ hp => b35 x.1 hp

theorem v36 (l : List Int) (n : Int) : bodyVC (ctxOf tab []) Try.f36 c36 (a36 (l, n, ())) (l, n, ()) = (
(∃ (s02 : Nat), (s02 ≤ l.length ∧ ((List.take s02 l).all fun (n_1 : Int) => n_1 != n) = true) ∧ (↑s02 : Int) = (0 : Int) ∧ n = n ∧ l = l ∧ (↑l.length : Int) = (↑l.length : Int) ∧ True) ∧
∀ (s2 : Nat),
lett (decide ((↑s2 : Int) < (↑l.length : Int))) fun (y3 : Bool) =>
lett (l.getD (↑s2 : Int).toNat (0 : Int) == n) fun (y4 : Bool) =>
s2 ≤ l.length ∧ ((List.take s2 l).all fun (n_1 : Int) => n_1 != n) = true →
(y3 = true →
InB (↑s2 : Int) l.length ∧
(y4 = true → true = l.contains n ∧ True) ∧
(y4 = false →
InR IntKind.i64 ((↑s2 : Int) + (1 : Int)) ∧
∃ (s'5 : Nat),
(s'5 ≤ l.length ∧ ((List.take s'5 l).all fun (n_1 : Int) => n_1 != n) = true) ∧
l.length - s'5 < l.length - s2 ∧ (↑s'5 : Int) = (↑s2 : Int) + (1 : Int) ∧ n = n ∧ l = l ∧ (↑l.length : Int) = (↑l.length : Int) ∧ True)) ∧
(y3 = false → false = l.contains n ∧ True)) := by kernel_rfl

theorem b36 (l : List Int) (n : Int) (hp : l.length ≤ 1000000) : bodyVC (ctxOf tab []) Try.f36 c36 (a36 (l, n, ())) (l, n, ()) := by
  rw [v36]
  simp only [true_and, and_true]
  refine ⟨⟨0, ⟨by omega, by simp⟩, rfl⟩, fun s => lett.mk fun y3 e3 => lett.mk fun y4 e4 => ?_⟩
  rintro ⟨h1, h2⟩
  rw [Int.toNat_natCast] at e4
  refine ⟨fun hs => ?_, fun hs => ?_⟩
  · have hs := lt_of_y e3 hs
    refine ⟨⟨by omega, by omega⟩, fun h => ?_, fun h => ⟨inR64 (by omega) (by omega), s + 1, ⟨by omega, ?_⟩, by omega, by omega⟩⟩
    · rw [h] at e4
      have : l.getD s 0 = n := by simpa using e4.symm
      symm
      rw [List.contains_iff_mem]
      rw [← this]
      exact mem_getD _ hs
    · refine all_succ 0 hs h2 ?_
      rw [h] at e4
      simpa using e4.symm
  · have := List.all_eq_true.1 (all_full (le_of_y e3 hs) h2)
    cases hc : l.contains n with
    | false => rfl
    | true =>
      have := this n (List.contains_iff_mem.1 hc)
      simp at this

theorem ok36 : DOk Try.prog 36 c36 :=
  DOk.of' (l := []) (A := a36) tabOk trivial Try.func36 (by kernel_rfl) (by kernel_rfl) fun x _ hp => b36 x.1 x.2.1 hp

theorem range_succ_all {n : Nat} {p : Nat → Bool} (h : (List.range n).all p = true) (h1 : p n = true) : (List.range (n + 1)).all p = true := by
  rw [List.range_succ, List.all_append, h]
  simpa using h1

theorem range_no {n s : Nat} {p : Nat → Bool} (h : s < n) (h1 : p s = false) : (List.range n).all p = false := by
  cases hc : (List.range n).all p with
  | false => rfl
  | true =>
    have := List.all_eq_true.1 hc s (List.mem_range.2 h)
    rw [this] at h1
    cases h1

theorem v38 (l : List (List Int × List (List Int × Int))) (k : Int) (free : List Int) : bodyVC (ctxOf tab [(36, c36)]) Try.f38 c38 (a38 (l, k, free, ())) (l, k, free, ()) = (
(∃ (s03 : Nat), (s03 ≤ l.length ∧ (List.range s03).all (fClearAt l k free) = true) ∧ (↑s03 : Int) = (0 : Int) ∧ k = k ∧ free = free ∧ l = l ∧ (↑l.length : Int) = (↑l.length : Int) ∧ True) ∧
∀ (s3 : Nat),
lett (decide ((↑s3 : Int) < (↑l.length : Int))) fun (y4 : Bool) =>
lett (l.getD (↑s3 : Int).toNat zeroC).fst fun (y5 : List Int) =>
lett (l.getD (↑s3 : Int).toNat ([], [])).fst fun (y6 : List Int) =>
s3 ≤ l.length ∧ (List.range s3).all (fClearAt l k free) = true →
(y4 = true →
InB (↑s3 : Int) l.length ∧
(∃ (s07 : Nat),
(s07 ≤ y5.length ∧ ((List.take s07 y5).any fun (e : Int) => (↑s3 : Int) != k && free.contains e) = false) ∧
(↑s07 : Int) = (0 : Int) ∧
k = k ∧
free = free ∧
(↑s3 : Int) = (↑s3 : Int) ∧ l = l ∧ (↑l.length : Int) = (↑l.length : Int) ∧ (↑s3 : Int) = (↑s3 : Int) ∧ y6 = y6 ∧ (↑y6.length : Int) = (↑y6.length : Int) ∧ True) ∧
∀ (s7 : Nat),
lett (decide ((↑s7 : Int) < (↑y6.length : Int))) fun (y8 : Bool) =>
lett (bif (↑s3 : Int) != k then free.contains (y6.getD (↑s7 : Int).toNat (0 : Int)) else false) fun (y9 : Bool) =>
s7 ≤ y5.length ∧ ((List.take s7 y5).any fun (e : Int) => (↑s3 : Int) != k && free.contains e) = false →
(y8 = true →
InB (↑s7 : Int) y6.length ∧
(((↑s3 : Int) != k) = true → short free) ∧
(y9 = true → false = fClear l k free ∧ True) ∧
(y9 = false →
InR IntKind.i64 ((↑s7 : Int) + (1 : Int)) ∧
∃ (s'10 : Nat),
(s'10 ≤ y5.length ∧ ((List.take s'10 y5).any fun (e : Int) => (↑s3 : Int) != k && free.contains e) = false) ∧
y5.length - s'10 < y5.length - s7 ∧
(↑s'10 : Int) = (↑s7 : Int) + (1 : Int) ∧
k = k ∧
free = free ∧
(↑s3 : Int) = (↑s3 : Int) ∧
l = l ∧ (↑l.length : Int) = (↑l.length : Int) ∧ (↑s3 : Int) = (↑s3 : Int) ∧ y6 = y6 ∧ (↑y6.length : Int) = (↑y6.length : Int) ∧ True)) ∧
(y8 = false →
InR IntKind.i64 ((↑s3 : Int) + (1 : Int)) ∧
∃ (s'10 : Nat),
(s'10 ≤ l.length ∧ (List.range s'10).all (fClearAt l k free) = true) ∧
l.length - s'10 < l.length - s3 ∧ (↑s'10 : Int) = (↑s3 : Int) + (1 : Int) ∧ k = k ∧ free = free ∧ l = l ∧ (↑l.length : Int) = (↑l.length : Int) ∧ True)) ∧
(y4 = false → true = fClear l k free ∧ True)) := by kernel_rfl

theorem b38 (l : List ClaimD) (k : Int) (free : List Int) (hp : shortL l) (hf : short free) : bodyVC (ctxOf tab [(36, c36)]) Try.f38 c38 (a38 (l, k, free, ())) (l, k, free, ()) := by
  obtain ⟨hp, hc⟩ := hp
  have hp : l.length ≤ 1000000 := hp
  rw [v38]
  simp only [true_and, and_true]
  refine ⟨⟨0, ⟨by omega, by simp⟩, rfl⟩, fun s => lett.mk fun y4 e4 => lett.mk fun y5 e5 => lett.mk fun y6 e6 => ?_⟩
  rintro ⟨h1, h2⟩
  rw [Int.toNat_natCast] at e5 e6
  have e6 : y6 = y5 := by rw [e5, e6]; rfl
  subst e6
  refine ⟨fun hs => ?_, fun hs => ?_⟩
  · have hs := lt_of_y e4 hs
    have hl : y6.length ≤ 1000000 := by rw [e5]; exact (hc _ (mem_getD _ hs)).1
    have hat : fClearAt l k free s = !(y6.any fun e => (s : Int) != k && free.contains e) := by
      unfold fClearAt
      rw [← e5]
      cases hk : (s : Int) == k
      · have : ((s : Int) != k) = true := by simpa using hk
        have hfn : (fun e => (s : Int) != k && free.contains e) = free.contains := by funext e; rw [this]; rfl
        rw [hfn]
        rfl
      · have : ((s : Int) != k) = false := by simpa using hk
        simp [this]
    refine ⟨⟨by omega, by omega⟩, ⟨0, ⟨by omega, by simp⟩, rfl⟩, fun s7 => lett.mk fun y8 e8 => lett.mk fun y9 e9 => ?_⟩
    rintro ⟨k1, k2⟩
    rw [Int.toNat_natCast] at e9
    have e9 : y9 = ((s : Int) != k && free.contains (y6.getD s7 0)) := by rw [e9]; cases (s : Int) != k <;> rfl
    refine ⟨fun h8 => ?_, fun h8 => ?_⟩
    · have h8 := lt_of_y e8 h8
      refine ⟨⟨by omega, by omega⟩, fun _ => hf, fun h => ?_, fun h => ⟨inR64 (by omega) (by omega), s7 + 1, ⟨by omega, ?_⟩, by omega, by omega⟩⟩
      · symm
        refine range_no hs ?_
        rw [hat, Bool.not_eq_false', List.any_eq_true]
        exact ⟨_, mem_getD 0 h8, by rw [← e9]; exact h⟩
      · exact any_succ (p := fun e => (s : Int) != k && free.contains e) 0 h8 k2 (by rw [← e9]; exact h)
    · have h8 := le_of_y e8 h8
      rw [List.take_of_length_le h8] at k2
      exact ⟨inR64 (by omega) (by omega), s + 1, ⟨by omega, range_succ_all h2 (by rw [hat, k2]; rfl)⟩, by omega, by omega⟩
  · have hs := le_of_y e4 hs
    have : s = l.length := by omega
    rw [this] at h2
    exact h2.symm

theorem ok38 : DOk Try.prog 38 c38 :=
  DOk.of' (l := [(36, c36)]) (A := a38) tabOk ⟨ok36, trivial⟩ Try.func38 (by kernel_rfl) (by kernel_rfl) fun x _ hp => b38 x.1 x.2.1 x.2.2.1 hp.1 hp.2

theorem v23 (l : List (List Int × List (List Int × Int))) (k : Int) : bodyVC (ctxOf tab [(38, c38)]) Try.f23 c23 (a23 (l, k, ())) (l, k, ()) = (
lett (l.getD k.toNat zeroC).snd fun (y2 : List WantD) =>
lett (l.getD k.toNat ([], [])).snd fun (y3 : List (List Int × Int)) =>
InB k l.length ∧
(∃ (s04 : Nat),
(s04 ≤ y2.length ∧ ((List.take s04 y2).all fun (w : WantD) => fClear l k w.fst) = true) ∧
(↑s04 : Int) = (0 : Int) ∧ l = l ∧ k = k ∧ y3 = y3 ∧ (↑y3.length : Int) = (↑y3.length : Int) ∧ True) ∧
∀ (s4 : Nat),
lett (decide ((↑s4 : Int) < (↑y3.length : Int))) fun (y5 : Bool) =>
lett (y3.getD (↑s4 : Int).toNat ([], (0 : Int))).fst fun (y6 : List Int) =>
s4 ≤ y2.length ∧ ((List.take s4 y2).all fun (w : WantD) => fClear l k w.fst) = true →
(y5 = true →
InB (↑s4 : Int) y3.length ∧
(shortL l ∧ short y6) ∧
((!fClear l k y6) = true → false = fCan l k.toNat ∧ True) ∧
((!fClear l k y6) = false →
InR IntKind.i64 ((↑s4 : Int) + (1 : Int)) ∧
∃ (s'7 : Nat),
(s'7 ≤ y2.length ∧ ((List.take s'7 y2).all fun (w : WantD) => fClear l k w.fst) = true) ∧
y2.length - s'7 < y2.length - s4 ∧ (↑s'7 : Int) = (↑s4 : Int) + (1 : Int) ∧ l = l ∧ k = k ∧ y3 = y3 ∧ (↑y3.length : Int) = (↑y3.length : Int) ∧ True)) ∧
(y5 = false → true = fCan l k.toNat ∧ True)) := by kernel_rfl

theorem b23 (l : List ClaimD) (k : Int) (hp : shortL l) (hk : InB k l.length) : bodyVC (ctxOf tab [(38, c38)]) Try.f23 c23 (a23 (l, k, ())) (l, k, ()) := by
  obtain ⟨k1, k2⟩ := hk
  have hs := hp.2 (l.getD k.toNat zeroC) (mem_getD _ (by omega))
  obtain ⟨_, hl, hw⟩ := hs
  have hl : (l.getD k.toNat zeroC).2.length ≤ 1000000 := hl
  rw [v23]
  refine lett.mk fun y2 e2 => lett.mk fun y3 e3 => ?_
  have e3 : y3 = y2 := by rw [e2, e3]; rfl
  subst e3
  rw [← e2] at hl hw
  simp only [true_and, and_true]
  refine ⟨⟨k1, k2⟩, ⟨0, ⟨by omega, by simp⟩, rfl⟩, fun s => lett.mk fun y5 e5 => lett.mk fun y6 e6 => ?_⟩
  rintro ⟨h1, h2⟩
  rw [Int.toNat_natCast] at e6
  refine ⟨fun hs => ?_, fun hs => ?_⟩
  · have hs := lt_of_y e5 hs
    refine ⟨⟨by omega, by omega⟩, ⟨hp, by rw [e6]; exact hw _ (mem_getD _ hs)⟩, fun h => ?_, fun h => ⟨inR64 (by omega) (by omega), s + 1, ⟨by omega, ?_⟩, by omega, by omega⟩⟩
    · unfold fCan
      rw [← e2, all_no (p := fun (w : WantD) => fClear l k.toNat w.1) ([], 0) hs]
      rw [← e6, Int.toNat_of_nonneg k1]
      simpa using h
    · exact all_succ (p := fun (w : WantD) => fClear l k w.1) ([], 0) hs h2 (by rw [← e6]; simpa using h)
  · unfold fCan
    rw [← e2, Int.toNat_of_nonneg k1]
    exact (all_full (p := fun (w : WantD) => fClear l k w.1) (le_of_y e5 hs) h2).symm

theorem ok23 : DOk Try.prog 23 c23 :=
  DOk.of' (l := [(38, c38)]) (A := a23) tabOk ⟨ok38, trivial⟩ Try.func23 (by kernel_rfl) (by kernel_rfl) fun x _ hp => b23 x.1 x.2.1 hp.1 hp.2

end Ytghpaejpccpgeaa
end Go.Proofs
