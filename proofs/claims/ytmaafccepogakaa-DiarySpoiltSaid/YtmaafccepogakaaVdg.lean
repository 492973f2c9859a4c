/-
  The reference's reading of an entry: written out and proved.
-/
import Derived.Test.YtmaafccepogakaaVdf
set_option maxRecDepth 100000
set_option linter.unusedVariables false
set_option linter.unusedSimpArgs false
set_option maxHeartbeats 2000000
namespace Go.Proofs
open Go Go.Vc
namespace Ytmaafccepogakaa

theorem fTake_at {b : List Int} {a : Nat} (hb : bytes b) : (b.length ≤ a → (fTake (b.drop a)).2.2 = false) ∧
    (a < b.length → (b.length : Int) < a + 1 + b.getD a 0 → (fTake (b.drop a)).2.2 = false) ∧
    (a < b.length → (a : Int) + 1 + b.getD a 0 ≤ b.length → fTake (b.drop a) = ((b.drop (a + 1)).take (b.getD a 0).toNat, b.drop (a + 1 + (b.getD a 0).toNat), true)) := by
  have hb0 := getD_byte hb a
  refine ⟨fun h => ?_, fun h1 h2 => ?_, fun h1 h2 => ?_⟩
  · rw [List.drop_of_length_le h]; rfl
  · rw [List.drop_eq_getElem_cons h1]
    rw [getD_at 0 h1] at h2
    unfold fTake
    simp only
    rw [if_pos (by simp; omega)]
  · rw [List.drop_eq_getElem_cons h1]
    rw [getD_at 0 h1] at h2 hb0 ⊢
    unfold fTake
    simp only
    rw [if_neg (by simp; omega), List.drop_drop]

theorem map_bytes_inj : ∀ {xs ys : List Int}, bytes xs → bytes ys → xs.map (fun (n : Int) => UInt8.ofNat n.toNat) = ys.map (fun (n : Int) => UInt8.ofNat n.toNat) → xs = ys
  | [], [], _, _, _ => rfl
  | x :: xs, y :: ys, hx, hy, h => by
    simp only [List.map_cons, List.cons.injEq] at h
    have h1 := hx x List.mem_cons_self
    have h2 := hy y List.mem_cons_self
    have e := congrArg UInt8.toNat h.1
    simp only [UInt8.toNat_ofNat'] at e
    have : x = y := by omega
    rw [this, map_bytes_inj (fun z hz => hx z (List.mem_cons_of_mem _ hz)) (fun z hz => hy z (List.mem_cons_of_mem _ hz)) h.2]
  | [], _ :: _, _, _, h => by simp at h
  | _ :: _, [], _, _, h => by simp at h

theorem str_beq {xs ys : List Int} (hx : bytes xs) (hy : bytes ys) : (xs.map (fun (n : Int) => UInt8.ofNat n.toNat) == ys.map (fun (n : Int) => UInt8.ofNat n.toNat)) = (xs == ys) := by
  rw [Bool.eq_iff_iff, beq_iff_eq, beq_iff_eq]
  exact ⟨map_bytes_inj hx hy, fun h => by rw [h]⟩

/-- Where the reference's reading stands. -/
theorem at_stage {b : List Int} (hb : bytes b) {a0 k : Nat} (h0 : a0 ≤ b.length) (h : fOks b a0 k) (hk : k ≤ 1) : ∃ a : Nat, a ≤ b.length ∧ fAt b a0 k = a ∧ (k = 0 → a = a0) ∧ (k = 1 → (fTake (b.drop a0)).2.1 = b.drop a) := by
  have : k = 0 ∨ k = 1 := by omega
  rcases this with rfl | rfl
  · exact ⟨a0, h0, rfl, fun _ => rfl, fun h => by cases h⟩
  · obtain ⟨_, h1, _⟩ := h
    have h1 := h1 (Nat.le_refl _)
    obtain ⟨t1, t2, t3⟩ := fTake_at hb (a := a0)
    have hb0 := getD_byte hb a0
    by_cases hl : b.length ≤ a0
    · rw [t1 hl] at h1; cases h1
    · by_cases hl2 : (b.length : Int) < a0 + 1 + b.getD a0 0
      · rw [t2 (by omega) hl2] at h1; cases h1
      · have ht := t3 (by omega) (by omega)
        refine ⟨a0 + 1 + (b.getD a0 0).toNat, by omega, ?_, fun h => (by cases h), fun _ => (by rw [ht])⟩
        unfold fAt
        rw [ht]
        show (a0 : Int) + 1 + (((b.drop (a0 + 1)).take (b.getD a0 0).toNat).length : Int) = _
        rw [List.length_take, List.length_drop]
        omega

theorem v32 (m : Int) (n : Int) (b : List Int) : bodyVC (ctxOf tab [(13, c13)]) Try.f32 c32 (a32 (m, n, b, ())) (m, n, b, ()) = (
lett (List.take m.toNat (List.drop (2 : Nat) b)) fun (y3 : List Int) =>
lett (fEntryR m.toNat n.toNat b) fun (y4 : EntryD × Bool) =>
lett (List.take n.toNat (List.drop ((2 : Nat) + m.toNat) b)) fun (y5 : List Int) =>
lett (List.map (fun (x : Int) => x % (4 : Int)) y3) fun (y6 : List Int) =>
lett ((2 : Nat) + m.toNat + n.toNat) fun (y7 : Nat) =>
(∃ (s08 : Nat),
(s08 ≤ m.toNat ∧ s08 ≤ y3.length) ∧
(2 : Int) + (↑s08 : Int) = (2 : Int) ∧
(↑s08 : Int) = (0 : Int) ∧
m = m ∧ n = n ∧ b = b ∧ m = m ∧ List.map (fun (x : Int) => x % (4 : Int)) (List.take s08 y3) = [] ∧ List.map (geB (4 : Int)) (List.take s08 y3) = [] ∧ True) ∧
∀ (s8 : Nat),
lett (decide ((2 : Int) + (↑s8 : Int) ≥ (↑b.length : Int))) fun (y9 : Bool) =>
lett (List.map (fun (x : Int) => x % (4 : Int)) (List.take s8 y3)) fun (y10 : List Int) =>
lett (b.getD ((2 : Int) + (↑s8 : Int)).toNat (0 : Int)) fun (y11 : Int) =>
lett ((List.replicate (1 : Nat) (0 : Int)).set (0 : Nat) (y11.tmod (4 : Int))) fun (y12 : List Int) =>
lett (List.map (geB (4 : Int)) (List.take s8 y3)) fun (y13 : List Bool) =>
lett ((List.replicate (1 : Nat) false).set (0 : Nat) (decide (y11 ≥ (4 : Int)))) fun (y14 : List Bool) =>
lett ((2 : Int) + (↑s8 : Int) + (1 : Int)) fun (y15 : Int) =>
s8 ≤ m.toNat ∧ s8 ≤ y3.length →
(decide ((↑s8 : Int) < m) = true →
(y9 = true → (([], [], [], []), [], []) = y4.fst ∧ false = y4.snd ∧ True) ∧
(y9 = false →
InB ((2 : Int) + (↑s8 : Int)) b.length ∧
(4 : Int) ≠ (0 : Int) ∧
roomFor (y10.length + y12.length) (8 : Nat) ∧
InB ((2 : Int) + (↑s8 : Int)) b.length ∧
roomFor (y13.length + y14.length) (1 : Nat) ∧
InR IntKind.i64 y15 ∧
InR IntKind.i64 ((↑s8 : Int) + (1 : Int)) ∧
∃ (s'16 : Nat),
(s'16 ≤ m.toNat ∧ s'16 ≤ y3.length) ∧
m.toNat - s'16 < m.toNat - s8 ∧
(2 : Int) + (↑s'16 : Int) = y15 ∧
(↑s'16 : Int) = (↑s8 : Int) + (1 : Int) ∧
m = m ∧
n = n ∧
b = b ∧
m = m ∧
List.map (fun (x : Int) => x % (4 : Int)) (List.take s'16 y3) = y10 ++ y12 ∧
List.map (geB (4 : Int)) (List.take s'16 y3) = y13 ++ y14 ∧ True)) ∧
(decide ((↑s8 : Int) < m) = false →
(∃ (s016 : Nat),
(s016 ≤ n.toNat ∧ s016 ≤ y5.length) ∧
(2 : Int) + m + (↑s016 : Int) = (2 : Int) + (↑s8 : Int) ∧
(↑s016 : Int) = (0 : Int) ∧
m = m ∧
n = n ∧
b = b ∧
n = n ∧
y6 = y10 ∧
List.map (geB (4 : Int)) y3 = y13 ∧
List.map (fun (x : Int) => decide (x % (2 : Int) = (1 : Int))) (List.take s016 y5) = [] ∧
List.map (geB (2 : Int)) (List.take s016 y5) = [] ∧ True) ∧
∀ (s16 : Nat),
lett ((2 : Int) + m + (↑s16 : Int)) fun (y17 : Int) =>
lett (decide (y17 ≥ (↑b.length : Int))) fun (y18 : Bool) =>
lett (List.map (fun (x : Int) => decide (x % (2 : Int) = (1 : Int))) (List.take s16 y5)) fun (y19 : List Bool) =>
lett ((List.replicate (1 : Nat) false).set (0 : Nat) ((b.getD y17.toNat (0 : Int)).tmod (2 : Int) == (1 : Int))) fun (y20 : List Bool) =>
lett (List.map (geB (2 : Int)) (List.take s16 y5)) fun (y21 : List Bool) =>
lett ((List.replicate (1 : Nat) false).set (0 : Nat) (decide (b.getD y17.toNat (0 : Int) ≥ (2 : Int)))) fun (y22 : List Bool) =>
s16 ≤ n.toNat ∧ s16 ≤ y5.length →
(decide ((↑s16 : Int) < n) = true →
(y18 = true → (([], [], [], []), [], []) = y4.fst ∧ false = y4.snd ∧ True) ∧
(y18 = false →
InB y17 b.length ∧
(2 : Int) ≠ (0 : Int) ∧
roomFor (y19.length + y20.length) (1 : Nat) ∧
InB y17 b.length ∧
roomFor (y21.length + y22.length) (1 : Nat) ∧
InR IntKind.i64 (y17 + (1 : Int)) ∧
InR IntKind.i64 ((↑s16 : Int) + (1 : Int)) ∧
∃ (s'23 : Nat),
(s'23 ≤ n.toNat ∧ s'23 ≤ y5.length) ∧
n.toNat - s'23 < n.toNat - s16 ∧
(2 : Int) + m + (↑s'23 : Int) = y17 + (1 : Int) ∧
(↑s'23 : Int) = (↑s16 : Int) + (1 : Int) ∧
m = m ∧
n = n ∧
b = b ∧
n = n ∧
y6 = y6 ∧
List.map (geB (4 : Int)) y3 = List.map (geB (4 : Int)) y3 ∧
List.map (fun (x : Int) => decide (x % (2 : Int) = (1 : Int))) (List.take s'23 y5) = y19 ++ y20 ∧
List.map (geB (2 : Int)) (List.take s'23 y5) = y21 ++ y22 ∧ True)) ∧
(decide ((↑s16 : Int) < n) = false →
(∃ (s023 : Nat),
fOks b y7 s023 ∧
fAt b y7 s023 = y17 ∧
(↑s023 : Int) = (0 : Int) ∧
m = m ∧
n = n ∧
b = b ∧
fCalls b y7 s023 = [] ∧
fCancels b y7 s023 = [] ∧
y6 = y6 ∧ List.map (geB (4 : Int)) y3 = List.map (geB (4 : Int)) y3 ∧ y19 = y19 ∧ y21 = y21 ∧ True) ∧
∀ (s23 : Nat),
lett (decide (fAt b y7 s23 ≥ (↑b.length : Int))) fun (y24 : Bool) =>
lett (fAt b y7 s23 + (1 : Int)) fun (y25 : Int) =>
lett (y25 + b.getD (fAt b y7 s23).toNat (0 : Int)) fun (y26 : Int) =>
lett (bif y24 then true else decide (y26 > (↑b.length : Int))) fun (y27 : Bool) =>
lett (List.drop y25.toNat (List.take y26.toNat b)) fun (y28 : List Int) =>
lett ((List.map (geB (4 : Int)) y3, y6, y19, y21), fCalls b y7 s23, fCancels b y7 s23)
fun (y29 : (List Bool × List Int × List Bool × List Bool) × List Int × List Int) =>
fOks b y7 s23 →
(decide ((↑s23 : Int) < (2 : Int)) = true →
(y24 = false → InR IntKind.i64 y25) ∧
(y24 = false → InB (fAt b y7 s23) b.length) ∧
(y24 = false → InR IntKind.i64 y26) ∧
(y27 = true → (([], [], [], []), [], []) = y4.fst ∧ false = y4.snd ∧ True) ∧
(y27 = false →
InR IntKind.i64 y25 ∧
InR IntKind.i64 y25 ∧
InB (fAt b y7 s23) b.length ∧
InR IntKind.i64 y26 ∧
((0 : Int) ≤ y25 ∧ y25 ≤ y26) ∧
y26 ≤ (↑b.length : Int) ∧
(∃ (s030 : Nat),
s030 ≤ y28.length ∧
(↑s030 : Int) = (0 : Int) ∧
m = m ∧
n = n ∧
b = b ∧
fAt b y7 s23 = fAt b y7 s23 ∧
(↑s23 : Int) = (↑s23 : Int) ∧
(↑s23 : Int) = (↑s23 : Int) ∧
y28 = y28 ∧
(↑y28.length : Int) = (↑y28.length : Int) ∧
(fCalls b y7 s23 ++
bif (↑s23 : Int) == (0 : Int) then List.take s030 y28 else []) =
fCalls b y7 s23 ∧
(fCancels b y7 s23 ++
bif (↑s23 : Int) == (0 : Int) then [] else List.take s030 y28) =
fCancels b y7 s23 ∧
y6 = y6 ∧
List.map (geB (4 : Int)) y3 = List.map (geB (4 : Int)) y3 ∧
y19 = y19 ∧ y21 = y21 ∧ True) ∧
∀ (s30 : Nat),
lett (decide ((↑s30 : Int) < (↑y28.length : Int))) fun (y31 : Bool) =>
lett (fCalls b y7 s23 ++ bif (↑s23 : Int) == (0 : Int) then List.take s30 y28 else [])
fun (y32 : List Int) =>
lett
((List.replicate (1 : Nat) (0 : Int)).set (0 : Nat)
(y28.getD (↑s30 : Int).toNat (0 : Int)))
fun (y33 : List Int) =>
lett (fCancels b y7 s23 ++ bif (↑s23 : Int) == (0 : Int) then [] else List.take s30 y28)
fun (y34 : List Int) =>
s30 ≤ y28.length →
(y31 = true →
InB (↑s30 : Int) y28.length ∧
(((↑s23 : Int) == (0 : Int)) = true →
roomFor (y32.length + y33.length) (8 : Nat) ∧
InR IntKind.i64 ((↑s30 : Int) + (1 : Int)) ∧
∃ (s'35 : Nat),
s'35 ≤ y28.length ∧
y28.length - s'35 < y28.length - s30 ∧
(↑s'35 : Int) = (↑s30 : Int) + (1 : Int) ∧
m = m ∧
n = n ∧
b = b ∧
fAt b y7 s23 = fAt b y7 s23 ∧
(↑s23 : Int) = (↑s23 : Int) ∧
(↑s23 : Int) = (↑s23 : Int) ∧
y28 = y28 ∧
(↑y28.length : Int) = (↑y28.length : Int) ∧
(fCalls b y7 s23 ++
bif (↑s23 : Int) == (0 : Int) then
List.take s'35 y28
else []) =
y32 ++ y33 ∧
(fCancels b y7 s23 ++
bif (↑s23 : Int) == (0 : Int) then []
else List.take s'35 y28) =
y34 ∧
y6 = y6 ∧
List.map (geB (4 : Int)) y3 =
List.map (geB (4 : Int)) y3 ∧
y19 = y19 ∧ y21 = y21 ∧ True) ∧
(((↑s23 : Int) == (0 : Int)) = false →
roomFor (y34.length + y33.length) (8 : Nat) ∧
InR IntKind.i64 ((↑s30 : Int) + (1 : Int)) ∧
∃ (s'35 : Nat),
s'35 ≤ y28.length ∧
y28.length - s'35 < y28.length - s30 ∧
(↑s'35 : Int) = (↑s30 : Int) + (1 : Int) ∧
m = m ∧
n = n ∧
b = b ∧
fAt b y7 s23 = fAt b y7 s23 ∧
(↑s23 : Int) = (↑s23 : Int) ∧
(↑s23 : Int) = (↑s23 : Int) ∧
y28 = y28 ∧
(↑y28.length : Int) = (↑y28.length : Int) ∧
(fCalls b y7 s23 ++
bif (↑s23 : Int) == (0 : Int) then
List.take s'35 y28
else []) =
y32 ∧
(fCancels b y7 s23 ++
bif (↑s23 : Int) == (0 : Int) then []
else List.take s'35 y28) =
y34 ++ y33 ∧
y6 = y6 ∧
List.map (geB (4 : Int)) y3 =
List.map (geB (4 : Int)) y3 ∧
y19 = y19 ∧ y21 = y21 ∧ True)) ∧
(y31 = false →
InR IntKind.i64 y25 ∧
InB (fAt b y7 s23) b.length ∧
InR IntKind.i64 y26 ∧
InR IntKind.i64 ((↑s23 : Int) + (1 : Int)) ∧
∃ (s'35 : Nat),
fOks b y7 s'35 ∧
(2 : Nat) - s'35 < (2 : Nat) - s23 ∧
fAt b y7 s'35 = y26 ∧
(↑s'35 : Int) = (↑s23 : Int) + (1 : Int) ∧
m = m ∧
n = n ∧
b = b ∧
fCalls b y7 s'35 = y32 ∧
fCancels b y7 s'35 = y34 ∧
y6 = y6 ∧
List.map (geB (4 : Int)) y3 =
List.map (geB (4 : Int)) y3 ∧
y19 = y19 ∧ y21 = y21 ∧ True))) ∧
(decide ((↑s23 : Int) < (2 : Int)) = false →
shortE y29 ∧
y29 = y4.fst ∧
(List.map (fun (n : Int) => UInt8.ofNat n.toNat) (fPut m n y29) ==
List.map (fun (n : Int) => UInt8.ofNat n.toNat) b) =
y4.snd ∧
True)))) := by kernel_rfl

theorem b32 (m n : Int) (b : List Int) (hs : small m n) (hp : b.length ≤ 1000000) (h4 : 4 ≤ b.length) (hb : bytes b) : bodyVC (ctxOf tab [(13, c13)]) Try.f32 c32 (a32 (m, n, b, ())) (m, n, b, ()) := by
  obtain ⟨s1, s2, s3, s4⟩ := hs
  obtain ⟨M, rfl⟩ : ∃ M : Nat, m = M := ⟨m.toNat, by omega⟩
  obtain ⟨N, rfl⟩ : ∃ N : Nat, n = N := ⟨n.toNat, by omega⟩
  rw [v32]
  refine lett.mk fun y3 e3 => lett.mk fun y4 e4 => lett.mk fun y5 e5 => lett.mk fun y6 e6 => lett.mk fun y7 e7 => ?_
  simp only [Int.toNat_natCast] at *
  simp only [true_and, and_true, List.nil_append, one_set]
  have hfail : b.length < 2 + M + N → y4 = (zeroE, false) := fun h => by rw [e4]; unfold fEntryR; rw [if_pos h]
  have l3 : y3.length = min M (b.length - 2) := by rw [e3]; simp
  have l5 : y5.length = min N (b.length - (2 + M)) := by rw [e5]; simp
  refine ⟨⟨0, by omega, rfl, rfl, rfl, rfl⟩, fun s => lett.mk fun y9 e9 => lett.mk fun y10 e10 => lett.mk fun y11 e11 => lett.mk fun y12 e12 => lett.mk fun y13 e13 => lett.mk fun y14 e14 => lett.mk fun y15 e15 => ?_⟩
  rintro ⟨g1, g2⟩
  have l10 : y10.length ≤ 40 := by rw [e10]; simp; omega
  have l13 : y13.length ≤ 40 := by rw [e13]; simp; omega
  rw [show ((2 : Int) + s).toNat = 2 + s by omega] at e11
  have hb11 := getD_byte hb (2 + s)
  refine ⟨fun h => ?_, fun h => ?_⟩
  · have h := of_decide_eq_true h
    have h : s < M := by omega
    refine ⟨fun h9 => ?_, fun h9 => ?_⟩
    · rw [e9] at h9
      have h9 := of_decide_eq_true h9
      rw [hfail (by omega)]
      exact ⟨rfl, rfl⟩
    · rw [e9] at h9
      have h9 := of_decide_eq_false h9
      have hlt : s < y3.length := by omega
      have hget : y3.getD s 0 = y11 := by
        rw [e11, e3]
        have : s < ((b.drop 2).take M).length := by rw [← e3]; exact hlt
        rw [getD_at 0 this, getD_at 0 (by omega)]
        simp
      rw [Int.tmod_eq_emod_of_nonneg (by omega)] at e12
      refine ⟨⟨by omega, by omega⟩, by decide, room (by rw [e12]; simp; omega) (by omega), ⟨by omega, by omega⟩, room (by rw [e14]; simp; omega) (by omega), inR64 (by omega) (by omega), inR64 (by omega) (by omega), s + 1, by omega, by omega, by omega, by omega, ?_, ?_⟩
      · rw [take_succ' 0 hlt, List.map_append, ← e10, e12, hget]; rfl
      · rw [take_succ' 0 hlt, List.map_append, ← e13, e14, hget]; rfl
  · have h := of_decide_eq_false h
    have hsM : s = M := by omega
    have hlen3 : y3.length = M := by omega
    rw [List.take_of_length_le (by omega)] at e10 e13
    rw [← e6] at e10
    have e10 := e10.symm
    subst e10
    refine ⟨⟨0, by omega, by omega, rfl, rfl, e13.symm, rfl, rfl⟩, fun t => lett.mk fun y17 e17 => lett.mk fun y18 e18 => lett.mk fun y19 e19 => lett.mk fun y20 e20 => lett.mk fun y21 e21 => lett.mk fun y22 e22 => ?_⟩
    rintro ⟨g3, g4⟩
    have e17' : y17.toNat = 2 + M + t := by omega
    rw [e17'] at e20 e22
    have hb17 := getD_byte hb (2 + M + t)
    have l19 : y19.length ≤ 40 := by rw [e19]; simp; omega
    have l21 : y21.length ≤ 40 := by rw [e21]; simp; omega
    refine ⟨fun k => ?_, fun k => ?_⟩
    · have k := of_decide_eq_true k
      have k : t < N := by omega
      refine ⟨fun h9 => ?_, fun h9 => ?_⟩
      · rw [e18] at h9
        have h9 := of_decide_eq_true h9
        rw [hfail (by omega)]
        exact ⟨rfl, rfl⟩
      · rw [e18] at h9
        have h9 := of_decide_eq_false h9
        have hlt : t < y5.length := by omega
        have hget : y5.getD t 0 = b.getD (2 + M + t) 0 := by
          rw [e5]
          have : t < ((b.drop (2 + M)).take N).length := by rw [← e5]; exact hlt
          rw [getD_at 0 this, getD_at 0 (by omega)]
          simp
        rw [Int.tmod_eq_emod_of_nonneg (by omega)] at e20
        refine ⟨⟨by omega, by omega⟩, by decide, room (by rw [e20]; simp; omega) (by omega), ⟨by omega, by omega⟩, room (by rw [e22]; simp; omega) (by omega), inR64 (by omega) (by omega), inR64 (by omega) (by omega), t + 1, by omega, by omega, by omega, by omega, ?_, ?_⟩
        · rw [take_succ' 0 hlt, List.map_append, ← e19, e20, ← hget]
          congr 1
        · rw [take_succ' 0 hlt, List.map_append, ← e21, e22, ← hget]; rfl
    · have k := of_decide_eq_false k
      have htN : t = N := by omega
      have hlen5 : y5.length = N := by omega
      rw [List.take_of_length_le (by omega)] at e19 e21
      have h7 : y7 ≤ b.length := by omega
      have hE : y4 = (if (fTake (b.drop y7)).2.2 = false then (zeroE, false) else
          if (fTake (fTake (b.drop y7)).2.1).2.2 = false then (zeroE, false) else
          ((( y3.map (geB 4), y6, y19, y21), (fTake (b.drop y7)).1, (fTake (fTake (b.drop y7)).2.1).1), fPut M N ((y3.map (geB 4), y6, y19, y21), (fTake (b.drop y7)).1, (fTake (fTake (b.drop y7)).2.1).1) == b)) := by
        rw [e4, e7, e19, e21, e6, e3, e5]
        unfold fEntryR
        rw [if_neg (by omega)]
        rfl
      refine ⟨⟨0, ⟨by omega, fun h => by omega, fun h => by omega⟩, ?_, rfl, rfl, rfl⟩, fun k => lett.mk fun y24 e24 => lett.mk fun y25 e25 => lett.mk fun y26 e26 => lett.mk fun y27 e27 => lett.mk fun y28 e28 => lett.mk fun y29 e29 => ?_⟩
      · show ((y7 : Nat) : Int) = _
        omega
      intro hok
      refine ⟨fun hk => ?_, fun hk => ?_⟩
      · have hk := of_decide_eq_true hk
        have hk : k ≤ 1 := by omega
        obtain ⟨a, ha1, ha2, ha3, ha4⟩ := at_stage hb h7 hok hk
        rw [ha2] at e24 e25 e26
        simp only [ha2]
        rw [Int.toNat_natCast] at e26
        obtain ⟨t1, t2, t3⟩ := fTake_at hb (a := a)
        have hba := getD_byte hb a
        -- the row that is read now
        have cur : ∀ {p : Prop}, ((fTake (b.drop a)).2.2 = false → p) → (k = 0 → (fTake (b.drop y7)).2.2 = false → p) ∧ (k = 1 → (fTake (fTake (b.drop y7)).2.1).2.2 = false → p) := fun hp => by
          refine ⟨fun h0 h => hp ?_, fun h1 h => hp ?_⟩
          · rw [ha3 h0]; exact h
          · rw [← ha4 h1]; exact h
        have hbad : (fTake (b.drop a)).2.2 = false → y4 = (zeroE, false) := fun h => by
          rw [hE]
          have : k = 0 ∨ k = 1 := by omega
          rcases this with h0 | h1
          · rw [ha3 h0] at h
            rw [if_pos h]
          · rw [← ha4 h1] at h
            rw [if_neg (by rw [hok.2.1 (by omega)]; simp), if_pos h]
        refine ⟨fun _ => inR64 (by omega) (by omega), fun h24 => ?_, fun _ => inR64 (by omega) (by omega), fun h27 => ?_, fun h27 => ?_⟩
        · rw [e24] at h24
          have h24 := of_decide_eq_false h24
          exact ⟨by omega, by omega⟩
        · have hf : (fTake (b.drop a)).2.2 = false := by
            rw [e27] at h27
            cases h24 : y24 with
            | true =>
              rw [e24] at h24
              have h24 := of_decide_eq_true h24
              exact t1 (by omega)
            | false =>
              rw [h24] at h27
              have h27 := of_decide_eq_true h27
              rw [e24] at h24
              have h24 := of_decide_eq_false h24
              exact t2 (by omega) (by omega)
          rw [hbad hf]
          exact ⟨rfl, rfl⟩
        · rw [e27] at h27
          have h24 : y24 = false := by cases h : y24 with | false => rfl | true => rw [h] at h27; cases h27
          rw [h24] at h27
          have h27 := of_decide_eq_false h27
          rw [e24] at h24
          have h24 := of_decide_eq_false h24
          have hT := t3 (by omega) (by omega)
          have hin : InB (a : Int) b.length := ⟨by omega, by omega⟩
          have e28 : y28 = (fTake (b.drop a)).1 := by
            rw [e28, hT, e25, show y26.toNat = a + 1 + (b.getD a 0).toNat by omega, show ((a : Int) + 1).toNat = a + 1 by omega]
            exact take_take_drop b (a + 1) (b.getD a 0).toNat
          have l28 : y28.length = (b.getD a 0).toNat := by rw [e28, hT]; show ((b.drop (a + 1)).take (b.getD a 0).toNat).length = _; rw [List.length_take, List.length_drop]; omega
          refine ⟨inR64 (by omega) (by omega), inR64 (by omega) (by omega), hin, inR64 (by omega) (by omega), by omega, by omega, ⟨0, by omega, rfl, by cases ((k : Int) == 0) <;> simp, by cases ((k : Int) == 0) <;> simp⟩, fun j => lett.mk fun y31 e31 => lett.mk fun y32 e32 => lett.mk fun y33 e33 => lett.mk fun y34 e34 => ?_⟩
          intro hj
          have lC : (fCalls b y7 k).length ≤ b.length := by
            unfold fCalls
            split
            · simp
            · exact Nat.le_trans (fTake_len _).1 (by simp)
          have lD : (fCancels b y7 k).length ≤ b.length := by
            unfold fCancels
            split
            · simp
            · simp
            · exact Nat.le_trans (fTake_len _).1 (Nat.le_trans (fTake_len _).2 (by simp))
          refine ⟨fun h31 => ?_, fun h31 => ?_⟩
          · rw [e31] at h31
            have h31 : j < y28.length := by simpa using h31
            refine ⟨⟨by omega, by omega⟩, fun h0 => ?_, fun h0 => ?_⟩
            · simp only [h0, cond_true] at *
              refine ⟨room (by rw [e32, e33]; simp; omega) (by omega), inR64 (by omega) (by omega), j + 1, by omega, by omega, by omega, ?_, ?_⟩
              · rw [e32, e33, take_succ' 0 h31]; simp
              · rw [e34]
            · simp only [h0, cond_false] at *
              refine ⟨room (by rw [e34, e33]; simp; omega) (by omega), inR64 (by omega) (by omega), j + 1, by omega, by omega, by omega, ?_, ?_⟩
              · rw [e32]
              · rw [e34, e33, take_succ' 0 h31]; simp
          · rw [e31] at h31
            have h31 : ¬ j < y28.length := by simpa using h31
            have hfull : y28.take j = y28 := List.take_of_length_le (by omega)
            rw [hfull] at e32 e34
            refine ⟨inR64 (by omega) (by omega), hin, inR64 (by omega) (by omega), inR64 (by omega) (by omega), k + 1, ?_, by omega, ?_, by omega, ?_, ?_⟩
            · have : k = 0 ∨ k = 1 := by omega
              rcases this with h0 | h1
              · subst h0
                have := ha3 rfl
                subst this
                exact ⟨by omega, fun _ => by rw [hT], fun h => by omega⟩
              · subst h1
                exact ⟨by omega, fun _ => hok.2.1 (by omega), fun _ => by rw [ha4 rfl, hT]⟩
            · have : k = 0 ∨ k = 1 := by omega
              rcases this with h0 | h1
              · subst h0
                have := ha3 rfl
                subst this
                show ((a : Int) + 1 + ((fTake (b.drop a)).1.length : Int)) = _
                rw [← e28, l28]
                omega
              · subst h1
                have hA : fAt b y7 1 = (a : Int) := ha2
                have h2 : fAt b y7 2 = fAt b y7 1 + 1 + ((fTake (fTake (b.drop y7)).2.1).1.length : Int) := rfl
                show fAt b y7 2 = _
                rw [h2, hA, ha4 rfl, ← e28, l28]
                omega
            · have : k = 0 ∨ k = 1 := by omega
              rcases this with h0 | h1
              · subst h0
                have := ha3 rfl
                subst this
                rw [e32, e28]
                rfl
              · subst h1
                rw [e32]
                show (fTake (b.drop y7)).1 = (fTake (b.drop y7)).1 ++ []
                simp
            · have : k = 0 ∨ k = 1 := by omega
              rcases this with h0 | h1
              · subst h0
                rw [e34]
                rfl
              · subst h1
                rw [e34, e28, ← ha4 rfl]
                rfl
      · have hk := of_decide_eq_false hk
        have hk2 : k = 2 := by have := hok.1; omega
        subst hk2
        have o1 := hok.2.1 (by omega)
        have o2 := hok.2.2 (by omega)
        rw [if_neg (by rw [o1]; simp), if_neg (by rw [o2]; simp)] at hE
        have e29 : y29 = ((y3.map (geB 4), y6, y19, y21), (fTake (b.drop y7)).1, (fTake (fTake (b.drop y7)).2.1).1) := e29
        rw [← e29] at hE
        have c1 := fTake_len (b.drop y7)
        have c2 := fTake_len (fTake (b.drop y7)).2.1
        have c3 : (b.drop y7).length ≤ b.length := by simp
        refine ⟨?_, by rw [hE], ?_⟩
        · rw [e29]
          have l6 : y6.length ≤ 40 := by rw [e6]; simp; omega
          simp only [shortE, short, List.length_map]
          omega
        · rw [hE, str_beq fPut_bytes hb]

theorem ok32 : DOk Try.prog 32 c32 :=
  DOk.of' (l := [(13, c13)]) (A := a32) tabOk ⟨ok13, trivial⟩ Try.func32 (by kernel_rfl) (by kernel_rfl) fun x hw hp => b32 x.1 x.2.1 x.2.2.1 hp.1 hp.2.1 hp.2.2 fun n hn => inR_u8 (hw.2.2.1.2 n hn)

end Ytmaafccepogakaa
end Go.Proofs
