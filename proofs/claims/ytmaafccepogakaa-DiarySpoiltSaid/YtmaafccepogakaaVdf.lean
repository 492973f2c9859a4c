/-
  The diary's reading: written out and proved.
-/
import Derived.Test.YtmaafccepogakaaVde
set_option maxRecDepth 100000
set_option linter.unusedVariables false
set_option linter.unusedSimpArgs false
set_option maxHeartbeats 2000000
namespace Go.Proofs
open Go Go.Vc
namespace Ytmaafccepogakaa

theorem and_bits (x : Int) (h : 0 ≤ x ∧ x ≤ 255) : bitsOf .and .u8 x 3 = x % 4 ∧ (bitsOf .and .u8 x 4 != 0) = bitB 4 x ∧ (bitsOf .and .u8 x 1 != 0) = decide (x % 2 = 1) ∧ (bitsOf .and .u8 x 2 != 0) = bitB 2 x := by
  have key : ∀ n : Fin 256, bitsOf .and .u8 (n.val : Int) 3 = (n.val : Int) % 4 ∧ (bitsOf .and .u8 (n.val : Int) 4 != 0) = bitB 4 n.val ∧ (bitsOf .and .u8 (n.val : Int) 1 != 0) = decide ((n.val : Int) % 2 = 1) ∧ (bitsOf .and .u8 (n.val : Int) 2 != 0) = bitB 2 n.val := by
    decide +kernel
  have := key ⟨x.toNat, by omega⟩
  simp only [Int.toNat_of_nonneg h.1] at this
  exact this

theorem take_take_drop (b : List Int) (m n : Nat) : (b.take (m + n)).drop m = (b.drop m).take n := by
  rw [List.drop_take]
  congr 1
  omega

theorem v30 (m : Int) (n : Int) (b : List Int) : bodyVC (ctxOf tab [(38, c38)]) Try.f30 c30 (a30 (m, n, b, ())) (m, n, b, ()) = (
lett (decide ((↑b.length : Int) < m + n)) fun (y3 : Bool) =>
lett (fEntryP m.toNat n.toNat b) fun (y4 : EntryD × Bool) =>
lett (List.take n.toNat (List.drop m.toNat b)) fun (y5 : List Int) =>
lett (List.drop m.toNat (List.take (m + n).toNat b)) fun (y6 : List Int) =>
lett (List.map (fun (x : Int) => x % (4 : Int)) (List.take m.toNat b)) fun (y7 : List Int) =>
lett (List.map (bitB (4 : Int)) (List.take m.toNat b)) fun (y8 : List Bool) =>
lett (List.drop (m + n).toNat b) fun (y9 : List Int) =>
InR IntKind.i64 (m + n) ∧
(y3 = true → (([], [], [], []), [], []) = y4.fst ∧ false = y4.snd ∧ True) ∧
(y3 = false →
((0 : Int) ≤ m ∧ m ≤ (↑b.length : Int)) ∧
(∃ (s010 : Nat),
(s010 ≤ m.toNat ∧ s010 ≤ (List.take m.toNat b).length) ∧
(↑s010 : Int) = (0 : Int) ∧
m = m ∧
n = n ∧
b = b ∧
List.take m.toNat b = List.take m.toNat b ∧
(↑(List.take m.toNat b).length : Int) = (↑(List.take m.toNat b).length : Int) ∧
List.map (fun (x : Int) => x % (4 : Int)) (List.take s010 (List.take m.toNat b)) = [] ∧
List.map (bitB (4 : Int)) (List.take s010 (List.take m.toNat b)) = [] ∧ True) ∧
∀ (s10 : Nat),
lett (decide ((↑s10 : Int) < (↑(List.take m.toNat b).length : Int))) fun (y11 : Bool) =>
lett (List.take s10 (List.take m.toNat b)) fun (y12 : List Int) =>
lett (List.map (fun (x : Int) => x % (4 : Int)) y12) fun (y13 : List Int) =>
lett ((List.take m.toNat b).getD (↑s10 : Int).toNat (0 : Int)) fun (y14 : Int) =>
lett ((List.replicate (1 : Nat) (0 : Int)).set (0 : Nat) (bitsOf BinOp.and IntKind.u8 y14 (3 : Int))) fun (y15 : List Int) =>
lett ((List.replicate (1 : Nat) false).set (0 : Nat) (bitsOf BinOp.and IntKind.u8 y14 (4 : Int) != (0 : Int))) fun (y16 : List Bool) =>
s10 ≤ m.toNat ∧ s10 ≤ (List.take m.toNat b).length →
(y11 = true →
InB (↑s10 : Int) (List.take m.toNat b).length ∧
roomFor (y13.length + y15.length) (8 : Nat) ∧
roomFor ((List.map (bitB (4 : Int)) y12).length + y16.length) (1 : Nat) ∧
InR IntKind.i64 ((↑s10 : Int) + (1 : Int)) ∧
∃ (s'17 : Nat),
(s'17 ≤ m.toNat ∧ s'17 ≤ (List.take m.toNat b).length) ∧
m.toNat - s'17 < m.toNat - s10 ∧
(↑s'17 : Int) = (↑s10 : Int) + (1 : Int) ∧
m = m ∧
n = n ∧
b = b ∧
List.take m.toNat b = List.take m.toNat b ∧
(↑(List.take m.toNat b).length : Int) = (↑(List.take m.toNat b).length : Int) ∧
List.map (fun (x : Int) => x % (4 : Int)) (List.take s'17 (List.take m.toNat b)) = y13 ++ y15 ∧
List.map (bitB (4 : Int)) (List.take s'17 (List.take m.toNat b)) = List.map (bitB (4 : Int)) y12 ++ y16 ∧ True) ∧
(y11 = false →
InR IntKind.i64 (m + n) ∧
((0 : Int) ≤ m ∧ m ≤ m + n) ∧
m + n ≤ (↑b.length : Int) ∧
(∃ (s017 : Nat),
(s017 ≤ n.toNat ∧ s017 ≤ y5.length) ∧
(↑s017 : Int) = (0 : Int) ∧
m = m ∧
n = n ∧
b = b ∧
y6 = y6 ∧
(↑y6.length : Int) = (↑y6.length : Int) ∧
y7 = y13 ∧
y8 = List.map (bitB (4 : Int)) y12 ∧
List.map (fun (x : Int) => decide (x % (2 : Int) = (1 : Int))) (List.take s017 y5) = [] ∧
List.map (bitB (2 : Int)) (List.take s017 y5) = [] ∧ True) ∧
∀ (s17 : Nat),
lett (decide ((↑s17 : Int) < (↑y6.length : Int))) fun (y18 : Bool) =>
lett (List.map (fun (x : Int) => decide (x % (2 : Int) = (1 : Int))) (List.take s17 y5)) fun (y19 : List Bool) =>
lett (y6.getD (↑s17 : Int).toNat (0 : Int)) fun (y20 : Int) =>
lett ((List.replicate (1 : Nat) false).set (0 : Nat) (bitsOf BinOp.and IntKind.u8 y20 (1 : Int) != (0 : Int))) fun (y21 : List Bool) =>
lett (List.map (bitB (2 : Int)) (List.take s17 y5)) fun (y22 : List Bool) =>
lett ((List.replicate (1 : Nat) false).set (0 : Nat) (bitsOf BinOp.and IntKind.u8 y20 (2 : Int) != (0 : Int))) fun (y23 : List Bool) =>
lett (y8, y7, y19, y22) fun (y24 : List Bool × List Int × List Bool × List Bool) =>
s17 ≤ n.toNat ∧ s17 ≤ y5.length →
(y18 = true →
InB (↑s17 : Int) y6.length ∧
roomFor (y19.length + y21.length) (1 : Nat) ∧
roomFor (y22.length + y23.length) (1 : Nat) ∧
InR IntKind.i64 ((↑s17 : Int) + (1 : Int)) ∧
∃ (s'25 : Nat),
(s'25 ≤ n.toNat ∧ s'25 ≤ y5.length) ∧
n.toNat - s'25 < n.toNat - s17 ∧
(↑s'25 : Int) = (↑s17 : Int) + (1 : Int) ∧
m = m ∧
n = n ∧
b = b ∧
y6 = y6 ∧
(↑y6.length : Int) = (↑y6.length : Int) ∧
y7 = y7 ∧
y8 = y8 ∧
List.map (fun (x : Int) => decide (x % (2 : Int) = (1 : Int))) (List.take s'25 y5) =
y19 ++ y21 ∧
List.map (bitB (2 : Int)) (List.take s'25 y5) = y22 ++ y23 ∧ True) ∧
(y18 = false →
InR IntKind.i64 (m + n) ∧
((0 : Int) ≤ m + n ∧ m + n ≤ (↑b.length : Int)) ∧
short y9 ∧
((!(fTake y9).snd.snd) = true → (y24, [], []) = y4.fst ∧ false = y4.snd ∧ True) ∧
((!(fTake y9).snd.snd) = false →
short (fTake y9).snd.fst ∧
(y24, (fTake y9).fst, (fTake (fTake y9).snd.fst).fst) = y4.fst ∧
(fTake (fTake y9).snd.fst).snd.snd = y4.snd ∧ True))))) := by kernel_rfl

theorem b30 (m n : Int) (b : List Int) (hs : small m n) (hp : b.length ≤ 1000000) (hb : bytes b) : bodyVC (ctxOf tab [(38, c38)]) Try.f30 c30 (a30 (m, n, b, ())) (m, n, b, ()) := by
  obtain ⟨s1, s2, s3, s4⟩ := hs
  obtain ⟨M, rfl⟩ : ∃ M : Nat, m = M := ⟨m.toNat, by omega⟩
  obtain ⟨N, rfl⟩ : ∃ N : Nat, n = N := ⟨n.toNat, by omega⟩
  rw [v30]
  refine lett.mk fun y3 e3 => lett.mk fun y4 e4 => lett.mk fun y5 e5 => lett.mk fun y6 e6 => lett.mk fun y7 e7 => lett.mk fun y8 e8 => lett.mk fun y9 e9 => ?_
  have hMN : ((M : Int) + N).toNat = M + N := by omega
  simp only [Int.toNat_natCast, hMN] at *
  rw [take_take_drop] at e6
  rw [← e5] at e6
  have e6 := e6.symm
  subst e6
  simp only [true_and, and_true, List.nil_append, one_set]
  refine ⟨inR64 (by omega) (by omega), fun h => ?_, fun h => ?_⟩
  · rw [e3] at h
    have h := of_decide_eq_true h
    have : y4 = (zeroE, false) := by rw [e4]; unfold fEntryP; rw [if_pos (by omega)]
    rw [this]
    exact ⟨rfl, rfl⟩
  rw [e3] at h
  have h : ¬ b.length < M + N := by have := of_decide_eq_false h; omega
  have lp : (b.take M).length = M := by simp; omega
  have l5 : y5.length = N := by rw [e5]; simp; omega
  refine ⟨by omega, ⟨0, by omega, rfl, rfl, rfl⟩, fun s => lett.mk fun y11 e11 => lett.mk fun y12 e12 => lett.mk fun y13 e13 => lett.mk fun y14 e14 => lett.mk fun y15 e15 => lett.mk fun y16 e16 => ?_⟩
  rintro ⟨g1, g2⟩
  refine ⟨fun k1 => ?_, fun k1 => ?_⟩
  · rw [e11] at k1
    have k1 : s < (b.take M).length := by simpa using k1
    have hb14 := hb y14 (by rw [e14]; exact List.mem_of_mem_take (mem_getD 0 k1))
    obtain ⟨b1, b2, b3, b4⟩ := and_bits y14 hb14
    rw [b1] at e15
    rw [b2] at e16
    have l12 : y12.length ≤ 40 := by rw [e12]; simp; omega
    refine ⟨⟨by omega, by omega⟩, room (by rw [e13, e15]; simp; omega) (by omega), room (by rw [e16]; simp; omega) (by omega), inR64 (by omega) (by omega), s + 1, by omega, by omega, by omega, ?_, ?_⟩
    · rw [take_succ' 0 k1, List.map_append, ← e12, ← e13, e15, e14]; rfl
    · rw [take_succ' 0 k1, List.map_append, ← e12, e16, e14]; rfl
  · rw [e11] at k1
    have k1 : ¬ s < (b.take M).length := by simpa using k1
    have ht : y12 = b.take M := by rw [e12]; exact List.take_of_length_le (by omega)
    rw [ht, ← e7] at e13
    have e13 := e13.symm
    subst e13
    rw [ht]
    refine ⟨inR64 (by omega) (by omega), by omega, by omega, ⟨0, by omega, rfl, rfl, e8, rfl, rfl⟩, fun t => lett.mk fun y18 e18 => lett.mk fun y19 e19 => lett.mk fun y20 e20 => lett.mk fun y21 e21 => lett.mk fun y22 e22 => lett.mk fun y23 e23 => lett.mk fun y24 e24 => ?_⟩
    rintro ⟨g3, g4⟩
    refine ⟨fun k2 => ?_, fun k2 => ?_⟩
    · rw [e18] at k2
      have k2 : t < y5.length := by simpa using k2
      have hb20 := hb y20 (by rw [e20, e5]; rw [e5] at k2; exact List.mem_of_mem_drop (List.mem_of_mem_take (mem_getD 0 k2)))
      obtain ⟨b1, b2, b3, b4⟩ := and_bits y20 hb20
      rw [b3] at e21
      rw [b4] at e23
      refine ⟨⟨by omega, by omega⟩, room (by rw [e19, e21]; simp; omega) (by omega), room (by rw [e22, e23]; simp; omega) (by omega), inR64 (by omega) (by omega), t + 1, by omega, by omega, by omega, ?_, ?_⟩
      · rw [take_succ' 0 k2, List.map_append, ← e19, e21, e20]; rfl
      · rw [take_succ' 0 k2, List.map_append, ← e22, e23, e20]; rfl
    · rw [e18] at k2
      have k2 : ¬ t < y5.length := by simpa using k2
      rw [List.take_of_length_le (by omega)] at e19 e22
      have l9 : y9.length ≤ b.length := by rw [e9]; simp
      have hE : y4 = if (fTake y9).2.2 = false then ((y24, [], []), false) else ((y24, (fTake y9).1, (fTake (fTake y9).2.1).1), (fTake (fTake y9).2.1).2.2) := by
        rw [e4, e24, e8, e7, e19, e22, e5, e9]
        unfold fEntryP
        rw [if_neg h]
        rfl
      refine ⟨inR64 (by omega) (by omega), by omega, by unfold short; omega, fun k3 => ?_, fun k3 => ?_⟩
      · have k3 : (fTake y9).2.2 = false := by simpa using k3
        rw [if_pos k3] at hE
        rw [hE]
        exact ⟨rfl, rfl⟩
      · have k3 : ¬ (fTake y9).2.2 = false := by simpa using k3
        rw [if_neg k3] at hE
        rw [hE]
        refine ⟨?_, rfl, rfl⟩
        unfold short
        have : (fTake y9).2.1.length ≤ y9.length := by
          unfold fTake
          split
          · simp
          · split <;> simp <;> omega
        omega

theorem ok30 : DOk Try.prog 30 c30 :=
  DOk.of' (l := [(38, c38)]) (A := a30) tabOk ⟨ok38, trivial⟩ Try.func30 (by kernel_rfl) (by kernel_rfl) fun x hw hp => b30 x.1 x.2.1 x.2.2.1 hp.1 hp.2 fun n hn => inR_u8 (hw.2.2.1.2 n hn)

theorem v16 (m : Int) (n : Int) (b : List Int) : bodyVC (ctxOf tab [(21, c21), (32, c32)]) Try.f16 c16 (a16 (m, n, b, ())) (m, n, b, ()) = (
lett (bif fIn (0 : Int) (40 : Int) m then fIn (0 : Int) (24 : Int) n else false) fun (y3 : Bool) =>
lett (List.replicate (1 : Nat) (([], [], [], []), [], [])) fun (y4 : List ((List Bool × List Int × List Bool × List Bool) × List Int × List Int)) =>
(∃ (s05 : List EntryD × Nat),
(s05.snd ≤ b.length ∧
fR m n b = (s05.fst ++ (fR m n (List.drop s05.snd b)).fst, (↑s05.snd : Int) + (fR m n (List.drop s05.snd b)).snd) ∧
s05.fst.length ≤ s05.snd ∧ ((fIn (0 : Int) (40 : Int) m && fIn (0 : Int) (24 : Int) n) = false → s05 = ([], (0 : Nat)))) ∧
(↑s05.snd : Int) = (0 : Int) ∧ m = m ∧ n = n ∧ b = b ∧ s05.fst = [] ∧ True) ∧
∀ (s5 : List EntryD × Nat),
lett (fR m n (List.drop s5.snd b)) fun (y6 : List EntryD × Int) =>
lett (bif y3 then decide ((↑s5.snd : Int) + (4 : Int) ≤ (↑b.length : Int)) else false) fun (y7 : Bool) =>
lett (b.getD (↑s5.snd : Int).toNat (0 : Int) * (256 : Int)) fun (y8 : Int) =>
lett ((4 : Int) + y8 + b.getD ((↑s5.snd : Int) + (1 : Int)).toNat (0 : Int)) fun (y9 : Int) =>
lett (decide ((↑s5.snd : Int) + y9 > (↑b.length : Int))) fun (y10 : Bool) =>
lett (List.drop (↑s5.snd : Int).toNat (List.take ((↑s5.snd : Int) + y9).toNat b)) fun (y11 : List Int) =>
lett (fEntryR m.toNat n.toNat y11) fun (y12 : EntryD × Bool) =>
s5.snd ≤ b.length ∧
fR m n b = (s5.fst ++ y6.fst, (↑s5.snd : Int) + y6.snd) ∧
s5.fst.length ≤ s5.snd ∧ ((fIn (0 : Int) (40 : Int) m && fIn (0 : Int) (24 : Int) n) = false → s5 = ([], (0 : Nat))) →
True ∧
(fIn (0 : Int) (40 : Int) m = true → True) ∧
(y3 = true → InR IntKind.i64 ((↑s5.snd : Int) + (4 : Int))) ∧
(y7 = true →
InB (↑s5.snd : Int) b.length ∧
InR IntKind.i64 y8 ∧
InR IntKind.i64 ((4 : Int) + y8) ∧
InR IntKind.i64 ((↑s5.snd : Int) + (1 : Int)) ∧
InB ((↑s5.snd : Int) + (1 : Int)) b.length ∧
InR IntKind.i64 y9 ∧
InR IntKind.i64 ((↑s5.snd : Int) + y9) ∧
(y10 = true → s5.fst = (fRead m n b).fst ∧ (↑s5.snd : Int) = (fRead m n b).snd ∧ True) ∧
(y10 = false →
InR IntKind.i64 ((↑s5.snd : Int) + y9) ∧
((0 : Int) ≤ (↑s5.snd : Int) ∧ (↑s5.snd : Int) ≤ (↑s5.snd : Int) + y9) ∧
(↑s5.snd : Int) + y9 ≤ (↑b.length : Int) ∧
(small m n ∧ short y11 ∧ (4 : Nat) ≤ y11.length) ∧
((!y12.snd) = true → s5.fst = (fRead m n b).fst ∧ (↑s5.snd : Int) = (fRead m n b).snd ∧ True) ∧
((!y12.snd) = false →
roomFor (s5.fst.length + (y4.set (0 : Nat) y12.fst).length) (144 : Nat) ∧
InR IntKind.i64 ((↑s5.snd : Int) + y9) ∧
∃ (s'13 : List EntryD × Nat),
(s'13.snd ≤ b.length ∧
fR m n b = (s'13.fst ++ (fR m n (List.drop s'13.snd b)).fst, (↑s'13.snd : Int) + (fR m n (List.drop s'13.snd b)).snd) ∧
s'13.fst.length ≤ s'13.snd ∧
((fIn (0 : Int) (40 : Int) m && fIn (0 : Int) (24 : Int) n) = false → s'13 = ([], (0 : Nat)))) ∧
b.length - s'13.snd < b.length - s5.snd ∧
(↑s'13.snd : Int) = (↑s5.snd : Int) + y9 ∧ m = m ∧ n = n ∧ b = b ∧ s'13.fst = s5.fst ++ y4.set (0 : Nat) y12.fst ∧ True))) ∧
(y7 = false → s5.fst = (fRead m n b).fst ∧ (↑s5.snd : Int) = (fRead m n b).snd ∧ True)) := by kernel_rfl

theorem first_short {m n : Nat} {b : List Int} (h : b.length < 4) : fFirst m n b = none := by
  unfold fFirst
  rw [if_pos h]

theorem first_long {m n : Nat} {b : List Int} (h : b.length < (b.getD 0 0 * 256 + b.getD 1 0).toNat + 4) : fFirst m n b = none := by
  unfold fFirst
  split
  · rfl
  · simp only
    rw [if_pos h]

theorem getD_drop {b : List Int} {a i : Nat} : (b.drop a).getD i 0 = b.getD (a + i) 0 := by simp [List.getD_eq_getElem?_getD]

theorem getD_byte {b : List Int} (hb : bytes b) (i : Nat) : 0 ≤ b.getD i 0 ∧ b.getD i 0 ≤ 255 := by
  by_cases h : i < b.length
  · exact hb _ (mem_getD 0 h)
  · simp [List.getD_eq_getElem?_getD, List.getElem?_eq_none (Nat.le_of_not_lt h)]

theorem fR_none {m n : Int} (hm : 0 ≤ m) (hn : 0 ≤ n) {b : List Int} (h : fFirst m.toNat n.toNat b = none) : fR m n b = ([], 0) := by rw [fR_step hm hn, h]

theorem fR_some {m n : Int} (hm : 0 ≤ m) (hn : 0 ≤ n) {b : List Int} {e : EntryD} {k : Nat} (h : fFirst m.toNat n.toNat b = some (e, k)) : fR m n b = (e :: (fR m n (b.drop k)).1, (k : Int) + (fR m n (b.drop k)).2) := by rw [fR_step hm hn, h]

theorem fR_len {m n : Int} (hm : 0 ≤ m) (hn : 0 ≤ n) : ∀ (k : Nat) (b : List Int), b.length ≤ k → (fR m n b).1.length ≤ b.length
  | 0, b, h => by
    rw [fR_none hm hn (first_short (by omega))]; simp
  | k + 1, b, h => by
    cases hf : fFirst m.toNat n.toNat b with
    | none => rw [fR_none hm hn hf]; simp
    | some p =>
      obtain ⟨e, c⟩ := p
      have h4 := fFirst_pos hm hn hf
      obtain ⟨_, _, h5, _⟩ := fFirst_some hm hn hf
      rw [fR_some hm hn hf]
      have := fR_len hm hn k (b.drop c) (by simp; omega)
      simp at this ⊢
      omega

theorem bif_and {a b : Bool} : (bif a then b else false) = (a && b) := by cases a <;> rfl

theorem small_of {m n : Int} (h : (bif fIn 0 40 m then fIn 0 24 n else false) = true) : small m n := by
  cases h1 : fIn 0 40 m with
  | false => rw [h1] at h; cases h
  | true =>
    rw [h1] at h
    have h1 := fIn_iff.1 h1
    have h2 := fIn_iff.1 h
    exact ⟨h1.1, h1.2, h2.1, h2.2⟩

theorem b16 (m n : Int) (b : List Int) (hp : b.length ≤ 1000000) (hb : bytes b) : bodyVC (ctxOf tab [(21, c21), (32, c32)]) Try.f16 c16 (a16 (m, n, b, ())) (m, n, b, ()) := by
  rw [v16]
  refine lett.mk fun y3 e3 => lett.mk fun y4 e4 => ?_
  have e4 : y4 = [zeroE] := e4
  simp only [true_and, and_true, Int.toNat_natCast]
  refine ⟨⟨([], 0), ⟨by omega, by simp, Nat.le_refl _, fun _ => rfl⟩, rfl, rfl⟩, ?_⟩
  rintro ⟨out, at0⟩
  refine lett.mk fun y6 e6 => lett.mk fun y7 e7 => lett.mk fun y8 e8 => lett.mk fun y9 e9 => lett.mk fun y10 e10 => lett.mk fun y11 e11 => lett.mk fun y12 e12 => ?_
  simp only at *
  rintro ⟨g1, g2, g3, g4⟩
  have hex : y3 = true → y6 = ([], 0) → out = (fRead m n b).1 ∧ (at0 : Int) = (fRead m n b).2 := fun h3 h6 => by
    unfold fRead
    rw [e3] at h3
    have : (fIn 0 40 m && fIn 0 24 n) = true := by rw [← bif_and]; exact h3
    rw [this]
    show out = (fR m n b).1 ∧ (at0 : Int) = (fR m n b).2
    rw [g2, h6]
    simp
  have h7s : y7 = true → y3 = true ∧ at0 + 4 ≤ b.length := fun h => by
    rw [e7] at h
    cases h3 : y3 with
    | false => rw [h3] at h; cases h
    | true => rw [h3] at h; have := of_decide_eq_true h; exact ⟨rfl, by omega⟩
  have hb0 := getD_byte hb at0
  have hb1 := getD_byte hb (at0 + 1)
  have ei : ((at0 : Int) + 1).toNat = at0 + 1 := by omega
  rw [ei] at e9
  obtain ⟨k, hk⟩ : ∃ k : Nat, (k : Int) = b.getD at0 0 * 256 + b.getD (at0 + 1) 0 := ⟨(b.getD at0 0 * 256 + b.getD (at0 + 1) 0).toNat, by omega⟩
  have e9 : y9 = 4 + k := by omega
  have hkd : ((b.drop at0).getD 0 0 * 256 + (b.drop at0).getD 1 0).toNat = k := by rw [getD_drop, getD_drop, Nat.add_zero]; omega
  refine ⟨fun _ => trivial, fun _ => inR64 (by omega) (by omega), fun h7 => ?_, fun h7 => ?_⟩
  · obtain ⟨h3, h4⟩ := h7s h7
    have hs : small m n := small_of (by rw [← e3]; exact h3)
    obtain ⟨s1, s2, s3, s4⟩ := hs
    refine ⟨⟨by omega, by omega⟩, inR64 (by omega) (by omega), inR64 (by omega) (by omega), inR64 (by omega) (by omega), ⟨by omega, by omega⟩, inR64 (by omega) (by omega), inR64 (by omega) (by omega), fun h10 => ?_, fun h10 => ?_⟩
    · rw [e10] at h10
      have h10 := of_decide_eq_true h10
      refine hex h3 ?_
      rw [e6]
      exact fR_none s1 s3 (first_long (by rw [hkd]; simp; omega))
    · rw [e10] at h10
      have h10 := of_decide_eq_false h10
      have e11 : y11 = (b.drop at0).take (k + 4) := by
        rw [e11, show ((at0 : Int) + y9).toNat = at0 + (k + 4) by omega, take_take_drop]
      have l11 : y11.length = k + 4 := by rw [e11]; simp; omega
      have hF := fEntryR_first (b := b.drop at0) s1 s3 hkd.symm (by simp; omega) (by simp; omega)
      rw [← e11, ← e12] at hF
      refine ⟨inR64 (by omega) (by omega), by omega, by omega, ⟨⟨s1, s2, s3, s4⟩, by unfold short; omega, by omega⟩, fun h => ?_, fun h => ?_⟩
      · have h : y12.2 = false := by simpa using h
        rw [h] at hF
        refine hex h3 ?_
        rw [e6]
        exact fR_none s1 s3 hF
      · have h : y12.2 = true := by simpa using h
        rw [h, if_pos rfl] at hF
        have hR := fR_some s1 s3 hF
        rw [← e6] at hR
        rw [List.drop_drop] at hR
        refine ⟨room (by rw [e4]; simp; omega) (by omega), inR64 (by omega) (by omega), (out ++ [y12.1], at0 + (k + 4)), ⟨by show at0 + (k + 4) ≤ _; omega, ?_, by simp; omega, fun hw => ?_⟩, by show b.length - (at0 + (k + 4)) < _; omega, by show ((at0 + (k + 4) : Nat) : Int) = _; omega, by rw [e4]; rfl⟩
        · rw [g2, hR]
          simp only [List.append_assoc, List.singleton_append, Prod.mk.injEq, true_and]
          show (at0 : Int) + (((k + 4 : Nat) : Int) + _) = ((at0 + (k + 4) : Nat) : Int) + _
          omega
        · exfalso
          rw [e3, bif_and, hw] at h3
          cases h3
  · cases h3 : y3 with
    | false =>
      rw [e3] at h3
      have hw : (fIn 0 40 m && fIn 0 24 n) = false := by rw [← bif_and]; exact h3
      have := g4 hw
      cases this
      unfold fRead
      rw [hw]
      exact ⟨rfl, rfl⟩
    | true =>
      refine hex h3 ?_
      rw [e7, h3] at h7
      have h7 := of_decide_eq_false h7
      have hs : small m n := small_of (by rw [← e3]; exact h3)
      rw [e6]
      exact fR_none hs.1 hs.2.2.1 (first_short (by simp; omega))

theorem ok16 (ok32 : DOk Try.prog 32 c32) : DOk Try.prog 16 c16 :=
  DOk.of' (l := [(21, c21), (32, c32)]) (A := a16) tabOk ⟨ok21, ok32, trivial⟩ Try.func16 (by kernel_rfl) (by kernel_rfl) fun x hw hp => b16 x.1 x.2.1 x.2.2.1 hp fun n hn => inR_u8 (hw.2.2.1.2 n hn)

theorem fTake_len (b : List Int) : (fTake b).1.length ≤ b.length ∧ (fTake b).2.1.length ≤ b.length := by
  unfold fTake
  split
  · simp
  · split <;> simp <;> omega

theorem fEntryP_short {m n : Nat} {b : List Int} (h : b.length ≤ 1000000) : shortE (fEntryP m n b).1 := by
  have t1 := fTake_len (b.drop (m + n))
  have t2 := fTake_len (fTake (b.drop (m + n))).2.1
  have t3 : (b.drop (m + n)).length ≤ b.length := by simp
  have l1 : (b.take m).length ≤ b.length := by simp; omega
  have l2 : ((b.drop m).take n).length ≤ b.length := by simp; omega
  unfold fEntryP
  split
  · simp [shortE, zeroE, short]
  · simp only
    split
    · simp only [shortE, short, List.length_map, List.length_nil]
      omega
    · simp only [shortE, short, List.length_map]
      omega

theorem or_two (a b : Int) (ha : 0 ≤ a ∧ a ≤ 255) (hb : 0 ≤ b ∧ b ≤ 255) : bitsOf .or .i64 (IntKind.i64.wrap (a * ((2 : Int) ^ min (Int.toNat (8 : Int)) IntKind.i64.bits))) b = a * 256 + b := by
  obtain ⟨x, rfl⟩ : ∃ x : Nat, a = x := ⟨a.toNat, by omega⟩
  obtain ⟨y, rfl⟩ : ∃ y : Nat, b = y := ⟨b.toNat, by omega⟩
  have e : ((2 : Int) ^ min (Int.toNat (8 : Int)) IntKind.i64.bits) = 256 := by decide
  rw [e, IntWalk.i64_in _ (by omega)]
  unfold bitsOf
  show IntKind.i64.wrap (((BitVec.ofInt 64 ((x : Int) * 256) ||| BitVec.ofInt 64 (y : Int)).toNat : Nat) : Int) = _
  have h1 : BitVec.ofInt 64 ((x : Int) * 256) = BitVec.ofNat 64 (x * 256) := by
    rw [show (x : Int) * 256 = ((x * 256 : Nat) : Int) by omega, BitVec.ofInt_natCast]
  rw [h1, BitVec.ofInt_natCast, BitVec.toNat_or, BitVec.toNat_ofNat, BitVec.toNat_ofNat, Nat.mod_eq_of_lt (by omega), Nat.mod_eq_of_lt (by omega)]
  have h2 := Nat.shiftLeft_add_eq_or_of_lt (b := y) (i := 8) (by omega) x
  rw [Nat.shiftLeft_eq] at h2
  have h3 : x * 256 ||| y = x * 256 + y := by
    have : (2 : Nat) ^ 8 = 256 := rfl
    rw [this] at h2
    exact h2.symm
  rw [h3, IntWalk.i64_in _ (by omega)]
  omega

theorem v15 (m : Int) (n : Int) (b : List Int) : bodyVC (ctxOf tab [(20, c20), (30, c30), (12, c12d), (31, c31)]) Try.f15 c15 (a15 (m, n, b, ())) (m, n, b, ()) = (
lett ((List.replicate (1 : Nat) (0 : Int)).set (0 : Nat) m) fun (y3 : List Int) =>
lett (!y3.all (fIn (0 : Int) (40 : Int))) fun (y4 : Bool) =>
lett ((List.replicate (1 : Nat) (0 : Int)).set (0 : Nat) n) fun (y5 : List Int) =>
lett (!y5.all (fIn (0 : Int) (24 : Int))) fun (y6 : Bool) =>
lett ((2 : Int) ^ min (Int.toNat (8 : Int)) IntKind.i64.bits) fun (y7 : Int) =>
lett (List.replicate (1 : Nat) (([], [], [], []), [], [])) fun (y8 : List ((List Bool × List Int × List Bool × List Bool) × List Int × List Int)) =>
short y3 ∧
(y4 = false →
short y5 ∧
(y6 = true → [] = (fRead m n b).fst ∧ (0 : Int) = (fRead m n b).snd ∧ True) ∧
(y6 = false →
(∃ (s09 : List EntryD × Nat),
(s09.snd ≤ b.length ∧
fR m n b = (s09.fst ++ (fR m n (List.drop s09.snd b)).fst, (↑s09.snd : Int) + (fR m n (List.drop s09.snd b)).snd) ∧
s09.fst.length ≤ s09.snd ∧ ((fIn (0 : Int) (40 : Int) m && fIn (0 : Int) (24 : Int) n) = false → s09 = ([], (0 : Nat)))) ∧
(↑s09.snd : Int) = (0 : Int) ∧ m = m ∧ n = n ∧ b = b ∧ s09.fst = [] ∧ True) ∧
∀ (s9 : List EntryD × Nat),
lett (fR m n (List.drop s9.snd b)) fun (y10 : List EntryD × Int) =>
lett (List.drop (↑s9.snd : Int).toNat b) fun (y11 : List Int) =>
lett (decide ((↑y11.length : Int) < (4 : Int))) fun (y12 : Bool) =>
lett (bitsOf BinOp.or IntKind.i64 (IntKind.i64.wrap (y11.getD (Int.toNat (0 : Int)) (0 : Int) * y7)) (y11.getD (Int.toNat (1 : Int)) (0 : Int))) fun (y13 : Int) =>
lett (decide ((↑y11.length : Int) < y13 + (4 : Int))) fun (y14 : Bool) =>
lett (List.drop (Int.toNat (2 : Int)) (List.take ((2 : Int) + y13).toNat y11)) fun (y15 : List Int) =>
lett (fEntryP m.toNat n.toNat y15) fun (y16 : EntryD × Bool) =>
lett (bif !y16.snd then true else !fPut m n y16.fst == List.take (y13 + (4 : Int)).toNat y11) fun (y17 : Bool) =>
lett ((↑s9.snd : Int) + (y13 + (4 : Int))) fun (y18 : Int) =>
s9.snd ≤ b.length ∧
fR m n b = (s9.fst ++ y10.fst, (↑s9.snd : Int) + y10.snd) ∧
s9.fst.length ≤ s9.snd ∧ ((fIn (0 : Int) (40 : Int) m && fIn (0 : Int) (24 : Int) n) = false → s9 = ([], (0 : Nat))) →
((0 : Int) ≤ (↑s9.snd : Int) ∧ (↑s9.snd : Int) ≤ (↑b.length : Int)) ∧
(y12 = true → s9.fst = (fRead m n b).fst ∧ (↑s9.snd : Int) = (fRead m n b).snd ∧ True) ∧
(y12 = false →
InB (0 : Int) y11.length ∧
(0 : Int) ≤ (8 : Int) ∧
InB (1 : Int) y11.length ∧
InR IntKind.i64 (y13 + (4 : Int)) ∧
(y14 = true → s9.fst = (fRead m n b).fst ∧ (↑s9.snd : Int) = (fRead m n b).snd ∧ True) ∧
(y14 = false →
InR IntKind.i64 ((2 : Int) + y13) ∧
((0 : Int) ≤ (2 : Int) ∧ (2 : Int) ≤ (2 : Int) + y13) ∧
(2 : Int) + y13 ≤ (↑y11.length : Int) ∧
(small m n ∧ short y15) ∧
((!y16.snd) = false → shortE y16.fst) ∧
((!y16.snd) = false → InR IntKind.i64 (y13 + (4 : Int))) ∧
((!y16.snd) = false → (0 : Int) ≤ y13 + (4 : Int) ∧ y13 + (4 : Int) ≤ (↑y11.length : Int)) ∧
((!y16.snd) = false → short (fPut m n y16.fst)) ∧
(y17 = true → s9.fst = (fRead m n b).fst ∧ (↑s9.snd : Int) = (fRead m n b).snd ∧ True) ∧
(y17 = false →
roomFor (s9.fst.length + (y8.set (0 : Nat) y16.fst).length) (144 : Nat) ∧
InR IntKind.i64 (y13 + (4 : Int)) ∧
InR IntKind.i64 y18 ∧
∃ (s'19 : List EntryD × Nat),
(s'19.snd ≤ b.length ∧
fR m n b =
(s'19.fst ++ (fR m n (List.drop s'19.snd b)).fst,
(↑s'19.snd : Int) + (fR m n (List.drop s'19.snd b)).snd) ∧
s'19.fst.length ≤ s'19.snd ∧
((fIn (0 : Int) (40 : Int) m && fIn (0 : Int) (24 : Int) n) = false → s'19 = ([], (0 : Nat)))) ∧
b.length - s'19.snd < b.length - s9.snd ∧
(↑s'19.snd : Int) = y18 ∧
m = m ∧ n = n ∧ b = b ∧ s'19.fst = s9.fst ++ y8.set (0 : Nat) y16.fst ∧ True))))) ∧
(y4 = !false →
(true = true → [] = (fRead m n b).fst ∧ (0 : Int) = (fRead m n b).snd ∧ True) ∧
(true = false →
(∃ (s09 : List EntryD × Nat),
(s09.snd ≤ b.length ∧
fR m n b = (s09.fst ++ (fR m n (List.drop s09.snd b)).fst, (↑s09.snd : Int) + (fR m n (List.drop s09.snd b)).snd) ∧
s09.fst.length ≤ s09.snd ∧ ((fIn (0 : Int) (40 : Int) m && fIn (0 : Int) (24 : Int) n) = false → s09 = ([], (0 : Nat)))) ∧
(↑s09.snd : Int) = (0 : Int) ∧ m = m ∧ n = n ∧ b = b ∧ s09.fst = [] ∧ True) ∧
∀ (s9 : List EntryD × Nat),
lett (fR m n (List.drop s9.snd b)) fun (y10 : List EntryD × Int) =>
lett (List.drop (↑s9.snd : Int).toNat b) fun (y11 : List Int) =>
lett (decide ((↑y11.length : Int) < (4 : Int))) fun (y12 : Bool) =>
lett (bitsOf BinOp.or IntKind.i64 (IntKind.i64.wrap (y11.getD (Int.toNat (0 : Int)) (0 : Int) * y7)) (y11.getD (Int.toNat (1 : Int)) (0 : Int))) fun (y13 : Int) =>
lett (decide ((↑y11.length : Int) < y13 + (4 : Int))) fun (y14 : Bool) =>
lett (List.drop (Int.toNat (2 : Int)) (List.take ((2 : Int) + y13).toNat y11)) fun (y15 : List Int) =>
lett (fEntryP m.toNat n.toNat y15) fun (y16 : EntryD × Bool) =>
lett (bif !y16.snd then true else !fPut m n y16.fst == List.take (y13 + (4 : Int)).toNat y11) fun (y17 : Bool) =>
lett ((↑s9.snd : Int) + (y13 + (4 : Int))) fun (y18 : Int) =>
s9.snd ≤ b.length ∧
fR m n b = (s9.fst ++ y10.fst, (↑s9.snd : Int) + y10.snd) ∧
s9.fst.length ≤ s9.snd ∧ ((fIn (0 : Int) (40 : Int) m && fIn (0 : Int) (24 : Int) n) = false → s9 = ([], (0 : Nat))) →
((0 : Int) ≤ (↑s9.snd : Int) ∧ (↑s9.snd : Int) ≤ (↑b.length : Int)) ∧
(y12 = true → s9.fst = (fRead m n b).fst ∧ (↑s9.snd : Int) = (fRead m n b).snd ∧ True) ∧
(y12 = false →
InB (0 : Int) y11.length ∧
(0 : Int) ≤ (8 : Int) ∧
InB (1 : Int) y11.length ∧
InR IntKind.i64 (y13 + (4 : Int)) ∧
(y14 = true → s9.fst = (fRead m n b).fst ∧ (↑s9.snd : Int) = (fRead m n b).snd ∧ True) ∧
(y14 = false →
InR IntKind.i64 ((2 : Int) + y13) ∧
((0 : Int) ≤ (2 : Int) ∧ (2 : Int) ≤ (2 : Int) + y13) ∧
(2 : Int) + y13 ≤ (↑y11.length : Int) ∧
(small m n ∧ short y15) ∧
((!y16.snd) = false → shortE y16.fst) ∧
((!y16.snd) = false → InR IntKind.i64 (y13 + (4 : Int))) ∧
((!y16.snd) = false → (0 : Int) ≤ y13 + (4 : Int) ∧ y13 + (4 : Int) ≤ (↑y11.length : Int)) ∧
((!y16.snd) = false → short (fPut m n y16.fst)) ∧
(y17 = true → s9.fst = (fRead m n b).fst ∧ (↑s9.snd : Int) = (fRead m n b).snd ∧ True) ∧
(y17 = false →
roomFor (s9.fst.length + (y8.set (0 : Nat) y16.fst).length) (144 : Nat) ∧
InR IntKind.i64 (y13 + (4 : Int)) ∧
InR IntKind.i64 y18 ∧
∃ (s'19 : List EntryD × Nat),
(s'19.snd ≤ b.length ∧
fR m n b =
(s'19.fst ++ (fR m n (List.drop s'19.snd b)).fst,
(↑s'19.snd : Int) + (fR m n (List.drop s'19.snd b)).snd) ∧
s'19.fst.length ≤ s'19.snd ∧
((fIn (0 : Int) (40 : Int) m && fIn (0 : Int) (24 : Int) n) = false → s'19 = ([], (0 : Nat)))) ∧
b.length - s'19.snd < b.length - s9.snd ∧
(↑s'19.snd : Int) = y18 ∧
m = m ∧ n = n ∧ b = b ∧ s'19.fst = s9.fst ++ y8.set (0 : Nat) y16.fst ∧ True)))))) := by kernel_rfl

theorem b15 (m n : Int) (b : List Int) (hp : b.length ≤ 1000000) (hb : bytes b) : bodyVC (ctxOf tab [(20, c20), (30, c30), (12, c12d), (31, c31)]) Try.f15 c15 (a15 (m, n, b, ())) (m, n, b, ()) := by
  rw [v15]
  refine lett.mk fun y3 e3 => lett.mk fun y4 e4 => lett.mk fun y5 e5 => lett.mk fun y6 e6 => lett.mk fun y7 e7 => lett.mk fun y8 e8 => ?_
  have e8 : y8 = [zeroE] := e8
  rw [e3, one_all] at e4
  rw [e5, one_all] at e6
  have hnot : y4 = true ∨ y6 = true → [] = (fRead m n b).1 ∧ (0 : Int) = (fRead m n b).2 := fun h => by
    have : (fIn 0 40 m && fIn 0 24 n) = false := by
      rw [e4, e6] at h
      cases h1 : fIn 0 40 m <;> cases h2 : fIn 0 24 n <;> simp_all
    unfold fRead
    rw [this]
    exact ⟨rfl, rfl⟩
  simp only [true_and, and_true, Int.toNat_natCast]
  refine ⟨by rw [e3]; unfold short; simp, fun h4 => ⟨by rw [e5]; unfold short; simp, fun h6 => hnot (.inr h6), fun h6 => ⟨⟨([], 0), ⟨by omega, by simp, Nat.le_refl _, fun _ => rfl⟩, rfl, rfl⟩, ?_⟩⟩, fun h4 => ⟨fun _ => hnot (.inl h4), fun h => by cases h⟩⟩
  have hw : (fIn 0 40 m && fIn 0 24 n) = true := by
    rw [e4] at h4
    rw [e6] at h6
    cases h1 : fIn 0 40 m <;> cases h2 : fIn 0 24 n <;> simp_all
  obtain ⟨s1, s2, s3, s4⟩ := small_of (by rw [bif_and]; exact hw)
  have hfR : fRead m n b = fR m n b := by unfold fRead; rw [hw]; rfl
  rintro ⟨out, at0⟩
  refine lett.mk fun y10 e10 => lett.mk fun y11 e11 => lett.mk fun y12 e12 => lett.mk fun y13 e13 => lett.mk fun y14 e14 => lett.mk fun y15 e15 => lett.mk fun y16 e16 => lett.mk fun y17 e17 => lett.mk fun y18 e18 => ?_
  simp only at *
  rintro ⟨g1, g2, g3, g4⟩
  have hex : y10 = ([], 0) → out = (fRead m n b).1 ∧ (at0 : Int) = (fRead m n b).2 := fun h => by
    rw [hfR, g2, h]
    simp
  rw [← e11] at e10
  have l11 : y11.length = b.length - at0 := by rw [e11]; simp
  have hb11 : bytes y11 := fun x hx => hb x (List.mem_of_mem_drop (e11 ▸ hx))
  have hb0 := getD_byte hb11 0
  have hb1 := getD_byte hb11 1
  rw [e7] at e13
  have e13 : y13 = y11.getD 0 0 * 256 + y11.getD 1 0 := by rw [e13]; exact or_two _ _ hb0 hb1
  obtain ⟨k, hk⟩ : ∃ k : Nat, (k : Int) = y13 := ⟨y13.toNat, by omega⟩
  have hkd : (y11.getD 0 0 * 256 + y11.getD 1 0).toNat = k := by omega
  refine ⟨by omega, fun h12 => ?_, fun h12 => ?_⟩
  · rw [e12] at h12
    have h12 := of_decide_eq_true h12
    refine hex ?_
    rw [e10]
    exact fR_none s1 s3 (first_short (by omega))
  · rw [e12] at h12
    have h12 := of_decide_eq_false h12
    refine ⟨⟨by omega, by omega⟩, by omega, ⟨by omega, by omega⟩, inR64 (by omega) (by omega), fun h14 => ?_, fun h14 => ?_⟩
    · rw [e14] at h14
      have h14 := of_decide_eq_true h14
      refine hex ?_
      rw [e10]
      exact fR_none s1 s3 (first_long (by rw [hkd]; omega))
    · rw [e14] at h14
      have h14 := of_decide_eq_false h14
      have e15 : y15 = (y11.drop 2).take k := by
        rw [e15, show ((2 : Int) + y13).toNat = 2 + k by omega]
        exact take_take_drop y11 2 k
      have hF : fFirst m.toNat n.toNat y11 = if (y16.2 && fPut m n y16.1 == y11.take (k + 4)) = true then some (y16.1, k + 4) else none := by
        unfold fFirst
        rw [if_neg (by omega)]
        simp only [hkd]
        rw [if_neg (by omega), ← e15, ← e16, Int.toNat_of_nonneg s1, Int.toNat_of_nonneg s3]
      have e17 : y17 = !(y16.2 && fPut m n y16.1 == y11.take (k + 4)) := by
        rw [e17, show (y13 + 4).toNat = k + 4 by omega]
        cases y16.2 <;> rfl
      have l15 : y15.length ≤ 1000000 := by rw [e15]; simp; omega
      have hput := fPut_short (m := m) (n := n) (e := y16.1)
      refine ⟨inR64 (by omega) (by omega), by omega, by omega, ⟨⟨s1, s2, s3, s4⟩, l15⟩, fun _ => by rw [e16]; exact fEntryP_short l15, fun _ => inR64 (by omega) (by omega), fun _ => by omega, fun _ => by unfold short; omega, fun h => ?_, fun h => ?_⟩
      · rw [e17] at h
        have h : (y16.2 && fPut m n y16.1 == y11.take (k + 4)) = false := by
          cases hh : (y16.2 && fPut m n y16.1 == y11.take (k + 4)) with
          | false => rfl
          | true => rw [hh] at h; cases h
        rw [h] at hF
        refine hex ?_
        rw [e10]
        exact fR_none s1 s3 hF
      · rw [e17] at h
        have h : (y16.2 && fPut m n y16.1 == y11.take (k + 4)) = true := by
          cases hh : (y16.2 && fPut m n y16.1 == y11.take (k + 4)) with
          | true => rfl
          | false => rw [hh] at h; cases h
        rw [h, if_pos rfl] at hF
        have hR := fR_some s1 s3 hF
        rw [← e10, e11, List.drop_drop] at hR
        refine ⟨room (by rw [e8]; simp; omega) (by omega), inR64 (by omega) (by omega), inR64 (by omega) (by omega), (out ++ [y16.1], at0 + (k + 4)), ⟨by show at0 + (k + 4) ≤ _; omega, ?_, by simp; omega, fun hw' => by rw [hw] at hw'; cases hw'⟩, by show b.length - (at0 + (k + 4)) < _; omega, by show ((at0 + (k + 4) : Nat) : Int) = _; omega, by rw [e8]; rfl⟩
        rw [g2, hR]
        simp only [List.append_assoc, List.singleton_append, Prod.mk.injEq, true_and]
        show (at0 : Int) + (((k + 4 : Nat) : Int) + _) = ((at0 + (k + 4) : Nat) : Int) + _
        omega

theorem ok15 : DOk Try.prog 15 c15 :=
  DOk.of' (l := [(20, c20), (30, c30), (12, c12d), (31, c31)]) (A := a15) tabOk ⟨ok20, ok30, ok12d, ok31, trivial⟩ Try.func15 (by kernel_rfl) (by kernel_rfl) fun x hw hp => b15 x.1 x.2.1 x.2.2.1 hp fun n hn => inR_u8 (hw.2.2.1.2 n hn)

theorem v18 (m : Int) (n : Int) (l : List ((List Bool × List Int × List Bool × List Bool) × List Int × List Int)) : obodyVC (ctxOf tab [(13, c13)]) Try.f18 c18 (a18 (m, n, l, ())) (m, n, l, ()) = (
lett (([], [], [], []), [], []) fun (y3 : (List Bool × List Int × List Bool × List Bool) × List Int × List Int) =>
lett (fBook m n l ([], [], [])) fun (y4 : List Int × List Int × List EntryD) =>
(∃ (s05 : Nat),
s05 ≤ l.length ∧
(↑s05 : Int) = (0 : Int) ∧
m = m ∧
n = n ∧
l = l ∧
(↑l.length : Int) = (↑l.length : Int) ∧
(fBook m n (List.take s05 l) ([], [], [])).fst = [] ∧ (fBook m n (List.take s05 l) ([], [], [])).snd.fst = [] ∧ (fBook m n (List.take s05 l) ([], [], [])).snd.snd = [] ∧ True) ∧
∀ (s5 : Nat),
lett (decide ((↑s5 : Int) < (↑l.length : Int))) fun (y6 : Bool) =>
lett (l.getD (↑s5 : Int).toNat y3) fun (y7 : (List Bool × List Int × List Bool × List Bool) × List Int × List Int) =>
lett (decide ((↑(fPut m n y7).length : Int) > (0 : Int))) fun (y8 : Bool) =>
lett (fBook m n (List.take s5 l) ([], [], [])) fun (y9 : List Int × List Int × List EntryD) =>
lett (y9.fst ++ fPut m n y7) fun (y10 : List Int) =>
lett ((List.replicate (1 : Nat) (0 : Int)).set (0 : Nat) (↑y10.length : Int)) fun (y11 : List Int) =>
lett ((List.replicate (1 : Nat) y3).set (0 : Nat) y7) fun (y12 : List ((List Bool × List Int × List Bool × List Bool) × List Int × List Int)) =>
s5 ≤ l.length →
(y6 = true →
InB (↑s5 : Int) l.length ∧
shortE y7 ∧
(y8 = true →
roomFor (y9.fst.length + (fPut m n y7).length) (1 : Nat) ∧
roomFor (y9.snd.fst.length + y11.length) (8 : Nat) ∧
roomFor (y9.snd.snd.length + y12.length) (144 : Nat) ∧
InR IntKind.i64 ((↑s5 : Int) + (1 : Int)) ∧
∃ (s'13 : Nat),
s'13 ≤ l.length ∧
l.length - s'13 < l.length - s5 ∧
(↑s'13 : Int) = (↑s5 : Int) + (1 : Int) ∧
m = m ∧
n = n ∧
l = l ∧
(↑l.length : Int) = (↑l.length : Int) ∧
(fBook m n (List.take s'13 l) ([], [], [])).fst = y10 ∧
(fBook m n (List.take s'13 l) ([], [], [])).snd.fst = y9.snd.fst ++ y11 ∧
(fBook m n (List.take s'13 l) ([], [], [])).snd.snd = y9.snd.snd ++ y12 ∧ True) ∧
(y8 = false →
InR IntKind.i64 ((↑s5 : Int) + (1 : Int)) ∧
∃ (s'13 : Nat),
s'13 ≤ l.length ∧
l.length - s'13 < l.length - s5 ∧
(↑s'13 : Int) = (↑s5 : Int) + (1 : Int) ∧
m = m ∧
n = n ∧
l = l ∧
(↑l.length : Int) = (↑l.length : Int) ∧
(fBook m n (List.take s'13 l) ([], [], [])).fst = y9.fst ∧
(fBook m n (List.take s'13 l) ([], [], [])).snd.fst = y9.snd.fst ∧ (fBook m n (List.take s'13 l) ([], [], [])).snd.snd = y9.snd.snd ∧ True)) ∧
(y6 = false → y9.fst = y4.fst ∧ y9.snd.fst = y4.snd.fst ∧ y9.snd.snd = y4.snd.snd ∧ True)) := by kernel_rfl

theorem fBook_step (m n : Int) : ∀ (l : List EntryD) (e : EntryD) (r : List Int × List Int × List EntryD), fBook m n (l ++ [e]) r = (bif fMay m n e then ((fBook m n l r).1 ++ fPut m n e, (fBook m n l r).2.1 ++ [(((fBook m n l r).1 ++ fPut m n e).length : Int)], (fBook m n l r).2.2 ++ [e]) else fBook m n l r)
  | [], e, r => by simp only [List.nil_append, fBook]
  | a :: l, e, r => by
    simp only [List.cons_append, fBook]
    cases fMay m n a
    · exact fBook_step m n l e r
    · exact fBook_step m n l e _

theorem fBook_len (m n : Int) : ∀ (l : List EntryD) (r : List Int × List Int × List EntryD), (fBook m n l r).1.length ≤ r.1.length + 1000 * l.length ∧ (fBook m n l r).2.1.length ≤ r.2.1.length + l.length ∧ (fBook m n l r).2.2.length ≤ r.2.2.length + l.length
  | [], r => by simp [fBook]
  | a :: l, r => by
    unfold fBook
    have hp := fPut_short (m := m) (n := n) (e := a)
    cases fMay m n a
    · have := fBook_len m n l r
      simp only [cond_false, List.length_cons]
      omega
    · have := fBook_len m n l (r.1 ++ fPut m n a, r.2.1 ++ [((r.1 ++ fPut m n a).length : Int)], r.2.2 ++ [a])
      simp only [List.length_append, List.length_cons, List.length_nil, cond_true] at this ⊢
      omega

theorem b18 (m n : Int) (l : List EntryD) (hl : l.length ≤ 30) (hs : ∀ e ∈ l, shortE e) : obodyVC (ctxOf tab [(13, c13)]) Try.f18 c18 (a18 (m, n, l, ())) (m, n, l, ()) := by
  rw [v18]
  refine lett.mk fun y3 e3 => lett.mk fun y4 e4 => ?_
  simp only [true_and, and_true, Int.toNat_natCast, one_set]
  refine ⟨⟨0, by omega, rfl, rfl, rfl, rfl⟩, fun s => lett.mk fun y6 e6 => lett.mk fun y7 e7 => lett.mk fun y8 e8 => lett.mk fun y9 e9 => lett.mk fun y10 e10 => ?_⟩
  intro h
  refine ⟨fun h1 => ?_, fun h1 => ?_⟩
  · rw [e6] at h1
    have h1 : s < l.length := by simpa using h1
    have hm : y7 ∈ l := by rw [e7]; exact mem_getD _ h1
    have hbook := fBook_step m n (l.take s) y7 ([], [], [])
    have ht : l.take (s + 1) = l.take s ++ [y7] := by rw [e7, ← take_succ' _ h1]
    rw [← ht, ← e9] at hbook
    have hlen := fBook_len m n (l.take s) ([], [], [])
    rw [← e9] at hlen
    have hput := fPut_short (m := m) (n := n) (e := y7)
    have hts : (l.take s).length ≤ 30 := by simp; omega
    simp only [List.length_nil] at hlen
    refine ⟨⟨by omega, by omega⟩, hs _ hm, fun h8 => ?_, fun h8 => ?_⟩
    · rw [e8] at h8
      have h8 := of_decide_eq_true h8
      have hM : May m n y7 := .of_put (by intro h0; rw [h0] at h8; simp at h8)
      rw [fMay_iff.2 hM] at hbook
      simp only [cond_true] at hbook
      refine ⟨room (by omega) (by omega), room (by simp; omega) (by omega), room (by simp; omega) (by omega), inR64 (by omega) (by omega), s + 1, by omega, by omega, by omega, ?_, ?_, ?_⟩
      · rw [hbook, e10]
      · rw [hbook, e10]
      · rw [hbook]
    · rw [e8] at h8
      have h8 := of_decide_eq_false h8
      have hM : fMay m n y7 = false := by
        cases hf : fMay m n y7 with
        | false => rfl
        | true =>
          have := fPut_length (fMay_iff.1 hf)
          omega
      rw [hM] at hbook
      simp only [cond_false] at hbook
      refine ⟨inR64 (by omega) (by omega), s + 1, by omega, by omega, by omega, ?_, ?_, ?_⟩ <;> rw [hbook]
  · rw [e6] at h1
    have h1 : ¬ s < l.length := by simpa using h1
    rw [List.take_of_length_le (by omega)] at e9
    rw [e9, e4]
    exact ⟨rfl, rfl, rfl⟩

theorem ok18 : OOk Try.prog 18 c18 :=
  OOk.of' (l := [(13, c13)]) (A := a18) tabOk ⟨ok13, trivial⟩ Try.func18 (by kernel_rfl) (by kernel_rfl) fun x hw hp => b18 x.1 x.2.1 x.2.2.1 hp.1 hp.2

end Ytmaafccepogakaa
end Go.Proofs
