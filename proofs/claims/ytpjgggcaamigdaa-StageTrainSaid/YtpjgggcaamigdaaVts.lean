/-
  StageTrain's contract and loops.
-/
import Derived.Test.YtpjgggcaamigdaaVto
set_option maxRecDepth 100000
set_option linter.unusedVariables false
set_option linter.unusedSimpArgs false
set_option maxHeartbeats 4000000
namespace Go.Proofs
open Go Go.Vc
namespace Ytpjgggcaamigdaa

/-- The elements from 't' on, ahead of 'k', as a train is told that lies in them; a gate is never told. -/
def fMark (n : Nat) (gate : Bool) (t k : Int) : List Bool := (List.range n).map fun (j : Nat) => decide (t ≤ (j : Int)) && (decide ((j : Int) < k) && (!gate || decide ((j : Int) < (n : Int) - 1)))

/-- A train on its way over a road: its head, its tail, the road's life. -/
def train (n : Nat) (gate : Bool) (i h t : Nat) (l : LifeD) : Prop :=
  t ≤ h ∧ h < n ∧ l.2.2.2.length ≤ 12 ∧
  ((i = 0 ∧ h = 0 ∧ t = 0 ∧ l.1 = 2 ∧ l.2.1 = 0 ∧ l.2.2.1 = false ∧ l.2.2.2.length = n) ∨
   (l.1 = 0 ∧ t + 1 = n) ∨
   (t + 1 < n ∧ l.1 = 3 ∧ l.2.1 = t ∧ l.2.2.1 = false ∧ l.2.2.2.length = n ∧ ∀ k, k ≤ h → k + 1 < n → l.2.2.2.getD k false = true))

def c6 : DCon := lawCon [.int .u8, .list (.int .u8), .bool]

def a6 (x : Int × List Int × Bool × Unit) : Ann := loopAnn [(12, fun S => {
  σ := Nat × Nat × Nat × LifeD
  ok := fun s => s.1 ≤ x.2.1.length + 1 ∧ train (slotI S 7).toNat x.2.2.1 s.1 s.2.1 s.2.2.1 s.2.2.2
  mu := fun s => x.2.1.length + 1 - s.1
  sl := fun s => [(11, .one (.dat I ((s.1 : Int) - 1))), (9, .one (.dat I (s.2.1 : Int))), (10, .one (.dat I (s.2.2.1 : Int)))]
  bl := fun s => [(8, .cells (flat LifeT s.2.2.2))]
  keep := [1, 2, 7, 8]
  keepB := [] }),
  (20, fun S => {
  σ := Nat
  ok := fun k => slotI S 10 ≤ k ∧ (k : Int) ≤ slotI S 9 + 1
  mu := fun k => (slotI S 9 + 1).toNat - k
  sl := fun k => [(13, .one (.dat I (k : Int)))]
  bl := fun k => [(90, .row false 4 .bool (fMark (slotI S 7).toNat x.2.2.1 (slotI S 10) (k : Int)))]
  keep := [1, 2, 7, 8, 9, 10, 11, 12]
  keepB := [8] })]

theorem fMark_len (n : Nat) (g : Bool) (t k : Int) : (fMark n g t k).length = n := by simp [fMark]

theorem fMark_get {n : Nat} {g : Bool} {t k : Int} (j : Nat) : (fMark n g t k).getD j false = (decide (j < n) && (decide (t ≤ (j : Int)) && (decide ((j : Int) < k) && (!g || decide ((j : Int) < (n : Int) - 1))))) := by
  by_cases h : j < n
  · simp [fMark, List.getD_eq_getElem?_getD, h]
  · simp [fMark, List.getD_eq_getElem?_getD, h]

theorem fMark_none {n : Nat} {g : Bool} {t : Int} : fMark n g t t = List.replicate n false := by
  apply List.ext_getElem
  · simp [fMark]
  · intro i h1 h2
    simp only [fMark, List.getElem_map, List.getElem_range, List.getElem_replicate, Bool.and_eq_false_iff, decide_eq_false_iff_not]
    omega

theorem fMark_succ {n : Nat} {g : Bool} {t : Int} {k : Nat} (h : t ≤ k) : fMark n g t ((k : Int) + 1) = (fMark n g t (k : Int)).set k (bif !g then true else decide ((k : Int) < (n : Int) - 1)) := by
  apply List.ext_getElem
  · simp [fMark]
  · intro i h1 h2
    rw [List.getElem_set]
    simp only [fMark, List.getElem_map, List.getElem_range]
    split
    · rename_i e
      subst e
      rw [decide_eq_true h, decide_eq_true (by omega)]
      cases g <;> simp
    · rename_i e
      have : decide ((i : Int) < (k : Int) + 1) = decide ((i : Int) < (k : Int)) := by
        rw [decide_eq_decide]; omega
      rw [this]

theorem fMark_occ {n : Nat} {g a b c d e : Bool} {t k : Int} : fOcc (fMark n g t k, g, a, b, c, d, e) = fMark n g t k := by
  unfold fOcc
  cases g with
  | false => rfl
  | true =>
    show (fMark n true t k).set ((fMark n true t k).length - 1) false = _
    rw [fMark_len]
    apply List.ext_getElem
    · simp
    · intro i h1 h2
      rw [List.getElem_set]
      split
      · rename_i e
        subst e
        rw [fMark_len] at h2
        simp only [fMark, List.getElem_map, List.getElem_range]
        symm
        simp only [Bool.and_eq_false_iff, decide_eq_false_iff_not]
        right; right
        simp
        omega
      · rfl

theorem free_stop {seen o : List Bool} {g : Bool} {n t : Nat} (h : t + 1 < n → o.getD t false = true) : fFree seen o g (n - 1) (n - 1 - t) t = t := by
  by_cases hl : t < n - 1
  · rw [fFree_step hl, h (by omega)]
    simp
  · exact fFree_end (by omega)

theorem train_step {n i h t h' t' : Nat} {g : Bool} {l : LifeD} (hg : g = true → 2 ≤ n) (ht : train n g i h t l) (h1 : h ≤ h') (h2 : h' < n) (h3 : t' = t ∨ (t' = t + 1 ∧ t + 1 ≤ h)) (h4 : i = 0 → h' = h ∧ t' = t) :
    let y := (fNext l (fMark n g t' ((h' : Int) + 1), g, false, false, false, false, false)).1
    (y.1 = 0 ∧ t' + 1 = n) ∨ (t' + 1 < n ∧ y.1 = 3 ∧ y.2.1 = t' ∧ y.2.2.1 = false ∧ y.2.2.2.length = n ∧ ∀ k, k ≤ h' → k + 1 < n → y.2.2.2.getD k false = true) := by
  intro y
  obtain ⟨p1, p2, p3, hc⟩ := ht
  have hlt : t' < n := by omega
  -- what is told
  have oget : ∀ j : Nat, j + 1 < n → t' ≤ j → j ≤ h' → (fMark n g t' ((h' : Int) + 1)).getD j false = true := fun j a b c => by
    rw [fMark_get]
    simp only [Bool.and_eq_true, Bool.or_eq_true, decide_eq_true_eq]
    exact ⟨by omega, by omega, by omega, .inr (by omega)⟩
  have olast : g = false → ∀ j : Nat, j < n → t' ≤ j → j ≤ h' → (fMark n g t' ((h' : Int) + 1)).getD j false = true := fun hg j a b c => by
    rw [fMark_get, hg]
    simp only [Bool.and_eq_true, Bool.or_eq_true, decide_eq_true_eq]
    exact ⟨by omega, by omega, by omega, .inl rfl⟩
  have onot : ∀ j : Nat, j < t' → (fMark n g t' ((h' : Int) + 1)).getD j false = false := fun j a => by
    rw [fMark_get]
    simp only [Bool.and_eq_false_iff, decide_eq_false_iff_not]
    omega
  by_cases h0 : l.1 = 0
  · have e : y = l := by show (fNext l _).1 = l; rw [fNext_idle h0]
    rw [e]
    rcases hc with hc | hc | hc
    · omega
    · exact .inl ⟨h0, by omega⟩
    · omega
  · have hlen : l.2.2.2.length = n := by rcases hc with hc | hc | hc <;> omega
    have hoff : l.2.2.1 = false := by
      rcases hc with hc | hc | hc
      · exact hc.2.2.2.2.2.1
      · exact absurd hc.1 h0
      · exact hc.2.2.2.1
    have hft : l.2.1 = (t : Int) := by rcases hc with hc | hc | hc <;> omega
    have hst : l.1 = 2 ∨ l.1 = 3 := by rcases hc with hc | hc | hc <;> omega
    have hb : ¬ badIn l (fMark n g t' ((h' : Int) + 1), g, false, false, false, false, false) := by
      unfold badIn
      simp only [fMark_len]
      omega
    have hy : y = (nextIn l.1 t (l.2.2.1 || false) (fSeen l.2.2.2 (fOcc (fMark n g t' ((h' : Int) + 1), g, false, false, false, false, false)) (fMark n g t' ((h' : Int) + 1)).length) (fOcc (fMark n g t' ((h' : Int) + 1), g, false, false, false, false, false)) (fMark n g t' ((h' : Int) + 1)).length (fMark n g t' ((h' : Int) + 1), g, false, false, false, false, false)).1 := by
      show (fNext l _).1 = _
      rw [fNext_in h0 hb hft]
    rw [fMark_occ, fMark_len, hoff, Bool.or_false] at hy
    have hsl : l.2.2.2.length = (fMark n g t' ((h' : Int) + 1)).length := by rw [fMark_len, hlen]
    have hsget : ∀ j, j < n → (fSeen l.2.2.2 (fMark n g t' ((h' : Int) + 1)) n).getD j false = (l.2.2.2.getD j false || (fMark n g t' ((h' : Int) + 1)).getD j false) := fun j hj => by
      rw [List.getD_eq_getElem?_getD, fSeen_get hsl, if_pos hj]
      have a1 : j < l.2.2.2.length := by omega
      have a2 : j < (fMark n g t' ((h' : Int) + 1)).length := by rw [fMark_len]; exact hj
      simp [List.getD_eq_getElem?_getD, List.getElem?_eq_getElem a1, List.getElem?_eq_getElem a2]
    have hseenlen : (fSeen l.2.2.2 (fMark n g t' ((h' : Int) + 1)) n).length = n := by rw [fSeen_length hsl (by omega), hlen]
    have hcase : ¬ (l.1 ≠ 3 ∧ (fMark n g t' ((h' : Int) + 1)).getD 0 false = false) := by
      rintro ⟨c1, c2⟩
      rcases hc with hc | hc | hc
      · obtain ⟨hi, q1, q2, _⟩ := hc
        obtain ⟨r1, r2⟩ := h4 hi
        by_cases hn : 1 < n
        · rw [oget 0 (by omega) (by omega) (by omega)] at c2
          cases c2
        · have hgf : g = false := by
            cases hgg : g with
            | false => rfl
            | true => have := hg hgg; omega
          rw [olast hgf 0 (by omega) (by omega) (by omega)] at c2
          cases c2
      · exact h0 hc.1
      · exact c1 hc.2.1
    have hF : fFree (fSeen l.2.2.2 (fMark n g t' ((h' : Int) + 1)) n) (fMark n g t' ((h' : Int) + 1)) g (n - 1) (n - 1 - t) t = t' := by
      rcases h3 with h3 | ⟨h3, h3'⟩
      · subst h3
        exact free_stop fun hh => oget t' hh (by omega) (by omega)
      · have hs : l.2.2.2.getD t false = true := by
          rcases hc with hc | hc | hc
          · obtain ⟨hi, _⟩ := hc
            have := (h4 hi).2
            omega
          · exact absurd hc.1 h0
          · exact hc.2.2.2.2.2 t (by omega) (by omega)
        rw [fFree_step (by omega), hsget t (by omega), hs, onot t (by omega)]
        have hnx : ((fMark n g t' ((h' : Int) + 1)).getD (t + 1) false || g && t + 1 == n - 1) = true := by
          rcases Bool.eq_false_or_eq_true g with hgg | hgg
          rotate_left
          · rw [olast hgg (t + 1) (by omega) (by omega) (by omega)]
            rfl
          · by_cases hl : t + 2 < n
            · rw [oget (t + 1) (by omega) (by omega) (by omega)]
              rfl
            · have : (t + 1 == n - 1) = true := by rw [beq_iff_eq]; omega
              rw [this, hgg]
              simp
        rw [hnx]
        simp only [Bool.true_or, Bool.not_false, Bool.and_self, if_true]
        rw [← h3]
        exact free_stop fun hh => oget t' hh (by omega) (by omega)
    unfold nextIn at hy
    rw [if_neg hcase] at hy
    simp only [hF] at hy
    by_cases hd : t' + 1 = n
    · left
      rw [if_pos] at hy
      · rw [hy]
        exact ⟨rfl, hd⟩
      · left
        refine ⟨by omega, ?_⟩
        rcases Bool.eq_false_or_eq_true g with hgg | hgg
        · exact .inl hgg
        · right; exact olast hgg (n - 1) (by omega) (by omega) (by omega)
    · right
      rw [if_neg] at hy
      · rw [hy]
        refine ⟨by omega, rfl, rfl, rfl, hseenlen, fun k hk hk' => ?_⟩
        show (fSeen _ _ n).getD k false = true
        rw [hsget k (by omega)]
        by_cases hkt : t' ≤ k
        · rw [oget k hk' hkt hk]
          simp
        · have : l.2.2.2.getD k false = true := by
            rcases hc with hc | hc | hc
            · obtain ⟨hi, _⟩ := hc
              have := h4 hi
              omega
            · exact absurd hc.1 h0
            · exact hc.2.2.2.2.2 k (by omega) hk'
          rw [this]
          rfl
      · rintro (⟨c1, _⟩ | ⟨c1, _⟩)
        · omega
        · cases c1

theorem train_of {n h t i : Nat} {g : Bool} {y : LifeD} (ht : t ≤ h) (hh : h < n) (hl : y.2.2.2.length ≤ 12) (hy : (y.1 = 0 ∧ t + 1 = n) ∨ (t + 1 < n ∧ y.1 = 3 ∧ y.2.1 = t ∧ y.2.2.1 = false ∧ y.2.2.2.length = n ∧ ∀ k, k ≤ h → k + 1 < n → y.2.2.2.getD k false = true)) :
    train n g i h t y := ⟨ht, hh, hl, .inr hy⟩

theorem v6 (b : Int) (mv : List Int) (g : Bool) : bodyVC (ctxOf tab [(9, c9), (10, c10), (15, c15)]) Try.f6 c6 (a6 (b, mv, g, ())) (b, mv, g, ()) = (
lett (bif decide ((↑mv.length : Int) > (60 : Int)) then true else bif g then decide (b.tmod (12 : Int) + (1 : Int) < (2 : Int)) else false) fun (y3 : Bool) =>
lett (fBegin (b.tmod (12 : Int) + (1 : Int))) fun (y4 : LifeD) =>
lett (List.replicate (b.tmod (12 : Int) + (1 : Int)).toNat false) fun (y5 : List Bool) =>
lett (fNext y4 (y5, g, true, true, false, false, false)).fst fun (y6 : LifeD) =>
lett (b.tmod (12 : Int) + (1 : Int) - (1 : Int)) fun (y7 : Int) =>
lett (g, false, false, false, false, false) fun (y8 : Bool × Bool × Bool × Bool × Bool × Bool) =>
True ∧
((!true) = true → false = true ∧ True) ∧
((!true) = false →
(12 : Int) ≠ (0 : Int) ∧
InR IntKind.i64 (b.tmod (12 : Int) + (1 : Int)) ∧
(y3 = true → true = true ∧ True) ∧
(y3 = false →
True ∧
((0 : Int) ≤ b.tmod (12 : Int) + (1 : Int) ∧ b.tmod (12 : Int) + (1 : Int) ≤ b.tmod (12 : Int) + (1 : Int)) ∧
(roomFor (b.tmod (12 : Int) + (1 : Int)).toNat (1 : Nat) ∧ b.tmod (12 : Int) + (1 : Int) ≤ (↑maxLenI : Int)) ∧
(short y4.snd.snd.snd ∧ short y5) ∧
((y6.fst != (2 : Int)) = true → false = true ∧ True) ∧
((y6.fst != (2 : Int)) = false →
(∃ (s09 : Nat × Nat × Nat × LifeD),
(s09.fst ≤ mv.length + (1 : Nat) ∧ train (b.tmod (12 : Int) + (1 : Int)).toNat g s09.fst s09.snd.fst s09.snd.snd.fst s09.snd.snd.snd) ∧
(↑s09.fst : Int) - (1 : Int) = (-1 : Int) ∧
(↑s09.snd.fst : Int) = (0 : Int) ∧
(↑s09.snd.snd.fst : Int) = (0 : Int) ∧
mv = mv ∧
g = g ∧
b.tmod (12 : Int) + (1 : Int) = b.tmod (12 : Int) + (1 : Int) ∧
s09.snd.snd.snd.fst = y6.fst ∧
s09.snd.snd.snd.snd.fst = y6.snd.fst ∧ s09.snd.snd.snd.snd.snd.fst = y6.snd.snd.fst ∧ s09.snd.snd.snd.snd.snd.snd = y6.snd.snd.snd ∧ True) ∧
∀ (s9 : Nat × Nat × Nat × LifeD),
lett (decide ((↑s9.fst : Int) - (1 : Int) < (↑mv.length : Int))) fun (y10 : Bool) =>
lett (decide ((↑s9.fst : Int) - (1 : Int) ≥ (0 : Int))) fun (y11 : Bool) =>
lett ((mv.getD ((↑s9.fst : Int) - (1 : Int)).toNat (0 : Int)).tmod (2 : Int)) fun (y12 : Int) =>
lett (bif y11 then y12 == (0 : Int) else false) fun (y13 : Bool) =>
lett (bif y13 then decide ((↑s9.snd.fst : Int) < y7) else false) fun (y14 : Bool) =>
lett ((↑s9.snd.fst : Int) + (1 : Int)) fun (y15 : Int) =>
lett (bif y14 then y15 else (↑s9.snd.fst : Int)) fun (y16 : Int) =>
lett (bif bif y11 then y12 == (1 : Int) else false then decide ((↑s9.snd.snd.fst : Int) < y16) else false) fun (y17 : Bool) =>
lett ((↑s9.snd.snd.fst : Int) + (1 : Int)) fun (y18 : Int) =>
lett (bif y17 then y18 else (↑s9.snd.snd.fst : Int)) fun (y19 : Int) =>
lett ((↑s9.fst : Int) - (1 : Int) + (1 : Int)) fun (y20 : Int) =>
s9.fst ≤ mv.length + (1 : Nat) ∧ train (b.tmod (12 : Int) + (1 : Int)).toNat g s9.fst s9.snd.fst s9.snd.snd.fst s9.snd.snd.snd →
(y10 = true →
(y11 = true → InB ((↑s9.fst : Int) - (1 : Int)) mv.length) ∧
(y11 = true → (2 : Int) ≠ (0 : Int)) ∧
(y13 = true → InR IntKind.i64 y7) ∧
(y14 = true → InR IntKind.i64 y15) ∧
(y11 = true → InB ((↑s9.fst : Int) - (1 : Int)) mv.length) ∧
(y11 = true → (2 : Int) ≠ (0 : Int)) ∧
(y17 = true → InR IntKind.i64 y18) ∧
((0 : Int) ≤ b.tmod (12 : Int) + (1 : Int) ∧ b.tmod (12 : Int) + (1 : Int) ≤ b.tmod (12 : Int) + (1 : Int)) ∧
(roomFor (b.tmod (12 : Int) + (1 : Int)).toNat (1 : Nat) ∧ b.tmod (12 : Int) + (1 : Int) ≤ (↑maxLenI : Int)) ∧
(∃ (s021 : Nat),
(y19 ≤ (↑s021 : Int) ∧ (↑s021 : Int) ≤ y16 + (1 : Int)) ∧
(↑s021 : Int) = y19 ∧
mv = mv ∧
g = g ∧
b.tmod (12 : Int) + (1 : Int) = b.tmod (12 : Int) + (1 : Int) ∧
y16 = y16 ∧
y19 = y19 ∧
(↑s9.fst : Int) - (1 : Int) = (↑s9.fst : Int) - (1 : Int) ∧
fMark (b.tmod (12 : Int) + (1 : Int)).toNat g y19 (↑s021 : Int) = y5 ∧
s9.snd.snd.snd.fst = s9.snd.snd.snd.fst ∧
s9.snd.snd.snd.snd.fst = s9.snd.snd.snd.snd.fst ∧
s9.snd.snd.snd.snd.snd.fst = s9.snd.snd.snd.snd.snd.fst ∧
s9.snd.snd.snd.snd.snd.snd = s9.snd.snd.snd.snd.snd.snd ∧ True) ∧
∀ (s21 : Nat),
lett (fMark (b.tmod (12 : Int) + (1 : Int)).toNat g y19 (↑s21 : Int)) fun (y22 : List Bool) =>
lett (fNext s9.snd.snd.snd (y22, y8)).fst fun (y23 : LifeD) =>
lett
(bif bif s9.snd.snd.snd.fst != (0 : Int) then !(y23.fst == (0 : Int)) == (y19 == y7) else false then
true
else
bif y23.fst != (0 : Int) then bif y23.fst != (3 : Int) then true else y23.snd.fst != y19 else false)
fun (y24 : Bool) =>
y19 ≤ (↑s21 : Int) ∧ (↑s21 : Int) ≤ y16 + (1 : Int) →
(decide ((↑s21 : Int) ≤ y16) = true →
((!g) = false → InR IntKind.i64 y7) ∧
InB (↑s21 : Int) y22.length ∧
InR IntKind.i64 ((↑s21 : Int) + (1 : Int)) ∧
∃ (s'25 : Nat),
(y19 ≤ (↑s'25 : Int) ∧ (↑s'25 : Int) ≤ y16 + (1 : Int)) ∧
(y16 + (1 : Int)).toNat - s'25 < (y16 + (1 : Int)).toNat - s21 ∧
(↑s'25 : Int) = (↑s21 : Int) + (1 : Int) ∧
mv = mv ∧
g = g ∧
b.tmod (12 : Int) + (1 : Int) = b.tmod (12 : Int) + (1 : Int) ∧
y16 = y16 ∧
y19 = y19 ∧
(↑s9.fst : Int) - (1 : Int) = (↑s9.fst : Int) - (1 : Int) ∧
fMark (b.tmod (12 : Int) + (1 : Int)).toNat g y19 (↑s'25 : Int) =
y22.set (↑s21 : Int).toNat
(bif !g then true else decide ((↑s21 : Int) < y7)) ∧
s9.snd.snd.snd.fst = s9.snd.snd.snd.fst ∧
s9.snd.snd.snd.snd.fst = s9.snd.snd.snd.snd.fst ∧
s9.snd.snd.snd.snd.snd.fst = s9.snd.snd.snd.snd.snd.fst ∧
s9.snd.snd.snd.snd.snd.snd = s9.snd.snd.snd.snd.snd.snd ∧
True) ∧
(decide ((↑s21 : Int) ≤ y16) = false →
(short s9.snd.snd.snd.snd.snd.snd ∧ short y22) ∧
InR IntKind.i64 y7 ∧
(y24 = true → false = true ∧ True) ∧
(y24 = false →
InR IntKind.i64 y20 ∧
∃ (s'25 : Nat × Nat × Nat × LifeD),
(s'25.fst ≤ mv.length + (1 : Nat) ∧
train (b.tmod (12 : Int) + (1 : Int)).toNat g s'25.fst s'25.snd.fst
s'25.snd.snd.fst s'25.snd.snd.snd) ∧
mv.length + (1 : Nat) - s'25.fst < mv.length + (1 : Nat) - s9.fst ∧
(↑s'25.fst : Int) - (1 : Int) = y20 ∧
(↑s'25.snd.fst : Int) = y16 ∧
(↑s'25.snd.snd.fst : Int) = y19 ∧
mv = mv ∧
g = g ∧
b.tmod (12 : Int) + (1 : Int) = b.tmod (12 : Int) + (1 : Int) ∧
s'25.snd.snd.snd.fst = y23.fst ∧
s'25.snd.snd.snd.snd.fst = y23.snd.fst ∧
s'25.snd.snd.snd.snd.snd.fst = y23.snd.snd.fst ∧
s'25.snd.snd.snd.snd.snd.snd = y23.snd.snd.snd ∧ True))) ∧
(y10 = false → true = true ∧ True))))) := by kernel_rfl

theorem b6 (b : Int) (mv : List Int) (g : Bool) (hb : 0 ≤ b) (hmv : ∀ x ∈ mv, 0 ≤ x) : bodyVC (ctxOf tab [(9, c9), (10, c10), (15, c15)]) Try.f6 c6 (a6 (b, mv, g, ())) (b, mv, g, ()) := by
  rw [v6]
  have hN : 1 ≤ b.tmod 12 + 1 ∧ b.tmod 12 + 1 ≤ 12 := by
    rw [Int.tmod_eq_emod_of_nonneg hb]
    omega
  generalize b.tmod 12 + 1 = N at *
  obtain ⟨n, rfl⟩ : ∃ n : Nat, N = n := ⟨N.toNat, by omega⟩
  refine lett.mk fun y3 e3 => lett.mk fun y4 e4 => lett.mk fun y5 e5 => lett.mk fun y6 e6 => lett.mk fun y7 e7 => lett.mk fun y8 e8 => ?_
  simp only [true_and, and_true, Int.toNat_natCast]
  rw [Int.toNat_natCast] at e5
  refine ⟨fun h => (by cases h), fun _ => ⟨by decide, inR64 (by omega) (by omega), fun _ => trivial, fun h3 => ?_⟩⟩
  have h60 : mv.length ≤ 60 ∧ (g = true → 2 ≤ n) := by
    rw [e3] at h3
    by_cases hc : (mv.length : Int) > 60
    · rw [decide_eq_true hc] at h3; cases h3
    · refine ⟨by omega, fun hg => ?_⟩
      rw [decide_eq_false hc, hg] at h3
      simp at h3
      omega
  obtain ⟨h60, hg2⟩ := h60
  have hbl := fBegin_len n
  have hbg := begin_good hN.1 hN.2
  rw [Int.toNat_natCast] at hbg
  have hlen5 : y5.length = n := by rw [e5]; simp
  have hv0 : (y5, g, true, true, false, false, false).1.length = n := hlen5
  have hS := next_set hbg hv0 (.inl (by unfold fBegin; rw [if_neg (by omega)]))
  have hG := next_good hbg hv0
  have hF0 : fOcc (y5, g, true, true, false, false, false) = y5 := by
    unfold fOcc
    cases g with
    | false => rfl
    | true =>
      show y5.set _ false = y5
      rw [e5]
      simp
  have hfirst : y5.getD 0 false = false := by rw [e5]; simp [List.getD_eq_getElem?_getD, List.getElem?_replicate]; split <;> rfl
  rw [hF0, hfirst, ← e4, ← e6] at hS
  rw [← e4, ← e6] at hG
  have h62 : y6.1 = 2 := by simpa using hS
  have hG6 : y6.2.1 = 0 ∧ y6.2.2.1 = false ∧ y6.2.2.2.length = n := by
    rcases hG with hG | ⟨g1, g2, g3, g4, g5, g6, g7⟩
    · omega
    · exact ⟨g7 (by omega), g6, g3⟩
  refine ⟨by omega, ⟨room (by omega) (by omega), by unfold maxLenI; omega⟩, ⟨by unfold short; rw [e4]; omega, by unfold short; omega⟩, fun h => (by rw [h62] at h; cases h), fun _ => ⟨⟨(0, 0, 0, y6), ⟨Nat.zero_le _, Nat.le_refl _, by show 0 < n; omega, by show y6.2.2.2.length ≤ 12; omega, .inl ⟨rfl, rfl, rfl, h62, hG6⟩⟩, rfl, rfl, rfl, rfl, rfl, rfl, rfl⟩, ?_⟩⟩
  rintro ⟨i, h, t, l⟩
  refine lett.mk fun y10 e10 => lett.mk fun y11 e11 => lett.mk fun y12 e12 => lett.mk fun y13 e13 => lett.mk fun y14 e14 => lett.mk fun y15 e15 => lett.mk fun y16 e16 => lett.mk fun y17 e17 => lett.mk fun y18 e18 => lett.mk fun y19 e19 => lett.mk fun y20 e20 => ?_
  simp only at *
  rintro ⟨hi, ht⟩
  refine ⟨fun hlt => ?_, fun _ => trivial⟩
  have ht' := ht
  obtain ⟨p1, p2, p3, hc⟩ := ht'
  have hlt : i < mv.length + 1 := by rw [e10] at hlt; have := of_decide_eq_true hlt; omega
  -- the moves
  have hm : ∃ h' t' : Nat, y16 = h' ∧ y19 = t' ∧ h ≤ h' ∧ h' < n ∧ t' ≤ h' ∧ (t' = t ∨ (t' = t + 1 ∧ t + 1 ≤ h)) ∧ (i = 0 → h' = h ∧ t' = t) := by
    by_cases h0 : i = 0
    · have e : y11 = false := by rw [e11, decide_eq_false_iff_not]; omega
      rw [e] at e13 e17
      rw [e13] at e14
      rw [e14] at e16
      rw [e17] at e19
      exact ⟨h, t, e16, e19, Nat.le_refl _, p2, p1, .inl rfl, fun _ => ⟨rfl, rfl⟩⟩
    · have e : y11 = true := by rw [e11, decide_eq_true_iff]; omega
      rw [e] at e13 e17
      by_cases c0 : y12 = 0
      · have d0 : (y12 == 0) = true := by rw [c0]; rfl
        have d1 : (y12 == 1) = false := by rw [c0]; rfl
        rw [d0] at e13
        rw [d1] at e17
        rw [e13] at e14
        rw [e17] at e19
        by_cases c2 : (h : Int) < y7
        · rw [decide_eq_true c2] at e14
          rw [e14] at e16
          exact ⟨h + 1, t, by rw [e16, e15]; simp, e19, by omega, by omega, by omega, .inl rfl, fun hh => absurd hh h0⟩
        · rw [decide_eq_false c2] at e14
          rw [e14] at e16
          exact ⟨h, t, e16, e19, Nat.le_refl _, p2, p1, .inl rfl, fun _ => ⟨rfl, rfl⟩⟩
      · have d0 : (y12 == 0) = false := by rw [beq_eq_false_iff_ne]; exact c0
        rw [d0] at e13
        rw [e13] at e14
        rw [e14] at e16
        simp only [cond_false, cond_true] at e16
        rw [e16] at e17
        by_cases c2 : (bif bif true then y12 == 1 else false then decide ((t : Int) < (h : Int)) else false) = true
        · rw [c2] at e17
          rw [e17] at e19
          have : t < h := by
            cases hh : (y12 == 1) with
            | true => rw [hh] at c2; have := of_decide_eq_true c2; omega
            | false => rw [hh] at c2; cases c2
          exact ⟨h, t + 1, e16, by rw [e19, e18]; simp, Nat.le_refl _, p2, by omega, .inr ⟨rfl, by omega⟩, fun hh => absurd hh h0⟩
        · have c2 : (bif bif true then y12 == 1 else false then decide ((t : Int) < (h : Int)) else false) = false := by simpa using c2
          rw [c2] at e17
          rw [e17] at e19
          exact ⟨h, t, e16, e19, Nat.le_refl _, p2, p1, .inl rfl, fun _ => ⟨rfl, rfl⟩⟩
  obtain ⟨h', t', e16', e19', q1, q2, q3, q4, q5⟩ := hm
  subst e16' e19'
  have hstep := train_step hg2 ht q1 q2 q4 q5
  have hInB : y11 = true → InB ((i : Int) - 1) mv.length := fun hh => by
    rw [e11] at hh
    have := of_decide_eq_true hh
    exact ⟨by omega, by omega⟩
  refine ⟨hInB, fun _ => by decide, fun _ => inR64 (by omega) (by omega), fun _ => by rw [e15]; exact inR64 (by omega) (by omega), hInB, fun _ => by decide, fun _ => by rw [e18]; exact inR64 (by omega) (by omega), by omega, ⟨room (by omega) (by omega), by unfold maxLenI; omega⟩, ⟨t', by omega, rfl, by rw [fMark_none, e5]⟩, fun k => ?_⟩
  refine lett.mk fun o eo => lett.mk fun y ey => lett.mk fun y24 e24 => ?_
  rintro ⟨k1, k2⟩
  refine ⟨fun hk => ?_, fun hk => ?_⟩
  · have hk := of_decide_eq_true hk
    refine ⟨fun _ => inR64 (by omega) (by omega), ⟨by omega, by rw [eo, fMark_len]; omega⟩, inR64 (by omega) (by omega), k + 1, by omega, by omega, by omega, ?_⟩
    rw [eo, e7]
    have := fMark_succ (n := n) (g := g) (t := (t' : Int)) (k := k) k1
    rw [← this]
    rfl
  · have hk := of_decide_eq_false hk
    have hkk : (k : Int) = (h' : Int) + 1 := by omega
    rw [hkk] at eo
    have hyl := (fNext_lens l (o, y8)).1
    rw [← ey] at hyl
    rw [eo, e8] at ey
    rw [← ey] at hstep
    have hon : o.length = n := by rw [eo, fMark_len]
    refine ⟨⟨by unfold short; omega, by unfold short; omega⟩, inR64 (by omega) (by omega), fun hh => ?_, fun hh => ⟨by rw [e20]; exact inR64 (by omega) (by omega), (i + 1, h', t', y), ⟨by show i + 1 ≤ _; omega, train_of q3 q2 (by show y.2.2.2.length ≤ 12; omega) hstep⟩, by show mv.length + 1 - (i + 1) < _; omega, by rw [e20]; show ((i + 1 : Nat) : Int) - 1 = _; omega, rfl, rfl, rfl, rfl, rfl, rfl⟩⟩
    exfalso
    rw [e24] at hh
    rcases hstep with ⟨s1, s2⟩ | ⟨s1, s2, s3, _⟩
    · have a1 : ((t' : Int) == y7) = true := by rw [beq_iff_eq]; omega
      rw [s1, a1] at hh
      cases hz : (l.1 != 0) <;> rw [hz] at hh <;> cases hh
    · have a1 : ((t' : Int) == y7) = false := by rw [beq_eq_false_iff_ne]; omega
      rw [s2, a1, s3] at hh
      cases hz : (l.1 != 0) <;> rw [hz] at hh <;> simp at hh

theorem ok6 : DOk Try.prog 6 c6 :=
  DOk.of' (l := [(9, c9), (10, c10), (15, c15)]) (wraps := []) (A := a6) tabOk ⟨ok9, ok10, ok15, trivial⟩ Try.func6 (by kernel_rfl) (by kernel_rfl) fun x hw _ => b6 x.1 x.2.1 x.2.2.1 hw.1.1 (fun n hn => (hw.2.1.2 n hn).1)

end Ytpjgggcaamigdaa
end Go.Proofs
