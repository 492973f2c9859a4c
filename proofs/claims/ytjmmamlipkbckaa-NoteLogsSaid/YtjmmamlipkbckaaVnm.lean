/-
  What is read: written out and proved.
-/
import Derived.Test.YtjmmamlipkbckaaVnl
set_option maxRecDepth 100000
set_option linter.unusedVariables false
set_option linter.unusedSimpArgs false
set_option maxHeartbeats 2000000
namespace Go.Proofs
open Go Go.Vc
namespace Ytjmmamlipkbckaa

/-- A row that grows by one thing as long as there are bytes. -/
def isUp {β : Type} (F : Nat → List β × StD) (g : StD → β × StD) : Prop := ∀ k, F (k + 1) = bif (F k).2.2 then F k else ((F k).1 ++ [(g (F k).2).1], (g (F k).2).2)

def gRow (s : StD) : Int × StD := fTake 1 s
def gTrail (s : StD) : PortD × StD := (((fTake 1 s).1, (fTake 1 (fTake 1 s).2).1), (fTake 1 (fTake 1 s).2).2)

theorem up_row (s : StD) : isUp (fRow s) gRow := fun _ => rfl
theorem up_trail (s : StD) : isUp (fTrail s) gTrail := fun _ => rfl
theorem up_bodies (s : StD) : isUp (fBodies s) fBodyR := fun _ => rfl
theorem up_notes (e g t : Int) (s : StD) : isUp (fNotesUp e g t s) (fNoteR e g t) := fun _ => rfl

theorem up_stop {β : Type} {F : Nat → List β × StD} {g : StD → β × StD} (hF : isUp F g) {k : Nat} (h : (F k).2.2 = true) : ∀ m, k ≤ m → F m = F k
  | 0, hm => by
    have : k = 0 := by omega
    subst this
    rfl
  | m + 1, hm => by
    by_cases e : k = m + 1
    · subst e; rfl
    · have ih := up_stop hF h m (by omega)
      rw [hF, ih, h]
      rfl

theorem up_step {β : Type} {F : Nat → List β × StD} {g : StD → β × StD} (hF : isUp F g) {k : Nat} (h : (F k).2.2 = false) : F (k + 1) = ((F k).1 ++ [(g (F k).2).1], (g (F k).2).2) := by
  rw [hF, h]
  rfl

theorem up_len {β : Type} {F : Nat → List β × StD} {g : StD → β × StD} (hF : isUp F g) (h0 : (F 0).1 = []) : ∀ k, (F k).1.length ≤ k
  | 0 => by rw [h0]; exact Nat.le_refl _
  | k + 1 => by
    have := up_len hF h0 k
    cases h : (F k).2.2 with
    | true => rw [up_stop hF h (k + 1) (by omega)]; omega
    | false => rw [up_step hF h, List.length_append]; show _ + 1 ≤ _; omega

theorem up_bytes {β : Type} {F : Nat → List β × StD} {g : StD → β × StD} (hF : isUp F g) (hg : ∀ s, bytesOk s.1 → bytesOk (g s).2.1) (h0 : bytesOk (F 0).2.1) : ∀ k, bytesOk (F k).2.1
  | 0 => h0
  | k + 1 => by
    have := up_bytes hF hg h0 k
    cases h : (F k).2.2 with
    | true => rw [up_stop hF h (k + 1) (by omega)]; exact this
    | false => rw [up_step hF h]; exact hg _ this

theorem take_bytes {n : Nat} {s : StD} (hb : bytesOk s.1) : bytesOk (fTake n s).2.1 := by
  unfold fTake
  cases decide (s.1.length < n)
  · exact fun x hx => hb x (List.mem_of_mem_drop hx)
  · intro x hx
    cases hx

theorem take_range {n : Nat} {s : StD} (hb : bytesOk s.1) : 0 ≤ (fTake n s).1 ∧ (fTake n s).1 < 256 ^ n := by
  unfold fTake
  cases h : decide (s.1.length < n) with
  | true => exact ⟨Int.le_refl _, Int.pow_pos (by decide)⟩
  | false =>
    have h := of_decide_eq_false h
    exact fVal_range n _ (by rw [List.length_take]; omega) fun x hx => hb x (List.mem_of_mem_take hx)

theorem take1 {s : StD} (hb : bytesOk s.1) : 0 ≤ (fTake 1 s).1 ∧ (fTake 1 s).1 ≤ 255 := by
  have := take_range (n := 1) hb
  have e : (256 : Int) ^ 1 = 256 := by decide
  omega

theorem take2 {s : StD} (hb : bytesOk s.1) : 0 ≤ (fTake 2 s).1 ∧ (fTake 2 s).1 ≤ 65535 := by
  have := take_range (n := 2) hb
  have e : (256 : Int) ^ 2 = 65536 := by decide
  omega

theorem row_bytes {s : StD} (hb : bytesOk s.1) (k : Nat) : bytesOk (fRow s k).2.1 := up_bytes (up_row s) (fun _ h => take_bytes h) hb k
theorem trail_bytes {s : StD} (hb : bytesOk s.1) (k : Nat) : bytesOk (fTrail s k).2.1 := up_bytes (up_trail s) (fun _ h => take_bytes (take_bytes h)) hb k
theorem bodyR_bytes {s : StD} (hb : bytesOk s.1) : bytesOk (fBodyR s).2.1 := by
  unfold fBodyR fV fOver fLeft fTr fMany fMode
  exact take_bytes (take_bytes (take_bytes (trail_bytes (take_bytes (take_bytes hb)) _)))
theorem bodies_bytes {s : StD} (hb : bytesOk s.1) (k : Nat) : bytesOk (fBodies s k).2.1 := up_bytes (up_bodies s) (fun _ h => bodyR_bytes h) hb k
theorem noteR_bytes {e g t : Int} {s : StD} (hb : bytesOk s.1) : bytesOk (fNoteR e g t s).2.1 := by
  unfold fNoteR
  exact bodies_bytes (row_bytes (row_bytes hb _) _) _
theorem notes_bytes {e g t : Int} {s : StD} (hb : bytesOk s.1) (k : Nat) : bytesOk (fNotesUp e g t s k).2.1 := up_bytes (up_notes e g t s) (fun _ h => noteR_bytes h) hb k

theorem h0_bytes {b : List Int} (hb : bytesOk b) : bytesOk (fH0 b).1 := by unfold fH0; exact take_bytes hb
theorem h1_bytes {b : List Int} (hb : bytesOk b) : bytesOk (fH1 b).2.1 := by unfold fH1; exact take_bytes (h0_bytes hb)
theorem h2_bytes {b : List Int} (hb : bytesOk b) : bytesOk (fH2 b).2.1 := by unfold fH2; exact take_bytes (h1_bytes hb)
theorem h3_bytes {b : List Int} (hb : bytesOk b) : bytesOk (fH3 b).2.1 := by unfold fH3; exact take_bytes (h2_bytes hb)
theorem h4_bytes {b : List Int} (hb : bytesOk b) : bytesOk (fH4 b).2.1 := by unfold fH4; exact take_bytes (h3_bytes hb)
theorem h1_range {b : List Int} (hb : bytesOk b) : 0 ≤ (fH1 b).1 ∧ (fH1 b).1 ≤ 255 := by unfold fH1; exact take1 (h0_bytes hb)
theorem h2_range {b : List Int} (hb : bytesOk b) : 0 ≤ (fH2 b).1 ∧ (fH2 b).1 ≤ 255 := by unfold fH2; exact take1 (h1_bytes hb)
theorem h3_range {b : List Int} (hb : bytesOk b) : 0 ≤ (fH3 b).1 ∧ (fH3 b).1 ≤ 255 := by unfold fH3; exact take1 (h2_bytes hb)
theorem h4_range {b : List Int} (hb : bytesOk b) : 0 ≤ (fH4 b).1 ∧ (fH4 b).1 ≤ 65535 := by unfold fH4; exact take2 (h3_bytes hb)

theorem go_on {a c : Int} {s : Bool} {y : Bool} (e : y = (bif decide (a < c) then !s else false)) (h : y = true) : a < c ∧ s = false := by
  rw [e] at h
  cases hd : decide (a < c) with
  | false => rw [hd] at h; cases h
  | true =>
    rw [hd] at h
    refine ⟨of_decide_eq_true hd, ?_⟩
    cases s
    · rfl
    · cases h

theorem go_end {β : Type} {F : Nat → List β × StD} {g : StD → β × StD} (hF : isUp F g) {k : Nat} {c : Int} {y : Bool} (hk : k ≤ c.toNat) (e : y = (bif decide ((k : Int) < c) then !(F k).2.2 else false)) (h : y = false) : F c.toNat = F k := by
  cases hs : (F k).2.2 with
  | true => exact up_stop hF hs _ hk
  | false =>
    rw [e, hs] at h
    cases hd : decide ((k : Int) < c) with
    | true => rw [hd] at h; cases h
    | false =>
      have hd := of_decide_eq_false hd
      have : c.toNat = k := by omega
      rw [this]

theorem v31 (b : List Int) : bodyVC (ctxOf tab [(40, c40), (41, c41)] [] [] [40, 41]) Try.f31 c31 (a31 (b, ())) (b, ()) = (
lett (fTake (Int.toNat (1 : Int)) (fTake (Int.toNat (3 : Int)) (b, false)).snd) fun (y1 : Int × StD) =>
lett (fTake (Int.toNat (1 : Int)) y1.snd).fst fun (y2 : Int) =>
lett (fTake (Int.toNat (1 : Int)) (fTake (Int.toNat (1 : Int)) y1.snd).snd) fun (y3 : Int × StD) =>
lett (fTake (Int.toNat (2 : Int)) y3.snd).fst fun (y4 : Int) =>
lett (fTake (Int.toNat (2 : Int)) y3.snd).snd fun (y5 : StD) =>
lett (List.replicate (1 : Nat) ((0 : Int), [], (0 : Int), (0 : Int), (0 : Int))) fun (y6 : List (Int × List (Int × Int) × Int × Int × Int)) =>
lett (List.replicate (1 : Nat) ([], [], [])) fun (y7 : List (List Int × List Int × List (Int × List (Int × Int) × Int × Int × Int))) =>
((0 : Int) ≤ (3 : Int) ∧ (3 : Int) ≤ (4 : Int)) ∧
((0 : Int) ≤ (1 : Int) ∧ (1 : Int) ≤ (4 : Int)) ∧
((0 : Int) ≤ (1 : Int) ∧ (1 : Int) ≤ (4 : Int)) ∧
((0 : Int) ≤ (1 : Int) ∧ (1 : Int) ≤ (4 : Int)) ∧
((0 : Int) ≤ (2 : Int) ∧ (2 : Int) ≤ (4 : Int)) ∧
(∃ (s08 : Nat),
s08 ≤ (fH4 b).fst.toNat ∧
(↑s08 : Int) = (0 : Int) ∧
y1.fst = y1.fst ∧
y2 = y2 ∧
y3.fst = y3.fst ∧
y4 = y4 ∧
(fNotesUp (fH1 b).fst (fH2 b).fst (fH3 b).fst (fH4 b).snd s08).fst = [] ∧
(fNotesUp (fH1 b).fst (fH2 b).fst (fH3 b).fst (fH4 b).snd s08).snd.fst = y5.fst ∧
(fNotesUp (fH1 b).fst (fH2 b).fst (fH3 b).fst (fH4 b).snd s08).snd.snd = y5.snd ∧ True) ∧
∀ (s8 : Nat),
lett (fNotesUp (fH1 b).fst (fH2 b).fst (fH3 b).fst (fH4 b).snd s8) fun (y9 : List NoteD × StD) =>
lett (bif decide ((↑s8 : Int) < y4) then !y9.snd.snd else false) fun (y10 : Bool) =>
lett (fRow y9.snd y1.fst.toNat) fun (y11 : List Int × StD) =>
lett (fRow y11.snd y2.toNat).fst fun (y12 : List Int) =>
lett (fRow y11.snd y2.toNat).snd fun (y13 : StD) =>
s8 ≤ (fH4 b).fst.toNat →
(y10 = true →
y1.fst ≤ (1000 : Int) ∧
y2 ≤ (1000 : Int) ∧
(∃ (s014 : Nat),
s014 ≤ (fH3 b).fst.toNat ∧
(↑s014 : Int) = (0 : Int) ∧
y1.fst = y1.fst ∧
y2 = y2 ∧
y3.fst = y3.fst ∧
y4 = y4 ∧
(↑s8 : Int) = (↑s8 : Int) ∧
y11.fst = y11.fst ∧
y12 = y12 ∧
(fBodies y13 s014).fst = [] ∧
(fBodies y13 s014).snd.fst = y13.fst ∧ (fBodies y13 s014).snd.snd = y13.snd ∧ y9.fst = y9.fst ∧ True) ∧
∀ (s14 : Nat),
lett (bif decide ((↑s14 : Int) < y3.fst) then !(fBodies y13 s14).snd.snd else false) fun (y15 : Bool) =>
lett (fTake (Int.toNat (1 : Int)) (fBodies y13 s14).snd) fun (y16 : Int × StD) =>
lett (fTake (Int.toNat (2 : Int)) y16.snd).fst fun (y17 : Int) =>
lett (fTake (Int.toNat (2 : Int)) y16.snd).snd fun (y18 : StD) =>
lett (y7.set (0 : Nat) (y11.fst, y12, (fBodies y13 s14).fst))
fun (y19 : List (List Int × List Int × List (Int × List (Int × Int) × Int × Int × Int))) =>
s14 ≤ (fH3 b).fst.toNat →
(y15 = true →
((0 : Int) ≤ (1 : Int) ∧ (1 : Int) ≤ (4 : Int)) ∧
((0 : Int) ≤ (2 : Int) ∧ (2 : Int) ≤ (4 : Int)) ∧
(∃ (s020 : Nat),
s020 ≤ y17.toNat ∧
y17 - (↑s020 : Int) = y17 ∧
y1.fst = y1.fst ∧
y2 = y2 ∧
y3.fst = y3.fst ∧
y4 = y4 ∧
(↑s8 : Int) = (↑s8 : Int) ∧
(↑s14 : Int) = (↑s14 : Int) ∧
y16.fst = y16.fst ∧
(0 : Int) = (0 : Int) ∧
(0 : Int) = (0 : Int) ∧
(0 : Int) = (0 : Int) ∧
(fTrail y18 s020).fst = [] ∧
(fTrail y18 s020).snd.fst = y18.fst ∧
(fTrail y18 s020).snd.snd = y18.snd ∧
y9.fst = y9.fst ∧
(fBodies y13 s14).fst = (fBodies y13 s14).fst ∧ y11.fst = y11.fst ∧ y12 = y12 ∧ True) ∧
∀ (s20 : Nat),
lett (bif decide (y17 - (↑s20 : Int) > (0 : Int)) then !(fTrail y18 s20).snd.snd else false) fun (y21 : Bool) =>
lett (fTake (Int.toNat (1 : Int)) (fTrail y18 s20).snd) fun (y22 : Int × StD) =>
lett
((List.replicate (1 : Nat) ((0 : Int), (0 : Int))).set (0 : Nat) (y22.fst, (fTake (Int.toNat (1 : Int)) y22.snd).fst))
fun (y23 : List (Int × Int)) =>
lett (y17 - (↑s20 : Int) - (1 : Int)) fun (y24 : Int) =>
lett (fTake (Int.toNat (1 : Int)) y22.snd).snd fun (y25 : StD) =>
lett (fTake (Int.toNat (2 : Int)) (fTrail y18 s20).snd) fun (y26 : Int × StD) =>
lett (fTake (Int.toNat (1 : Int)) (fTake (Int.toNat (2 : Int)) y26.snd).snd) fun (y27 : Int × StD) =>
lett
(y6.set (0 : Nat)
(y16.fst, (fTrail y18 s20).fst, y26.fst, (fTake (Int.toNat (2 : Int)) y26.snd).fst, y27.fst))
fun (y28 : List (Int × List (Int × Int) × Int × Int × Int)) =>
s20 ≤ y17.toNat →
(y21 = true →
((0 : Int) ≤ (1 : Int) ∧ (1 : Int) ≤ (4 : Int)) ∧
((0 : Int) ≤ (1 : Int) ∧ (1 : Int) ≤ (4 : Int)) ∧
roomFor ((fTrail y18 s20).fst.length + y23.length) (16 : Nat) ∧
InR IntKind.i64 y24 ∧
∃ (s'29 : Nat),
s'29 ≤ y17.toNat ∧
y17.toNat - s'29 < y17.toNat - s20 ∧
y17 - (↑s'29 : Int) = y24 ∧
y1.fst = y1.fst ∧
y2 = y2 ∧
y3.fst = y3.fst ∧
y4 = y4 ∧
(↑s8 : Int) = (↑s8 : Int) ∧
(↑s14 : Int) = (↑s14 : Int) ∧
y16.fst = y16.fst ∧
(0 : Int) = (0 : Int) ∧
(0 : Int) = (0 : Int) ∧
(0 : Int) = (0 : Int) ∧
(fTrail y18 s'29).fst = (fTrail y18 s20).fst ++ y23 ∧
(fTrail y18 s'29).snd.fst = y25.fst ∧
(fTrail y18 s'29).snd.snd = y25.snd ∧
y9.fst = y9.fst ∧
(fBodies y13 s14).fst = (fBodies y13 s14).fst ∧
y11.fst = y11.fst ∧ y12 = y12 ∧ True) ∧
(y21 = false →
((0 : Int) ≤ (2 : Int) ∧ (2 : Int) ≤ (4 : Int)) ∧
((0 : Int) ≤ (2 : Int) ∧ (2 : Int) ≤ (4 : Int)) ∧
((0 : Int) ≤ (1 : Int) ∧ (1 : Int) ≤ (4 : Int)) ∧
roomFor ((fBodies y13 s14).fst.length + y28.length) (56 : Nat) ∧
InR IntKind.i64 ((↑s14 : Int) + (1 : Int)) ∧
∃ (s'29 : Nat),
s'29 ≤ (fH3 b).fst.toNat ∧
(fH3 b).fst.toNat - s'29 < (fH3 b).fst.toNat - s14 ∧
(↑s'29 : Int) = (↑s14 : Int) + (1 : Int) ∧
y1.fst = y1.fst ∧
y2 = y2 ∧
y3.fst = y3.fst ∧
y4 = y4 ∧
(↑s8 : Int) = (↑s8 : Int) ∧
y11.fst = y11.fst ∧
y12 = y12 ∧
(fBodies y13 s'29).fst = (fBodies y13 s14).fst ++ y28 ∧
(fBodies y13 s'29).snd.fst = y27.snd.fst ∧
(fBodies y13 s'29).snd.snd = y27.snd.snd ∧
y9.fst = y9.fst ∧ True)) ∧
(y15 = false →
roomFor (y9.fst.length + y19.length) (72 : Nat) ∧
InR IntKind.i64 ((↑s8 : Int) + (1 : Int)) ∧
∃ (s'20 : Nat),
s'20 ≤ (fH4 b).fst.toNat ∧
(fH4 b).fst.toNat - s'20 < (fH4 b).fst.toNat - s8 ∧
(↑s'20 : Int) = (↑s8 : Int) + (1 : Int) ∧
y1.fst = y1.fst ∧
y2 = y2 ∧
y3.fst = y3.fst ∧
y4 = y4 ∧
(fNotesUp (fH1 b).fst (fH2 b).fst (fH3 b).fst (fH4 b).snd s'20).fst = y9.fst ++ y19 ∧
(fNotesUp (fH1 b).fst (fH2 b).fst (fH3 b).fst (fH4 b).snd s'20).snd.fst = (fBodies y13 s14).snd.fst ∧
(fNotesUp (fH1 b).fst (fH2 b).fst (fH3 b).fst (fH4 b).snd s'20).snd.snd = (fBodies y13 s14).snd.snd ∧
True)) ∧
(y10 = false → y9.fst = (fNotes b).fst ∧ (!y9.snd.snd) = (fNotes b).snd ∧ True)) := by kernel_rfl

theorem b31 (b : List Int) (hb : bytesOk b) (hl : b.length ≤ 1000000000) : bodyVC (ctxOf tab [(40, c40), (41, c41)] [] [] [40, 41]) Try.f31 c31 (a31 (b, ())) (b, ()) := by
  rw [v31]
  simp only [tn1, tn2, tn3]
  refine lett.mk fun y1 e1 => lett.mk fun y2 e2 => lett.mk fun y3 e3 => lett.mk fun y4 e4 => lett.mk fun y5 e5 => lett.mk fun y6 e6 => lett.mk fun y7 e7 => ?_
  have e1 : y1 = fH1 b := by rw [e1]; unfold fH1 fH0; rfl
  subst e1
  have e2 : y2 = (fH2 b).1 := by rw [e2]; unfold fH2; rfl
  subst e2
  have e3 : y3 = fH3 b := by rw [e3]; unfold fH3 fH2; rfl
  subst e3
  have e4 : y4 = (fH4 b).1 := by rw [e4]; unfold fH4; rfl
  subst e4
  have e5 : y5 = (fH4 b).2 := by rw [e5]; unfold fH4; rfl
  subst e5
  have r1 := h1_range hb
  have r2 := h2_range hb
  have r3 := h3_range hb
  have r4 := h4_range hb
  have hb4 := h4_bytes hb
  have hN : fNotes b = ((fNotesUp (fH1 b).1 (fH2 b).1 (fH3 b).1 (fH4 b).2 (fH4 b).1.toNat).1, !(fNotesUp (fH1 b).1 (fH2 b).1 (fH3 b).1 (fH4 b).2 (fH4 b).1.toNat).2.2) := by unfold fNotes fNotesAll; rfl
  rw [hN]
  generalize fH1 b = y1 at *
  generalize fH2 b = w2 at *
  generalize fH3 b = y3 at *
  generalize fH4 b = w4 at *
  simp only [le01, le02, le03, le04, le14, le24, le34, le44, true_and, and_true, Int.toNat_natCast]
  refine ⟨⟨0, by omega, rfl, rfl, rfl, rfl⟩, fun s => lett.mk fun y9 e9 => lett.mk fun y10 e10 => lett.mk fun y11 e11 => lett.mk fun y12 e12 => lett.mk fun y13 e13 => ?_⟩
  intro hs
  have hUp := up_notes y1.1 w2.1 y3.1 w4.2
  have hb9 : bytesOk y9.2.1 := by rw [e9]; exact notes_bytes hb4 s
  have l9 : y9.1.length ≤ s := by rw [e9]; exact up_len hUp rfl s
  refine ⟨fun h10 => ?_, fun h10 => ?_⟩
  · obtain ⟨hsl, hsh⟩ := go_on e10 h10
    have hb11 : bytesOk y11.2.1 := by rw [e11]; exact row_bytes hb9 _
    have hb13 : bytesOk y13.1 := by rw [e13]; exact row_bytes hb11 _
    refine ⟨by omega, by omega, ⟨0, by omega, rfl, rfl, rfl, rfl⟩, fun t => lett.mk fun y15 e15 => lett.mk fun y16 e16 => lett.mk fun y17 e17 => lett.mk fun y18 e18 => lett.mk fun y19 e19 => ?_⟩
    intro ht
    have hbB : bytesOk (fBodies y13 t).2.1 := bodies_bytes hb13 t
    have lB : (fBodies y13 t).1.length ≤ t := up_len (up_bodies y13) rfl t
    refine ⟨fun h15 => ?_, fun h15 => ?_⟩
    · obtain ⟨htl, hth⟩ := go_on e15 h15
      have hb16 : bytesOk y16.2.1 := by rw [e16]; exact take_bytes hbB
      have r17 : 0 ≤ y17 ∧ y17 ≤ 65535 := by rw [e17]; exact take2 hb16
      have hb18 : bytesOk y18.1 := by rw [e18]; exact take_bytes hb16
      refine ⟨⟨0, by omega, by omega, rfl, rfl, rfl⟩, fun u => lett.mk fun y21 e21 => lett.mk fun y22 e22 => lett.mk fun y23 e23 => lett.mk fun y24 e24 => lett.mk fun y25 e25 => lett.mk fun y26 e26 => lett.mk fun y27 e27 => lett.mk fun y28 e28 => ?_⟩
      intro hu
      have lT : (fTrail y18 u).1.length ≤ u := up_len (up_trail y18) rfl u
      have e21' : y21 = (bif decide ((u : Int) < y17) then !(fTrail y18 u).2.2 else false) := by
        rw [e21]
        congr 1
        by_cases h : (u : Int) < y17
        · rw [decide_eq_true h, decide_eq_true (by omega)]
        · rw [decide_eq_false h, decide_eq_false (by omega)]
      refine ⟨fun h21 => ?_, fun h21 => ?_⟩
      · obtain ⟨hul, huh⟩ := go_on e21' h21
        have hst := up_step (up_trail y18) huh
        have l23 : y23.length = 1 := by rw [e23]; rfl
        refine ⟨roomB (by omega) (by omega), inRB (by omega) (by omega), u + 1, by omega, by omega, by omega, ?_, ?_, ?_⟩
        · rw [hst, e23, e22]; rfl
        · rw [hst, e25, e22]; rfl
        · rw [hst, e25, e22]; rfl
      · have hend := go_end (up_trail y18) hu e21' h21
        have hst := up_step (up_bodies y13) hth
        have l28 : y28.length = 1 := by rw [e28, e6]; rfl
        have hR : fBodyR (fBodies y13 t).2 = ((y16.1, (fTrail y18 u).1, y26.1, (fTake 2 y26.2).1, y27.1), y27.2) := by
          unfold fBodyR fV fOver fLeft fTr fMany fMode
          rw [← e16, ← e17, ← e18, hend, ← e26, ← e27]
        refine ⟨roomB (by omega) (by omega), inRB (by omega) (by omega), t + 1, by omega, by omega, by omega, ?_, ?_, ?_⟩
        · rw [hst, hR, e28, e6]; rfl
        · rw [hst, hR]
        · rw [hst, hR]
    · have hend := go_end (up_bodies y13) ht e15 h15
      rw [e9] at hsh
      have hst := up_step hUp hsh
      rw [← e9] at hst
      have l19 : y19.length = 1 := by rw [e19, e7]; rfl
      have hR : fNoteR y1.1 w2.1 y3.1 y9.2 = ((y11.1, y12, (fBodies y13 t).1), (fBodies y13 t).2) := by
        unfold fNoteR
        rw [← e11, ← e12, ← e13, hend]
      refine ⟨roomB (by omega) (by omega), inRB (by omega) (by omega), s + 1, by omega, by omega, by omega, ?_, ?_, ?_⟩
      · rw [hst, hR, e19, e7]; rfl
      · rw [hst, hR]
      · rw [hst, hR]
  · rw [e9] at e10
    have hend := go_end hUp hs e10 h10
    rw [hend, ← e9]
    exact ⟨rfl, rfl⟩

theorem ok31 : DOk Try.prog 31 c31 :=
  DOk.of' (l := [(40, c40), (41, c41)]) (mclos := [40, 41]) (A := a31) tabOk ⟨ok40, ok41, trivial⟩ Try.func31 (by kernel_rfl) (by kernel_rfl) fun x hw hp => b31 x.1 (bytes_wf hw.1) hp

/-! ### Whatever is read is short -/

theorem up_all {β : Type} {F : Nat → List β × StD} {g : StD → β × StD} (hF : isUp F g) {P : β → Prop} {Q : StD → Prop} (hQ : ∀ s, Q s → Q (g s).2) (hP : ∀ s, Q s → P (g s).1) (hl : (F 0).1 = []) (h0 : Q (F 0).2) : ∀ k, Q (F k).2 ∧ ∀ x ∈ (F k).1, P x
  | 0 => ⟨h0, by rw [hl]; intro x hx; cases hx⟩
  | k + 1 => by
    obtain ⟨i1, i2⟩ := up_all hF hQ hP hl h0 k
    cases h : (F k).2.2 with
    | true => rw [up_stop hF h (k + 1) (by omega)]; exact ⟨i1, i2⟩
    | false =>
      rw [up_step hF h]
      refine ⟨hQ _ i1, fun x hx => ?_⟩
      rcases List.mem_append.1 hx with hx | hx
      · exact i2 x hx
      · rw [List.mem_singleton] at hx
        rw [hx]
        exact hP _ i1

theorem bodyR_short {s : StD} (hb : bytesOk s.1) : short (fBodyR s).1.2.1 := by
  unfold fBodyR fTr
  show (fTrail (fMany s).2 (fMany s).1.toNat).1.length ≤ 1000000
  have h1 := up_len (up_trail (fMany s).2) rfl (fMany s).1.toNat
  have h2 : 0 ≤ (fMany s).1 ∧ (fMany s).1 ≤ 65535 := by
    unfold fMany fMode
    exact take2 (take_bytes hb)
  omega

theorem bodies_short {s : StD} (hb : bytesOk s.1) {k : Nat} (hk : k ≤ 1000) : shortBs (fBodies s k).1 := by
  have h1 := up_len (up_bodies s) rfl k
  refine ⟨by show (fBodies s k).1.length ≤ 1000000; omega, ?_⟩
  exact (up_all (up_bodies s) (P := fun b => short b.2.1) (Q := fun s => bytesOk s.1) (fun _ h => bodyR_bytes h) (fun _ h => bodyR_short h) rfl hb k).2

theorem noteR_short {e g t : Int} {s : StD} (hb : bytesOk s.1) (he : e ≤ 255) (hg : g ≤ 255) (ht : t ≤ 255) : shortN (fNoteR e g t s).1 := by
  unfold fNoteR
  have h1 := up_len (up_row s) rfl e.toNat
  have h2 := up_len (up_row (fRow s e.toNat).2) rfl g.toNat
  have h3 := bodies_short (row_bytes (row_bytes hb e.toNat) g.toNat) (k := t.toNat) (by omega)
  exact ⟨by show (fRow s e.toNat).1.length ≤ 1000000; omega, by show (fRow (fRow s e.toNat).2 g.toNat).1.length ≤ 1000000; omega, h3.1, h3.2⟩

theorem notes_short {b : List Int} (hb : bytesOk b) : shortL (fNotes b).1 := by
  have r1 := h1_range hb
  have r2 := h2_range hb
  have r3 := h3_range hb
  have r4 := h4_range hb
  have hb4 := h4_bytes hb
  unfold fNotes fNotesAll
  have hl := up_len (up_notes (fH1 b).1 (fH2 b).1 (fH3 b).1 (fH4 b).2) rfl (fH4 b).1.toNat
  refine ⟨by show (fNotesUp (fH1 b).1 (fH2 b).1 (fH3 b).1 (fH4 b).2 (fH4 b).1.toNat).1.length ≤ 1000000; omega, ?_⟩
  exact (up_all (up_notes (fH1 b).1 (fH2 b).1 (fH3 b).1 (fH4 b).2) (P := shortN) (Q := fun s => bytesOk s.1) (fun _ h => noteR_bytes h) (fun _ h => noteR_short h r1.2 r2.2 r3.2) rfl hb4 (fH4 b).1.toNat).2

theorem v14 (b : List Int) : bodyVC (ctxOf tab [(31, c31), (9, c9), (32, c32)]) Try.f14 c14 noAnn (b, ()) = (
lett (bif !(fNotes b).snd then true else (↑b.length : Int) == (0 : Int)) fun (y1 : Bool) =>
lett (bif y1 then true else !fLog (fNotes b).fst == b) fun (y2 : Bool) =>
b.length ≤ (1000000000 : Nat) ∧
(y1 = false → shortL (fNotes b).fst) ∧
(y1 = false → (fLog (fNotes b).fst).length ≤ (1000000000 : Nat)) ∧
(y2 = true → [] = (fRead b).fst ∧ (2 : Int) = (fRead b).snd ∧ True) ∧ (y2 = false → (fNotes b).fst = (fRead b).fst ∧ (0 : Int) = (fRead b).snd ∧ True)) := by kernel_rfl

theorem b14 (b : List Int) (hb : bytesOk b) (hl : b.length ≤ 1000000000) : bodyVC (ctxOf tab [(31, c31), (9, c9), (32, c32)]) Try.f14 c14 noAnn (b, ()) := by
  rw [v14]
  refine lett.mk fun y1 e1 => lett.mk fun y2 e2 => ⟨hl, fun _ => notes_short hb, fun _ => by have := log_len (fNotes b).1; omega, fun h => ?_, fun h => ?_⟩
  all_goals
    have hz : ((b.length : Int) == 0) = decide (b.length = 0) := by
      by_cases h : b.length = 0
      · simp [h]
      · have : ¬ (b.length : Int) = 0 := by omega
        simp [h]
    rw [hz] at e1
    have hR : fRead b = bif y2 then ([], 2) else ((fNotes b).1, 0) := by
      rw [e2, e1]
      unfold fRead
      cases (fNotes b).2 <;> cases decide (b.length = 0) <;> cases (fLog (fNotes b).1 == b) <;> rfl
    rw [hR, h]
    exact ⟨rfl, rfl, trivial⟩

theorem ok14 : DOk Try.prog 14 c14 :=
  DOk.of' (l := [(31, c31), (9, c9), (32, c32)]) (A := fun _ => noAnn) tabOk ⟨ok31, ok9, ok32, trivial⟩ Try.func14 (by kernel_rfl) (by kernel_rfl) fun x hw hp => b14 x.1 (bytes_wf hw.1) hp

end Ytjmmamlipkbckaa
end Go.Proofs
