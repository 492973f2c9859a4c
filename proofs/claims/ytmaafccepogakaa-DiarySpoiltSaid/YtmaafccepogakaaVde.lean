/-
  The diary's putting and reading: written out and proved.
-/
import Derived.Test.YtmaafccepogakaaVdd
set_option maxRecDepth 100000
set_option linter.unusedVariables false
set_option linter.unusedSimpArgs false
set_option maxHeartbeats 2000000
namespace Go.Proofs
open Go Go.Vc
namespace Ytmaafccepogakaa

theorem one_set {α : Type} (d x : α) : (List.replicate (1 : Nat) d).set (0 : Nat) x = [x] := rfl

theorem zip_getD {α β γ : Type} {f : α → β → γ} {p : List α} {o : List β} {s : Nat} (a : α) (b : β) (c : γ) (h : s < p.length) (k : s < o.length) : (List.zipWith f p o).getD s c = f (p.getD s a) (o.getD s b) := by
  have hz : s < (List.zipWith f p o).length := by simp; omega
  rw [getD_at c hz, getD_at a h, getD_at b k, List.getElem_zipWith]

theorem fRows_succ {e : EntryD} {k : Nat} (h : k < 2) : fRows e (k + 1) = fRows e k ++ ((((([e.2.1, e.2.2] : List (List Int)).getD k []).length : Int)) :: ([e.2.1, e.2.2] : List (List Int)).getD k []) := by
  have : k = 0 ∨ k = 1 := by omega
  rcases this with rfl | rfl <;> rfl

theorem or_pos {p : Int} {o : Bool} (h : 0 ≤ p ∧ p ≤ 2) : bitsOf .or .u8 (IntKind.u8.wrap p) (bif o then (4 : Int) else (0 : Int)) = fPos p o := by
  have : p = 0 ∨ p = 1 ∨ p = 2 := by omega
  rcases this with rfl | rfl | rfl <;> cases o <;> decide

theorem or_loop {p o : Bool} : bitsOf .or .u8 (bif p then (1 : Int) else (0 : Int)) (bif o then (2 : Int) else (0 : Int)) = fLoop p o := by
  cases p <;> cases o <;> decide

theorem fPos_bd {p : Int} {o : Bool} (h : 0 ≤ p ∧ p ≤ 2) : 0 ≤ fPos p o ∧ fPos p o ≤ 6 := by cases o <;> simp [fPos] <;> omega
theorem fLoop_bd {p o : Bool} : 0 ≤ fLoop p o ∧ fLoop p o ≤ 3 := by cases p <;> cases o <;> simp [fLoop]

theorem mem_getD {α : Type} {l : List α} {s : Nat} (d : α) (h : s < l.length) : l.getD s d ∈ l := by rw [getD_at d h]; exact List.getElem_mem h

/-- The rows' lists, one of the two. -/
theorem row_of {e : EntryD} {m n : Int} (h : May m n e) {k : Nat} (hk : k < 2) : (([e.2.1, e.2.2] : List (List Int)).getD k []).length ≤ 200 ∧ ∀ x ∈ ([e.2.1, e.2.2] : List (List Int)).getD k [], 0 ≤ x ∧ x ≤ 255 := by
  have : k = 0 ∨ k = 1 := by omega
  rcases this with rfl | rfl
  · exact ⟨h.calls, h.cs⟩
  · exact ⟨h.cancels, h.ds⟩

theorem fRows_len {e : EntryD} {m n : Int} (h : May m n e) {k : Nat} (hk : k ≤ 2) : (fRows e k).length ≤ 402 := by
  have h1 := h.calls
  have h2 := h.cancels
  have : k = 0 ∨ k = 1 ∨ k = 2 := by omega
  rcases this with rfl | rfl | rfl <;> simp [fRows, fRow] <;> omega

theorem v23 (e : (List Bool × List Int × List Bool × List Bool) × List Int × List Int) : bodyVC (ctxOf tab [(37, c37)]) Try.f23 c23 (a23 (e, ())) (e, ()) = (
lett (List.zipWith fPos e.fst.snd.fst e.fst.fst) fun (y1 : List Int) =>
lett (List.zipWith fLoop e.fst.snd.snd.fst e.fst.snd.snd.snd) fun (y2 : List Int) =>
lett (((List.replicate (2 : Nat) []).set (0 : Nat) e.snd.fst).set (1 : Nat) e.snd.snd) fun (y3 : List (List Int)) =>
(∃ (s04 : Nat),
s04 ≤ y1.length ∧
(↑s04 : Int) = (0 : Int) ∧
e.fst.snd.fst = e.fst.snd.fst ∧
(↑e.fst.snd.fst.length : Int) = (↑e.fst.snd.fst.length : Int) ∧
[] ++ List.take s04 y1 = [] ∧
e.fst.fst = e.fst.fst ∧
e.fst.snd.fst = e.fst.snd.fst ∧ e.fst.snd.snd.fst = e.fst.snd.snd.fst ∧ e.fst.snd.snd.snd = e.fst.snd.snd.snd ∧ e.snd.fst = e.snd.fst ∧ e.snd.snd = e.snd.snd ∧ True) ∧
∀ (s4 : Nat),
lett (decide ((↑s4 : Int) < (↑e.fst.snd.fst.length : Int))) fun (y5 : Bool) =>
lett
((List.replicate (1 : Nat) (0 : Int)).set (0 : Nat)
(bitsOf BinOp.or IntKind.u8 (IntKind.u8.wrap (e.fst.snd.fst.getD (↑s4 : Int).toNat (0 : Int))) (bif e.fst.fst.getD (↑s4 : Int).toNat false then (4 : Int) else (0 : Int))))
fun (y6 : List Int) =>
s4 ≤ y1.length →
(y5 = true →
InB (↑s4 : Int) e.fst.snd.fst.length ∧
InB (↑s4 : Int) e.fst.fst.length ∧
True ∧
roomFor (([] ++ List.take s4 y1).length + y6.length) (1 : Nat) ∧
InR IntKind.i64 ((↑s4 : Int) + (1 : Int)) ∧
∃ (s'7 : Nat),
s'7 ≤ y1.length ∧
y1.length - s'7 < y1.length - s4 ∧
(↑s'7 : Int) = (↑s4 : Int) + (1 : Int) ∧
e.fst.snd.fst = e.fst.snd.fst ∧
(↑e.fst.snd.fst.length : Int) = (↑e.fst.snd.fst.length : Int) ∧
[] ++ List.take s'7 y1 = [] ++ List.take s4 y1 ++ y6 ∧
e.fst.fst = e.fst.fst ∧
e.fst.snd.fst = e.fst.snd.fst ∧
e.fst.snd.snd.fst = e.fst.snd.snd.fst ∧ e.fst.snd.snd.snd = e.fst.snd.snd.snd ∧ e.snd.fst = e.snd.fst ∧ e.snd.snd = e.snd.snd ∧ True) ∧
(y5 = false →
(∃ (s07 : Nat),
s07 ≤ y2.length ∧
(↑s07 : Int) = (0 : Int) ∧
e.fst.snd.snd.fst = e.fst.snd.snd.fst ∧
(↑e.fst.snd.snd.fst.length : Int) = (↑e.fst.snd.snd.fst.length : Int) ∧
y1 ++ List.take s07 y2 = [] ++ List.take s4 y1 ∧
e.fst.fst = e.fst.fst ∧
e.fst.snd.fst = e.fst.snd.fst ∧
e.fst.snd.snd.fst = e.fst.snd.snd.fst ∧ e.fst.snd.snd.snd = e.fst.snd.snd.snd ∧ e.snd.fst = e.snd.fst ∧ e.snd.snd = e.snd.snd ∧ True) ∧
∀ (s7 : Nat),
lett (decide ((↑s7 : Int) < (↑e.fst.snd.snd.fst.length : Int))) fun (y8 : Bool) =>
lett
((List.replicate (1 : Nat) (0 : Int)).set (0 : Nat)
(bitsOf BinOp.or IntKind.u8 (bif e.fst.snd.snd.fst.getD (↑s7 : Int).toNat false then (1 : Int) else (0 : Int))
(bif e.fst.snd.snd.snd.getD (↑s7 : Int).toNat false then (2 : Int) else (0 : Int))))
fun (y9 : List Int) =>
s7 ≤ y2.length →
(y8 = true →
InB (↑s7 : Int) e.fst.snd.snd.fst.length ∧
True ∧
InB (↑s7 : Int) e.fst.snd.snd.snd.length ∧
True ∧
roomFor ((y1 ++ List.take s7 y2).length + y9.length) (1 : Nat) ∧
InR IntKind.i64 ((↑s7 : Int) + (1 : Int)) ∧
∃ (s'10 : Nat),
s'10 ≤ y2.length ∧
y2.length - s'10 < y2.length - s7 ∧
(↑s'10 : Int) = (↑s7 : Int) + (1 : Int) ∧
e.fst.snd.snd.fst = e.fst.snd.snd.fst ∧
(↑e.fst.snd.snd.fst.length : Int) = (↑e.fst.snd.snd.fst.length : Int) ∧
y1 ++ List.take s'10 y2 = y1 ++ List.take s7 y2 ++ y9 ∧
e.fst.fst = e.fst.fst ∧
e.fst.snd.fst = e.fst.snd.fst ∧
e.fst.snd.snd.fst = e.fst.snd.snd.fst ∧ e.fst.snd.snd.snd = e.fst.snd.snd.snd ∧ e.snd.fst = e.snd.fst ∧ e.snd.snd = e.snd.snd ∧ True) ∧
(y8 = false →
(∃ (s010 : Nat),
s010 ≤ (2 : Nat) ∧
(↑s010 : Int) = (0 : Int) ∧ (↑y3.length : Int) = (↑y3.length : Int) ∧ y1 ++ List.take s7 y2 ++ fRows e s010 = y1 ++ List.take s7 y2 ∧ y3 = y3 ∧ True) ∧
∀ (s10 : Nat),
lett (decide ((↑s10 : Int) < (↑y3.length : Int))) fun (y11 : Bool) =>
lett (y1 ++ List.take s7 y2 ++ fRows e s10) fun (y12 : List Int) =>
lett (y3.getD (↑s10 : Int).toNat []) fun (y13 : List Int) =>
lett ((List.replicate (1 : Nat) (0 : Int)).set (0 : Nat) (IntKind.u8.wrap (↑y13.length : Int))) fun (y14 : List Int) =>
s10 ≤ (2 : Nat) →
(y11 = true →
InB (↑s10 : Int) y3.length ∧
roomFor (y12.length + y14.length) (1 : Nat) ∧
(∃ (s015 : Nat),
s015 ≤ y13.length ∧
(↑s015 : Int) = (0 : Int) ∧
(↑y3.length : Int) = (↑y3.length : Int) ∧
(↑s10 : Int) = (↑s10 : Int) ∧
y13 = y13 ∧ (↑y13.length : Int) = (↑y13.length : Int) ∧ y12 ++ y14 ++ List.take s015 y13 = y12 ++ y14 ∧ y3 = y3 ∧ True) ∧
∀ (s15 : Nat),
lett (decide ((↑s15 : Int) < (↑y13.length : Int))) fun (y16 : Bool) =>
lett (y12 ++ y14 ++ List.take s15 y13) fun (y17 : List Int) =>
lett ((List.replicate (1 : Nat) (0 : Int)).set (0 : Nat) (IntKind.u8.wrap (y13.getD (↑s15 : Int).toNat (0 : Int))))
fun (y18 : List Int) =>
s15 ≤ y13.length →
(y16 = true →
InB (↑s15 : Int) y13.length ∧
roomFor (y17.length + y18.length) (1 : Nat) ∧
InR IntKind.i64 ((↑s15 : Int) + (1 : Int)) ∧
∃ (s'19 : Nat),
s'19 ≤ y13.length ∧
y13.length - s'19 < y13.length - s15 ∧
(↑s'19 : Int) = (↑s15 : Int) + (1 : Int) ∧
(↑y3.length : Int) = (↑y3.length : Int) ∧
(↑s10 : Int) = (↑s10 : Int) ∧
y13 = y13 ∧
(↑y13.length : Int) = (↑y13.length : Int) ∧
y12 ++ y14 ++ List.take s'19 y13 = y17 ++ y18 ∧ y3 = y3 ∧ True) ∧
(y16 = false →
InR IntKind.i64 ((↑s10 : Int) + (1 : Int)) ∧
∃ (s'19 : Nat),
s'19 ≤ (2 : Nat) ∧
(2 : Nat) - s'19 < (2 : Nat) - s10 ∧
(↑s'19 : Int) = (↑s10 : Int) + (1 : Int) ∧
(↑y3.length : Int) = (↑y3.length : Int) ∧ y1 ++ List.take s7 y2 ++ fRows e s'19 = y17 ∧ y3 = y3 ∧ True)) ∧
(y11 = false → y12 = fBody e ∧ True)))) := by kernel_rfl

theorem b23 (m n : Int) (e : EntryD) (hM : May m n e) : bodyVC (ctxOf tab [(37, c37)]) Try.f23 c23 (a23 (e, ())) (e, ()) := by
    rw [v23]
    refine lett.mk fun y1 e1 => lett.mk fun y2 e2 => lett.mk fun y3 e3 => ?_
    have e3 : y3 = [e.2.1, e.2.2] := e3
    have q1 := hM.occ; have q2 := hM.pos; have q3 := hM.loop; have q4 := hM.held; have q5 := hM.m0; have q6 := hM.n0
    have l1 : y1.length = e.1.2.1.length := by rw [e1]; simp; omega
    have l2 : y2.length = e.1.2.2.1.length := by rw [e2]; simp; omega
    have l3 : y3.length = 2 := by rw [e3]; rfl
    simp only [true_and, and_true, List.nil_append, Int.toNat_natCast, one_set]
    refine ⟨⟨0, by omega, rfl, by simp⟩, fun s => lett.mk fun y5 e5 => lett.mk fun y6 e6 => ?_⟩
    intro hs
    refine ⟨fun h1 => ?_, fun h1 => ?_⟩
    · rw [e5] at h1
      have h1 : s < e.1.2.1.length := by simpa using h1
      have hb := hM.ps _ (mem_getD 0 h1)
      have h9 : y6 = [y1.getD s 0] := by rw [e6, or_pos hb, e1, zip_getD 0 false 0 h1 (by omega)]
      refine ⟨⟨by omega, by omega⟩, ⟨by omega, by omega⟩, room (by rw [h9]; simp; omega) (by omega), inR64 (by omega) (by omega), s + 1, by omega, by omega, by omega, ?_⟩
      rw [h9, take_succ' 0 (by omega)]
    · rw [e5] at h1
      have h1 : ¬ s < e.1.2.1.length := by simpa using h1
      have hf : y1.take s = y1 := List.take_of_length_le (by omega)
      simp only [hf]
      refine ⟨⟨0, by omega, rfl, by simp⟩, fun t => lett.mk fun y8 e8 => lett.mk fun y9 e9 => ?_⟩
      intro ht
      refine ⟨fun h2 => ?_, fun h2 => ?_⟩
      · rw [e8] at h2
        have h2 : t < e.1.2.2.1.length := by simpa using h2
        have h9 : y9 = [y2.getD t 0] := by rw [e9, or_loop, e2, zip_getD false false 0 h2 (by omega)]
        refine ⟨⟨by omega, by omega⟩, ⟨by omega, by omega⟩, room (by rw [h9]; simp; omega) (by omega), inR64 (by omega) (by omega), t + 1, by omega, by omega, by omega, ?_⟩
        rw [h9, take_succ' 0 (by omega)]
        simp
      · rw [e8] at h2
        have h2 : ¬ t < e.1.2.2.1.length := by simpa using h2
        have hf2 : y2.take t = y2 := List.take_of_length_le (by omega)
        simp only [hf2]
        refine ⟨⟨0, by omega, rfl, by simp [fRows]⟩, fun k => lett.mk fun y11 e11 => lett.mk fun y12 e12 => lett.mk fun y13 e13 => lett.mk fun y14 e14 => ?_⟩
        intro hk
        have l12 : y12.length ≤ y1.length + y2.length + 402 := by
          have := fRows_len hM hk
          rw [e12]
          simp only [List.length_append]
          omega
        refine ⟨fun h3 => ?_, fun h3 => ?_⟩
        · rw [e11] at h3
          have h3 : k < 2 := by rw [l3] at h3; have := of_decide_eq_true h3; omega
          obtain ⟨r1, r2⟩ := row_of hM h3
          rw [← e3, ← e13] at r1 r2
          rw [IntWalk.u8_in _ (by omega)] at e14
          refine ⟨⟨by omega, by omega⟩, room (by rw [e14]; simp; omega) (by omega), ⟨0, by omega, rfl, by simp⟩, fun j => lett.mk fun y16 e16 => lett.mk fun y17 e17 => lett.mk fun y18 e18 => ?_⟩
          intro hj
          refine ⟨fun h5 => ?_, fun h5 => ?_⟩
          · rw [e16] at h5
            have h5 : j < y13.length := by simpa using h5
            have hb := r2 _ (mem_getD 0 h5)
            rw [IntWalk.u8_in _ hb] at e18
            refine ⟨⟨by omega, by omega⟩, room (by rw [e17, e18, e14]; simp; omega) (by omega), inR64 (by omega) (by omega), j + 1, by omega, by omega, by omega, ?_⟩
            rw [e17, e18, take_succ' 0 h5]
            simp
          · rw [e16] at h5
            have h5 : ¬ j < y13.length := by simpa using h5
            refine ⟨inR64 (by omega) (by omega), k + 1, by omega, by omega, by omega, ?_⟩
            have hr := fRows_succ (e := e) h3
            rw [← e3, ← e13] at hr
            rw [hr, e17, e12, e14, List.take_of_length_le (by omega)]
            simp
        · rw [e11, l3] at h3
          have h3 : k = 2 := by have := of_decide_eq_false h3; omega
          subst h3
          rw [e12, e1, e2]
          simp [fBody, fRows]

theorem ok23 : DOk Try.prog 23 c23 :=
  DOk.of' (l := [(37, c37)]) (A := a23) tabOk ⟨ok37, trivial⟩ Try.func23 (by kernel_rfl) (by kernel_rfl) fun x hw ⟨m, n, hM⟩ => b23 m n x.1 (fMay_iff.1 hM)

theorem v12 (m : Int) (n : Int) (e : (List Bool × List Int × List Bool × List Bool) × List Int × List Int) : bodyVC (ctxOf tab [(10, c10), (23, c23), (24, c24), (25, c25)]) Try.f12 c12 noAnn (m, n, e, ()) = (
lett (fTwo (↑(fBody e).length : Int) ++ fBody e) fun (y3 : List Int) =>
shortE e ∧
((!fMay m n e) = true → [] = fPut m n e ∧ True) ∧
((!fMay m n e) = false →
(∃ (elems4 : Int), ∃ (signals5 : Int), fMay elems4 signals5 e = true) ∧
(0 : Int) ≤ (↑(fBody e).length : Int) ∧
roomFor ((fTwo (↑(fBody e).length : Int)).length + (fBody e).length) (1 : Nat) ∧
short y3 ∧ (0 : Int) ≤ fCheck y3 ∧ roomFor (y3.length + (fTwo (fCheck y3)).length) (1 : Nat) ∧ y3 ++ fTwo (fCheck y3) = fPut m n e ∧ True)) := by kernel_rfl

theorem b12 (m n : Int) (e : EntryD) (hp : shortE e) : bodyVC (ctxOf tab [(10, c10), (23, c23), (24, c24), (25, c25)]) Try.f12 c12 noAnn (m, n, e, ()) := by
    rw [v12]
    refine lett.mk fun y3 e3 => ⟨hp, fun h => ⟨?_, trivial⟩, fun h => ?_⟩
    · rw [fPut_not]
      intro hm
      rw [fMay_iff.2 hm] at h
      cases h
    · have hM : May m n e := fMay_iff.1 (by simpa using h)
      have hb := fBody_length hM
      have := hM.m0; have := hM.n0; have := hM.calls; have := hM.cancels
      have hl : y3.length = (fBody e).length + 2 := by rw [e3]; simp [fTwo_length]; omega
      exact ⟨⟨m, n, fMay_iff.2 hM⟩, by omega, room (by simp [fTwo_length]; omega) (by omega), by unfold short; omega, (fCheck_bd _).1, room (by simp [fTwo_length]; omega) (by omega), by rw [fPut_may hM, e3]; rfl, trivial⟩

theorem ok12 : DOk Try.prog 12 c12 :=
  DOk.of' (l := [(10, c10), (23, c23), (24, c24), (25, c25)]) (A := fun _ => noAnn) tabOk ⟨ok10, ok23, ok24, ok25, trivial⟩ Try.func12 (by kernel_rfl) (by kernel_rfl) fun x hw hp => b12 x.1 x.2.1 x.2.2.1 hp

theorem v12d (m : Int) (n : Int) (e : (List Bool × List Int × List Bool × List Bool) × List Int × List Int) : bodyVC (ctxOf tab [(10, c10), (23, c23), (24, c24), (25, c25)]) Try.f12 c12d noAnn (m, n, e, ()) = (
lett (fTwo (↑(fBody e).length : Int) ++ fBody e) fun (y3 : List Int) =>
shortE e ∧
((!fMay m n e) = true → [] = fPut m n e ∧ True) ∧
((!fMay m n e) = false →
(∃ (elems4 : Int), ∃ (signals5 : Int), fMay elems4 signals5 e = true) ∧
(0 : Int) ≤ (↑(fBody e).length : Int) ∧
roomFor ((fTwo (↑(fBody e).length : Int)).length + (fBody e).length) (1 : Nat) ∧
short y3 ∧ (0 : Int) ≤ fCheck y3 ∧ roomFor (y3.length + (fTwo (fCheck y3)).length) (1 : Nat) ∧ y3 ++ fTwo (fCheck y3) = fPut m n e ∧ True)) := by kernel_rfl

theorem b12d (m n : Int) (e : EntryD) (hp : shortE e) : bodyVC (ctxOf tab [(10, c10), (23, c23), (24, c24), (25, c25)]) Try.f12 c12d noAnn (m, n, e, ()) := by
    rw [v12d]
    refine lett.mk fun y3 e3 => ⟨hp, fun h => ⟨?_, trivial⟩, fun h => ?_⟩
    · rw [fPut_not]
      intro hm
      rw [fMay_iff.2 hm] at h
      cases h
    · have hM : May m n e := fMay_iff.1 (by simpa using h)
      have hb := fBody_length hM
      have := hM.m0; have := hM.n0; have := hM.calls; have := hM.cancels
      have hl : y3.length = (fBody e).length + 2 := by rw [e3]; simp [fTwo_length]; omega
      exact ⟨⟨m, n, fMay_iff.2 hM⟩, by omega, room (by simp [fTwo_length]; omega) (by omega), by unfold short; omega, (fCheck_bd _).1, room (by simp [fTwo_length]; omega) (by omega), by rw [fPut_may hM, e3]; rfl, trivial⟩

theorem ok12d : DOk Try.prog 12 c12d :=
  DOk.of' (l := [(10, c10), (23, c23), (24, c24), (25, c25)]) (A := fun _ => noAnn) tabOk ⟨ok10, ok23, ok24, ok25, trivial⟩ Try.func12 (by kernel_rfl) (by kernel_rfl) fun x hw hp => b12d x.1 x.2.1 x.2.2.1 hp

theorem v13 (m : Int) (n : Int) (e : (List Bool × List Int × List Bool × List Bool) × List Int × List Int) : bodyVC (ctxOf tab [(11, c11), (26, c26), (27, c27)]) Try.f13 c13 (a13 (m, n, e, ())) (m, n, e, ()) = (
lett (m + n + (2 : Int) + (↑e.snd.fst.length : Int)) fun (y3 : Int) =>
lett (y3 + (↑e.snd.snd.length : Int)) fun (y4 : Int) =>
lett (List.zipWith fPos e.fst.snd.fst e.fst.fst) fun (y5 : List Int) =>
lett (List.zipWith fLoop e.fst.snd.snd.fst e.fst.snd.snd.snd) fun (y6 : List Int) =>
lett (((List.replicate (2 : Nat) []).set (0 : Nat) e.snd.fst).set (1 : Nat) e.snd.snd) fun (y7 : List (List Int)) =>
shortE e ∧
((!fMay m n e) = true → [] = fPut m n e ∧ True) ∧
((!fMay m n e) = false →
InR IntKind.i64 (m + n) ∧
InR IntKind.i64 (m + n + (2 : Int)) ∧
InR IntKind.i64 y3 ∧
InR IntKind.i64 y4 ∧
(short ([] : List Int) ∧ (0 : Int) ≤ y4) ∧
(∃ (s08 : Nat),
s08 ≤ y5.length ∧
(↑s08 : Int) = (0 : Int) ∧
n = n ∧
m = m ∧
[] ++ fTwo y4 ++ List.take s08 y5 = [] ++ fTwo y4 ∧
e.fst.fst = e.fst.fst ∧
e.fst.snd.fst = e.fst.snd.fst ∧
e.fst.snd.snd.fst = e.fst.snd.snd.fst ∧ e.fst.snd.snd.snd = e.fst.snd.snd.snd ∧ e.snd.fst = e.snd.fst ∧ e.snd.snd = e.snd.snd ∧ True) ∧
∀ (s8 : Nat),
lett (e.fst.snd.fst.getD (↑s8 : Int).toNat (0 : Int) + bif e.fst.fst.getD (↑s8 : Int).toNat false then (4 : Int) else (0 : Int)) fun (y9 : Int) =>
lett ([] ++ fTwo y4 ++ List.take s8 y5) fun (y10 : List Int) =>
lett ((List.replicate (1 : Nat) (0 : Int)).set (0 : Nat) (IntKind.u8.wrap y9)) fun (y11 : List Int) =>
s8 ≤ y5.length →
(decide ((↑s8 : Int) < m) = true →
InB (↑s8 : Int) e.fst.snd.fst.length ∧
InB (↑s8 : Int) e.fst.fst.length ∧
True ∧
InR IntKind.i64 y9 ∧
roomFor (y10.length + y11.length) (1 : Nat) ∧
InR IntKind.i64 ((↑s8 : Int) + (1 : Int)) ∧
∃ (s'12 : Nat),
s'12 ≤ y5.length ∧
y5.length - s'12 < y5.length - s8 ∧
(↑s'12 : Int) = (↑s8 : Int) + (1 : Int) ∧
n = n ∧
m = m ∧
[] ++ fTwo y4 ++ List.take s'12 y5 = y10 ++ y11 ∧
e.fst.fst = e.fst.fst ∧
e.fst.snd.fst = e.fst.snd.fst ∧
e.fst.snd.snd.fst = e.fst.snd.snd.fst ∧
e.fst.snd.snd.snd = e.fst.snd.snd.snd ∧ e.snd.fst = e.snd.fst ∧ e.snd.snd = e.snd.snd ∧ True) ∧
(decide ((↑s8 : Int) < m) = false →
(∃ (s012 : Nat),
s012 ≤ y6.length ∧
(↑s012 : Int) = (0 : Int) ∧
n = n ∧
y10 ++ List.take s012 y6 = y10 ∧
e.fst.fst = e.fst.fst ∧
e.fst.snd.fst = e.fst.snd.fst ∧
e.fst.snd.snd.fst = e.fst.snd.snd.fst ∧ e.fst.snd.snd.snd = e.fst.snd.snd.snd ∧ e.snd.fst = e.snd.fst ∧ e.snd.snd = e.snd.snd ∧ True) ∧
∀ (s12 : Nat),
lett
((bif e.fst.snd.snd.fst.getD (↑s12 : Int).toNat false then (1 : Int) else (0 : Int)) +
bif e.fst.snd.snd.snd.getD (↑s12 : Int).toNat false then (2 : Int) else (0 : Int))
fun (y13 : Int) =>
lett ((List.replicate (1 : Nat) (0 : Int)).set (0 : Nat) (IntKind.u8.wrap y13)) fun (y14 : List Int) =>
s12 ≤ y6.length →
(decide ((↑s12 : Int) < n) = true →
InB (↑s12 : Int) e.fst.snd.snd.fst.length ∧
True ∧
InB (↑s12 : Int) e.fst.snd.snd.snd.length ∧
True ∧
InR IntKind.i64 y13 ∧
roomFor ((y10 ++ List.take s12 y6).length + y14.length) (1 : Nat) ∧
InR IntKind.i64 ((↑s12 : Int) + (1 : Int)) ∧
∃ (s'15 : Nat),
s'15 ≤ y6.length ∧
y6.length - s'15 < y6.length - s12 ∧
(↑s'15 : Int) = (↑s12 : Int) + (1 : Int) ∧
n = n ∧
y10 ++ List.take s'15 y6 = y10 ++ List.take s12 y6 ++ y14 ∧
e.fst.fst = e.fst.fst ∧
e.fst.snd.fst = e.fst.snd.fst ∧
e.fst.snd.snd.fst = e.fst.snd.snd.fst ∧
e.fst.snd.snd.snd = e.fst.snd.snd.snd ∧ e.snd.fst = e.snd.fst ∧ e.snd.snd = e.snd.snd ∧ True) ∧
(decide ((↑s12 : Int) < n) = false →
(∃ (s015 : Nat),
s015 ≤ (2 : Nat) ∧
(↑s015 : Int) = (0 : Int) ∧
(↑y7.length : Int) = (↑y7.length : Int) ∧ y10 ++ List.take s12 y6 ++ fRows e s015 = y10 ++ List.take s12 y6 ∧ y7 = y7 ∧ True) ∧
∀ (s15 : Nat),
lett (decide ((↑s15 : Int) < (↑y7.length : Int))) fun (y16 : Bool) =>
lett (y10 ++ List.take s12 y6 ++ fRows e s15) fun (y17 : List Int) =>
lett (y7.getD (↑s15 : Int).toNat []) fun (y18 : List Int) =>
lett ((List.replicate (1 : Nat) (0 : Int)).set (0 : Nat) (IntKind.u8.wrap (↑y18.length : Int))) fun (y19 : List Int) =>
s15 ≤ (2 : Nat) →
(y16 = true →
InB (↑s15 : Int) y7.length ∧
roomFor (y17.length + y19.length) (1 : Nat) ∧
(∃ (s020 : Nat),
s020 ≤ y18.length ∧
(↑s020 : Int) = (0 : Int) ∧
(↑y7.length : Int) = (↑y7.length : Int) ∧
(↑s15 : Int) = (↑s15 : Int) ∧
y18 = y18 ∧
(↑y18.length : Int) = (↑y18.length : Int) ∧
y17 ++ y19 ++ List.take s020 y18 = y17 ++ y19 ∧ y7 = y7 ∧ True) ∧
∀ (s20 : Nat),
lett (decide ((↑s20 : Int) < (↑y18.length : Int))) fun (y21 : Bool) =>
lett (y17 ++ y19 ++ List.take s20 y18) fun (y22 : List Int) =>
lett
((List.replicate (1 : Nat) (0 : Int)).set (0 : Nat) (IntKind.u8.wrap (y18.getD (↑s20 : Int).toNat (0 : Int))))
fun (y23 : List Int) =>
s20 ≤ y18.length →
(y21 = true →
InB (↑s20 : Int) y18.length ∧
roomFor (y22.length + y23.length) (1 : Nat) ∧
InR IntKind.i64 ((↑s20 : Int) + (1 : Int)) ∧
∃ (s'24 : Nat),
s'24 ≤ y18.length ∧
y18.length - s'24 < y18.length - s20 ∧
(↑s'24 : Int) = (↑s20 : Int) + (1 : Int) ∧
(↑y7.length : Int) = (↑y7.length : Int) ∧
(↑s15 : Int) = (↑s15 : Int) ∧
y18 = y18 ∧
(↑y18.length : Int) = (↑y18.length : Int) ∧
y17 ++ y19 ++ List.take s'24 y18 = y22 ++ y23 ∧ y7 = y7 ∧ True) ∧
(y21 = false →
InR IntKind.i64 ((↑s15 : Int) + (1 : Int)) ∧
∃ (s'24 : Nat),
s'24 ≤ (2 : Nat) ∧
(2 : Nat) - s'24 < (2 : Nat) - s15 ∧
(↑s'24 : Int) = (↑s15 : Int) + (1 : Int) ∧
(↑y7.length : Int) = (↑y7.length : Int) ∧
y10 ++ List.take s12 y6 ++ fRows e s'24 = y22 ∧ y7 = y7 ∧ True)) ∧
(y16 = false →
(∃ (s020 : Nat),
s020 ≤ y17.length ∧
fCheck (List.take s020 y17) = (1 : Int) ∧
(↑s020 : Int) = (0 : Int) ∧ (↑y17.length : Int) = (↑y17.length : Int) ∧ y17 = y17 ∧ True) ∧
∀ (s20 : Nat),
lett (decide ((↑s20 : Int) < (↑y17.length : Int))) fun (y21 : Bool) =>
lett ((257 : Int) * fCheck (List.take s20 y17)) fun (y22 : Int) =>
lett (y22 + y17.getD (↑s20 : Int).toNat (0 : Int)) fun (y23 : Int) =>
s20 ≤ y17.length →
(y21 = true →
InB (↑s20 : Int) y17.length ∧
InR IntKind.i64 y22 ∧
InR IntKind.i64 y23 ∧
InR IntKind.i64 (y23 + (1 : Int)) ∧
(65521 : Int) ≠ (0 : Int) ∧
InR IntKind.i64 ((↑s20 : Int) + (1 : Int)) ∧
∃ (s'24 : Nat),
s'24 ≤ y17.length ∧
y17.length - s'24 < y17.length - s20 ∧
fCheck (List.take s'24 y17) = (y23 + (1 : Int)).tmod (65521 : Int) ∧
(↑s'24 : Int) = (↑s20 : Int) + (1 : Int) ∧
(↑y17.length : Int) = (↑y17.length : Int) ∧ y17 = y17 ∧ True) ∧
(y21 = false →
(short y17 ∧ (0 : Int) ≤ fCheck (List.take s20 y17)) ∧
y17 ++ fTwo (fCheck (List.take s20 y17)) = fPut m n e ∧ True)))))) := by kernel_rfl

theorem b13 (m n : Int) (e : EntryD) (hp : shortE e) : bodyVC (ctxOf tab [(11, c11), (26, c26), (27, c27)]) Try.f13 c13 (a13 (m, n, e, ())) (m, n, e, ()) := by
    rw [v13]
    refine lett.mk fun y3 e3 => lett.mk fun y4 e4 => lett.mk fun y5 e5 => lett.mk fun y6 e6 => lett.mk fun y7 e7 => ?_
    have e7 : y7 = [e.2.1, e.2.2] := e7
    simp only [true_and, and_true, List.nil_append, Int.toNat_natCast, one_set]
    refine ⟨hp, fun h => ?_, fun h => ?_⟩
    · rw [fPut_not]
      intro hm
      rw [fMay_iff.2 hm] at h
      cases h
    have hM : May m n e := fMay_iff.1 (by simpa using h)
    have q1 := hM.occ; have q2 := hM.pos; have q3 := hM.loop; have q4 := hM.held; have q5 := hM.m0; have q6 := hM.n0; have q7 := hM.calls; have q8 := hM.cancels
    have hB := fBody_length hM
    have l5 : y5.length = e.1.2.1.length := by rw [e5]; simp; omega
    have l6 : y6.length = e.1.2.2.1.length := by rw [e6]; simp; omega
    have l7 : y7.length = 2 := by rw [e7]; rfl
    have h4 : y4 = ((fBody e).length : Int) := by rw [e4, e3]; omega
    refine ⟨inR64 (by omega) (by omega), inR64 (by omega) (by omega), inR64 (by omega) (by omega), inR64 (by omega) (by omega), ⟨by unfold short; simp, by omega⟩, ⟨0, by omega, rfl, by simp⟩, fun s => lett.mk fun y9 e9 => lett.mk fun y10 e10 => ?_⟩
    intro hs
    refine ⟨fun h1 => ?_, fun h1 => ?_⟩
    · have h1 := of_decide_eq_true h1
      have h1' : s < e.1.2.1.length := by omega
      have hb := hM.ps _ (mem_getD 0 h1')
      have h9 : y9 = y5.getD s 0 := by rw [e9, e5, zip_getD 0 false 0 h1' (by omega)]; rfl
      have hbd : 0 ≤ y9 ∧ y9 ≤ 6 := by rw [e9]; exact fPos_bd hb
      refine ⟨⟨by omega, by omega⟩, ⟨by omega, by omega⟩, inR64 (by omega) (by omega), room (by rw [e10]; simp [fTwo_length]; omega) (by omega), inR64 (by omega) (by omega), s + 1, by omega, by omega, by omega, ?_⟩
      rw [e10, IntWalk.u8_in _ (by omega), h9, take_succ' 0 (by omega)]
      simp
    · have h1 := of_decide_eq_false h1
      have hf : y5.take s = y5 := List.take_of_length_le (by omega)
      rw [hf] at e10
      have l10 : y10.length = y5.length + 2 := by rw [e10]; simp [fTwo_length]; omega
      refine ⟨⟨0, by omega, rfl, by simp⟩, fun t => lett.mk fun y12 e12 => ?_⟩
      intro ht
      refine ⟨fun h2 => ?_, fun h2 => ?_⟩
      · have h2 := of_decide_eq_true h2
        have h2' : t < e.1.2.2.1.length := by omega
        have h9 : y12 = y6.getD t 0 := by rw [e12, e6, zip_getD false false 0 h2' (by omega)]; rfl
        have hbd : 0 ≤ y12 ∧ y12 ≤ 3 := by rw [e12]; exact fLoop_bd
        refine ⟨⟨by omega, by omega⟩, ⟨by omega, by omega⟩, inR64 (by omega) (by omega), room (by simp; omega) (by omega), inR64 (by omega) (by omega), t + 1, by omega, by omega, by omega, ?_⟩
        rw [IntWalk.u8_in _ (by omega), h9, take_succ' 0 (by omega)]
        simp
      · have h2 := of_decide_eq_false h2
        have hf2 : y6.take t = y6 := List.take_of_length_le (by omega)
        simp only [hf2]
        refine ⟨⟨0, by omega, rfl, by simp [fRows]⟩, fun k => lett.mk fun y14 e14 => lett.mk fun y15 e15 => lett.mk fun y16 e16 => lett.mk fun y17 e17 => ?_⟩
        intro hk
        have l15 : y15.length ≤ y5.length + 2 + y6.length + 402 := by
          have := fRows_len hM hk
          rw [e15]
          simp only [List.length_append]
          omega
        refine ⟨fun h3 => ?_, fun h3 => ?_⟩
        · rw [e14] at h3
          have h3 : k < 2 := by rw [l7] at h3; have := of_decide_eq_true h3; omega
          obtain ⟨r1, r2⟩ := row_of hM h3
          rw [← e7, ← e16] at r1 r2
          rw [IntWalk.u8_in _ (by omega)] at e17
          refine ⟨⟨by omega, by omega⟩, room (by rw [e17]; simp; omega) (by omega), ⟨0, by omega, rfl, by simp⟩, fun j => lett.mk fun y19 e19 => lett.mk fun y20 e20 => lett.mk fun y21 e21 => ?_⟩
          intro hj
          refine ⟨fun h5 => ?_, fun h5 => ?_⟩
          · rw [e19] at h5
            have h5 : j < y16.length := by simpa using h5
            have hb := r2 _ (mem_getD 0 h5)
            rw [IntWalk.u8_in _ hb] at e21
            refine ⟨⟨by omega, by omega⟩, room (by rw [e20, e21, e17]; simp; omega) (by omega), inR64 (by omega) (by omega), j + 1, by omega, by omega, by omega, ?_⟩
            rw [e20, e21, take_succ' 0 h5]
            simp
          · rw [e19] at h5
            have h5 : ¬ j < y16.length := by simpa using h5
            refine ⟨inR64 (by omega) (by omega), k + 1, by omega, by omega, by omega, ?_⟩
            have hr := fRows_succ (e := e) h3
            rw [← e7, ← e16] at hr
            rw [hr, e20, e15, e17, List.take_of_length_le (by omega)]
            simp
        · rw [e14, l7] at h3
          have h3 : k = 2 := by have := of_decide_eq_false h3; omega
          subst h3
          have hH : y15 = fHead e := by
            rw [e15, e10, e5, e6, h4]
            simp [fHead, fBody, fRows]
          have hbytes : bytes y15 := by
            have := fPut_bytes (m := m) (n := n) (e := e)
            rw [fPut_may hM, ← hH] at this
            exact fun x hx => this x (List.mem_append_left _ hx)
          refine ⟨⟨0, by omega, by simp [fCheck], rfl⟩, fun j => lett.mk fun y19 e19 => lett.mk fun y20 e20 => lett.mk fun y21 e21 => ?_⟩
          intro hj
          have hc := fCheck_bd (y15.take j)
          refine ⟨fun h5 => ?_, fun h5 => ?_⟩
          · rw [e19] at h5
            have h5 : j < y15.length := by simpa using h5
            have hb := hbytes _ (mem_getD 0 h5)
            refine ⟨⟨by omega, by omega⟩, inR64 (by omega) (by omega), inR64 (by omega) (by omega), inR64 (by omega) (by omega), by decide, inR64 (by omega) (by omega), j + 1, by omega, by omega, ?_, by omega⟩
            rw [fCheck_succ h5, Int.tmod_eq_emod_of_nonneg (by omega), e21, e20]
          · rw [e19] at h5
            have h5 : ¬ j < y15.length := by simpa using h5
            rw [List.take_of_length_le (by omega)] at hc ⊢
            refine ⟨⟨by unfold short; omega, hc.1⟩, ?_⟩
            rw [fPut_may hM, hH]

theorem ok13 : DOk Try.prog 13 c13 :=
  DOk.of' (l := [(11, c11), (26, c26), (27, c27)]) (A := a13) tabOk ⟨ok11, ok26, ok27, trivial⟩ Try.func13 (by kernel_rfl) (by kernel_rfl) fun x hw hp => b13 x.1 x.2.1 x.2.2.1 hp

end Ytmaafccepogakaa
end Go.Proofs
