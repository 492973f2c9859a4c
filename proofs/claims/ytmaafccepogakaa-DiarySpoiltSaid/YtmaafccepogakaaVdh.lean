/-
  The law's own 'known', DiaryPuts, DiaryApart, DiaryReads.
-/
import Derived.Test.YtmaafccepogakaaVdg
set_option maxRecDepth 100000
set_option linter.unusedVariables false
set_option linter.unusedSimpArgs false
set_option maxHeartbeats 2000000
namespace Go.Proofs
open Go Go.Vc
namespace Ytmaafccepogakaa

theorem ok13d : DOk Try.prog 13 c13d := DOk.asData (e := 5) (t := U8) ok13

theorem ok16' : DOk Try.prog 16 c16 := ok16 ok32

theorem few_short {e : EntryD} (h : fFew e = true) : shortE e := by
  unfold fFew at h
  simp only [Bool.and_eq_true, decide_eq_true_eq] at h
  unfold shortE short
  omega

theorem v8 : bodyVC (ctxOf tab [(12, c12), (14, c14), (15, c15), (10, c10), (19, c19)]) Try.f8 c8 noAnn (()) = (
lett (([true, false], [(0 : Int), (2 : Int)], [true], [false]), [(7 : Int)], []) fun (y0 : (List Bool × List Int × List Bool × List Bool) × List Int × List Int) =>
lett (List.replicate (0 : Nat) (0 : Int) ++ fPut (2 : Int) (1 : Int) y0) fun (y1 : List Int) =>
lett (((List.replicate (2 : Nat) (0 : Int)).set (0 : Nat) (0 : Int)).set (1 : Nat) (9 : Int)) fun (y2 : List Int) =>
lett ((↑(fPut (2 : Int) (1 : Int) y0).length : Int) == (10 : Int)) fun (y3 : Bool) =>
lett (List.take ((y1 ++ y2).getD (0 : Nat) (0 : Int) * (256 : Int) + (y1 ++ y2).getD (1 : Nat) (0 : Int)).toNat (List.drop (2 : Nat) (y1 ++ y2))) fun (y4 : List Int) =>
lett (List.take (Int.toNat (1 : Int)) (List.drop (Int.toNat (2 : Int)) y4)) fun (y5 : List Int) =>
lett
(List.map (fun (x : Int) => decide (x / (4 : Int) % (2 : Int) = (1 : Int))) (List.take (Int.toNat (2 : Int)) y4),
List.map (fun (x : Int) => x % (4 : Int)) (List.take (Int.toNat (2 : Int)) y4), List.map (fun (x : Int) => decide (x % (2 : Int) = (1 : Int))) y5,
List.map (fun (x : Int) => decide (x / (2 : Int) % (2 : Int) = (1 : Int))) y5)
fun (y6 : List Bool × List Int × List Bool × List Bool) =>
lett
(List.take (↑[(7 : Int)].length : Int).toNat (List.take (2 : Nat) ((([(7 : Int)].append (fRow [])).append (fTwo (fCheck (fHead y0)))).append y2)),
List.take (↑([] : List Int).length : Int).toNat (List.take (0 : Nat) (([].append (fTwo (fCheck (fHead y0)))).append y2)))
fun (y7 : List Int × List Int) =>
lett [(y6, y7)].length fun (y8 : Nat) =>
lett
(bif
bif
bif y3 then
List.map (fun (n : Int) => UInt8.ofNat n.toNat) (List.take (Int.toNat (8 : Int)) (List.drop (0 : Nat) (fPut (2 : Int) (1 : Int) y0))) ==
[(0 : UInt8), (6 : UInt8), (4 : UInt8), (2 : UInt8), (1 : UInt8), (1 : UInt8), (7 : UInt8), (0 : UInt8)]
else false then
(↑(((y1 ++ y2).getD (0 : Nat) (0 : Int) * (256 : Int) + (y1 ++ y2).getD (1 : Nat) (0 : Int)).toNat + (4 : Nat)) : Int) + (0 : Int) == (10 : Int)
else false then
(↑y8 : Int) == (1 : Int)
else false)
fun (y9 : Bool) =>
lett (bif y9 then fSame (y6, y7) y0 else false) fun (y10 : Bool) =>
True ∧
shortE y0 ∧
roomFor ((List.replicate (0 : Nat) (0 : Int)).length + (fPut (2 : Int) (1 : Int) y0).length) (1 : Nat) ∧
roomFor (y1.length + y2.length) (1 : Nat) ∧
short (y1 ++ y2) ∧
(y3 = true → (0 : Int) ≤ (8 : Int) ∧ (8 : Int) ≤ (↑(fPut (2 : Int) (1 : Int) y0).length : Int)) ∧
(y9 = true → InB (0 : Int) y8) ∧
(y9 = true → True) ∧
(y9 = true → shortE (y6, y7)) ∧ (y10 = true → True) ∧ (y10 = true → shortE y0) ∧ (bif y10 then fMay (2 : Int) (1 : Int) y0 else false) = true ∧ True) := by kernel_rfl

theorem b8 : bodyVC (ctxOf tab [(12, c12), (14, c14), (15, c15), (10, c10), (19, c19)]) Try.f8 c8 noAnn (()) := by
  rw [v8]
  simp only [lett, shortE, short, roomFor, InB]
  decide +kernel

theorem ok8 : DOk Try.prog 8 c8 :=
  DOk.of' (l := [(12, c12), (14, c14), (15, c15), (10, c10), (19, c19)]) (A := fun _ => noAnn) tabOk ⟨ok12, ok14, ok15, ok10, ok19, trivial⟩ Try.func8 (by kernel_rfl) (by kernel_rfl) fun x _ _ => b8

theorem v3 (m : Int) (n : Int) (e : (List Bool × List Int × List Bool × List Bool) × List Int × List Int) : bodyVC (ctxOf tab [(8, c8), (9, c9), (10, c10), (11, c11), (12, c12d), (13, c13d), (14, c14)]) Try.f3 c3 noAnn (m, n, e, ()) = (
lett (fMay m n e == fMay m n e) fun (y3 : Bool) =>
lett (List.map (fun (n : Int) => UInt8.ofNat n.toNat) (fPut m n e)) fun (y4 : List UInt8) =>
lett (bif y3 then y4 == y4 else false) fun (y5 : Bool) =>
True ∧
((!true) = true → false = true ∧ True) ∧
((!true) = false →
True ∧
((!fFew e) = true → true = true ∧ True) ∧
((!fFew e) = false → shortE e ∧ shortE e ∧ (y3 = true → shortE e) ∧ (y3 = true → shortE e) ∧ (y5 = true → shortE e) ∧ (bif y5 then fSame e e else false) = true ∧ True))) := by kernel_rfl

theorem b3 (m n : Int) (e : EntryD) : bodyVC (ctxOf tab [(8, c8), (9, c9), (10, c10), (11, c11), (12, c12d), (13, c13d), (14, c14)]) Try.f3 c3 noAnn (m, n, e, ()) := by
  rw [v3]
  refine lett.mk fun y3 e3 => lett.mk fun y4 e4 => lett.mk fun y5 e5 => ⟨trivial, (fun h => by cases h), fun _ => ⟨trivial, fun _ => ⟨rfl, trivial⟩, fun h => ?_⟩⟩
  have hs : shortE e := few_short (by simpa using h)
  refine ⟨hs, hs, fun _ => hs, fun _ => hs, fun _ => hs, ?_, trivial⟩
  rw [e5, e3, fSame_iff.2 rfl]
  simp

theorem ok3 : DOk Try.prog 3 c3 :=
  DOk.of' (l := [(8, c8), (9, c9), (10, c10), (11, c11), (12, c12d), (13, c13d), (14, c14)]) (A := fun _ => noAnn) tabOk ⟨ok8, ok9, ok10, ok11, ok12d, ok13d, ok14, trivial⟩ Try.func3 (by kernel_rfl) (by kernel_rfl)
    fun x _ _ => b3 x.1 x.2.1 x.2.2.1

theorem v7 (m : Int) (n : Int) (d : (List Bool × List Int × List Bool × List Bool) × List Int × List Int) (e : (List Bool × List Int × List Bool × List Bool) × List Int × List Int) : bodyVC (ctxOf tab [(8, c8), (9, c9), (11, c11), (12, c12d), (17, c17), (14, c14)]) Try.f7 c7 noAnn (m, n, d, e, ()) = (
lett (bif !fFew d then true else !fFew e) fun (y4 : Bool) =>
lett (bif y4 then true else !fMay m n d) fun (y5 : Bool) =>
lett (bif y5 then true else !fMay m n e) fun (y6 : Bool) =>
lett ((List.map (fun (n : Int) => UInt8.ofNat n.toNat) (fPut m n d) == List.map (fun (n : Int) => UInt8.ofNat n.toNat) (fPut m n e)) == fSame d e) fun (y7 : Bool) =>
True ∧
((!true) = true → false = true ∧ True) ∧
((!true) = false →
True ∧
((!fFew d) = false → True) ∧
(y4 = false → shortE d) ∧
(y5 = false → shortE e) ∧ (y6 = true → true = true ∧ True) ∧ (y6 = false → shortE d ∧ shortE e ∧ shortE d ∧ (y7 = true → shortE d) ∧ (bif y7 then y7 else false) = true ∧ True))) := by kernel_rfl

theorem b7 (m n : Int) (d e : EntryD) : bodyVC (ctxOf tab [(8, c8), (9, c9), (11, c11), (12, c12d), (17, c17), (14, c14)]) Try.f7 c7 noAnn (m, n, d, e, ()) := by
  rw [v7]
  refine lett.mk fun y4 e4 => lett.mk fun y5 e5 => lett.mk fun y6 e6 => lett.mk fun y7 e7 => ⟨trivial, (fun h => by cases h), fun _ => ?_⟩
  have h4 : y4 = false → shortE d ∧ shortE e := fun h => by
    rw [h] at e4
    cases hd : fFew d <;> rw [hd] at e4
    · cases e4
    · cases he : fFew e <;> rw [he] at e4
      · cases e4
      · exact ⟨few_short hd, few_short he⟩
  have h5 : y5 = false → y4 = false ∧ fMay m n d = true := fun h => by
    rw [h] at e5
    cases y4
    · cases hd : fMay m n d <;> rw [hd] at e5
      · cases e5
      · exact ⟨rfl, rfl⟩
    · cases e5
  have h6 : y6 = false → y5 = false ∧ fMay m n e = true := fun h => by
    rw [h] at e6
    cases y5
    · cases hd : fMay m n e <;> rw [hd] at e6
      · cases e6
      · exact ⟨rfl, rfl⟩
    · cases e6
  refine ⟨trivial, fun _ => trivial, fun h => (h4 h).1, fun h => (h4 (h5 h).1).2, fun _ => ⟨rfl, trivial⟩, fun h => ?_⟩
  obtain ⟨g5, ge⟩ := h6 h
  obtain ⟨g4, gd⟩ := h5 g5
  obtain ⟨sd, se⟩ := h4 g4
  refine ⟨sd, se, sd, fun _ => sd, ?_, trivial⟩
  have h7 : y7 = true := by
    rw [e7, str_beq fPut_bytes fPut_bytes]
    cases hs : fSame d e with
    | true => rw [fSame_iff.1 hs]; simp
    | false =>
      have hne : (fPut m n d == fPut m n e) = false := by
        cases hb : fPut m n d == fPut m n e with
        | false => rfl
        | true =>
          have := fPut_inj (fMay_iff.1 gd) (fMay_iff.1 ge) (beq_iff_eq.1 hb)
          rw [this, fSame_iff.2 rfl] at hs
          cases hs
      rw [hne]; rfl
  rw [h7]; rfl

theorem ok7 : DOk Try.prog 7 c7 :=
  DOk.of' (l := [(8, c8), (9, c9), (11, c11), (12, c12d), (17, c17), (14, c14)]) (A := fun _ => noAnn) tabOk ⟨ok8, ok9, ok11, ok12d, ok17, ok14, trivial⟩ Try.func7 (by kernel_rfl) (by kernel_rfl)
    fun x _ _ => b7 x.1 x.2.1 x.2.2.1 x.2.2.2.1

/-! ### What is read -/

theorem fR_may {m n : Int} (hm : 0 ≤ m) (hn : 0 ≤ n) : ∀ (k : Nat) (b : List Int), b.length ≤ k → ∀ e ∈ (fR m n b).1, May m n e
  | 0, b, h, e, he => by
    have : b = [] := List.eq_nil_of_length_eq_zero (by omega)
    subst this
    cases he
  | k + 1, b, h, e, he => by
    cases hf : fFirst m.toNat n.toNat b with
    | none => rw [fR_none hm hn hf] at he; cases he
    | some p =>
      obtain ⟨d, c⟩ := p
      rw [fR_some hm hn hf] at he
      have h4 := fFirst_pos hm hn hf
      obtain ⟨h1, _, h3, _⟩ := fFirst_some hm hn hf
      rcases List.mem_cons.1 he with rfl | he
      · exact h1
      · exact fR_may hm hn k (b.drop c) (by simp; omega) e he

theorem fRead_eq (m n : Int) (b : List Int) : (small m n ∧ fRead m n b = fR m n b) ∨ (¬ small m n ∧ fRead m n b = ([], 0)) := by
  by_cases h : small m n
  · obtain ⟨h1, h2, h3, h4⟩ := h
    refine .inl ⟨⟨h1, h2, h3, h4⟩, ?_⟩
    unfold fRead fR
    rw [fIn_iff.2 ⟨h1, h2⟩, fIn_iff.2 ⟨h3, h4⟩]
    rfl
  · refine .inr ⟨h, ?_⟩
    unfold fRead
    cases h1 : fIn 0 40 m with
    | false => rfl
    | true =>
      cases h2 : fIn 0 24 n with
      | false => rfl
      | true =>
        rw [fIn_iff] at h1 h2
        exact absurd ⟨h1.1, h1.2, h2.1, h2.2⟩ h

theorem fRead_may {m n : Int} {b : List Int} : ∀ e ∈ (fRead m n b).1, May m n e := by
  rcases fRead_eq m n b with ⟨h, h1⟩ | ⟨h, h1⟩ <;> rw [h1]
  · exact fR_may h.1 h.2.2.1 _ b (Nat.le_refl _)
  · intro e he; cases he

theorem fRead_len {m n : Int} {b : List Int} : (fRead m n b).1.length ≤ b.length := by
  rcases fRead_eq m n b with ⟨h, h1⟩ | ⟨h, h1⟩ <;> rw [h1]
  · exact fR_len h.1 h.2.2.1 _ b (Nat.le_refl _)
  · simp

theorem v4 (m : Int) (n : Int) (b : List Int) : bodyVC (ctxOf tab [(8, c8), (15, c15), (16, c16), (17, c17)]) Try.f4 c4 (a4 (m, n, b, ())) (m, n, b, ()) = (
lett (decide ((↑b.length : Int) > (5000 : Int))) fun (y3 : Bool) =>
lett (fRead m n b).fst.length fun (y4 : Nat) =>
lett (bif (fRead m n b).snd != (fRead m n b).snd then true else (↑y4 : Int) != (↑y4 : Int)) fun (y5 : Bool) =>
lett (fRead m n b).fst.length fun (y6 : Nat) =>
True ∧
((!true) = true → false = true ∧ True) ∧
((!true) = false →
(y3 = true → true = true ∧ True) ∧
(y3 = false →
short b ∧
short b ∧
(y5 = true → false = true ∧ True) ∧
(y5 = false →
(∃ (s07 : Nat), s07 ≤ y6 ∧ (↑s07 : Int) = (0 : Int) ∧ (fRead m n b).fst = (fRead m n b).fst ∧ (fRead m n b).fst = (fRead m n b).fst ∧ (↑y4 : Int) = (↑y4 : Int) ∧ True) ∧
∀ (s7 : Nat),
lett (decide ((↑s7 : Int) < (↑y4 : Int))) fun (y8 : Bool) =>
lett ((fRead m n b).fst.getD (↑s7 : Int).toNat (([], [], [], []), [], [])) fun (y9 : (List Bool × List Int × List Bool × List Bool) × List Int × List Int) =>
s7 ≤ y6 →
(y8 = true →
InB (↑s7 : Int) y4 ∧
InB (↑s7 : Int) y4 ∧
shortE y9 ∧
((!fSame y9 y9) = true → false = true ∧ True) ∧
((!fSame y9 y9) = false →
InR IntKind.i64 ((↑s7 : Int) + (1 : Int)) ∧
∃ (s'10 : Nat),
s'10 ≤ y6 ∧
y6 - s'10 < y6 - s7 ∧
(↑s'10 : Int) = (↑s7 : Int) + (1 : Int) ∧
(fRead m n b).fst = (fRead m n b).fst ∧ (fRead m n b).fst = (fRead m n b).fst ∧ (↑y4 : Int) = (↑y4 : Int) ∧ True)) ∧
(y8 = false → true = true ∧ True))))) := by kernel_rfl

theorem b4 (m n : Int) (b : List Int) : bodyVC (ctxOf tab [(8, c8), (15, c15), (16, c16), (17, c17)]) Try.f4 c4 (a4 (m, n, b, ())) (m, n, b, ()) := by
  rw [v4]
  refine lett.mk fun y3 e3 => lett.mk fun y4 e4 => lett.mk fun y5 e5 => lett.mk fun y6 e6 => ⟨trivial, (fun h => by cases h), fun _ => ⟨fun _ => ⟨rfl, trivial⟩, fun h3 => ?_⟩⟩
  rw [e3] at h3
  have h3 : b.length ≤ 5000 := by have := of_decide_eq_false h3; omega
  have hs : short b := by unfold short; omega
  have hlen := fRead_len (m := m) (n := n) (b := b)
  refine ⟨hs, hs, fun h5 => ?_, fun _ => ⟨⟨0, by omega, rfl, rfl, rfl, rfl, trivial⟩, fun s => lett.mk fun y8 e8 => lett.mk fun y9 e9 => fun h => ⟨fun h8 => ?_, fun _ => ⟨rfl, trivial⟩⟩⟩⟩
  · rw [h5] at e5
    simp at e5
  · rw [e8] at h8
    have h8 : s < y4 := by have := of_decide_eq_true h8; omega
    have hmem : y9 ∈ (fRead m n b).1 := by
      rw [e9, Int.toNat_natCast]
      exact mem_getD _ (by omega)
    refine ⟨⟨by omega, by omega⟩, ⟨by omega, by omega⟩, (fRead_may _ hmem).lens, fun h9 => ?_, fun _ => ⟨inR64 (by omega) (by omega), s + 1, by omega, by omega, by omega, rfl, rfl, rfl, trivial⟩⟩
    rw [fSame_iff.2 rfl] at h9
    cases h9

theorem ok4 : DOk Try.prog 4 c4 :=
  DOk.of' (l := [(8, c8), (15, c15), (16, c16), (17, c17)]) (A := a4) tabOk ⟨ok8, ok15, ok16', ok17, trivial⟩ Try.func4 (by kernel_rfl) (by kernel_rfl)
    fun x _ _ => b4 x.1 x.2.1 x.2.2.1

end Ytmaafccepogakaa
end Go.Proofs
