/-
  Two of the laws: the forms, and what is left behind a leg.
-/
import Derived.Test.YtghpaejpccpgeaaVbk
import Derived.Test.YtghpaejpccpgeaaVbi
set_option maxRecDepth 100000
set_option linter.unusedVariables false
set_option linter.unusedSimpArgs false
set_option maxHeartbeats 1000000
namespace Go.Proofs
open Go Go.Vc
namespace Ytghpaejpccpgeaa

theorem ok10' : DOk Try.prog 10 c10 := ok10 ok20

theorem asked_short {l : List ClaimD} (h : fAsked l = true) : shortL l := by
  unfold fAsked at h
  rw [Bool.and_eq_true, decide_eq_true_eq, List.all_eq_true] at h
  refine ⟨by show l.length ≤ 1000000; omega, fun c hc => ?_⟩
  have := h.2 c hc
  simp only [Bool.and_eq_true, decide_eq_true_eq, List.all_eq_true] at this
  refine ⟨?_, ?_, fun w hw => ?_⟩
  · show c.1.length ≤ 1000000; omega
  · show c.2.length ≤ 1000000; omega
  · have := this.2.2 w hw
    show w.1.length ≤ 1000000; omega

theorem not_f {b : Bool} (h : (!b) = false) : b = true := by cases b <;> simp_all
theorem not_t {b : Bool} (h : (!b) = true) : b = false := by cases b <;> simp_all

theorem fOrd_len : ∀ (n : Nat) (l : List ClaimD) (gone : List Bool) (out o : List Int), fOrd n l gone out = some o → o.length = out.length + n
  | 0, l, gone, out, o, h => by cases h; rfl
  | n + 1, l, gone, out, o, h => by
    unfold fOrd at h
    split at h
    · have := fOrd_len n _ _ _ _ h
      simp at this
      omega
    · cases h

theorem order_len {l : List ClaimD} {o : List Int} (h : fOrder l = some o) : o.length = l.length := by
  have := fOrd_len _ _ _ _ _ h
  simpa using this

theorem order_short {l : List ClaimD} (hm : fMay l = true) : ((fOrder l).getD []).length ≤ 8 := by
  have := (fMay_iff.1 hm).1
  cases h : fOrder l with
  | none => exact Nat.zero_le _
  | some o => have := order_len h; show o.length ≤ 8; omega

theorem v3 (l : List (List Int × List (List Int × Int))) (k : Int) : bodyVC (ctxOf tab [(10, c10), (11, c11), (12, c12), (13, c13), (14, c14), (15, c15), (16, c16), (17, c17), (18, c18), (19, c19)]) Try.f3 c3 noAnn (l, k, ()) = (
lett (!fMay l == fMay l) fun (y2 : Bool) =>
lett ((fOrder l).isSome == (fOrder l).isSome) fun (y3 : Bool) =>
lett (bif (fOrder l).getD [] == (fOrder l).getD [] then y3 else false) fun (y4 : Bool) =>
True ∧
((!true) = true → false = true ∧ True) ∧
((!true) = false →
True ∧
((!fAsked l) = true → true = true ∧ True) ∧
((!fAsked l) = false →
shortL l ∧
shortL l ∧
(y2 = true → false = true ∧ True) ∧
(y2 = false →
shortL l ∧
((!fMay l) = true → true = true ∧ True) ∧
((!fMay l) = false →
fMay l = true ∧
fMay l = true ∧
short ((fOrder l).getD []) ∧
(y4 = true → fMay l = true) ∧
((bif y4 then y3 else false) = true → fMay l = true) ∧
((bif y4 then y3 else false) = true → fMay l = true) ∧ (bif bif y4 then y3 else false then fFree l k == fFree l k else false) = true ∧ True))))) := by kernel_rfl

theorem b3 (l : List ClaimD) (k : Int) : bodyVC (ctxOf tab [(10, c10), (11, c11), (12, c12), (13, c13), (14, c14), (15, c15), (16, c16), (17, c17), (18, c18), (19, c19)]) Try.f3 c3 noAnn (l, k, ()) := by
  rw [v3]
  refine lett.mk fun y2 e2 => lett.mk fun y3 e3 => lett.mk fun y4 e4 => ⟨trivial, (fun h => by cases h), fun _ => ⟨trivial, fun _ => ⟨rfl, trivial⟩, fun ha => ?_⟩⟩
  have hsh := asked_short (not_f ha)
  have hy2 : y2 = false := by rw [e2]; cases fMay l <;> rfl
  have hy3 : y3 = true := by rw [e3]; cases (fOrder l).isSome <;> rfl
  have hy4 : y4 = true := by rw [e4, hy3, beq_self_eq_true]; rfl
  refine ⟨hsh, hsh, (fun h => by rw [hy2] at h; cases h), fun _ => ⟨hsh, fun _ => ⟨rfl, trivial⟩, fun hm => ?_⟩⟩
  have hm := not_f hm
  refine ⟨hm, hm, ?_, fun _ => hm, fun _ => hm, fun _ => hm, ?_, trivial⟩
  · have := order_short hm
    show _ ≤ 1000000
    omega
  · rw [hy4, hy3, cond_true, cond_true, beq_self_eq_true]

theorem ok3 : DOk Try.prog 3 c3 :=
  DOk.of' (l := [(10, c10), (11, c11), (12, c12), (13, c13), (14, c14), (15, c15), (16, c16), (17, c17), (18, c18), (19, c19)]) (A := fun _ => noAnn) tabOk ⟨ok10', ok11, ok12, ok13, ok14, ok15, ok16, ok17, ok18, ok19, trivial⟩ Try.func3 (by kernel_rfl) (by kernel_rfl) fun x _ hp => b3 x.1 x.2.1

theorem v9 (c : List Int × List (List Int × Int)) : bodyVC (ctxOf tab [(10, c10), (11, c11), (13, c13), (24, c24), (25, c25), (16, c16)]) Try.f9 c9 (a9 (c, ())) (c, ()) = (
lett ((List.replicate (1 : Nat) ([], [])).set (0 : Nat) c) fun (y1 : List (List Int × List (List Int × Int))) =>
lett (bif !(fAfter c).fst == (fAfter c).fst then true else (↑(fAfter c).snd.length : Int) != (↑(fAfter c).snd.length : Int)) fun (y2 : Bool) =>
True ∧
((!true) = true → false = true ∧ True) ∧
((!true) = false →
True ∧
((!fAsked y1) = false →
shortL y1 ∧
((!fMay y1) = true → true = true ∧ True) ∧
((!fMay y1) = false →
fClaim c = true ∧
fClaim c = true ∧
short (fAfter c).fst ∧
(y2 = true → false = true ∧ True) ∧
(y2 = false →
(∃ (s03 : Nat),
s03 ≤ (fAfter c).snd.length ∧
(↑s03 : Int) = (0 : Int) ∧
(↑(fAfter c).snd.length : Int) = (↑(fAfter c).snd.length : Int) ∧
(fAfter c).fst = (fAfter c).fst ∧ (fAfter c).snd = (fAfter c).snd ∧ (fAfter c).fst = (fAfter c).fst ∧ (fAfter c).snd = (fAfter c).snd ∧ True) ∧
∀ (s3 : Nat),
lett (decide ((↑s3 : Int) < (↑(fAfter c).snd.length : Int))) fun (y4 : Bool) =>
lett ((fAfter c).snd.getD (↑s3 : Int).toNat ([], (0 : Int))) fun (y5 : List Int × Int) =>
lett (bif y5.snd != y5.snd then true else !y5.fst == y5.fst) fun (y6 : Bool) =>
s3 ≤ (fAfter c).snd.length →
(y4 = true →
InB (↑s3 : Int) (fAfter c).snd.length ∧
InB (↑s3 : Int) (fAfter c).snd.length ∧
((y5.snd != y5.snd) = false → InB (↑s3 : Int) (fAfter c).snd.length) ∧
((y5.snd != y5.snd) = false → InB (↑s3 : Int) (fAfter c).snd.length) ∧
((y5.snd != y5.snd) = false → short y5.fst) ∧
(y6 = true → false = true ∧ True) ∧
(y6 = false →
InR IntKind.i64 ((↑s3 : Int) + (1 : Int)) ∧
∃ (s'7 : Nat),
s'7 ≤ (fAfter c).snd.length ∧
(fAfter c).snd.length - s'7 < (fAfter c).snd.length - s3 ∧
(↑s'7 : Int) = (↑s3 : Int) + (1 : Int) ∧
(↑(fAfter c).snd.length : Int) = (↑(fAfter c).snd.length : Int) ∧
(fAfter c).fst = (fAfter c).fst ∧
(fAfter c).snd = (fAfter c).snd ∧ (fAfter c).fst = (fAfter c).fst ∧ (fAfter c).snd = (fAfter c).snd ∧ True)) ∧
(y4 = false → true = true ∧ True)))) ∧
((!fAsked y1) = !false →
(true = true → true = true ∧ True) ∧
(true = false →
fClaim c = true ∧
fClaim c = true ∧
short (fAfter c).fst ∧
(y2 = true → false = true ∧ True) ∧
(y2 = false →
(∃ (s03 : Nat),
s03 ≤ (fAfter c).snd.length ∧
(↑s03 : Int) = (0 : Int) ∧
(↑(fAfter c).snd.length : Int) = (↑(fAfter c).snd.length : Int) ∧
(fAfter c).fst = (fAfter c).fst ∧ (fAfter c).snd = (fAfter c).snd ∧ (fAfter c).fst = (fAfter c).fst ∧ (fAfter c).snd = (fAfter c).snd ∧ True) ∧
∀ (s3 : Nat),
lett (decide ((↑s3 : Int) < (↑(fAfter c).snd.length : Int))) fun (y4 : Bool) =>
lett ((fAfter c).snd.getD (↑s3 : Int).toNat ([], (0 : Int))) fun (y5 : List Int × Int) =>
lett (bif y5.snd != y5.snd then true else !y5.fst == y5.fst) fun (y6 : Bool) =>
s3 ≤ (fAfter c).snd.length →
(y4 = true →
InB (↑s3 : Int) (fAfter c).snd.length ∧
InB (↑s3 : Int) (fAfter c).snd.length ∧
((y5.snd != y5.snd) = false → InB (↑s3 : Int) (fAfter c).snd.length) ∧
((y5.snd != y5.snd) = false → InB (↑s3 : Int) (fAfter c).snd.length) ∧
((y5.snd != y5.snd) = false → short y5.fst) ∧
(y6 = true → false = true ∧ True) ∧
(y6 = false →
InR IntKind.i64 ((↑s3 : Int) + (1 : Int)) ∧
∃ (s'7 : Nat),
s'7 ≤ (fAfter c).snd.length ∧
(fAfter c).snd.length - s'7 < (fAfter c).snd.length - s3 ∧
(↑s'7 : Int) = (↑s3 : Int) + (1 : Int) ∧
(↑(fAfter c).snd.length : Int) = (↑(fAfter c).snd.length : Int) ∧
(fAfter c).fst = (fAfter c).fst ∧
(fAfter c).snd = (fAfter c).snd ∧ (fAfter c).fst = (fAfter c).fst ∧ (fAfter c).snd = (fAfter c).snd ∧ True)) ∧
(y4 = false → true = true ∧ True)))))) := by kernel_rfl

theorem b9 (c : ClaimD) : bodyVC (ctxOf tab [(10, c10), (11, c11), (13, c13), (24, c24), (25, c25), (16, c16)]) Try.f9 c9 (a9 (c, ())) (c, ()) := by
  rw [v9]
  simp only [true_and, and_true, Int.toNat_natCast, implies_true]
  refine lett.mk fun y1 e1 => lett.mk fun y2 e2 => ⟨(fun h => by cases h), fun _ => ⟨fun ha => ?_, (fun ha h => by cases h)⟩⟩
  have e1 : y1 = [c] := e1
  have hsh := asked_short (not_f ha)
  refine ⟨hsh, fun hm => ?_⟩
  have hm := not_f hm
  rw [e1] at hm
  have hc := (fMay_iff.1 hm).2 c List.mem_cons_self
  have hf := fClaim_iff.2 hc
  have hac := after_may hc
  have h1 := hac.at_.1
  have h2 := hac.legs
  have hy2 : y2 = false := by rw [e2, beq_self_eq_true, bne_self_eq_false]; rfl
  refine ⟨hf, hf, by show _ ≤ 1000000; omega, (fun h => by rw [hy2] at h; cases h), fun _ => ⟨⟨0, by omega, rfl⟩, fun s => ?_⟩⟩
  refine lett.mk fun y4 e4 => lett.mk fun y5 e5 => lett.mk fun y6 e6 => ?_
  intro hs h4
  have hlt := lt_of_y e4 h4
  have hb : InB (s : Int) (fAfter c).2.length := ⟨by omega, by omega⟩
  have hy6 : y6 = false := by rw [e6, beq_self_eq_true, bne_self_eq_false]; rfl
  refine ⟨hb, hb, fun _ => hb, fun _ => hb, fun _ => ?_, (fun h => by rw [hy6] at h; cases h), fun _ => ⟨inR64 (by omega) (by omega), s + 1, by omega, by omega, by omega⟩⟩
  have e5 : y5 = (fAfter c).2.getD s ([], 0) := e5
  have := (hac.want y5 (by rw [e5]; exact mem_getD _ hlt)).1.1
  show _ ≤ 1000000
  omega

theorem ok9 : DOk Try.prog 9 c9 :=
  DOk.of' (l := [(10, c10), (11, c11), (13, c13), (24, c24), (25, c25), (16, c16)]) (A := a9) tabOk ⟨ok10', ok11, ok13, ok24, ok25, ok16, trivial⟩ Try.func9 (by kernel_rfl) (by kernel_rfl) fun x _ hp => b9 x.1

end Ytghpaejpccpgeaa
end Go.Proofs
