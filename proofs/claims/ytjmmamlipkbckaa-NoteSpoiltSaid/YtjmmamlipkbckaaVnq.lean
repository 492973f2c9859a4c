/-
  The law package's code: written out and proved.
-/
import Derived.Test.YtjmmamlipkbckaaVnp
set_option maxRecDepth 100000
set_option linter.unusedVariables false
set_option linter.unusedSimpArgs false
set_option maxHeartbeats 2000000
namespace Go.Proofs
open Go Go.Vc
namespace Ytjmmamlipkbckaa

theorem bif_or {a b : Bool} (h : (bif a then true else b) = false) : a = false ∧ b = false := by
  cases a
  · exact ⟨rfl, h⟩
  · cases h

theorem few_short {l : List NoteD} (h : (decide (l.length ≤ 40) && l.all fFewN) = true) : shortL l := by
  rw [Bool.and_eq_true, List.all_eq_true] at h
  obtain ⟨h1, h2⟩ := h
  have h1 := of_decide_eq_true h1
  refine ⟨by show l.length ≤ 1000000; omega, fun x hx => ?_⟩
  have hx := h2 x hx
  unfold fFewN at hx
  simp only [Bool.and_eq_true, List.all_eq_true] at hx
  obtain ⟨q1, q2, q3, q4⟩ := hx
  have q1 := of_decide_eq_true q1
  have q2 := of_decide_eq_true q2
  have q3 := of_decide_eq_true q3
  refine ⟨by show x.1.length ≤ 1000000; omega, by show x.2.1.length ≤ 1000000; omega, by show x.2.2.length ≤ 1000000; omega, fun b hb => ?_⟩
  have := of_decide_eq_true (q4 b hb)
  show b.2.1.length ≤ 1000000
  omega

/-! ### The log of one note -/

def n0 : List NoteD := [([1, 2], [0], [(2, [(1, 0)], 258, 0, 7)])]
def n0log : List Int := [83, 69, 77, 2, 1, 1, 0, 1, 1, 2, 0, 2, 0, 1, 1, 0, 1, 2, 0, 0, 7, 0, 0, 7, 69]

theorem n0_may : fMay n0 = true := by kernel_rfl

theorem v7 : bodyVC (ctxOf tab [(9, c9), (14, c14), (13, c13), (10, c10)]) Try.f7 c7 noAnn (()) = (
lett
((List.replicate (1 : Nat) ([], [], [])).set (0 : Nat)
(((List.replicate (2 : Nat) (0 : Int)).set (0 : Nat) (1 : Int)).set (1 : Nat) (2 : Int), (List.replicate (1 : Nat) (0 : Int)).set (0 : Nat) (0 : Int),
(List.replicate (1 : Nat) ((0 : Int), [], (0 : Int), (0 : Int), (0 : Int))).set (0 : Nat)
((2 : Int), (List.replicate (1 : Nat) ((0 : Int), (0 : Int))).set (0 : Nat) ((1 : Int), (0 : Int)), (258 : Int), (0 : Int), (7 : Int))))
fun (y0 : List (List Int × List Int × List (Int × List (Int × Int) × Int × Int × Int))) =>
lett ((↑(fLog y0).length : Int) == (25 : Int)) fun (y1 : Bool) =>
lett
(bif y1 then
List.map (fun (n : Int) => UInt8.ofNat n.toNat) (List.take (Int.toNat (8 : Int)) (fLog y0)) ==
[(83 : UInt8), (69 : UInt8), (77 : UInt8), (2 : UInt8), (1 : UInt8), (1 : UInt8), (0 : UInt8), (1 : UInt8)]
else false)
fun (y2 : Bool) =>
lett
(bif
bif y2 then
List.map (fun (n : Int) => UInt8.ofNat n.toNat) (List.drop (Int.toNat (8 : Int)) (List.take (Int.toNat (21 : Int)) (fLog y0))) ==
[(1 : UInt8), (2 : UInt8), (0 : UInt8), (2 : UInt8), (0 : UInt8), (1 : UInt8), (1 : UInt8), (0 : UInt8), (1 : UInt8), (2 : UInt8), (0 : UInt8), (0 : UInt8), (7 : UInt8)]
else false then
(fRead (fLog y0)).snd == (0 : Int)
else false)
fun (y3 : Bool) =>
lett (bif y3 then y0 == (fRead (fLog y0)).fst else false) fun (y4 : Bool) =>
shortL y0 ∧
(fLog y0).length ≤ (1000000000 : Nat) ∧
(y1 = true → (0 : Int) ≤ (8 : Int) ∧ (8 : Int) ≤ (↑(fLog y0).length : Int)) ∧
(y2 = true → (0 : Int) ≤ (8 : Int) ∧ (8 : Int) ≤ (21 : Int)) ∧
(y2 = true → (21 : Int) ≤ (↑(fLog y0).length : Int)) ∧ (y3 = true → shortL y0) ∧ (y4 = true → shortL y0) ∧ (bif y4 then fMay y0 else false) = true ∧ True) := by kernel_rfl

theorem n0_sum : (fLog n0).length = 25 := by kernel_rfl
theorem n0_8 : (List.map (fun (n : Int) => UInt8.ofNat n.toNat) (List.take 8 (fLog n0)) == [(83 : UInt8), (69 : UInt8), (77 : UInt8), (2 : UInt8), (1 : UInt8), (1 : UInt8), (0 : UInt8), (1 : UInt8)]) = true := by kernel_rfl
theorem n0_21 : (List.map (fun (n : Int) => UInt8.ofNat n.toNat) (List.drop 8 (List.take 21 (fLog n0))) == [(1 : UInt8), (2 : UInt8), (0 : UInt8), (2 : UInt8), (0 : UInt8), (1 : UInt8), (1 : UInt8), (0 : UInt8), (1 : UInt8), (2 : UInt8), (0 : UInt8), (0 : UInt8), (7 : UInt8)]) = true := by kernel_rfl

theorem b7 : bodyVC (ctxOf tab [(9, c9), (14, c14), (13, c13), (10, c10)]) Try.f7 c7 noAnn (()) := by
  rw [v7]
  refine lett.mk fun y0 e0 => lett.mk fun y1 e1 => lett.mk fun y2 e2 => lett.mk fun y3 e3 => lett.mk fun y4 e4 => ?_
  have e0 : y0 = n0 := e0
  subst e0
  have hs := may_short n0_may
  have a1 : y1 = true := by rw [e1, n0_sum]; rfl
  have a2 : y2 = true := by rw [e2, a1]; exact n0_8
  have a3 : y3 = true := by rw [e3, a2, read_log n0_may]; exact (congrArg (fun b : Bool => bif b then ((0 : Int) == 0) else false) n0_21 : _)
  have a4 : y4 = true := by rw [e4, a3, read_log n0_may]; exact beq_self_eq_true n0
  refine ⟨hs, by rw [n0_sum]; omega, fun _ => ⟨by omega, by rw [n0_sum]; omega⟩, fun _ => ⟨by omega, by omega⟩, fun _ => by rw [n0_sum]; omega, fun _ => hs, fun _ => hs, ?_, trivial⟩
  rw [a4, n0_may]
  rfl

theorem ok7 : DOk Try.prog 7 c7 :=
  DOk.of' (l := [(9, c9), (14, c14), (13, c13), (10, c10)]) (A := fun _ => noAnn) tabOk ⟨ok9, ok14, ok13, ok10, trivial⟩ Try.func7 (by kernel_rfl) (by kernel_rfl) fun x hw hp => b7

theorem v3 (l : List (List Int × List Int × List (Int × List (Int × Int) × Int × Int × Int))) : bodyVC (ctxOf tab [(7, c7), (8, c8), (9, c9), (10, c10), (11, c11), (12, c12), (13, c13), (14, c14), (15, c15)]) Try.f3 c3 noAnn (l, ()) = (
lett
(!(decide (l.length ≤ (40 : Nat)) &&
l.all fun (n : NoteD) =>
decide (n.fst.length ≤ (100 : Nat)) &&
(decide (n.snd.fst.length ≤ (100 : Nat)) && (decide (n.snd.snd.length ≤ (20 : Nat)) && n.snd.snd.all fun (b : BodyD) => decide (b.snd.fst.length ≤ (200 : Nat))))))
fun (y1 : Bool) =>
lett (!fMay l == fMay l) fun (y2 : Bool) =>
lett (List.map (fun (n : Int) => UInt8.ofNat n.toNat) (fLog l)) fun (y3 : List UInt8) =>
lett (bif y2 then true else !y3 == y3) fun (y4 : Bool) =>
lett (bif y4 then true else !l == l) fun (y5 : Bool) =>
lett ((fRead (fLog l)).snd == (0 : Int)) fun (y6 : Bool) =>
True ∧
((!true) = true → false = true ∧ True) ∧
((!true) = false →
True ∧
(y1 = true → true = true ∧ True) ∧
(y1 = false →
shortL l ∧
shortL l ∧
shortL l ∧
(y2 = false → shortL l) ∧
(y4 = false → shortL l) ∧
(y5 = true → false = true ∧ True) ∧
(y5 = false →
shortL l ∧
((!fMay l) = true → ((↑(fLog l).length : Int) == (0 : Int)) = true ∧ True) ∧
((!fMay l) = false → (fLog l).length ≤ (1000000000 : Nat) ∧ (y6 = true → shortL l) ∧ (bif y6 then l == (fRead (fLog l)).fst else false) = true ∧ True))))) := by kernel_rfl

theorem b3 (l : List NoteD) : bodyVC (ctxOf tab [(7, c7), (8, c8), (9, c9), (10, c10), (11, c11), (12, c12), (13, c13), (14, c14), (15, c15)]) Try.f3 c3 noAnn (l, ()) := by
  rw [v3]
  refine lett.mk fun y1 e1 => lett.mk fun y2 e2 => lett.mk fun y3 e3 => lett.mk fun y4 e4 => lett.mk fun y5 e5 => lett.mk fun y6 e6 => ?_
  refine ⟨trivial, (fun h => by cases h), fun _ => ⟨trivial, fun _ => ⟨rfl, trivial⟩, fun h1 => ?_⟩⟩
  have hf : (decide (l.length ≤ 40) && l.all fFewN) = true := by
    rw [e1] at h1
    simp only [Bool.not_eq_false'] at h1
    exact h1
  have hs := few_short hf
  have a2 : y2 = false := by rw [e2]; simp
  have a4 : y4 = false := by rw [e4, a2, beq_self_eq_true]; rfl
  have a5 : y5 = false := by rw [e5, a4, beq_self_eq_true]; rfl
  refine ⟨hs, hs, hs, fun _ => hs, fun _ => hs, (fun h => by rw [a5] at h; cases h), fun _ => ⟨hs, fun hm => ⟨?_, trivial⟩, fun hm => ⟨?_, fun _ => hs, ?_, trivial⟩⟩⟩
  · simp only [Bool.not_eq_true'] at hm
    rw [log_none hm]
    rfl
  · have := log_len l
    omega
  · simp only [Bool.not_eq_false'] at hm
    rw [read_log hm] at e6
    rw [read_log hm, e6]
    exact beq_self_eq_true l

theorem ok3 : DOk Try.prog 3 c3 :=
  DOk.of' (l := [(7, c7), (8, c8), (9, c9), (10, c10), (11, c11), (12, c12), (13, c13), (14, c14), (15, c15)]) (A := fun _ => noAnn) tabOk ⟨ok7, ok8, ok9, ok10, ok11, ok12, ok13, ok14, ok15, trivial⟩ Try.func3 (by kernel_rfl) (by kernel_rfl) fun x hw hp => b3 x.1

theorem v4 (b : List Int) : bodyVC (ctxOf tab [(7, c7), (9, c9), (12, c12), (14, c14)]) Try.f4 c4 noAnn (b, ()) = (
lett (decide ((↑b.length : Int) > (5000 : Int))) fun (y1 : Bool) =>
lett (List.map (fun (n : Int) => UInt8.ofNat n.toNat) (fLog (fRead b).fst) == List.map (fun (n : Int) => UInt8.ofNat n.toNat) b) fun (y2 : Bool) =>
True ∧
((!true) = true → false = true ∧ True) ∧
((!true) = false →
(y1 = true → true = true ∧ True) ∧
(y1 = false →
b.length ≤ (1000000000 : Nat) ∧
(((fRead b).snd != (0 : Int)) = true → (bif (fRead b).snd == (2 : Int) then (↑(fRead b).fst.length : Int) == (0 : Int) else false) = true ∧ True) ∧
(((fRead b).snd != (0 : Int)) = false → shortL (fRead b).fst ∧ (y2 = true → shortL (fRead b).fst) ∧ (bif y2 then y2 else false) = true ∧ True)))) := by kernel_rfl

theorem b4 (b : List Int) (hb : bytesOk b) : bodyVC (ctxOf tab [(7, c7), (9, c9), (12, c12), (14, c14)]) Try.f4 c4 noAnn (b, ()) := by
  rw [v4]
  refine lett.mk fun y1 e1 => lett.mk fun y2 e2 => ?_
  refine ⟨trivial, (fun h => by cases h), fun _ => ⟨fun _ => ⟨rfl, trivial⟩, fun h1 => ?_⟩⟩
  rw [e1] at h1
  have h1 := of_decide_eq_false h1
  refine ⟨by omega, fun he => ?_, fun he => ?_⟩
  · rcases read_cases b with ⟨m, hr, hm, hlog⟩ | hr
    · rw [hr] at he; cases he
    · rw [hr]
      exact ⟨rfl, trivial⟩
  · rcases read_cases b with ⟨m, hr, hm, hlog⟩ | hr
    · rw [hr] at e2 ⊢
      have hs := may_short hm
      have a2 : y2 = true := by rw [e2, map_beq (log_bytes _) hb, hlog]; exact beq_self_eq_true b
      refine ⟨hs, fun _ => hs, ?_, trivial⟩
      rw [a2]
      rfl
    · rw [hr] at he; cases he

theorem ok4 : DOk Try.prog 4 c4 :=
  DOk.of' (l := [(7, c7), (9, c9), (12, c12), (14, c14)]) (A := fun _ => noAnn) tabOk ⟨ok7, ok9, ok12, ok14, trivial⟩ Try.func4 (by kernel_rfl) (by kernel_rfl) fun x hw hp => b4 x.1 (bytes_wf hw.1)

theorem v5 (l : List (List Int × List Int × List (Int × List (Int × Int) × Int × Int × Int))) («at» : Int) (c : Int) (more : List Int) : bodyVC (ctxOf tab [(7, c7), (8, c8), (11, c11), (12, c12), (14, c14)]) Try.f5 c5 noAnn (l, «at», c, more, ()) = (
lett
(!(decide (l.length ≤ (40 : Nat)) &&
l.all fun (n : NoteD) =>
decide (n.fst.length ≤ (100 : Nat)) &&
(decide (n.snd.fst.length ≤ (100 : Nat)) && (decide (n.snd.snd.length ≤ (20 : Nat)) && n.snd.snd.all fun (b : BodyD) => decide (b.snd.fst.length ≤ (200 : Nat))))))
fun (y4 : Bool) =>
lett (bif bif y4 then true else !fMay l then true else decide ((↑more.length : Int) > (100 : Int))) fun (y5 : Bool) =>
lett (IntKind.u64.wrap (↑(fLog l).length : Int)) fun (y6 : Int) =>
lett (IntKind.i64.wrap ((IntKind.u64.wrap «at»).tmod y6)) fun (y7 : Int) =>
lett (List.replicate (0 : Nat) (0 : Int) ++ fLog l) fun (y8 : List Int) =>
True ∧
((!true) = true → false = true ∧ True) ∧
((!true) = false →
True ∧
(y4 = false → shortL l) ∧
(y5 = true → true = true ∧ True) ∧
(y5 = false →
shortL l ∧
y6 ≠ (0 : Int) ∧
roomFor ((List.replicate (0 : Nat) (0 : Int)).length + (fLog l).length) (1 : Nat) ∧
InB y7 y8.length ∧
(y8.set y7.toNat c).length ≤ (1000000000 : Nat) ∧
((0 : Int) ≤ y7 ∧ y7 ≤ (↑(fLog l).length : Int)) ∧
(List.take y7.toNat (fLog l)).length ≤ (1000000000 : Nat) ∧
roomFor ((List.replicate (0 : Nat) (0 : Int)).length + (fLog l).length) (1 : Nat) ∧
roomFor (y8.length + more.length) (1 : Nat) ∧
(y8 ++ more).length ≤ (1000000000 : Nat) ∧
InB y7 (fLog l).length ∧
(bif
bif ((fRead (y8.set y7.toNat c)).snd == (2 : Int)) == (c != (fLog l).getD y7.toNat (0 : Int)) then
(fRead (List.take y7.toNat (fLog l))).snd == (2 : Int)
else false then
((fRead (y8 ++ more)).snd == (2 : Int)) == decide ((↑more.length : Int) > (0 : Int))
else false) =
true ∧
True))) := by kernel_rfl

theorem wrap_u64 (n : Int) : IntKind.u64.wrap n = n % 18446744073709551616 := by simp [IntKind.wrap, IntKind.bits, IntKind.signed]

theorem place (a : Int) {n : Nat} (h : 0 < n ∧ n ≤ 1000000000) {y6 y7 : Int} (e6 : y6 = IntKind.u64.wrap (n : Int)) (e7 : y7 = IntKind.i64.wrap ((IntKind.u64.wrap a).tmod y6)) : y6 = n ∧ 0 ≤ y7 ∧ y7 < n := by
  have h6 : y6 = n := by rw [e6, wrap_u64]; omega
  refine ⟨h6, ?_⟩
  have hw : 0 ≤ IntKind.u64.wrap a := by rw [wrap_u64]; omega
  have h1 := Int.emod_nonneg (IntKind.u64.wrap a) (b := y6) (by omega)
  have h2 := Int.emod_lt_of_pos (IntKind.u64.wrap a) (b := y6) (by omega)
  rw [e7, Int.tmod_eq_emod_of_nonneg hw, IntWalk.i64_in _ (by omega)]
  omega

theorem b5 (l : List NoteD) (at' : Int) (c : Int) (more : List Int) (hc : 0 ≤ c ∧ c ≤ 255) : bodyVC (ctxOf tab [(7, c7), (8, c8), (11, c11), (12, c12), (14, c14)]) Try.f5 c5 noAnn (l, at', c, more, ()) := by
  rw [v5]
  refine lett.mk fun y4 e4 => lett.mk fun y5 e5 => lett.mk fun y6 e6 => lett.mk fun y7 e7 => lett.mk fun y8 e8 => ?_
  refine ⟨trivial, (fun h => by cases h), fun _ => ⟨trivial, fun h4 => ?_, fun _ => ⟨rfl, trivial⟩, fun h5 => ?_⟩⟩
  · rw [e4] at h4
    simp only [Bool.not_eq_false'] at h4
    exact few_short h4
  rw [e5] at h5
  obtain ⟨h5, hmore⟩ := bif_or h5
  obtain ⟨h4, hm⟩ := bif_or h5
  simp only [Bool.not_eq_false'] at hm
  have hs := may_short hm
  have hmore := of_decide_eq_false hmore
  have hlen := log_len l
  have hpos := log_pos hm
  obtain ⟨h6, p1, p2⟩ := place at' ⟨by omega, by omega⟩ e6 e7
  have e8 : y8 = fLog l := e8
  subst e8
  have hk : y7.toNat < (fLog l).length := by omega
  have hlr : ((List.replicate (0 : Nat) (0 : Int)).length + (fLog l).length) = (fLog l).length := by simp
  have hset : (List.set (fLog l) y7.toNat c).length = (fLog l).length := List.length_set
  have htake : (List.take y7.toNat (fLog l)).length ≤ (fLog l).length := by rw [List.length_take]; omega
  have happ : (fLog l ++ more).length = (fLog l).length + more.length := List.length_append
  refine ⟨hs, by omega, by rw [hlr]; exact roomB (by omega) (by omega), ⟨p1, p2⟩, by omega, ⟨p1, by omega⟩, by omega, by rw [hlr]; exact roomB (by omega) (by omega), roomB (by omega) (by omega), by omega, ⟨p1, p2⟩, ?_, trivial⟩
  rw [cut_short hm hk]
  have hA : ((fRead ((fLog l).set y7.toNat c)).2 == (2 : Int)) = (c != (fLog l).getD y7.toNat 0) := by
    by_cases he : c = (fLog l).getD y7.toNat 0
    · have : (fLog l).set y7.toNat c = fLog l := by
        rw [he, getD_at 0 hk, List.set_getElem_self]
      rw [this, read_log hm, ← he]
      simp
    · rw [spoilt hm hk hc he, bne_iff_ne.2 he]
      rfl
  have hC : ((fRead (fLog l ++ more)).2 == (2 : Int)) = decide ((more.length : Int) > 0) := by
    cases more with
    | nil =>
      rw [List.append_nil, read_log hm]
      rfl
    | cons x more =>
      rw [made_long hm (by simp)]
      rw [decide_eq_true (by simp only [List.length_cons]; omega)]
      rfl
  rw [hA, hC]
  simp only [beq_self_eq_true, cond_true]

theorem ok5 : DOk Try.prog 5 c5 :=
  DOk.of' (l := [(7, c7), (8, c8), (11, c11), (12, c12), (14, c14)]) (A := fun _ => noAnn) tabOk ⟨ok7, ok8, ok11, ok12, ok14, trivial⟩ Try.func5 (by kernel_rfl) (by kernel_rfl) fun x hw hp => b5 x.1 x.2.1 x.2.2.1 x.2.2.2.1 (inR_u8 hw.2.2.1)

theorem v6 (a : List (List Int × List Int × List (Int × List (Int × Int) × Int × Int × Int))) (b : List (List Int × List Int × List (Int × List (Int × Int) × Int × Int × Int))) : bodyVC (ctxOf tab [(7, c7), (8, c8), (9, c9), (11, c11), (13, c13), (15, c15)]) Try.f6 c6 noAnn (a, b, ()) = (
lett
(!(decide (a.length ≤ (40 : Nat)) &&
a.all fun (n : NoteD) =>
decide (n.fst.length ≤ (100 : Nat)) &&
(decide (n.snd.fst.length ≤ (100 : Nat)) && (decide (n.snd.snd.length ≤ (20 : Nat)) && n.snd.snd.all fun (b : BodyD) => decide (b.snd.fst.length ≤ (200 : Nat))))))
fun (y2 : Bool) =>
lett
(bif y2 then true
else
!(decide (b.length ≤ (40 : Nat)) &&
b.all fun (n : NoteD) =>
decide (n.fst.length ≤ (100 : Nat)) &&
(decide (n.snd.fst.length ≤ (100 : Nat)) && (decide (n.snd.snd.length ≤ (20 : Nat)) && n.snd.snd.all fun (b : BodyD) => decide (b.snd.fst.length ≤ (200 : Nat))))))
fun (y3 : Bool) =>
lett (bif y3 then true else !fMay a) fun (y4 : Bool) =>
lett (bif y4 then true else !fMay b) fun (y5 : Bool) =>
lett ((List.map (fun (n : Int) => UInt8.ofNat n.toNat) (fLog a) == List.map (fun (n : Int) => UInt8.ofNat n.toNat) (fLog b)) == (a == b)) fun (y6 : Bool) =>
True ∧
((!true) = true → false = true ∧ True) ∧
((!true) = false →
True ∧
(y2 = false → True) ∧
(y3 = false → shortL a) ∧
(y4 = false → shortL b) ∧ (y5 = true → true = true ∧ True) ∧ (y5 = false → shortL a ∧ shortL b ∧ shortL a ∧ (y6 = true → shortL a) ∧ (bif y6 then y6 else false) = true ∧ True))) := by kernel_rfl

theorem b6 (a : List NoteD) (b : List NoteD) : bodyVC (ctxOf tab [(7, c7), (8, c8), (9, c9), (11, c11), (13, c13), (15, c15)]) Try.f6 c6 noAnn (a, b, ()) := by
  rw [v6]
  refine lett.mk fun y2 e2 => lett.mk fun y3 e3 => lett.mk fun y4 e4 => lett.mk fun y5 e5 => lett.mk fun y6 e6 => ?_
  have f2 : y2 = false → shortL a := fun h => by
    rw [e2] at h
    simp only [Bool.not_eq_false'] at h
    exact few_short h
  have f4 : y4 = false → shortL b := fun h => by
    rw [e4] at h
    obtain ⟨h, _⟩ := bif_or h
    rw [e3] at h
    obtain ⟨_, h⟩ := bif_or h
    simp only [Bool.not_eq_false'] at h
    exact few_short h
  have f3 : y3 = false → shortL a := fun h => by
    rw [e3] at h
    exact f2 (bif_or h).1
  refine ⟨trivial, (fun h => by cases h), fun _ => ⟨trivial, fun _ => trivial, f3, f4, fun _ => ⟨rfl, trivial⟩, fun h5 => ?_⟩⟩
  rw [e5] at h5
  obtain ⟨h4, hmb⟩ := bif_or h5
  simp only [Bool.not_eq_false'] at hmb
  have h4' := h4
  rw [e4] at h4'
  obtain ⟨h3, hma⟩ := bif_or h4'
  simp only [Bool.not_eq_false'] at hma
  have sa := f3 h3
  have sb := f4 h4
  have hab : (fLog a == fLog b) = (a == b) := by
    cases h : (a == b) with
    | true => rw [eq_of_beq h]; exact beq_self_eq_true _
    | false =>
      rw [beq_eq_false_iff_ne] at h ⊢
      exact fun e => h (log_inj hma hmb e)
  have a6 : y6 = true := by rw [e6, map_beq (log_bytes _) (log_bytes _), hab]; exact beq_self_eq_true _
  refine ⟨sa, sb, sa, fun _ => sa, ?_, trivial⟩
  rw [a6]
  rfl

theorem ok6 : DOk Try.prog 6 c6 :=
  DOk.of' (l := [(7, c7), (8, c8), (9, c9), (11, c11), (13, c13), (15, c15)]) (A := fun _ => noAnn) tabOk ⟨ok7, ok8, ok9, ok11, ok13, ok15, trivial⟩ Try.func6 (by kernel_rfl) (by kernel_rfl) fun x hw hp => b6 x.1 x.2.1

end Ytjmmamlipkbckaa
end Go.Proofs
