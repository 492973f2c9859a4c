/-
  The program's Wants; the reference's lines and Wants: proofs; Wants: the program's and the reference's are the same (plain); Contracts of the program's tokens and of what they ask of a book of locks, with annotations; Tokens, and what they ask of a book of locks: proofs; Contracts of the laws' own functions (semaphorelaw15); Roads of a plan: what a search for a flank keeps; that a road has the steps and needs with which it was found; The laws' own functions: what is known of the small plan with a line; the law of Wants; Contracts of the reference's Why (do two roads shut each other out?) and of the law of one direction, with annotations; A road's steps follow one another, on elements that differ; over a line they all run one way (plain); The reference's Why; the law of one direction over a line; Contracts of the library's sort of integers (of no more than twelve), with annotations; Contracts of the program's book of locks, with annotations; The library's sort of integers (of no more than twelve): proofs; The program's book of locks: proofs; The program's book of locks: May and Take; Contracts of the reference's book of locks and of lines' directions, with annotations; The reference's book of locks: proofs; The reference's book of locks: Take; lines' directions; a life's beginning; Contracts of the program's call and of the reference's Why, with annotations.
-/
import Derived.Test.YtpnnfimacblhgaaGreatM4

section
set_option maxRecDepth 100000
set_option linter.unusedVariables false
set_option linter.unusedSimpArgs false
set_option maxHeartbeats 2000000
namespace Go.Proofs
open Go Go.Vc
namespace YtpnnfimacblhgaaGreat
theorem gLine_in {n : NetD} (h : lineIn n) (e : Int) : (gLine n e).1 < 0 ∨ (0 ≤ (gLine n e).1 ∧ (gLine n e).1 ≤ 9) := by
 unfold gLine
 cases hm : mget I n.2.2.2.1 e with
 | none => exact .inl (by decide)
 | some x => exact .inr (h _ (mem_of_mget intKey hm))
structure WantsOk (l : List TurnD) : Prop where
 nodup : (l.map Prod.fst).Nodup
 inn : ∀ t ∈ l, 0 ≤ t.1 ∧ t.1 ≤ 9
theorem wants_step {n : NetD} (h : lineIn n) {l : List TurnD} (hl : WantsOk l) (s : StepD) : WantsOk (wantStep n l s) := by
 unfold wantStep
 cases h1 : decide ((gLine n s.1).1 < 0) with
 | true => exact hl
 | false =>
  cases h2 : l.any (fun t => t.1 == (gLine n s.1).1) with
  | true => exact hl
  | false =>
   refine ⟨?_, fun t ht => ?_⟩
   ·show ((l ++ [_]).map Prod.fst).Nodup
    rw [List.map_append, List.nodup_append]
    refine ⟨hl.nodup, by simp, fun a ha b hb he => ?_⟩
    have hb : b = (gLine n s.1).1 := by simpa using hb
    obtain ⟨t, ht, rfl⟩ := List.mem_map.1 ha
    have := List.any_eq_false.1 h2 t ht
    rw [he, hb] at this
    simp at this
   ·rcases List.mem_append.1 (show t ∈ l ++ [_] from ht) with ht | ht
    ·exact hl.inn t ht
    ·rw [List.mem_singleton.1 ht]
     rcases gLine_in h s.1 with h | h
     ·exact absurd h (of_decide_eq_false h1)
     ·exact h
theorem wants_up {n : NetD} (h : lineIn n) (r : RoadD) : ∀ k, WantsOk (wantsUp n r k)
 | 0 => ⟨List.nodup_nil, fun t ht => absurd ht (List.not_mem_nil)⟩
 | k + 1 => wants_step h (wants_up h r k) _
theorem wants_len {l : List TurnD} (h : WantsOk l) : l.length ≤ 10 := by
 have := nodup_len (l := l.map Prod.fst) (m := [0, 1, 2, 3, 4, 5, 6, 7, 8, 9]) h.nodup (fun x hx => by
  obtain ⟨t, ht, rfl⟩ := List.mem_map.1 hx
  have := h.inn t ht
  have : t.1 = 0 ∨ t.1 = 1 ∨ t.1 = 2 ∨ t.1 = 3 ∨ t.1 = 4 ∨ t.1 = 5 ∨ t.1 = 6 ∨ t.1 = 7 ∨ t.1 = 8 ∨ t.1 = 9 := by omega
  simp only [List.mem_cons, List.not_mem_nil, or_false]
  exact this)
 rw [List.length_map] at this
 exact this
theorem wants_small {l : List TurnD} (h : WantsOk l) : small l := ⟨by have := wants_len h; omega, fun t ht => by have := h.inn t ht; omega⟩
theorem v9 (n : NetD) (r : RoadD) : bodyVC (ctxOf tab [(11, c11), (12, c12), (290027, c290027), (310029, c310029)] [] [(28, .pair (.ref I) .unit), (30, .unit)]) Tryz.f9 c9 (a9 (n, r, ())) (n, r, ()) = (
(∃ (s02 : Nat),
s02 ≤ r.2.2.2.1.length ∧
(↑s02 : Int) = (0 : Int) ∧
[n] = [n] ∧
(0 : Nat) = (0 : Nat) ∧
r.2.2.2.1 = r.2.2.2.1 ∧
(↑r.2.2.2.1.length : Int) = (↑r.2.2.2.1.length : Int) ∧
wantsUp n r s02 = [] ∧
keepP r (True)) ∧
∀ (s2 : Nat),
lett (decide ((↑s2 : Int) < (↑r.2.2.2.1.length : Int))) fun (y3 : Bool) =>
lett (r.2.2.2.1.getD (↑s2 : Int).toNat ((0 : Int), (0 : Int), (0 : Int))) fun (y4 : Int × Int × Int) =>
lett (decide ((gLine n y4.1).1 < (0 : Int))) fun (y5 : Bool) =>
lett ((wantsUp n r s2).any fun (t : TurnD) => t.1 == (gLine n y4.1).1) fun (y6 : Bool) =>
lett (gLead n y4.1 y4.2.1) fun (y7 : Int) =>
lett ((List.replicate (1 : Nat) ((0 : Int), (0 : Int))).set (0 : Nat) ((gLine n y4.1).1, y7)) fun (y8 : List (Int × Int)) =>
lett ((List.replicate (1 : Nat) ((0 : Int), (0 : Int))).set (0 : Nat) ((gLine n y4.1).1, y7)) fun (y9 : List (Int × Int)) =>
s2 ≤ r.2.2.2.1.length →
(y3 = true →
InB (↑s2 : Int) r.2.2.2.1.length ∧
True ∧
(y5 = false →
(wantsUp n r s2).length ≤ (1000 : Nat) ∧
(y6 = true →
InR IntKind.i64 ((↑s2 : Int) + (1 : Int)) ∧
∃ (s'10 : Nat),
s'10 ≤ r.2.2.2.1.length ∧
r.2.2.2.1.length - s'10 < r.2.2.2.1.length - s2 ∧
(↑s'10 : Int) = (↑s2 : Int) + (1 : Int) ∧
[n] = [n] ∧
(0 : Nat) = (0 : Nat) ∧
r.2.2.2.1 = r.2.2.2.1 ∧
(↑r.2.2.2.1.length : Int) = (↑r.2.2.2.1.length : Int) ∧
wantsUp n r s'10 = wantsUp n r s2 ∧
keepP r (True)) ∧
(y6 = false →
True ∧
roomFor ((wantsUp n r s2).length + y8.length) (16 : Nat) ∧
InR IntKind.i64 ((↑s2 : Int) + (1 : Int)) ∧
∃ (s'10 : Nat),
s'10 ≤ r.2.2.2.1.length ∧
r.2.2.2.1.length - s'10 < r.2.2.2.1.length - s2 ∧
(↑s'10 : Int) = (↑s2 : Int) + (1 : Int) ∧
[n] = [n] ∧
(0 : Nat) = (0 : Nat) ∧
r.2.2.2.1 = r.2.2.2.1 ∧
(↑r.2.2.2.1.length : Int) = (↑r.2.2.2.1.length : Int) ∧
wantsUp n r s'10 = wantsUp n r s2 ++ y8 ∧
keepP r (True))) ∧
(y5 = !false →
(true = true →
InR IntKind.i64 ((↑s2 : Int) + (1 : Int)) ∧
∃ (s'10 : Nat),
s'10 ≤ r.2.2.2.1.length ∧
r.2.2.2.1.length - s'10 < r.2.2.2.1.length - s2 ∧
(↑s'10 : Int) = (↑s2 : Int) + (1 : Int) ∧
[n] = [n] ∧
(0 : Nat) = (0 : Nat) ∧
r.2.2.2.1 = r.2.2.2.1 ∧
(↑r.2.2.2.1.length : Int) = (↑r.2.2.2.1.length : Int) ∧
wantsUp n r s'10 = wantsUp n r s2 ∧
keepP r (True)) ∧
(true = false →
True ∧
roomFor ((wantsUp n r s2).length + y9.length) (16 : Nat) ∧
InR IntKind.i64 ((↑s2 : Int) + (1 : Int)) ∧
∃ (s'10 : Nat),
s'10 ≤ r.2.2.2.1.length ∧
r.2.2.2.1.length - s'10 < r.2.2.2.1.length - s2 ∧
(↑s'10 : Int) = (↑s2 : Int) + (1 : Int) ∧
[n] = [n] ∧
(0 : Nat) = (0 : Nat) ∧
r.2.2.2.1 = r.2.2.2.1 ∧
(↑r.2.2.2.1.length : Int) = (↑r.2.2.2.1.length : Int) ∧
wantsUp n r s'10 = wantsUp n r s2 ++ y9 ∧
keepP r (True)))) ∧
(y3 = false → small (wantsUp n r s2) ∧ fSort (wantsUp n r s2) = fWants n r ∧ True)) := by kernel_rfl
theorem b9 (n : NetD) (r : RoadD) (hl : lineIn n) (hr : r.2.2.2.1.length ≤ 1000) : bodyVC (ctxOf tab [(11, c11), (12, c12), (290027, c290027), (310029, c310029)] [] [(28, .pair (.ref I) .unit), (30, .unit)]) Tryz.f9 c9 (a9 (n, r, ())) (n, r, ()) := by
 rw [v9]
 simp only [keepP_eq, true_and, and_true, eq_self]
 refine ⟨⟨0, by omega, by omega, rfl⟩, fun s => lett.mk fun y3 e3 => lett.mk fun y4 e4 => lett.mk fun y5 e5 => lett.mk fun y6 e6 => lett.mk fun y7 e7 => lett.mk fun y8 e8 => lett.mk fun y9 e9 => fun hs => ⟨fun h => ?_, fun h => ?_⟩⟩
 ·have hs' := lt_of_y e3 h
  rw [Int.toNat_natCast] at e4
  have hw : wantsUp n r (s + 1) = wantStep n (wantsUp n r s) y4 := by rw [e4]; rfl
  have hq : wantStep n (wantsUp n r s) y4 = bif y5 || y6 then wantsUp n r s else wantsUp n r s ++ y8 := by rw [e5, e6, e8, e7]; rfl
  have h10 := wants_len (wants_up hl r s)
  refine ⟨⟨by omega, by omega⟩, fun h5 => ⟨by omega, fun h6 => ⟨inR64 (by omega) (by omega), s + 1, by omega, by omega, by omega, ?_⟩, fun h6 => ⟨roomB (by rw [e8]; show _ + 1 ≤ _; omega) (by omega), inR64 (by omega) (by omega), s + 1, by omega, by omega, by omega, ?_⟩⟩, fun h5 => ⟨fun _ => ⟨inR64 (by omega) (by omega), s + 1, by omega, by omega, by omega, ?_⟩, fun h => Bool.noConfusion h⟩⟩
  ·rw [hw, hq, h5, h6]; rfl
  ·rw [hw, hq, h5, h6]; rfl
  ·rw [hw, hq, h5]; rfl
 ·have hs' := le_of_y e3 h
  have : s = r.2.2.2.1.length := by omega
  subst this
  refine ⟨wants_small (wants_up hl r _), ?_⟩
  unfold fWants
  rfl
theorem ok9 : DOk Tryz.prog 9 c9 :=
 DOk.of' (l := [(11, c11), (12, c12), (290027, c290027), (310029, c310029)]) (wraps := []) (clos := [(28, .pair (.ref I) .unit), (30, .unit)]) (A := a9) tabOk ⟨ok11, ok12, ok290027, ok310029, trivial⟩ Tryz.func9 (by kernel_rfl) (by kernel_rfl) fun x hw hp => b9 x.1 x.2.1 hp.1 hp.2
theorem pos_at {l : List Int} {e : Int} {k : Nat} (hk : k < l.length) (h0 : anyTo (fun k => l.getD k 0 == e) k = false) (h : (l.getD k 0 == e) = true) : posOf l e = some k := by
 unfold posOf
 exact firstTo_at hk h0 h
theorem pos_none {l : List Int} {e : Int} (h0 : anyTo (fun k => l.getD k 0 == e) l.length = false) : posOf l e = none := by
 unfold posOf
 exact firstTo_none h0
theorem pos_some {l : List Int} {e : Int} {k : Nat} (h : posOf l e = some k) : k < l.length ∧ l.getD k 0 = e := by
 unfold posOf at h
 have := firstTo_some h
 exact ⟨this.1, eq_of_beq this.2⟩
theorem line_hit {p : PlanD} {e : Int} {s k : Nat} (hs : s < p.2.2.2.1.length) (h0 : anyTo (inLine p e) s = false) (hk : posOf (p.2.2.2.1.getD s zL).2 e = some k) : fLineOf p e = ((s : Int), (k : Int)) := by
 unfold fLineOf
 rw [firstTo_at hs h0 (by unfold inLine; rw [hk]; rfl)]
 show ((s : Int), idxOr _) = _
 rw [hk]
 rfl
theorem line_none {p : PlanD} {e : Int} (h0 : anyTo (inLine p e) p.2.2.2.1.length = false) : fLineOf p e = (-1, -1) := by
 unfold fLineOf
 rw [firstTo_none h0]
 rfl
theorem line_cases (p : PlanD) (e : Int) : (fLineOf p e = (-1, -1) ∧ anyTo (inLine p e) p.2.2.2.1.length = false) ∨ ∃ s k : Nat, s < p.2.2.2.1.length ∧ k < (p.2.2.2.1.getD s zL).2.length ∧ (p.2.2.2.1.getD s zL).2.getD k 0 = e ∧ fLineOf p e = ((s : Int), (k : Int)) := by
 cases hf : firstTo (inLine p e) p.2.2.2.1.length with
 | none =>
  refine .inl ⟨by unfold fLineOf; rw [hf]; rfl, ?_⟩
  cases h : anyTo (inLine p e) p.2.2.2.1.length with
  | false => rfl
  | true =>
   exfalso
   unfold firstTo at hf
   have := List.find?_eq_none.1 hf
   have : anyTo (inLine p e) p.2.2.2.1.length = false := anyTo_none.2 fun i hi => by simpa using this i (List.mem_range.2 hi)
   rw [h] at this
   cases this
 | some s =>
  right
  obtain ⟨h1, h2⟩ := firstTo_some hf
  unfold inLine at h2
  cases hk : posOf (p.2.2.2.1.getD s zL).2 e with
  | none => rw [hk] at h2; cases h2
  | some k =>
   obtain ⟨h3, h4⟩ := pos_some hk
   refine ⟨s, k, h1, h3, h4, ?_⟩
   unfold fLineOf
   rw [hf]
   show ((s : Int), idxOr _) = _
   rw [hk]
   rfl
theorem v31 (p : PlanD) (e : Int) : bodyVC (ctxOf tab []) Tryz.f31 c31 (a31 (p, e, ())) (p, e, ()) = (
(∃ (s02 : Nat),
(s02 ≤ p.2.2.2.1.length ∧ noneOf (inLine p e) s02) ∧
(↑s02 : Int) = (0 : Int) ∧
e = e ∧
keepP p (True)) ∧
∀ (s2 : Nat),
lett (decide ((↑s2 : Int) < (↑p.2.2.2.1.length : Int))) fun (y3 : Bool) =>
lett (p.2.2.2.1.getD (↑s2 : Int).toNat zL).2 fun (y4 : List Int) =>
lett (p.2.2.2.1.getD (↑s2 : Int).toNat ([], [])).2 fun (y5 : List Int) =>
s2 ≤ p.2.2.2.1.length ∧ noneOf (inLine p e) s2 →
(y3 = true →
(∃ (s06 : Nat),
(s06 ≤ y4.length ∧ noneOf (fun (k : Nat) => y4.getD k (0 : Int) == e) s06) ∧
(↑s06 : Int) = (0 : Int) ∧
e = e ∧
(↑s2 : Int) = (↑s2 : Int) ∧
keepP p (True)) ∧
∀ (s6 : Nat),
lett (decide ((↑s6 : Int) < (↑y5.length : Int))) fun (y7 : Bool) =>
lett (y5.getD (↑s6 : Int).toNat (0 : Int) == e) fun (y8 : Bool) =>
s6 ≤ y4.length ∧ noneOf (fun (k : Nat) => y4.getD k (0 : Int) == e) s6 →
InB (↑s2 : Int) p.2.2.2.1.length ∧
(y7 = true →
InB (↑s2 : Int) p.2.2.2.1.length ∧
InB (↑s6 : Int) y5.length ∧
(y8 = true → (↑s2 : Int) = (fLineOf p e).1 ∧ (↑s6 : Int) = (fLineOf p e).2 ∧ True) ∧
(y8 = false →
InR IntKind.i64 ((↑s6 : Int) + (1 : Int)) ∧
∃ (s'9 : Nat),
(s'9 ≤ y4.length ∧ noneOf (fun (k : Nat) => y4.getD k (0 : Int) == e) s'9) ∧
y4.length - s'9 < y4.length - s6 ∧
(↑s'9 : Int) = (↑s6 : Int) + (1 : Int) ∧
e = e ∧
(↑s2 : Int) = (↑s2 : Int) ∧
keepP p (True))) ∧
(y7 = false →
InR IntKind.i64 ((↑s2 : Int) + (1 : Int)) ∧
∃ (s'9 : Nat),
(s'9 ≤ p.2.2.2.1.length ∧ noneOf (inLine p e) s'9) ∧
p.2.2.2.1.length - s'9 < p.2.2.2.1.length - s2 ∧
(↑s'9 : Int) = (↑s2 : Int) + (1 : Int) ∧
e = e ∧
keepP p (True))) ∧
(y3 = false → (-1 : Int) = (fLineOf p e).1 ∧ (-1 : Int) = (fLineOf p e).2 ∧ True)) := by kernel_rfl
theorem b31 (p : PlanD) (e : Int) (hm : p.2.2.2.1.length ≤ maxLenI) (hq : ∀ l ∈ p.2.2.2.1, l.2.length ≤ maxLenI) : bodyVC (ctxOf tab []) Tryz.f31 c31 (a31 (p, e, ())) (p, e, ()) := by
 rw [v31]
 simp only [keepP_eq, true_and, and_true, eq_self]
 refine ⟨⟨0, ⟨by omega, rfl⟩, by omega⟩, fun s => lett.mk fun y3 e3 => lett.mk fun y4 e4 => lett.mk fun y5 e5 => fun hs => ⟨fun h => ?_, fun h => ?_⟩⟩
 ·have hs' := lt_of_y e3 h
  have e5 : y5 = y4 := by rw [e4]; exact e5
  subst e5
  rw [Int.toNat_natCast] at e4
  have hy : y5.length ≤ maxLenI := by rw [e4]; exact hq _ (mem_getD zL hs')
  refine ⟨⟨0, ⟨by omega, rfl⟩, by omega⟩, fun k => lett.mk fun y7 e7 => lett.mk fun y8 e8 => fun hk => ⟨⟨by omega, by omega⟩, fun h7 => ⟨⟨by omega, by omega⟩, ?_, fun h8 => ?_, fun h8 => ?_⟩, fun h7 => ?_⟩⟩
  ·have := lt_of_y e7 h7
   exact ⟨by omega, by omega⟩
  ·have hk' := lt_of_y e7 h7
   rw [Int.toNat_natCast] at e8
   have := line_hit hs' hs.2 (k := k) (by rw [← e4]; exact pos_at hk' hk.2 (by rw [← e8]; exact h8))
   rw [this]
   exact ⟨rfl, rfl⟩
  ·have hk' := lt_of_y e7 h7
   rw [Int.toNat_natCast] at e8
   exact ⟨inRlen hk' hy, k + 1, ⟨by omega, anyTo_succ hk.2 (by rw [← e8]; exact h8)⟩, by omega, by omega⟩
  ·have hk' := le_of_y e7 h7
   have : k = y5.length := by omega
   subst this
   exact ⟨inRlen hs' hm, s + 1, ⟨by omega, anyTo_succ hs.2 (by unfold inLine; rw [← e4, pos_none hk.2]; rfl)⟩, by omega, by omega⟩
 ·have hs' := le_of_y e3 h
  have : s = p.2.2.2.1.length := by omega
  subst this
  rw [line_none hs.2]
  exact ⟨rfl, rfl⟩
theorem ok31 : DOk Tryz.prog 31 c31 :=
 DOk.of' (l := []) (A := a31) tabOk trivial Tryz.func31 (by kernel_rfl) (by kernel_rfl) fun x hw hp => b31 x.1 x.2.1 hw.1.2.2.2.1.1 (fun l hl => (hw.1.2.2.2.1.2 l hl).2.1)
theorem ent_full {p : PlanD} {l : List Int} {o : Int} : ∀ k, (fEnt p l o k).2.2 = true → (fEnt p l o k).1.length = k + 1
 | 0, _ => rfl
 | k + 1, h => by
  have h0 : (fEnt p l o k).2.2 = true := by
   cases h0 : (fEnt p l o k).2.2 with
   | true => rfl
   | false => rw [ent_false h0 (k + 1) (by omega)] at h; cases h
  have ih := ent_full k h0
  unfold fEnt at h ⊢
  cases hb : ((fEnt p l o k).2.2 && ((entGo p l k (fEnt p l o k).2.1).2 && (entGo p l k (fEnt p l o k).2.1).1.1 == l.getD (k + 1) 0)) with
  | true =>
   show (_ ++ [_]).length = _
   rw [List.length_append, ih]
   rfl
  | false => rw [hb] at h; cases h
theorem enters_len {p : PlanD} {l : List Int} (h : (fEnters p l).2 = true) : (fEnters p l).1.length = l.length := by
 unfold fEnters at h ⊢
 cases h1 : decide (l.length = 0) || !l.all (fun e => fKind p e == 1) with
 | true => rw [h1] at h; cases h
 | false =>
  rw [h1, cond_false] at h; rw [cond_false]
  cases h2 : decide (l.length = 1) with
  | true => rw [cond_true]; have := of_decide_eq_true h2; rw [this]; rfl
  | false =>
   rw [h2, cond_false] at h; rw [cond_false]
   cases h3 : decide (fOut0 p l < 0) with
   | true => rw [h3] at h; cases h
   | false =>
    rw [h3, cond_false] at h; rw [cond_false]
    cases h4 : (fEnt p l (fOut0 p l) (l.length - 1)).2.2 with
    | false => rw [h4] at h; cases h
    | true =>
     rw [cond_true]
     show (fEnt p l (fOut0 p l) (l.length - 1)).1.length = _
     rw [ent_full _ h4]
     rw [Bool.or_eq_false_iff] at h1
     have := of_decide_eq_false h1.1
     omega
theorem line_enters {p : PlanD} (h : fLines p = true) {s : Nat} (hs : s < p.2.2.2.1.length) : (fEnters p (p.2.2.2.1.getD s zL).2).2 = true := by
 unfold fLines at h
 have := allTo_iff.1 h s hs
 unfold lineOk at this
 rw [Bool.and_eq_true] at this
 exact this.2
theorem v32 (p : PlanD) (e : Int) (i : Int) : bodyVC (ctxOf tab [(31, c31), (56, c56), (57, c57)]) Tryz.f32 c32 noAnn (p, e, i, ()) = (
lett (decide ((fLineOf p e).1 < (0 : Int))) fun (y3 : Bool) =>
lett (bif y3 then true else !fHas p (e, i)) fun (y4 : Bool) =>
lett (p.2.2.2.1.getD (fLineOf p e).1.toNat ([], [])).2 fun (y5 : List Int) =>
lett ((fEnters p y5).1.getD (fLineOf p e).2.toNat (0 : Int) == i) fun (y6 : Bool) =>
True ∧
(y3 = false → True) ∧
(y4 = true → (0 : Int) = fLeadOf p e i ∧ True) ∧
(y4 = false →
InB (fLineOf p e).1 p.2.2.2.1.length ∧
(fJoined p = true ∧ y5.length ≤ (1000 : Nat)) ∧
InB (fLineOf p e).2 (fEnters p y5).1.length ∧ (y6 = true → (1 : Int) = fLeadOf p e i ∧ True) ∧ (y6 = false → (2 : Int) = fLeadOf p e i ∧ True))) := by kernel_rfl
theorem b32 (p : PlanD) (e i : Int) (h0 : fCheck p = 0) (hl : shortLines p) : bodyVC (ctxOf tab [(31, c31), (56, c56), (57, c57)]) Tryz.f32 c32 noAnn (p, e, i, ()) := by
 rw [v32]
 obtain ⟨_, _, hJ, _, hL⟩ := check_zero h0
 refine lett.mk fun y3 e3 => lett.mk fun y4 e4 => lett.mk fun y5 e5 => lett.mk fun y6 e6 => ⟨trivial, fun _ => trivial, fun h => ?_, fun h => ?_⟩
 ·have hF : fLeadOf p e i = 0 := by
   unfold fLeadOf
   rw [show (decide ((fLineOf p e).1 < 0) || !fHas p (e, i)) = true from ?_]
   ·rfl
   ·rw [← h, e4, e3]
    cases decide ((fLineOf p e).1 < 0) <;> rfl
  rw [hF]
  exact ⟨rfl, trivial⟩
 ·have hor : (decide ((fLineOf p e).1 < 0) || !fHas p (e, i)) = false := by
   rw [← h, e4, e3]
   cases decide ((fLineOf p e).1 < 0) <;> rfl
  have hF : fLeadOf p e i = bif y6 then 1 else 2 := by
   unfold fLeadOf
   rw [hor, e6, e5]
   rfl
  rw [Bool.or_eq_false_iff] at hor
  rcases line_cases p e with ⟨hn, _⟩ | ⟨s, k, hs, hk, he, hn⟩
  ·rw [hn] at hor; exact absurd hor.1 (by decide)
  ·have e5 : y5 = (p.2.2.2.1.getD s zL).2 := by rw [e5, hn, Int.toNat_natCast]; rfl
   rw [hF, hn]
   refine ⟨⟨by omega, by show (s : Int) < _; omega⟩, ⟨hJ, by rw [e5]; exact hl _ (mem_getD zL hs)⟩, ⟨by omega, ?_⟩, fun h => ?_, fun h => ?_⟩
   ·show (k : Int) < _
    rw [e5, enters_len (line_enters hL hs)]
    omega
   ·rw [h]; exact ⟨rfl, trivial⟩
   ·rw [h]; exact ⟨rfl, trivial⟩
theorem ok32 : DOk Tryz.prog 32 c32 :=
 DOk.of' (l := [(31, c31), (56, c56), (57, c57)]) (A := fun _ => noAnn) tabOk ⟨ok31, ok56, ok57, trivial⟩ Tryz.func32 (by kernel_rfl) (by kernel_rfl) fun x hw hp => b32 x.1 x.2.1 x.2.2.1 hp.1 hp.2
theorem want_at {p : PlanD} {r : RoadD} {s i : Nat} (hi : i < r.2.2.2.1.length) (h0 : anyTo (wantAt p r (s : Int)) i = false) (h : wantAt p r (s : Int) i = true) :
  wantOf p r (s : Int) = [((s : Int), fLeadOf p (r.2.2.2.1.getD i zSt).1 (r.2.2.2.1.getD i zSt).2.1)] := by
 unfold wantOf
 rw [firstTo_at hi h0 h]
theorem want_none {p : PlanD} {r : RoadD} {s : Nat} (h0 : anyTo (wantAt p r (s : Int)) r.2.2.2.1.length = false) : wantOf p r (s : Int) = [] := by
 unfold wantOf
 rw [firstTo_none h0]
theorem wantOf_le (p : PlanD) (r : RoadD) (l : Int) : (wantOf p r l).length ≤ 1 := by
 unfold wantOf
 cases firstTo (wantAt p r l) r.2.2.2.1.length with
 | none => exact Nat.zero_le _
 | some i => exact Nat.le_refl _
theorem wantsRef_le (p : PlanD) (r : RoadD) : ∀ k, (wantsRef p r k).length ≤ k
 | 0 => Nat.le_refl _
 | k + 1 => by
  show (wantsRef p r k ++ wantOf p r (k : Int)).length ≤ _
  have := wantsRef_le p r k
  have := wantOf_le p r (k : Int)
  rw [List.length_append]
  omega
theorem v10 (p : PlanD) (r : RoadD) : bodyVC (ctxOf tab [(31, c31), (32, c32)]) Tryz.f10 c10 (a10 (p, r, ())) (p, r, ()) = (
(∃ (s02 : Nat),
s02 ≤ p.2.2.2.1.length ∧
(↑s02 : Int) = (0 : Int) ∧
wantsRef p r s02 = [] ∧
keepP p (keepP r (True))) ∧
∀ (s2 : Nat),
lett (decide ((↑s2 : Int) < (↑p.2.2.2.1.length : Int))) fun (y3 : Bool) =>
s2 ≤ p.2.2.2.1.length →
(y3 = true →
(∃ (s04 : Nat),
(s04 ≤ r.2.2.2.1.length ∧ noneOf (wantAt p r (↑s2 : Int)) s04) ∧
(↑s04 : Int) = (0 : Int) ∧
(↑s2 : Int) = (↑s2 : Int) ∧
keepP p (keepP r (wantsRef p r s2 = wantsRef p r s2 ∧ True))) ∧
∀ (s4 : Nat),
lett (decide ((↑s4 : Int) < (↑r.2.2.2.1.length : Int))) fun (y5 : Bool) =>
lett (r.2.2.2.1.getD (↑s4 : Int).toNat ((0 : Int), (0 : Int), (0 : Int))) fun (y6 : Int × Int × Int) =>
lett ((fLineOf p y6.1).1 == (↑s2 : Int)) fun (y7 : Bool) =>
lett ((List.replicate (1 : Nat) ((0 : Int), (0 : Int))).set (0 : Nat) ((↑s2 : Int), fLeadOf p y6.1 y6.2.1)) fun (y8 : List (Int × Int)) =>
s4 ≤ r.2.2.2.1.length ∧ noneOf (wantAt p r (↑s2 : Int)) s4 →
(y5 = true →
InB (↑s4 : Int) r.2.2.2.1.length ∧
True ∧
(y7 = true →
InB (↑s4 : Int) r.2.2.2.1.length ∧
InB (↑s4 : Int) r.2.2.2.1.length ∧
(fCheck p = (0 : Int) ∧ shortLines p) ∧
roomFor ((wantsRef p r s2).length + y8.length) (16 : Nat) ∧
InR IntKind.i64 ((↑s2 : Int) + (1 : Int)) ∧
∃ (s'9 : Nat),
s'9 ≤ p.2.2.2.1.length ∧
p.2.2.2.1.length - s'9 < p.2.2.2.1.length - s2 ∧
(↑s'9 : Int) = (↑s2 : Int) + (1 : Int) ∧
wantsRef p r s'9 = wantsRef p r s2 ++ y8 ∧
keepP p (keepP r (True))) ∧
(y7 = false →
InR IntKind.i64 ((↑s4 : Int) + (1 : Int)) ∧
∃ (s'9 : Nat),
(s'9 ≤ r.2.2.2.1.length ∧ noneOf (wantAt p r (↑s2 : Int)) s'9) ∧
r.2.2.2.1.length - s'9 < r.2.2.2.1.length - s4 ∧
(↑s'9 : Int) = (↑s4 : Int) + (1 : Int) ∧
(↑s2 : Int) = (↑s2 : Int) ∧
keepP p (keepP r (wantsRef p r s2 = wantsRef p r s2 ∧ True)))) ∧
(y5 = false →
InR IntKind.i64 ((↑s2 : Int) + (1 : Int)) ∧
∃ (s'9 : Nat),
s'9 ≤ p.2.2.2.1.length ∧
p.2.2.2.1.length - s'9 < p.2.2.2.1.length - s2 ∧
(↑s'9 : Int) = (↑s2 : Int) + (1 : Int) ∧
wantsRef p r s'9 = wantsRef p r s2 ∧
keepP p (keepP r (True)))) ∧
(y3 = false → wantsRef p r s2 = fWantsR p r ∧ True)) := by kernel_rfl
theorem b10 (p : PlanD) (r : RoadD) (hc : fCheck p = 0) (hl : shortLines p) (hr : r.2.2.2.1.length ≤ 1000) : bodyVC (ctxOf tab [(31, c31), (32, c32)]) Tryz.f10 c10 (a10 (p, r, ())) (p, r, ()) := by
 rw [v10]
 have h4 := (sizes_factsQ (check_zero hc).1).2.2.1
 simp only [keepP_eq, true_and, and_true, eq_self]
 refine ⟨⟨0, by omega, by omega, rfl⟩, fun s => lett.mk fun y3 e3 => fun hs => ⟨fun h => ?_, fun h => ?_⟩⟩
 ·have hs' := lt_of_y e3 h
  have hw := wantsRef_le p r s
  refine ⟨⟨0, ⟨by omega, rfl⟩, by omega⟩, fun i => lett.mk fun y5 e5 => lett.mk fun y6 e6 => lett.mk fun y7 e7 => lett.mk fun y8 e8 => fun hi => ⟨fun h5 => ?_, fun h5 => ?_⟩⟩
  ·have hi' := lt_of_y e5 h5
   rw [Int.toNat_natCast] at e6
   have e6 : y6 = r.2.2.2.1.getD i zSt := e6
   have hwa : wantAt p r (s : Int) i = y7 := by rw [e7, e6]; rfl
   refine ⟨⟨by omega, by omega⟩, fun h7 => ⟨⟨by omega, by omega⟩, ⟨by omega, by omega⟩, ⟨hc, hl⟩, roomB (by rw [e8]; show _ + 1 ≤ _; omega) (by omega), inR64 (by omega) (by omega), s + 1, by omega, by omega, by omega, ?_⟩, fun h7 => ⟨inR64 (by omega) (by omega), i + 1, ⟨by omega, anyTo_succ hi.2 (by rw [hwa]; exact h7)⟩, by omega, by omega⟩⟩
   show wantsRef p r s ++ wantOf p r (s : Int) = _
   rw [want_at hi' hi.2 (by rw [hwa]; exact h7), e8, e6]
   rfl
  ·have hi' := le_of_y e5 h5
   have : i = r.2.2.2.1.length := by omega
   subst this
   refine ⟨inR64 (by omega) (by omega), s + 1, by omega, by omega, by omega, ?_⟩
   show wantsRef p r s ++ wantOf p r (s : Int) = _
   rw [want_none hi.2, List.append_nil]
 ·have hs' := le_of_y e3 h
  have : s = p.2.2.2.1.length := by omega
  subst this
  unfold fWantsR
  rfl
theorem ok10 : DOk Tryz.prog 10 c10 :=
 DOk.of' (l := [(31, c31), (32, c32)]) (A := a10) tabOk ⟨ok31, ok32, trivial⟩ Tryz.func10 (by kernel_rfl) (by kernel_rfl) fun x hw hp => b10 x.1 x.2.1 hp.1.1 hp.1.2 hp.2
end YtpnnfimacblhgaaGreat
end Go.Proofs
end

section
set_option maxRecDepth 100000
set_option linter.unusedVariables false
set_option linter.unusedSimpArgs false
set_option maxHeartbeats 2000000
namespace Go.Proofs
open Go Go.Vc
namespace YtpnnfimacblhgaaGreat
def keyT (l : List TurnD) (i : Nat) : Int := (l.getD i zT).1
theorem swap_perm : ∀ (j : Nat) (l : List TurnD), j + 1 < l.length → (swapDn l j).Perm l
 | _, [], h => by simp at h
 | 0, [x], h => by simp at h
 | 0, x :: y :: l, _ => by show (y :: x :: l).Perm _; exact .swap x y l
 | j + 1, x :: l, h => by
  have := swap_perm j l (by simp at h; omega)
  have e : swapDn (x :: l) (j + 1) = x :: swapDn l j := by unfold swapDn; simp
  rw [e]
  exact this.cons x
theorem ins_perm : ∀ (j : Nat) (l : List TurnD), j < l.length → (insDn j l).Perm l
 | 0, l, _ => .refl l
 | j + 1, l, h => by
  unfold insDn
  cases decide ((l.getD (j + 1) zT).1 - (l.getD j zT).1 < 0) with
  | true => rw [cond_true]; exact (ins_perm j _ (by rw [swap_len]; omega)).trans (swap_perm j l h)
  | false => exact .refl l
theorem up_perm (l : List TurnD) : ∀ (k : Nat), k ≤ l.length → (sortUp l k).Perm l
 | 0, _ => .refl l
 | k + 1, h => (ins_perm k _ (by rw [up_len]; omega)).trans (up_perm l k (by omega))
theorem sort_perm (l : List TurnD) : (fSort l).Perm l := by
 unfold fSort
 exact up_perm l _ (Nat.le_refl _)
structure InsInv (l : List TurnD) (j K : Nat) : Prop where
 rest : ∀ a b, a < b → b < K → a ≠ j → b ≠ j → keyT l a ≤ keyT l b
 lt : ∀ b, j < b → b < K → keyT l j < keyT l b
theorem lines_nodup {p : PlanD} (h : fLines p = true) : ∀ (i : Nat), i ≤ p.2.2.2.1.length → ((linesUp p i).map Prod.fst).Nodup ∧ ((leadsUp p i).map Prod.fst).Nodup
 | 0, _ => ⟨List.nodup_nil, List.nodup_nil⟩
 | i + 1, hi => by
  obtain ⟨h1, h2⟩ := lines_nodup h i (by omega)
  have key : ∀ k, k ≤ (p.2.2.2.1.getD i zL).2.length → ((linesUp p i ++ lineRow (i : Int) (p.2.2.2.1.getD i zL).2 k).map Prod.fst).Nodup ∧ ((leadsUp p i ++ leadRow p (p.2.2.2.1.getD i zL).2 k).map Prod.fst).Nodup := by
   intro k
   induction k with
   | zero => intro _; exact ⟨by rw [show lineRow (i : Int) (p.2.2.2.1.getD i zL).2 0 = [] from rfl, List.append_nil]; exact h1, by rw [show leadRow p (p.2.2.2.1.getD i zL).2 0 = [] from rfl, List.append_nil]; exact h2⟩
   | succ k ih =>
    intro hk
    obtain ⟨a1, a2⟩ := ih (by omega)
    rw [lines_put h i k (by omega) (by omega), leads_put h i k (by omega) (by omega)]
    exact ⟨keys_put intKey _ _ _ a1, keys_put intKey _ _ _ a2⟩
  exact key _ (Nat.le_refl _)
theorem mem_row {i : Int} {l : List Int} {x : Int × Int × Int} : ∀ {n : Nat}, x ∈ lineRow i l n ↔ ∃ k, k < n ∧ x = (l.getD k 0, i, (k : Int))
 | 0 => ⟨fun h => absurd h List.not_mem_nil, fun ⟨k, h, _⟩ => absurd h (by omega)⟩
 | n + 1 => by
  show x ∈ lineRow i l n ++ [(l.getD n 0, i, (n : Int))] ↔ _
  rw [List.mem_append, mem_row (n := n), List.mem_singleton]
  constructor
  ·rintro (⟨k, hk, e⟩ | e)
   ·exact ⟨k, by omega, e⟩
   ·exact ⟨n, by omega, e⟩
  ·rintro ⟨k, hk, e⟩
   by_cases h : k = n
   ·subst h; exact .inr e
   ·exact .inl ⟨k, by omega, e⟩
theorem mem_lines {p : PlanD} {x : Int × Int × Int} : ∀ {n : Nat}, x ∈ linesUp p n ↔ ∃ s k : Nat, s < n ∧ k < (p.2.2.2.1.getD s zL).2.length ∧ x = ((p.2.2.2.1.getD s zL).2.getD k 0, (s : Int), (k : Int))
 | 0 => ⟨fun h => absurd h List.not_mem_nil, fun ⟨s, k, h, _⟩ => absurd h (by omega)⟩
 | n + 1 => by
  show x ∈ linesUp p n ++ lineRow (n : Int) (p.2.2.2.1.getD n zL).2 (p.2.2.2.1.getD n zL).2.length ↔ _
  rw [List.mem_append, mem_lines (n := n), mem_row]
  constructor
  ·rintro (⟨s, k, hs, hk, e⟩ | ⟨k, hk, e⟩)
   ·exact ⟨s, k, by omega, hk, e⟩
   ·exact ⟨n, k, by omega, hk, e⟩
  ·rintro ⟨s, k, hs, hk, e⟩
   by_cases h : s = n
   ·subst h; exact .inr ⟨k, hk, e⟩
   ·exact .inl ⟨s, k, by omega, hk, e⟩
theorem mem_lrow {p : PlanD} {l : List Int} {x : Int × Int} : ∀ {n : Nat}, x ∈ leadRow p l n ↔ ∃ k, k < n ∧ x = (l.getD k 0, inUp p l k)
 | 0 => ⟨fun h => absurd h List.not_mem_nil, fun ⟨k, h, _⟩ => absurd h (by omega)⟩
 | n + 1 => by
  show x ∈ leadRow p l n ++ [(l.getD n 0, inUp p l n)] ↔ _
  rw [List.mem_append, mem_lrow (n := n), List.mem_singleton]
  constructor
  ·rintro (⟨k, hk, e⟩ | e)
   ·exact ⟨k, by omega, e⟩
   ·exact ⟨n, by omega, e⟩
  ·rintro ⟨k, hk, e⟩
   by_cases h : k = n
   ·subst h; exact .inr e
   ·exact .inl ⟨k, by omega, e⟩
theorem mem_leads {p : PlanD} {x : Int × Int} : ∀ {n : Nat}, x ∈ leadsUp p n ↔ ∃ s k : Nat, s < n ∧ k < (p.2.2.2.1.getD s zL).2.length ∧ x = ((p.2.2.2.1.getD s zL).2.getD k 0, inUp p (p.2.2.2.1.getD s zL).2 k)
 | 0 => ⟨fun h => absurd h List.not_mem_nil, fun ⟨s, k, h, _⟩ => absurd h (by omega)⟩
 | n + 1 => by
  show x ∈ leadsUp p n ++ leadRow p (p.2.2.2.1.getD n zL).2 (p.2.2.2.1.getD n zL).2.length ↔ _
  rw [List.mem_append, mem_leads (n := n), mem_lrow]
  constructor
  ·rintro (⟨s, k, hs, hk, e⟩ | ⟨k, hk, e⟩)
   ·exact ⟨s, k, by omega, hk, e⟩
   ·exact ⟨n, k, by omega, hk, e⟩
  ·rintro ⟨s, k, hs, hk, e⟩
   by_cases h : s = n
   ·subst h; exact .inr ⟨k, hk, e⟩
   ·exact .inl ⟨s, k, by omega, hk, e⟩
theorem not_inLine {p : PlanD} {e : Int} (h : anyTo (inLine p e) p.2.2.2.1.length = false) {s k : Nat} (hs : s < p.2.2.2.1.length) (hk : k < (p.2.2.2.1.getD s zL).2.length) (he : (p.2.2.2.1.getD s zL).2.getD k 0 = e) : False := by
 have := anyTo_none.1 h s hs
 unfold inLine posOf firstTo at this
 have h2 := List.find?_eq_none.1 (Option.not_isSome_iff_eq_none.1 (by rw [this]; simp)) k (List.mem_range.2 hk)
 rw [he] at h2
 simp at h2
theorem net_eq (p : PlanD) : fNet p = (p, fNexts p, fReadsM p, fLineM p, fLeadM p) := by unfold fNet; rfl
theorem line_eq {p : PlanD} (h : fLines p = true) (e : Int) : gLine (fNet p) e = fLineOf p e := by
 have hn := (lines_nodup h _ (Nat.le_refl _)).1
 have hg : gLine (fNet p) e = lineOf (mget I (linesUp p p.2.2.2.1.length) e) := by unfold gLine; rw [net_eq]; unfold fLineM; rfl
 rw [hg]
 rcases line_cases p e with ⟨h1, h2⟩ | ⟨s, k, hs, hk, he, h1⟩
 ·rw [h1]
  cases hm : mget I (linesUp p p.2.2.2.1.length) e with
  | none => rfl
  | some x =>
   obtain ⟨s, k, hs, hk, hx⟩ := mem_lines.1 (mem_of_mget intKey hm)
   exact (not_inLine h2 hs hk (by simpa using (congrArg Prod.fst hx).symm)).elim
 ·rw [h1, mget_of_mem intKey hn (mem_lines.2 ⟨s, k, hs, hk, by rw [he]⟩)]
  rfl
theorem net_lineIn {p : PlanD} (h : p.2.2.2.1.length ≤ 10) : lineIn (fNet p) := by
 intro x hx
 have hx : x ∈ fLineM p := by rw [net_eq] at hx; exact hx
 unfold fLineM at hx
 obtain ⟨s, k, hs, hk, e⟩ := mem_lines.1 hx
 rw [e]
 exact ⟨by show (0 : Int) ≤ (s : Int); omega, by show (s : Int) ≤ 9; omega⟩
theorem ent_spec {p : PlanD} {l : List Int} {o : Int} (h0 : 1 - o = inUp p l 0) : ∀ k, (fEnt p l o k).2.2 = true → (fEnt p l o k).2.1 = 1 - inUp p l k ∧ ∀ j, j ≤ k → (fEnt p l o k).1.getD j 0 = inUp p l j
 | 0, _ => by
  refine ⟨?_, fun j hj => ?_⟩
  ·show o = _
   omega
  ·have e : j = 0 := by omega
   rw [e]
   exact h0
 | k + 1, h => by
  have hk : (fEnt p l o k).2.2 = true := by
   cases hk : (fEnt p l o k).2.2 with
   | true => rfl
   | false => rw [ent_false hk (k + 1) (by omega)] at h; cases h
  obtain ⟨i1, i2⟩ := ent_spec h0 k hk
  have hlen := ent_full k hk
  cases hb : ((fEnt p l o k).2.2 && ((entGo p l k (fEnt p l o k).2.1).2 && (entGo p l k (fEnt p l o k).2.1).1.1 == l.getD (k + 1) 0)) with
  | false => unfold fEnt at h; rw [hb] at h; cases h
  | true =>
   have he : fEnt p l o (k + 1) = ((fEnt p l o k).1 ++ [(entGo p l k (fEnt p l o k).2.1).1.2], 1 - (entGo p l k (fEnt p l o k).2.1).1.2, true) := by
    conv => lhs; unfold fEnt
    rw [hb]
    rfl
   simp only [Bool.and_eq_true] at hb
   have hin : (entGo p l k (fEnt p l o k).2.1).1.2 = inUp p l (k + 1) := by
    show _ = ((mget PortT (fNexts p) (l.getD k 0, 1 - inUp p l k)).getD (0, 0)).2
    rw [next_get, ← i1]
    have := hb.2.1
    unfold entGo at this ⊢
    rw [this]
    rfl
   rw [he, hin]
   refine ⟨rfl, fun j hj => ?_⟩
   show (_ ++ [_]).getD j 0 = _
   by_cases hjk : j = k + 1
   ·subst hjk
    rw [List.getD_eq_getElem?_getD, List.getElem?_append_right (by omega), hlen]
    simp
   ·have := i2 j (by omega)
    rw [List.getD_eq_getElem?_getD, List.getElem?_append_left (by omega), ← List.getD_eq_getElem?_getD]
    exact this
theorem enters_spec {p : PlanD} {l : List Int} (h : (fEnters p l).2 = true) {k : Nat} (hk : k < l.length) : (fEnters p l).1.getD k 0 = inUp p l k ∧ fKind p (l.getD k 0) = 1 := by
 have hi0 : inUp p l 0 = in0 p l := rfl
 unfold fEnters at h ⊢
 cases h1 : decide (l.length = 0) || !l.all (fun e => fKind p e == 1) with
 | true => rw [h1] at h; cases h
 | false =>
  rw [h1, cond_false] at h; rw [cond_false]
  have hkind : fKind p (l.getD k 0) = 1 := by
   rw [Bool.or_eq_false_iff] at h1
   have := h1.2
   have : l.all (fun e => fKind p e == 1) = true := by simpa using this
   exact eq_of_beq (List.all_eq_true.1 this _ (mem_getD 0 hk))
  refine ⟨?_, hkind⟩
  cases h2 : decide (l.length = 1) with
  | true =>
   rw [cond_true]
   have := of_decide_eq_true h2
   have hk0 : k = 0 := by omega
   subst hk0
   rw [hi0]
   unfold in0
   rw [this]
   rfl
  | false =>
   rw [h2, cond_false] at h; rw [cond_false]
   have hl1 := of_decide_eq_false h2
   cases h3 : decide (fOut0 p l < 0) with
   | true => rw [h3] at h; cases h
   | false =>
    rw [h3, cond_false] at h; rw [cond_false]
    have h3 := of_decide_eq_false h3
    have hstart : 1 - fOut0 p l = inUp p l 0 := by
     rw [hi0]
     unfold in0
     rw [decide_eq_true (by omega : (l.length : Int) > 1), cond_true, outRow_eq]
     unfold fOut0 at h3 ⊢
     cases ho : outTo p l 0 with
     | true => rfl
     | false =>
      rw [ho] at h3
      cases ho1 : outTo p l 1 with
      | true => rfl
      | false => rw [ho1] at h3; exact absurd (by decide) h3
    cases h4 : (fEnt p l (fOut0 p l) (l.length - 1)).2.2 with
    | false => rw [h4] at h; cases h
    | true =>
     rw [cond_true]
     exact (ent_spec hstart _ h4).2 k (by omega)
theorem has_track {p : PlanD} {e i : Int} (h : fKind p e = 1) : fHas p (e, i) = (decide (0 ≤ i) && decide (i ≤ 1)) := by
 have hr : (decide (e < 0) || decide ((p.1.length : Int) ≤ e)) = false := by
  unfold fKind at h
  cases hb : (decide (e < 0) || decide ((p.1.length : Int) ≤ e)) with
  | false => rfl
  | true => rw [hb] at h; cases h
 rw [Bool.or_eq_false_iff] at hr
 have h1 := of_decide_eq_false hr.1
 have h2 := of_decide_eq_false hr.2
 unfold fHas
 show (decide (0 ≤ e) && (decide (e < (p.1.length : Int)) && (decide (0 ≤ i) && decide (i < fEnds (fKind p e))))) = _
 rw [h, show fEnds 1 = 2 by unfold fEnds; rfl, decide_eq_true (by omega : 0 ≤ e), decide_eq_true (by omega : e < (p.1.length : Int))]
 simp only [Bool.true_and]
 congr 1
 exact decide_eq_decide.2 (by omega)
theorem lead_eq {p : PlanD} (h : fLines p = true) (e i : Int) : gLead (fNet p) e i = fLeadOf p e i := by
 have hn := (lines_nodup h _ (Nat.le_refl _)).2
 have hg : gLead (fNet p) e i = bif !(mget I (leadsUp p p.2.2.2.1.length) e).isSome || (decide (i < 0) || decide (i > 1)) then 0 else bif (mget I (leadsUp p p.2.2.2.1.length) e).getD 0 == i then 1 else 2 := by
  unfold gLead; rw [net_eq]; unfold fLeadM; rfl
 rw [hg]
 rcases line_cases p e with ⟨h1, h2⟩ | ⟨s, k, hs, hk, he, h1⟩
 ·have hf : fLeadOf p e i = 0 := by unfold fLeadOf; rw [h1]; rfl
  rw [hf]
  cases hm : mget I (leadsUp p p.2.2.2.1.length) e with
  | none => rfl
  | some x =>
   obtain ⟨s, k, hs, hk, hx⟩ := mem_leads.1 (mem_of_mget intKey hm)
   exact (not_inLine h2 hs hk (by simpa using (congrArg Prod.fst hx).symm)).elim
 ·rw [mget_of_mem intKey hn (mem_leads.2 ⟨s, k, hs, hk, by rw [he]⟩)]
  obtain ⟨g1, g2⟩ := enters_spec (line_enters h hs) hk
  rw [he] at g2
  have hh := has_track (i := i) g2
  have hf : fLeadOf p e i = bif decide ((s : Int) < 0) || !fHas p (e, i) then 0 else bif inUp p (p.2.2.2.1.getD s zL).2 k == i then 1 else 2 := by
   unfold fLeadOf
   rw [h1]
   show (bif decide ((s : Int) < 0) || !fHas p (e, i) then 0 else bif (fEnters p (lineAt p (s : Int))).1.getD (k : Int).toNat 0 == i then 1 else 2) = _
   rw [Int.toNat_natCast, show lineAt p (s : Int) = (p.2.2.2.1.getD s zL).2 by unfold lineAt; rw [Int.toNat_natCast], g1]
  rw [hf, hh]
  show (bif !(some _).isSome || (decide (i < 0) || decide (i > 1)) then 0 else bif (some _).getD 0 == i then 1 else 2) = _
  rw [decide_eq_false (by omega : ¬ (s : Int) < 0)]
  have : (decide (i < 0) || decide (i > 1)) = !(decide (0 ≤ i) && decide (i ≤ 1)) := by
   by_cases a : i < 0
   ·rw [decide_eq_true a, decide_eq_false (by omega : ¬ 0 ≤ i)]; rfl
   ·rw [decide_eq_false a, decide_eq_true (by omega : 0 ≤ i)]
    by_cases b : i > 1
    ·rw [decide_eq_true b, decide_eq_false (by omega : ¬ i ≤ 1)]; rfl
    ·rw [decide_eq_false b, decide_eq_true (by omega : i ≤ 1)]; rfl
  rw [this]
  rfl
def turnAt (p : PlanD) (r : RoadD) (l : Int) (i : Nat) : TurnD := (l, fLeadOf p (r.2.2.2.1.getD i zSt).1 (r.2.2.2.1.getD i zSt).2.1)
theorem firstTo_succ {q : Nat → Bool} {k : Nat} : firstTo q (k + 1) = match firstTo q k with
  | some i => some i
  | none => if q k = true then some k else none := by
 unfold firstTo
 rw [List.range_succ, List.find?_append]
 cases (List.range k).find? q with
 | some i => rfl
 | none =>
  simp only [List.find?_cons, List.find?_nil, Option.none_or]
  cases q k <;> rfl
theorem mem_wants {p : PlanD} (h : fLines p = true) (r : RoadD) : ∀ (k : Nat) (t : TurnD), t ∈ wantsUp (fNet p) r k ↔ 0 ≤ t.1 ∧ ∃ i, firstTo (wantAt p r t.1) k = some i ∧ t = turnAt p r t.1 i
 | 0, t => ⟨fun h => absurd h List.not_mem_nil, fun ⟨_, i, hi, _⟩ => by have := (firstTo_some hi).1; omega⟩
 | k + 1, t => by
  have ih := mem_wants h r k
  show t ∈ wantStep (fNet p) (wantsUp (fNet p) r k) (r.2.2.2.1.getD k zSt) ↔ _
  unfold wantStep
  rw [line_eq h, lead_eq h, firstTo_succ]
  have hwa : wantAt p r t.1 k = ((fLineOf p (r.2.2.2.1.getD k zSt).1).1 == t.1) := rfl
  cases h1 : decide ((fLineOf p (r.2.2.2.1.getD k zSt).1).1 < 0) with
  | true =>
   have h1 := of_decide_eq_true h1
   rw [Bool.true_or, cond_true, ih t]
   refine and_congr_right fun ht => ?_
   cases hf : firstTo (wantAt p r t.1) k with
   | some i => exact Iff.rfl
   | none =>
    have : wantAt p r t.1 k = false := by rw [hwa]; exact beq_false_of_ne (by omega)
    simp only [this]
    exact Iff.rfl
  | false =>
   have h1 := of_decide_eq_false h1
   rw [Bool.false_or]
   cases h2 : (wantsUp (fNet p) r k).any (fun t => t.1 == (fLineOf p (r.2.2.2.1.getD k zSt).1).1) with
   | true =>
    rw [cond_true, ih t]
    refine and_congr_right fun ht => ?_
    cases hf : firstTo (wantAt p r t.1) k with
    | some i => exact Iff.rfl
    | none =>
     have : wantAt p r t.1 k = false := by
      rw [hwa]
      refine beq_false_of_ne fun e => ?_
      obtain ⟨u, hu, hb⟩ := List.any_eq_true.1 h2
      have hb := eq_of_beq hb
      obtain ⟨_, i, hi, _⟩ := (ih u).1 hu
      rw [hb, e, hf] at hi
      cases hi
     simp only [this]
     exact Iff.rfl
   | false =>
    rw [cond_false, List.mem_append, ih t, List.mem_singleton]
    constructor
    ·rintro (⟨ht, i, hi, e⟩ | e)
     ·exact ⟨ht, i, by rw [hi], e⟩
     ·have et : t.1 = (fLineOf p (r.2.2.2.1.getD k zSt).1).1 := by rw [e]
      refine ⟨by omega, k, ?_, ?_⟩
      ·cases hf : firstTo (wantAt p r t.1) k with
       | some i =>
        have := List.any_eq_false.1 h2 (turnAt p r t.1 i) ((ih _).2 ⟨by show 0 ≤ t.1; omega, i, hf, rfl⟩)
        have this : ¬ (t.1 == (fLineOf p (r.2.2.2.1.getD k zSt).1).1) = true := this
        rw [et] at this
        simp at this
       | none =>
        rw [hwa, et]
        simp
      ·rw [e]; rfl
    ·rintro ⟨ht, i, hi, e⟩
     cases hf : firstTo (wantAt p r t.1) k with
     | some j =>
      rw [hf] at hi
      exact .inl ⟨ht, j, rfl, by have : j = i := (by simpa using hi); rw [this]; exact e⟩
     | none =>
      rw [hf] at hi
      cases hq : wantAt p r t.1 k with
      | false => rw [hq] at hi; simp at hi
      | true =>
       rw [hq] at hi
       have hik : i = k := by simpa using hi.symm
       subst hik
       right
       rw [hwa] at hq
       rw [eq_of_beq hq]
       exact e
theorem mem_ref {p : PlanD} (r : RoadD) : ∀ (k : Nat) (t : TurnD), t ∈ wantsRef p r k ↔ (0 ≤ t.1 ∧ t.1 < (k : Int)) ∧ ∃ i, firstTo (wantAt p r t.1) r.2.2.2.1.length = some i ∧ t = turnAt p r t.1 i
 | 0, t => ⟨fun h => absurd h List.not_mem_nil, fun ⟨h, _⟩ => by omega⟩
 | k + 1, t => by
  show t ∈ wantsRef p r k ++ wantOf p r (k : Int) ↔ _
  rw [List.mem_append, mem_ref r k]
  have hw : t ∈ wantOf p r (k : Int) ↔ t.1 = (k : Int) ∧ ∃ i, firstTo (wantAt p r t.1) r.2.2.2.1.length = some i ∧ t = turnAt p r t.1 i := by
   unfold wantOf
   constructor
   ·intro ht
    cases hf : firstTo (wantAt p r (k : Int)) r.2.2.2.1.length with
    | none => rw [hf] at ht; exact absurd ht List.not_mem_nil
    | some i =>
     rw [hf] at ht
     have ht := List.mem_singleton.1 ht
     have e1 : t.1 = (k : Int) := congrArg Prod.fst ht
     exact ⟨e1, i, by rw [e1, hf], by rw [e1]; exact ht⟩
   ·rintro ⟨e1, i, hi, e⟩
    rw [e1] at hi
    rw [hi]
    refine List.mem_singleton.2 ?_
    rw [e1] at e
    exact e
  rw [hw]
  constructor
  ·rintro (⟨h, i⟩ | ⟨h, i⟩)
   ·exact ⟨by omega, i⟩
   ·exact ⟨by omega, i⟩
  ·rintro ⟨h, i⟩
   by_cases e : t.1 = (k : Int)
   ·exact .inr ⟨e, i⟩
   ·exact .inl ⟨by omega, i⟩
end YtpnnfimacblhgaaGreat
end Go.Proofs
end

section
set_option maxRecDepth 100000
set_option linter.unusedVariables false
namespace Go.Vc
open Go
theorem DOk.ptr {P : Program} {f : Nat} {t : Ty} {ts : List Ty} {out : Out} {pre : Tup (.ref t :: ts) → Prop} {fn : Tup (.ref t :: ts) → Tup out.tys} {pre' : Tup (.ptr t :: ts) → Prop} (h : DOk P f ⟨.ref t :: ts, out, pre, fn⟩)
  (hp : ∀ x : Tup (.ptr t :: ts), pre' x → ∃ y, x.1 = some y ∧ pre (y, x.2)) : DOk P f ⟨.ptr t :: ts, out, pre', fun x => fn (x.1.getD t.dflt, x.2)⟩ where
 fn := h.fn
 calls F w x vs hF hx hpre := by
  obtain ⟨y, hy, hq⟩ := hp x hpre
  obtain ⟨x1, x2⟩ := x
  have hy : x1 = some y := hy
  subst hy
  obtain ⟨v, us, rfl, h1, h2⟩ := hx
  refine h.calls F w (y, x2) (v :: us) hF ⟨v, us, rfl, ?_, h2⟩ hq
  have h1 : Rep F (.ptr t) (some y) [v] := h1
  rcases h1 with ⟨h, _⟩ | ⟨y', hy', b, off, k⟩
  ·cases h
  ·cases hy'
   exact ⟨b, off, k⟩
end Go.Vc
namespace Go.Proofs
open Go Go.Vc
namespace YtpnnfimacblhgaaGreat
abbrev IntsM : Ty := .map I (.list I)
abbrev NeedsM : Ty := .map I (.list NeedT)
abbrev BookT : Ty := .pair I (.pair IntsM (.pair IntsM (.pair NeedsM NeedsM)))
abbrev BookD := Int × List (Int × List Int) × List (Int × List Int) × List (Int × List NeedD) × List (Int × List NeedD)
abbrev BookO : OTy := .cells true (.pair (.dat I) (.pair (.map I (.list I)) (.pair (.map I (.list I)) (.pair (.map I (.list NeedT)) (.map I (.list NeedT))))))
abbrev TokenT : Ty := .pair (.ptr NetT) (.map TurnT .bool)
abbrev TokenD := Option NetD × List (TurnD × Bool)
abbrev TokenO : OTy := .cells true (.pair (.dat (.ptr NetT)) (.map TurnT .bool))
def netOf (o : Option NetD) : NetD := o.getD (Ty.dflt NetT)
def netThere (o : Option NetD) : Prop := ∃ n, o = some n
def netLined (o : Option NetD) : Prop := ∃ n, o = some n ∧ lineIn n
def c9p : DCon where
 args := [.ptr NetT, RoadT]
 out := .data [.list TurnT]
 pre := fun (x : Option NetD × RoadD × Unit) => netLined x.1 ∧ x.2.1.2.2.2.1.length ≤ 1000
 fn := fun (x : Option NetD × RoadD × Unit) => (fWants (netOf x.1) x.2.1, ())
def c11p : DCon where
 args := [.ptr NetT, I]
 out := .data [I, I]
 pre := fun (x : Option NetD × Int × Unit) => netThere x.1
 fn := fun (x : Option NetD × Int × Unit) => ((gLine (netOf x.1) x.2.1).1, (gLine (netOf x.1) x.2.1).2, ())
def c48p : DCon where
 args := [.ptr NetT, I]
 out := .data [PortT, .bool]
 pre := fun (x : Option NetD × Int × Unit) => netThere x.1
 fn := fun (x : Option NetD × Int × Unit) => ((fAt (netOf x.1).1 x.2.1).1, (fAt (netOf x.1).1 x.2.1).2, ())
def c79p : DCon where
 args := [.ptr NetT]
 out := .data [I]
 pre := fun (x : Option NetD × Unit) => netThere x.1
 fn := fun (x : Option NetD × Unit) => (((netOf x.1).1.1.length : Int), ())
theorem ok9p : DOk Tryz.prog 9 c9p := ok9.ptr fun x h => by
 obtain ⟨⟨n, h1, h2⟩, h3⟩ := h
 exact ⟨n, h1, h2, h3⟩
theorem ok11p : DOk Tryz.prog 11 c11p := ok11.ptr fun x h => by
 obtain ⟨n, h1⟩ := h
 exact ⟨n, h1, trivial⟩
theorem ok48p : DOk Tryz.prog 48 c48p := ok48.ptr fun x h => by
 obtain ⟨n, h1⟩ := h
 exact ⟨n, h1, trivial⟩
theorem ok79p : DOk Tryz.prog 79 c79p := ok79.ptr fun x h => by
 obtain ⟨n, h1⟩ := h
 exact ⟨n, h1, trivial⟩
def c68 : DCon where
 args := [.list I, I]
 out := .data [I]
 pre := fun (x : List Int × Int × Unit) => True
 fn := fun (x : List Int × Int × Unit) => (fFind (fun y => x.2.1 == y) x.1, ())
def a68 (x : List Int × Int × Unit) : Ann := loopAnn [(2, fun _ => findLoop (fun y => x.2.1 == y) x.1 8 [0, 1, 7])]
def c44 : DCon where
 args := [.list I, I]
 out := .data [.bool]
 pre := fun (x : List Int × Int × Unit) => True
 fn := fun (x : List Int × Int × Unit) => (fMem x.1 x.2.1, ())
def c21 : OCon where
 args := [.dat I]
 outs := [BookO]
 pre := fun (x : Int × Unit) => True
 fn := fun (x : Int × Unit) => ((max 0 (min x.1 40), [], [], [], []), ())
def oneOwner (b : BookD) (e : Int) : Prop := ∀ x ∈ b.2.1, ∀ y ∈ b.2.1, fMem x.2 e = true → fMem y.2 e = true → x.1 = y.1
def ownerOf (o : Option (Int × List Int)) : Int := match o with
 | some x => x.1
 | none => -1
@[irreducible] def fOwner (b : BookD) (e : Int) : Int := ownerOf (b.2.1.find? fun x => fMem x.2 e)
def c80 : DCon where
 args := [.ref BookT, I]
 out := .data [I]
 pre := fun (x : BookD × Int × Unit) => oneOwner x.1 x.2.1
 fn := fun (x : BookD × Int × Unit) => (fOwner x.1 x.2.1, ())
def ownLeft (b : BookD) (e : Int) (todo : List (Int × List Int)) : Prop := ∃ done, b.2.1.Perm (done ++ todo) ∧ done.any (fun x => fMem x.2 e) = false
def a80 (x : BookD × Int × Unit) : Ann := loopAnn [(2, fun _ => {
 σ := List (Int × List Int)
 ok := fun todo => ownLeft x.1 x.2.1 todo
 mu := fun todo => todo.length
 sl := fun todo => [(11, .one (.ptr 11 0))]
 bl := fun todo => [(11, .iter I (.list I) todo none)]
 keep := [0, 1]
 keepB := [] })]
def c20 : OCon where
 args := [.dat (.ptr NetT)]
 outs := [TokenO]
 pre := fun (x : Option NetD × Unit) => True
 fn := fun (x : Option NetD × Unit) => ((x.1, []), ())
def hasTurn (m : List (TurnD × Bool)) (t : TurnD) : Bool := (mget TurnT m t).getD false
@[irreducible] def fDir (m : List (TurnD × Bool)) (l : Int) : Int := bif hasTurn m (l, 1) then 1 else bif hasTurn m (l, 2) then 2 else 0
def c24 : DCon where
 args := [.ref TokenT, I]
 out := .data [I]
 pre := fun (x : TokenD × Int × Unit) => True
 fn := fun (x : TokenD × Int × Unit) => (fDir x.1.2 x.2.1, ())
def noTurn (m : List (TurnD × Bool)) (l : Int) (k : Nat) : Prop := ∀ j, 1 ≤ j → j < k + 1 → hasTurn m (l, (j : Int)) = false
def a24 (x : TokenD × Int × Unit) : Ann := loopAnn [(2, fun _ => {
 σ := Nat
 ok := fun k => k ≤ 2 ∧ noTurn x.1.2 x.2.1 k
 mu := fun k => 2 - k
 sl := fun k => [(5, .one (.dat I ((k : Int) + 1)))]
 bl := fun _ => []
 keep := [0, 1]
 keepB := [] })]
def occAt (occ : List Bool) (e : Int) : Bool := decide (0 ≤ e) && (decide (e < (occ.length : Int)) && occ.getD e.toNat false)
def loud (n : NetD) (l : Int) (occ : List Bool) (b : BookD) (berth : Int) (k : Nat) : Bool :=
 (gLine n (k : Int)).1 == l && ((occAt occ (k : Int) && !((k : Int) == berth)) || decide (0 ≤ fOwner b (k : Int)))
@[irreducible] def fQuiet (n : NetD) (l : Int) (occ : List Bool) (b : BookD) (berth : Int) : Bool := !anyTo (loud n l occ b berth) n.1.1.length
def oneOwners (b : BookD) : Prop := ∀ e, oneOwner b e
def c49 : DCon where
 args := [.ref TokenT, I, .list .bool, .ref BookT, I]
 out := .data [.bool]
 pre := fun (x : TokenD × Int × List Bool × BookD × Int × Unit) => netThere x.1.1 ∧ oneOwners x.2.2.2.1
 fn := fun (x : TokenD × Int × List Bool × BookD × Int × Unit) => (fQuiet (netOf x.1.1) x.2.1 x.2.2.1 x.2.2.2.1 x.2.2.2.2.1, ())
def a49 (x : TokenD × Int × List Bool × BookD × Int × Unit) : Ann := loopAnn [(2, fun _ => upLoop (netOf x.1.1).1.1.length (noneOf (loud (netOf x.1.1) x.2.1 x.2.2.1 x.2.2.2.1 x.2.2.2.2.1)) 19 [0, 1, 2, 3, 4, 18] [])]
def berthOf (n : NetD) (s : Int) : Int := bif (fAt n.1 s).2 then (fAt n.1 s).1.1 else -1
def stuckAt (t : TokenD) (occ : List Bool) (b : BookD) (berth : Int) (w : TurnD) : Bool :=
 !(fDir t.2 w.1 == 0) && (!(fDir t.2 w.1 == w.2) && !fQuiet (netOf t.1) w.1 occ b berth)
@[irreducible] def fMayT (t : TokenD) (r : RoadD) (occ : List Bool) (b : BookD) : Int :=
 bif (fWants (netOf t.1) r).any (stuckAt t occ b (berthOf (netOf t.1) r.1)) then 8 else 0
def c23 : DCon where
 args := [.ref TokenT, RoadT, .list .bool, .ref BookT]
 out := .data [I]
 pre := fun (x : TokenD × RoadD × List Bool × BookD × Unit) => (netLined x.1.1 ∧ x.2.1.2.2.2.1.length ≤ 1000) ∧ oneOwners x.2.2.2.1
 fn := fun (x : TokenD × RoadD × List Bool × BookD × Unit) => (fMayT x.1 x.2.1 x.2.2.1 x.2.2.2.1, ())
def a23 (x : TokenD × RoadD × List Bool × BookD × Unit) : Ann := loopAnn [(6, fun _ => {
 σ := Nat
 ok := fun k => k ≤ (fWants (netOf x.1.1) x.2.1).length ∧ ((fWants (netOf x.1.1) x.2.1).take k).any (stuckAt x.1 x.2.2.1 x.2.2.2.1 (berthOf (netOf x.1.1) x.2.1.1)) = false
 mu := fun k => (fWants (netOf x.1.1) x.2.1).length - k
 sl := fun k => [(35, .one (.dat I (k : Int))), (9, .one (.dat I (berthOf (netOf x.1.1) x.2.1.1)))]
 bl := fun _ => []
 keep := [0, 2, 3, 33, 34]
 keepB := [] })]
def turned (m : List (TurnD × Bool)) (w : TurnD) : List (TurnD × Bool) := mput TurnT (mdel TurnT m (w.1, 3 - w.2)) w true
def turnedUp (m : List (TurnD × Bool)) (l : List TurnD) : Nat → List (TurnD × Bool)
 | 0 => m
 | k + 1 => turned (turnedUp m l k) (l.getD k zT)
@[irreducible] def fTurned (t : TokenD) (r : RoadD) : List (TurnD × Bool) := turnedUp t.2 (fWants (netOf t.1) r) (fWants (netOf t.1) r).length
def fTakeT (t : TokenD) (r : RoadD) (occ : List Bool) (b : BookD) : TokenD := (t.1, bif fMayT t r occ b == 0 then fTurned t r else t.2)
def c22 : OCon where
 args := [TokenO, .dat RoadT, .dat (.list .bool), BookO]
 outs := [.dat I]
 pre := fun (x : TokenD × RoadD × List Bool × BookD × Unit) => (netLined x.1.1 ∧ x.2.1.2.2.2.1.length ≤ 1000) ∧ oneOwners x.2.2.2.1
 fn := fun (x : TokenD × RoadD × List Bool × BookD × Unit) => (fMayT x.1 x.2.1 x.2.2.1 x.2.2.2.1, ())
 upd := fun (x : TokenD × RoadD × List Bool × BookD × Unit) => (fTakeT x.1 x.2.1 x.2.2.1 x.2.2.2.1, x.2.1, x.2.2.1, x.2.2.2.1, ())
def a22 (x : TokenD × RoadD × List Bool × BookD × Unit) : Ann := loopAnn [(5, fun _ => {
 σ := Nat
 ok := fun k => k ≤ (fWants (netOf x.1.1) x.2.1).length
 mu := fun k => (fWants (netOf x.1.1) x.2.1).length - k
 sl := fun k => [(27, .one (.dat I (k : Int)))]
 bl := fun k => [(1000001, .map false TurnT .bool (turnedUp x.1.2 (fWants (netOf x.1.1) x.2.1) k) none)]
 keep := [0, 3, 25, 26]
 keepB := [1000000, 1000002, 1000003, 1000004, 1000005, 1000006] })]
end YtpnnfimacblhgaaGreat
end Go.Proofs
end

section
set_option maxRecDepth 100000
set_option linter.unusedVariables false
set_option linter.unusedSimpArgs false
set_option maxHeartbeats 2000000
namespace Go.Proofs
open Go Go.Vc
namespace YtpnnfimacblhgaaGreat
theorem v68 (xs : List Int) (v : Int) : bodyVC (ctxOf tab []) Tryz.f68 c68 (a68 (xs, v, ())) (xs, v, ()) = (
lett (fFind (fun (y : Int) => v == y) xs) fun (y2 : Int) =>
(∃ (s03 : Nat), (s03 ≤ xs.length ∧ ((List.take s03 xs).any fun (y : Int) => v == y) = false) ∧ (↑s03 : Int) = (0 : Int) ∧ xs = xs ∧ v = v ∧ (↑xs.length : Int) = (↑xs.length : Int) ∧ True) ∧
∀ (s3 : Nat),
lett (decide ((↑s3 : Int) < (↑xs.length : Int))) fun (y4 : Bool) =>
lett (v == xs.getD (↑s3 : Int).toNat (0 : Int)) fun (y5 : Bool) =>
s3 ≤ xs.length ∧ ((List.take s3 xs).any fun (y : Int) => v == y) = false →
(y4 = true →
InB (↑s3 : Int) xs.length ∧
(y5 = true → (↑s3 : Int) = y2 ∧ True) ∧
(y5 = false →
InR IntKind.i64 ((↑s3 : Int) + (1 : Int)) ∧
∃ (s'6 : Nat),
(s'6 ≤ xs.length ∧ ((List.take s'6 xs).any fun (y : Int) => v == y) = false) ∧
xs.length - s'6 < xs.length - s3 ∧ (↑s'6 : Int) = (↑s3 : Int) + (1 : Int) ∧ xs = xs ∧ v = v ∧ (↑xs.length : Int) = (↑xs.length : Int) ∧ True)) ∧
(y4 = false → (-1 : Int) = y2 ∧ True)) := by kernel_rfl
theorem b68 (xs : List Int) (v : Int) (hw : xs.length ≤ maxLenI) : bodyVC (ctxOf tab []) Tryz.f68 c68 (a68 (xs, v, ())) (xs, v, ()) := by
 rw [v68]
 refine lett.mk fun y2 e2 => ?_
 simp only [true_and, and_true, eq_self]
 refine ⟨⟨0, ⟨by omega, by simp⟩, by omega⟩, fun s => lett.mk fun y4 e4 => lett.mk fun y5 e5 => ?_⟩
 rintro ⟨h1, h2⟩
 rw [Int.toNat_natCast] at e5
 refine ⟨fun hs => ?_, fun hs => ?_⟩
 ·have hs := lt_of_y e4 hs
  refine ⟨⟨by omega, by omega⟩, fun e => ?_, fun e => ⟨inRlen hs hw, s + 1, ⟨by omega, ?_⟩, by omega, by omega⟩⟩
  ·rw [e2]
   exact fFind_at (0 : Int) hs h2 (by rw [← e5]; exact e)
  ·exact any_succ (0 : Int) hs h2 (by rw [← e5]; exact e)
 ·rw [e2]
  exact fFind_none (s := s) (le_of_y e4 hs) h2
theorem ok68 : DOk Tryz.prog 68 c68 :=
 DOk.of' (l := []) (A := a68) tabOk trivial Tryz.func68 (by kernel_rfl) (by kernel_rfl) fun x hw hp => b68 x.1 x.2.1 hw.1.1
theorem v44 (xs : List Int) (v : Int) : bodyVC (ctxOf tab [(68, c68)]) Tryz.f44 c44 noAnn (xs, v, ()) = (
lett (fFind (fun (y : Int) => v == y) xs) fun (y2 : Int) => True ∧ decide (y2 ≥ (0 : Int)) = fMem xs v ∧ True) := by kernel_rfl
theorem b44 (xs : List Int) (v : Int) : bodyVC (ctxOf tab [(68, c68)]) Tryz.f44 c44 noAnn (xs, v, ()) := by
 rw [v44]
 refine lett.mk fun y2 e2 => ⟨trivial, ?_, trivial⟩
 rw [e2, fFind_any]
 unfold fMem
 congr 1
 funext y
 rw [beqComm]
theorem ok44 : DOk Tryz.prog 44 c44 :=
 DOk.of' (l := [(68, c68)]) (A := fun _ => noAnn) tabOk ⟨ok68, trivial⟩ Tryz.func44 (by kernel_rfl) (by kernel_rfl) fun x hw hp => b44 x.1 x.2.1
theorem v21 (n : Int) : obodyVC (ctxOf tab []) Tryz.f21 c21 noAnn (n, ()) = (
max (0 : Int) (min n (40 : Int)) = max (0 : Int) (min n (40 : Int)) ∧ ([] : List (Int × List Int)) = [] ∧ ([] : List (Int × List Int)) = [] ∧ ([] : List (Int × List (Int × Int))) = [] ∧ ([] : List (Int × List (Int × Int))) = [] ∧ True) := by kernel_rfl
theorem ok21 : OOk Tryz.prog 21 c21 :=
 OOk.of' (l := []) (A := fun _ => noAnn) tabOk trivial Tryz.func21 (by kernel_rfl) (by kernel_rfl) fun x hw hp => by
  obtain ⟨n, ⟨⟩⟩ := x
  show obodyVC (ctxOf tab []) Tryz.f21 c21 noAnn (n, ())
  rw [v21]
  exact ⟨rfl, rfl, rfl, rfl, rfl, trivial⟩
theorem owner_of {b : BookD} {e : Int} (h : oneOwner b e) {x : Int × List Int} (hx : x ∈ b.2.1) (hm : fMem x.2 e = true) : fOwner b e = x.1 := by
 unfold fOwner
 cases hf : b.2.1.find? (fun x => fMem x.2 e) with
 | none => exact absurd hm (by simpa using List.find?_eq_none.1 hf x hx)
 | some y => exact h y (List.mem_of_find?_eq_some hf) x hx (by simpa using List.find?_some hf) hm
theorem owner_none {b : BookD} {e : Int} (h : b.2.1.any (fun x => fMem x.2 e) = false) : fOwner b e = -1 := by
 unfold fOwner
 rw [List.find?_eq_none.2 fun x hx => by simpa using List.any_eq_false.1 h x hx]
 rfl
theorem perm_any {α : Type} {l m : List α} (h : l.Perm m) (q : α → Bool) : l.any q = m.any q := by
 cases hm : m.any q with
 | true =>
  obtain ⟨x, hx, hq⟩ := List.any_eq_true.1 hm
  exact List.any_eq_true.2 ⟨x, h.mem_iff.2 hx, hq⟩
 | false => exact List.any_eq_false.2 fun x hx => List.any_eq_false.1 hm x (h.mem_iff.1 hx)
theorem v80 (b : BookD) (e : Int) : bodyVC (ctxOf tab [(44, c44)]) Tryz.f80 c80 (a80 (b, e, ())) (b, e, ()) = (
(∃ (s02 : List (Int × List Int)), ownLeft b e s02 ∧ [b] = [b] ∧ (0 : Nat) = (0 : Nat) ∧ e = e ∧ s02 = b.2.1 ∧ True) ∧
∀ (s2 : List (Int × List Int)),
ownLeft b e s2 →
(s2 = [] → (false = true → False) ∧ (false = false → (-1 : Int) = fOwner b e ∧ True)) ∧
∀ (x3 : Int × List Int) (rest4 : List (Int × List Int)),
s2.Perm (x3 :: rest4) →
(true = true →
True ∧
(fMem x3.2 e = true → x3.1 = fOwner b e ∧ True) ∧
(fMem x3.2 e = false → ∃ (s'5 : List (Int × List Int)), ownLeft b e s'5 ∧ s'5.length < s2.length ∧ [b] = [b] ∧ (0 : Nat) = (0 : Nat) ∧ e = e ∧ s'5 = rest4 ∧ True)) ∧
(true = false → (-1 : Int) = fOwner b e ∧ True)) := by kernel_rfl
theorem b80 (b : BookD) (e : Int) (h : oneOwner b e) : bodyVC (ctxOf tab [(44, c44)]) Tryz.f80 c80 (a80 (b, e, ())) (b, e, ()) := by
 rw [v80]
 simp only [true_and, and_true, eq_self]
 refine ⟨⟨b.2.1, ⟨[], .refl _, rfl⟩, rfl⟩, fun s hs => ⟨fun h0 => ⟨fun h => Bool.noConfusion h, fun _ => ?_⟩, fun x rest hp => ⟨fun _ => ⟨fun hm => ?_, fun hm => ?_⟩, fun h => Bool.noConfusion h⟩⟩⟩
 ·obtain ⟨done, h1, h2⟩ := hs
  subst h0
  rw [owner_none]
  rw [perm_any h1, List.append_nil]
  exact h2
 ·obtain ⟨done, h1, h2⟩ := hs
  exact (owner_of h (h1.mem_iff.2 (List.mem_append_right _ (hp.mem_iff.2 (List.mem_cons_self ..)))) hm).symm
 ·obtain ⟨done, h1, h2⟩ := hs
  refine ⟨rest, ⟨done ++ [x], ?_, ?_⟩, ?_, rfl⟩
  ·rw [List.append_assoc]
   exact h1.trans (hp.append_left done)
  ·rw [List.any_append, h2]
   simp [hm]
  ·rw [hp.length_eq]
   exact Nat.lt_succ_self _
theorem ok80 : DOk Tryz.prog 80 c80 :=
 DOk.of' (l := [(44, c44)]) (A := a80) tabOk ⟨ok44, trivial⟩ Tryz.func80 (by kernel_rfl) (by kernel_rfl) fun x hw hp => b80 x.1 x.2.1 hp
theorem v20 (n : Option (NetD)) : obodyVC (ctxOf tab []) Tryz.f20 c20 noAnn (n, ()) = (
n = n ∧ ([] : List ((Int × Int) × Bool)) = [] ∧ True) := by kernel_rfl
theorem ok20 : OOk Tryz.prog 20 c20 :=
 OOk.of' (l := []) (A := fun _ => noAnn) tabOk trivial Tryz.func20 (by kernel_rfl) (by kernel_rfl) fun x hw hp => by
  obtain ⟨n, ⟨⟩⟩ := x
  show obodyVC (ctxOf tab []) Tryz.f20 c20 noAnn (n, ())
  rw [v20]
  exact ⟨rfl, rfl, trivial⟩
theorem v24 (t : Option (NetD) × List ((Int × Int) × Bool)) (l : Int) : bodyVC (ctxOf tab []) Tryz.f24 c24 (a24 (t, l, ())) (t, l, ()) = (
(∃ (s02 : Nat), (s02 ≤ (2 : Nat) ∧ noTurn t.2 l s02) ∧ (↑s02 : Int) + (1 : Int) = (1 : Int) ∧ [t] = [t] ∧ (0 : Nat) = (0 : Nat) ∧ l = l ∧ True) ∧
∀ (s2 : Nat),
lett (decide ((↑s2 : Int) + (1 : Int) ≤ (2 : Int))) fun (y3 : Bool) =>
lett ((mget PortT t.2 (l, (↑s2 : Int) + (1 : Int))).getD false) fun (y4 : Bool) =>
lett ((↑s2 : Int) + (1 : Int) + (1 : Int)) fun (y5 : Int) =>
s2 ≤ (2 : Nat) ∧ noTurn t.2 l s2 →
(y3 = true →
(y4 = true → (↑s2 : Int) + (1 : Int) = fDir t.2 l ∧ True) ∧
(y4 = false →
InR IntKind.i64 y5 ∧
∃ (s'6 : Nat), (s'6 ≤ (2 : Nat) ∧ noTurn t.2 l s'6) ∧ (2 : Nat) - s'6 < (2 : Nat) - s2 ∧ (↑s'6 : Int) + (1 : Int) = y5 ∧ [t] = [t] ∧ (0 : Nat) = (0 : Nat) ∧ l = l ∧ True)) ∧
(y3 = false → (0 : Int) = fDir t.2 l ∧ True)) := by kernel_rfl
theorem dir_at {m : List (TurnD × Bool)} {l : Int} {k : Nat} (hk : k < 2) (h0 : noTurn m l k) (h : hasTurn m (l, (k : Int) + 1) = true) : ((k : Int) + 1) = fDir m l := by
 unfold fDir
 rcases (by omega : k = 0 ∨ k = 1) with rfl | rfl
 ·have h : hasTurn m (l, 1) = true := h
  rw [h]
  rfl
 ·have h : hasTurn m (l, 2) = true := h
  have h1 : hasTurn m (l, 1) = false := h0 1 (by omega) (by omega)
  rw [h, h1]
  rfl
theorem dir_none {m : List (TurnD × Bool)} {l : Int} (h0 : noTurn m l 2) : 0 = fDir m l := by
 unfold fDir
 have h1 : hasTurn m (l, 1) = false := h0 1 (by omega) (by omega)
 have h2 : hasTurn m (l, 2) = false := h0 2 (by omega) (by omega)
 rw [h1, h2]
 rfl
theorem b24 (t : TokenD) (l : Int) : bodyVC (ctxOf tab []) Tryz.f24 c24 (a24 (t, l, ())) (t, l, ()) := by
 rw [v24]
 simp only [true_and, and_true, eq_self]
 refine ⟨⟨0, ⟨by omega, fun j h1 h2 => by omega⟩, by omega⟩, fun k => lett.mk fun y3 e3 => lett.mk fun y4 e4 => lett.mk fun y5 e5 => ?_⟩
 rintro ⟨h1, h2⟩
 have e4 : y4 = hasTurn t.2 (l, (k : Int) + 1) := e4
 refine ⟨fun h => ⟨fun hy => ?_, fun hy => ?_⟩, fun h => ?_⟩
 ·rw [h] at e3
  have := of_decide_eq_true e3.symm
  exact dir_at (by omega) h2 (by rw [← e4]; exact hy)
 ·rw [h] at e3
  have := of_decide_eq_true e3.symm
  refine ⟨inR64 (by omega) (by omega), k + 1, ⟨by omega, fun j h3 h4 => ?_⟩, by omega, by omega⟩
  by_cases hj : j = k + 1
  ·subst hj
   rw [← hy, e4]
   congr 2
  ·exact h2 j h3 (by omega)
 ·rw [h] at e3
  have := of_decide_eq_false e3.symm
  have : k = 2 := by omega
  subst this
  exact dir_none h2
theorem ok24 : DOk Tryz.prog 24 c24 :=
 DOk.of' (l := []) (A := a24) tabOk trivial Tryz.func24 (by kernel_rfl) (by kernel_rfl) fun x hw hp => b24 x.1 x.2.1
theorem v49 (t : Option (NetD) × List ((Int × Int) × Bool)) (l : Int) (o : List Bool) (b : BookD) (h : Int) : bodyVC (ctxOf tab [(11, c11p), (79, c79p), (80, c80)]) Tryz.f49 c49 (a49 (t, l, o, b, h, ())) (t, l, o, b, h, ()) = (
lett (netOf t.1).1.1.length fun (y5 : Nat) =>
lett (fQuiet (netOf t.1) l o b h) fun (y6 : Bool) =>
netThere t.1 ∧
(∃ (s07 : Nat),
(s07 ≤ y5 ∧ noneOf (loud (netOf t.1) l o b h) s07) ∧
(↑s07 : Int) = (0 : Int) ∧
[t] = [t] ∧ (0 : Nat) = (0 : Nat) ∧ l = l ∧ o = o ∧ [b] = [b] ∧ (0 : Nat) = (0 : Nat) ∧ h = h ∧ (↑(netOf t.1).1.1.length : Int) = (↑(netOf t.1).1.1.length : Int) ∧ True) ∧
∀ (s7 : Nat),
lett (decide ((↑s7 : Int) < (↑(netOf t.1).1.1.length : Int))) fun (y8 : Bool) =>
lett ((gLine (netOf t.1) (↑s7 : Int)).1 == l) fun (y9 : Bool) =>
lett (decide ((↑s7 : Int) < (↑o.length : Int))) fun (y10 : Bool) =>
lett (bif bif y10 then o.getD (↑s7 : Int).toNat false else false then (↑s7 : Int) != h else false) fun (y11 : Bool) =>
lett (bif y9 then bif y11 then true else decide (fOwner b (↑s7 : Int) ≥ (0 : Int)) else false) fun (y12 : Bool) =>
s7 ≤ y5 ∧ noneOf (loud (netOf t.1) l o b h) s7 →
(y8 = true →
netThere t.1 ∧
(y9 = true → y10 = true → InB (↑s7 : Int) o.length) ∧
(y9 = true → y11 = false → oneOwner b (↑s7 : Int)) ∧
(y12 = true → false = y6 ∧ True) ∧
(y12 = false →
InR IntKind.i64 ((↑s7 : Int) + (1 : Int)) ∧
∃ (s'13 : Nat),
(s'13 ≤ y5 ∧ noneOf (loud (netOf t.1) l o b h) s'13) ∧
y5 - s'13 < y5 - s7 ∧
(↑s'13 : Int) = (↑s7 : Int) + (1 : Int) ∧
[t] = [t] ∧
(0 : Nat) = (0 : Nat) ∧
l = l ∧ o = o ∧ [b] = [b] ∧ (0 : Nat) = (0 : Nat) ∧ h = h ∧ (↑(netOf t.1).1.1.length : Int) = (↑(netOf t.1).1.1.length : Int) ∧ True)) ∧
(y8 = false → true = y6 ∧ True)) := by kernel_rfl
theorem b49 (t : TokenD) (l : Int) (o : List Bool) (b : BookD) (h : Int) (hn : netThere t.1) (hb : oneOwners b) (hl : (netOf t.1).1.1.length ≤ maxLenI) : bodyVC (ctxOf tab [(11, c11p), (79, c79p), (80, c80)]) Tryz.f49 c49 (a49 (t, l, o, b, h, ())) (t, l, o, b, h, ()) := by
 rw [v49]
 refine lett.mk fun y5 e5 => lett.mk fun y6 e6 => ?_
 simp only [true_and, and_true, eq_self]
 rw [← e5]
 refine ⟨hn, ⟨0, ⟨by omega, rfl⟩, by omega⟩, fun s => lett.mk fun y8 e8 => lett.mk fun y9 e9 => lett.mk fun y10 e10 => lett.mk fun y11 e11 => lett.mk fun y12 e12 => ?_⟩
 rintro ⟨h1, h2⟩
 have hq : y6 = !anyTo (loud (netOf t.1) l o b h) y5 := by rw [e6, e5]; unfold fQuiet; rfl
 refine ⟨fun hs => ?_, fun hs => ?_⟩
 ·have hs := lt_of_y e8 hs
  have hloud : loud (netOf t.1) l o b h s = y12 := by
   unfold loud occAt
   rw [e12, e11, e10, e9, decide_eq_true (by omega : (0 : Int) ≤ (s : Int))]
   cases ((gLine (netOf t.1) (s : Int)).1 == l) <;> cases decide ((s : Int) < (o.length : Int)) <;> cases (o.getD (s : Int).toNat false) <;> cases hx : ((s : Int) == h) <;> simp [hx, bne]
  refine ⟨hn, fun _ h10 => ?_, fun _ _ => hb _, fun hy => ?_, fun hy => ⟨inRlen hs (by rw [e5]; exact hl), s + 1, ⟨by omega, anyTo_succ h2 (by rw [hloud]; exact hy)⟩, by omega, by omega⟩⟩
  ·rw [h10] at e10
   have := of_decide_eq_true e10.symm
   exact ⟨by omega, by omega⟩
  ·rw [hq, anyTo_yes hs (by rw [hloud]; exact hy)]
   rfl
 ·have hs := le_of_y e8 hs
  have : s = y5 := by omega
  subst this
  rw [hq, h2]
  rfl
theorem net_wf {o : Option NetD} (h : (Ty.ptr NetT).wf o) : (netOf o).1.1.length ≤ maxLenI := by
 cases o with
 | none => exact Nat.zero_le _
 | some n =>
  have := h n rfl
  exact this.1.1.1
theorem ok49 : DOk Tryz.prog 49 c49 :=
 DOk.of' (l := [(11, c11p), (79, c79p), (80, c80)]) (A := a49) tabOk ⟨ok11p, ok79p, ok80, trivial⟩ Tryz.func49 (by kernel_rfl) (by kernel_rfl) fun x hw hp => b49 x.1 x.2.1 x.2.2.1 x.2.2.2.1 x.2.2.2.2.1 hp.1 hp.2 (net_wf hw.1.1)
theorem fwants_len {o : Option NetD} (h : netLined o) (r : RoadD) : (fWants (netOf o) r).length ≤ 10 := by
 obtain ⟨n, rfl, hl⟩ := h
 show (fWants n r).length ≤ 10
 unfold fWants
 rw [(sort_perm _).length_eq]
 exact wants_len (wants_up hl r _)
theorem v23 (t : Option (NetD) × List ((Int × Int) × Bool)) (r : RoadD) (o : List Bool) (b : BookD) : bodyVC (ctxOf tab [(9, c9p), (48, c48p), (24, c24), (49, c49)]) Tryz.f23 c23 (a23 (t, r, o, b, ())) (t, r, o, b, ()) = (
lett (fWants (netOf t.1) r).length fun (y4 : Nat) =>
lett (berthOf (netOf t.1) r.1) fun (y5 : Int) =>
lett (fAt (netOf t.1).1 r.1) fun (y6 : PortD × Bool) =>
lett (fWants (netOf t.1) r).length fun (y7 : Nat) =>
netThere t.1 ∧
(netLined t.1 ∧ r.2.2.2.1.length ≤ (1000 : Nat)) ∧
(∃ (s08 : Nat),
(s08 ≤ y4 ∧ (List.take s08 (fWants (netOf t.1) r)).any (stuckAt t o b y5) = false) ∧
(↑s08 : Int) = (0 : Int) ∧
(y5 = bif y6.2 then y6.1.1 else (-1 : Int)) ∧
[t] = [t] ∧ (0 : Nat) = (0 : Nat) ∧ o = o ∧ [b] = [b] ∧ (0 : Nat) = (0 : Nat) ∧ fWants (netOf t.1) r = fWants (netOf t.1) r ∧ (↑y7 : Int) = (↑y7 : Int) ∧ True) ∧
∀ (s8 : Nat),
lett (decide ((↑s8 : Int) < (↑y7 : Int))) fun (y9 : Bool) =>
lett ((fWants (netOf t.1) r).getD (↑s8 : Int).toNat ((0 : Int), (0 : Int))) fun (y10 : Int × Int) =>
lett (bif fDir t.2 y10.1 != (0 : Int) then fDir t.2 y10.1 != y10.2 else false) fun (y11 : Bool) =>
lett (bif y11 then !fQuiet (netOf t.1) y10.1 o b y5 else false) fun (y12 : Bool) =>
s8 ≤ y4 ∧ (List.take s8 (fWants (netOf t.1) r)).any (stuckAt t o b y5) = false →
(y9 = true →
InB (↑s8 : Int) y7 ∧
True ∧
(y11 = true → netThere t.1 ∧ oneOwners b) ∧
(y12 = true → (8 : Int) = fMayT t r o b ∧ True) ∧
(y12 = false →
InR IntKind.i64 ((↑s8 : Int) + (1 : Int)) ∧
∃ (s'13 : Nat),
(s'13 ≤ y4 ∧ (List.take s'13 (fWants (netOf t.1) r)).any (stuckAt t o b y5) = false) ∧
y4 - s'13 < y4 - s8 ∧
(↑s'13 : Int) = (↑s8 : Int) + (1 : Int) ∧
y5 = y5 ∧
[t] = [t] ∧
(0 : Nat) = (0 : Nat) ∧
o = o ∧ [b] = [b] ∧ (0 : Nat) = (0 : Nat) ∧ fWants (netOf t.1) r = fWants (netOf t.1) r ∧ (↑y7 : Int) = (↑y7 : Int) ∧ True)) ∧
(y9 = false → (0 : Int) = fMayT t r o b ∧ True)) := by kernel_rfl
theorem b23 (t : TokenD) (r : RoadD) (o : List Bool) (b : BookD) (hn : netLined t.1) (hr : r.2.2.2.1.length ≤ 1000) (hb : oneOwners b) : bodyVC (ctxOf tab [(9, c9p), (48, c48p), (24, c24), (49, c49)]) Tryz.f23 c23 (a23 (t, r, o, b, ())) (t, r, o, b, ()) := by
 rw [v23]
 refine lett.mk fun y4 e4 => lett.mk fun y5 e5 => lett.mk fun y6 e6 => lett.mk fun y7 e7 => ?_
 have ht : netThere t.1 := by obtain ⟨n, h, _⟩ := hn; exact ⟨n, h⟩
 have hl := fwants_len hn r
 have e7 : y7 = y4 := by rw [e4]; exact e7
 subst e7
 have hF : fMayT t r o b = bif (fWants (netOf t.1) r).any (stuckAt t o b y5) then 8 else 0 := by rw [e5]; unfold fMayT; rfl
 simp only [true_and, and_true, eq_self]
 refine ⟨ht, ⟨hn, hr⟩, ⟨0, ⟨by omega, by simp⟩, by omega, by rw [e5, e6]; rfl⟩, fun s => lett.mk fun y9 e9 => lett.mk fun y10 e10 => lett.mk fun y11 e11 => lett.mk fun y12 e12 => ?_⟩
 rintro ⟨h1, h2⟩
 refine ⟨fun hs => ?_, fun hs => ?_⟩
 ·have hs := lt_of_y e9 hs
  rw [Int.toNat_natCast] at e10
  have e10 : y10 = (fWants (netOf t.1) r).getD s zT := e10
  have hst : stuckAt t o b y5 ((fWants (netOf t.1) r).getD s zT) = y12 := by
   rw [← e10, e12, e11]
   unfold stuckAt
   cases hx : (fDir t.2 y10.1 == 0) <;> cases hz : (fDir t.2 y10.1 == y10.2) <;> simp [hx, hz, bne]
  refine ⟨⟨by omega, by omega⟩, fun _ => ⟨ht, hb⟩, fun hy => ?_, fun hy => ⟨inR64 (by omega) (by omega), s + 1, ⟨by omega, ?_⟩, by omega, by omega⟩⟩
  ·rw [hF, any_yes (s := s) zT (by omega) (by rw [hst]; exact hy)]
   rfl
  ·exact any_succ zT (by omega) h2 (by rw [hst]; exact hy)
 ·have hs := le_of_y e9 hs
  rw [hF, any_full (s := s) (by omega) h2]
  rfl
theorem ok23 : DOk Tryz.prog 23 c23 :=
 DOk.of' (l := [(9, c9p), (48, c48p), (24, c24), (49, c49)]) (A := a23) tabOk ⟨ok9p, ok48p, ok24, ok49, trivial⟩ Tryz.func23 (by kernel_rfl) (by kernel_rfl) fun x hw hp => b23 x.1 x.2.1 x.2.2.1 x.2.2.2.1 hp.1.1 hp.1.2 hp.2
theorem gLead_in (n : NetD) (e i : Int) : 0 ≤ gLead n e i ∧ gLead n e i ≤ 2 := by
 unfold gLead
 cases (!(mget I n.2.2.2.2 e).isSome || (decide (i < 0) || decide (i > 1))) with
 | true => exact ⟨Int.le_refl 0, by show (0 : Int) ≤ 2; decide⟩
 | false =>
  cases ((mget I n.2.2.2.2 e).getD 0 == i) with
  | true => exact ⟨by decide, by decide⟩
  | false => exact ⟨by decide, by decide⟩
theorem wants_lead (n : NetD) (r : RoadD) : ∀ (k : Nat), ∀ t ∈ wantsUp n r k, 0 ≤ t.2 ∧ t.2 ≤ 2
 | 0, t, h => absurd h List.not_mem_nil
 | k + 1, t, h => by
  have h : t ∈ wantStep n (wantsUp n r k) (r.2.2.2.1.getD k zSt) := h
  unfold wantStep at h
  cases hc : (decide ((gLine n (r.2.2.2.1.getD k zSt).1).1 < 0) || (wantsUp n r k).any (fun t => t.1 == (gLine n (r.2.2.2.1.getD k zSt).1).1)) with
  | true => rw [hc] at h; exact wants_lead n r k t h
  | false =>
   rw [hc] at h
   rcases List.mem_append.1 h with h | h
   ·exact wants_lead n r k t h
   ·rw [List.mem_singleton.1 h]
    exact gLead_in n _ _
theorem v22 (t : Option (NetD) × List ((Int × Int) × Bool)) (r : RoadD) (o : List Bool) (b : BookD) : obodyVC (ctxOf tab [(23, c23), (9, c9p)]) Tryz.f22 c22 (a22 (t, r, o, b, ())) (t, r, o, b, ()) = (
lett (fMayT t r o b != (0 : Int)) fun (y4 : Bool) =>
lett (bif fMayT t r o b == (0 : Int) then fTurned t r else t.2) fun (y5 : List (TurnD × Bool)) =>
lett (fWants (netOf t.1) r).length fun (y6 : Nat) =>
lett (fWants (netOf t.1) r).length fun (y7 : Nat) =>
((netLined t.1 ∧ r.2.2.2.1.length ≤ (1000 : Nat)) ∧ oneOwners b) ∧
(y4 = true →
fMayT t r o b = fMayT t r o b ∧
t.1 = t.1 ∧
t.2 = y5 ∧ b.1 = b.1 ∧ b.2.1 = b.2.1 ∧ b.2.2.1 = b.2.2.1 ∧ b.2.2.2.1 = b.2.2.2.1 ∧ b.2.2.2.2 = b.2.2.2.2 ∧ True) ∧
(y4 = false →
(netLined t.1 ∧ r.2.2.2.1.length ≤ (1000 : Nat)) ∧
(∃ (s08 : Nat),
s08 ≤ y6 ∧
(↑s08 : Int) = (0 : Int) ∧
fWants (netOf t.1) r = fWants (netOf t.1) r ∧
(↑y7 : Int) = (↑y7 : Int) ∧
turnedUp t.2 (fWants (netOf t.1) r) s08 = t.2 ∧
t.1 = t.1 ∧
b.1 = b.1 ∧ b.2.1 = b.2.1 ∧ b.2.2.1 = b.2.2.1 ∧ b.2.2.2.1 = b.2.2.2.1 ∧ b.2.2.2.2 = b.2.2.2.2 ∧ True) ∧
∀ (s8 : Nat),
lett (decide ((↑s8 : Int) < (↑y7 : Int))) fun (y9 : Bool) =>
lett ((fWants (netOf t.1) r).getD (↑s8 : Int).toNat ((0 : Int), (0 : Int))) fun (y10 : Int × Int) =>
lett (turnedUp t.2 (fWants (netOf t.1) r) s8) fun (y11 : List (TurnD × Bool)) =>
s8 ≤ y6 →
(y9 = true →
InB (↑s8 : Int) y7 ∧
InR IntKind.i64 ((3 : Int) - y10.2) ∧
InR IntKind.i64 ((↑s8 : Int) + (1 : Int)) ∧
∃ (s'12 : Nat),
s'12 ≤ y6 ∧
y6 - s'12 < y6 - s8 ∧
(↑s'12 : Int) = (↑s8 : Int) + (1 : Int) ∧
fWants (netOf t.1) r = fWants (netOf t.1) r ∧
(↑y7 : Int) = (↑y7 : Int) ∧
turnedUp t.2 (fWants (netOf t.1) r) s'12 =
mput PortT (mdel PortT y11 (y10.1, (3 : Int) - y10.2))
y10 true ∧
t.1 = t.1 ∧
b.1 = b.1 ∧
b.2.1 = b.2.1 ∧ b.2.2.1 = b.2.2.1 ∧ b.2.2.2.1 = b.2.2.2.1 ∧ b.2.2.2.2 = b.2.2.2.2 ∧ True) ∧
(y9 = false →
(0 : Int) = fMayT t r o b ∧
t.1 = t.1 ∧
y11 = y5 ∧
b.1 = b.1 ∧ b.2.1 = b.2.1 ∧ b.2.2.1 = b.2.2.1 ∧ b.2.2.2.1 = b.2.2.2.1 ∧ b.2.2.2.2 = b.2.2.2.2 ∧ True))) := by kernel_rfl
theorem b22 (t : TokenD) (r : RoadD) (o : List Bool) (b : BookD) (hn : netLined t.1) (hr : r.2.2.2.1.length ≤ 1000) (hb : oneOwners b) : obodyVC (ctxOf tab [(23, c23), (9, c9p)]) Tryz.f22 c22 (a22 (t, r, o, b, ())) (t, r, o, b, ()) := by
 rw [v22]
 have hl := fwants_len hn r
 simp only [true_and, and_true, eq_self]
 refine lett.mk fun y4 e4 => lett.mk fun y5 e5 => lett.mk fun y6 e6 => lett.mk fun y7 e7 => ?_
 have e7 : y7 = y6 := by rw [e6]; exact e7
 subst e7
 refine ⟨⟨⟨hn, hr⟩, hb⟩, fun h => ?_, fun h => ⟨⟨hn, hr⟩, ⟨0, by omega, by omega, rfl⟩, fun s => lett.mk fun y9 e9 => lett.mk fun y10 e10 => lett.mk fun y11 e11 => fun hs => ⟨fun h9 => ?_, fun h9 => ?_⟩⟩⟩
 ·rw [h] at e4
  have : (fMayT t r o b == 0) = false := by
   cases hx : (fMayT t r o b == 0) with
   | false => rfl
   | true => rw [bneB, hx] at e4; cases e4
  rw [e5, this]
  rfl
 ·have hs' := lt_of_y e9 h9
  rw [Int.toNat_natCast] at e10
  have e10 : y10 = (fWants (netOf t.1) r).getD s zT := e10
  have hm : y10 ∈ fWants (netOf t.1) r := by rw [e10]; exact mem_getD zT (by omega)
  have hd : 0 ≤ y10.2 ∧ y10.2 ≤ 2 := by
   unfold fWants at hm
   exact wants_lead _ r _ _ ((sort_perm _).mem_iff.1 hm)
  refine ⟨⟨by omega, by omega⟩, inR64 (by omega) (by omega), inR64 (by omega) (by omega), s + 1, by omega, by omega, by omega, ?_⟩
  rw [e11, e10]
  rfl
 ·have hs' := le_of_y e9 h9
  have hm : fMayT t r o b = 0 := by
   rw [h, bneB] at e4
   cases hx : (fMayT t r o b == 0) with
   | false => rw [hx] at e4; cases e4
   | true => exact eq_of_beq hx
  refine ⟨hm.symm, ?_⟩
  have : s = (fWants (netOf t.1) r).length := by omega
  subst this
  rw [e11, e5, hm]
  unfold fTurned
  rfl
theorem ok22 : OOk Tryz.prog 22 c22 :=
 OOk.of' (l := [(23, c23), (9, c9p)]) (A := a22) tabOk ⟨ok23, ok9p, trivial⟩ Tryz.func22 (by kernel_rfl) (by kernel_rfl) fun x hw hp => b22 x.1 x.2.1 x.2.2.1 x.2.2.2.1 hp.1.1 hp.1.2 hp.2
end YtpnnfimacblhgaaGreat
end Go.Proofs
end

section
set_option maxRecDepth 100000
set_option linter.unusedVariables false
namespace Go.Proofs
open Go Go.Vc
namespace YtpnnfimacblhgaaGreat
def lawCon (ts : List Ty) : DCon where
 args := ts
 out := .data [.bool]
 pre _ := True
 fn _ := (true, ())
def c3 : DCon := lawCon [PlanT, .int .u8]
def slotTurns (S : St) (n : Nat) : List TurnD :=
 match find S.sl n with
 | some (_, .one (.dat (.list (.pair (.int _) (.int _))) xs)) => xs
 | _ => []
def a3 (x : PlanD × Int × Unit) : Ann := loopAnn [(13, fun S => upLoop (slotTurns S 8).length (fun _ => True) 10 [8, 9] [])]
end YtpnnfimacblhgaaGreat
end Go.Proofs
end

section
set_option maxRecDepth 100000
set_option linter.unusedVariables false
set_option linter.unusedSimpArgs false
set_option maxHeartbeats 2000000
namespace Go.Proofs
open Go Go.Vc
namespace YtpnnfimacblhgaaGreat
def nextPort (p : PlanD) (y : PortD) : Prop := ∃ x, (fNext p x).2 = true ∧ y = (fNext p x).1
structure Kept (p : PlanD) (Q : SearchD → Prop) : Prop where
 plan : ∀ s, Q s → s.1 = p
 bare : ∀ s, Q s → Q (sBare s)
 zone : ∀ s z, Q s → Q (sZone s z)
 hold : ∀ s z, Q s → Q (sHold s z)
 met : ∀ s m, Q s → Q (sMet s m)
 guard : ∀ s (y : PortD), Q s → nextPort p y → fOwn (sRoad s) y.1 = false → fKind p y.1 = 2 → (y.2 == 0) = false → fHasNeed (gGuards s) (y.1, y.2) = false → fHasNeed (gGuards s) (y.1, 3 - y.2) = false →
  Q (sGuard s (gGuards s ++ [(y.1, 3 - y.2)]))
theorem zone_kept {p : PlanD} {Q : SearchD → Prop} (k : Kept p Q) {s : SearchD} (h : Q s) (e : Int) : Q (fZone s e).2 := by
 unfold fZone
 cases fMem (gZone s) e with
 | true => exact h
 | false =>
  cases decide (12 ≤ (gZone s).length) with
  | true => exact k.bare _ h
  | false => exact k.zone _ _ h
theorem on_kept {p : PlanD} {Q : SearchD → Prop} (k : Kept p Q) {rec : PortD → SearchD → SearchD} (hrec : ∀ y s, nextPort p y → Q s → Q (rec y s)) (e stop : Int) {s : SearchD} (h : Q s) : Q (sOn rec e stop s) := by
 unfold sOn
 have hp := k.plan s h
 cases hn : (fNext s.1 (e, stop)).2 with
 | true => exact hrec _ _ ⟨(e, stop), by rw [← hp]; exact hn, by rw [hp]⟩ h
 | false => exact h
theorem points_kept {p : PlanD} {Q : SearchD → Prop} (k : Kept p Q) {rec : PortD → SearchD → SearchD} (hrec : ∀ y s, nextPort p y → Q s → Q (rec y s)) {y : PortD} {s : SearchD} (h : Q s) (hy : nextPort p y)
  (ho : fOwn (sRoad s) y.1 = false) (hk : fKind p y.1 = 2) : Q (sPoints rec y s) := by
 have hz := zone_kept k h y.1
 unfold sPoints
 cases h0 : y.2 == 0 with
 | true =>
  cases (fZone s y.1).1 with
  | true => exact on_kept k hrec _ _ (on_kept k hrec _ _ hz)
  | false => exact hz
 | false =>
  cases h1 : !fHasNeed (gNeeds s) (y.1, y.2) && !fHasNeed (gGuards s) (y.1, y.2) with
  | true =>
   cases h2 : fHasNeed (gGuards s) (y.1, 3 - y.2) with
   | true => exact h
   | false =>
    rw [Bool.and_eq_true] at h1
    exact k.guard s y h hy ho hk h0 (by simpa using h1.2) h2
  | false =>
   cases (fZone s y.1).1 with
   | true => exact on_kept k hrec _ _ hz
   | false => exact hz
theorem new_kept {p : PlanD} {Q : SearchD → Prop} (k : Kept p Q) {rec : PortD → SearchD → SearchD} (hrec : ∀ y s, nextPort p y → Q s → Q (rec y s)) {y : PortD} {s : SearchD} (h : Q s) (hy : nextPort p y)
  (ho : fOwn (sRoad s) y.1 = false) : Q (sNew rec y s) := by
 have hz := zone_kept k h y.1
 have hp := k.plan s h
 unfold sNew
 cases decide (0 ≤ fReads s.1 y) && !s.1.2.2.2.2.2.2.2.2 with
 | true =>
  cases fMem (gHolds s) (fReads s.1 y) with
  | true => exact h
  | false => exact k.hold _ _ h
 | false =>
  cases fKind s.1 y.1 == 4 with
  | true => exact k.bare _ h
  | false =>
   cases hk : fKind s.1 y.1 == 2 with
   | true => exact points_kept k hrec h hy ho (by rw [← hp]; exact eq_of_beq hk)
   | false =>
    cases (fZone s y.1).1 with
    | true => exact on_kept k hrec _ _ hz
    | false => exact hz
theorem come_kept {p : PlanD} {Q : SearchD → Prop} (k : Kept p Q) : ∀ (n : Nat) (y : PortD) (s : SearchD), nextPort p y → Q s → Q (sCome n y s)
 | 0, _, _, _, h => h
 | n + 1, y, s, hy, h => by
  show Q (sStep (sCome n) y s)
  unfold sStep
  cases hb : fOwn (sRoad s) y.1 || fHasPort (gMet s) y with
  | true => exact h
  | false =>
   rw [Bool.or_eq_false_iff] at hb
   refine new_kept k (come_kept k n) (k.met _ _ h) hy ?_
   unfold sRoad at hb ⊢
   exact hb.1
theorem flank_kept {p : PlanD} {Q : SearchD → Prop} (k : Kept p Q) {r : RoadD} (h0 : Q (s0 p r)) : ∀ n, Q (flankUp p r n)
 | 0 => h0
 | n + 1 => on_kept k (come_kept k 161) _ _ (flank_kept k h0 n)
def still (p : PlanD) (r : RoadD) (s : SearchD) : Prop := s.1 = p ∧ s.2.1 = r.1 ∧ s.2.2.1 = r.2.1 ∧ s.2.2.2.1 = r.2.2.1 ∧ gSteps s = r.2.2.2.1 ∧ gNeeds s = r.2.2.2.2.1
theorem still_kept (p : PlanD) (r : RoadD) : Kept p (still p r) where
 plan s h := h.1
 bare s h := h
 zone s z h := h
 hold s z h := h
 met s m h := h
 guard s y h _ _ _ _ _ _ := h
theorem flank_still (p : PlanD) (r : RoadD) : (fFlank p r).1 = r.1 ∧ (fFlank p r).2.1 = r.2.1 ∧ (fFlank p r).2.2.1 = r.2.2.1 ∧ (fFlank p r).2.2.2.1 = r.2.2.2.1 ∧ (fFlank p r).2.2.2.2.1 = r.2.2.2.2.1 := by
 have := flank_kept (still_kept p r) (r := r) ⟨rfl, rfl, rfl, rfl, rfl, rfl⟩ (fPorts p r).length
 obtain ⟨h1, h2, h3, h4, h5, h6⟩ := this
 unfold fFlank sRoad
 exact ⟨h2, h3, h4, h5, h6⟩
structure RoadsOk (p : PlanD) : Prop where
 fine : fFine p = true
 check : fCheck p = 0
 short : shortLines p
 made : fMade p = some (fNet p)
 len : (fRoads p).1.length ≤ 64
 road : ∀ r ∈ (fRoads p).1, ∃ q ∈ (fAll p).1, r = fFlank p q
theorem roads_ok {p : PlanD} (h : (fRoads p).2 = true) : RoadsOk p := by
 have hf : fFine p = true := by
  unfold fRoads at h
  cases hf : fFine p with
  | true => rfl
  | false => rw [hf] at h; cases h
 obtain ⟨_, hc, hl⟩ := fine_facts hf
 have hR : (fRoads p).1 = (fBuild p).1.2 ∧ (fBuild p).2 = 0 := by
  unfold fRoads at h ⊢
  rw [hf] at h ⊢
  exact ⟨rfl, eq_of_beq h⟩
 have ha : (fAll p).2 = 0 := by
  have hb := hR.2
  unfold fBuild at hb
  rw [hc] at hb
  cases ha : ((fAll p).2 == 0) with
  | true => exact eq_of_beq ha
  | false =>
   rw [ha] at hb
   have hb : (fAll p).2 = 0 := hb
   rw [hb] at ha
   cases ha
 have hB : (fRoads p).1 = (fAll p).1.map (fFlank p) := by
  rw [hR.1]
  unfold fBuild
  rw [hc, ha]
  rfl
 refine ⟨hf, hc, hl, ?_, ?_, fun r hr => ?_⟩
 ·unfold fMade
  rw [hf]
  rfl
 ·rw [hB, List.length_map]
  exact all_len p
 ·rw [hB] at hr
  obtain ⟨q, hq, e⟩ := List.mem_map.1 hr
  exact ⟨q, hq, e.symm⟩
theorem road_len {p : PlanD} (h : RoadsOk p) {r : RoadD} (hr : r ∈ (fRoads p).1) : r.2.2.2.1.length ≤ 13 ∧ r.2.2.2.2.1.length ≤ 1000 := by
 obtain ⟨q, hq, rfl⟩ := h.road r hr
 obtain ⟨_, h2, h3⟩ := all_ok (check_zero h.check).2.2.1 q hq
 have hs := flank_still p q
 rw [hs.2.2.2.1, hs.2.2.2.2]
 exact ⟨h2, by omega⟩
theorem made_lined {p : PlanD} (h : RoadsOk p) : netLined (fMade p) :=
 ⟨fNet p, h.made, net_lineIn (by have := (sizes_factsQ (check_zero h.check).1).2.2.1; omega)⟩
end YtpnnfimacblhgaaGreat
end Go.Proofs
end

section
set_option maxRecDepth 100000
set_option linter.unusedVariables false
set_option linter.unusedSimpArgs false
set_option maxHeartbeats 2000000
namespace Go.Proofs
open Go Go.Vc
namespace YtpnnfimacblhgaaGreat
theorem book_owners {b : BookD} (h : b.2.1 = []) : oneOwners b := fun e x hx => by
 rw [h] at hx
 exact absurd hx List.not_mem_nil
end YtpnnfimacblhgaaGreat
end Go.Proofs
end

section
set_option maxRecDepth 100000
set_option linter.unusedVariables false
namespace Go.Proofs
open Go Go.Vc
namespace YtpnnfimacblhgaaGreat
def anyLoop {α : Type} (q : α → Bool) (xs : List α) (slot : Nat) (keep keepB : List Nat) : LA where
 σ := Nat
 ok := fun k => k ≤ xs.length ∧ (xs.take k).any q = false
 mu := fun k => xs.length - k
 sl := fun k => [(slot, .one (.dat I (k : Int)))]
 bl := fun _ => []
 keep := keep
 keepB := keepB
def c33d : DCon where
 args := [RoadT]
 out := .data [.list I]
 pre := fun (x : RoadD × Unit) => x.1.2.2.2.1.length ≤ 1000000
 fn := fun (x : RoadD × Unit) => (fElems x.1, ())
def clash (x y : NeedD) : Bool := x.1 == y.1 && !(x.2 == y.2)
def roadSmall (r : RoadD) : Prop := r.2.2.2.1.length ≤ 1000 ∧ r.2.2.2.2.1.length ≤ 1000 ∧ r.2.2.2.2.2.1.length ≤ 1000
@[irreducible] def fNeedsAll (r : RoadD) : List NeedD := r.2.2.2.2.1 ++ r.2.2.2.2.2.1
@[irreducible] def rAt (p : PlanD) (i : Int) : RoadD := (fRoads p).1.getD (i.tmod ((fRoads p).1.length : Int)).toNat zR
def a4 (x : PlanD × Int × Int × Unit) : Ann := loopAnn [(12, fun S => upLoop (slotTurns S 12).length (fun _ => True) 14 [3, 9, 10, 11, 12, 13] [3, 10, 11]),
 (15, fun S => upLoop (rAt x.1 x.2.1).2.2.2.1.length (fun _ => True) 15 [3, 9, 10, 11, 12, 13, 14] [3, 10, 11]),
 (21, fun S => upLoop (slotTurns S 13).length (fun _ => True) 18 [3, 9, 10, 11, 12, 13, 14] [3, 10, 11])]
end YtpnnfimacblhgaaGreat
end Go.Proofs
end

section
set_option maxRecDepth 100000
set_option linter.unusedVariables false
set_option linter.unusedSimpArgs false
set_option maxHeartbeats 2000000
namespace Go.Proofs
open Go Go.Vc
namespace YtpnnfimacblhgaaGreat
def outPort (s : StepD) : PortD := (s.1, s.2.2)
def inPort (s : StepD) : PortD := (s.1, s.2.1)
def stepAt (l : List StepD) (t : Nat) : StepD := l.getD t zSt
def chained (p : PlanD) (l : List StepD) : Prop := ∀ t, t + 1 < l.length → fNext p (outPort (stepAt l t)) = (inPort (stepAt l (t + 1)), true)
def passes (p : PlanD) (s : StepD) : Prop := fKind p s.1 = 4 ∨ ∃ w ∈ fOuts p s.1 s.2.1, w.1 = s.2.2
def needOf (p : PlanD) (l : List StepD) (n : NeedD) : Prop := (∃ s ∈ l, s.1 = n.1) ∧ (n.2 = 1 ∨ n.2 = 2)
structure Run (p : PlanD) (q : RoadD) : Prop where
 chain : chained p q.2.2.2.1
 nodup : (q.2.2.2.1.map Prod.fst).Nodup
 pass : ∀ s ∈ q.2.2.2.1, passes p s
 need : ∀ n ∈ q.2.2.2.2.1, needOf p q.2.2.2.1 n
 once : (q.2.2.2.2.1.map Prod.fst).Nodup
theorem stepAt_old {l : List StepD} {s : StepD} {t : Nat} (h : t < l.length) : stepAt (l ++ [s]) t = stepAt l t := by
 unfold stepAt
 rw [List.getD_eq_getElem?_getD, List.getElem?_append_left h, ← List.getD_eq_getElem?_getD]
theorem stepAt_new (l : List StepD) (s : StepD) : stepAt (l ++ [s]) l.length = s := by
 unfold stepAt
 rw [List.getD_eq_getElem?_getD, List.getElem?_append_right (Nat.le_refl _)]
 simp
structure Going (p : PlanD) (q : RoadD) (x : PortD) (met : List Int) : Prop where
 run : Run p q
 last : q.2.2.2.1.length ≠ 0 → fNext p (outPort (stepAt q.2.2.2.1 (q.2.2.2.1.length - 1))) = (x, true)
 met : ∀ s ∈ q.2.2.2.1, s.1 ∈ met
theorem with_needs_eq (r : RoadD) (s : StepD) (pos stop to : Int) : (fWith r s pos stop to).2.2.2.2.1 = r.2.2.2.2.1 ++ (bif pos == 0 then [] else [(s.1, pos)]) := by unfold fWith; rfl
theorem run_with {p : PlanD} {q : RoadD} {x : PortD} {met : List Int} (g : Going p q x met) (hx : x.1 ∉ met) {o pos : Int} (stop to : Int) (hp : passes p (x.1, x.2, o)) (hpos : pos = 0 ∨ pos = 1 ∨ pos = 2) : Run p (fWith q (x.1, x.2, o) pos stop to) := by
 have hnew : ∀ s ∈ q.2.2.2.1, s.1 ≠ x.1 := fun s hs e => hx (by rw [← e]; exact g.met s hs)
 constructor
 ·rw [with_steps]
  intro t ht
  rw [List.length_append] at ht
  have ht : t + 1 < q.2.2.2.1.length + 1 := ht
  by_cases h : t + 1 < q.2.2.2.1.length
  ·rw [stepAt_old h, stepAt_old (by omega)]
   exact g.run.chain t h
  ·have e : t + 1 = q.2.2.2.1.length := by omega
   rw [e, stepAt_new, stepAt_old (by omega)]
   have := g.last (by omega)
   rw [show q.2.2.2.1.length - 1 = t by omega] at this
   exact this
 ·rw [with_steps, List.map_append, List.nodup_append]
  refine ⟨g.run.nodup, by simp, fun a ha b hb e => ?_⟩
  obtain ⟨s, hs, rfl⟩ := List.mem_map.1 ha
  have hb : b = x.1 := by simpa using hb
  exact hnew s hs (e.trans hb)
 ·rw [with_steps]
  intro s hs
  rcases List.mem_append.1 hs with hs | hs
  ·exact g.run.pass s hs
  ·rw [List.mem_singleton.1 hs]; exact hp
 ·rw [with_steps, with_needs_eq]
  intro n hn
  rcases List.mem_append.1 hn with hn | hn
  ·obtain ⟨⟨s, hs, e⟩, h2⟩ := g.run.need n hn
   exact ⟨⟨s, List.mem_append_left _ hs, e⟩, h2⟩
  ·cases h0 : (pos == 0) with
   | true => rw [h0] at hn; exact absurd hn List.not_mem_nil
   | false =>
    rw [h0] at hn
    have hn : n = (x.1, pos) := List.mem_singleton.1 hn
    rw [hn]
    refine ⟨⟨(x.1, x.2, o), List.mem_append_right _ (List.mem_singleton.2 rfl), rfl⟩, ?_⟩
    rcases hpos with h | h | h
    ·rw [h] at h0; cases h0
    ·exact .inl h
    ·exact .inr h
 ·rw [with_needs_eq, List.map_append, List.nodup_append]
  refine ⟨g.run.once, ?_, fun a ha b hb e => ?_⟩
  ·cases (pos == 0) with
   | true => exact List.nodup_nil
   | false => show ([x.1] : List Int).Nodup; simp
  ·obtain ⟨n, hn, rfl⟩ := List.mem_map.1 ha
   obtain ⟨⟨s, hs, e1⟩, _⟩ := g.run.need n hn
   cases h0 : (pos == 0) with
   | true => rw [h0] at hb; exact absurd hb List.not_mem_nil
   | false =>
    rw [h0] at hb
    have hb : b = x.1 := by
     have hb : b ∈ [x.1] := hb
     exact List.mem_singleton.1 hb
    exact hnew s hs (by rw [e1, e, hb])
theorem outs_pos {p : PlanD} {e i : Int} {w : Int × Int} (hw : w ∈ fOuts p e i) : w.2 = 0 ∨ w.2 = 1 ∨ w.2 = 2 := by
 have hh : fHas p (e, i) = true := by
  cases hh : fHas p (e, i) with
  | true => rfl
  | false => unfold fOuts at hw; rw [hh] at hw; cases hw
 unfold fOuts at hw
 rw [hh] at hw
 have hw : w ∈ (bif fKind p e == 1 then [(1 - i, 0)] else bif fKind p e == 3 then [(fCross i, 0)] else bif fKind p e == 2 then (bif i == 0 then [(1, 1), (2, 2)] else [(0, i)]) else []) := hw
 cases h1 : fKind p e == 1 with
 | true => rw [h1] at hw; rw [List.mem_singleton.1 hw]; exact .inl rfl
 | false =>
  rw [h1] at hw
  have hw : w ∈ (bif fKind p e == 3 then [(fCross i, 0)] else bif fKind p e == 2 then (bif i == 0 then [(1, 1), (2, 2)] else [(0, i)]) else []) := hw
  cases h3 : fKind p e == 3 with
  | true => rw [h3] at hw; rw [List.mem_singleton.1 hw]; exact .inl rfl
  | false =>
   rw [h3] at hw
   have hw : w ∈ (bif fKind p e == 2 then (bif i == 0 then [(1, 1), (2, 2)] else [(0, i)]) else []) := hw
   cases h2 : fKind p e == 2 with
   | false => rw [h2] at hw; exact absurd hw List.not_mem_nil
   | true =>
    rw [h2] at hw
    have hw : w ∈ (bif i == 0 then [(1, 1), (2, 2)] else [(0, i)]) := hw
    cases h0 : (i == 0) with
    | true =>
     rw [h0] at hw
     have hw : w = (1, 1) ∨ w = (2, 2) := by simpa using hw
     rcases hw with rfl | rfl
     ·exact .inr (.inl rfl)
     ·exact .inr (.inr rfl)
    | false =>
     rw [h0] at hw
     have hw : w = (0, i) := List.mem_singleton.1 hw
     rw [hw]
     have hk : fKind p e = 2 := eq_of_beq h2
     unfold fHas at hh
     have hh : (decide (0 ≤ e) && (decide (e < (p.1.length : Int)) && (decide (0 ≤ i) && decide (i < fEnds (fKind p e))))) = true := hh
     rw [hk, show fEnds 2 = 3 by unfold fEnds; rfl] at hh
     simp only [Bool.and_eq_true, decide_eq_true_eq] at hh
     have : i ≠ 0 := fun e => by rw [e] at h0; cases h0
     show i = 0 ∨ i = 1 ∨ i = 2
     omega
theorem on_run {p : PlanD} : ∀ (n : Nat) (r : RoadD) (x : PortD) (met : List Int), Going p r x met → ∀ q ∈ fOn p n r x met, Run p q
 | 0, _, _, _, _, q, hq => absurd hq List.not_mem_nil
 | n + 1, r, x, met, g, q, hq => by
  have hq : q ∈ onStep p (fOn p n) r x met := hq
  unfold onStep at hq
  cases h1 : fMem met x.1 || decide (r.2.2.2.1.length = 12) with
  | true => rw [h1] at hq; cases hq
  | false =>
   rw [h1] at hq
   have hx : x.1 ∉ met := fun hx => by
    have := (Bool.or_eq_false_iff.1 h1).1
    unfold fMem at this
    have := List.any_eq_false.1 this _ hx
    simp at this
   cases h2 : fKind p x.1 == 4 with
   | true =>
    rw [h2] at hq
    have hq : q = fWith r (x.1, x.2, -1) 0 2 (-1) := by simpa using hq
    rw [hq]
    exact run_with g hx 2 (-1) (.inl (eq_of_beq h2)) (.inl rfl)
   | false =>
    rw [h2] at hq
    have hq : q ∈ onWays p (fOn p n) r x (met ++ [x.1]) (fOuts p x.1 x.2).length := hq
    unfold onWays at hq
    rw [List.take_length] at hq
    obtain ⟨w, hw, hq⟩ := List.mem_flatMap.1 hq
    have hp : passes p (x.1, x.2, w.1) := .inr ⟨w, hw, rfl⟩
    have hpos := outs_pos hw
    unfold onWay at hq
    cases h3 : decide (0 ≤ fReads p (x.1, w.1)) with
    | true =>
     rw [h3] at hq
     have hq : q = fWith r (x.1, x.2, w.1) w.2 1 (fReads p (x.1, w.1)) := by simpa using hq
     rw [hq]
     exact run_with g hx _ _ hp hpos
    | false =>
     rw [h3] at hq
     cases h4 : (fNext p (x.1, w.1)).2 with
     | false =>
      rw [h4] at hq
      have hq : q = fWith r (x.1, x.2, w.1) w.2 3 (-1) := by simpa using hq
      rw [hq]
      exact run_with g hx _ _ hp hpos
     | true =>
      rw [h4] at hq
      have hq : q ∈ fOn p n (fWith r (x.1, x.2, w.1) w.2 0 (-1)) (fNext p (x.1, w.1)).1 (met ++ [x.1]) := hq
      refine on_run n _ _ _ ⟨run_with g hx _ _ hp hpos, fun _ => ?_, fun s hs => ?_⟩ q hq
      ·rw [with_steps, List.length_append]
       show fNext p (outPort (stepAt _ (r.2.2.2.1.length + 1 - 1))) = _
       rw [Nat.add_sub_cancel, stepAt_new, ← h4]
       rfl
      ·rw [with_steps] at hs
       rcases List.mem_append.1 hs with hs | hs
       ·exact List.mem_append_left _ (g.met s hs)
       ·rw [List.mem_singleton.1 hs]
        exact List.mem_append_right _ (List.mem_singleton.2 rfl)
theorem all_run {p : PlanD} : ∀ q ∈ (fAll p).1, Run p q := by
 intro q hq
 unfold fAll at hq
 cases h : anyTo (allLong p) p.2.2.1.length with
 | true => rw [h] at hq; cases hq
 | false =>
  rw [h] at hq
  have hq : q ∈ allUp p p.2.2.1.length := hq
  unfold allUp at hq
  obtain ⟨s, _, hq⟩ := List.mem_flatMap.1 hq
  unfold fOf at hq
  cases h1 : (fAt p (s : Int)).2 with
  | false => rw [h1] at hq; cases hq
  | true =>
   rw [h1] at hq
   cases h2 : (fNext p (fAt p (s : Int)).1).2 with
   | false => rw [h2] at hq; cases hq
   | true =>
    rw [h2] at hq
    have h0 : Run p (roadFrom (s : Int)) := ⟨fun t ht => absurd ht (by show ¬ t + 1 < 0; omega), List.nodup_nil, fun s hs => absurd hs List.not_mem_nil, fun n hn => absurd hn List.not_mem_nil, List.nodup_nil⟩
    exact on_run 13 _ _ _ ⟨h0, fun h => absurd rfl h, fun s hs => absurd hs List.not_mem_nil⟩ q hq
theorem road_run {p : PlanD} (h : RoadsOk p) {r : RoadD} (hr : r ∈ (fRoads p).1) : Run p r := by
 obtain ⟨q, hq, rfl⟩ := h.road r hr
 have hs := flank_still p q
 have := all_run q hq
 constructor
 ·rw [hs.2.2.2.1]; exact this.chain
 ·rw [hs.2.2.2.1]; exact this.nodup
 ·rw [hs.2.2.2.1]; exact this.pass
 ·rw [hs.2.2.2.1, hs.2.2.2.2]; exact this.need
 ·rw [hs.2.2.2.2]; exact this.once
structure Row (p : PlanD) (C : Nat → PortD) (m : Nat) : Prop where
 track : ∀ k, k < m → fKind p (C k).1 = 1
 ends : ∀ k, k < m → (C k).2 = 0 ∨ (C k).2 = 1
 next : ∀ k, k + 1 < m → fNext p ((C k).1, 1 - (C k).2) = (C (k + 1), true)
 apart : ∀ j k, j < m → k < m → (C j).1 = (C k).1 → j = k
end YtpnnfimacblhgaaGreat
end Go.Proofs
end

section
set_option maxRecDepth 100000
set_option linter.unusedVariables false
set_option linter.unusedSimpArgs false
set_option maxHeartbeats 4000000
namespace Go.Proofs
open Go Go.Vc
namespace YtpnnfimacblhgaaGreat
theorem ok33d : DOk Tryz.prog 33 c33d := ok33.asData
theorem road_small {p : PlanD} (h : RoadsOk p) {r : RoadD} (hr : r ∈ (fRoads p).1) : roadSmall r := by
 have hl := road_len h hr
 obtain ⟨q, hq, rfl⟩ := h.road r hr
 obtain ⟨h1, h2, h3⟩ := all_ok (check_zero h.check).2.2.1 q hq
 have hon := (flank_on (p := p) (r := q) ⟨h.check, ⟨by omega, h1⟩, by omega⟩ (fPorts p q).length)
 have hi := hon.1.1
 have hm := nodup_len hi.nodup hi.sub
 have hg := hi.guards
 have he : (joinEnds (flankUp p q (fPorts p q).length).1).length ≤ 160 := by
  rw [hon.2, ends_lenQ]
  have := (sizes_factsQ (check_zero h.check).1).2.2.2
  omega
 refine ⟨by omega, hl.2, ?_⟩
 have : (fFlank p q).2.2.2.2.2.1 = gGuards (flankUp p q (fPorts p q).length) := by unfold fFlank sRoad; rfl
 rw [this]
 omega
theorem rem_in {i : Int} {n : Nat} (hi : 0 ≤ i) (hn : n ≠ 0) : 0 ≤ i.tmod (n : Int) ∧ i.tmod (n : Int) < n := by
 rw [Int.tmod_eq_emod_of_nonneg hi]
 exact ⟨Int.emod_nonneg _ (by omega), Int.emod_lt_of_pos _ (by omega)⟩
end YtpnnfimacblhgaaGreat
end Go.Proofs
end

section
set_option maxRecDepth 100000
set_option linter.unusedVariables false
namespace Go.Proofs
open Go Go.Vc
namespace YtpnnfimacblhgaaGreat
def swapI (l : List Int) (j : Nat) : List Int := (l.set (j + 1) (l.getD j 0)).set j (l.getD (j + 1) 0)
def insI : Nat → List Int → List Int
 | 0, l => l
 | j + 1, l => bif decide (l.getD (j + 1) 0 < l.getD j 0) then insI j (swapI l j) else l
def sortI (l : List Int) : Nat → List Int
 | 0 => l
 | k + 1 => insI k (sortI l k)
def c171 : DCon where
 args := [I]
 out := .data [.bool]
 pre := fun (x : Int × Unit) => True
 fn := fun (x : Int × Unit) => (false, ())
def c165 : DCon where
 args := [I, I]
 out := .data [.bool]
 pre := fun (x : Int × Int × Unit) => True
 fn := fun (x : Int × Int × Unit) => (decide (x.1 < x.2.1), ())
def c159 : OCon where
 args := [.row 3 I, .dat I, .dat I]
 outs := []
 pre := fun (x : List Int × Int × Int × Unit) => x.2.1 = 0 ∧ x.2.2.1 = (x.1.length : Int) ∧ x.1.length ≤ 12
 fn := fun _ => ()
 upd := fun (x : List Int × Int × Int × Unit) => (sortI x.1 x.1.length, x.2)
structure InsIOk (l : List Int) (i j : Nat) (m : List Int) : Prop where
 len : m.length = l.length
 le : j ≤ i
 lt : i < l.length
 same : insI j m = insI i l
def a159 (x : List Int × Int × Int × Unit) : Ann := loopAnn [
 (1, fun _ => {
  σ := Nat
  ok := fun k => k ≤ x.1.length - 1
  mu := fun k => x.1.length - k
  sl := fun k => [(6, .one (.dat I ((k : Int) + 1)))]
  bl := fun k => [(1000000, .row false 3 I (sortI x.1 (k + 1)))]
  keep := [0, 1, 2]
  keepB := [] }),
 (4, fun S => {
  σ := Nat × List Int
  ok := fun s => InsIOk (sortI x.1 (slotI S 6).toNat) (slotI S 6).toNat s.1 s.2
  mu := fun s => s.1
  sl := fun s => [(7, .one (.dat I (s.1 : Int)))]
  bl := fun s => [(1000000, .row false 3 I s.2)]
  keep := [0, 1, 2, 6]
  keepB := [] })]
def c156 : OCon where
 args := [.row 3 I, .dat I, .dat I, .dat I]
 outs := []
 pre := fun (x : List Int × Int × Int × Int × Unit) => x.2.1 = 0 ∧ x.2.2.1 = (x.1.length : Int) ∧ x.1.length ≤ 12
 fn := fun _ => ()
 upd := fun (x : List Int × Int × Int × Int × Unit) => (sortI x.1 x.1.length, x.2)
def a156 (x : List Int × Int × Int × Int × Unit) : Ann := loopAnn [
 (2, fun _ => {
  σ := Unit
  ok := fun k => True
  mu := fun k => 0
  sl := fun k => []
  bl := fun k => []
  keep := [0, 1, 2, 3, 8, 9]
  keepB := [1000000] })]
def c145s : OCon where
 args := [.row 3 I]
 outs := []
 pre := fun (x : List Int × Unit) => x.1.length ≤ 12
 fn := fun _ => ()
 upd := fun (x : List Int × Unit) => (sortI x.1 x.1.length, x.2)
def leI (a b : Int) : Bool := decide (a ≤ b)
def c145 : OCon where
 args := [.row 3 I]
 outs := []
 pre := fun (x : List Int × Unit) => x.1.length ≤ 12
 fn := fun _ => ()
 upd := fun (x : List Int × Unit) => (sortI x.1 x.1.length, x.2)
end YtpnnfimacblhgaaGreat
end Go.Proofs
end

section
set_option maxRecDepth 100000
set_option linter.unusedVariables false
namespace Go.Proofs
open Go Go.Vc
namespace YtpnnfimacblhgaaGreat
def c42d : DCon where
 args := [.list NeedT]
 out := .data [.list NeedT]
 pre := fun (x : List NeedD × Unit) => shortL x.1
 fn := fun (x : List NeedD × Unit) => (x.1, ())
def c42 : DCon where
 args := [.list NeedT]
 out := .row 62 NeedT
 pre := fun (x : List NeedD × Unit) => shortL x.1
 fn := fun (x : List NeedD × Unit) => (x.1, ())
def c94d : DCon where
 args := [.list I]
 out := .data [.list I]
 pre := fun (x : List Int × Unit) => shortL x.1
 fn := fun (x : List Int × Unit) => (x.1, ())
def lget {α : Type} (m : List (Int × List α)) (o : Int) : List α := (mget I m o).getD []
structure BookSmall (b : BookD) : Prop where
 steps : ∀ x ∈ b.2.1, x.2.length ≤ 1000
 zone : ∀ x ∈ b.2.2.1, x.2.length ≤ 1000
 needs : ∀ x ∈ b.2.2.2.1, x.2.length ≤ 1000
 guards : ∀ x ∈ b.2.2.2.2, x.2.length ≤ 1000
 owners : b.2.1.length ≤ 1000 ∧ b.2.2.1.length ≤ 1000 ∧ b.2.2.2.1.length ≤ 1000
def bIn (b : BookD) (e : Int) : Bool := decide (0 ≤ e) && decide (e < b.1)
def c144 : DCon where
 args := [.ref BookT, I]
 out := .data [.bool]
 pre := fun (x : BookD × Int × Unit) => True
 fn := fun (x : BookD × Int × Unit) => (bIn x.1 x.2.1, ())
@[irreducible] def fHasB (b : BookD) (o : Int) : Bool := decide (((lget b.2.1 o).length : Int) + ((lget b.2.2.1 o).length : Int) + ((lget b.2.2.2.2 o).length : Int) > 0)
def c114 : DCon where
 args := [.ref BookT, I]
 out := .data [.bool]
 pre := fun (x : BookD × Int × Unit) => BookSmall x.1
 fn := fun (x : BookD × Int × Unit) => (fHasB x.1 x.2.1, ())
def stepOkB (b : BookD) (r : RoadD) (i : Nat) : Bool := bIn b (stepAt r.2.2.2.1 i).1 && !anyTo (fun j => (stepAt r.2.2.2.1 j).1 == (stepAt r.2.2.2.1 i).1) i
def zoneOkB (b : BookD) (r : RoadD) (e : Int) : Bool := bIn b e && !fMem (fElems r) e
def needAt (r : RoadD) (i : Nat) : NeedD := (fNeedsAll r).getD i (0, 0)
def needOkB (b : BookD) (r : RoadD) (i : Nat) : Bool := bIn b (needAt r i).1 && (((needAt r i).2 == 1 || (needAt r i).2 == 2) && !anyTo (fun j => clash (needAt r j) (needAt r i)) i)
@[irreducible] def fRight (b : BookD) (r : RoadD) : Bool :=
 !decide (r.2.2.2.1.length = 0) && (allTo (stepOkB b r) r.2.2.2.1.length && (r.2.2.2.2.2.2.1.all (zoneOkB b r) && allTo (needOkB b r) (r.2.2.2.2.1.length + r.2.2.2.2.2.1.length)))
def c115 : DCon where
 args := [.ref BookT, RoadT]
 out := .data [.bool]
 pre := fun (x : BookD × RoadD × Unit) => roadSmall x.2.1
 fn := fun (x : BookD × RoadD × Unit) => (fRight x.1 x.2.1, ())
def stepsSeen (r : RoadD) (k : Nat) : List (Int × Bool) := (r.2.2.2.1.take k).map fun s => (s.1, true)
def posFold (r : RoadD) : Nat → List (Int × Int)
 | 0 => []
 | k + 1 => mput I (posFold r k) (needAt r k).1 (needAt r k).2
def offN (r : RoadD) : Nat → Nat
 | 0 => 0
 | 1 => r.2.2.2.2.1.length
 | _ => r.2.2.2.2.1.length + r.2.2.2.2.2.1.length
def listN (r : RoadD) : Nat → List NeedD
 | 0 => r.2.2.2.2.1
 | _ => r.2.2.2.2.2.1
def a115 (x : BookD × RoadD × Unit) : Ann := loopAnn [
 (5, fun _ => {
  σ := Nat
  ok := fun k => k ≤ x.2.1.2.2.2.1.length ∧ allTo (stepOkB x.1 x.2.1) k = true
  mu := fun k => x.2.1.2.2.2.1.length - k
  sl := fun k => [(25, .one (.dat I (k : Int)))]
  bl := fun k => [(21, .map false I .bool (stepsSeen x.2.1 k) none)]
  keep := [0, 3, 5, 23, 24]
  keepB := [3] }),
 (12, fun _ => {
  σ := Nat
  ok := fun k => k ≤ x.2.1.2.2.2.2.2.2.1.length ∧ (x.2.1.2.2.2.2.2.2.1.take k).all (zoneOkB x.1 x.2.1) = true
  mu := fun k => x.2.1.2.2.2.2.2.2.1.length - k
  sl := fun k => [(47, .one (.dat I (k : Int)))]
  bl := fun k => []
  keep := [0, 3, 5, 45, 46]
  keepB := [3, 21] }),
 (19, fun _ => {
  σ := Nat
  ok := fun k => k ≤ 2 ∧ allTo (needOkB x.1 x.2.1) (offN x.2.1 k) = true
  mu := fun k => 2 - k
  sl := fun k => [(68, .one (.dat I (k : Int)))]
  bl := fun k => [(61, .map false I I (posFold x.2.1 (offN x.2.1 k)) none)]
  keep := [0, 10, 66, 67]
  keepB := [66] }),
 (22, fun S => {
  σ := Nat
  ok := fun k => k ≤ (listN x.2.1 (slotI S 68).toNat).length ∧ allTo (needOkB x.1 x.2.1) (offN x.2.1 (slotI S 68).toNat + k) = true
  mu := fun k => (listN x.2.1 (slotI S 68).toNat).length - k
  sl := fun k => [(74, .one (.dat I (k : Int)))]
  bl := fun k => [(61, .map false I I (posFold x.2.1 (offN x.2.1 (slotI S 68).toNat + k)) none)]
  keep := [0, 10, 66, 67, 68, 72, 73]
  keepB := [66] })]
def zoneKeys (e : Int) (l : List (Int × List Int)) : List Int := (l.filter fun x => fMem x.2 e).map fun x => x.1
@[irreducible] def fZones (b : BookD) (e : Int) : List Int := sortI (zoneKeys e b.2.2.1) (zoneKeys e b.2.2.1).length
def fewZones (b : BookD) (e : Int) : Prop := (zoneKeys e b.2.2.1).length ≤ 12
def c116 : DCon where
 args := [.ref BookT, I]
 out := .data [.list I]
 pre := fun (x : BookD × Int × Unit) => fewZones x.1 x.2.1
 fn := fun (x : BookD × Int × Unit) => (fZones x.1 x.2.1, ())
def parted {α : Type} (l : List α) (s : List α × List α) : Prop := l.Perm (s.2 ++ s.1)
def a116 (x : BookD × Int × Unit) : Ann := loopAnn [(3, fun _ => {
 σ := List (Int × List Int) × List (Int × List Int)
 ok := fun s => parted x.1.2.2.1 s
 mu := fun s => s.1.length
 sl := fun s => [(12, .one (.ptr 12 0)), (5, .one (.row I 1000))]
 bl := fun s => [(12, .iter I (.list I) s.1 none), (1000, .row false 3 I (zoneKeys x.2.1 s.2))]
 keep := [0, 1]
 keepB := [] })] [20]
def needsOf (b : BookD) (o : Int) : List NeedD := lget b.2.2.2.1 o ++ lget b.2.2.2.2 o
def heldOf (b : BookD) (o e : Int) : Option NeedD := (needsOf b o).find? fun x => x.1 == e
def holds (b : BookD) (e : Int) (x : Int × List NeedD) : Bool := (heldOf b x.1 e).isSome
def posHeld (b : BookD) (e : Int) (l : List (Int × List NeedD)) : Int := match l.find? (holds b e) with
 | some x => ((heldOf b x.1 e).getD (0, 0)).2
 | none => 0
@[irreducible] def fHeld (b : BookD) (e : Int) : Int × Int := (posHeld b e b.2.2.2.1, ((b.2.2.2.1.filter (holds b e)).length : Int))
def heldOne (b : BookD) (e : Int) : Prop := ∀ x ∈ b.2.2.2.1, ∀ y ∈ b.2.2.2.1, ∀ u v, heldOf b x.1 e = some u → heldOf b y.1 e = some v → u.2 = v.2
def c117 : DCon where
 args := [.ref BookT, I]
 out := .data [I, I]
 pre := fun (x : BookD × Int × Unit) => BookSmall x.1 ∧ heldOne x.1 x.2.1
 fn := fun (x : BookD × Int × Unit) => ((fHeld x.1 x.2.1).1, (fHeld x.1 x.2.1).2, ())
def blkTodo (S : St) (n : Nat) : List (Int × List NeedD) :=
 match find S.bl n with
 | some (.iter (.int _) (.list (.pair (.int _) (.int _))) todo _) => todo
 | _ => []
def a117 (x : BookD × Int × Unit) : Ann := loopAnn [(3, fun _ => {
 σ := List (Int × List NeedD) × List (Int × List NeedD)
 ok := fun s => parted x.1.2.2.2.1 s
 mu := fun s => s.1.length
 sl := fun s => [(15, .one (.ptr 15 0)), (6, .one (.dat I (posHeld x.1 x.2.1 s.2))), (7, .one (.dat I ((s.2.filter (holds x.1 x.2.1)).length : Int)))]
 bl := fun s => [(15, .iter I (.list NeedT) s.1 none)]
 keep := [0, 1]
 keepB := [] }),
 (6, fun S => {
 σ := Nat
 ok := fun k => k ≤ (needsOf x.1 (slotI S 8)).length ∧ ((needsOf x.1 (slotI S 8)).take k).any (fun n => n.1 == x.2.1) = false
 mu := fun k => (needsOf x.1 (slotI S 8)).length - k
 sl := fun k => [(35, .one (.dat I (k : Int)))]
 bl := fun k => [(15, .iter I (.list NeedT) (blkTodo S 15) none)]
 keep := [0, 1, 6, 7, 8, 15, 33, 34]
 keepB := [33] })]
def stepTaken (b : BookD) (s : StepD) : Bool := decide (0 ≤ fOwner b s.1) || decide (0 < (fZones b s.1).length)
def heldBad (b : BookD) (x : NeedD) : Bool := !((fHeld b x.1).1 == 0) && !((fHeld b x.1).1 == x.2)
@[irreducible] def fMayB (b : BookD) (o : Int) (r : RoadD) : Int :=
 bif decide (o < 0) || (fHasB b o || !fRight b r) then 1 else bif r.2.2.2.1.any (stepTaken b) then 14 else bif r.2.2.2.2.2.2.1.any (fun e => decide (0 ≤ fOwner b e)) then 14 else
  bif (fNeedsAll r).any (heldBad b) then 15 else 0
structure BookOk (b : BookD) : Prop where
 small : BookSmall b
 owners : oneOwners b
 held : ∀ e, heldOne b e
 few : ∀ e, fewZones b e
def c67 : DCon where
 args := [.ref BookT, I, RoadT]
 out := .data [I]
 pre := fun (x : BookD × Int × RoadD × Unit) => BookOk x.1 ∧ roadSmall x.2.2.1
 fn := fun (x : BookD × Int × RoadD × Unit) => (fMayB x.1 x.2.1 x.2.2.1, ())
def a67 (x : BookD × Int × RoadD × Unit) : Ann := loopAnn [
 (4, fun _ => anyLoop (stepTaken x.1) x.2.2.1.2.2.2.1 33 [0, 5, 31, 32] [5]),
 (10, fun _ => anyLoop (fun e => decide (0 ≤ fOwner x.1 e)) x.2.2.1.2.2.2.2.2.2.1 54 [0, 5, 52, 53] [5]),
 (16, fun _ => {
  σ := Nat
  ok := fun k => k ≤ 2 ∧ ((fNeedsAll x.2.2.1).take (offN x.2.2.1 k)).any (heldBad x.1) = false
  mu := fun k => 2 - k
  sl := fun k => [(69, .one (.dat I (k : Int)))]
  bl := fun k => []
  keep := [0, 67, 68]
  keepB := [67] }),
 (19, fun S => {
  σ := Nat
  ok := fun k => k ≤ (listN x.2.2.1 (slotI S 69).toNat).length ∧ ((fNeedsAll x.2.2.1).take (offN x.2.2.1 (slotI S 69).toNat + k)).any (heldBad x.1) = false
  mu := fun k => (listN x.2.2.1 (slotI S 69).toNat).length - k
  sl := fun k => [(75, .one (.dat I (k : Int)))]
  bl := fun k => []
  keep := [0, 67, 68, 69, 73, 74]
  keepB := [67] })]
def elemsUp (r : RoadD) (k : Nat) : List Int := (r.2.2.2.1.take k).map fun s => s.1
def taken (b : BookD) (o : Int) (r : RoadD) : BookD := (b.1, mput I b.2.1 o (fElems r), mput I b.2.2.1 o r.2.2.2.2.2.2.1, mput I b.2.2.2.1 o r.2.2.2.2.1, mput I b.2.2.2.2 o r.2.2.2.2.2.1)
@[irreducible] def fTakeB (b : BookD) (o : Int) (r : RoadD) : BookD := bif fMayB b o r == 0 then taken b o r else b
def c60 : OCon where
 args := [BookO, .dat I, .dat RoadT]
 outs := [.dat I]
 pre := fun (x : BookD × Int × RoadD × Unit) => (BookOk x.1 ∧ roadSmall x.2.2.1) ∧ shortL x.2.2.1.2.2.2.2.2.2.1
 fn := fun (x : BookD × Int × RoadD × Unit) => (fMayB x.1 x.2.1 x.2.2.1, ())
 upd := fun (x : BookD × Int × RoadD × Unit) => (fTakeB x.1 x.2.1 x.2.2.1, x.2.1, x.2.2.1, ())
def a60 (x : BookD × Int × RoadD × Unit) : Ann := loopAnn [(6, fun _ => rowLoop x.2.2.1.2.2.2.1.length 21 8 1000 3 I (elemsUp x.2.2.1) [0, 1, 5, 19, 20] [5, 1000000, 1000001, 1000002, 1000003, 1000004])]
end YtpnnfimacblhgaaGreat
end Go.Proofs
end

section
set_option maxRecDepth 100000
set_option linter.unusedVariables false
set_option linter.unusedSimpArgs false
set_option maxHeartbeats 2000000
namespace Go.Proofs
open Go Go.Vc
namespace YtpnnfimacblhgaaGreat
theorem swapI_len (l : List Int) (j : Nat) : (swapI l j).length = l.length := by unfold swapI; simp
theorem insI_len : ∀ (j : Nat) (l : List Int), (insI j l).length = l.length
 | 0, _ => rfl
 | j + 1, l => by
  unfold insI
  cases decide (l.getD (j + 1) 0 < l.getD j 0) with
  | true => rw [cond_true, insI_len j, swapI_len]
  | false => rw [cond_false]
theorem sortI_len (l : List Int) : ∀ (k : Nat), (sortI l k).length = l.length
 | 0 => rfl
 | k + 1 => by show (insI k (sortI l k)).length = _; rw [insI_len, sortI_len l k]
theorem v171 (x : Int) : bodyVC (ctxOf tab []) Tryz.f171 c171 noAnn (x, ()) = (
(x != x) = false ∧ True) := by kernel_rfl
theorem ok171 : DOk Tryz.prog 171 c171 :=
 DOk.of' (l := []) (A := fun _ => noAnn) tabOk trivial Tryz.func171 (by kernel_rfl) (by kernel_rfl) fun x _ _ => by
  obtain ⟨n, u⟩ := x
  show bodyVC (ctxOf tab []) Tryz.f171 c171 noAnn (n, ())
  rw [v171]
  exact ⟨by simp, trivial⟩
theorem v165 (x : Int) (y : Int) : bodyVC (ctxOf tab [(171, c171)]) Tryz.f165 c165 noAnn (x, y, ()) = (
True ∧ (false = true → True) ∧ (bif bif false then !false else false then true else decide (x < y)) = decide (x < y) ∧ True) := by kernel_rfl
theorem ok165 : DOk Tryz.prog 165 c165 :=
 DOk.of' (l := [(171, c171)]) (A := fun _ => noAnn) tabOk ⟨ok171, trivial⟩ Tryz.func165 (by kernel_rfl) (by kernel_rfl) fun x _ _ => by
  obtain ⟨a, b, u⟩ := x
  show bodyVC (ctxOf tab [(171, c171)]) Tryz.f165 c165 noAnn (a, b, ())
  rw [v165]
  exact ⟨trivial, fun _ => trivial, rfl, trivial⟩
theorem v159 (l : List Int) (a : Int) (b : Int) : obodyVC (ctxOf tab [(165, c165)]) Tryz.f159 c159 (a159 (l, a, b, ())) (l, a, b, ()) = (
InR IntKind.i64 (a + (1 : Int)) ∧
(∃ (s03 : Nat), s03 ≤ l.length - (1 : Nat) ∧ (↑s03 : Int) + (1 : Int) = a + (1 : Int) ∧ a = a ∧ b = b ∧ sortI l (s03 + (1 : Nat)) = l ∧ True) ∧
∀ (s3 : Nat),
lett (decide ((↑s3 : Int) + (1 : Int) < b)) fun (y4 : Bool) =>
lett ((↑s3 : Int) + (1 : Int) + (1 : Int)) fun (y5 : Int) =>
s3 ≤ l.length - (1 : Nat) →
(y4 = true →
(∃ (s06 : Nat × List Int),
InsIOk (sortI l ((↑s3 : Int) + (1 : Int)).toNat) ((↑s3 : Int) + (1 : Int)).toNat s06.1 s06.2 ∧
(↑s06.1 : Int) = (↑s3 : Int) + (1 : Int) ∧ a = a ∧ b = b ∧ (↑s3 : Int) + (1 : Int) = (↑s3 : Int) + (1 : Int) ∧ s06.2 = sortI l (s3 + (1 : Nat)) ∧ True) ∧
∀ (s6 : Nat × List Int),
lett (decide ((↑s6.1 : Int) > a)) fun (y7 : Bool) =>
lett (s6.2.getD (↑s6.1 : Int).toNat (0 : Int)) fun (y8 : Int) =>
lett (s6.2.getD ((↑s6.1 : Int) - (1 : Int)).toNat (0 : Int)) fun (y9 : Int) =>
lett (bif y7 then decide (y8 < y9) else false) fun (y10 : Bool) =>
lett (s6.2.set (↑s6.1 : Int).toNat y9) fun (y11 : List Int) =>
InsIOk (sortI l ((↑s3 : Int) + (1 : Int)).toNat) ((↑s3 : Int) + (1 : Int)).toNat s6.1 s6.2 →
(y7 = true → InB (↑s6.1 : Int) s6.2.length) ∧
(y7 = true → InR IntKind.i64 ((↑s6.1 : Int) - (1 : Int))) ∧
(y7 = true → InB ((↑s6.1 : Int) - (1 : Int)) s6.2.length) ∧
(y7 = true → True) ∧
(y10 = true →
InR IntKind.i64 ((↑s6.1 : Int) - (1 : Int)) ∧
InR IntKind.i64 ((↑s6.1 : Int) - (1 : Int)) ∧
InB ((↑s6.1 : Int) - (1 : Int)) s6.2.length ∧
InB (↑s6.1 : Int) s6.2.length ∧
InB (↑s6.1 : Int) s6.2.length ∧
InB ((↑s6.1 : Int) - (1 : Int)) y11.length ∧
InR IntKind.i64 ((↑s6.1 : Int) - (1 : Int)) ∧
∃ (s'12 : Nat × List Int),
InsIOk (sortI l ((↑s3 : Int) + (1 : Int)).toNat) ((↑s3 : Int) + (1 : Int)).toNat s'12.1 s'12.2 ∧
s'12.1 < s6.1 ∧
(↑s'12.1 : Int) = (↑s6.1 : Int) - (1 : Int) ∧
a = a ∧
b = b ∧ (↑s3 : Int) + (1 : Int) = (↑s3 : Int) + (1 : Int) ∧ s'12.2 = y11.set ((↑s6.1 : Int) - (1 : Int)).toNat y8 ∧ True) ∧
(y10 = false →
InR IntKind.i64 y5 ∧
∃ (s'12 : Nat),
s'12 ≤ l.length - (1 : Nat) ∧
l.length - s'12 < l.length - s3 ∧ (↑s'12 : Int) + (1 : Int) = y5 ∧ a = a ∧ b = b ∧ sortI l (s'12 + (1 : Nat)) = s6.2 ∧ True)) ∧
(y4 = false → sortI l (s3 + (1 : Nat)) = sortI l l.length ∧ True)) := by kernel_rfl
theorem b159 (l : List Int) (a b : Int) (h1 : a = 0) (h2 : b = (l.length : Int)) (hl : l.length ≤ 12) : obodyVC (ctxOf tab [(165, c165)]) Tryz.f159 c159 (a159 (l, a, b, ())) (l, a, b, ()) := by
 subst h1 h2
 rw [v159]
 simp only [true_and, and_true, eq_self, Int.toNat_natCast]
 refine ⟨inR64 (by omega) (by omega), ⟨0, by omega, by omega, rfl⟩, fun k => lett.mk fun y5 e5 => lett.mk fun y6 e6 => fun hk => ⟨fun h => ?_, fun h => ?_⟩⟩
 ·have h5 : (k : Int) + 1 < (l.length : Int) := by rw [h] at e5; exact of_decide_eq_true e5.symm
  have hn : ((k : Int) + 1).toNat = k + 1 := by omega
  rw [hn]
  refine ⟨⟨(k + 1, sortI l (k + 1)), ⟨rfl, by omega, by rw [sortI_len]; omega, rfl⟩, by omega, rfl⟩, fun s => lett.mk fun y8 e8 => lett.mk fun y9 e9 => lett.mk fun y10 e10 => lett.mk fun y11 e11 => lett.mk fun y12 e12 => fun ho => ?_⟩
  obtain ⟨j, m⟩ := s
  obtain ⟨i2, i3, i4, i5⟩ := ho
  have i2 : m.length = (sortI l (k + 1)).length := i2
  have i3 : j ≤ k + 1 := i3
  have i5 : insI j m = insI (k + 1) (sortI l (k + 1)) := i5
  have i2' : m.length = l.length := by rw [i2, sortI_len]
  have i4' : k + 1 < l.length := by omega
  have e8 : y8 = decide ((j : Int) > 0) := e8
  have e9 : y9 = m.getD j 0 := e9
  have e10 : y10 = m.getD ((j : Int) - 1).toNat 0 := e10
  have e12 : y12 = m.set j y10 := e12
  show (y8 = true → InB (j : Int) m.length) ∧ (y8 = true → InR IntKind.i64 ((j : Int) - 1)) ∧ (y8 = true → InB ((j : Int) - 1) m.length) ∧ _ ∧ _ ∧ _
  refine ⟨fun h8 => ⟨by omega, by omega⟩, fun h8 => inR64 (by omega) (by omega), fun h8 => ?_, fun h8 => trivial, fun h11 => ?_, fun h11 => ?_⟩
  ·rw [h8] at e8
   have := of_decide_eq_true e8.symm
   exact ⟨by omega, by omega⟩
  ·rw [e11] at h11
   cases h8 : y8 with
   | false => rw [h8] at h11; cases h11
   | true =>
    rw [h8] at h11 e8
    have h11 := of_decide_eq_true h11
    have h8 := of_decide_eq_true e8.symm
    obtain ⟨j', rfl⟩ : ∃ j', j = j' + 1 := ⟨j - 1, by omega⟩
    have hj : (((j' + 1 : Nat) : Int) - 1).toNat = j' := by omega
    rw [hj] at e10
    have hlen : y12.length = m.length := by rw [e12, List.length_set]
    show InR IntKind.i64 (((j' + 1 : Nat) : Int) - 1) ∧ _
    refine ⟨inR64 (by omega) (by omega), inR64 (by omega) (by omega), ⟨by show (0 : Int) ≤ ((j' + 1 : Nat) : Int) - 1; omega, by show ((j' + 1 : Nat) : Int) - 1 < (m.length : Int); omega⟩, ⟨by show (0 : Int) ≤ ((j' + 1 : Nat) : Int); omega, by show ((j' + 1 : Nat) : Int) < (m.length : Int); omega⟩, ⟨by show (0 : Int) ≤ ((j' + 1 : Nat) : Int); omega, by show ((j' + 1 : Nat) : Int) < (m.length : Int); omega⟩, ⟨by show (0 : Int) ≤ ((j' + 1 : Nat) : Int) - 1; omega, by show ((j' + 1 : Nat) : Int) - 1 < (y12.length : Int); omega⟩, inR64 (by omega) (by omega), (j', swapI m j'), ⟨?_, ?_, ?_, ?_⟩, ?_, ?_, ?_⟩
    ·show (swapI m j').length = _; rw [swapI_len]; exact i2
    ·show j' ≤ _; omega
    ·rw [sortI_len]; omega
    ·show insI j' (swapI m j') = _
     rw [← i5]
     show _ = insI (j' + 1) m
     conv => rhs; unfold insI
     rw [← e9, ← e10, decide_eq_true h11]
     rfl
    ·show j' < j' + 1; omega
    ·show (j' : Int) = ((j' + 1 : Nat) : Int) - 1; omega
    ·show swapI m j' = y12.set (((j' + 1 : Nat) : Int) - 1).toNat y9
     rw [hj, e12, e9, e10]
     rfl
  ·refine ⟨by rw [e6]; exact inR64 (by omega) (by omega), k + 1, by omega, by omega, by rw [e6]; omega, ?_⟩
   show insI (k + 1) (sortI l (k + 1)) = m
   rw [← i5]
   cases j with
   | zero => rfl
   | succ j' =>
    have hj : (((j' + 1 : Nat) : Int) - 1).toNat = j' := by omega
    rw [hj] at e10
    have h8 : y8 = true := by rw [e8]; exact decide_eq_true (by omega)
    rw [h8] at e11
    rw [h11] at e11
    unfold insI
    rw [← e9, ← e10]
    rw [cond_true] at e11
    rw [← e11]
    rfl
 ·have h5 : ¬ (k : Int) + 1 < (l.length : Int) := by rw [h] at e5; exact of_decide_eq_false e5.symm
  by_cases h0 : l.length = 0
  ·have hk : k = 0 := by omega
   rw [h0, hk]
   rfl
  ·have : k + 1 = l.length := by omega
   rw [this]
theorem ok159 : OOk Tryz.prog 159 c159 :=
 OOk.of' (l := [(165, c165)]) (A := a159) tabOk ⟨ok165, trivial⟩ Tryz.func159 (by kernel_rfl) (by kernel_rfl) fun x hw hp => b159 x.1 x.2.1 x.2.2.1 hp.1 hp.2.1 hp.2.2
theorem v156 (l : List Int) (a : Int) (b : Int) (m : Int) : obodyVC (ctxOf tab [(159, c159)]) Tryz.f156 c156 (a156 (l, a, b, m, ())) (l, a, b, m, ()) = (
lett (decide (b - a ≤ (12 : Int))) fun (y4 : Bool) =>
(∃ (s05 : Unit), True ∧ a = a ∧ b = b ∧ m = m ∧ true = true ∧ true = true ∧ l = l ∧ True) ∧
∀ (s5 : Unit),
True →
InR IntKind.i64 (b - a) ∧
(y4 = true → (a = (0 : Int) ∧ b = (↑l.length : Int) ∧ l.length ≤ (12 : Nat)) ∧ sortI l l.length = sortI l l.length ∧ True) ∧
(y4 = false → ((m == (0 : Int)) = true → False) ∧ ((m == (0 : Int)) = false → ((!true) = true → False) ∧ ((!true) = false → False)))) := by kernel_rfl
theorem b156 (l : List Int) (a b m : Int) (h1 : a = 0) (h2 : b = (l.length : Int)) (h3 : l.length ≤ 12) : obodyVC (ctxOf tab [(159, c159)]) Tryz.f156 c156 (a156 (l, a, b, m, ())) (l, a, b, m, ()) := by
 subst h1 h2
 rw [v156]
 refine lett.mk fun y5 e5 => ?_
 have h5 : y5 = true := by rw [e5]; exact decide_eq_true (by omega)
 simp only [true_and, and_true, eq_self]
 exact ⟨⟨(), trivial⟩, fun _ _ => ⟨inR64 (by omega) (by omega), fun _ => h3, fun h => by rw [h5] at h; cases h⟩⟩
theorem ok156 : OOk Tryz.prog 156 c156 :=
 OOk.of' (l := [(159, c159)]) (A := a156) tabOk ⟨ok159, trivial⟩ Tryz.func156 (by kernel_rfl) (by kernel_rfl) fun x hw hp => b156 x.1 x.2.1 x.2.2.1 x.2.2.2.1 hp.1 hp.2.1 hp.2.2
theorem v145s (l : List Int) : obodyVC (ctxOf tab [(55, c55), (156, c156)]) Tryz.f145 c145s noAnn (l, ()) = (
IntKind.u64.wrap (↑l.length : Int) ≤ (12 : Int) ∧ ((0 : Int) = (0 : Int) ∧ (↑l.length : Int) = (↑l.length : Int) ∧ l.length ≤ (12 : Nat)) ∧ sortI l l.length = sortI l l.length ∧ True) := by kernel_rfl
theorem b145s (l : List Int) (h3 : l.length ≤ 12) : obodyVC (ctxOf tab [(55, c55), (156, c156)]) Tryz.f145 c145s noAnn (l, ()) := by
 rw [v145s]
 refine ⟨?_, ⟨rfl, rfl, h3⟩, rfl, trivial⟩
 have : IntKind.u64.wrap (l.length : Int) = (l.length : Int) := wrap_u64 (by omega) (by omega)
 omega
theorem ok145s : OOk Tryz.prog 145 c145s :=
 OOk.of' (l := [(55, c55), (156, c156)]) (A := fun _ => noAnn) tabOk ⟨ok55, ok156, trivial⟩ Tryz.func145 (by kernel_rfl) (by kernel_rfl) fun x hw hp => b145s x.1 hp
theorem swapI_perm : ∀ (j : Nat) (l : List Int), j + 1 < l.length → (swapI l j).Perm l
 | _, [], h => by simp at h
 | 0, [x], h => by simp at h
 | 0, x :: y :: l, _ => by show (y :: x :: l).Perm _; exact .swap x y l
 | j + 1, x :: l, h => by
  have := swapI_perm j l (by simp at h; omega)
  have e : swapI (x :: l) (j + 1) = x :: swapI l j := by unfold swapI; simp
  rw [e]
  exact this.cons x
theorem insI_perm : ∀ (j : Nat) (l : List Int), j < l.length → (insI j l).Perm l
 | 0, l, _ => .refl l
 | j + 1, l, h => by
  unfold insI
  cases decide (l.getD (j + 1) 0 < l.getD j 0) with
  | true => rw [cond_true]; exact (insI_perm j _ (by rw [swapI_len]; omega)).trans (swapI_perm j l h)
  | false => exact .refl l
theorem sortI_perm (l : List Int) : ∀ (k : Nat), k ≤ l.length → (sortI l k).Perm l
 | 0, _ => .refl l
 | k + 1, h => (insI_perm k _ (by rw [sortI_len]; omega)).trans (sortI_perm l k (by omega))
theorem at_swapI (l : List Int) (j : Nat) (h : j + 1 < l.length) (i : Nat) : (swapI l j).getD i 0 = if i = j then l.getD (j + 1) 0 else if i = j + 1 then l.getD j 0 else l.getD i 0 := by
 unfold swapI
 simp only [List.getD_eq_getElem?_getD, List.getElem?_set, List.length_set]
 by_cases h1 : i = j
 ·subst h1
  simp [show i < l.length by omega]
 ·by_cases h2 : i = j + 1
  ·subst h2
   simp [h, h1]
  ·rw [if_neg (fun e => h1 e.symm), if_neg (fun e => h2 e.symm), if_neg h1, if_neg h2]
structure InsIInv (l : List Int) (j K : Nat) : Prop where
 rest : ∀ a b, a < b → b < K → a ≠ j → b ≠ j → l.getD a 0 ≤ l.getD b 0
 lt : ∀ b, j < b → b < K → l.getD j 0 < l.getD b 0
theorem insI_sorted : ∀ (j K : Nat) (l : List Int), j < K → K ≤ l.length → InsIInv l j K → ∀ a b, a < b → b < K → (insI j l).getD a 0 ≤ (insI j l).getD b 0
 | 0, K, l, _, _, hi, a, b, hab, hb => by
  show l.getD a 0 ≤ l.getD b 0
  by_cases h : a = 0
  ·subst h; exact Int.le_of_lt (hi.lt b (by omega) hb)
  ·exact hi.rest a b hab hb h (by omega)
 | j + 1, K, l, hj, hK, hi, a, b, hab, hb => by
  unfold insI
  cases h : decide (l.getD (j + 1) 0 < l.getD j 0) with
  | true =>
   have h := of_decide_eq_true h
   rw [cond_true]
   refine insI_sorted j K _ (by omega) (by rw [swapI_len]; exact hK) ⟨fun a b hab hb h1 h2 => ?_, fun b h1 hb => ?_⟩ a b hab hb
   ·rw [at_swapI l j (by omega), at_swapI l j (by omega), if_neg h1, if_neg h2]
    by_cases h3 : a = j + 1
    ·rw [if_pos h3, if_neg (by omega)]
     exact hi.rest j b (by omega) hb (by omega) (by omega)
    ·rw [if_neg h3]
     by_cases h4 : b = j + 1
     ·rw [if_pos h4]
      exact hi.rest a j (by omega) (by omega) h3 (by omega)
     ·rw [if_neg h4]
      exact hi.rest a b hab hb h3 h4
   ·rw [at_swapI l j (by omega), at_swapI l j (by omega), if_pos rfl, if_neg (by omega)]
    by_cases h4 : b = j + 1
    ·rw [if_pos h4]; exact h
    ·rw [if_neg h4]
     exact hi.lt b (by omega) hb
  | false =>
   have h : l.getD j 0 ≤ l.getD (j + 1) 0 := by have := of_decide_eq_false h; omega
   rw [cond_false]
   by_cases h3 : a = j + 1
   ·subst h3; exact Int.le_of_lt (hi.lt b hab hb)
   ·by_cases h4 : b = j + 1
    ·subst h4
     by_cases h5 : a = j
     ·subst h5; exact h
     ·exact Int.le_trans (hi.rest a j (by omega) (by omega) h3 (by omega)) h
    ·exact hi.rest a b hab hb h3 h4
theorem sortI_sorted (l : List Int) : ∀ (k : Nat), k ≤ l.length → ∀ a b, a < b → b < k → (sortI l k).getD a 0 ≤ (sortI l k).getD b 0
 | 0, _, a, b, _, hb => by omega
 | k + 1, h, a, b, hab, hb => by
  show (insI k (sortI l k)).getD a 0 ≤ _
  refine insI_sorted k (k + 1) _ (by omega) (by rw [sortI_len]; exact h) ⟨fun a b hab hb h1 h2 => ?_, fun b h1 h2 => by omega⟩ a b hab hb
  exact sortI_sorted l k (by omega) a b hab (by omega)
theorem leI_trans (a b c : Int) (h1 : leI a b = true) (h2 : leI b c = true) : leI a c = true := by
 unfold leI at *
 have h1 := of_decide_eq_true h1
 have h2 := of_decide_eq_true h2
 exact decide_eq_true (by omega)
theorem leI_total (a b : Int) : (leI a b || leI b a) = true := by
 unfold leI
 by_cases h : a ≤ b
 ·rw [decide_eq_true h]; rfl
 ·rw [decide_eq_true (show b ≤ a by omega), Bool.or_true]
theorem merge_of {l m : List Int} (hp : m.Perm l) (hs : m.Pairwise fun a b => a ≤ b) : m = l.mergeSort leI := by
 refine List.Perm.eq_of_pairwise (le := fun a b : Int => a ≤ b) (fun a b _ _ h1 h2 => by omega) hs ?_ (hp.trans (List.mergeSort_perm l leI).symm)
 exact (List.pairwise_mergeSort leI_trans leI_total l).imp fun h => of_decide_eq_true h
theorem sortI_merge (l : List Int) : sortI l l.length = l.mergeSort leI := by
 refine merge_of (sortI_perm l _ (Nat.le_refl _)) ?_
 rw [List.pairwise_iff_getElem]
 intro a b ha hb hab
 have := sortI_sorted l l.length (Nat.le_refl _) a b hab (by rw [sortI_len] at hb; exact hb)
 rw [getD_at 0 ha, getD_at 0 hb] at this
 exact this
theorem merge_perm {l m : List Int} (h : l.Perm m) : l.mergeSort leI = m.mergeSort leI :=
 merge_of ((List.mergeSort_perm l leI).trans h) ((List.pairwise_mergeSort leI_trans leI_total l).imp fun h => of_decide_eq_true h)
theorem ok145 : OOk Tryz.prog 145 c145 := ok145s
theorem sortI_same {l m : List Int} (h : l.Perm m) : sortI l l.length = sortI m m.length := by
 rw [sortI_merge, sortI_merge]
 exact merge_perm h
end YtpnnfimacblhgaaGreat
end Go.Proofs
end

section
set_option maxRecDepth 100000
set_option linter.unusedVariables false
set_option linter.unusedSimpArgs false
set_option maxHeartbeats 4000000
namespace Go.Proofs
open Go Go.Vc
namespace YtpnnfimacblhgaaGreat
theorem v42 (l : List (Int × Int)) : bodyVC (ctxOf tab []) Tryz.f42 c42 noAnn (l, ()) = (
∀ (b1 : Bool),
(b1 = true → l = []) →
(b1 = true → [] = l ∧ True) ∧
(b1 = false → roomFor ((List.replicate (0 : Nat) ((0 : Int), (0 : Int))).length + l.length) (16 : Nat) ∧ List.replicate (0 : Nat) ((0 : Int), (0 : Int)) ++ l = l ∧ True)) := by kernel_rfl
theorem ok42 : DOk Tryz.prog 42 c42 :=
 DOk.of' (l := []) (A := fun _ => noAnn) tabOk trivial Tryz.func42 (by kernel_rfl) (by kernel_rfl) fun x _ hp => by
  obtain ⟨l, u⟩ := x
  show bodyVC (ctxOf tab []) Tryz.f42 c42 noAnn (l, ())
  rw [v42]
  exact fun b hb => ⟨fun h => ⟨(hb h).symm, trivial⟩, fun h => ⟨clone_ok hp rfl (by decide), by first | exact ⟨rfl, trivial⟩ | trivial⟩⟩
theorem ok42d : DOk Tryz.prog 42 c42d := ok42.asData
theorem ok94d : DOk Tryz.prog 94 c94d := ok94.asData
theorem v144 (b : BookD) (e : Int) : bodyVC (ctxOf tab []) Tryz.f144 c144 noAnn (b, e, ()) = (
(bif decide (e ≥ (0 : Int)) then decide (e < b.1) else false) = bIn b e ∧ True) := by kernel_rfl
theorem ok144 : DOk Tryz.prog 144 c144 :=
 DOk.of' (l := []) (A := fun _ => noAnn) tabOk trivial Tryz.func144 (by kernel_rfl) (by kernel_rfl) fun x _ hp => by
  obtain ⟨b, e, u⟩ := x
  show bodyVC (ctxOf tab []) Tryz.f144 c144 noAnn (b, e, ())
  rw [v144]
  refine ⟨?_, trivial⟩
  unfold bIn
  show (bif decide (0 ≤ e) then _ else false) = _
  cases decide (0 ≤ e) <;> rfl
theorem lget_le {α : Type} {m : List (Int × List α)} (h : ∀ x ∈ m, x.2.length ≤ 1000) (o : Int) : (lget m o).length ≤ 1000 := by
 unfold lget
 cases hm : mget I m o with
 | none => exact Nat.zero_le _
 | some l => exact h _ (mem_of_mget intKey hm)
theorem v114 (b : BookD) (o : Int) : bodyVC (ctxOf tab []) Tryz.f114 c114 noAnn (b, o, ()) = (
lett ((↑((mget I b.2.1 o).getD []).length : Int) + (↑((mget I b.2.2.1 o).getD []).length : Int)) fun (y2 : Int) =>
lett (y2 + (↑((mget I b.2.2.2.2 o).getD []).length : Int)) fun (y3 : Int) => InR IntKind.i64 y2 ∧ InR IntKind.i64 y3 ∧ decide (y3 > (0 : Int)) = fHasB b o ∧ True) := by kernel_rfl
theorem b114 (b : BookD) (o : Int) (h : BookSmall b) : bodyVC (ctxOf tab []) Tryz.f114 c114 noAnn (b, o, ()) := by
 rw [v114]
 refine lett.mk fun y2 e2 => lett.mk fun y3 e3 => ?_
 have h1 := lget_le h.steps o
 have h2 := lget_le h.zone o
 have h3 := lget_le h.guards o
 have e2 : y2 = ((lget b.2.1 o).length : Int) + ((lget b.2.2.1 o).length : Int) := e2
 have e3 : y3 = y2 + ((lget b.2.2.2.2 o).length : Int) := e3
 refine ⟨inR64 (by omega) (by omega), inR64 (by omega) (by omega), ?_, trivial⟩
 unfold fHasB
 rw [e3, e2]
theorem ok114 : DOk Tryz.prog 114 c114 :=
 DOk.of' (l := []) (A := fun _ => noAnn) tabOk trivial Tryz.func114 (by kernel_rfl) (by kernel_rfl) fun x _ hp => b114 x.1 x.2.1 hp
theorem right_eq (b : BookD) (r : RoadD) : fRight b r = (!decide (r.2.2.2.1.length = 0) && (allTo (stepOkB b r) r.2.2.2.1.length && (r.2.2.2.2.2.2.1.all (zoneOkB b r) && allTo (needOkB b r) (r.2.2.2.2.1.length + r.2.2.2.2.2.1.length)))) := by unfold fRight; rfl
theorem steps_some (r : RoadD) {s : Nat} (hs : s ≤ r.2.2.2.1.length) (e : Int) : (mget I (stepsSeen r s) e).isSome = anyTo (fun j => (stepAt r.2.2.2.1 j).1 == e) s := by
 rw [mget_isSome]
 unfold stepsSeen
 rw [List.any_map]
 have : anyTo (fun j => (stepAt r.2.2.2.1 j).1 == e) s = (r.2.2.2.1.take s).any (fun x => x.1 == e) := anyTo_take zSt (fun x : StepD => x.1 == e) r.2.2.2.1 s hs
 rw [this]
 congr 1
 funext x
 show (e == x.1) = (x.1 == e)
 exact beqComm e x.1
theorem steps_seen (r : RoadD) {s : Nat} (hs : s ≤ r.2.2.2.1.length) (e : Int) : (mget I (stepsSeen r s) e).getD false = anyTo (fun j => (stepAt r.2.2.2.1 j).1 == e) s := by
 have h1 := steps_some r hs e
 cases hm : mget I (stepsSeen r s) e with
 | none => rw [hm] at h1; exact h1
 | some v =>
  rw [hm] at h1
  have hv := mem_of_mget intKey hm
  unfold stepsSeen at hv
  obtain ⟨x, _, hx⟩ := List.mem_map.1 hv
  have : v = true := (congrArg Prod.snd hx).symm
  rw [this]
  exact h1
theorem steps_put (r : RoadD) {s : Nat} (hs : s < r.2.2.2.1.length) (h : anyTo (fun j => (stepAt r.2.2.2.1 j).1 == (stepAt r.2.2.2.1 s).1) s = false) : stepsSeen r (s + 1) = mput I (stepsSeen r s) (stepAt r.2.2.2.1 s).1 true := by
 rw [mput_new intKey (by rw [steps_some r (by omega)]; exact h)]
 unfold stepsSeen
 rw [map_succ _ zSt hs]
 rfl
theorem elems_any (r : RoadD) (e : Int) : fMem (fElems r) e = anyTo (fun j => (stepAt r.2.2.2.1 j).1 == e) r.2.2.2.1.length := by
 have : anyTo (fun j => (stepAt r.2.2.2.1 j).1 == e) r.2.2.2.1.length = (r.2.2.2.1.take r.2.2.2.1.length).any (fun x => x.1 == e) := anyTo_take zSt (fun x : StepD => x.1 == e) r.2.2.2.1 _ (Nat.le_refl _)
 rw [this, List.take_length]
 unfold fMem fElems
 rw [List.any_map]
 rfl
theorem off_next (r : RoadD) {j : Nat} (hj : j < 2) : offN r (j + 1) = offN r j + (listN r j).length := by
 rcases (by omega : j = 0 ∨ j = 1) with rfl | rfl
 ·show r.2.2.2.2.1.length = 0 + r.2.2.2.2.1.length
  omega
 ·rfl
theorem off_two (r : RoadD) : offN r 2 = r.2.2.2.2.1.length + r.2.2.2.2.2.1.length := rfl
theorem all_len2 (r : RoadD) : (fNeedsAll r).length = r.2.2.2.2.1.length + r.2.2.2.2.2.1.length := by unfold fNeedsAll; rw [List.length_append]
theorem off_lt (r : RoadD) {j i : Nat} (hj : j < 2) (hi : i < (listN r j).length) : offN r j + i < (fNeedsAll r).length := by
 rw [all_len2]
 rcases (by omega : j = 0 ∨ j = 1) with rfl | rfl
 ·have hi : i < r.2.2.2.2.1.length := hi
  show 0 + i < _
  omega
 ·have hi : i < r.2.2.2.2.2.1.length := hi
  show r.2.2.2.2.1.length + i < _
  omega
theorem need_at (r : RoadD) {j i : Nat} (hj : j < 2) (hi : i < (listN r j).length) : needAt r (offN r j + i) = (listN r j).getD i (0, 0) := by
 unfold needAt fNeedsAll
 rcases (by omega : j = 0 ∨ j = 1) with rfl | rfl
 ·have hi : i < r.2.2.2.2.1.length := hi
  show (r.2.2.2.2.1 ++ r.2.2.2.2.2.1).getD (0 + i) (0, 0) = r.2.2.2.2.1.getD i (0, 0)
  rw [Nat.zero_add, List.getD_eq_getElem?_getD, List.getElem?_append_left hi, ← List.getD_eq_getElem?_getD]
 ·show (r.2.2.2.2.1 ++ r.2.2.2.2.2.1).getD (r.2.2.2.2.1.length + i) (0, 0) = r.2.2.2.2.2.1.getD i (0, 0)
  rw [List.getD_eq_getElem?_getD, List.getElem?_append_right (by omega), Nat.add_sub_cancel_left, ← List.getD_eq_getElem?_getD]
theorem pair_at (r : RoadD) {j : Nat} (hj : j < 2) : ([r.2.2.2.2.1, r.2.2.2.2.2.1] : List (List NeedD)).getD j [] = listN r j := by
 rcases (by omega : j = 0 ∨ j = 1) with rfl | rfl
 ·rfl
 ·rfl
theorem clash_comm (x y : NeedD) : clash x y = clash y x := by
 unfold clash
 rw [beqComm x.1 y.1, beqComm x.2 y.2]
theorem pos_spec (r : RoadD) : ∀ (K : Nat) (e : Int), (∀ q, mget I (posFold r K) e = some q → ∃ j, j < K ∧ needAt r j = (e, q)) ∧ (mget I (posFold r K) e = none → ∀ j, j < K → (needAt r j).1 ≠ e)
 | 0, e => ⟨fun q h => (by cases h), fun _ j hj => (by omega)⟩
 | K + 1, e => by
  obtain ⟨i1, i2⟩ := pos_spec r K e
  have hp : mget I (posFold r (K + 1)) e = bif Ty.keq I e (needAt r K).1 then some (needAt r K).2 else mget I (posFold r K) e := mget_put intKey _ _ _ _
  rw [hp, keqI]
  cases hk : (e == (needAt r K).1) with
  | true =>
   refine ⟨fun q hq => ⟨K, by omega, ?_⟩, fun h => (by cases h)⟩
   have hq : (needAt r K).2 = q := by simpa using hq
   rw [← hq, eq_of_beq hk]
  | false =>
   refine ⟨fun q hq => ?_, fun h j hj => ?_⟩
   ·obtain ⟨j, hj, e'⟩ := i1 q hq
    exact ⟨j, by omega, e'⟩
   ·by_cases hjk : j = K
    ·subst hjk
     intro e'
     rw [e'] at hk
     simp at hk
    ·exact i2 h j (by omega)
theorem need_check {b : BookD} {r : RoadD} {K : Nat} (h : allTo (needOkB b r) K = true) :
  (bif (mget I (posFold r K) (needAt r K).1).isSome then (mget I (posFold r K) (needAt r K).1).getD 0 != (needAt r K).2 else false) = anyTo (fun j => clash (needAt r j) (needAt r K)) K := by
 obtain ⟨i1, i2⟩ := pos_spec r K (needAt r K).1
 cases hm : mget I (posFold r K) (needAt r K).1 with
 | none =>
  symm
  refine anyTo_none.2 fun j hj => ?_
  unfold clash
  rw [beq_false_of_ne (i2 hm j hj)]
  rfl
 | some q =>
  obtain ⟨j0, hj0, e0⟩ := i1 q hm
  show (q != (needAt r K).2) = _
  cases hq : (q == (needAt r K).2) with
  | false =>
   rw [bneB, hq]
   symm
   refine anyTo_yes hj0 ?_
   unfold clash
   rw [e0]
   show ((needAt r K).1 == (needAt r K).1 && !(q == (needAt r K).2)) = true
   rw [hq]
   simp
  | true =>
   rw [bneB, hq]
   symm
   have hq := eq_of_beq hq
   refine anyTo_none.2 fun j hj => ?_
   cases hc : clash (needAt r j) (needAt r K) with
   | false => rfl
   | true =>
    exfalso
    have hjj : clash (needAt r j) (needAt r j0) = true := by
     rw [e0, hq]
     exact hc
    have no : ∀ a c, a < c → c < K → clash (needAt r a) (needAt r c) = true → False := fun a c hac hc' hcl => by
     have := allTo_iff.1 h c hc'
     unfold needOkB at this
     rw [Bool.and_eq_true, Bool.and_eq_true] at this
     have h3 : anyTo (fun j => clash (needAt r j) (needAt r c)) c = false := by simpa using this.2.2
     have := anyTo_none.1 h3 a hac
     rw [hcl] at this
     cases this
    rcases Nat.lt_trichotomy j j0 with hlt | heq | hlt
    ·exact no j j0 hlt hj0 hjj
    ·subst heq
     unfold clash at hjj
     simp at hjj
    ·exact no j0 j hlt hj (by rw [clash_comm]; exact hjj)
theorem v115 (b : BookD) (r : RoadD) : bodyVC (ctxOf tab [(144, c144)]) Tryz.f115 c115 (a115 (b, r, ())) (b, r, ()) = (
lett ((↑r.2.2.2.1.length : Int) == (0 : Int)) fun (y2 : Bool) =>
lett (((List.replicate (2 : Nat) ([] : List (Int × Int))).set (0 : Nat) r.2.2.2.2.1).set (1 : Nat) r.2.2.2.2.2.1) fun (y3 : List (List (Int × Int))) =>
(y2 = true → false = fRight b r ∧ True) ∧
(y2 = false →
(∃ (s04 : Nat),
(s04 ≤ r.2.2.2.1.length ∧ allTo (stepOkB b r) s04 = true) ∧
(↑s04 : Int) = (0 : Int) ∧
[b] = [b] ∧
(0 : Nat) = (0 : Nat) ∧
r.2.2.2.1 = r.2.2.2.1 ∧
(↑r.2.2.2.1.length : Int) = (↑r.2.2.2.1.length : Int) ∧
stepsSeen r s04 = [] ∧
keepP r (True)) ∧
∀ (s4 : Nat),
lett (decide ((↑s4 : Int) < (↑r.2.2.2.1.length : Int))) fun (y5 : Bool) =>
lett (r.2.2.2.1.getD (↑s4 : Int).toNat ((0 : Int), (0 : Int), (0 : Int))).1 fun (y6 : Int) =>
lett (bif !bIn b y6 then true else (mget I (stepsSeen r s4) y6).getD false) fun (y7 : Bool) =>
s4 ≤ r.2.2.2.1.length ∧ allTo (stepOkB b r) s4 = true →
(y5 = true →
InB (↑s4 : Int) r.2.2.2.1.length ∧
True ∧
(y7 = true → false = fRight b r ∧ True) ∧
(y7 = false →
InR IntKind.i64 ((↑s4 : Int) + (1 : Int)) ∧
∃ (s'8 : Nat),
(s'8 ≤ r.2.2.2.1.length ∧ allTo (stepOkB b r) s'8 = true) ∧
r.2.2.2.1.length - s'8 < r.2.2.2.1.length - s4 ∧
(↑s'8 : Int) = (↑s4 : Int) + (1 : Int) ∧
[b] = [b] ∧
(0 : Nat) = (0 : Nat) ∧
r.2.2.2.1 = r.2.2.2.1 ∧
(↑r.2.2.2.1.length : Int) = (↑r.2.2.2.1.length : Int) ∧
stepsSeen r s'8 = mput I (stepsSeen r s4) y6 true ∧
keepP r (True))) ∧
(y5 = false →
(∃ (s08 : Nat),
(s08 ≤ r.2.2.2.2.2.2.1.length ∧ (List.take s08 r.2.2.2.2.2.2.1).all (zoneOkB b r) = true) ∧
(↑s08 : Int) = (0 : Int) ∧
[b] = [b] ∧
(0 : Nat) = (0 : Nat) ∧
r.2.2.2.2.2.2.1 = r.2.2.2.2.2.2.1 ∧
(↑r.2.2.2.2.2.2.1.length : Int) = (↑r.2.2.2.2.2.2.1.length : Int) ∧
keepP r (stepsSeen r s4 = stepsSeen r s4 ∧ True)) ∧
∀ (s8 : Nat),
lett (decide ((↑s8 : Int) < (↑r.2.2.2.2.2.2.1.length : Int))) fun (y9 : Bool) =>
lett (r.2.2.2.2.2.2.1.getD (↑s8 : Int).toNat (0 : Int)) fun (y10 : Int) =>
lett (bif !bIn b y10 then true else (mget I (stepsSeen r s4) y10).getD false) fun (y11 : Bool) =>
s8 ≤ r.2.2.2.2.2.2.1.length ∧ (List.take s8 r.2.2.2.2.2.2.1).all (zoneOkB b r) = true →
(y9 = true →
InB (↑s8 : Int) r.2.2.2.2.2.2.1.length ∧
True ∧
(y11 = true → false = fRight b r ∧ True) ∧
(y11 = false →
InR IntKind.i64 ((↑s8 : Int) + (1 : Int)) ∧
∃ (s'12 : Nat),
(s'12 ≤ r.2.2.2.2.2.2.1.length ∧ (List.take s'12 r.2.2.2.2.2.2.1).all (zoneOkB b r) = true) ∧
r.2.2.2.2.2.2.1.length - s'12 < r.2.2.2.2.2.2.1.length - s8 ∧
(↑s'12 : Int) = (↑s8 : Int) + (1 : Int) ∧
[b] = [b] ∧
(0 : Nat) = (0 : Nat) ∧
r.2.2.2.2.2.2.1 = r.2.2.2.2.2.2.1 ∧
(↑r.2.2.2.2.2.2.1.length : Int) = (↑r.2.2.2.2.2.2.1.length : Int) ∧
keepP r (stepsSeen r s4 = stepsSeen r s4 ∧ True))) ∧
(y9 = false →
(∃ (s012 : Nat),
(s012 ≤ (2 : Nat) ∧ allTo (needOkB b r) (offN r s012) = true) ∧
(↑s012 : Int) = (0 : Int) ∧ [b] = [b] ∧ (0 : Nat) = (0 : Nat) ∧ (↑y3.length : Int) = (↑y3.length : Int) ∧ posFold r (offN r s012) = [] ∧ y3 = y3 ∧ True) ∧
∀ (s12 : Nat),
lett (decide ((↑s12 : Int) < (↑y3.length : Int))) fun (y13 : Bool) =>
lett (listN r (↑s12 : Int).toNat).length fun (y14 : Nat) =>
lett (y3.getD (↑s12 : Int).toNat []) fun (y15 : List (Int × Int)) =>
s12 ≤ (2 : Nat) ∧ allTo (needOkB b r) (offN r s12) = true →
(y13 = true →
InB (↑s12 : Int) y3.length ∧
(∃ (s016 : Nat),
(s016 ≤ y14 ∧ allTo (needOkB b r) (offN r (↑s12 : Int).toNat + s016) = true) ∧
(↑s016 : Int) = (0 : Int) ∧
[b] = [b] ∧
(0 : Nat) = (0 : Nat) ∧
(↑y3.length : Int) = (↑y3.length : Int) ∧
(↑s12 : Int) = (↑s12 : Int) ∧
y15 = y15 ∧
(↑y15.length : Int) = (↑y15.length : Int) ∧
posFold r (offN r (↑s12 : Int).toNat + s016) = posFold r (offN r s12) ∧ y3 = y3 ∧ True) ∧
∀ (s16 : Nat),
lett (offN r (↑s12 : Int).toNat + s16) fun (y17 : Nat) =>
lett (decide ((↑s16 : Int) < (↑y15.length : Int))) fun (y18 : Bool) =>
lett (y15.getD (↑s16 : Int).toNat ((0 : Int), (0 : Int))) fun (y19 : Int × Int) =>
lett (mget I (posFold r y17) y19.1) fun (y20 : Option Int) =>
lett
(bif bif !bIn b y19.1 then true else bif y19.2 != (1 : Int) then y19.2 != (2 : Int) else false then true
else bif y20.isSome then y20.getD (0 : Int) != y19.2 else false)
fun (y21 : Bool) =>
s16 ≤ y14 ∧ allTo (needOkB b r) y17 = true →
(y18 = true →
InB (↑s16 : Int) y15.length ∧
True ∧
(y21 = true → false = fRight b r ∧ True) ∧
(y21 = false →
InR IntKind.i64 ((↑s16 : Int) + (1 : Int)) ∧
∃ (s'22 : Nat),
(s'22 ≤ y14 ∧ allTo (needOkB b r) (offN r (↑s12 : Int).toNat + s'22) = true) ∧
y14 - s'22 < y14 - s16 ∧
(↑s'22 : Int) = (↑s16 : Int) + (1 : Int) ∧
[b] = [b] ∧
(0 : Nat) = (0 : Nat) ∧
(↑y3.length : Int) = (↑y3.length : Int) ∧
(↑s12 : Int) = (↑s12 : Int) ∧
y15 = y15 ∧
(↑y15.length : Int) = (↑y15.length : Int) ∧
posFold r (offN r (↑s12 : Int).toNat + s'22) =
mput I (posFold r y17) y19.1 y19.2 ∧
y3 = y3 ∧ True)) ∧
(y18 = false →
InR IntKind.i64 ((↑s12 : Int) + (1 : Int)) ∧
∃ (s'22 : Nat),
(s'22 ≤ (2 : Nat) ∧ allTo (needOkB b r) (offN r s'22) = true) ∧
(2 : Nat) - s'22 < (2 : Nat) - s12 ∧
(↑s'22 : Int) = (↑s12 : Int) + (1 : Int) ∧
[b] = [b] ∧
(0 : Nat) = (0 : Nat) ∧
(↑y3.length : Int) = (↑y3.length : Int) ∧ posFold r (offN r s'22) = posFold r y17 ∧ y3 = y3 ∧ True)) ∧
(y13 = false → true = fRight b r ∧ True))))) := by kernel_rfl
theorem b115 (b : BookD) (r : RoadD) (h : roadSmall r) (hz : r.2.2.2.2.2.2.1.length ≤ maxLenI) : bodyVC (ctxOf tab [(144, c144)]) Tryz.f115 c115 (a115 (b, r, ())) (b, r, ()) := by
 rw [v115, right_eq]
 obtain ⟨l1, l2, l3⟩ := h
 refine lett.mk fun y2 e2 => lett.mk fun y3 e3 => ?_
 have e3 : y3 = [r.2.2.2.2.1, r.2.2.2.2.2.1] := e3
 subst e3
 rw [eqN' _ 0 0 rfl] at e2
 rw [← e2]
 simp only [keepP_eq, true_and, and_true, eq_self]
 refine ⟨fun h => by rw [h]; rfl, fun h => ⟨⟨0, ⟨by omega, rfl⟩, by omega, rfl⟩, fun s => lett.mk fun y5 e5 => lett.mk fun y6 e6 => lett.mk fun y7 e7 => ?_⟩⟩
 rw [h]
 rintro ⟨h1, h2⟩
 rw [Int.toNat_natCast] at e6
 have e6 : y6 = (stepAt r.2.2.2.1 s).1 := e6
 refine ⟨fun h5 => ?_, fun h5 => ?_⟩
 ·have hs := lt_of_y e5 h5
  have h7 : stepOkB b r s = !y7 := by
   rw [e7, steps_seen r (by omega), e6]
   unfold stepOkB
   cases bIn b (stepAt r.2.2.2.1 s).1 <;> rfl
  refine ⟨⟨by omega, by omega⟩, fun hy => ?_, fun hy => ⟨inR64 (by omega) (by omega), s + 1, ⟨by omega, allTo_succ h2 (by rw [h7, hy]; rfl)⟩, by omega, by omega, ?_⟩⟩
  ·rw [allTo_no hs (by rw [h7, hy]; rfl)]
   rfl
  ·rw [e6]
   refine steps_put r hs ?_
   rw [hy] at h7
   unfold stepOkB at h7
   have h7 : (bIn b (stepAt r.2.2.2.1 s).1 && !anyTo (fun j => (stepAt r.2.2.2.1 j).1 == (stepAt r.2.2.2.1 s).1) s) = true := h7
   rw [Bool.and_eq_true] at h7
   simpa using h7.2
 ·have hs := le_of_y e5 h5
  have : s = r.2.2.2.1.length := by omega
  subst this
  rw [h2]
  refine ⟨⟨0, ⟨by omega, by simp⟩, by omega⟩, fun t => lett.mk fun y9 e9 => lett.mk fun y10 e10 => lett.mk fun y11 e11 => ?_⟩
  rintro ⟨h3, h4⟩
  rw [Int.toNat_natCast] at e10
  refine ⟨fun h9 => ?_, fun h9 => ?_⟩
  ·have ht := lt_of_y e9 h9
   have h11 : zoneOkB b r (r.2.2.2.2.2.2.1.getD t 0) = !y11 := by
    rw [← e10, e11, steps_seen r (Nat.le_refl _)]
    unfold zoneOkB
    rw [elems_any]
    cases bIn b y10 <;> rfl
   refine ⟨⟨by omega, by omega⟩, fun hy => ?_, fun hy => ⟨inRlen ht hz, t + 1, ⟨by omega, all_succ 0 ht h4 (by rw [h11, hy]; rfl)⟩, by omega, by omega⟩⟩
   ·rw [all_no (s := t) 0 ht (by rw [h11, hy]; rfl)]
    rfl
  ·have ht := le_of_y e9 h9
   rw [all_full ht h4]
   refine ⟨⟨0, ⟨by omega, rfl⟩, by omega, rfl⟩, fun j => lett.mk fun y13 e13 => lett.mk fun y14 e14 => lett.mk fun y15 e15 => ?_⟩
   rintro ⟨h5, h6⟩
   rw [Int.toNat_natCast] at e14 e15
   rw [Int.toNat_natCast]
   refine ⟨fun h13 => ?_, fun h13 => ?_⟩
   ·have hj : j < 2 := lt_of_y (b := 2) e13 h13
    rw [pair_at r hj] at e15
    have e14' : y14 = y15.length := by rw [e14, e15]
    have hlen : y15.length ≤ 1000 := by
     rw [e15]
     rcases (by omega : j = 0 ∨ j = 1) with rfl | rfl
     ·exact l2
     ·exact l3
    refine ⟨⟨by omega, by show (j : Int) < 2; omega⟩, ⟨0, ⟨by omega, h6⟩, by omega, rfl⟩, fun i => lett.mk fun y17 e17 => lett.mk fun y18 e18 => lett.mk fun y19 e19 => lett.mk fun y20 e20 => lett.mk fun y21 e21 => ?_⟩
    rintro ⟨h7, h8⟩
    rw [Int.toNat_natCast] at e19
    refine ⟨fun h18 => ?_, fun h18 => ?_⟩
    ·have hi := lt_of_y e18 h18
     have hn : needAt r y17 = y19 := by rw [e17, e19, e15]; exact need_at r hj (by rw [← e15]; exact hi)
     have hlt : y17 < r.2.2.2.2.1.length + r.2.2.2.2.2.1.length := by
      have := off_lt r hj (i := i) (by rw [← e15]; exact hi)
      rw [all_len2] at this
      omega
     have h21 : needOkB b r y17 = !y21 := by
      have hc := need_check h8
      rw [hn] at hc
      rw [e21, e20, hc]
      unfold needOkB
      rw [hn]
      cases bIn b y19.1 <;> cases hx : (y19.2 == 1) <;> cases hz : (y19.2 == 2) <;> simp [hx, hz, bne]
     refine ⟨⟨by omega, by omega⟩, fun hy => ?_, fun hy => ⟨inR64 (by omega) (by omega), i + 1, ⟨by omega, ?_⟩, by omega, by omega, ?_⟩⟩
     ·rw [allTo_no hlt (by rw [h21, hy]; rfl)]
      rfl
     ·rw [← Nat.add_assoc, ← e17]
      exact allTo_succ h8 (by rw [h21, hy]; rfl)
     ·rw [← Nat.add_assoc, ← e17, ← hn]
      rfl
    ·have hi := le_of_y e18 h18
     have ho : offN r (j + 1) = y17 := by rw [off_next r hj, e17, ← e15]; omega
     exact ⟨inR64 (by omega) (by omega), j + 1, ⟨by omega, by rw [ho]; exact h8⟩, by omega, by omega, by rw [ho]⟩
   ·have hj : 2 ≤ j := le_of_y (b := 2) e13 h13
    have : j = 2 := by omega
    subst this
    rw [off_two] at h6
    rw [h6]
    rfl
theorem ok115 : DOk Tryz.prog 115 c115 :=
 DOk.of' (l := [(144, c144)]) (A := a115) tabOk ⟨ok144, trivial⟩ Tryz.func115 (by kernel_rfl) (by kernel_rfl) fun x hw hp => b115 x.1 x.2.1 hp hw.2.1.2.2.2.2.2.2.1.1
theorem keys_app (e : Int) (l : List (Int × List Int)) (x : Int × List Int) : zoneKeys e (l ++ [x]) = zoneKeys e l ++ (bif fMem x.2 e then [x.1] else []) := by
 unfold zoneKeys
 rw [List.filter_append, List.map_append]
 congr 1
 cases h : fMem x.2 e <;> simp [h]
theorem keys_perm (e : Int) {l m : List (Int × List Int)} (h : l.Perm m) : (zoneKeys e l).Perm (zoneKeys e m) := (h.filter _).map _
theorem keys_few {b : BookD} {e : Int} (h : fewZones b e) {todo done : List (Int × List Int)} (hp : parted b.2.2.1 (todo, done)) : (zoneKeys e done).length ≤ 12 := by
 have := (keys_perm e hp).length_eq
 unfold fewZones at h
 have h2 : zoneKeys e (done ++ todo) = zoneKeys e done ++ zoneKeys e todo := by unfold zoneKeys; rw [List.filter_append, List.map_append]
 rw [this, h2, List.length_append] at h
 omega
theorem v116 (b : BookD) (e : Int) : bodyVC (ctxOf tab [(44, c44), (145, c145)]) Tryz.f116 c116 (a116 (b, e, ())) (b, e, ()) = (
(∃ (s02 : List (Int × List Int) × List (Int × List Int)), parted b.2.2.1 s02 ∧ [b] = [b] ∧ (0 : Nat) = (0 : Nat) ∧ e = e ∧ s02.1 = b.2.2.1 ∧ zoneKeys e s02.2 = [] ∧ True) ∧
∀ (s2 : List (Int × List Int) × List (Int × List Int)),
parted b.2.2.1 s2 →
(s2.1 = [] → (false = true → False) ∧ (false = false → (zoneKeys e s2.2).length ≤ (12 : Nat) ∧ sortI (zoneKeys e s2.2) (zoneKeys e s2.2).length = fZones b e ∧ True)) ∧
∀ (x3 : Int × List Int),
lett ((List.replicate (1 : Nat) (0 : Int)).set (0 : Nat) x3.1) fun (y4 : List Int) =>
∀ (rest5 : List (Int × List Int)),
s2.1.Perm (x3 :: rest5) →
(true = true →
True ∧
(fMem x3.2 e = true →
roomFor ((zoneKeys e s2.2).length + y4.length) (8 : Nat) ∧
∃ (s'6 : List (Int × List Int) × List (Int × List Int)),
parted b.2.2.1 s'6 ∧
s'6.1.length < s2.1.length ∧ [b] = [b] ∧ (0 : Nat) = (0 : Nat) ∧ e = e ∧ s'6.1 = rest5 ∧ zoneKeys e s'6.2 = zoneKeys e s2.2 ++ y4 ∧ True) ∧
(fMem x3.2 e = false →
∃ (s'6 : List (Int × List Int) × List (Int × List Int)),
parted b.2.2.1 s'6 ∧ s'6.1.length < s2.1.length ∧ [b] = [b] ∧ (0 : Nat) = (0 : Nat) ∧ e = e ∧ s'6.1 = rest5 ∧ zoneKeys e s'6.2 = zoneKeys e s2.2 ∧ True)) ∧
(true = false → (zoneKeys e s2.2).length ≤ (12 : Nat) ∧ sortI (zoneKeys e s2.2) (zoneKeys e s2.2).length = fZones b e ∧ True)) := by kernel_rfl
theorem b116 (b : BookD) (e : Int) (h : fewZones b e) : bodyVC (ctxOf tab [(44, c44), (145, c145)]) Tryz.f116 c116 (a116 (b, e, ())) (b, e, ()) := by
 rw [v116]
 simp only [true_and, and_true, eq_self]
 have stop : ∀ s : List (Int × List Int) × List (Int × List Int), parted b.2.2.1 s → s.1 = [] → (zoneKeys e s.2).length ≤ 12 ∧ sortI (zoneKeys e s.2) (zoneKeys e s.2).length = fZones b e := fun s hs h0 => by
  refine ⟨keys_few h (todo := s.1) (done := s.2) hs, ?_⟩
  unfold fZones
  have hs : b.2.2.1.Perm (s.2 ++ s.1) := hs
  rw [h0, List.append_nil] at hs
  exact (sortI_same (keys_perm e hs)).symm
 refine ⟨⟨(b.2.2.1, []), .refl _, rfl, rfl⟩, fun s hs => ⟨fun h0 => ⟨fun h => Bool.noConfusion h, fun _ => stop s hs h0⟩, fun x => lett.mk fun y4 e4 => fun rest hp => ⟨fun _ => ⟨fun hm => ?_, fun hm => ?_⟩, fun h => Bool.noConfusion h⟩⟩⟩
 all_goals
  have hs' : parted b.2.2.1 (rest, s.2 ++ [x]) := by
   have hs : b.2.2.1.Perm (s.2 ++ s.1) := hs
   show b.2.2.1.Perm (s.2 ++ [x] ++ rest)
   rw [List.append_assoc]
   exact hs.trans (hp.append_left s.2)
 ·refine ⟨roomB ?_ (by omega), (rest, s.2 ++ [x]), hs', ?_, rfl, ?_⟩
  ·have := keys_few h (todo := s.1) (done := s.2) hs
   rw [e4]
   show _ + 1 ≤ _
   omega
  ·rw [hp.length_eq]
   exact Nat.lt_succ_self _
  ·rw [keys_app, hm, e4]
   rfl
 ·refine ⟨(rest, s.2 ++ [x]), hs', ?_, rfl, ?_⟩
  ·rw [hp.length_eq]
   exact Nat.lt_succ_self _
  ·rw [keys_app, hm]
   exact List.append_nil _
theorem ok116 : DOk Tryz.prog 116 c116 :=
 DOk.of' (l := [(44, c44), (145, c145)]) (A := a116) tabOk ⟨ok44, ok145, trivial⟩ Tryz.func116 (by kernel_rfl) (by kernel_rfl) fun x hw hp => b116 x.1 x.2.1 hp
theorem held_some {b : BookD} {e : Int} (h : heldOne b e) {l : List (Int × List NeedD)} (hl : ∀ x ∈ l, x ∈ b.2.2.2.1) {x : Int × List NeedD} (hx : x ∈ l) {u : NeedD} (hu : heldOf b x.1 e = some u) : posHeld b e l = u.2 := by
 unfold posHeld
 cases hf : l.find? (holds b e) with
 | none =>
  have := List.find?_eq_none.1 hf x hx
  unfold holds at this
  rw [hu] at this
  simp at this
 | some y =>
  have hy := List.find?_some hf
  unfold holds at hy
  cases hv : heldOf b y.1 e with
  | none => rw [hv] at hy; cases hy
  | some v =>
   show ((heldOf b y.1 e).getD (0, 0)).2 = _
   rw [hv]
   exact h y (hl y (List.mem_of_find?_eq_some hf)) x (hl x hx) v u hv hu
theorem held_zero {b : BookD} {e : Int} {l : List (Int × List NeedD)} (h : ∀ x ∈ l, holds b e x = false) : posHeld b e l = 0 := by
 unfold posHeld
 rw [List.find?_eq_none.2 fun x hx => by rw [h x hx]; simp]
theorem held_perm {b : BookD} {e : Int} (h : heldOne b e) {l m : List (Int × List NeedD)} (hp : l.Perm m) (hm : ∀ x ∈ m, x ∈ b.2.2.2.1) : posHeld b e l = posHeld b e m := by
 cases hf : m.find? (holds b e) with
 | none =>
  have h0 : ∀ x ∈ m, holds b e x = false := fun x hx => by simpa using List.find?_eq_none.1 hf x hx
  rw [held_zero h0, held_zero fun x hx => h0 x (hp.mem_iff.1 hx)]
 | some y =>
  have hy := List.find?_some hf
  have my := List.mem_of_find?_eq_some hf
  unfold holds at hy
  cases hv : heldOf b y.1 e with
  | none => rw [hv] at hy; cases hy
  | some v => rw [held_some h hm my hv, held_some h (fun x hx => hm x (hp.mem_iff.1 hx)) (hp.mem_iff.2 my) hv]
theorem held_app {b : BookD} {e : Int} {l : List (Int × List NeedD)} {x : Int × List NeedD} (hx : holds b e x = false) : posHeld b e (l ++ [x]) = posHeld b e l := by
 unfold posHeld
 rw [List.find?_append]
 cases l.find? (holds b e) with
 | some y => rfl
 | none => simp [hx]
theorem v117 (b : BookD) (e : Int) : bodyVC (ctxOf tab [(42, c42)]) Tryz.f117 c117 (a117 (b, e, ())) (b, e, ()) = (
(∃ (s02 : List (Int × List NeedD) × List (Int × List NeedD)),
parted b.2.2.2.1 s02 ∧
posHeld b e s02.2 = (0 : Int) ∧ (↑(List.filter (holds b e) s02.2).length : Int) = (0 : Int) ∧ [b] = [b] ∧ (0 : Nat) = (0 : Nat) ∧ e = e ∧ s02.1 = b.2.2.2.1 ∧ True) ∧
∀ (s2 : List (Int × List NeedD) × List (Int × List NeedD)),
lett ((↑(List.filter (holds b e) s2.2).length : Int) + (1 : Int)) fun (y3 : Int) =>
parted b.2.2.2.1 s2 →
(s2.1 = [] → (false = true → False) ∧ (false = false → posHeld b e s2.2 = (fHeld b e).1 ∧ (↑(List.filter (holds b e) s2.2).length : Int) = (fHeld b e).2 ∧ True)) ∧
∀ (x4 : Int × List (Int × Int)),
lett ((mget I b.2.2.2.1 x4.1).getD []) fun (y5 : List (Int × Int)) =>
lett ((mget I b.2.2.2.2 x4.1).getD []) fun (y6 : List (Int × Int)) =>
∀ (rest7 : List (Int × List (Int × Int))),
s2.1.Perm (x4 :: rest7) →
(true = true →
shortL y5 ∧
roomFor (y5.length + y6.length) (16 : Nat) ∧
(∃ (s08 : Nat),
(s08 ≤ (needsOf b x4.1).length ∧ ((List.take s08 (needsOf b x4.1)).any fun (n : NeedD) => n.1 == e) = false) ∧
(↑s08 : Int) = (0 : Int) ∧
[b] = [b] ∧
(0 : Nat) = (0 : Nat) ∧
e = e ∧
posHeld b e s2.2 = posHeld b e s2.2 ∧
(↑(List.filter (holds b e) s2.2).length : Int) = (↑(List.filter (holds b e) s2.2).length : Int) ∧
x4.1 = x4.1 ∧ (↑(y5 ++ y6).length : Int) = (↑(y5 ++ y6).length : Int) ∧ rest7 = rest7 ∧ y5 ++ y6 = y5 ++ y6 ∧ True) ∧
∀ (s8 : Nat),
lett (decide ((↑s8 : Int) < (↑(y5 ++ y6).length : Int))) fun (y9 : Bool) =>
lett ((y5 ++ y6).getD (↑s8 : Int).toNat ((0 : Int), (0 : Int))) fun (y10 : Int × Int) =>
s8 ≤ (needsOf b x4.1).length ∧ ((List.take s8 (needsOf b x4.1)).any fun (n : NeedD) => n.1 == e) = false →
(y9 = true →
InB (↑s8 : Int) (y5 ++ y6).length ∧
((y10.1 == e) = true →
InR IntKind.i64 y3 ∧
∃ (s'11 : List (Int × List NeedD) × List (Int × List NeedD)),
parted b.2.2.2.1 s'11 ∧
s'11.1.length < s2.1.length ∧
posHeld b e s'11.2 = y10.2 ∧
(↑(List.filter (holds b e) s'11.2).length : Int) = y3 ∧ [b] = [b] ∧ (0 : Nat) = (0 : Nat) ∧ e = e ∧ s'11.1 = rest7 ∧ True) ∧
((y10.1 == e) = false →
InR IntKind.i64 ((↑s8 : Int) + (1 : Int)) ∧
∃ (s'11 : Nat),
(s'11 ≤ (needsOf b x4.1).length ∧ ((List.take s'11 (needsOf b x4.1)).any fun (n : NeedD) => n.1 == e) = false) ∧
(needsOf b x4.1).length - s'11 < (needsOf b x4.1).length - s8 ∧
(↑s'11 : Int) = (↑s8 : Int) + (1 : Int) ∧
[b] = [b] ∧
(0 : Nat) = (0 : Nat) ∧
e = e ∧
posHeld b e s2.2 = posHeld b e s2.2 ∧
(↑(List.filter (holds b e) s2.2).length : Int) = (↑(List.filter (holds b e) s2.2).length : Int) ∧
x4.1 = x4.1 ∧ (↑(y5 ++ y6).length : Int) = (↑(y5 ++ y6).length : Int) ∧ rest7 = rest7 ∧ y5 ++ y6 = y5 ++ y6 ∧ True)) ∧
(y9 = false →
∃ (s'11 : List (Int × List NeedD) × List (Int × List NeedD)),
parted b.2.2.2.1 s'11 ∧
s'11.1.length < s2.1.length ∧
posHeld b e s'11.2 = posHeld b e s2.2 ∧
(↑(List.filter (holds b e) s'11.2).length : Int) = (↑(List.filter (holds b e) s2.2).length : Int) ∧
[b] = [b] ∧ (0 : Nat) = (0 : Nat) ∧ e = e ∧ s'11.1 = rest7 ∧ True)) ∧
(true = false → posHeld b e s2.2 = (fHeld b e).1 ∧ (↑(List.filter (holds b e) s2.2).length : Int) = (fHeld b e).2 ∧ True)) := by kernel_rfl
theorem b117 (b : BookD) (e : Int) (hsm : BookSmall b) (h : heldOne b e) : bodyVC (ctxOf tab [(42, c42)]) Tryz.f117 c117 (a117 (b, e, ())) (b, e, ()) := by
 rw [v117]
 simp only [true_and, and_true, eq_self]
 have hF1 : (fHeld b e).1 = posHeld b e b.2.2.2.1 := by unfold fHeld; rfl
 have hF2 : (fHeld b e).2 = ((b.2.2.2.1.filter (holds b e)).length : Int) := by unfold fHeld; rfl
 have sub : ∀ s : List (Int × List NeedD) × List (Int × List NeedD), parted b.2.2.2.1 s → ∀ x ∈ s.2 ++ s.1, x ∈ b.2.2.2.1 := fun s hs x hx => (show b.2.2.2.1.Perm (s.2 ++ s.1) from hs).mem_iff.2 hx
 have stop : ∀ s : List (Int × List NeedD) × List (Int × List NeedD), parted b.2.2.2.1 s → s.1 = [] → posHeld b e s.2 = (fHeld b e).1 ∧ ((s.2.filter (holds b e)).length : Int) = (fHeld b e).2 := fun s hs h0 => by
  have hp : b.2.2.2.1.Perm (s.2 ++ s.1) := hs
  rw [h0, List.append_nil] at hp
  rw [hF1, hF2]
  refine ⟨held_perm h hp.symm fun x hx => hx, ?_⟩
  rw [(hp.filter (holds b e)).length_eq]
 refine ⟨⟨(b.2.2.2.1, []), .refl _, rfl, rfl, rfl⟩, fun s => lett.mk fun y3 e3 => fun hs => ⟨fun h0 => ⟨fun h => Bool.noConfusion h, fun _ => stop s hs h0⟩, fun x => lett.mk fun y5 e5 => lett.mk fun y6 e6 => fun rest hp => ⟨fun _ => ?_, fun h => Bool.noConfusion h⟩⟩⟩
 have l5 : y5.length ≤ 1000 := by rw [e5]; exact lget_le hsm.needs x.1
 have l6 : y6.length ≤ 1000 := by rw [e6]; exact lget_le hsm.guards x.1
 have hN : needsOf b x.1 = y5 ++ y6 := by rw [e5, e6]; rfl
 have hlen : (y5 ++ y6).length = y5.length + y6.length := List.length_append
 have hs0 : b.2.2.2.1.Perm (s.2 ++ s.1) := hs
 have hs' : parted b.2.2.2.1 (rest, s.2 ++ [x]) := by
  show b.2.2.2.1.Perm (s.2 ++ [x] ++ rest)
  rw [List.append_assoc]
  exact hs0.trans (hp.append_left s.2)
 have hlt : rest.length < s.1.length := by rw [hp.length_eq]; exact Nat.lt_succ_self _
 have hfl : (s.2.filter (holds b e)).length ≤ 1000 := by
  have h1 := List.length_filter_le (holds b e) s.2
  have h2 := hs0.length_eq
  rw [List.length_append] at h2
  have := hsm.owners.2.2
  omega
 rw [hN]
 refine ⟨l5, roomB (by omega) (by omega), ⟨0, ⟨by omega, by simp⟩, by omega⟩, fun k => lett.mk fun y9 e9 => lett.mk fun y10 e10 => ?_⟩
 rintro ⟨h1, h2⟩
 rw [Int.toNat_natCast] at e10
 refine ⟨fun hk => ?_, fun hk => ?_⟩
 ·have hk := lt_of_y e9 hk
  refine ⟨⟨by omega, by omega⟩, fun hy => ⟨by rw [e3]; exact inR64 (by omega) (by omega), (rest, s.2 ++ [x]), hs', hlt, ?_, ?_, rfl⟩, fun hy => ⟨inR64 (by omega) (by omega), k + 1, ⟨by omega, any_succ (0, 0) hk h2 (by rw [← e10]; exact hy)⟩, by omega, by omega⟩⟩
  all_goals
   have hh : heldOf b x.1 e = some y10 := by
    unfold heldOf
    rw [hN, e10]
    exact find_at (0, 0) hk h2 (by rw [← e10]; exact hy)
  ·exact held_some h (fun z hz => sub _ hs' z (List.mem_append_left _ hz)) (List.mem_append_right _ (List.mem_singleton.2 rfl)) hh
  ·have : holds b e x = true := by unfold holds; rw [hh]; rfl
   rw [e3, List.filter_append, List.length_append]
   simp [this]
 ·have hk := le_of_y e9 hk
  have hh : heldOf b x.1 e = none := by
   unfold heldOf
   rw [hN]
   exact find_none hk h2
  have hx : holds b e x = false := by unfold holds; rw [hh]; rfl
  refine ⟨(rest, s.2 ++ [x]), hs', hlt, held_app hx, ?_, rfl⟩
  rw [List.filter_append, List.length_append]
  simp [hx]
theorem ok117 : DOk Tryz.prog 117 c117 :=
 DOk.of' (l := [(42, c42)]) (A := a117) tabOk ⟨ok42, trivial⟩ Tryz.func117 (by kernel_rfl) (by kernel_rfl) fun x hw hp => b117 x.1 x.2.1 hp.1 hp.2
end YtpnnfimacblhgaaGreat
end Go.Proofs
end

section
set_option maxRecDepth 100000
set_option linter.unusedVariables false
set_option linter.unusedSimpArgs false
set_option maxHeartbeats 4000000
namespace Go.Proofs
open Go Go.Vc
namespace YtpnnfimacblhgaaGreat
theorem mayB_eq (b : BookD) (o : Int) (r : RoadD) : fMayB b o r = bif decide (o < 0) || (fHasB b o || !fRight b r) then 1 else bif r.2.2.2.1.any (stepTaken b) then 14 else bif r.2.2.2.2.2.2.1.any (fun e => decide (0 ≤ fOwner b e)) then 14 else
  bif (fNeedsAll r).any (heldBad b) then 15 else 0 := by unfold fMayB; rfl
theorem v67 (b : BookD) (o : Int) (r : RoadD) : bodyVC (ctxOf tab [(114, c114), (115, c115), (80, c80), (116, c116), (117, c117)]) Tryz.f67 c67 (a67 (b, o, r, ())) (b, o, r, ()) = (
lett (bif decide (o < (0 : Int)) then true else fHasB b o) fun (y3 : Bool) =>
lett (bif y3 then true else !fRight b r) fun (y4 : Bool) =>
lett (((List.replicate (2 : Nat) ([] : List (Int × Int))).set (0 : Nat) r.2.2.2.2.1).set (1 : Nat) r.2.2.2.2.2.1) fun (y5 : List (List (Int × Int))) =>
(decide (o < (0 : Int)) = false → BookSmall b) ∧
(y3 = false → roadSmall r) ∧
(y4 = true → (1 : Int) = fMayB b o r ∧ True) ∧
(y4 = false →
(∃ (s06 : Nat),
(s06 ≤ r.2.2.2.1.length ∧ (List.take s06 r.2.2.2.1).any (stepTaken b) = false) ∧
(↑s06 : Int) = (0 : Int) ∧
[b] = [b] ∧
(0 : Nat) = (0 : Nat) ∧
r.2.2.2.1 = r.2.2.2.1 ∧
(↑r.2.2.2.1.length : Int) = (↑r.2.2.2.1.length : Int) ∧
keepP r (True)) ∧
∀ (s6 : Nat),
lett (decide ((↑s6 : Int) < (↑r.2.2.2.1.length : Int))) fun (y7 : Bool) =>
lett (r.2.2.2.1.getD (↑s6 : Int).toNat ((0 : Int), (0 : Int), (0 : Int))).1 fun (y8 : Int) =>
lett (decide (fOwner b y8 ≥ (0 : Int))) fun (y9 : Bool) =>
lett (bif y9 then true else decide ((↑(fZones b y8).length : Int) > (0 : Int))) fun (y10 : Bool) =>
s6 ≤ r.2.2.2.1.length ∧ (List.take s6 r.2.2.2.1).any (stepTaken b) = false →
(y7 = true →
InB (↑s6 : Int) r.2.2.2.1.length ∧
oneOwner b y8 ∧
(y9 = false → fewZones b y8) ∧
(y10 = true → (14 : Int) = fMayB b o r ∧ True) ∧
(y10 = false →
InR IntKind.i64 ((↑s6 : Int) + (1 : Int)) ∧
∃ (s'11 : Nat),
(s'11 ≤ r.2.2.2.1.length ∧ (List.take s'11 r.2.2.2.1).any (stepTaken b) = false) ∧
r.2.2.2.1.length - s'11 < r.2.2.2.1.length - s6 ∧
(↑s'11 : Int) = (↑s6 : Int) + (1 : Int) ∧
[b] = [b] ∧
(0 : Nat) = (0 : Nat) ∧
r.2.2.2.1 = r.2.2.2.1 ∧
(↑r.2.2.2.1.length : Int) = (↑r.2.2.2.1.length : Int) ∧
keepP r (True))) ∧
(y7 = false →
(∃ (s011 : Nat),
(s011 ≤ r.2.2.2.2.2.2.1.length ∧ ((List.take s011 r.2.2.2.2.2.2.1).any fun (e : Int) => decide ((0 : Int) ≤ fOwner b e)) = false) ∧
(↑s011 : Int) = (0 : Int) ∧
[b] = [b] ∧
(0 : Nat) = (0 : Nat) ∧
r.2.2.2.2.2.2.1 = r.2.2.2.2.2.2.1 ∧
(↑r.2.2.2.2.2.2.1.length : Int) = (↑r.2.2.2.2.2.2.1.length : Int) ∧
keepP r (True)) ∧
∀ (s11 : Nat),
lett (decide ((↑s11 : Int) < (↑r.2.2.2.2.2.2.1.length : Int))) fun (y12 : Bool) =>
lett (r.2.2.2.2.2.2.1.getD (↑s11 : Int).toNat (0 : Int)) fun (y13 : Int) =>
lett (decide (fOwner b y13 ≥ (0 : Int))) fun (y14 : Bool) =>
s11 ≤ r.2.2.2.2.2.2.1.length ∧ ((List.take s11 r.2.2.2.2.2.2.1).any fun (e : Int) => decide ((0 : Int) ≤ fOwner b e)) = false →
(y12 = true →
InB (↑s11 : Int) r.2.2.2.2.2.2.1.length ∧
oneOwner b y13 ∧
(y14 = true → (14 : Int) = fMayB b o r ∧ True) ∧
(y14 = false →
InR IntKind.i64 ((↑s11 : Int) + (1 : Int)) ∧
∃ (s'15 : Nat),
(s'15 ≤ r.2.2.2.2.2.2.1.length ∧
((List.take s'15 r.2.2.2.2.2.2.1).any fun (e : Int) => decide ((0 : Int) ≤ fOwner b e)) = false) ∧
r.2.2.2.2.2.2.1.length - s'15 < r.2.2.2.2.2.2.1.length - s11 ∧
(↑s'15 : Int) = (↑s11 : Int) + (1 : Int) ∧
[b] = [b] ∧
(0 : Nat) = (0 : Nat) ∧
r.2.2.2.2.2.2.1 = r.2.2.2.2.2.2.1 ∧
(↑r.2.2.2.2.2.2.1.length : Int) = (↑r.2.2.2.2.2.2.1.length : Int) ∧
keepP r (True))) ∧
(y12 = false →
(∃ (s015 : Nat),
(s015 ≤ (2 : Nat) ∧ (List.take (offN r s015) (fNeedsAll r)).any (heldBad b) = false) ∧
(↑s015 : Int) = (0 : Int) ∧ [b] = [b] ∧ (0 : Nat) = (0 : Nat) ∧ (↑y5.length : Int) = (↑y5.length : Int) ∧ y5 = y5 ∧ True) ∧
∀ (s15 : Nat),
lett (decide ((↑s15 : Int) < (↑y5.length : Int))) fun (y16 : Bool) =>
lett (listN r (↑s15 : Int).toNat).length fun (y17 : Nat) =>
lett (y5.getD (↑s15 : Int).toNat []) fun (y18 : List (Int × Int)) =>
s15 ≤ (2 : Nat) ∧ (List.take (offN r s15) (fNeedsAll r)).any (heldBad b) = false →
(y16 = true →
InB (↑s15 : Int) y5.length ∧
(∃ (s019 : Nat),
(s019 ≤ y17 ∧ (List.take (offN r (↑s15 : Int).toNat + s019) (fNeedsAll r)).any (heldBad b) = false) ∧
(↑s019 : Int) = (0 : Int) ∧
[b] = [b] ∧
(0 : Nat) = (0 : Nat) ∧
(↑y5.length : Int) = (↑y5.length : Int) ∧
(↑s15 : Int) = (↑s15 : Int) ∧ y18 = y18 ∧ (↑y18.length : Int) = (↑y18.length : Int) ∧ y5 = y5 ∧ True) ∧
∀ (s19 : Nat),
lett (decide ((↑s19 : Int) < (↑y18.length : Int))) fun (y20 : Bool) =>
lett (y18.getD (↑s19 : Int).toNat ((0 : Int), (0 : Int))) fun (y21 : Int × Int) =>
lett (bif (fHeld b y21.1).1 != (0 : Int) then (fHeld b y21.1).1 != y21.2 else false) fun (y22 : Bool) =>
s19 ≤ y17 ∧ (List.take (offN r (↑s15 : Int).toNat + s19) (fNeedsAll r)).any (heldBad b) = false →
(y20 = true →
InB (↑s19 : Int) y18.length ∧
(BookSmall b ∧ heldOne b y21.1) ∧
(y22 = true → (15 : Int) = fMayB b o r ∧ True) ∧
(y22 = false →
InR IntKind.i64 ((↑s19 : Int) + (1 : Int)) ∧
∃ (s'23 : Nat),
(s'23 ≤ y17 ∧ (List.take (offN r (↑s15 : Int).toNat + s'23) (fNeedsAll r)).any (heldBad b) = false) ∧
y17 - s'23 < y17 - s19 ∧
(↑s'23 : Int) = (↑s19 : Int) + (1 : Int) ∧
[b] = [b] ∧
(0 : Nat) = (0 : Nat) ∧
(↑y5.length : Int) = (↑y5.length : Int) ∧
(↑s15 : Int) = (↑s15 : Int) ∧
y18 = y18 ∧ (↑y18.length : Int) = (↑y18.length : Int) ∧ y5 = y5 ∧ True)) ∧
(y20 = false →
InR IntKind.i64 ((↑s15 : Int) + (1 : Int)) ∧
∃ (s'23 : Nat),
(s'23 ≤ (2 : Nat) ∧ (List.take (offN r s'23) (fNeedsAll r)).any (heldBad b) = false) ∧
(2 : Nat) - s'23 < (2 : Nat) - s15 ∧
(↑s'23 : Int) = (↑s15 : Int) + (1 : Int) ∧
[b] = [b] ∧ (0 : Nat) = (0 : Nat) ∧ (↑y5.length : Int) = (↑y5.length : Int) ∧ y5 = y5 ∧ True)) ∧
(y16 = false → (0 : Int) = fMayB b o r ∧ True))))) := by kernel_rfl
theorem b67 (b : BookD) (o : Int) (r : RoadD) (hb : BookOk b) (h : roadSmall r) (hz : r.2.2.2.2.2.2.1.length ≤ maxLenI) : bodyVC (ctxOf tab [(114, c114), (115, c115), (80, c80), (116, c116), (117, c117)]) Tryz.f67 c67 (a67 (b, o, r, ())) (b, o, r, ()) := by
 rw [v67, mayB_eq]
 have hr := h
 obtain ⟨l1, l2, l3⟩ := h
 refine lett.mk fun y3 e3 => lett.mk fun y4 e4 => lett.mk fun y5 e5 => ?_
 have e5 : y5 = [r.2.2.2.2.1, r.2.2.2.2.2.1] := e5
 subst e5
 have e4 : (decide (o < 0) || (fHasB b o || !fRight b r)) = y4 := by
  rw [e4, e3]
  cases decide (o < 0) <;> cases fHasB b o <;> rfl
 rw [e4]
 simp only [keepP_eq, true_and, and_true, eq_self]
 refine ⟨fun _ => hb.small, fun _ => hr, fun h4 => by rw [h4]; rfl, fun h4 => ⟨⟨0, ⟨by omega, by simp⟩, by omega⟩, fun s => lett.mk fun y7 e7 => lett.mk fun y8 e8 => lett.mk fun y9 e9 => lett.mk fun y10 e10 => ?_⟩⟩
 rw [h4]
 rintro ⟨h1, h2⟩
 rw [Int.toNat_natCast] at e8
 have e8 : y8 = (r.2.2.2.1.getD s zSt).1 := e8
 refine ⟨fun hs => ?_, fun hs => ?_⟩
 ·have hs := lt_of_y e7 hs
  have h10 : stepTaken b (r.2.2.2.1.getD s zSt) = y10 := by
   rw [e10, e9, e8]
   unfold stepTaken
   show (decide (0 ≤ fOwner b (r.2.2.2.1.getD s zSt).1) || decide (0 < (fZones b (r.2.2.2.1.getD s zSt).1).length)) = (bif decide (0 ≤ fOwner b (r.2.2.2.1.getD s zSt).1) then true else decide ((0 : Int) < ((fZones b (r.2.2.2.1.getD s zSt).1).length : Int)))
   rw [show decide ((0 : Int) < ((fZones b (r.2.2.2.1.getD s zSt).1).length : Int)) = decide (0 < (fZones b (r.2.2.2.1.getD s zSt).1).length) from decide_eq_decide.2 (by omega)]
   cases decide (0 ≤ fOwner b (r.2.2.2.1.getD s zSt).1) <;> rfl
  refine ⟨⟨by omega, by omega⟩, hb.owners _, fun _ => hb.few _, fun hy => ?_, fun hy => ⟨inR64 (by omega) (by omega), s + 1, ⟨by omega, any_succ zSt hs h2 (by rw [h10]; exact hy)⟩, by omega, by omega⟩⟩
  rw [any_yes (s := s) zSt hs (by rw [h10]; exact hy)]
  rfl
 ·have hs := le_of_y e7 hs
  rw [any_full hs h2]
  refine ⟨⟨0, ⟨by omega, by simp⟩, by omega⟩, fun t => lett.mk fun y12 e12 => lett.mk fun y13 e13 => lett.mk fun y14 e14 => ?_⟩
  rintro ⟨h3, h5⟩
  rw [Int.toNat_natCast] at e13
  refine ⟨fun ht => ?_, fun ht => ?_⟩
  ·have ht := lt_of_y e12 ht
   have h14 : decide (0 ≤ fOwner b (r.2.2.2.2.2.2.1.getD t 0)) = y14 := by rw [e14, e13]
   refine ⟨⟨by omega, by omega⟩, hb.owners _, fun hy => ?_, fun hy => ⟨inRlen ht hz, t + 1, ⟨by omega, any_succ 0 ht h5 (by rw [h14]; exact hy)⟩, by omega, by omega⟩⟩
   rw [any_yes (s := t) 0 ht (by rw [h14]; exact hy)]
   rfl
  ·have ht := le_of_y e12 ht
   rw [any_full ht h5]
   refine ⟨⟨0, ⟨by omega, by rfl⟩, by omega⟩, fun j => lett.mk fun y16 e16 => lett.mk fun y17 e17 => lett.mk fun y18 e18 => ?_⟩
   rintro ⟨h6, h7⟩
   rw [Int.toNat_natCast] at e17 e18
   rw [Int.toNat_natCast]
   refine ⟨fun h16 => ?_, fun h16 => ?_⟩
   ·have hj : j < 2 := lt_of_y (b := 2) e16 h16
    rw [pair_at r hj] at e18
    have e17' : y17 = y18.length := by rw [e17, e18]
    have hlen : y18.length ≤ 1000 := by
     rw [e18]
     rcases (by omega : j = 0 ∨ j = 1) with rfl | rfl
     ·exact l2
     ·exact l3
    refine ⟨⟨by omega, by show (j : Int) < 2; omega⟩, ⟨0, ⟨by omega, h7⟩, by omega⟩, fun i => lett.mk fun y20 e20 => lett.mk fun y21 e21 => lett.mk fun y22 e22 => ?_⟩
    rintro ⟨h8, h9⟩
    rw [Int.toNat_natCast] at e21
    refine ⟨fun h20 => ?_, fun h20 => ?_⟩
    ·have hi := lt_of_y e20 h20
     have hlt := off_lt r hj (i := i) (by rw [← e18]; exact hi)
     have hn : (fNeedsAll r).getD (offN r j + i) (0, 0) = y21 := by rw [e21, e18]; exact need_at r hj (by rw [← e18]; exact hi)
     have h22 : heldBad b ((fNeedsAll r).getD (offN r j + i) (0, 0)) = y22 := by
      rw [hn, e22]
      unfold heldBad
      cases hx : ((fHeld b y21.1).1 == 0) <;> cases hz : ((fHeld b y21.1).1 == y21.2) <;> simp [hx, hz, bne]
     refine ⟨⟨by omega, by omega⟩, ⟨hb.small, hb.held _⟩, fun hy => ?_, fun hy => ⟨inR64 (by omega) (by omega), i + 1, ⟨by omega, ?_⟩, by omega, by omega⟩⟩
     ·rw [any_yes (s := offN r j + i) (0, 0) hlt (by rw [h22]; exact hy)]
      rfl
     ·rw [← Nat.add_assoc]
      exact any_succ (0, 0) hlt h9 (by rw [h22]; exact hy)
    ·have hi := le_of_y e20 h20
     have ho : offN r (j + 1) = offN r j + i := by rw [off_next r hj, ← e18]; omega
     exact ⟨inR64 (by omega) (by omega), j + 1, ⟨by omega, by rw [ho]; exact h9⟩, by omega, by omega⟩
   ·have hj : 2 ≤ j := le_of_y (b := 2) e16 h16
    have : j = 2 := by omega
    subst this
    rw [off_two] at h7
    rw [any_full (by rw [all_len2]; omega) h7]
    rfl
theorem ok67 : DOk Tryz.prog 67 c67 :=
 DOk.of' (l := [(114, c114), (115, c115), (80, c80), (116, c116), (117, c117)]) (A := a67) tabOk ⟨ok114, ok115, ok80, ok116, ok117, trivial⟩ Tryz.func67 (by kernel_rfl) (by kernel_rfl) fun x hw hp => b67 x.1 x.2.1 x.2.2.1 hp.1 hp.2 hw.2.2.1.2.2.2.2.2.2.1.1
theorem elems_up (r : RoadD) : elemsUp r r.2.2.2.1.length = fElems r := by
 unfold elemsUp fElems
 rw [List.take_length]
theorem v60 (b : BookD) (o : Int) (r : RoadD) : obodyVC (ctxOf tab [(67, c67), (94, c94d), (42, c42d)]) Tryz.f60 c60 (a60 (b, o, r, ())) (b, o, r, ()) = (
lett (fMayB b o r != (0 : Int)) fun (y3 : Bool) =>
lett (fTakeB b o r).2.1 fun (y4 : List (Int × List Int)) =>
lett (fTakeB b o r).2.2 fun (y5 : List (Int × List Int) × List (Int × List (Int × Int)) × List (Int × List (Int × Int))) =>
(BookOk b ∧ roadSmall r) ∧
(y3 = true → fMayB b o r = fMayB b o r ∧ b.1 = (fTakeB b o r).1 ∧ b.2.1 = y4 ∧ b.2.2.1 = y5.1 ∧ b.2.2.2.1 = y5.2.1 ∧ b.2.2.2.2 = y5.2.2 ∧ True) ∧
(y3 = false →
(∃ (s06 : Nat),
s06 ≤ r.2.2.2.1.length ∧
(↑s06 : Int) = (0 : Int) ∧
o = o ∧
r.2.2.2.1 = r.2.2.2.1 ∧
(↑r.2.2.2.1.length : Int) = (↑r.2.2.2.1.length : Int) ∧
elemsUp r s06 = [] ∧
keepP r (b.1 = b.1 ∧
b.2.1 = b.2.1 ∧ b.2.2.1 = b.2.2.1 ∧ b.2.2.2.1 = b.2.2.2.1 ∧ b.2.2.2.2 = b.2.2.2.2 ∧ True)) ∧
∀ (s6 : Nat),
lett (decide ((↑s6 : Int) < (↑r.2.2.2.1.length : Int))) fun (y7 : Bool) =>
lett ((List.replicate (1 : Nat) (0 : Int)).set (0 : Nat) (r.2.2.2.1.getD (↑s6 : Int).toNat ((0 : Int), (0 : Int), (0 : Int))).1) fun (y8 : List Int) =>
s6 ≤ r.2.2.2.1.length →
(y7 = true →
InB (↑s6 : Int) r.2.2.2.1.length ∧
roomFor ((elemsUp r s6).length + y8.length) (8 : Nat) ∧
InR IntKind.i64 ((↑s6 : Int) + (1 : Int)) ∧
∃ (s'9 : Nat),
s'9 ≤ r.2.2.2.1.length ∧
r.2.2.2.1.length - s'9 < r.2.2.2.1.length - s6 ∧
(↑s'9 : Int) = (↑s6 : Int) + (1 : Int) ∧
o = o ∧
r.2.2.2.1 = r.2.2.2.1 ∧
(↑r.2.2.2.1.length : Int) = (↑r.2.2.2.1.length : Int) ∧
elemsUp r s'9 = elemsUp r s6 ++ y8 ∧
keepP r (b.1 = b.1 ∧
b.2.1 = b.2.1 ∧
b.2.2.1 = b.2.2.1 ∧ b.2.2.2.1 = b.2.2.2.1 ∧ b.2.2.2.2 = b.2.2.2.2 ∧ True)) ∧
(y7 = false →
shortL r.2.2.2.2.2.2.1 ∧
shortL r.2.2.2.2.1 ∧
shortL r.2.2.2.2.2.1 ∧
(0 : Int) = fMayB b o r ∧
b.1 = (fTakeB b o r).1 ∧
mput I b.2.1 o (elemsUp r s6) = y4 ∧
mput I b.2.2.1 o r.2.2.2.2.2.2.1 = y5.1 ∧
mput I b.2.2.2.1 o r.2.2.2.2.1 = y5.2.1 ∧
mput I b.2.2.2.2 o r.2.2.2.2.2.1 = y5.2.2 ∧ True))) := by kernel_rfl
theorem b60 (b : BookD) (o : Int) (r : RoadD) (hb : BookOk b) (h : roadSmall r) (hz : shortL r.2.2.2.2.2.2.1) : obodyVC (ctxOf tab [(67, c67), (94, c94d), (42, c42d)]) Tryz.f60 c60 (a60 (b, o, r, ())) (b, o, r, ()) := by
 rw [v60]
 obtain ⟨l1, l2, l3⟩ := h
 simp only [keepP_eq, true_and, and_true, eq_self]
 refine lett.mk fun y3 e3 => lett.mk fun y4 e4 => lett.mk fun y5 e5 => ⟨⟨hb, l1, l2, l3⟩, fun h3 => ?_, fun h3 => ⟨⟨0, by omega, by omega, rfl⟩, fun s => lett.mk fun y7 e7 => lett.mk fun y8 e8 => fun hs => ⟨fun h7 => ?_, fun h7 => ?_⟩⟩⟩
 ·have hT : fTakeB b o r = b := by
   unfold fTakeB
   rw [h3, bneB] at e3
   cases hx : (fMayB b o r == 0) with
   | false => rfl
   | true => rw [hx] at e3; cases e3
  rw [e4, e5, hT]
  exact ⟨rfl, rfl, rfl, rfl, rfl⟩
 ·have hs' := lt_of_y e7 h7
  rw [Int.toNat_natCast] at e8
  refine ⟨⟨by omega, by omega⟩, roomB ?_ (by omega), inR64 (by omega) (by omega), s + 1, by omega, by omega, by omega, ?_⟩
  ·have : (elemsUp r s).length ≤ s := by unfold elemsUp; rw [List.length_map, List.length_take]; omega
   rw [e8]
   show _ + 1 ≤ _
   omega
  ·unfold elemsUp
   rw [map_succ _ zSt hs', e8]
   rfl
 ·have hs' := le_of_y e7 h7
  have : s = r.2.2.2.1.length := by omega
  subst this
  have hm : fMayB b o r = 0 := by
   rw [h3, bneB] at e3
   cases hx : (fMayB b o r == 0) with
   | false => rw [hx] at e3; cases e3
   | true => exact eq_of_beq hx
  have hT : fTakeB b o r = taken b o r := by unfold fTakeB; rw [hm]; rfl
  rw [e4, e5, hT, elems_up]
  exact ⟨hz, l2, l3, hm.symm, rfl, rfl, rfl, rfl, rfl⟩
theorem ok60 : OOk Tryz.prog 60 c60 :=
 OOk.of' (l := [(67, c67), (94, c94d), (42, c42d)]) (A := a60) tabOk ⟨ok67, ok94d, ok42d, trivial⟩ Tryz.func60 (by kernel_rfl) (by kernel_rfl) fun x hw hp => b60 x.1 x.2.1 x.2.2.1 hp.1.1 hp.1.2 hp.2
end YtpnnfimacblhgaaGreat
end Go.Proofs
end

section
set_option maxRecDepth 100000
set_option linter.unusedVariables false
namespace Go.Proofs
open Go Go.Vc
namespace YtpnnfimacblhgaaGreat
abbrev HasT : Ty := .pair I (.pair (.list I) (.pair (.list I) (.pair (.list NeedT) (.list NeedT))))
abbrev HasD := Int × List Int × List Int × List NeedD × List NeedD
abbrev RBookT : Ty := .pair I (.list HasT)
abbrev RBookD := Int × List HasD
abbrev RBookO : OTy := .cells true (.pair (.dat I) (.row 193 HasT))
def zH : HasD := (0, [], [], [], [])
def c58 : OCon where
 args := [.dat I]
 outs := [RBookO]
 pre := fun (x : Int × Unit) => True
 fn := fun (x : Int × Unit) => ((min (max x.1 0) 40, []), ())
def c137 : DCon where
 args := [.ref RBookT, I]
 out := .data [I]
 pre := fun (x : RBookD × Int × Unit) => True
 fn := fun (x : RBookD × Int × Unit) => (fFind (fun h => h.1 == x.2.1) x.1.2, ())
def a137 (x : RBookD × Int × Unit) : Ann := loopAnn [(2, fun _ => findLoop (fun h => h.1 == x.2.1) x.1.2 5 [0, 1])]
def inR (b : RBookD) (e : Int) : Bool := decide (0 ≤ e) && decide (e < b.1)
@[irreducible] def fInAll (b : RBookD) (l : List Int) : Bool := l.all (inR b)
def c155 : DCon where
 args := [.ref RBookT, .list I]
 out := .data [.bool]
 pre := fun (x : RBookD × List Int × Unit) => True
 fn := fun (x : RBookD × List Int × Unit) => (fInAll x.1 x.2.1, ())
def a155 (x : RBookD × List Int × Unit) : Ann := loopAnn [(2, fun _ => {
 σ := Nat
 ok := fun k => k ≤ x.2.1.length ∧ (x.2.1.take k).all (inR x.1) = true
 mu := fun k => x.2.1.length - k
 sl := fun k => [(5, .one (.dat I (k : Int)))]
 bl := fun _ => []
 keep := [0, 1]
 keepB := [] })]
def elemAt (r : RoadD) (i : Nat) : Int := (fElems r).getD i 0
def stepFair (r : RoadD) (i : Nat) : Bool := !fMem ((fElems r).take i) (elemAt r i) && !fMem r.2.2.2.2.2.2.1 (elemAt r i)
def needClash (r : RoadD) (i k : Nat) : Bool := clash (needAt r k) (needAt r i)
def needFair (b : RBookD) (r : RoadD) (i : Nat) : Bool := fInAll b [(needAt r i).1] && (((needAt r i).2 == 1 || (needAt r i).2 == 2) && !anyTo (needClash r i) i)
@[irreducible] def fFair (b : RBookD) (r : RoadD) : Bool :=
 !decide (r.2.2.2.1.length = 0) && (fInAll b (fElems r) && (fInAll b r.2.2.2.2.2.2.1 && (allTo (stepFair r) r.2.2.2.1.length && allTo (needFair b r) (fNeedsAll r).length)))
def c138 : DCon where
 args := [.ref RBookT, RoadT]
 out := .data [.bool]
 pre := fun (x : RBookD × RoadD × Unit) => roadSmall x.2.1
 fn := fun (x : RBookD × RoadD × Unit) => (fFair x.1 x.2.1, ())
def a138 (x : RBookD × RoadD × Unit) : Ann := loopAnn [
 (5, fun _ => upLoop x.2.1.2.2.2.1.length (allOf (stepFair x.2.1)) 6 [0, 3, 5] [3]),
 (11, fun _ => upLoop (fNeedsAll x.2.1).length (allOf (needFair x.1 x.2.1)) 8 [0, 7] [57]),
 (16, fun S => upLoop (slotI S 8).toNat (noneOf (needClash x.2.1 (slotI S 8).toNat)) 9 [0, 7, 8] [57])]
def hasSteps (e : Int) (h : HasD) : Bool := fMem h.2.1 e
def hasZone (e : Int) (h : HasD) : Bool := fMem h.2.2.1 e
def ownerR (o : Option HasD) : Int := match o with
 | some h => h.1
 | none => -1
@[irreducible] def fOwnerR (b : RBookD) (e : Int) : Int := ownerR (b.2.find? (hasSteps e))
def c139 : DCon where
 args := [.ref RBookT, I]
 out := .data [I]
 pre := fun (x : RBookD × Int × Unit) => True
 fn := fun (x : RBookD × Int × Unit) => (fOwnerR x.1 x.2.1, ())
def a139 (x : RBookD × Int × Unit) : Ann := loopAnn [(2, fun _ => anyLoop (hasSteps x.2.1) x.1.2 5 [0, 1] [])]
def zonesUp (e : Int) (l : List HasD) (k : Nat) : List Int := ((l.take k).filter (hasZone e)).map fun h => h.1
@[irreducible] def fZonesR (b : RBookD) (e : Int) : List Int := zonesUp e b.2 b.2.length
def c140 : DCon where
 args := [.ref RBookT, I]
 out := .data [.list I]
 pre := fun (x : RBookD × Int × Unit) => x.1.2.length ≤ 1000
 fn := fun (x : RBookD × Int × Unit) => (fZonesR x.1 x.2.1, ())
def a140 (x : RBookD × Int × Unit) : Ann := loopAnn [(3, fun _ => rowLoop x.1.2.length 6 5 1000 3 I (zonesUp x.2.1 x.1.2) [0, 1] [])] [25]
def heldNeeds (h : HasD) : List NeedD := h.2.2.2.1 ++ h.2.2.2.2
def heldIn (h : HasD) (e : Int) : Option NeedD := (heldNeeds h).find? fun x => x.1 == e
def heldStep (c : Int × Int) (o : Option NeedD) : Int × Int := match o with
 | some u => (u.2, c.2 + 1)
 | none => c
def heldUp (l : List HasD) (e : Int) : Nat → Int × Int
 | 0 => (0, 0)
 | k + 1 => heldStep (heldUp l e k) (heldIn (l.getD k zH) e)
@[irreducible] def fHeldR (b : RBookD) (e : Int) : Int × Int := heldUp b.2 e b.2.length
structure RSmall (b : RBookD) : Prop where
 len : b.2.length ≤ 1000
 needs : ∀ h ∈ b.2, h.2.2.2.1.length ≤ 1000 ∧ h.2.2.2.2.length ≤ 1000
def c141 : DCon where
 args := [.ref RBookT, I]
 out := .data [I, I]
 pre := fun (x : RBookD × Int × Unit) => RSmall x.1
 fn := fun (x : RBookD × Int × Unit) => ((fHeldR x.1 x.2.1).1, (fHeldR x.1 x.2.1).2, ())
def a141 (x : RBookD × Int × Unit) : Ann := loopAnn [(3, fun _ => {
 σ := Nat
 ok := fun k => k ≤ x.1.2.length
 mu := fun k => x.1.2.length - k
 sl := fun k => [(8, .one (.dat I (k : Int))), (6, .one (.dat I (heldUp x.1.2 x.2.1 k).1)), (7, .one (.dat I (heldUp x.1.2 x.2.1 k).2))]
 bl := fun _ => []
 keep := [0, 1]
 keepB := [] }),
 (7, fun S => anyLoop (fun n => n.1 == x.2.1) (heldNeeds (x.1.2.getD (slotI S 8).toNat zH)) 10 [0, 1, 6, 7, 8, 9] [38])]
def elemTaken (b : RBookD) (e : Int) : Bool := decide (0 ≤ fOwnerR b e) || decide (0 < (fZonesR b e).length)
def heldBadR (b : RBookD) (x : NeedD) : Bool := !((fHeldR b x.1).1 == 0) && !((fHeldR b x.1).1 == x.2)
@[irreducible] def fMayR (b : RBookD) (o : Int) (r : RoadD) : Int :=
 bif decide (o < 0) || (decide (0 ≤ fFind (fun h => h.1 == o) b.2) || !fFair b r) then 1 else bif (fElems r).any (elemTaken b) then 14 else bif r.2.2.2.2.2.2.1.any (fun e => decide (0 ≤ fOwnerR b e)) then 14 else
  bif (fNeedsAll r).any (heldBadR b) then 15 else 0
def c110 : DCon where
 args := [.ref RBookT, I, RoadT]
 out := .data [I]
 pre := fun (x : RBookD × Int × RoadD × Unit) => RSmall x.1 ∧ roadSmall x.2.2.1
 fn := fun (x : RBookD × Int × RoadD × Unit) => (fMayR x.1 x.2.1 x.2.2.1, ())
def a110 (x : RBookD × Int × RoadD × Unit) : Ann := loopAnn [
 (5, fun _ => anyLoop (elemTaken x.1) (fElems x.2.2.1) 8 [0, 5, 7] [5]),
 (10, fun _ => anyLoop (fun e => decide (0 ≤ fOwnerR x.1 e)) x.2.2.1.2.2.2.2.2.2.1 9 [0, 5] [5]),
 (16, fun _ => anyLoop (heldBadR x.1) (fNeedsAll x.2.2.1) 11 [0, 10] [74])]
def risePos (l : List Int) (n : Int) : Nat := (firstTo (fun i => !decide (l.getD i 0 < n)) l.length).getD l.length
@[irreducible] def fRising (l : List Int) (n : Int) : List Int := bif decide (risePos l n < l.length) && l.getD (risePos l n) 0 == n then l else l.take (risePos l n) ++ [n] ++ l.drop (risePos l n)
def c143 : DCon where
 args := [.list I, I]
 out := .data [.list I]
 pre := fun (x : List Int × Int × Unit) => x.1.length ≤ 100000
 fn := fun (x : List Int × Int × Unit) => (fRising x.1 x.2.1, ())
def a143 (x : List Int × Int × Unit) : Ann := loopAnn [(2, fun _ => upLoop x.1.length (allOf (fun i => decide (x.1.getD i 0 < x.2.1))) 5 [0, 1] [])]
def c113 : DCon := c143
def riseUp (l : List Int) : Nat → List Int
 | 0 => []
 | k + 1 => fRising (riseUp l k) (l.getD k 0)
def hasOf (o : Int) (r : RoadD) : HasD := (o, fElems r, riseUp r.2.2.2.2.2.2.1 r.2.2.2.2.2.2.1.length, r.2.2.2.2.1, r.2.2.2.2.2.1)
def insPos (l : List HasD) (o : Int) : Nat := (firstTo (fun i => !decide ((l.getD i zH).1 < o)) l.length).getD l.length
def insHas (l : List HasD) (h : HasD) : List HasD := l.take (insPos l h.1) ++ [h] ++ l.drop (insPos l h.1)
@[irreducible] def fTakeR (b : RBookD) (o : Int) (r : RoadD) : RBookD := bif fMayR b o r == 0 then (b.1, insHas b.2 (hasOf o r)) else b
def c61 : OCon where
 args := [RBookO, .dat I, .dat RoadT]
 outs := [.dat I]
 pre := fun (x : RBookD × Int × RoadD × Unit) => (RSmall x.1 ∧ roadSmall x.2.2.1) ∧ shortL x.2.2.1.2.2.2.2.2.2.1
 fn := fun (x : RBookD × Int × RoadD × Unit) => (fMayR x.1 x.2.1 x.2.2.1, ())
 upd := fun (x : RBookD × Int × RoadD × Unit) => (fTakeR x.1 x.2.1 x.2.2.1, x.2.1, x.2.2.1, ())
def a61 (x : RBookD × Int × RoadD × Unit) : Ann := loopAnn [
 (6, fun _ => {
  σ := Nat
  ok := fun k => k ≤ x.2.2.1.2.2.2.2.2.2.1.length
  mu := fun k => x.2.2.1.2.2.2.2.2.2.1.length - k
  sl := fun k => [(9, .one (.dat I (k : Int)))]
  bl := fun k => [(8, .cells [.dat I x.2.1, .dat (.list I) (fElems x.2.2.1), .dat (.list I) (riseUp x.2.2.1.2.2.2.2.2.2.1 k), .row NeedT 24, .row NeedT 28])]
  keep := [0, 1, 5, 8]
  keepB := [5, 24, 28, 1000000, 1000001] }),
 (10, fun _ => upLoop x.1.2.length (allOf (fun i => decide ((x.1.2.getD i zH).1 < x.2.1))) 10 [0, 1, 8] [8, 24, 28, 1000000, 1000001])]
def turnUp (l : List TurnD) (d : List Int) : Nat → List Int
 | 0 => d
 | k + 1 => (turnUp l d k).set (l.getD k zT).1.toNat (l.getD k zT).2
@[irreducible] def fTurnedR (p : PlanD) (d : List Int) (r : RoadD) : List Int := turnUp (fWantsR p r) d (fWantsR p r).length
def planGood (p : PlanD) : Prop := fCheck p = 0 ∧ shortLines p
def c62 : DCon where
 args := [PlanT, .list I, RoadT]
 out := .row 3 I
 pre := fun (x : PlanD × List Int × RoadD × Unit) => (planGood x.1 ∧ roadSmall x.2.2.1) ∧ x.2.1.length = x.1.2.2.2.1.length
 fn := fun (x : PlanD × List Int × RoadD × Unit) => (fTurnedR x.1 x.2.1 x.2.2.1, ())
def a62 (x : PlanD × List Int × RoadD × Unit) : Ann := loopAnn [(4, fun _ => {
 σ := Nat
 ok := fun k => k ≤ (fWantsR x.1 x.2.2.1).length
 mu := fun k => (fWantsR x.1 x.2.2.1).length - k
 sl := fun k => [(9, .one (.dat I (k : Int))), (7, .one (.row I 12))]
 bl := fun k => [(12, .row false 3 I (turnUp (fWantsR x.1 x.2.2.1) x.2.1 k))]
 keep := [8]
 keepB := [] })]
def berthR (p : PlanD) (r : RoadD) : Int := (fAt p r.1).1.1
def loudR (occ : List Bool) (b : RBookD) (berth : Int) (e : Int) : Bool := decide (0 ≤ fOwnerR b e) || (!(e == berth) && occAt occ e)
def stuckR (p : PlanD) (d : List Int) (occ : List Bool) (b : RBookD) (berth : Int) (w : TurnD) : Bool :=
 !(d.getD w.1.toNat 0 == 0 || d.getD w.1.toNat 0 == w.2) && (lineAt p w.1).any (loudR occ b berth)
@[irreducible] def fMayTurn (p : PlanD) (d : List Int) (r : RoadD) (occ : List Bool) (b : RBookD) : Int := bif (fWantsR p r).any (stuckR p d occ b (berthR p r)) then 8 else 0
def c112 : DCon where
 args := [PlanT, .list I, RoadT, .list .bool, .ref RBookT]
 out := .data [I]
 pre := fun (x : PlanD × List Int × RoadD × List Bool × RBookD × Unit) => (planGood x.1 ∧ roadSmall x.2.2.1) ∧ x.2.1.length = x.1.2.2.2.1.length
 fn := fun (x : PlanD × List Int × RoadD × List Bool × RBookD × Unit) => (fMayTurn x.1 x.2.1 x.2.2.1 x.2.2.2.1 x.2.2.2.2.1, ())
def a112 (x : PlanD × List Int × RoadD × List Bool × RBookD × Unit) : Ann := loopAnn [
 (4, fun _ => anyLoop (stuckR x.1 x.2.1 x.2.2.2.1 x.2.2.2.2.1 (berthR x.1 x.2.2.1)) (fWantsR x.1 x.2.2.1) 14 [1, 3, 4, 5, 11, 12] [5, 12]),
 (10, fun S => anyLoop (loudR x.2.2.2.1 x.2.2.2.2.1 (berthR x.1 x.2.2.1)) (lineAt x.1 ((fWantsR x.1 x.2.2.1).getD (slotI S 14).toNat zT).1) 17 [1, 3, 4, 5, 11, 12, 14, 16] [5, 12])]
def fBegin (n : Int) : LifeD := bif decide (n < 1) || decide (n > 12) then (0, 0, false, []) else (1, 0, false, List.replicate n.toNat false)
def c63 : DCon where
 args := [I]
 out := .data [LifeT]
 pre := fun (x : Int × Unit) => True
 fn := fun (x : Int × Unit) => (fBegin x.1, ())
end YtpnnfimacblhgaaGreat
end Go.Proofs
end

section
set_option maxRecDepth 100000
set_option linter.unusedVariables false
set_option linter.unusedSimpArgs false
set_option maxHeartbeats 4000000
namespace Go.Proofs
open Go Go.Vc
namespace YtpnnfimacblhgaaGreat
theorem v58 (n : Int) : obodyVC (ctxOf tab []) Tryz.f58 c58 noAnn (n, ()) = (
min (max n (0 : Int)) (40 : Int) = min (max n (0 : Int)) (40 : Int) ∧ ([] : List HasD) = [] ∧ True) := by kernel_rfl
theorem ok58 : OOk Tryz.prog 58 c58 :=
 OOk.of' (l := []) (A := fun _ => noAnn) tabOk trivial Tryz.func58 (by kernel_rfl) (by kernel_rfl) fun x hw hp => by
  obtain ⟨n, ⟨⟩⟩ := x
  show obodyVC (ctxOf tab []) Tryz.f58 c58 noAnn (n, ())
  rw [v58]
  exact ⟨rfl, rfl, trivial⟩
theorem v137 (b : RBookD) (o : Int) : bodyVC (ctxOf tab []) Tryz.f137 c137 (a137 (b, o, ())) (b, o, ()) = (
lett (fFind (fun (h : HasD) => h.1 == o) b.2) fun (y2 : Int) =>
(∃ (s03 : Nat), (s03 ≤ b.2.length ∧ ((List.take s03 b.2).any fun (h : HasD) => h.1 == o) = false) ∧ (↑s03 : Int) = (0 : Int) ∧ [b] = [b] ∧ (0 : Nat) = (0 : Nat) ∧ o = o ∧ True) ∧
∀ (s3 : Nat),
lett (decide ((↑s3 : Int) < (↑b.2.length : Int))) fun (y4 : Bool) =>
lett ((b.2.getD (↑s3 : Int).toNat ((0 : Int), [], [], [], [])).1 == o) fun (y5 : Bool) =>
s3 ≤ b.2.length ∧ ((List.take s3 b.2).any fun (h : HasD) => h.1 == o) = false →
(y4 = true →
InB (↑s3 : Int) b.2.length ∧
(y5 = true → (↑s3 : Int) = y2 ∧ True) ∧
(y5 = false →
InR IntKind.i64 ((↑s3 : Int) + (1 : Int)) ∧
∃ (s'6 : Nat),
(s'6 ≤ b.2.length ∧ ((List.take s'6 b.2).any fun (h : HasD) => h.1 == o) = false) ∧
b.2.length - s'6 < b.2.length - s3 ∧ (↑s'6 : Int) = (↑s3 : Int) + (1 : Int) ∧ [b] = [b] ∧ (0 : Nat) = (0 : Nat) ∧ o = o ∧ True)) ∧
(y4 = false → (-1 : Int) = y2 ∧ True)) := by kernel_rfl
theorem b137 (b : RBookD) (o : Int) (hw : b.2.length ≤ maxLenI) : bodyVC (ctxOf tab []) Tryz.f137 c137 (a137 (b, o, ())) (b, o, ()) := by
 rw [v137]
 refine lett.mk fun y2 e2 => ?_
 simp only [true_and, and_true, eq_self]
 refine ⟨⟨0, ⟨by omega, by simp⟩, by omega⟩, fun s => lett.mk fun y4 e4 => lett.mk fun y5 e5 => ?_⟩
 rintro ⟨h1, h2⟩
 rw [Int.toNat_natCast] at e5
 refine ⟨fun hs => ?_, fun hs => ?_⟩
 ·have hs := lt_of_y e4 hs
  refine ⟨⟨by omega, by omega⟩, fun e => ?_, fun e => ⟨inRlen hs hw, s + 1, ⟨by omega, ?_⟩, by omega, by omega⟩⟩
  ·rw [e2]
   exact fFind_at zH hs h2 (by rw [← e]; exact e5.symm)
  ·exact any_succ zH hs h2 (by rw [← e]; exact e5.symm)
 ·rw [e2]
  exact fFind_none (s := s) (le_of_y e4 hs) h2
theorem ok137 : DOk Tryz.prog 137 c137 :=
 DOk.of' (l := []) (A := a137) tabOk trivial Tryz.func137 (by kernel_rfl) (by kernel_rfl) fun x hw hp => b137 x.1 x.2.1 hw.1.2.1
theorem v155 (b : RBookD) (l : List Int) : bodyVC (ctxOf tab []) Tryz.f155 c155 (a155 (b, l, ())) (b, l, ()) = (
(∃ (s02 : Nat), (s02 ≤ l.length ∧ (List.take s02 l).all (inR b) = true) ∧ (↑s02 : Int) = (0 : Int) ∧ [b] = [b] ∧ (0 : Nat) = (0 : Nat) ∧ l = l ∧ True) ∧
∀ (s2 : Nat),
lett (decide ((↑s2 : Int) < (↑l.length : Int))) fun (y3 : Bool) =>
lett (l.getD (↑s2 : Int).toNat (0 : Int)) fun (y4 : Int) =>
lett (bif decide (y4 < (0 : Int)) then true else decide (y4 ≥ b.1)) fun (y5 : Bool) =>
s2 ≤ l.length ∧ (List.take s2 l).all (inR b) = true →
(y3 = true →
InB (↑s2 : Int) l.length ∧
(decide (y4 < (0 : Int)) = false → InB (↑s2 : Int) l.length) ∧
(y5 = true → false = fInAll b l ∧ True) ∧
(y5 = false →
InR IntKind.i64 ((↑s2 : Int) + (1 : Int)) ∧
∃ (s'6 : Nat),
(s'6 ≤ l.length ∧ (List.take s'6 l).all (inR b) = true) ∧
l.length - s'6 < l.length - s2 ∧ (↑s'6 : Int) = (↑s2 : Int) + (1 : Int) ∧ [b] = [b] ∧ (0 : Nat) = (0 : Nat) ∧ l = l ∧ True)) ∧
(y3 = false → true = fInAll b l ∧ True)) := by kernel_rfl
theorem b155 (b : RBookD) (l : List Int) (hw : l.length ≤ maxLenI) : bodyVC (ctxOf tab []) Tryz.f155 c155 (a155 (b, l, ())) (b, l, ()) := by
 rw [v155]
 have hF : fInAll b l = l.all (inR b) := by unfold fInAll; rfl
 simp only [true_and, and_true, eq_self]
 refine ⟨⟨0, ⟨by omega, by simp⟩, by omega⟩, fun s => lett.mk fun y3 e3 => lett.mk fun y4 e4 => lett.mk fun y5 e5 => ?_⟩
 rintro ⟨h1, h2⟩
 rw [Int.toNat_natCast] at e4
 refine ⟨fun hs => ?_, fun hs => ?_⟩
 ·have hs := lt_of_y e3 hs
  have h5 : inR b (l.getD s 0) = !y5 := by
   rw [← e4, e5]
   unfold inR
   by_cases h0 : y4 < 0
   ·rw [decide_eq_true h0, decide_eq_false (by omega : ¬ 0 ≤ y4)]; rfl
   ·rw [decide_eq_false h0, decide_eq_true (by omega : 0 ≤ y4)]
    by_cases h1 : y4 < b.1
    ·rw [decide_eq_true h1, decide_eq_false (by omega : ¬ y4 ≥ b.1)]; rfl
    ·rw [decide_eq_false h1, decide_eq_true (by omega : y4 ≥ b.1)]; rfl
  refine ⟨⟨by omega, by omega⟩, fun _ => ⟨by omega, by omega⟩, fun hy => ?_, fun hy => ⟨inRlen hs hw, s + 1, ⟨by omega, all_succ 0 hs h2 (by rw [h5, hy]; rfl)⟩, by omega, by omega⟩⟩
  rw [hF, all_no (s := s) 0 hs (by rw [h5, hy]; rfl)]
 ·rw [hF, all_full (le_of_y e3 hs) h2]
theorem ok155 : DOk Tryz.prog 155 c155 :=
 DOk.of' (l := []) (A := a155) tabOk trivial Tryz.func155 (by kernel_rfl) (by kernel_rfl) fun x hw hp => b155 x.1 x.2.1 hw.2.1.1
theorem elems_len (r : RoadD) : (fElems r).length = r.2.2.2.1.length := by unfold fElems; rw [List.length_map]
theorem fair_eq (b : RBookD) (r : RoadD) : fFair b r = (!decide (r.2.2.2.1.length = 0) && (fInAll b (fElems r) && (fInAll b r.2.2.2.2.2.2.1 && (allTo (stepFair r) r.2.2.2.1.length && allTo (needFair b r) (fNeedsAll r).length)))) := by unfold fFair; rfl
theorem v138 (b : RBookD) (r : RoadD) : bodyVC (ctxOf tab [(33, c33d), (155, c155), (16, c16)]) Tryz.f138 c138 (a138 (b, r, ())) (b, r, ()) = (
lett ((↑(fElems r).length : Int) == (0 : Int)) fun (y2 : Bool) =>
lett (bif y2 then true else !fInAll b (fElems r)) fun (y3 : Bool) =>
lett (bif y3 then true else !fInAll b r.2.2.2.2.2.2.1) fun (y4 : Bool) =>
lett (List.replicate (0 : Nat) ((0 : Int), (0 : Int)) ++ r.2.2.2.2.1) fun (y5 : List (Int × Int)) =>
lett (y5 ++ r.2.2.2.2.2.1) fun (y6 : List (Int × Int)) =>
r.2.2.2.1.length ≤ (1000000 : Nat) ∧
(y2 = false → True) ∧
(y3 = false → True) ∧
(y4 = true → false = fFair b r ∧ True) ∧
(y4 = false →
(∃ (s07 : Nat),
(s07 ≤ r.2.2.2.1.length ∧ allOf (stepFair r) s07) ∧
(↑s07 : Int) = (0 : Int) ∧
[b] = [b] ∧
(0 : Nat) = (0 : Nat) ∧
fElems r = fElems r ∧
keepP r (True)) ∧
∀ (s7 : Nat),
lett (decide ((↑s7 : Int) < (↑(fElems r).length : Int))) fun (y8 : Bool) =>
lett ((fElems r).getD (↑s7 : Int).toNat (0 : Int)) fun (y9 : Int) =>
lett (fMem (List.take (↑s7 : Int).toNat (fElems r)) y9) fun (y10 : Bool) =>
lett (bif y10 then true else fMem r.2.2.2.2.2.2.1 y9) fun (y11 : Bool) =>
s7 ≤ r.2.2.2.1.length ∧ allOf (stepFair r) s7 →
(y8 = true →
((0 : Int) ≤ (↑s7 : Int) ∧ (↑s7 : Int) ≤ (↑(fElems r).length : Int)) ∧
InB (↑s7 : Int) (fElems r).length ∧
True ∧
(y10 = false → InB (↑s7 : Int) (fElems r).length) ∧
(y10 = false → True) ∧
(y11 = true → false = fFair b r ∧ True) ∧
(y11 = false →
InR IntKind.i64 ((↑s7 : Int) + (1 : Int)) ∧
∃ (s'12 : Nat),
(s'12 ≤ r.2.2.2.1.length ∧ allOf (stepFair r) s'12) ∧
r.2.2.2.1.length - s'12 < r.2.2.2.1.length - s7 ∧
(↑s'12 : Int) = (↑s7 : Int) + (1 : Int) ∧
[b] = [b] ∧
(0 : Nat) = (0 : Nat) ∧
fElems r = fElems r ∧
keepP r (True))) ∧
(y8 = false →
roomFor ((List.replicate (0 : Nat) ((0 : Int), (0 : Int))).length + r.2.2.2.2.1.length) (16 : Nat) ∧
roomFor (y5.length + r.2.2.2.2.2.1.length) (16 : Nat) ∧
(∃ (s012 : Nat), (s012 ≤ (fNeedsAll r).length ∧ allOf (needFair b r) s012) ∧ (↑s012 : Int) = (0 : Int) ∧ [b] = [b] ∧ (0 : Nat) = (0 : Nat) ∧ y6 = y6 ∧ True) ∧
∀ (s12 : Nat),
lett (decide ((↑s12 : Int) < (↑y6.length : Int))) fun (y13 : Bool) =>
lett (y6.getD (↑s12 : Int).toNat ((0 : Int), (0 : Int))) fun (y14 : Int × Int) =>
lett (!fInAll b ((List.replicate (1 : Nat) (0 : Int)).set (0 : Nat) y14.1)) fun (y15 : Bool) =>
lett (bif y15 then true else bif y14.2 != (1 : Int) then y14.2 != (2 : Int) else false) fun (y16 : Bool) =>
s12 ≤ (fNeedsAll r).length ∧ allOf (needFair b r) s12 →
(y13 = true →
InB (↑s12 : Int) y6.length ∧
True ∧
(y15 = false → InB (↑s12 : Int) y6.length) ∧
(y15 = false → (y14.2 != (1 : Int)) = true → InB (↑s12 : Int) y6.length) ∧
(y16 = true → false = fFair b r ∧ True) ∧
(y16 = false →
(∃ (s017 : Nat),
(s017 ≤ (↑s12 : Int).toNat ∧ noneOf (needClash r (↑s12 : Int).toNat) s017) ∧
(↑s017 : Int) = (0 : Int) ∧ [b] = [b] ∧ (0 : Nat) = (0 : Nat) ∧ (↑s12 : Int) = (↑s12 : Int) ∧ y6 = y6 ∧ True) ∧
∀ (s17 : Nat),
lett (decide ((↑s17 : Int) < (↑s12 : Int))) fun (y18 : Bool) =>
lett (y6.getD (↑s17 : Int).toNat ((0 : Int), (0 : Int))) fun (y19 : Int × Int) =>
lett (bif y19.1 == y14.1 then y19.2 != y14.2 else false) fun (y20 : Bool) =>
s17 ≤ (↑s12 : Int).toNat ∧ noneOf (needClash r (↑s12 : Int).toNat) s17 →
(y18 = true →
InB (↑s17 : Int) y6.length ∧
InB (↑s12 : Int) y6.length ∧
((y19.1 == y14.1) = true → InB (↑s17 : Int) y6.length) ∧
((y19.1 == y14.1) = true → InB (↑s12 : Int) y6.length) ∧
(y20 = true → false = fFair b r ∧ True) ∧
(y20 = false →
InR IntKind.i64 ((↑s17 : Int) + (1 : Int)) ∧
∃ (s'21 : Nat),
(s'21 ≤ (↑s12 : Int).toNat ∧ noneOf (needClash r (↑s12 : Int).toNat) s'21) ∧
(↑s12 : Int).toNat - s'21 < (↑s12 : Int).toNat - s17 ∧
(↑s'21 : Int) = (↑s17 : Int) + (1 : Int) ∧
[b] = [b] ∧ (0 : Nat) = (0 : Nat) ∧ (↑s12 : Int) = (↑s12 : Int) ∧ y6 = y6 ∧ True)) ∧
(y18 = false →
InR IntKind.i64 ((↑s12 : Int) + (1 : Int)) ∧
∃ (s'21 : Nat),
(s'21 ≤ (fNeedsAll r).length ∧ allOf (needFair b r) s'21) ∧
(fNeedsAll r).length - s'21 < (fNeedsAll r).length - s12 ∧
(↑s'21 : Int) = (↑s12 : Int) + (1 : Int) ∧ [b] = [b] ∧ (0 : Nat) = (0 : Nat) ∧ y6 = y6 ∧ True))) ∧
(y13 = false → true = fFair b r ∧ True)))) := by kernel_rfl
theorem b138 (b : RBookD) (r : RoadD) (h : roadSmall r) : bodyVC (ctxOf tab [(33, c33d), (155, c155), (16, c16)]) Tryz.f138 c138 (a138 (b, r, ())) (b, r, ()) := by
 rw [v138]
 obtain ⟨l1, l2, l3⟩ := h
 have hel := elems_len r
 refine lett.mk fun y2 e2 => lett.mk fun y3 e3 => lett.mk fun y4 e4 => lett.mk fun y5 e5 => lett.mk fun y6 e6 => ?_
 have e5 : y5 = r.2.2.2.2.1 := e5
 have e6 : y6 = fNeedsAll r := by rw [e6, e5]; unfold fNeedsAll; rfl
 have hnl := all_len2 r
 rw [eqN' _ 0 0 rfl, hel] at e2
 have hF : fFair b r = (!y4 && (allTo (stepFair r) r.2.2.2.1.length && allTo (needFair b r) (fNeedsAll r).length)) := by
  rw [fair_eq, e4, e3, ← e2]
  cases y2 <;> cases fInAll b (fElems r) <;> cases fInAll b r.2.2.2.2.2.2.1 <;> rfl
 rw [hF]
 simp only [keepP_eq, true_and, and_true, eq_self]
 refine ⟨by omega, fun _ => trivial, fun _ => trivial, fun h4 => by rw [h4]; rfl, fun h4 => ⟨⟨0, ⟨by omega, rfl⟩, by omega⟩, fun s => lett.mk fun y8 e8 => lett.mk fun y9 e9 => lett.mk fun y10 e10 => lett.mk fun y11 e11 => ?_⟩⟩
 rw [h4]
 rintro ⟨h1, h2⟩
 have h2 : allTo (stepFair r) s = true := h2
 rw [Int.toNat_natCast] at e9 e10
 refine ⟨fun hs => ?_, fun hs => ?_⟩
 ·have hs := lt_of_y e8 hs
  rw [hel] at hs
  have h11 : stepFair r s = !y11 := by
   rw [e11, e10, e9]
   unfold stepFair elemAt
   cases fMem ((fElems r).take s) ((fElems r).getD s 0) <;> rfl
  refine ⟨⟨by omega, by omega⟩, ⟨by omega, by omega⟩, fun _ => ⟨by omega, by omega⟩, fun _ => trivial, fun hy => ?_, fun hy => ⟨inR64 (by omega) (by omega), s + 1, ⟨by omega, allTo_succ h2 (by rw [h11, hy]; rfl)⟩, by omega, by omega⟩⟩
  rw [allTo_no hs (by rw [h11, hy]; rfl)]
  rfl
 ·have hs := le_of_y e8 hs
  have : s = r.2.2.2.1.length := by omega
  subst this
  rw [h2, e6, e5]
  refine ⟨roomB (by show 0 + _ ≤ _; omega) (by omega), roomB (by omega) (by omega), ⟨0, ⟨by omega, rfl⟩, by omega⟩, fun t => lett.mk fun y13 e13 => lett.mk fun y14 e14 => lett.mk fun y15 e15 => lett.mk fun y16 e16 => ?_⟩
  rintro ⟨h3, h5⟩
  have h5 : allTo (needFair b r) t = true := h5
  rw [Int.toNat_natCast] at e14
  have e14 : y14 = needAt r t := e14
  have e15 : y15 = !fInAll b [y14.1] := e15
  refine ⟨fun ht => ?_, fun ht => ?_⟩
  ·have ht := lt_of_y e13 ht
   rw [Int.toNat_natCast]
   have h16 : needFair b r t = (!y16 && !anyTo (needClash r t) t) := by
    unfold needFair
    rw [← e14, e16, e15]
    cases fInAll b [y14.1] <;> cases hx : (y14.2 == 1) <;> cases hz : (y14.2 == 2) <;> simp [hx, hz, bne]
   refine ⟨⟨by omega, by omega⟩, fun _ => ⟨by omega, by omega⟩, fun _ _ => ⟨by omega, by omega⟩, fun hy => ?_, fun hy => ⟨⟨0, ⟨by omega, rfl⟩, by omega⟩, fun k => lett.mk fun y18 e18 => lett.mk fun y19 e19 => lett.mk fun y20 e20 => ?_⟩⟩
   ·rw [allTo_no ht (by rw [h16, hy]; rfl)]
    rfl
   ·rintro ⟨h6, h7⟩
    have h7 : anyTo (needClash r t) k = false := h7
    rw [Int.toNat_natCast] at e19
    have e19 : y19 = needAt r k := e19
    have h20 : needClash r t k = y20 := by
     unfold needClash
     rw [← e19, ← e14, e20]
     unfold clash
     cases y19.1 == y14.1 <;> rfl
    refine ⟨fun hk => ?_, fun hk => ?_⟩
    ·have hk := lt_of_y e18 hk
     refine ⟨⟨by omega, by omega⟩, ⟨by omega, by omega⟩, fun _ => ⟨by omega, by omega⟩, fun _ => ⟨by omega, by omega⟩, fun hz => ?_, fun hz => ⟨inR64 (by omega) (by omega), k + 1, ⟨by omega, anyTo_succ h7 (by rw [h20]; exact hz)⟩, by omega, by omega⟩⟩
     rw [allTo_no ht (by rw [h16, anyTo_yes hk (by rw [h20]; exact hz)]; simp)]
     rfl
    ·have hk := le_of_y e18 hk
     have : k = t := by omega
     subst this
     exact ⟨inR64 (by omega) (by omega), k + 1, ⟨by omega, allTo_succ h5 (by rw [h16, hy, h7]; rfl)⟩, by omega, by omega⟩
  ·have ht := le_of_y e13 ht
   have : t = (fNeedsAll r).length := by omega
   subst this
   rw [h5]
   rfl
theorem ok138 : DOk Tryz.prog 138 c138 :=
 DOk.of' (l := [(33, c33d), (155, c155), (16, c16)]) (A := a138) tabOk ⟨ok33d, ok155, ok16, trivial⟩ Tryz.func138 (by kernel_rfl) (by kernel_rfl) fun x hw hp => b138 x.1 x.2.1 hp
theorem v139 (b : RBookD) (e : Int) : bodyVC (ctxOf tab [(16, c16)]) Tryz.f139 c139 (a139 (b, e, ())) (b, e, ()) = (
lett ((0 : Int), [], [], [], []) fun (y2 : HasD) =>
(∃ (s03 : Nat), (s03 ≤ b.2.length ∧ (List.take s03 b.2).any (hasSteps e) = false) ∧ (↑s03 : Int) = (0 : Int) ∧ [b] = [b] ∧ (0 : Nat) = (0 : Nat) ∧ e = e ∧ True) ∧
∀ (s3 : Nat),
lett (decide ((↑s3 : Int) < (↑b.2.length : Int))) fun (y4 : Bool) =>
lett (b.2.getD (↑s3 : Int).toNat y2) fun (y5 : HasD) =>
s3 ≤ b.2.length ∧ (List.take s3 b.2).any (hasSteps e) = false →
(y4 = true →
InB (↑s3 : Int) b.2.length ∧
True ∧
(fMem y5.2.1 e = true → InB (↑s3 : Int) b.2.length ∧ y5.1 = fOwnerR b e ∧ True) ∧
(fMem y5.2.1 e = false →
InR IntKind.i64 ((↑s3 : Int) + (1 : Int)) ∧
∃ (s'6 : Nat),
(s'6 ≤ b.2.length ∧ (List.take s'6 b.2).any (hasSteps e) = false) ∧
b.2.length - s'6 < b.2.length - s3 ∧ (↑s'6 : Int) = (↑s3 : Int) + (1 : Int) ∧ [b] = [b] ∧ (0 : Nat) = (0 : Nat) ∧ e = e ∧ True)) ∧
(y4 = false → (-1 : Int) = fOwnerR b e ∧ True)) := by kernel_rfl
theorem b139 (b : RBookD) (e : Int) (hw : b.2.length ≤ maxLenI) : bodyVC (ctxOf tab [(16, c16)]) Tryz.f139 c139 (a139 (b, e, ())) (b, e, ()) := by
 rw [v139]
 refine lett.mk fun y2 e2 => ?_
 simp only [true_and, and_true, eq_self]
 refine ⟨⟨0, ⟨by omega, by simp⟩, by omega⟩, fun s => lett.mk fun y4 e4 => lett.mk fun y5 e5 => ?_⟩
 rintro ⟨h1, h2⟩
 rw [Int.toNat_natCast, e2] at e5
 have e5 : y5 = b.2.getD s zH := e5
 have hs5 : fMem y5.2.1 e = hasSteps e (b.2.getD s zH) := by rw [e5]; rfl
 refine ⟨fun hs => ?_, fun hs => ?_⟩
 ·have hs := lt_of_y e4 hs
  refine ⟨⟨by omega, by omega⟩, fun hy => ⟨⟨by omega, by omega⟩, ?_⟩, fun hy => ⟨inRlen hs hw, s + 1, ⟨by omega, any_succ zH hs h2 (by rw [← hs5]; exact hy)⟩, by omega, by omega⟩⟩
  unfold fOwnerR
  rw [find_at zH hs h2 (by rw [← hs5]; exact hy), e5]
  rfl
 ·unfold fOwnerR
  rw [find_none (le_of_y e4 hs) h2]
  rfl
theorem ok139 : DOk Tryz.prog 139 c139 :=
 DOk.of' (l := [(16, c16)]) (A := a139) tabOk ⟨ok16, trivial⟩ Tryz.func139 (by kernel_rfl) (by kernel_rfl) fun x hw hp => b139 x.1 x.2.1 hw.1.2.1
theorem zones_succ (e : Int) {l : List HasD} {s : Nat} (h : s < l.length) : zonesUp e l (s + 1) = zonesUp e l s ++ (bif hasZone e (l.getD s zH) then [(l.getD s zH).1] else []) := by
 unfold zonesUp
 rw [take_succ' zH h, List.filter_append, List.map_append]
 congr 1
 cases hh : hasZone e (l.getD s zH)
 ·rw [List.filter_cons_of_neg (by rw [hh]; decide)]; rfl
 ·rw [List.filter_cons_of_pos hh]; rfl
theorem zones_len (e : Int) (l : List HasD) (s : Nat) : (zonesUp e l s).length ≤ s := by
 unfold zonesUp
 rw [List.length_map]
 have := List.length_filter_le (hasZone e) (l.take s)
 rw [List.length_take] at this
 omega
theorem v140 (b : RBookD) (e : Int) : bodyVC (ctxOf tab [(16, c16)]) Tryz.f140 c140 (a140 (b, e, ())) (b, e, ()) = (
lett ((0 : Int), [], [], [], []) fun (y2 : HasD) =>
(∃ (s03 : Nat), s03 ≤ b.2.length ∧ (↑s03 : Int) = (0 : Int) ∧ [b] = [b] ∧ (0 : Nat) = (0 : Nat) ∧ e = e ∧ zonesUp e b.2 s03 = [] ∧ True) ∧
∀ (s3 : Nat),
lett (decide ((↑s3 : Int) < (↑b.2.length : Int))) fun (y4 : Bool) =>
lett (b.2.getD (↑s3 : Int).toNat y2) fun (y5 : HasD) =>
lett (fMem y5.2.2.1 e) fun (y6 : Bool) =>
lett ((List.replicate (1 : Nat) (0 : Int)).set (0 : Nat) y5.1) fun (y7 : List Int) =>
s3 ≤ b.2.length →
(y4 = true →
InB (↑s3 : Int) b.2.length ∧
True ∧
(y6 = true →
InB (↑s3 : Int) b.2.length ∧
roomFor ((zonesUp e b.2 s3).length + y7.length) (8 : Nat) ∧
InR IntKind.i64 ((↑s3 : Int) + (1 : Int)) ∧
∃ (s'8 : Nat),
s'8 ≤ b.2.length ∧
b.2.length - s'8 < b.2.length - s3 ∧
(↑s'8 : Int) = (↑s3 : Int) + (1 : Int) ∧ [b] = [b] ∧ (0 : Nat) = (0 : Nat) ∧ e = e ∧ zonesUp e b.2 s'8 = zonesUp e b.2 s3 ++ y7 ∧ True) ∧
(y6 = false →
InR IntKind.i64 ((↑s3 : Int) + (1 : Int)) ∧
∃ (s'8 : Nat),
s'8 ≤ b.2.length ∧
b.2.length - s'8 < b.2.length - s3 ∧
(↑s'8 : Int) = (↑s3 : Int) + (1 : Int) ∧ [b] = [b] ∧ (0 : Nat) = (0 : Nat) ∧ e = e ∧ zonesUp e b.2 s'8 = zonesUp e b.2 s3 ∧ True)) ∧
(y4 = false → zonesUp e b.2 s3 = fZonesR b e ∧ True)) := by kernel_rfl
theorem b140 (b : RBookD) (e : Int) (hw : b.2.length ≤ 1000) : bodyVC (ctxOf tab [(16, c16)]) Tryz.f140 c140 (a140 (b, e, ())) (b, e, ()) := by
 rw [v140]
 refine lett.mk fun y2 e2 => ?_
 simp only [true_and, and_true, eq_self]
 refine ⟨⟨0, by omega, by omega, rfl⟩, fun s => lett.mk fun y4 e4 => lett.mk fun y5 e5 => lett.mk fun y6 e6 => lett.mk fun y7 e7 => fun h1 => ⟨fun hs => ?_, fun hs => ?_⟩⟩
 ·have hs := lt_of_y e4 hs
  rw [Int.toNat_natCast, e2] at e5
  have e5 : y5 = b.2.getD s zH := e5
  have h6 : hasZone e (b.2.getD s zH) = y6 := by rw [e6, e5]; rfl
  have hl := zones_len e b.2 s
  refine ⟨⟨by omega, by omega⟩, fun hy => ⟨⟨by omega, by omega⟩, roomB (by rw [e7]; show _ + 1 ≤ _; omega) (by omega), inR64 (by omega) (by omega), s + 1, by omega, by omega, by omega, ?_⟩, fun hy => ⟨inR64 (by omega) (by omega), s + 1, by omega, by omega, by omega, ?_⟩⟩
  ·rw [zones_succ e hs, h6, hy, e7, e5]; rfl
  ·rw [zones_succ e hs, h6, hy]; exact List.append_nil _
 ·have hs := le_of_y e4 hs
  have : s = b.2.length := by omega
  subst this
  unfold fZonesR
  rfl
theorem ok140 : DOk Tryz.prog 140 c140 :=
 DOk.of' (l := [(16, c16)]) (A := a140) tabOk ⟨ok16, trivial⟩ Tryz.func140 (by kernel_rfl) (by kernel_rfl) fun x hw hp => b140 x.1 x.2.1 hp
theorem held_count (l : List HasD) (e : Int) : ∀ k, 0 ≤ (heldUp l e k).2 ∧ (heldUp l e k).2 ≤ (k : Int)
 | 0 => ⟨Int.le_refl _, Int.le_refl _⟩
 | k + 1 => by
  have ih := held_count l e k
  show 0 ≤ (heldStep (heldUp l e k) _).2 ∧ (heldStep (heldUp l e k) _).2 ≤ _
  cases heldIn (l.getD k zH) e with
  | none => exact ⟨ih.1, by show (heldUp l e k).2 ≤ _; omega⟩
  | some u => exact ⟨by show 0 ≤ (heldUp l e k).2 + 1; omega, by show (heldUp l e k).2 + 1 ≤ _; omega⟩
theorem v141 (b : RBookD) (e : Int) : bodyVC (ctxOf tab []) Tryz.f141 c141 (a141 (b, e, ())) (b, e, ()) = (
lett ((0 : Int), [], [], [], []) fun (y2 : HasD) =>
(∃ (s03 : Nat), s03 ≤ b.2.length ∧ (↑s03 : Int) = (0 : Int) ∧ (heldUp b.2 e s03).1 = (0 : Int) ∧ (heldUp b.2 e s03).2 = (0 : Int) ∧ [b] = [b] ∧ (0 : Nat) = (0 : Nat) ∧ e = e ∧ True) ∧
∀ (s3 : Nat),
lett (decide ((↑s3 : Int) < (↑b.2.length : Int))) fun (y4 : Bool) =>
lett (b.2.getD (↑s3 : Int).toNat y2).2.2.2 fun (y5 : List (Int × Int) × List (Int × Int)) =>
lett (List.replicate (0 : Nat) ((0 : Int), (0 : Int)) ++ y5.1) fun (y6 : List (Int × Int)) =>
lett (heldNeeds (b.2.getD (↑s3 : Int).toNat zH)) fun (y7 : List NeedD) =>
lett (heldUp b.2 e s3).1 fun (y8 : Int) =>
lett (heldUp b.2 e s3).2 fun (y9 : Int) =>
s3 ≤ b.2.length →
(y4 = true →
InB (↑s3 : Int) b.2.length ∧
roomFor ((List.replicate (0 : Nat) ((0 : Int), (0 : Int))).length + y5.1.length) (16 : Nat) ∧
InB (↑s3 : Int) b.2.length ∧
roomFor (y6.length + y5.2.length) (16 : Nat) ∧
(∃ (s010 : Nat),
(s010 ≤ y7.length ∧ ((List.take s010 y7).any fun (n : NeedD) => n.1 == e) = false) ∧
(↑s010 : Int) = (0 : Int) ∧ [b] = [b] ∧ (0 : Nat) = (0 : Nat) ∧ e = e ∧ y8 = y8 ∧ y9 = y9 ∧ (↑s3 : Int) = (↑s3 : Int) ∧ y6 ++ y5.2 = y6 ++ y5.2 ∧ True) ∧
∀ (s10 : Nat),
lett (decide ((↑s10 : Int) < (↑(y6 ++ y5.2).length : Int))) fun (y11 : Bool) =>
lett ((y6 ++ y5.2).getD (↑s10 : Int).toNat ((0 : Int), (0 : Int))) fun (y12 : Int × Int) =>
s10 ≤ y7.length ∧ ((List.take s10 y7).any fun (n : NeedD) => n.1 == e) = false →
(y11 = true →
InB (↑s10 : Int) (y6 ++ y5.2).length ∧
((y12.1 == e) = true →
InB (↑s10 : Int) (y6 ++ y5.2).length ∧
InR IntKind.i64 (y9 + (1 : Int)) ∧
InR IntKind.i64 ((↑s3 : Int) + (1 : Int)) ∧
∃ (s'13 : Nat),
s'13 ≤ b.2.length ∧
b.2.length - s'13 < b.2.length - s3 ∧
(↑s'13 : Int) = (↑s3 : Int) + (1 : Int) ∧
(heldUp b.2 e s'13).1 = y12.2 ∧ (heldUp b.2 e s'13).2 = y9 + (1 : Int) ∧ [b] = [b] ∧ (0 : Nat) = (0 : Nat) ∧ e = e ∧ True) ∧
((y12.1 == e) = false →
InR IntKind.i64 ((↑s10 : Int) + (1 : Int)) ∧
∃ (s'13 : Nat),
(s'13 ≤ y7.length ∧ ((List.take s'13 y7).any fun (n : NeedD) => n.1 == e) = false) ∧
y7.length - s'13 < y7.length - s10 ∧
(↑s'13 : Int) = (↑s10 : Int) + (1 : Int) ∧
[b] = [b] ∧ (0 : Nat) = (0 : Nat) ∧ e = e ∧ y8 = y8 ∧ y9 = y9 ∧ (↑s3 : Int) = (↑s3 : Int) ∧ y6 ++ y5.2 = y6 ++ y5.2 ∧ True)) ∧
(y11 = false →
InR IntKind.i64 ((↑s3 : Int) + (1 : Int)) ∧
∃ (s'13 : Nat),
s'13 ≤ b.2.length ∧
b.2.length - s'13 < b.2.length - s3 ∧
(↑s'13 : Int) = (↑s3 : Int) + (1 : Int) ∧
(heldUp b.2 e s'13).1 = y8 ∧ (heldUp b.2 e s'13).2 = y9 ∧ [b] = [b] ∧ (0 : Nat) = (0 : Nat) ∧ e = e ∧ True)) ∧
(y4 = false → y8 = (fHeldR b e).1 ∧ y9 = (fHeldR b e).2 ∧ True)) := by kernel_rfl
theorem b141 (b : RBookD) (e : Int) (hb : RSmall b) : bodyVC (ctxOf tab []) Tryz.f141 c141 (a141 (b, e, ())) (b, e, ()) := by
 rw [v141]
 have hw := hb.len
 refine lett.mk fun y2 e2 => ?_
 simp only [true_and, and_true, eq_self]
 refine ⟨⟨0, by omega, by omega, rfl, rfl⟩, fun s => lett.mk fun y4 e4 => lett.mk fun y5 e5 => lett.mk fun y6 e6 => lett.mk fun y7 e7 => lett.mk fun y8 e8 => lett.mk fun y9 e9 => fun h1 => ⟨fun hs => ?_, fun hs => ?_⟩⟩
 ·have hs := lt_of_y e4 hs
  rw [Int.toNat_natCast, e2] at e5
  rw [Int.toNat_natCast] at e7
  have e5 : y5 = (b.2.getD s zH).2.2.2 := e5
  have hn := hb.needs _ (mem_getD zH hs)
  have e6 : y6 = y5.1 := e6
  have h7 : y6 ++ y5.2 = y7 := by rw [e6, e5, e7]; rfl
  have hl1 : y5.1.length ≤ 1000 := by rw [e5]; exact hn.1
  have hl2 : y5.2.length ≤ 1000 := by rw [e5]; exact hn.2
  have hl6 : y6.length ≤ 1000 := by rw [e6]; exact hl1
  have hc := held_count b.2 e s
  rw [← e9] at hc
  have hl7 : y7.length ≤ 2000 := by rw [← h7, List.length_append]; omega
  have hstep : heldUp b.2 e (s + 1) = heldStep (heldUp b.2 e s) (heldIn (b.2.getD s zH) e) := rfl
  rw [h7]
  refine ⟨⟨by omega, by omega⟩, roomB (by show 0 + _ ≤ _; omega) (by omega), ⟨by omega, by omega⟩, roomB (by omega) (by omega), ⟨0, ⟨by omega, by simp⟩, by omega⟩, fun k => lett.mk fun y11 e11 => lett.mk fun y12 e12 => ?_⟩
  rintro ⟨h2, h3⟩
  rw [Int.toNat_natCast] at e12
  refine ⟨fun hk => ?_, fun hk => ?_⟩
  ·have hk := lt_of_y e11 hk
   refine ⟨⟨by omega, by omega⟩, fun hy => ⟨⟨by omega, by omega⟩, inR64 (by omega) (by omega), inR64 (by omega) (by omega), s + 1, by omega, by omega, by omega, ?_⟩, fun hy => ⟨inR64 (by omega) (by omega), k + 1, ⟨by omega, any_succ (0, 0) hk h3 (by rw [← e12]; exact hy)⟩, by omega, by omega⟩⟩
   have hh : heldIn (b.2.getD s zH) e = some y12 := by
    unfold heldIn
    rw [← e7, e12]
    exact find_at (0, 0) hk h3 (by rw [← e12]; exact hy)
   rw [hstep, hh, e9]
   exact ⟨rfl, rfl⟩
  ·have hk := le_of_y e11 hk
   have hh : heldIn (b.2.getD s zH) e = none := by
    unfold heldIn
    rw [← e7]
    exact find_none hk h3
   refine ⟨inR64 (by omega) (by omega), s + 1, by omega, by omega, by omega, ?_⟩
   rw [hstep, hh, e8, e9]
   exact ⟨rfl, rfl⟩
 ·have hs := le_of_y e4 hs
  have : s = b.2.length := by omega
  subst this
  rw [e8, e9]
  unfold fHeldR
  exact ⟨rfl, rfl⟩
theorem ok141 : DOk Tryz.prog 141 c141 :=
 DOk.of' (l := []) (A := a141) tabOk trivial Tryz.func141 (by kernel_rfl) (by kernel_rfl) fun x hw hp => b141 x.1 x.2.1 hp
theorem mayR_eq (b : RBookD) (o : Int) (r : RoadD) : fMayR b o r = bif decide (o < 0) || (decide (0 ≤ fFind (fun h => h.1 == o) b.2) || !fFair b r) then 1 else bif (fElems r).any (elemTaken b) then 14 else
  bif r.2.2.2.2.2.2.1.any (fun e => decide (0 ≤ fOwnerR b e)) then 14 else bif (fNeedsAll r).any (heldBadR b) then 15 else 0 := by unfold fMayR; rfl
theorem v110 (b : RBookD) (o : Int) (r : RoadD) : bodyVC (ctxOf tab [(137, c137), (138, c138), (33, c33d), (139, c139), (140, c140), (141, c141)]) Tryz.f110 c110 (a110 (b, o, r, ())) (b, o, r, ()) = (
lett (fFind (fun (h : HasD) => h.1 == o) b.2) fun (y3 : Int) =>
lett (bif decide (o < (0 : Int)) then true else decide (y3 ≥ (0 : Int))) fun (y4 : Bool) =>
lett (bif y4 then true else !fFair b r) fun (y5 : Bool) =>
lett (List.replicate (0 : Nat) ((0 : Int), (0 : Int)) ++ r.2.2.2.2.1) fun (y6 : List (Int × Int)) =>
lett (y6 ++ r.2.2.2.2.2.1) fun (y7 : List (Int × Int)) =>
(decide (o < (0 : Int)) = false → True) ∧
(y4 = false → roadSmall r) ∧
(y5 = true → (1 : Int) = fMayR b o r ∧ True) ∧
(y5 = false →
r.2.2.2.1.length ≤ (1000000 : Nat) ∧
(∃ (s08 : Nat),
(s08 ≤ (fElems r).length ∧ (List.take s08 (fElems r)).any (elemTaken b) = false) ∧
(↑s08 : Int) = (0 : Int) ∧
[b] = [b] ∧
(0 : Nat) = (0 : Nat) ∧
fElems r = fElems r ∧
keepP r (True)) ∧
∀ (s8 : Nat),
lett (decide ((↑s8 : Int) < (↑(fElems r).length : Int))) fun (y9 : Bool) =>
lett ((fElems r).getD (↑s8 : Int).toNat (0 : Int)) fun (y10 : Int) =>
lett (decide (fOwnerR b y10 ≥ (0 : Int))) fun (y11 : Bool) =>
lett (bif y11 then true else decide ((↑(fZonesR b y10).length : Int) > (0 : Int))) fun (y12 : Bool) =>
s8 ≤ (fElems r).length ∧ (List.take s8 (fElems r)).any (elemTaken b) = false →
(y9 = true →
InB (↑s8 : Int) (fElems r).length ∧
True ∧
(y11 = false → InB (↑s8 : Int) (fElems r).length) ∧
(y11 = false → b.2.length ≤ (1000 : Nat)) ∧
(y12 = true → (14 : Int) = fMayR b o r ∧ True) ∧
(y12 = false →
InR IntKind.i64 ((↑s8 : Int) + (1 : Int)) ∧
∃ (s'13 : Nat),
(s'13 ≤ (fElems r).length ∧ (List.take s'13 (fElems r)).any (elemTaken b) = false) ∧
(fElems r).length - s'13 < (fElems r).length - s8 ∧
(↑s'13 : Int) = (↑s8 : Int) + (1 : Int) ∧
[b] = [b] ∧
(0 : Nat) = (0 : Nat) ∧
fElems r = fElems r ∧
keepP r (True))) ∧
(y9 = false →
(∃ (s013 : Nat),
(s013 ≤ r.2.2.2.2.2.2.1.length ∧
((List.take s013 r.2.2.2.2.2.2.1).any fun (e : Int) => decide ((0 : Int) ≤ fOwnerR b e)) = false) ∧
(↑s013 : Int) = (0 : Int) ∧
[b] = [b] ∧
(0 : Nat) = (0 : Nat) ∧
keepP r (True)) ∧
∀ (s13 : Nat),
lett (decide ((↑s13 : Int) < (↑r.2.2.2.2.2.2.1.length : Int))) fun (y14 : Bool) =>
lett (fOwnerR b (r.2.2.2.2.2.2.1.getD (↑s13 : Int).toNat (0 : Int))) fun (y15 : Int) =>
s13 ≤ r.2.2.2.2.2.2.1.length ∧
((List.take s13 r.2.2.2.2.2.2.1).any fun (e : Int) => decide ((0 : Int) ≤ fOwnerR b e)) = false →
(y14 = true →
InB (↑s13 : Int) r.2.2.2.2.2.2.1.length ∧
True ∧
(decide (y15 ≥ (0 : Int)) = true → (14 : Int) = fMayR b o r ∧ True) ∧
(decide (y15 ≥ (0 : Int)) = false →
InR IntKind.i64 ((↑s13 : Int) + (1 : Int)) ∧
∃ (s'16 : Nat),
(s'16 ≤ r.2.2.2.2.2.2.1.length ∧
((List.take s'16 r.2.2.2.2.2.2.1).any fun (e : Int) => decide ((0 : Int) ≤ fOwnerR b e)) = false) ∧
r.2.2.2.2.2.2.1.length - s'16 < r.2.2.2.2.2.2.1.length - s13 ∧
(↑s'16 : Int) = (↑s13 : Int) + (1 : Int) ∧
[b] = [b] ∧
(0 : Nat) = (0 : Nat) ∧
keepP r (True))) ∧
(y14 = false →
roomFor ((List.replicate (0 : Nat) ((0 : Int), (0 : Int))).length + r.2.2.2.2.1.length) (16 : Nat) ∧
roomFor (y6.length + r.2.2.2.2.2.1.length) (16 : Nat) ∧
(∃ (s016 : Nat),
(s016 ≤ (fNeedsAll r).length ∧ (List.take s016 (fNeedsAll r)).any (heldBadR b) = false) ∧
(↑s016 : Int) = (0 : Int) ∧ [b] = [b] ∧ (0 : Nat) = (0 : Nat) ∧ y7 = y7 ∧ True) ∧
∀ (s16 : Nat),
lett (decide ((↑s16 : Int) < (↑y7.length : Int))) fun (y17 : Bool) =>
lett (y7.getD (↑s16 : Int).toNat ((0 : Int), (0 : Int))) fun (y18 : Int × Int) =>
lett ((fHeldR b y18.1).1 != (0 : Int)) fun (y19 : Bool) =>
lett (bif y19 then (fHeldR b y18.1).1 != y18.2 else false) fun (y20 : Bool) =>
s16 ≤ (fNeedsAll r).length ∧ (List.take s16 (fNeedsAll r)).any (heldBadR b) = false →
(y17 = true →
InB (↑s16 : Int) y7.length ∧
RSmall b ∧
(y19 = true → InB (↑s16 : Int) y7.length) ∧
(y20 = true → (15 : Int) = fMayR b o r ∧ True) ∧
(y20 = false →
InR IntKind.i64 ((↑s16 : Int) + (1 : Int)) ∧
∃ (s'21 : Nat),
(s'21 ≤ (fNeedsAll r).length ∧ (List.take s'21 (fNeedsAll r)).any (heldBadR b) = false) ∧
(fNeedsAll r).length - s'21 < (fNeedsAll r).length - s16 ∧
(↑s'21 : Int) = (↑s16 : Int) + (1 : Int) ∧ [b] = [b] ∧ (0 : Nat) = (0 : Nat) ∧ y7 = y7 ∧ True)) ∧
(y17 = false → (0 : Int) = fMayR b o r ∧ True))))) := by kernel_rfl
theorem b110 (b : RBookD) (o : Int) (r : RoadD) (hb : RSmall b) (h : roadSmall r) (hz : r.2.2.2.2.2.2.1.length ≤ maxLenI) : bodyVC (ctxOf tab [(137, c137), (138, c138), (33, c33d), (139, c139), (140, c140), (141, c141)]) Tryz.f110 c110 (a110 (b, o, r, ())) (b, o, r, ()) := by
 rw [v110, mayR_eq]
 have hr := h
 obtain ⟨l1, l2, l3⟩ := h
 have hel := elems_len r
 have hnl := all_len2 r
 refine lett.mk fun y3 e3 => lett.mk fun y4 e4 => lett.mk fun y5 e5 => lett.mk fun y6 e6 => lett.mk fun y7 e7 => ?_
 have e6 : y6 = r.2.2.2.2.1 := e6
 have e7 : y7 = fNeedsAll r := by rw [e7, e6]; unfold fNeedsAll; rfl
 have h5 : (decide (o < 0) || (decide (0 ≤ fFind (fun h : HasD => h.1 == o) b.2) || !fFair b r)) = y5 := by
  rw [e5, e4, e3]
  show _ = (bif (bif decide (o < 0) then true else decide (0 ≤ fFind (fun h : HasD => h.1 == o) b.2)) then true else !fFair b r)
  cases decide (o < 0) <;> cases decide (0 ≤ fFind (fun h : HasD => h.1 == o) b.2) <;> rfl
 rw [h5, e7, e6]
 simp only [keepP_eq, true_and, and_true, eq_self]
 refine ⟨fun _ => trivial, fun _ => hr, fun h4 => by rw [h4]; rfl, fun h4 => ⟨by omega, ⟨0, ⟨by omega, by simp⟩, by omega⟩, fun s => lett.mk fun y9 e9 => lett.mk fun y10 e10 => lett.mk fun y11 e11 => lett.mk fun y12 e12 => ?_⟩⟩
 rw [h4]
 rintro ⟨h1, h2⟩
 rw [Int.toNat_natCast] at e10
 refine ⟨fun hs => ?_, fun hs => ?_⟩
 ·have hs := lt_of_y e9 hs
  have h12 : elemTaken b ((fElems r).getD s 0) = y12 := by
   rw [← e10, e12, e11]
   unfold elemTaken
   show (decide (0 ≤ fOwnerR b y10) || decide (0 < (fZonesR b y10).length)) = (bif decide (0 ≤ fOwnerR b y10) then true else decide ((0 : Int) < ((fZonesR b y10).length : Int)))
   rw [show decide ((0 : Int) < ((fZonesR b y10).length : Int)) = decide (0 < (fZonesR b y10).length) from decide_eq_decide.2 (by omega)]
   cases decide (0 ≤ fOwnerR b y10) <;> rfl
  refine ⟨⟨by omega, by omega⟩, fun _ => ⟨by omega, by omega⟩, fun _ => hb.len, fun hy => ?_, fun hy => ⟨inR64 (by omega) (by omega), s + 1, ⟨by omega, any_succ 0 hs h2 (by rw [h12]; exact hy)⟩, by omega, by omega⟩⟩
  rw [any_yes (s := s) 0 hs (by rw [h12]; exact hy)]
  rfl
 ·have hs := le_of_y e9 hs
  rw [any_full hs h2]
  refine ⟨⟨0, ⟨by omega, by simp⟩, by omega⟩, fun t => lett.mk fun y14 e14 => lett.mk fun y15 e15 => ?_⟩
  rintro ⟨h3, h6⟩
  rw [Int.toNat_natCast] at e15
  refine ⟨fun ht => ?_, fun ht => ?_⟩
  ·have ht := lt_of_y e14 ht
   have h15 : decide (0 ≤ fOwnerR b (r.2.2.2.2.2.2.1.getD t 0)) = decide (y15 ≥ 0) := by rw [e15]
   refine ⟨⟨by omega, by omega⟩, fun hy => ?_, fun hy => ⟨inRlen ht hz, t + 1, ⟨by omega, any_succ 0 ht h6 (by rw [h15]; exact hy)⟩, by omega, by omega⟩⟩
   rw [any_yes (s := t) 0 ht (by rw [h15]; exact hy)]
   rfl
  ·have ht := le_of_y e14 ht
   rw [any_full ht h6]
   refine ⟨roomB (by show 0 + _ ≤ _; omega) (by omega), roomB (by omega) (by omega), ⟨0, ⟨by omega, by simp⟩, by omega⟩, fun k => lett.mk fun y17 e17 => lett.mk fun y18 e18 => lett.mk fun y19 e19 => lett.mk fun y20 e20 => ?_⟩
   rintro ⟨h7, h8⟩
   rw [Int.toNat_natCast] at e18
   refine ⟨fun hk => ?_, fun hk => ?_⟩
   ·have hk := lt_of_y e17 hk
    have h20 : heldBadR b ((fNeedsAll r).getD k (0, 0)) = y20 := by
     rw [← e18, e20, e19]
     unfold heldBadR
     cases hx : ((fHeldR b y18.1).1 == 0) <;> cases hz : ((fHeldR b y18.1).1 == y18.2) <;> simp [hx, hz, bne]
    refine ⟨⟨by omega, by omega⟩, hb, fun _ => ⟨by omega, by omega⟩, fun hy => ?_, fun hy => ⟨inR64 (by omega) (by omega), k + 1, ⟨by omega, any_succ (0, 0) hk h8 (by rw [h20]; exact hy)⟩, by omega, by omega⟩⟩
    rw [any_yes (s := k) (0, 0) hk (by rw [h20]; exact hy)]
    rfl
   ·rw [any_full (le_of_y e17 hk) h8]
    rfl
theorem ok110 : DOk Tryz.prog 110 c110 :=
 DOk.of' (l := [(137, c137), (138, c138), (33, c33d), (139, c139), (140, c140), (141, c141)]) (A := a110) tabOk ⟨ok137, ok138, ok33d, ok139, ok140, ok141, trivial⟩ Tryz.func110 (by kernel_rfl) (by kernel_rfl) fun x hw hp => b110 x.1 x.2.1 x.2.2.1 hp.1 hp.2 hw.2.2.1.2.2.2.2.2.2.1.1
theorem first_not {q : Nat → Bool} {n k : Nat} (h : allTo q k = true) (hk : k ≤ n) (hx : k = n ∨ q k = false) : (firstTo (fun i => !q i) n).getD n = k := by
 have h0 : anyTo (fun i => !q i) k = false := anyTo_none.2 fun i hi => by rw [allTo_iff.1 h i hi]; rfl
 rcases Nat.lt_or_ge k n with hlt | hge
 ·have hq : q k = false := by rcases hx with hx | hx <;> first | omega | exact hx
  rw [firstTo_at hlt h0 (by rw [hq]; rfl)]
  rfl
 ·have : k = n := by omega
  subst this
  rw [firstTo_none h0]
  rfl
theorem v143 (l : List Int) (n : Int) : bodyVC (ctxOf tab []) Tryz.f143 c143 (a143 (l, n, ())) (l, n, ()) = (
lett ((List.replicate (1 : Nat) (0 : Int)).set (0 : Nat) n) fun (y2 : List Int) =>
(∃ (s03 : Nat), (s03 ≤ l.length ∧ allOf (fun (i : Nat) => decide (l.getD i (0 : Int) < n)) s03) ∧ (↑s03 : Int) = (0 : Int) ∧ l = l ∧ n = n ∧ True) ∧
∀ (s3 : Nat),
lett (decide ((↑s3 : Int) < (↑l.length : Int))) fun (y4 : Bool) =>
lett (l.getD (↑s3 : Int).toNat (0 : Int)) fun (y5 : Int) =>
lett (bif y4 then decide (y5 < n) else false) fun (y6 : Bool) =>
lett (bif y4 then y5 == n else false) fun (y7 : Bool) =>
lett (List.replicate (0 : Nat) (0 : Int) ++ List.take (↑s3 : Int).toNat l) fun (y8 : List Int) =>
s3 ≤ l.length ∧ allOf (fun (i : Nat) => decide (l.getD i (0 : Int) < n)) s3 →
(y4 = true → InB (↑s3 : Int) l.length) ∧
(y6 = true →
InR IntKind.i64 ((↑s3 : Int) + (1 : Int)) ∧
∃ (s'9 : Nat),
(s'9 ≤ l.length ∧ allOf (fun (i : Nat) => decide (l.getD i (0 : Int) < n)) s'9) ∧
l.length - s'9 < l.length - s3 ∧ (↑s'9 : Int) = (↑s3 : Int) + (1 : Int) ∧ l = l ∧ n = n ∧ True) ∧
(y6 = false →
(y4 = true → InB (↑s3 : Int) l.length) ∧
(y7 = true → l = fRising l n ∧ True) ∧
(y7 = false →
((0 : Int) ≤ (↑s3 : Int) ∧ (↑s3 : Int) ≤ (↑l.length : Int)) ∧
roomFor ((List.replicate (0 : Nat) (0 : Int)).length + (List.take (↑s3 : Int).toNat l).length) (8 : Nat) ∧
roomFor (y8.length + y2.length) (8 : Nat) ∧
((0 : Int) ≤ (↑s3 : Int) ∧ (↑s3 : Int) ≤ (↑l.length : Int)) ∧
roomFor ((y8 ++ y2).length + (List.drop (↑s3 : Int).toNat l).length) (8 : Nat) ∧ y8 ++ y2 ++ List.drop (↑s3 : Int).toNat l = fRising l n ∧ True))) := by kernel_rfl
theorem b143 (l : List Int) (n : Int) (hl : l.length ≤ 100000) : bodyVC (ctxOf tab []) Tryz.f143 c143 (a143 (l, n, ())) (l, n, ()) := by
 rw [v143]
 refine lett.mk fun y2 e2 => ?_
 simp only [true_and, and_true, eq_self]
 refine ⟨⟨0, ⟨by omega, rfl⟩, by omega⟩, fun s => lett.mk fun y4 e4 => lett.mk fun y5 e5 => lett.mk fun y6 e6 => lett.mk fun y7 e7 => lett.mk fun y8 e8 => ?_⟩
 rintro ⟨h1, h2⟩
 have h2 : allTo (fun i => decide (l.getD i 0 < n)) s = true := h2
 rw [Int.toNat_natCast] at e5 e8
 rw [Int.toNat_natCast]
 have hin : y4 = true → InB (s : Int) l.length := fun h => by
  have := lt_of_y e4 h
  exact ⟨by omega, by omega⟩
 refine ⟨hin, fun h6 => ?_, fun h6 => ?_⟩
 ·have key : ∀ a b : Bool, (bif a then b else false) = true → a = true ∧ b = true := by decide
  rw [e6] at h6
  obtain ⟨k1, k2⟩ := key _ _ h6
  have hs := lt_of_y e4 k1
  exact ⟨inR64 (by omega) (by omega), s + 1, ⟨by omega, allTo_succ h2 (by rw [← e5]; exact k2)⟩, by omega, by omega⟩
 ·have hpos : risePos l n = s := by
   unfold risePos
   refine first_not h2 h1 ?_
   cases h4 : y4 with
   | false => have := le_of_y e4 h4; exact .inl (by omega)
   | true =>
    rw [h4] at e6
    rw [e6] at h6
    exact .inr (by rw [← e5]; exact h6)
  have hF : fRising l n = bif y7 then l else l.take s ++ [n] ++ l.drop s := by
   unfold fRising
   rw [hpos]
   have : (decide (s < l.length) && l.getD s 0 == n) = y7 := by
    rw [e7, e5]
    cases h4 : y4 with
    | false =>
     have := le_of_y e4 h4
     rw [decide_eq_false (by omega : ¬ s < l.length)]
     rfl
    | true =>
     have := lt_of_y e4 h4
     rw [decide_eq_true this]
     rfl
   rw [this]
  have h3 : (l.take s).length ≤ 100000 := by rw [List.length_take]; omega
  have e8 : y8 = l.take s := e8
  have e2 : y2 = [n] := e2
  refine ⟨hin, fun h7 => by rw [hF, h7]; rfl, fun h7 => ⟨⟨by omega, by omega⟩, roomB (by show 0 + _ ≤ _; omega) (by omega), roomB (by rw [e8, e2]; show _ + 1 ≤ _; omega) (by omega), ⟨by omega, by omega⟩, roomB (by rw [e8, e2, List.length_append, List.length_drop]; show _ + 1 + _ ≤ _; omega) (by omega), by rw [hF, h7, e8, e2]; rfl⟩⟩
theorem ok143 : DOk Tryz.prog 143 c143 :=
 DOk.of' (l := []) (A := a143) tabOk trivial Tryz.func143 (by kernel_rfl) (by kernel_rfl) fun x hw hp => b143 x.1 x.2.1 hp
theorem v113 (l : List Int) (n : Int) : bodyVC (ctxOf tab [(143, c143)]) Tryz.f113 c113 noAnn (l, n, ()) = (
l.length ≤ (100000 : Nat) ∧ fRising l n = fRising l n ∧ True) := by kernel_rfl
theorem b113 (l : List Int) (n : Int) (hl : l.length ≤ 100000) : bodyVC (ctxOf tab [(143, c143)]) Tryz.f113 c113 noAnn (l, n, ()) := by
 rw [v113]
 exact ⟨hl, rfl, trivial⟩
theorem ok113 : DOk Tryz.prog 113 c113 :=
 DOk.of' (l := [(143, c143)]) (A := fun _ => noAnn) tabOk ⟨ok143, trivial⟩ Tryz.func113 (by kernel_rfl) (by kernel_rfl) fun x hw hp => b113 x.1 x.2.1 hp
end YtpnnfimacblhgaaGreat
end Go.Proofs
end

section
set_option maxRecDepth 100000
set_option linter.unusedVariables false
set_option linter.unusedSimpArgs false
set_option maxHeartbeats 4000000
namespace Go.Proofs
open Go Go.Vc
namespace YtpnnfimacblhgaaGreat
theorem rising_len (l : List Int) (n : Int) : (fRising l n).length ≤ l.length + 1 := by
 unfold fRising
 cases decide (risePos l n < l.length) && l.getD (risePos l n) 0 == n with
 | true => exact Nat.le_succ _
 | false =>
  show (l.take (risePos l n) ++ [n] ++ l.drop (risePos l n)).length ≤ _
  rw [List.length_append, List.length_append, List.length_take, List.length_drop]
  show _ + 1 + _ ≤ _
  omega
theorem riseUp_len (l : List Int) : ∀ k, (riseUp l k).length ≤ k
 | 0 => Nat.le_refl _
 | k + 1 => by
  have := riseUp_len l k
  have h2 := rising_len (riseUp l k) (l.getD k 0)
  show (fRising _ _).length ≤ _
  omega
theorem v61 (b : RBookD) (o : Int) (r : RoadD) : obodyVC (ctxOf tab [(110, c110), (33, c33d), (113, c113)]) Tryz.f61 c61 (a61 (b, o, r, ())) (b, o, r, ()) = (
lett (fMayR b o r != (0 : Int)) fun (y3 : Bool) =>
lett (List.replicate (0 : Nat) ((0 : Int), (0 : Int))).length fun (y4 : Nat) =>
lett (List.replicate (0 : Nat) ((0 : Int), (0 : Int)) ++ r.2.2.2.2.1) fun (y5 : List (Int × Int)) =>
lett (List.replicate (0 : Nat) ((0 : Int), (0 : Int)) ++ r.2.2.2.2.2.1) fun (y6 : List (Int × Int)) =>
lett ((0 : Int), [], [], [], []) fun (y7 : HasD) =>
(RSmall b ∧ roadSmall r) ∧
(y3 = true → fMayR b o r = fMayR b o r ∧ b.1 = (fTakeR b o r).1 ∧ b.2 = (fTakeR b o r).2 ∧ True) ∧
(y3 = false →
r.2.2.2.1.length ≤ (1000000 : Nat) ∧
roomFor (y4 + r.2.2.2.2.1.length) (16 : Nat) ∧
roomFor (y4 + r.2.2.2.2.2.1.length) (16 : Nat) ∧
(∃ (s08 : Nat),
s08 ≤ r.2.2.2.2.2.2.1.length ∧
(↑s08 : Int) = (0 : Int) ∧
o = o ∧
o = o ∧
fElems r = fElems r ∧
riseUp r.2.2.2.2.2.2.1 s08 = [] ∧
keepP r (y5 = y5 ∧ y6 = y6 ∧ b.1 = b.1 ∧ b.2 = b.2 ∧ True)) ∧
∀ (s8 : Nat),
lett (decide ((↑s8 : Int) < (↑r.2.2.2.2.2.2.1.length : Int))) fun (y9 : Bool) =>
lett (riseUp r.2.2.2.2.2.2.1 s8) fun (y10 : List Int) =>
lett ((List.replicate (1 : Nat) y7).set (0 : Nat) (o, fElems r, y10, y5, y6)) fun (y11 : List (HasD)) =>
s8 ≤ r.2.2.2.2.2.2.1.length →
(y9 = true →
InB (↑s8 : Int) r.2.2.2.2.2.2.1.length ∧
y10.length ≤ (100000 : Nat) ∧
InR IntKind.i64 ((↑s8 : Int) + (1 : Int)) ∧
∃ (s'12 : Nat),
s'12 ≤ r.2.2.2.2.2.2.1.length ∧
r.2.2.2.2.2.2.1.length - s'12 < r.2.2.2.2.2.2.1.length - s8 ∧
(↑s'12 : Int) = (↑s8 : Int) + (1 : Int) ∧
o = o ∧
o = o ∧
fElems r = fElems r ∧
riseUp r.2.2.2.2.2.2.1 s'12 = fRising y10 (r.2.2.2.2.2.2.1.getD (↑s8 : Int).toNat (0 : Int)) ∧
keepP r (y5 = y5 ∧ y6 = y6 ∧ b.1 = b.1 ∧ b.2 = b.2 ∧ True)) ∧
(y9 = false →
(∃ (s012 : Nat),
(s012 ≤ b.2.length ∧ allOf (fun (i : Nat) => decide ((b.2.getD i zH).1 < o)) s012) ∧
(↑s012 : Int) = (0 : Int) ∧ o = o ∧ o = o ∧ fElems r = fElems r ∧ y10 = y10 ∧ y5 = y5 ∧ y6 = y6 ∧ b.1 = b.1 ∧ b.2 = b.2 ∧ True) ∧
∀ (s12 : Nat),
lett (decide ((↑s12 : Int) < (↑b.2.length : Int))) fun (y13 : Bool) =>
lett (b.2.getD (↑s12 : Int).toNat y7).1 fun (y14 : Int) =>
lett (bif y13 then decide (y14 < o) else false) fun (y15 : Bool) =>
lett (List.take (↑s12 : Int).toNat (List.drop (0 : Nat) b.2)) fun (y16 : List (HasD)) =>
lett (List.replicate (0 : Nat) y7 ++ y16 ++ y11) fun (y17 : List (HasD)) =>
lett (List.take (b.2.length - (↑s12 : Int).toNat) (List.drop (↑s12 : Int).toNat b.2))
fun (y18 : List (HasD)) =>
s12 ≤ b.2.length ∧ allOf (fun (i : Nat) => decide ((b.2.getD i zH).1 < o)) s12 →
(y13 = true → InB (↑s12 : Int) b.2.length) ∧
(y15 = true →
InR IntKind.i64 ((↑s12 : Int) + (1 : Int)) ∧
∃ (s'19 : Nat),
(s'19 ≤ b.2.length ∧ allOf (fun (i : Nat) => decide ((b.2.getD i zH).1 < o)) s'19) ∧
b.2.length - s'19 < b.2.length - s12 ∧
(↑s'19 : Int) = (↑s12 : Int) + (1 : Int) ∧
o = o ∧ o = o ∧ fElems r = fElems r ∧ y10 = y10 ∧ y5 = y5 ∧ y6 = y6 ∧ b.1 = b.1 ∧ b.2 = b.2 ∧ True) ∧
(y15 = false →
((0 : Int) ≤ (↑s12 : Int) ∧ (↑s12 : Int) ≤ (↑b.2.length : Int)) ∧
roomFor ((List.replicate (0 : Nat) y7).length + y16.length) (104 : Nat) ∧
roomFor ((List.replicate (0 : Nat) y7 ++ y16).length + y11.length) (104 : Nat) ∧
((0 : Int) ≤ (↑s12 : Int) ∧ (↑s12 : Int) ≤ (↑b.2.length : Int)) ∧
roomFor (y17.length + y18.length) (104 : Nat) ∧
(0 : Int) = fMayR b o r ∧ b.1 = (fTakeR b o r).1 ∧ y17 ++ y18 = (fTakeR b o r).2 ∧ True)))) := by kernel_rfl
theorem b61 (b : RBookD) (o : Int) (r : RoadD) (hb : RSmall b) (h : roadSmall r) (hz : shortL r.2.2.2.2.2.2.1) : obodyVC (ctxOf tab [(110, c110), (33, c33d), (113, c113)]) Tryz.f61 c61 (a61 (b, o, r, ())) (b, o, r, ()) := by
 rw [v61]
 have hr := h
 obtain ⟨l1, l2, l3⟩ := h
 have hz : r.2.2.2.2.2.2.1.length ≤ 1000 := hz
 have hbl := hb.len
 simp only [keepP_eq, true_and, and_true, eq_self]
 refine lett.mk fun y3 e3 => lett.mk fun y4 e4 => lett.mk fun y5 e5 => lett.mk fun y6 e6 => lett.mk fun y7 e7 => ?_
 have e4 : y4 = 0 := e4
 have e5 : y5 = r.2.2.2.2.1 := e5
 have e6 : y6 = r.2.2.2.2.2.1 := e6
 refine ⟨⟨hb, hr⟩, fun h3 => ?_, fun h3 => ⟨by omega, roomB (by omega) (by omega), roomB (by omega) (by omega), ⟨0, by omega, by omega, rfl⟩, fun s => lett.mk fun y9 e9 => lett.mk fun y10 e10 => lett.mk fun y11 e11 => fun hs => ⟨fun h9 => ?_, fun h9 => ?_⟩⟩⟩
 ·have hT : fTakeR b o r = b := by
   unfold fTakeR
   rw [h3, bneB] at e3
   cases hx : (fMayR b o r == 0) with
   | false => rfl
   | true => rw [hx] at e3; cases e3
  rw [hT]
  exact ⟨rfl, rfl⟩
 ·have hs' := lt_of_y e9 h9
  have := riseUp_len r.2.2.2.2.2.2.1 s
  rw [Int.toNat_natCast, e10]
  exact ⟨⟨by omega, by omega⟩, by omega, inR64 (by omega) (by omega), s + 1, by omega, by omega, by omega, rfl⟩
 ·have hs' := le_of_y e9 h9
  have : s = r.2.2.2.2.2.2.1.length := by omega
  subst this
  have hm : fMayR b o r = 0 := by
   rw [h3, bneB] at e3
   cases hx : (fMayR b o r == 0) with
   | false => rw [hx] at e3; cases e3
   | true => exact eq_of_beq hx
  have e11 : y11 = [hasOf o r] := by rw [e11, e10, e5, e6]; rfl
  refine ⟨⟨0, ⟨by omega, rfl⟩, by omega⟩, fun t => lett.mk fun y13 e13 => lett.mk fun y14 e14 => lett.mk fun y15 e15 => lett.mk fun y16 e16 => lett.mk fun y17 e17 => lett.mk fun y18 e18 => ?_⟩
  rintro ⟨h1, h2⟩
  have h2 : allTo (fun i => decide ((b.2.getD i zH).1 < o)) t = true := h2
  rw [Int.toNat_natCast, e7] at e14
  have e14 : y14 = (b.2.getD t zH).1 := e14
  rw [Int.toNat_natCast] at e16 e18
  have hin : y13 = true → InB (t : Int) b.2.length := fun h => by
   have := lt_of_y e13 h
   exact ⟨by omega, by omega⟩
  refine ⟨hin, fun h15 => ?_, fun h15 => ?_⟩
  ·have key : ∀ a b : Bool, (bif a then b else false) = true → a = true ∧ b = true := by decide
   rw [e15] at h15
   obtain ⟨k1, k2⟩ := key _ _ h15
   have ht := lt_of_y e13 k1
   exact ⟨inR64 (by omega) (by omega), t + 1, ⟨by omega, allTo_succ h2 (by rw [← e14]; exact k2)⟩, by omega, by omega⟩
  ·have hpos : insPos b.2 o = t := by
    unfold insPos
    refine first_not h2 h1 ?_
    cases h4 : y13 with
    | false => have := le_of_y e13 h4; exact .inl (by omega)
    | true =>
     rw [h4] at e15
     rw [e15] at h15
     exact .inr (by rw [← e14]; exact h15)
   have hT : fTakeR b o r = (b.1, b.2.take t ++ [hasOf o r] ++ b.2.drop t) := by
    unfold fTakeR
    rw [hm]
    show (b.1, insHas b.2 (hasOf o r)) = _
    unfold insHas
    rw [show (hasOf o r).1 = o from rfl, hpos]
   have e16 : y16 = b.2.take t := by rw [e16, List.drop_zero]
   have e17 : y17 = b.2.take t ++ [hasOf o r] := by rw [e17, e16, e11]; rfl
   have e18 : y18 = b.2.drop t := by
    rw [e18]
    exact List.take_of_length_le (by rw [List.length_drop]; omega)
   have q16 : y16.length ≤ 1000 := by rw [e16, List.length_take]; omega
   have q17 : y17.length ≤ 1001 := by
    rw [e17, List.length_append, List.length_take]
    show _ + 1 ≤ _
    omega
   have q18 : y18.length ≤ 1000 := by rw [e18, List.length_drop]; omega
   refine ⟨⟨by omega, by omega⟩, roomB (by show 0 + _ ≤ _; omega) (by omega), roomB (by rw [e11]; show y16.length + 1 ≤ _; omega) (by omega), ⟨by omega, by omega⟩, roomB (by omega) (by omega), hm.symm, ?_⟩
   rw [hT, e17, e18]
   exact ⟨rfl, rfl⟩
theorem ok61 : OOk Tryz.prog 61 c61 :=
 OOk.of' (l := [(110, c110), (33, c33d), (113, c113)]) (A := a61) tabOk ⟨ok110, ok33d, ok113, trivial⟩ Tryz.func61 (by kernel_rfl) (by kernel_rfl) fun x hw hp => b61 x.1 x.2.1 x.2.2.1 hp.1.1 hp.1.2 hp.2
theorem turn_len (l : List TurnD) (d : List Int) : ∀ k, (turnUp l d k).length = d.length
 | 0 => rfl
 | k + 1 => by show ((turnUp l d k).set _ _).length = _; rw [List.length_set, turn_len l d k]
theorem wantsR_in {p : PlanD} {r : RoadD} {t : TurnD} (h : t ∈ fWantsR p r) : 0 ≤ t.1 ∧ t.1 < (p.2.2.2.1.length : Int) := by
 unfold fWantsR at h
 exact ((mem_ref r _ t).1 h).1
theorem wantsR_le {p : PlanD} (hc : fCheck p = 0) (r : RoadD) : (fWantsR p r).length ≤ 4 := by
 have := (sizes_factsQ (check_zero hc).1).2.2.1
 have h2 := wantsRef_le p r p.2.2.2.1.length
 unfold fWantsR
 omega
theorem v62 (p : PlanD) (d : List Int) (r : RoadD) : bodyVC (ctxOf tab [(10, c10)]) Tryz.f62 c62 (a62 (p, d, r, ())) (p, d, r, ()) = (
roomFor ((List.replicate (0 : Nat) (0 : Int)).length + d.length) (8 : Nat) ∧
((fCheck p = (0 : Int) ∧ shortLines p) ∧ r.2.2.2.1.length ≤ (1000 : Nat)) ∧
(∃ (s03 : Nat), s03 ≤ (fWantsR p r).length ∧ (↑s03 : Int) = (0 : Int) ∧ fWantsR p r = fWantsR p r ∧ turnUp (fWantsR p r) d s03 = List.replicate (0 : Nat) (0 : Int) ++ d ∧ True) ∧
∀ (s3 : Nat),
lett (decide ((↑s3 : Int) < (↑(fWantsR p r).length : Int))) fun (y4 : Bool) =>
lett ((fWantsR p r).getD (↑s3 : Int).toNat ((0 : Int), (0 : Int))) fun (y5 : Int × Int) =>
lett (turnUp (fWantsR p r) d s3) fun (y6 : List Int) =>
s3 ≤ (fWantsR p r).length →
(y4 = true →
InB (↑s3 : Int) (fWantsR p r).length ∧
InB (↑s3 : Int) (fWantsR p r).length ∧
InB y5.1 y6.length ∧
InR IntKind.i64 ((↑s3 : Int) + (1 : Int)) ∧
∃ (s'7 : Nat),
s'7 ≤ (fWantsR p r).length ∧
(fWantsR p r).length - s'7 < (fWantsR p r).length - s3 ∧
(↑s'7 : Int) = (↑s3 : Int) + (1 : Int) ∧ fWantsR p r = fWantsR p r ∧ turnUp (fWantsR p r) d s'7 = y6.set y5.1.toNat y5.2 ∧ True) ∧
(y4 = false → y6 = fTurnedR p d r ∧ True)) := by kernel_rfl
theorem b62 (p : PlanD) (d : List Int) (r : RoadD) (hp : planGood p) (h : roadSmall r) (hd : d.length = p.2.2.2.1.length) : bodyVC (ctxOf tab [(10, c10)]) Tryz.f62 c62 (a62 (p, d, r, ())) (p, d, r, ()) := by
 rw [v62]
 have hw := wantsR_le hp.1 r
 have h4 := (sizes_factsQ (check_zero hp.1).1).2.2.1
 simp only [true_and, and_true, eq_self]
 refine ⟨roomB (by show 0 + _ ≤ _; omega) (by omega), ⟨⟨hp.1, hp.2⟩, h.1⟩, ⟨0, by omega, by omega, rfl⟩, fun s => lett.mk fun y4 e4 => lett.mk fun y5 e5 => lett.mk fun y6 e6 => fun hs => ⟨fun hy => ?_, fun hy => ?_⟩⟩
 ·have hs := lt_of_y e4 hy
  rw [Int.toNat_natCast] at e5
  have e5 : y5 = (fWantsR p r).getD s zT := e5
  have hm := wantsR_in (p := p) (r := r) (t := y5) (by rw [e5]; exact mem_getD zT hs)
  have hl := turn_len (fWantsR p r) d s
  refine ⟨⟨by omega, by omega⟩, ⟨by omega, by omega⟩, ⟨hm.1, by rw [e6, hl, hd]; exact hm.2⟩, inR64 (by omega) (by omega), s + 1, by omega, by omega, by omega, ?_⟩
  rw [e6, e5]
  rfl
 ·have hs := le_of_y e4 hy
  have : s = (fWantsR p r).length := by omega
  subst this
  rw [e6]
  unfold fTurnedR
  rfl
theorem ok62 : DOk Tryz.prog 62 c62 :=
 DOk.of' (l := [(10, c10)]) (A := a62) tabOk ⟨ok10, trivial⟩ Tryz.func62 (by kernel_rfl) (by kernel_rfl) fun x hw hp => b62 x.1 x.2.1 x.2.2.1 hp.1.1 hp.1.2 hp.2
theorem kind_pos {p : PlanD} {e : Int} (h : fKind p e = 1) : 0 ≤ e := by
 unfold fKind at h
 cases hb : (decide (e < 0) || decide ((p.1.length : Int) ≤ e)) with
 | true => rw [hb] at h; cases h
 | false =>
  have := of_decide_eq_false (Bool.or_eq_false_iff.1 hb).1
  omega
theorem v112 (p : PlanD) (d : List Int) (r : RoadD) (o : List Bool) (b : RBookD) : bodyVC (ctxOf tab [(10, c10), (123, c123), (139, c139)]) Tryz.f112 c112 (a112 (p, d, r, o, b, ())) (p, d, r, o, b, ()) = (
lett (fAt p r.1).1.1 fun (y5 : Int) =>
lett (fAt p r.1).1.2 fun (y6 : Int) =>
lett (fMayTurn p d r o b) fun (y7 : Int) =>
((fCheck p = (0 : Int) ∧ shortLines p) ∧ r.2.2.2.1.length ≤ (1000 : Nat)) ∧
True ∧
(∃ (s08 : Nat),
(s08 ≤ (fWantsR p r).length ∧ (List.take s08 (fWantsR p r)).any (stuckR p d o b (berthR p r)) = false) ∧
(↑s08 : Int) = (0 : Int) ∧
d = d ∧
o = o ∧
[b] = [b] ∧
(0 : Nat) = (0 : Nat) ∧
fWantsR p r = fWantsR p r ∧
keepP p (y5 = y5 ∧ y6 = y6 ∧ True)) ∧
∀ (s8 : Nat),
lett (decide ((↑s8 : Int) < (↑(fWantsR p r).length : Int))) fun (y9 : Bool) =>
lett ((fWantsR p r).getD (↑s8 : Int).toNat ((0 : Int), (0 : Int))) fun (y10 : Int × Int) =>
lett (d.getD y10.1.toNat (0 : Int)) fun (y11 : Int) =>
lett (bif y11 == (0 : Int) then true else y11 == y10.2) fun (y12 : Bool) =>
lett (lineAt p ((fWantsR p r).getD (↑s8 : Int).toNat zT).1) fun (y13 : List Int) =>
lett (p.2.2.2.1.getD y10.1.toNat ([], [])).2 fun (y14 : List Int) =>
s8 ≤ (fWantsR p r).length ∧ (List.take s8 (fWantsR p r)).any (stuckR p d o b (berthR p r)) = false →
(y9 = true →
InB (↑s8 : Int) (fWantsR p r).length ∧
InB y10.1 d.length ∧
((y11 == (0 : Int)) = false → InB (↑s8 : Int) (fWantsR p r).length) ∧
(y12 = true →
InR IntKind.i64 ((↑s8 : Int) + (1 : Int)) ∧
∃ (s'15 : Nat),
(s'15 ≤ (fWantsR p r).length ∧ (List.take s'15 (fWantsR p r)).any (stuckR p d o b (berthR p r)) = false) ∧
(fWantsR p r).length - s'15 < (fWantsR p r).length - s8 ∧
(↑s'15 : Int) = (↑s8 : Int) + (1 : Int) ∧
d = d ∧
o = o ∧
[b] = [b] ∧
(0 : Nat) = (0 : Nat) ∧
fWantsR p r = fWantsR p r ∧
keepP p (y5 = y5 ∧ y6 = y6 ∧ True)) ∧
(y12 = false →
InB (↑s8 : Int) (fWantsR p r).length ∧
InB y10.1 p.2.2.2.1.length ∧
(∃ (s015 : Nat),
(s015 ≤ y13.length ∧ (List.take s015 y13).any (loudR o b (berthR p r)) = false) ∧
(↑s015 : Int) = (0 : Int) ∧
d = d ∧
o = o ∧
[b] = [b] ∧
(0 : Nat) = (0 : Nat) ∧
fWantsR p r = fWantsR p r ∧
(↑s8 : Int) = (↑s8 : Int) ∧
y14 = y14 ∧
keepP p (y5 = y5 ∧ y6 = y6 ∧ True)) ∧
∀ (s15 : Nat),
lett (decide ((↑s15 : Int) < (↑y14.length : Int))) fun (y16 : Bool) =>
lett (y14.getD (↑s15 : Int).toNat (0 : Int)) fun (y17 : Int) =>
lett (decide (fOwnerR b y17 ≥ (0 : Int))) fun (y18 : Bool) =>
lett (bif y17 != y5 then decide (y17 < (↑o.length : Int)) else false) fun (y19 : Bool) =>
lett (bif y18 then true else bif y19 then o.getD y17.toNat false else false) fun (y20 : Bool) =>
s15 ≤ y13.length ∧ (List.take s15 y13).any (loudR o b (berthR p r)) = false →
(y16 = true →
InB (↑s15 : Int) y14.length ∧
True ∧
(y18 = false → InB (↑s15 : Int) y14.length) ∧
(y18 = false → (y17 != y5) = true → InB (↑s15 : Int) y14.length) ∧
(y18 = false → y19 = true → InB (↑s15 : Int) y14.length) ∧
(y18 = false → y19 = true → InB y17 o.length) ∧
(y20 = true → (8 : Int) = y7 ∧ True) ∧
(y20 = false →
InR IntKind.i64 ((↑s15 : Int) + (1 : Int)) ∧
∃ (s'21 : Nat),
(s'21 ≤ y13.length ∧ (List.take s'21 y13).any (loudR o b (berthR p r)) = false) ∧
y13.length - s'21 < y13.length - s15 ∧
(↑s'21 : Int) = (↑s15 : Int) + (1 : Int) ∧
d = d ∧
o = o ∧
[b] = [b] ∧
(0 : Nat) = (0 : Nat) ∧
fWantsR p r = fWantsR p r ∧
(↑s8 : Int) = (↑s8 : Int) ∧
y14 = y14 ∧
keepP p (y5 = y5 ∧ y6 = y6 ∧ True))) ∧
(y16 = false →
InR IntKind.i64 ((↑s8 : Int) + (1 : Int)) ∧
∃ (s'21 : Nat),
(s'21 ≤ (fWantsR p r).length ∧ (List.take s'21 (fWantsR p r)).any (stuckR p d o b (berthR p r)) = false) ∧
(fWantsR p r).length - s'21 < (fWantsR p r).length - s8 ∧
(↑s'21 : Int) = (↑s8 : Int) + (1 : Int) ∧
d = d ∧
o = o ∧
[b] = [b] ∧
(0 : Nat) = (0 : Nat) ∧
fWantsR p r = fWantsR p r ∧
keepP p (y5 = y5 ∧ y6 = y6 ∧ True)))) ∧
(y9 = false → (0 : Int) = y7 ∧ True)) := by kernel_rfl
theorem b112 (p : PlanD) (d : List Int) (r : RoadD) (o : List Bool) (b : RBookD) (hp : planGood p) (h : roadSmall r) (hd : d.length = p.2.2.2.1.length) : bodyVC (ctxOf tab [(10, c10), (123, c123), (139, c139)]) Tryz.f112 c112 (a112 (p, d, r, o, b, ())) (p, d, r, o, b, ()) := by
 rw [v112]
 have hw := wantsR_le hp.1 r
 have h4 := (sizes_factsQ (check_zero hp.1).1).2.2.1
 have hL := (check_zero hp.1).2.2.2.2
 refine lett.mk fun y5 e5 => lett.mk fun y6 e6 => lett.mk fun y7 e7 => ?_
 have e5' : berthR p r = y5 := e5.symm
 have hF : y7 = bif (fWantsR p r).any (stuckR p d o b y5) then 8 else 0 := by rw [e7, ← e5']; unfold fMayTurn; rfl
 rw [e5']
 simp only [keepP_eq, true_and, and_true, eq_self]
 refine ⟨⟨⟨hp.1, hp.2⟩, h.1⟩, ⟨0, ⟨by omega, by simp⟩, by omega⟩, fun s => lett.mk fun y9 e9 => lett.mk fun y10 e10 => lett.mk fun y11 e11 => lett.mk fun y12 e12 => lett.mk fun y13 e13 => lett.mk fun y14 e14 => ?_⟩
 rintro ⟨h1, h2⟩
 rw [Int.toNat_natCast] at e10 e13
 have e10 : y10 = (fWantsR p r).getD s zT := e10
 rw [← e10] at e13
 refine ⟨fun hy => ?_, fun hy => ?_⟩
 ·have hs := lt_of_y e9 hy
  have hm := wantsR_in (p := p) (r := r) (t := y10) (by rw [e10]; exact mem_getD zT hs)
  have h14 : y14 = y13 := by rw [e13]; exact e14
  have hlt : y10.1.toNat < p.2.2.2.1.length := by omega
  have hst : stuckR p d o b y5 ((fWantsR p r).getD s zT) = (!y12 && y13.any (loudR o b y5)) := by
   rw [← e10, e12, e11, e13]
   unfold stuckR
   cases (d.getD y10.1.toNat 0 == 0) <;> rfl
  have hlen : y14.length ≤ 1000 := by
   rw [h14, e13]
   exact hp.2 _ (mem_getD zL hlt)
  refine ⟨⟨by omega, by omega⟩, ⟨hm.1, by rw [hd]; exact hm.2⟩, fun _ => ⟨by omega, by omega⟩, fun h12 => ⟨inR64 (by omega) (by omega), s + 1, ⟨by omega, any_succ zT hs h2 (by rw [hst, h12]; rfl)⟩, by omega, by omega⟩, fun h12 => ⟨⟨by omega, by omega⟩, ⟨hm.1, hm.2⟩, ⟨0, ⟨by omega, by simp⟩, by omega⟩, fun k => lett.mk fun y16 e16 => lett.mk fun y17 e17 => lett.mk fun y18 e18 => lett.mk fun y19 e19 => lett.mk fun y20 e20 => ?_⟩⟩
  rintro ⟨h3, h5⟩
  rw [Int.toNat_natCast] at e17
  rw [h14] at e16 e17 hlen ⊢
  refine ⟨fun hk => ?_, fun hk => ?_⟩
  ·have hk := lt_of_y e16 hk
   have hpos : 0 ≤ y17 := by
    rw [e17, e13]
    refine kind_pos (p := p) (enters_spec (line_enters hL hlt) ?_).2
    rw [e13] at hk
    exact hk
   have h20 : loudR o b y5 (y13.getD k 0) = y20 := by
    rw [← e17, e20, e19, e18]
    unfold loudR occAt
    rw [decide_eq_true hpos]
    cases decide (0 ≤ fOwnerR b y17) <;> cases hx : (y17 == y5) <;> cases decide (y17 < (o.length : Int)) <;> simp [hx, bne]
   refine ⟨⟨by omega, by omega⟩, fun _ => ⟨by omega, by omega⟩, fun _ _ => ⟨by omega, by omega⟩, fun _ _ => ⟨by omega, by omega⟩, fun _ h19 => ?_, fun hz => ?_, fun hz => ⟨inR64 (by omega) (by omega), k + 1, ⟨by omega, any_succ 0 hk h5 (by rw [h20]; exact hz)⟩, by omega, by omega⟩⟩
   ·have key : ∀ a b : Bool, (bif a then b else false) = true → a = true ∧ b = true := by decide
    rw [e19] at h19
    exact ⟨hpos, of_decide_eq_true (key _ _ h19).2⟩
   ·rw [hF, any_yes (s := s) zT hs (by rw [hst, h12, any_yes (s := k) 0 hk (by rw [h20]; exact hz)]; rfl)]
    rfl
  ·have hk := le_of_y e16 hk
   exact ⟨inR64 (by omega) (by omega), s + 1, ⟨by omega, any_succ zT hs h2 (by rw [hst, any_full hk h5]; simp)⟩, by omega, by omega⟩
 ·rw [hF, any_full (le_of_y e9 hy) h2]
  rfl
theorem ok112 : DOk Tryz.prog 112 c112 :=
 DOk.of' (l := [(10, c10), (123, c123), (139, c139)]) (A := a112) tabOk ⟨ok10, ok123, ok139, trivial⟩ Tryz.func112 (by kernel_rfl) (by kernel_rfl) fun x hw hp => b112 x.1 x.2.1 x.2.2.1 x.2.2.2.1 x.2.2.2.2.1 hp.1.1 hp.1.2 hp.2
theorem v63 (n : Int) : bodyVC (ctxOf tab []) Tryz.f63 c63 noAnn (n, ()) = (
lett (bif decide (n < (1 : Int)) then true else decide (n > (12 : Int))) fun (y1 : Bool) =>
(y1 = true → ((0 : Int), (0 : Int), false, []) = fBegin n ∧ True) ∧
(y1 = false → ((0 : Int) ≤ n ∧ n ≤ n) ∧ (roomFor n.toNat (1 : Nat) ∧ n ≤ (↑maxLenI : Int)) ∧ ((1 : Int), (0 : Int), false, List.replicate n.toNat false) = fBegin n ∧ True)) := by kernel_rfl
theorem b63 (n : Int) : bodyVC (ctxOf tab []) Tryz.f63 c63 noAnn (n, ()) := by
 rw [v63]
 refine lett.mk fun y1 e1 => ?_
 have hF : fBegin n = bif y1 then (0, 0, false, []) else (1, 0, false, List.replicate n.toNat false) := by
  unfold fBegin
  rw [e1]
  cases decide (n < 1) <;> rfl
 rw [hF]
 refine ⟨fun h => by rw [h]; exact ⟨rfl, trivial⟩, fun h => ?_⟩
 rw [e1] at h
 obtain ⟨k1, k2⟩ := bif_or h
 have k1 := of_decide_eq_false k1
 have k2 := of_decide_eq_false k2
 have hmax : maxLenI = 9223372036854775807 := rfl
 refine ⟨⟨by omega, by omega⟩, ⟨roomB (by omega) (by omega), by omega⟩, ?_, trivial⟩
 rw [show y1 = false by rw [e1]; exact h]
 rfl
theorem ok63 : DOk Tryz.prog 63 c63 :=
 DOk.of' (l := []) (A := fun _ => noAnn) tabOk trivial Tryz.func63 (by kernel_rfl) (by kernel_rfl) fun x hw hp => b63 x.1
end YtpnnfimacblhgaaGreat
end Go.Proofs
end

section
set_option maxRecDepth 100000
set_option linter.unusedVariables false
namespace Go.Proofs
open Go Go.Vc
namespace YtpnnfimacblhgaaGreat
abbrev InT : Ty := .pair (.list .bool) (.pair (.list I) (.pair (.list .bool) (.list .bool)))
abbrev InD := List Bool × List Int × List Bool × List Bool
@[irreducible] def fLies (pos : List Int) (e : Int) : Int := bif decide (0 ≤ e) && (decide (e < (pos.length : Int)) && (pos.getD e.toNat 0 == 1 || pos.getD e.toNat 0 == 2)) then pos.getD e.toNat 0 else 0
def c17 : DCon where
 args := [.list I, I]
 out := .data [I]
 pre := fun (x : List Int × Int × Unit) => True
 fn := fun (x : List Int × Int × Unit) => (fLies x.1 x.2.1, ())
def c142 : DCon where
 args := [.list .bool, I]
 out := .data [.bool]
 pre := fun (x : List Bool × Int × Unit) => True
 fn := fun (x : List Bool × Int × Unit) => (occAt x.1 x.2.1, ())
def zLf : LifeD := (0, 0, false, [])
@[irreducible] def fState (l : List LifeD) (i : Int) : Int := bif decide (i < 0) || decide ((l.length : Int) ≤ i) then 0 else (l.getD i.toNat zLf).1
def c108 : DCon where
 args := [.list LifeT, I]
 out := .data [I]
 pre := fun (x : List LifeD × Int × Unit) => True
 fn := fun (x : List LifeD × Int × Unit) => (fState x.1 x.2.1, ())
def fOpen (p : PlanD) (occ : List Bool) (e : Int) : Bool := !(fKind p e == 4) && occAt occ e
def c111 : DCon where
 args := [PlanT, .list .bool, I]
 out := .data [.bool]
 pre := fun (x : PlanD × List Bool × Int × Unit) => True
 fn := fun (x : PlanD × List Bool × Int × Unit) => (fOpen x.1 x.2.1 x.2.2.1, ())
def elemsZone (r : RoadD) : List Int := fElems r ++ r.2.2.2.2.2.2.1
@[irreducible] def fTakenR (p : PlanD) (r : RoadD) (occ : List Bool) : Bool := (elemsZone r).any (fOpen p occ)
def roadFits (r : RoadD) : Prop := roadSmall r ∧ shortL r.2.2.2.2.2.2.1
def c109 : DCon where
 args := [PlanT, RoadT, .list .bool]
 out := .data [.bool]
 pre := fun (x : PlanD × RoadD × List Bool × Unit) => roadFits x.2.1
 fn := fun (x : PlanD × RoadD × List Bool × Unit) => (fTakenR x.1 x.2.1 x.2.2.1, ())
def a109 (x : PlanD × RoadD × List Bool × Unit) : Ann := loopAnn [(3, fun _ => anyLoop (fOpen x.1 x.2.2.1) (elemsZone x.2.1) 8 [2, 3, 7] [3, 13])]
def roadAt (c : ChartD) (i : Int) : RoadD := c.2.getD i.toNat zR
def roadIn (c : ChartD) (i : Int) : Bool := decide (0 ≤ i) && decide (i < (c.2.length : Int))
def sameR (c : ChartD) (lives : List LifeD) (r : RoadD) (i : Nat) : Bool := (c.2.getD i zR).1 == r.1 && !(fState lives (i : Int) == 0)
def pointBad (p : PlanD) (inn : InD) (x : NeedD) : Bool := !(fLies inn.2.1 x.1 == x.2) && fOpen p inn.1 x.1
def whyOf (c : ChartD) (lives : List LifeD) (b : RBookD) (d : List Int) (inn : InD) (k : Int) (r : RoadD) : Int :=
 bif r.2.2.2.2.2.2.2.2 then 11 else bif anyTo (sameR c lives r) c.2.length then 12 else bif fTakenR c.1 r inn.1 then 13 else
  bif !(fMayR b k r == 0) then fMayR b k r else bif (fNeedsAll r).any (pointBad c.1 inn) then 15 else fMayTurn c.1 d r inn.1 b
@[irreducible] def fWhyR (c : ChartD) (lives : List LifeD) (b : RBookD) (d : List Int) (inn : InD) (k : Int) : Int :=
 bif roadIn c k then whyOf c lives b d inn k (roadAt c k) else 10
def chartOk (c : ChartD) : Prop := planGood c.1 ∧ ∀ r ∈ c.2, roadFits r
def c59 : DCon where
 args := [ChartT, .list LifeT, .ref RBookT, .list I, InT, I]
 out := .data [I]
 pre := fun (x : ChartD × List LifeD × RBookD × List Int × InD × Int × Unit) => chartOk x.1 ∧ RSmall x.2.2.1 ∧ x.2.2.2.1.length = x.1.1.2.2.2.1.length
 fn := fun (x : ChartD × List LifeD × RBookD × List Int × InD × Int × Unit) => (fWhyR x.1 x.2.1 x.2.2.1 x.2.2.2.1 x.2.2.2.2.1 x.2.2.2.2.2.1, ())
def a59 (x : ChartD × List LifeD × RBookD × List Int × InD × Int × Unit) : Ann := loopAnn [
 (7, fun _ => upLoop x.1.2.length (noneOf (sameR x.1 x.2.1 (roadAt x.1 x.2.2.2.2.2.1))) 14 [1, 2, 3, 5, 6, 10, 13] [6, 10, 13]),
 (18, fun _ => anyLoop (pointBad x.1.1 x.2.2.2.2.1) (fNeedsAll (roadAt x.1 x.2.2.2.2.2.1)) 17 [2, 3, 6, 10, 13, 16] [6, 10, 13, 75])]
def fIdle (l : List LifeD) (i : Int) : Bool := decide ((l.length : Int) ≤ i) || (l.getD i.toNat zLf).1 == 0
def c65 : DCon where
 args := [.list LifeT, I]
 out := .data [.bool]
 pre := fun (x : List LifeD × Int × Unit) => 0 ≤ x.2.1
 fn := fun (x : List LifeD × Int × Unit) => (fIdle x.1 x.2.1, ())
def fTakenE (p : PlanD) (occ : List Bool) (e : Int) : Bool := occAt occ e && (decide ((p.1.length : Int) ≤ e) || !((p.1.getD e.toNat zE).2.1 == 4))
def c66 : DCon where
 args := [ChartT, InT, I]
 out := .data [.bool]
 pre := fun (x : ChartD × InD × Int × Unit) => True
 fn := fun (x : ChartD × InD × Int × Unit) => (fTakenE x.1.1 x.2.1.1 x.2.2.1, ())
def fLiesP (pos : List Int) (n : NeedD) : Bool := decide (0 ≤ n.1) && (decide (n.1 < (pos.length : Int)) && (pos.getD n.1.toNat 0 == n.2 && !(n.2 == 0)))
def c43 : DCon where
 args := [InT, NeedT]
 out := .data [.bool]
 pre := fun (x : InD × NeedD × Unit) => True
 fn := fun (x : InD × NeedD × Unit) => (fLiesP x.1.2.1 x.2.1, ())
def sameP (c : ChartD) (lives : List LifeD) (k : Int) (r : RoadD) (i : Nat) : Bool := ((i : Int) == k || (c.2.getD i zR).1 == r.1) && !fIdle lives (i : Int)
def stepOcc (p : PlanD) (occ : List Bool) (s : StepD) : Bool := fTakenE p occ s.1
def pointBadP (p : PlanD) (inn : InD) (x : NeedD) : Bool := !fLiesP inn.2.1 x && fTakenE p inn.1 x.1
def whyOfP (c : ChartD) (lives : List LifeD) (b : BookD) (t : TokenD) (inn : InD) (k : Int) (r : RoadD) : Int :=
 bif r.2.2.2.2.2.2.2.2 then 11 else bif anyTo (sameP c lives k r) c.2.length then 12 else bif r.2.2.2.1.any (stepOcc c.1 inn.1) then 13 else bif r.2.2.2.2.2.2.1.any (fTakenE c.1 inn.1) then 13 else
  bif !(fMayB b k r == 0) then fMayB b k r else bif (fNeedsAll r).any (pointBadP c.1 inn) then 15 else fMayT t r inn.1 b
@[irreducible] def fWhyP (c : ChartD) (lives : List LifeD) (b : BookD) (t : TokenD) (inn : InD) (k : Int) : Int :=
 bif roadIn c k then whyOfP c lives b t inn k (roadAt c k) else 10
def c40 : DCon where
 args := [ChartT, .list LifeT, .ref BookT, .ref TokenT, InT, I]
 out := .data [I]
 pre := fun (x : ChartD × List LifeD × BookD × TokenD × InD × Int × Unit) => chartOk x.1 ∧ BookOk x.2.2.1 ∧ netLined x.2.2.2.1.1
 fn := fun (x : ChartD × List LifeD × BookD × TokenD × InD × Int × Unit) => (fWhyP x.1 x.2.1 x.2.2.1 x.2.2.2.1 x.2.2.2.2.1 x.2.2.2.2.2.1, ())
def a40 (x : ChartD × List LifeD × BookD × TokenD × InD × Int × Unit) : Ann := loopAnn [
 (7, fun _ => upLoop x.1.2.length (noneOf (sameP x.1 x.2.1 x.2.2.2.2.2.1 (roadAt x.1 x.2.2.2.2.2.1))) 42 [1, 2, 3, 5, 6, 10, 13, 40, 41] [6, 10, 13]),
 (13, fun _ => anyLoop (stepOcc x.1.1 x.2.2.2.2.1.1) (roadAt x.1 x.2.2.2.2.2.1).2.2.2.1 67 [2, 3, 5, 6, 10, 13, 65, 66] [6, 10, 13]),
 (19, fun _ => anyLoop (fTakenE x.1.1 x.2.2.2.2.1.1) (roadAt x.1 x.2.2.2.2.2.1).2.2.2.2.2.2.1 80 [2, 3, 5, 6, 10, 13, 78, 79] [6, 10, 13]),
 (28, fun _ => anyLoop (pointBadP x.1.1 x.2.2.2.2.1) (fNeedsAll (roadAt x.1 x.2.2.2.2.2.1)) 103 [2, 3, 6, 10, 13, 101, 102] [6, 10, 13, 101])]
def moveStep (pos : List Int) (out : List Int) (n : NeedD) : List Int := bif !fLiesP pos n && !fMem out n.1 then out ++ [n.1] else out
def movesUp (pos : List Int) (l : List NeedD) : Nat → List Int
 | 0 => []
 | k + 1 => moveStep pos (movesUp pos l k) (l.getD k (0, 0))
def movesOf (pos : List Int) (r : RoadD) : List Int := movesUp pos (fNeedsAll r) (fNeedsAll r).length
@[irreducible] def fMoves (c : ChartD) (inn : InD) (k : Int) : List Int := bif roadIn c k then movesOf inn.2.1 (roadAt c k) else []
def roadsSmall (c : ChartD) : Prop := ∀ r ∈ c.2, roadSmall r
def c15 : DCon where
 args := [ChartT, InT, I]
 out := .row 3 I
 pre := fun (x : ChartD × InD × Int × Unit) => roadsSmall x.1
 fn := fun (x : ChartD × InD × Int × Unit) => (fMoves x.1 x.2.1 x.2.2.1, ())
def c15f : DCon where
 args := [ChartT, InT, I]
 out := .fresh [.list I]
 pre := fun (x : ChartD × InD × Int × Unit) => roadsSmall x.1
 fn := fun (x : ChartD × InD × Int × Unit) => (fMoves x.1 x.2.1 x.2.2.1, ())
def a15 (x : ChartD × InD × Int × Unit) : Ann := loopAnn [(6, fun _ => rowLoop (fNeedsAll (roadAt x.1 x.2.2.1)).length 32 8 1000 3 I (movesUp x.2.1.2.1 (fNeedsAll (roadAt x.1 x.2.2.1))) [3, 4, 7, 30, 31] [3, 4, 7, 30])] [46]
end YtpnnfimacblhgaaGreat
end Go.Proofs
end
