/-
  The reference's flanks and charts: written out and proved.
-/
import Derived.Test.YtpnnfimacblhgaaVlh
set_option maxRecDepth 100000
set_option linter.unusedVariables false
set_option linter.unusedSimpArgs false
set_option maxHeartbeats 2000000
namespace Go.Proofs
open Go Go.Vc
namespace Ytpnnfimacblhgaa

/-! ### What a search keeps -/

theorem eqS {a b : SearchD} (h : a = b) : a.1 = b.1 ∧ a.2.1 = b.2.1 ∧ a.2.2.1 = b.2.2.1 ∧ a.2.2.2.1 = b.2.2.2.1 ∧ a.2.2.2.2.1 = b.2.2.2.2.1 ∧ a.2.2.2.2.2.1 = b.2.2.2.2.2.1 ∧ a.2.2.2.2.2.2.1 = b.2.2.2.2.2.2.1 ∧
    a.2.2.2.2.2.2.2.1 = b.2.2.2.2.2.2.2.1 ∧ a.2.2.2.2.2.2.2.2.1 = b.2.2.2.2.2.2.2.2.1 ∧ a.2.2.2.2.2.2.2.2.2.1 = b.2.2.2.2.2.2.2.2.2.1 ∧ a.2.2.2.2.2.2.2.2.2.2 = b.2.2.2.2.2.2.2.2.2.2 ∧ True := by
  subst h
  exact ⟨rfl, rfl, rfl, rfl, rfl, rfl, rfl, rfl, rfl, rfl, rfl, trivial⟩

theorem nodup_len {α : Type} [BEq α] [LawfulBEq α] : ∀ {l m : List α}, l.Nodup → (∀ x ∈ l, x ∈ m) → l.length ≤ m.length
  | [], _, _, _ => Nat.zero_le _
  | x :: l, m, hn, hs => by
    obtain ⟨h1, h2⟩ := List.nodup_cons.1 hn
    have hx := hs x (by simp)
    have ih := nodup_len (m := m.erase x) h2 fun y hy => by
      have hy' := hs y (List.mem_cons_of_mem _ hy)
      have hne : y ≠ x := fun e => h1 (e ▸ hy)
      exact (List.mem_erase_of_ne hne).2 hy'
    have hl := List.length_erase_of_mem hx
    have hpos : 0 < m.length := List.length_pos_of_mem hx
    rw [List.length_cons]
    omega

structure Keeps (s s' : SearchD) : Prop where
  inv : SInv s'
  plan : s'.1 = s.1
  met : (gMet s).length ≤ (gMet s').length

theorem Keeps.refl {s : SearchD} (h : SInv s) : Keeps s s := ⟨h, rfl, Nat.le_refl _⟩
theorem Keeps.trans {a b c : SearchD} (h : Keeps a b) (k : Keeps b c) : Keeps a c := ⟨k.inv, k.plan.trans h.plan, Nat.le_trans h.met k.met⟩
theorem Keeps.onOk {s s' : SearchD} {n : Nat} (h : Keeps s s') (k : onOk n s) : onOk n s' := ⟨h.inv, by rw [h.plan]; have := k.2; have := h.met; omega⟩

theorem bare_keeps {s : SearchD} (h : SInv s) : Keeps s (sBare s) := ⟨⟨h.joined, h.joins, h.nodup, h.sub, h.guards, h.holds, h.zone, h.steps⟩, rfl, Nat.le_refl _⟩

theorem zone_keeps {s : SearchD} (h : SInv s) (e : Int) : Keeps s (fZone s e).2 ∧ gMet (fZone s e).2 = gMet s := by
  unfold fZone
  cases fMem (gZone s) e with
  | true => exact ⟨.refl h, rfl⟩
  | false =>
    cases hd : decide (12 ≤ (gZone s).length) with
    | true => exact ⟨bare_keeps h, rfl⟩
    | false =>
      have hd := of_decide_eq_false hd
      refine ⟨⟨⟨h.joined, h.joins, h.nodup, h.sub, h.guards, h.holds, ?_, h.steps⟩, rfl, Nat.le_refl _⟩, rfl⟩
      show (gZone s ++ [e]).length ≤ 12
      rw [List.length_append]
      show (gZone s).length + 1 ≤ 12
      omega

theorem on_keeps {rec : PortD → SearchD → SearchD} {n : Nat} (hrec : ∀ y s, comeOk n y s → Keeps s (rec y s)) (e stop : Int) {s : SearchD} (h : onOk n s) : Keeps s (sOn rec e stop s) := by
  unfold sOn
  cases hn : (fNext s.1 (e, stop)).2 with
  | true => exact hrec _ _ ⟨h, next_mem hn⟩
  | false => exact .refl h.1

theorem points_keeps {rec : PortD → SearchD → SearchD} {n : Nat} (hrec : ∀ y s, comeOk n y s → Keeps s (rec y s)) {y : PortD} {s : SearchD} (h : pointsOk n y s) : Keeps s (sPoints rec y s) := by
  obtain ⟨⟨h1, h2⟩, h3⟩ := h
  obtain ⟨hz, _⟩ := zone_keeps h1.1 y.1
  unfold sPoints
  cases y.2 == 0 with
  | true =>
    cases (fZone s y.1).1 with
    | true =>
      have k1 := on_keeps hrec y.1 1 (hz.onOk h1)
      have k2 := on_keeps hrec y.1 2 (k1.onOk (hz.onOk h1))
      exact hz.trans (k1.trans k2)
    | false => exact hz
  | false =>
    cases !fHasNeed (gNeeds s) (y.1, y.2) && !fHasNeed (gGuards s) (y.1, y.2) with
    | true =>
      cases fHasNeed (gGuards s) (y.1, 3 - y.2) with
      | true => exact .refl h1.1
      | false =>
        refine ⟨⟨h1.1.joined, h1.1.joins, h1.1.nodup, h1.1.sub, ?_, h1.1.holds, h1.1.zone, h1.1.steps⟩, rfl, Nat.le_refl _⟩
        show (gGuards s ++ [(y.1, 3 - y.2)]).length ≤ (gMet s).length
        rw [List.length_append]
        show (gGuards s).length + 1 ≤ _
        omega
    | false =>
      cases (fZone s y.1).1 with
      | true => exact hz.trans (on_keeps hrec y.1 0 (hz.onOk h1))
      | false => exact hz

theorem new_keeps {rec : PortD → SearchD → SearchD} {n : Nat} (hrec : ∀ y s, comeOk n y s → Keeps s (rec y s)) {y : PortD} {s : SearchD} (h : pointsOk n y s) (hh : (gHolds s).length < (gMet s).length) : Keeps s (sNew rec y s) := by
  have h1 := h.1.1
  obtain ⟨hz, _⟩ := zone_keeps h1.1 y.1
  unfold sNew
  cases decide (0 ≤ fReads s.1 y) && !s.1.2.2.2.2.2.2.2.2 with
  | true =>
    cases fMem (gHolds s) (fReads s.1 y) with
    | true => exact .refl h1.1
    | false =>
      refine ⟨⟨h1.1.joined, h1.1.joins, h1.1.nodup, h1.1.sub, h1.1.guards, ?_, h1.1.zone, h1.1.steps⟩, rfl, Nat.le_refl _⟩
      show (gHolds s ++ [fReads s.1 y]).length ≤ (gMet s).length
      rw [List.length_append]
      show (gHolds s).length + 1 ≤ _
      omega
  | false =>
    cases fKind s.1 y.1 == 4 with
    | true => exact bare_keeps h1.1
    | false =>
      cases fKind s.1 y.1 == 2 with
      | true => exact points_keeps hrec h
      | false =>
        cases (fZone s y.1).1 with
        | true => exact hz.trans (on_keeps hrec _ _ (hz.onOk h1))
        | false => exact hz

theorem met_more {s : SearchD} {n : Nat} {y : PortD} (h : comeOk (n + 1) y s) (hy : fHasPort (gMet s) y = false) :
    pointsOk n y (sMet s (gMet s ++ [y])) ∧ (gHolds (sMet s (gMet s ++ [y]))).length < (gMet (sMet s (gMet s ++ [y]))).length ∧ Keeps s (sMet s (gMet s ++ [y])) := by
  obtain ⟨⟨h1, h2⟩, h3⟩ := h
  have hl : (gMet (sMet s (gMet s ++ [y]))).length = (gMet s).length + 1 := by
    show (gMet s ++ [y]).length = _
    rw [List.length_append]
    rfl
  have hnot : y ∉ gMet s := fun hm => by
    unfold fHasPort at hy
    have := List.any_eq_false.1 hy y hm
    simp at this
  have inv : SInv (sMet s (gMet s ++ [y])) := by
    refine ⟨h1.joined, h1.joins, ?_, ?_, ?_, ?_, h1.zone, h1.steps⟩
    · show (gMet s ++ [y]).Nodup
      rw [List.nodup_append]
      refine ⟨h1.nodup, by simp, fun a ha b hb => ?_⟩
      have : b = y := by simpa using hb
      subst this
      exact fun e => hnot (e ▸ ha)
    · intro z hz
      have hz : z ∈ gMet s ++ [y] := hz
      rcases List.mem_append.1 hz with hz | hz
      · exact h1.sub z hz
      · have : z = y := by simpa using hz
        rw [this]; exact h3
    · rw [hl]; have := h1.guards; show (gGuards s).length ≤ _; omega
    · rw [hl]; have := h1.holds; show (gHolds s).length ≤ _; omega
  refine ⟨⟨⟨⟨inv, ?_⟩, h3⟩, ?_⟩, ?_, ⟨inv, rfl, by rw [hl]; omega⟩⟩
  · rw [hl]; show (joinEnds s.1).length < _; omega
  · rw [hl]; have := h1.guards; show (gGuards s).length < _; omega
  · rw [hl]; have := h1.holds; show (gHolds s).length < _; omega

theorem come_zero {y : PortD} {s : SearchD} : ¬ comeOk 0 y s := fun h => by
  have := nodup_len h.1.1.nodup h.1.1.sub
  have := h.1.2
  omega

theorem come_keeps : ∀ (n : Nat) (y : PortD) (s : SearchD), comeOk n y s → Keeps s (sCome n y s)
  | 0, y, s, h => absurd h come_zero
  | n + 1, y, s, h => by
    show Keeps s (sStep (sCome n) y s)
    unfold sStep
    cases hb : fOwn (sRoad s) y.1 || fHasPort (gMet s) y with
    | true => exact .refl h.1.1
    | false =>
      rw [Bool.or_eq_false_iff] at hb
      obtain ⟨k1, k2, k3⟩ := met_more h hb.2
      exact k3.trans (new_keeps (come_keeps n) k1 k2)

theorem v48 (s : SearchD) (e : Int) : obodyVC (ctxOf tab [(34, c34)]) Try.f48 c48 noAnn (s, e, ()) = (
lett (fMem s.snd.snd.snd.snd.snd.snd.snd.fst e) fun (y2 : Bool) =>
lett (fZone s e).snd.snd.snd fun (y3 : Int × Int × List (Int × Int × Int) × List (Int × Int) × List (Int × Int) × List Int × List Int × Bool × List (Int × Int)) =>
lett (decide ((↑s.snd.snd.snd.snd.snd.snd.snd.fst.length : Int) ≥ (12 : Int))) fun (y4 : Bool) =>
lett ((List.replicate (1 : Nat) (0 : Int)).set (0 : Nat) e) fun (y5 : List Int) =>
True ∧
(y2 = true →
true = (fZone s e).fst ∧
s.fst = (fZone s e).snd.fst ∧
s.snd.fst = (fZone s e).snd.snd.fst ∧
s.snd.snd.fst = y3.fst ∧
s.snd.snd.snd.fst = y3.snd.fst ∧
s.snd.snd.snd.snd.fst = y3.snd.snd.fst ∧
s.snd.snd.snd.snd.snd.fst = y3.snd.snd.snd.fst ∧
s.snd.snd.snd.snd.snd.snd.fst = y3.snd.snd.snd.snd.fst ∧
s.snd.snd.snd.snd.snd.snd.snd.fst = y3.snd.snd.snd.snd.snd.fst ∧
s.snd.snd.snd.snd.snd.snd.snd.snd.fst = y3.snd.snd.snd.snd.snd.snd.fst ∧
s.snd.snd.snd.snd.snd.snd.snd.snd.snd.fst = y3.snd.snd.snd.snd.snd.snd.snd.fst ∧
s.snd.snd.snd.snd.snd.snd.snd.snd.snd.snd = y3.snd.snd.snd.snd.snd.snd.snd.snd ∧ True) ∧
(y2 = false →
(y4 = true →
false = (fZone s e).fst ∧
s.fst = (fZone s e).snd.fst ∧
s.snd.fst = (fZone s e).snd.snd.fst ∧
s.snd.snd.fst = y3.fst ∧
s.snd.snd.snd.fst = y3.snd.fst ∧
s.snd.snd.snd.snd.fst = y3.snd.snd.fst ∧
s.snd.snd.snd.snd.snd.fst = y3.snd.snd.snd.fst ∧
s.snd.snd.snd.snd.snd.snd.fst = y3.snd.snd.snd.snd.fst ∧
s.snd.snd.snd.snd.snd.snd.snd.fst = y3.snd.snd.snd.snd.snd.fst ∧
s.snd.snd.snd.snd.snd.snd.snd.snd.fst = y3.snd.snd.snd.snd.snd.snd.fst ∧
true = y3.snd.snd.snd.snd.snd.snd.snd.fst ∧ s.snd.snd.snd.snd.snd.snd.snd.snd.snd.snd = y3.snd.snd.snd.snd.snd.snd.snd.snd ∧ True) ∧
(y4 = false →
roomFor (s.snd.snd.snd.snd.snd.snd.snd.fst.length + y5.length) (8 : Nat) ∧
true = (fZone s e).fst ∧
s.fst = (fZone s e).snd.fst ∧
s.snd.fst = (fZone s e).snd.snd.fst ∧
s.snd.snd.fst = y3.fst ∧
s.snd.snd.snd.fst = y3.snd.fst ∧
s.snd.snd.snd.snd.fst = y3.snd.snd.fst ∧
s.snd.snd.snd.snd.snd.fst = y3.snd.snd.snd.fst ∧
s.snd.snd.snd.snd.snd.snd.fst = y3.snd.snd.snd.snd.fst ∧
s.snd.snd.snd.snd.snd.snd.snd.fst ++ y5 = y3.snd.snd.snd.snd.snd.fst ∧
s.snd.snd.snd.snd.snd.snd.snd.snd.fst = y3.snd.snd.snd.snd.snd.snd.fst ∧
s.snd.snd.snd.snd.snd.snd.snd.snd.snd.fst = y3.snd.snd.snd.snd.snd.snd.snd.fst ∧
s.snd.snd.snd.snd.snd.snd.snd.snd.snd.snd = y3.snd.snd.snd.snd.snd.snd.snd.snd ∧ True))) := by kernel_rfl

theorem b48 (s : SearchD) (e : Int) (hz : (gZone s).length ≤ 1000) : obodyVC (ctxOf tab [(34, c34)]) Try.f48 c48 noAnn (s, e, ()) := by
  have hz : s.2.2.2.2.2.2.2.1.length ≤ 1000 := hz
  rw [v48]
  refine lett.mk fun y2 e2 => lett.mk fun y3 e3 => lett.mk fun y4 e4 => lett.mk fun y5 e5 => ?_
  have e5 : y5 = [e] := e5
  rw [geN _ 12 12 rfl] at e4
  subst e3
  have hZ : fZone s e = bif y2 then (true, s) else bif y4 then (false, sBare s) else (true, sZone s (gZone s ++ [e])) := by
    rw [e2, e4]
    unfold fZone
    rfl
  refine ⟨trivial, fun h => ⟨by rw [hZ, h]; rfl, eqS (by rw [hZ, h]; rfl)⟩, fun h => ⟨fun h4 => ⟨by rw [hZ, h, h4]; rfl, eqS (a := sBare s) (by rw [hZ, h, h4]; rfl)⟩, fun h4 => ⟨roomB (by rw [e5]; simp; omega) (by omega), by rw [hZ, h, h4]; rfl, ?_⟩⟩⟩
  rw [e5]
  exact eqS (a := sZone s (gZone s ++ [e])) (by rw [hZ, h, h4]; rfl)

theorem ok48 : OOk Try.prog 48 c48 :=
  OOk.of' (l := [(34, c34)]) (A := fun _ => noAnn) tabOk ⟨ok34, trivial⟩ Try.func48 (by kernel_rfl) (by kernel_rfl) fun x _ hp => b48 x.1 x.2.1 hp

theorem v26 (n : Nat) (s : SearchD) (e : Int) (stop : Int) : obodyVC (ctxOf tab [(31, c31), (41, c41 n)]) Try.f26 (c26 n) noAnn (s, e, stop, ()) = (
lett (fNext s.fst (e, stop)) fun (y3 : PortD × Bool) =>
lett (sOn (sCome n) e stop s) fun (y4 : SearchD) =>
lett (sCome n y3.fst s).snd fun (y5 : Int × Int × Int × List (Int × Int × Int) × List (Int × Int) × List (Int × Int) × List Int × List Int × Bool × List (Int × Int)) =>
True ∧
(y3.snd = true →
comeOk n y3.fst s ∧
(sCome n y3.fst s).fst = y4.fst ∧
y5.fst = y4.snd.fst ∧
y5.snd.fst = y4.snd.snd.fst ∧
y5.snd.snd.fst = y4.snd.snd.snd.fst ∧
y5.snd.snd.snd.fst = y4.snd.snd.snd.snd.fst ∧
y5.snd.snd.snd.snd.fst = y4.snd.snd.snd.snd.snd.fst ∧
y5.snd.snd.snd.snd.snd.fst = y4.snd.snd.snd.snd.snd.snd.fst ∧
y5.snd.snd.snd.snd.snd.snd.fst = y4.snd.snd.snd.snd.snd.snd.snd.fst ∧
y5.snd.snd.snd.snd.snd.snd.snd.fst = y4.snd.snd.snd.snd.snd.snd.snd.snd.fst ∧
y5.snd.snd.snd.snd.snd.snd.snd.snd.fst = y4.snd.snd.snd.snd.snd.snd.snd.snd.snd.fst ∧
y5.snd.snd.snd.snd.snd.snd.snd.snd.snd = y4.snd.snd.snd.snd.snd.snd.snd.snd.snd.snd ∧ True) ∧
(y3.snd = false →
s.fst = y4.fst ∧
s.snd.fst = y4.snd.fst ∧
s.snd.snd.fst = y4.snd.snd.fst ∧
s.snd.snd.snd.fst = y4.snd.snd.snd.fst ∧
s.snd.snd.snd.snd.fst = y4.snd.snd.snd.snd.fst ∧
s.snd.snd.snd.snd.snd.fst = y4.snd.snd.snd.snd.snd.fst ∧
s.snd.snd.snd.snd.snd.snd.fst = y4.snd.snd.snd.snd.snd.snd.fst ∧
s.snd.snd.snd.snd.snd.snd.snd.fst = y4.snd.snd.snd.snd.snd.snd.snd.fst ∧
s.snd.snd.snd.snd.snd.snd.snd.snd.fst = y4.snd.snd.snd.snd.snd.snd.snd.snd.fst ∧
s.snd.snd.snd.snd.snd.snd.snd.snd.snd.fst = y4.snd.snd.snd.snd.snd.snd.snd.snd.snd.fst ∧
s.snd.snd.snd.snd.snd.snd.snd.snd.snd.snd = y4.snd.snd.snd.snd.snd.snd.snd.snd.snd.snd ∧ True)) := by kernel_rfl

theorem b26 (n : Nat) (s : SearchD) (e stop : Int) (hp : onOk n s) : obodyVC (ctxOf tab [(31, c31), (41, c41 n)]) Try.f26 (c26 n) noAnn (s, e, stop, ()) := by
  rw [v26]
  refine lett.mk fun y3 e3 => lett.mk fun y4 e4 => lett.mk fun y5 e5 => ?_
  subst e5
  have hS : y4 = bif y3.2 then sCome n y3.1 s else s := by
    rw [e4, e3]
    unfold sOn
    rfl
  refine ⟨trivial, fun h => ⟨⟨hp, by rw [e3] at h ⊢; exact next_mem h⟩, eqS (by rw [hS, h]; rfl)⟩, fun h => eqS (by rw [hS, h]; rfl)⟩

theorem v46 (n : Nat) (s : SearchD) (y : Int × Int) : obodyVC (ctxOf tab [(48, c48), (50, c50), (26, c26 n)]) Try.f46 (c46 n) noAnn (s, y, ()) = (
lett (sOn (sCome n) y.fst (1 : Int) (fZone s y.fst).snd) fun (y2 : SearchD) =>
lett (sOn (sCome n) y.fst (2 : Int) y2) fun (y3 : SearchD) =>
lett (sPoints (sCome n) y s).fst
fun (y4 : PlanD) =>
lett (sPoints (sCome n) y s).snd fun (y5 : Int × Int × Int × List (Int × Int × Int) × List (Int × Int) × List (Int × Int) × List Int × List Int × Bool × List (Int × Int)) =>
lett (fZone s y.fst).snd.snd fun (y6 : Int × Int × Int × List (Int × Int × Int) × List (Int × Int) × List (Int × Int) × List Int × List Int × Bool × List (Int × Int)) =>
lett (!fHasNeed s.snd.snd.snd.snd.snd.fst y) fun (y7 : Bool) =>
lett (bif y7 then !fHasNeed s.snd.snd.snd.snd.snd.snd.fst y else false) fun (y8 : Bool) =>
lett (y.fst, (3 : Int) - y.snd) fun (y9 : Int × Int) =>
lett (!fHasNeed s.snd.snd.snd.snd.snd.snd.fst y9) fun (y10 : Bool) =>
lett ((List.replicate (1 : Nat) ((0 : Int), (0 : Int))).set (0 : Nat) y9) fun (y11 : List (Int × Int)) =>
lett (sOn (sCome n) y.fst (0 : Int) (fZone s y.fst).snd) fun (y12 : SearchD) =>
((y.snd == (0 : Int)) = true →
(gZone s).length ≤ (1000 : Nat) ∧
((fZone s y.fst).fst = true →
onOk n (fZone s y.fst).snd ∧
onOk n y2 ∧
y3.fst = y4 ∧
y3.snd.fst = y5.fst ∧
y3.snd.snd.fst = y5.snd.fst ∧
y3.snd.snd.snd.fst = y5.snd.snd.fst ∧
y3.snd.snd.snd.snd.fst = y5.snd.snd.snd.fst ∧
y3.snd.snd.snd.snd.snd.fst = y5.snd.snd.snd.snd.fst ∧
y3.snd.snd.snd.snd.snd.snd.fst = y5.snd.snd.snd.snd.snd.fst ∧
y3.snd.snd.snd.snd.snd.snd.snd.fst = y5.snd.snd.snd.snd.snd.snd.fst ∧
y3.snd.snd.snd.snd.snd.snd.snd.snd.fst = y5.snd.snd.snd.snd.snd.snd.snd.fst ∧
y3.snd.snd.snd.snd.snd.snd.snd.snd.snd.fst = y5.snd.snd.snd.snd.snd.snd.snd.snd.fst ∧
y3.snd.snd.snd.snd.snd.snd.snd.snd.snd.snd = y5.snd.snd.snd.snd.snd.snd.snd.snd.snd ∧ True) ∧
((fZone s y.fst).fst = false →
(fZone s y.fst).snd.fst = y4 ∧
y6.fst = y5.fst ∧
y6.snd.fst = y5.snd.fst ∧
y6.snd.snd.fst = y5.snd.snd.fst ∧
y6.snd.snd.snd.fst = y5.snd.snd.snd.fst ∧
y6.snd.snd.snd.snd.fst = y5.snd.snd.snd.snd.fst ∧
y6.snd.snd.snd.snd.snd.fst = y5.snd.snd.snd.snd.snd.fst ∧
y6.snd.snd.snd.snd.snd.snd.fst = y5.snd.snd.snd.snd.snd.snd.fst ∧
y6.snd.snd.snd.snd.snd.snd.snd.fst = y5.snd.snd.snd.snd.snd.snd.snd.fst ∧
y6.snd.snd.snd.snd.snd.snd.snd.snd.fst = y5.snd.snd.snd.snd.snd.snd.snd.snd.fst ∧
y6.snd.snd.snd.snd.snd.snd.snd.snd.snd = y5.snd.snd.snd.snd.snd.snd.snd.snd.snd ∧ True)) ∧
((y.snd == (0 : Int)) = false →
InR IntKind.i64 ((3 : Int) - y.snd) ∧
True ∧
(y7 = true → True) ∧
(y8 = true →
True ∧
(y10 = true →
roomFor (s.snd.snd.snd.snd.snd.snd.fst.length + y11.length) (16 : Nat) ∧
s.fst = y4 ∧
s.snd.fst = y5.fst ∧
s.snd.snd.fst = y5.snd.fst ∧
s.snd.snd.snd.fst = y5.snd.snd.fst ∧
s.snd.snd.snd.snd.fst = y5.snd.snd.snd.fst ∧
s.snd.snd.snd.snd.snd.fst = y5.snd.snd.snd.snd.fst ∧
s.snd.snd.snd.snd.snd.snd.fst ++ y11 = y5.snd.snd.snd.snd.snd.fst ∧
s.snd.snd.snd.snd.snd.snd.snd.fst = y5.snd.snd.snd.snd.snd.snd.fst ∧
s.snd.snd.snd.snd.snd.snd.snd.snd.fst = y5.snd.snd.snd.snd.snd.snd.snd.fst ∧
s.snd.snd.snd.snd.snd.snd.snd.snd.snd.fst = y5.snd.snd.snd.snd.snd.snd.snd.snd.fst ∧
s.snd.snd.snd.snd.snd.snd.snd.snd.snd.snd = y5.snd.snd.snd.snd.snd.snd.snd.snd.snd ∧ True) ∧
(y10 = false →
s.fst = y4 ∧
s.snd.fst = y5.fst ∧
s.snd.snd.fst = y5.snd.fst ∧
s.snd.snd.snd.fst = y5.snd.snd.fst ∧
s.snd.snd.snd.snd.fst = y5.snd.snd.snd.fst ∧
s.snd.snd.snd.snd.snd.fst = y5.snd.snd.snd.snd.fst ∧
s.snd.snd.snd.snd.snd.snd.fst = y5.snd.snd.snd.snd.snd.fst ∧
s.snd.snd.snd.snd.snd.snd.snd.fst = y5.snd.snd.snd.snd.snd.snd.fst ∧
s.snd.snd.snd.snd.snd.snd.snd.snd.fst = y5.snd.snd.snd.snd.snd.snd.snd.fst ∧
s.snd.snd.snd.snd.snd.snd.snd.snd.snd.fst = y5.snd.snd.snd.snd.snd.snd.snd.snd.fst ∧
s.snd.snd.snd.snd.snd.snd.snd.snd.snd.snd = y5.snd.snd.snd.snd.snd.snd.snd.snd.snd ∧ True)) ∧
(y8 = false →
(gZone s).length ≤ (1000 : Nat) ∧
((fZone s y.fst).fst = true →
onOk n (fZone s y.fst).snd ∧
y12.fst = y4 ∧
y12.snd.fst = y5.fst ∧
y12.snd.snd.fst = y5.snd.fst ∧
y12.snd.snd.snd.fst = y5.snd.snd.fst ∧
y12.snd.snd.snd.snd.fst = y5.snd.snd.snd.fst ∧
y12.snd.snd.snd.snd.snd.fst = y5.snd.snd.snd.snd.fst ∧
y12.snd.snd.snd.snd.snd.snd.fst = y5.snd.snd.snd.snd.snd.fst ∧
y12.snd.snd.snd.snd.snd.snd.snd.fst = y5.snd.snd.snd.snd.snd.snd.fst ∧
y12.snd.snd.snd.snd.snd.snd.snd.snd.fst = y5.snd.snd.snd.snd.snd.snd.snd.fst ∧
y12.snd.snd.snd.snd.snd.snd.snd.snd.snd.fst = y5.snd.snd.snd.snd.snd.snd.snd.snd.fst ∧
y12.snd.snd.snd.snd.snd.snd.snd.snd.snd.snd = y5.snd.snd.snd.snd.snd.snd.snd.snd.snd ∧ True) ∧
((fZone s y.fst).fst = false →
(fZone s y.fst).snd.fst = y4 ∧
y6.fst = y5.fst ∧
y6.snd.fst = y5.snd.fst ∧
y6.snd.snd.fst = y5.snd.snd.fst ∧
y6.snd.snd.snd.fst = y5.snd.snd.snd.fst ∧
y6.snd.snd.snd.snd.fst = y5.snd.snd.snd.snd.fst ∧
y6.snd.snd.snd.snd.snd.fst = y5.snd.snd.snd.snd.snd.fst ∧
y6.snd.snd.snd.snd.snd.snd.fst = y5.snd.snd.snd.snd.snd.snd.fst ∧
y6.snd.snd.snd.snd.snd.snd.snd.fst = y5.snd.snd.snd.snd.snd.snd.snd.fst ∧
y6.snd.snd.snd.snd.snd.snd.snd.snd.fst = y5.snd.snd.snd.snd.snd.snd.snd.snd.fst ∧
y6.snd.snd.snd.snd.snd.snd.snd.snd.snd = y5.snd.snd.snd.snd.snd.snd.snd.snd.snd ∧ True)))) := by kernel_rfl

theorem port_end {s : SearchD} (h : SInv s) {y : PortD} (hy : y ∈ joinEnds s.1) : 0 ≤ y.2 ∧ y.2 ≤ 3 := by
  obtain ⟨i, hi, he⟩ := List.mem_iff_getElem.1 hy
  have hj := h.joined
  unfold fJoined at hj
  rw [Bool.and_eq_true] at hj
  have := allTo_iff.1 hj.1 i hi
  unfold endOk at this
  rw [Bool.and_eq_true, getD_at zP hi, he] at this
  exact has_end this.1

theorem smet_len (s : SearchD) (h : SInv s) : (gMet s).length ≤ 2000 := by
  have := nodup_len h.nodup h.sub
  have hlen : ∀ l : List JoinD, (l.flatMap fun j => [j.1, j.2]).length = 2 * l.length := fun l => by
    induction l with
    | nil => rfl
    | cons x l ih => rw [List.flatMap_cons, List.length_append, ih, List.length_cons]; simp; omega
  have he : (joinEnds s.1).length = 2 * s.1.2.1.length := hlen s.1.2.1
  have := h.joins
  omega

theorem b46 (n : Nat) (s : SearchD) (y : PortD) (hp : pointsOk n y s) : obodyVC (ctxOf tab [(48, c48), (50, c50), (26, c26 n)]) Try.f46 (c46 n) noAnn (s, y, ()) := by
  have h1 := hp.1.1
  have hm := smet_len s h1.1
  have hend := port_end h1.1 hp.1.2
  obtain ⟨hz, _⟩ := zone_keeps h1.1 y.1
  have hzl : (gZone s).length ≤ 1000 := by have := h1.1.zone; omega
  have hgl : s.2.2.2.2.2.2.1.length ≤ 2000 := by
    have := h1.1.guards
    show (gGuards s).length ≤ 2000
    omega
  rw [v46]
  refine lett.mk fun y2 e2 => lett.mk fun y3 e3 => lett.mk fun y4 e4 => lett.mk fun y5 e5 => lett.mk fun y6 e6 => lett.mk fun y7 e7 => lett.mk fun y8 e8 => lett.mk fun y9 e9 => lett.mk fun y10 e10 => lett.mk fun y11 e11 => lett.mk fun y12 e12 => ?_
  subst e4 e5 e6
  have e11 : y11 = [y9] := e11
  have hS : sPoints (sCome n) y s = bif y.2 == 0 then (bif (fZone s y.1).1 then y3 else (fZone s y.1).2) else
      bif y8 then (bif !y10 then s else sGuard s (gGuards s ++ [y9])) else (bif (fZone s y.1).1 then y12 else (fZone s y.1).2) := by
    rw [e3, e2, e12, e8, e7, e10, e9, Bool.not_not]
    have key : ∀ a b : Bool, (bif a then b else false) = (a && b) := by decide
    rw [key]
    unfold sPoints
    rfl
  refine ⟨fun h => ⟨hzl, fun hf => ⟨hz.onOk h1, ?_, eqS (by rw [hS, h, hf]; rfl)⟩, fun hf => eqS (a := (fZone s y.1).2) (by rw [hS, h, hf]; rfl)⟩, fun h => ⟨inR64 (by omega) (by omega), trivial, fun _ => trivial, fun h8 => ⟨trivial, fun h10 => ⟨roomB (by rw [e11]; simp; omega) (by omega), ?_⟩, fun h10 => eqS (by rw [hS, h, h8, h10]; rfl)⟩, fun h8 => ⟨hzl, fun hf => ⟨hz.onOk h1, eqS (by rw [hS, h, h8, hf]; rfl)⟩, fun hf => eqS (a := (fZone s y.1).2) (by rw [hS, h, h8, hf]; rfl)⟩⟩⟩
  · rw [e2]
    exact (on_keeps (come_keeps n) y.1 1 (hz.onOk h1)).onOk (hz.onOk h1)
  · rw [e11]
    exact eqS (a := sGuard s (gGuards s ++ [y9])) (by rw [hS, h, h8, h10]; rfl)

theorem v41 (n : Nat) (s : SearchD) (y : Int × Int) : obodyVC (ctxOf tab [(44, c44), (45, c45), (33, c33), (34, c34), (40, c40), (46, c46 n), (47, c47), (48, c48), (26, c26 n)]) Try.f41 (c41 (n + 1)) noAnn (s, y, ()) = (
lett
(fOwn
(s.snd.fst, s.snd.snd.fst, s.snd.snd.snd.fst, s.snd.snd.snd.snd.fst, s.snd.snd.snd.snd.snd.fst, s.snd.snd.snd.snd.snd.snd.fst, s.snd.snd.snd.snd.snd.snd.snd.fst,
s.snd.snd.snd.snd.snd.snd.snd.snd.fst, s.snd.snd.snd.snd.snd.snd.snd.snd.snd.fst)
y.fst)
fun (y2 : Bool) =>
lett (bif y2 then true else fHasPort s.snd.snd.snd.snd.snd.snd.snd.snd.snd.snd y) fun (y3 : Bool) =>
lett (sCome (n + (1 : Nat)) y s) fun (y4 : SearchD) =>
lett ((List.replicate (1 : Nat) ((0 : Int), (0 : Int))).set (0 : Nat) y) fun (y5 : List (Int × Int)) =>
lett (bif decide (fReads s.fst y ≥ (0 : Int)) then !s.fst.snd.snd.snd.snd.snd.snd.snd.snd else false) fun (y6 : Bool) =>
lett (!fMem s.snd.snd.snd.snd.snd.snd.snd.snd.fst (fReads s.fst y)) fun (y7 : Bool) =>
lett ((List.replicate (1 : Nat) (0 : Int)).set (0 : Nat) (fReads s.fst y)) fun (y8 : List Int) =>
lett (s.snd.snd.snd.snd.snd.snd.snd.snd.snd.snd ++ y5) fun (y9 : List (Int × Int)) =>
lett (fKind s.fst y.fst == (4 : Int)) fun (y10 : Bool) =>
lett (fKind s.fst y.fst == (2 : Int)) fun (y11 : Bool) =>
lett
(s.fst, s.snd.fst, s.snd.snd.fst, s.snd.snd.snd.fst, s.snd.snd.snd.snd.fst, s.snd.snd.snd.snd.snd.fst, s.snd.snd.snd.snd.snd.snd.fst, s.snd.snd.snd.snd.snd.snd.snd.fst,
s.snd.snd.snd.snd.snd.snd.snd.snd.fst, s.snd.snd.snd.snd.snd.snd.snd.snd.snd.fst, y9)
fun
(y12 :
SearchD) =>
lett (sPoints (sCome n) y y12).snd fun (y13 : Int × Int × Int × List (Int × Int × Int) × List (Int × Int) × List (Int × Int) × List Int × List Int × Bool × List (Int × Int)) =>
lett (sOn (sCome n) y.fst (fFrom s.fst y.fst y.snd (0 : Int)).fst (fZone y12 y.fst).snd) fun (y14 : SearchD) =>
lett (fZone y12 y.fst).snd.snd fun (y15 : Int × Int × Int × List (Int × Int × Int) × List (Int × Int) × List (Int × Int) × List Int × List Int × Bool × List (Int × Int)) =>
s.snd.snd.snd.snd.fst.length ≤ (1000000 : Nat) ∧
(y2 = false → True) ∧
(y3 = true →
s.fst = y4.fst ∧
s.snd.fst = y4.snd.fst ∧
s.snd.snd.fst = y4.snd.snd.fst ∧
s.snd.snd.snd.fst = y4.snd.snd.snd.fst ∧
s.snd.snd.snd.snd.fst = y4.snd.snd.snd.snd.fst ∧
s.snd.snd.snd.snd.snd.fst = y4.snd.snd.snd.snd.snd.fst ∧
s.snd.snd.snd.snd.snd.snd.fst = y4.snd.snd.snd.snd.snd.snd.fst ∧
s.snd.snd.snd.snd.snd.snd.snd.fst = y4.snd.snd.snd.snd.snd.snd.snd.fst ∧
s.snd.snd.snd.snd.snd.snd.snd.snd.fst = y4.snd.snd.snd.snd.snd.snd.snd.snd.fst ∧
s.snd.snd.snd.snd.snd.snd.snd.snd.snd.fst = y4.snd.snd.snd.snd.snd.snd.snd.snd.snd.fst ∧
s.snd.snd.snd.snd.snd.snd.snd.snd.snd.snd = y4.snd.snd.snd.snd.snd.snd.snd.snd.snd.snd ∧ True) ∧
(y3 = false →
roomFor (s.snd.snd.snd.snd.snd.snd.snd.snd.snd.snd.length + y5.length) (16 : Nat) ∧
True ∧
(y6 = true →
True ∧
(y7 = true →
roomFor (s.snd.snd.snd.snd.snd.snd.snd.snd.fst.length + y8.length) (8 : Nat) ∧
s.fst = y4.fst ∧
s.snd.fst = y4.snd.fst ∧
s.snd.snd.fst = y4.snd.snd.fst ∧
s.snd.snd.snd.fst = y4.snd.snd.snd.fst ∧
s.snd.snd.snd.snd.fst = y4.snd.snd.snd.snd.fst ∧
s.snd.snd.snd.snd.snd.fst = y4.snd.snd.snd.snd.snd.fst ∧
s.snd.snd.snd.snd.snd.snd.fst = y4.snd.snd.snd.snd.snd.snd.fst ∧
s.snd.snd.snd.snd.snd.snd.snd.fst = y4.snd.snd.snd.snd.snd.snd.snd.fst ∧
s.snd.snd.snd.snd.snd.snd.snd.snd.fst ++ y8 = y4.snd.snd.snd.snd.snd.snd.snd.snd.fst ∧
s.snd.snd.snd.snd.snd.snd.snd.snd.snd.fst = y4.snd.snd.snd.snd.snd.snd.snd.snd.snd.fst ∧
y9 = y4.snd.snd.snd.snd.snd.snd.snd.snd.snd.snd ∧ True) ∧
(y7 = false →
s.fst = y4.fst ∧
s.snd.fst = y4.snd.fst ∧
s.snd.snd.fst = y4.snd.snd.fst ∧
s.snd.snd.snd.fst = y4.snd.snd.snd.fst ∧
s.snd.snd.snd.snd.fst = y4.snd.snd.snd.snd.fst ∧
s.snd.snd.snd.snd.snd.fst = y4.snd.snd.snd.snd.snd.fst ∧
s.snd.snd.snd.snd.snd.snd.fst = y4.snd.snd.snd.snd.snd.snd.fst ∧
s.snd.snd.snd.snd.snd.snd.snd.fst = y4.snd.snd.snd.snd.snd.snd.snd.fst ∧
s.snd.snd.snd.snd.snd.snd.snd.snd.fst = y4.snd.snd.snd.snd.snd.snd.snd.snd.fst ∧
s.snd.snd.snd.snd.snd.snd.snd.snd.snd.fst = y4.snd.snd.snd.snd.snd.snd.snd.snd.snd.fst ∧
y9 = y4.snd.snd.snd.snd.snd.snd.snd.snd.snd.snd ∧ True)) ∧
(y6 = false →
True ∧
(y10 = true →
s.fst = y4.fst ∧
s.snd.fst = y4.snd.fst ∧
s.snd.snd.fst = y4.snd.snd.fst ∧
s.snd.snd.snd.fst = y4.snd.snd.snd.fst ∧
s.snd.snd.snd.snd.fst = y4.snd.snd.snd.snd.fst ∧
s.snd.snd.snd.snd.snd.fst = y4.snd.snd.snd.snd.snd.fst ∧
s.snd.snd.snd.snd.snd.snd.fst = y4.snd.snd.snd.snd.snd.snd.fst ∧
s.snd.snd.snd.snd.snd.snd.snd.fst = y4.snd.snd.snd.snd.snd.snd.snd.fst ∧
s.snd.snd.snd.snd.snd.snd.snd.snd.fst = y4.snd.snd.snd.snd.snd.snd.snd.snd.fst ∧
true = y4.snd.snd.snd.snd.snd.snd.snd.snd.snd.fst ∧ y9 = y4.snd.snd.snd.snd.snd.snd.snd.snd.snd.snd ∧ True) ∧
(y10 = false →
(y11 = true →
pointsOk n y y12 ∧
(sPoints (sCome n) y y12).fst = y4.fst ∧
y13.fst = y4.snd.fst ∧
y13.snd.fst = y4.snd.snd.fst ∧
y13.snd.snd.fst = y4.snd.snd.snd.fst ∧
y13.snd.snd.snd.fst = y4.snd.snd.snd.snd.fst ∧
y13.snd.snd.snd.snd.fst = y4.snd.snd.snd.snd.snd.fst ∧
y13.snd.snd.snd.snd.snd.fst = y4.snd.snd.snd.snd.snd.snd.fst ∧
y13.snd.snd.snd.snd.snd.snd.fst = y4.snd.snd.snd.snd.snd.snd.snd.fst ∧
y13.snd.snd.snd.snd.snd.snd.snd.fst = y4.snd.snd.snd.snd.snd.snd.snd.snd.fst ∧
y13.snd.snd.snd.snd.snd.snd.snd.snd.fst = y4.snd.snd.snd.snd.snd.snd.snd.snd.snd.fst ∧
y13.snd.snd.snd.snd.snd.snd.snd.snd.snd = y4.snd.snd.snd.snd.snd.snd.snd.snd.snd.snd ∧ True) ∧
(y11 = false →
True ∧
(gZone y12).length ≤ (1000 : Nat) ∧
((fZone y12 y.fst).fst = true →
onOk n (fZone y12 y.fst).snd ∧
y14.fst = y4.fst ∧
y14.snd.fst = y4.snd.fst ∧
y14.snd.snd.fst = y4.snd.snd.fst ∧
y14.snd.snd.snd.fst = y4.snd.snd.snd.fst ∧
y14.snd.snd.snd.snd.fst = y4.snd.snd.snd.snd.fst ∧
y14.snd.snd.snd.snd.snd.fst = y4.snd.snd.snd.snd.snd.fst ∧
y14.snd.snd.snd.snd.snd.snd.fst = y4.snd.snd.snd.snd.snd.snd.fst ∧
y14.snd.snd.snd.snd.snd.snd.snd.fst = y4.snd.snd.snd.snd.snd.snd.snd.fst ∧
y14.snd.snd.snd.snd.snd.snd.snd.snd.fst = y4.snd.snd.snd.snd.snd.snd.snd.snd.fst ∧
y14.snd.snd.snd.snd.snd.snd.snd.snd.snd.fst = y4.snd.snd.snd.snd.snd.snd.snd.snd.snd.fst ∧
y14.snd.snd.snd.snd.snd.snd.snd.snd.snd.snd = y4.snd.snd.snd.snd.snd.snd.snd.snd.snd.snd ∧ True) ∧
((fZone y12 y.fst).fst = false →
(fZone y12 y.fst).snd.fst = y4.fst ∧
y15.fst = y4.snd.fst ∧
y15.snd.fst = y4.snd.snd.fst ∧
y15.snd.snd.fst = y4.snd.snd.snd.fst ∧
y15.snd.snd.snd.fst = y4.snd.snd.snd.snd.fst ∧
y15.snd.snd.snd.snd.fst = y4.snd.snd.snd.snd.snd.fst ∧
y15.snd.snd.snd.snd.snd.fst = y4.snd.snd.snd.snd.snd.snd.fst ∧
y15.snd.snd.snd.snd.snd.snd.fst = y4.snd.snd.snd.snd.snd.snd.snd.fst ∧
y15.snd.snd.snd.snd.snd.snd.snd.fst = y4.snd.snd.snd.snd.snd.snd.snd.snd.fst ∧
y15.snd.snd.snd.snd.snd.snd.snd.snd.fst = y4.snd.snd.snd.snd.snd.snd.snd.snd.snd.fst ∧
y15.snd.snd.snd.snd.snd.snd.snd.snd.snd = y4.snd.snd.snd.snd.snd.snd.snd.snd.snd.snd ∧ True)))))) := by kernel_rfl

theorem b41 (n : Nat) (s : SearchD) (y : PortD) (hp : comeOk (n + 1) y s) : obodyVC (ctxOf tab [(44, c44), (45, c45), (33, c33), (34, c34), (40, c40), (46, c46 n), (47, c47), (48, c48), (26, c26 n)]) Try.f41 (c41 (n + 1)) noAnn (s, y, ()) := by
  have h1 := hp.1
  have hm := smet_len s h1.1
  have hst : s.2.2.2.2.1.length ≤ 1000 := h1.1.steps
  have hhl : s.2.2.2.2.2.2.2.2.1.length ≤ 2000 := by
    have := h1.1.holds
    show (gHolds s).length ≤ 2000
    omega
  have hml : s.2.2.2.2.2.2.2.2.2.2.length ≤ 2000 := hm
  rw [v41]
  refine lett.mk fun y2 e2 => lett.mk fun y3 e3 => lett.mk fun y4 e4 => lett.mk fun y5 e5 => lett.mk fun y6 e6 => lett.mk fun y7 e7 => lett.mk fun y8 e8 => lett.mk fun y9 e9 => lett.mk fun y10 e10 => lett.mk fun y11 e11 => lett.mk fun y12 e12 => lett.mk fun y13 e13 => lett.mk fun y14 e14 => lett.mk fun y15 e15 => ?_
  subst e13 e15
  have e5 : y5 = [y] := e5
  have e8 : y8 = [fReads s.1 y] := e8
  have e12 : y12 = sMet s (gMet s ++ [y]) := by rw [e12, e9, e5]; rfl
  have e9 : y9 = gMet s ++ [y] := by rw [e9, e5]
  have e2 : y2 = fOwn (sRoad s) y.1 := by rw [e2]; unfold sRoad; rfl
  have hS : y4 = bif y3 then s else sNew (sCome n) y y12 := by
    rw [e4, e3, e2, e12]
    show sStep (sCome n) y s = _
    unfold sStep
    have key : ∀ a b : Bool, (a || b) = (bif a then true else b) := by decide
    rw [key]
  have hN : sNew (sCome n) y y12 = bif y6 then (bif !y7 then y12 else sHold y12 (gHolds s ++ [fReads s.1 y])) else
      bif y10 then sBare y12 else bif y11 then sPoints (sCome n) y y12 else (bif (fZone y12 y.1).1 then y14 else (fZone y12 y.1).2) := by
    rw [e14, e6, e7, e10, e11, e12, Bool.not_not]
    have key : ∀ a b : Bool, (bif a then b else false) = (a && b) := by decide
    rw [key]
    unfold sNew
    rfl
  refine ⟨by omega, fun _ => trivial, fun h => eqS (by rw [hS, h]; rfl), fun h => ?_⟩
  have hfp : fHasPort (gMet s) y = false := by
    rw [h] at e3
    exact (bif_or e3.symm).2
  obtain ⟨k1, k2, k3⟩ := met_more hp hfp
  rw [← e12] at k1 k2 k3
  rw [h, cond_false, hN] at hS
  obtain ⟨hz, _⟩ := zone_keeps k1.1.1.1 y.1
  have hzl : (gZone y12).length ≤ 1000 := by have := k1.1.1.1.zone; omega
  refine ⟨roomB (by rw [e5]; simp; omega) (by omega), trivial, fun h6 => ⟨trivial, fun h7 => ⟨roomB (by rw [e8]; simp; omega) (by omega), ?_⟩, fun h7 => ?_⟩, fun h6 => ⟨trivial, fun h10 => ?_, fun h10 => ⟨fun h11 => ⟨k1, eqS (by rw [hS, h6, h10, h11]; rfl)⟩, fun h11 => ⟨trivial, hzl, fun hf => ⟨hz.onOk k1.1.1, eqS (by rw [hS, h6, h10, h11, hf]; rfl)⟩, fun hf => eqS (a := (fZone y12 y.1).2) (by rw [hS, h6, h10, h11, hf]; rfl)⟩⟩⟩⟩
  · rw [e8, e9]
    exact eqS (a := sHold (sMet s (gMet s ++ [y])) (gHolds s ++ [fReads s.1 y])) (by rw [hS, h6, h7, e12]; rfl)
  · rw [e9]
    exact eqS (a := sMet s (gMet s ++ [y])) (by rw [hS, h6, h7, e12]; rfl)
  · rw [e9]
    exact eqS (a := sBare (sMet s (gMet s ++ [y]))) (by rw [hS, h6, h10, e12]; rfl)

theorem ok41 : ∀ n : Nat, OOk Try.prog 41 (c41 n)
  | 0 => { fn := ⟨Try.f41, _, Try.func41, by kernel_rfl, rfl⟩, okA := by decide, okO := by decide, calls := fun F w x vs pl h1 h2 h3 h4 h5 hp h6 => absurd hp come_zero }
  | n + 1 => by
    have k26 : OOk Try.prog 26 (c26 n) := OOk.of' (l := [(31, c31), (41, c41 n)]) (A := fun _ => noAnn) tabOk ⟨ok31, ok41 n, trivial⟩ Try.func26 (by kernel_rfl) (by kernel_rfl) fun x _ hp => b26 n x.1 x.2.1 x.2.2.1 hp
    have k46 : OOk Try.prog 46 (c46 n) := OOk.of' (l := [(48, c48), (50, c50), (26, c26 n)]) (A := fun _ => noAnn) tabOk ⟨ok48, ok50, k26, trivial⟩ Try.func46 (by kernel_rfl) (by kernel_rfl) fun x _ hp => b46 n x.1 x.2.1 hp
    exact OOk.of' (l := [(44, c44), (45, c45), (33, c33), (34, c34), (40, c40), (46, c46 n), (47, c47), (48, c48), (26, c26 n)]) (A := fun _ => noAnn) tabOk ⟨ok44, ok45, ok33, ok34, ok40, k46, ok47, ok48, k26, trivial⟩ Try.func41 (by kernel_rfl) (by kernel_rfl) fun x _ hp => b41 n x.1 x.2.1 hp

theorem ok26 (n : Nat) : OOk Try.prog 26 (c26 n) :=
  OOk.of' (l := [(31, c31), (41, c41 n)]) (A := fun _ => noAnn) tabOk ⟨ok31, ok41 n, trivial⟩ Try.func26 (by kernel_rfl) (by kernel_rfl) fun x _ hp => b26 n x.1 x.2.1 x.2.2.1 hp

/-! ### Flanks -/

theorem check_facts {p : PlanD} (h : fCheck p = 0) : fSizes p = true ∧ fJoined p = true := by
  unfold fCheck at h
  cases h1 : fSizes p with
  | false => rw [h1] at h; have h : (3 : Int) = 0 := h; exact absurd h (by decide)
  | true =>
    rw [h1] at h
    cases h2 : fArgs p with
    | false => rw [h2] at h; have h : (1 : Int) = 0 := h; exact absurd h (by decide)
    | true =>
      rw [h2] at h
      cases h3 : (fTwice (p.1.map fun e => e.1) || (fTwice (p.2.2.1.map fun s => s.1) || fTwice (p.2.2.2.1.map fun l => l.1))) with
      | true => rw [h3] at h; have h : (4 : Int) = 0 := h; exact absurd h (by decide)
      | false =>
        rw [h3] at h
        cases h4 : fJoined p with
        | false => rw [h4] at h; have h : (6 : Int) = 0 := h; exact absurd h (by decide)
        | true => exact ⟨rfl, rfl⟩

theorem sizes_facts {p : PlanD} (h : fSizes p = true) : p.1.length ≤ 40 ∧ p.2.2.1.length ≤ 24 ∧ p.2.2.2.1.length ≤ 4 ∧ p.2.1.length ≤ 80 := by
  unfold fSizes at h
  simp only [Bool.and_eq_true] at h
  exact ⟨of_decide_eq_true h.1, of_decide_eq_true h.2.1, of_decide_eq_true h.2.2.1, of_decide_eq_true h.2.2.2⟩

theorem ends_len (p : PlanD) : (joinEnds p).length = 2 * p.2.1.length := by
  have hlen : ∀ l : List JoinD, (l.flatMap fun j => [j.1, j.2]).length = 2 * l.length := fun l => by
    induction l with
    | nil => rfl
    | cons x l ih => rw [List.flatMap_cons, List.length_append, ih, List.length_cons]; simp; omega
  exact hlen p.2.1

theorem flank_on {p : PlanD} {r : RoadD} (h : flankPre p r) : ∀ k, onOk 161 (flankUp p r k) ∧ (flankUp p r k).1 = p
  | 0 => by
    obtain ⟨h1, ⟨h2, _⟩, _⟩ := h
    obtain ⟨h3, h4⟩ := check_facts h1
    obtain ⟨_, _, _, h5⟩ := sizes_facts h3
    have := ends_len p
    refine ⟨⟨⟨h4, ?_, List.nodup_nil, (fun y hy => by cases hy), Nat.zero_le _, Nat.zero_le _, Nat.zero_le _, h2⟩, ?_⟩, rfl⟩
    · show p.2.1.length ≤ 1000
      omega
    · show (joinEnds p).length < 0 + 161
      omega
  | k + 1 => by
    obtain ⟨ih1, ih2⟩ := flank_on h k
    have hk := on_keeps (come_keeps 161) ((fPorts p r).getD k zP).1 ((fPorts p r).getD k zP).2 ih1
    exact ⟨hk.onOk ih1, hk.plan.trans ih2⟩

theorem v14 (p : PlanD) (r : RoadD) : bodyVC (ctxOf tab [(25, c25), (26, c26 161)]) Try.f14 c14 (a14 (p, r, ())) (p, r, ()) = (
lett (List.replicate (0 : Nat) ((0 : Int), (0 : Int), (0 : Int))) fun (y2 : List (Int × Int × Int)) =>
roomFor (y2.length + r.snd.snd.snd.fst.length) (24 : Nat) ∧
roomFor ((List.replicate (0 : Nat) ((0 : Int), (0 : Int))).length + r.snd.snd.snd.snd.fst.length) (16 : Nat) ∧
stepsOk r ∧
(∃ (s03 : Nat),
s03 ≤ (fPorts p r).length ∧
(↑s03 : Int) = (0 : Int) ∧
fPorts p r = fPorts p r ∧
(flankUp p r s03).fst.fst = p.fst ∧
(flankUp p r s03).fst.snd.fst = p.snd.fst ∧
(flankUp p r s03).fst.snd.snd.fst = p.snd.snd.fst ∧
(flankUp p r s03).fst.snd.snd.snd.fst = p.snd.snd.snd.fst ∧
(flankUp p r s03).fst.snd.snd.snd.snd.fst = p.snd.snd.snd.snd.fst ∧
(flankUp p r s03).fst.snd.snd.snd.snd.snd.fst = p.snd.snd.snd.snd.snd.fst ∧
(flankUp p r s03).fst.snd.snd.snd.snd.snd.snd.fst = p.snd.snd.snd.snd.snd.snd.fst ∧
(flankUp p r s03).fst.snd.snd.snd.snd.snd.snd.snd.fst = p.snd.snd.snd.snd.snd.snd.snd.fst ∧
(flankUp p r s03).fst.snd.snd.snd.snd.snd.snd.snd.snd = p.snd.snd.snd.snd.snd.snd.snd.snd ∧
(flankUp p r s03).snd.fst = r.fst ∧
(flankUp p r s03).snd.snd.fst = r.snd.fst ∧
(flankUp p r s03).snd.snd.snd.fst = r.snd.snd.fst ∧
(flankUp p r s03).snd.snd.snd.snd.snd.snd.snd.snd.snd.fst = false ∧
gSteps (flankUp p r s03) = y2 ++ r.snd.snd.snd.fst ∧
gNeeds (flankUp p r s03) = List.replicate (0 : Nat) ((0 : Int), (0 : Int)) ++ r.snd.snd.snd.snd.fst ∧
gGuards (flankUp p r s03) = [] ∧
gZone (flankUp p r s03) = [] ∧
gHolds (flankUp p r s03) = [] ∧
gMet (flankUp p r s03) = [] ∧ (0 : Int) = (0 : Int) ∧ (0 : Int) = (0 : Int) ∧ (0 : Int) = (0 : Int) ∧ false = false ∧ True) ∧
∀ (s3 : Nat),
lett (decide ((↑s3 : Int) < (↑(fPorts p r).length : Int))) fun (y4 : Bool) =>
lett (flankUp p r s3).snd.fst fun (y5 : Int) =>
lett (flankUp p r s3).snd.snd fun (y6 : Int × Int × List StepD × List NeedD × List NeedD × List Int × List Int × Bool × List PortD) =>
lett
((flankUp p r s3).fst, y5, y6.fst, y6.snd.fst, gSteps (flankUp p r s3), gNeeds (flankUp p r s3), gGuards (flankUp p r s3), gZone (flankUp p r s3), gHolds (flankUp p r s3),
y6.snd.snd.snd.snd.snd.snd.snd.fst, gMet (flankUp p r s3))
fun
(y7 :
SearchD) =>
lett ((fPorts p r).getD (↑s3 : Int).toNat ((0 : Int), (0 : Int))) fun (y8 : Int × Int) =>
lett (sOn (sCome (161 : Nat)) y8.fst y8.snd y7) fun (y9 : SearchD) =>
s3 ≤ (fPorts p r).length →
(y4 = true →
InB (↑s3 : Int) (fPorts p r).length ∧
InB (↑s3 : Int) (fPorts p r).length ∧
onOk (161 : Nat) y7 ∧
InR IntKind.i64 ((↑s3 : Int) + (1 : Int)) ∧
∃ (s'10 : Nat),
s'10 ≤ (fPorts p r).length ∧
(fPorts p r).length - s'10 < (fPorts p r).length - s3 ∧
(↑s'10 : Int) = (↑s3 : Int) + (1 : Int) ∧
fPorts p r = fPorts p r ∧
(flankUp p r s'10).fst.fst = y9.fst.fst ∧
(flankUp p r s'10).fst.snd.fst = y9.fst.snd.fst ∧
(flankUp p r s'10).fst.snd.snd.fst = y9.fst.snd.snd.fst ∧
(flankUp p r s'10).fst.snd.snd.snd.fst = y9.fst.snd.snd.snd.fst ∧
(flankUp p r s'10).fst.snd.snd.snd.snd.fst = y9.fst.snd.snd.snd.snd.fst ∧
(flankUp p r s'10).fst.snd.snd.snd.snd.snd.fst = y9.fst.snd.snd.snd.snd.snd.fst ∧
(flankUp p r s'10).fst.snd.snd.snd.snd.snd.snd.fst = y9.fst.snd.snd.snd.snd.snd.snd.fst ∧
(flankUp p r s'10).fst.snd.snd.snd.snd.snd.snd.snd.fst = y9.fst.snd.snd.snd.snd.snd.snd.snd.fst ∧
(flankUp p r s'10).fst.snd.snd.snd.snd.snd.snd.snd.snd = y9.fst.snd.snd.snd.snd.snd.snd.snd.snd ∧
(flankUp p r s'10).snd.fst = y9.snd.fst ∧
(flankUp p r s'10).snd.snd.fst = y9.snd.snd.fst ∧
(flankUp p r s'10).snd.snd.snd.fst = y9.snd.snd.snd.fst ∧
(flankUp p r s'10).snd.snd.snd.snd.snd.snd.snd.snd.snd.fst = y9.snd.snd.snd.snd.snd.snd.snd.snd.snd.fst ∧
gSteps (flankUp p r s'10) = y9.snd.snd.snd.snd.fst ∧
gNeeds (flankUp p r s'10) = y9.snd.snd.snd.snd.snd.fst ∧
gGuards (flankUp p r s'10) = y9.snd.snd.snd.snd.snd.snd.fst ∧
gZone (flankUp p r s'10) = y9.snd.snd.snd.snd.snd.snd.snd.fst ∧
gHolds (flankUp p r s'10) = y9.snd.snd.snd.snd.snd.snd.snd.snd.fst ∧
gMet (flankUp p r s'10) = y9.snd.snd.snd.snd.snd.snd.snd.snd.snd.snd ∧
(0 : Int) = (0 : Int) ∧ (0 : Int) = (0 : Int) ∧ (0 : Int) = (0 : Int) ∧ false = false ∧ True) ∧
(y4 = false →
(y5, y6.fst, y6.snd.fst, gSteps (flankUp p r s3), gNeeds (flankUp p r s3), gGuards (flankUp p r s3), gZone (flankUp p r s3), gHolds (flankUp p r s3),
y6.snd.snd.snd.snd.snd.snd.snd.fst) =
fFlank p r ∧
True)) := by kernel_rfl

theorem b14 (p : PlanD) (r : RoadD) (hp : flankPre p r) : bodyVC (ctxOf tab [(25, c25), (26, c26 161)]) Try.f14 c14 (a14 (p, r, ())) (p, r, ()) := by
  have hpl : (fPorts p r).length ≤ 2000 := by
    have h := ports_up_len p r r.2.2.2.1.length (Nat.le_refl _)
    have h2 := hp.2.1.1
    unfold fPorts
    omega
  obtain ⟨h1, h2, h3⟩ := hp
  rw [v14]
  refine lett.mk fun y2 e2 => ?_
  have e2 : y2 = [] := e2
  refine ⟨roomB (by rw [e2]; simp; have := h2.1; omega) (by omega), roomB (by simp; omega) (by omega), h2, ⟨0, by omega, rfl, rfl, rfl, rfl, rfl, rfl, rfl, rfl, rfl, rfl, rfl, rfl, rfl, rfl, rfl, by rw [e2]; rfl, rfl, rfl, rfl, rfl, rfl, rfl, rfl, rfl, rfl, trivial⟩, fun s => lett.mk fun y4 e4 => lett.mk fun y5 e5 => lett.mk fun y6 e6 => lett.mk fun y7 e7 => lett.mk fun y8 e8 => lett.mk fun y9 e9 => ?_⟩
  intro hs
  have e7 : y7 = flankUp p r s := by rw [e7, e6, e5]
  have e8 : y8 = (fPorts p r).getD s zP := by rw [e8, Int.toNat_natCast]; rfl
  refine ⟨fun h => ?_, fun h => ?_⟩
  · have h := lt_of_y e4 h
    have e9 : flankUp p r (s + 1) = y9 := by rw [e9, e8, e7]; rfl
    subst e9
    refine ⟨⟨by omega, by omega⟩, ⟨by omega, by omega⟩, by rw [e7]; exact (flank_on ⟨h1, h2, h3⟩ s).1, inR64 (by omega) (by omega), s + 1, by omega, by omega, by omega, rfl, rfl, rfl, rfl, rfl, rfl, rfl, rfl, rfl, rfl, rfl, rfl, rfl, rfl, rfl, rfl, rfl, rfl, rfl, rfl, rfl, rfl, rfl, rfl, trivial⟩
  · have hle := le_of_y e4 h
    have : s = (fPorts p r).length := by omega
    subst this
    subst e6 e5
    refine ⟨?_, trivial⟩
    unfold fFlank sRoad
    rfl

theorem ok14 : DOk Try.prog 14 c14 :=
  DOk.of' (l := [(25, c25), (26, c26 161)]) (A := a14) tabOk ⟨ok25, ok26 161, trivial⟩ Try.func14 (by kernel_rfl) (by kernel_rfl) fun x _ hp => b14 x.1 x.2.1 hp

/-! ### What roads there are -/

def roadOk (r : RoadD) : Prop := (∀ s ∈ r.2.2.2.1, stepOk s) ∧ r.2.2.2.1.length ≤ 13 ∧ r.2.2.2.2.1.length ≤ 13

theorem outs_range {p : PlanD} {e i : Int} (hi : fHas p (e, i) = true) {w : Int × Int} (hw : w ∈ fOuts p e i) : -1 ≤ w.1 ∧ w.1 ≤ 3 := by
  have hend := has_end hi
  have hend : 0 ≤ i ∧ i ≤ 3 := hend
  have hfa := (has_facts hi).2
  have hfa : 0 ≤ i ∧ i < fEnds (fKind p e) := hfa
  unfold fOuts at hw
  rw [hi] at hw
  cases h1 : fKind p e == 1 with
  | true =>
    rw [h1] at hw
    have hw : w = (1 - i, 0) := by simpa using hw
    have hk : fKind p e = 1 := eq_of_beq h1
    have he : fEnds (fKind p e) = 2 := by rw [hk]; unfold fEnds; rfl
    rw [hw]
    show -1 ≤ 1 - i ∧ 1 - i ≤ 3
    omega
  | false =>
    rw [h1] at hw
    cases h3 : fKind p e == 3 with
    | true =>
      rw [h3] at hw
      have hw : w = (fCross i, 0) := by simpa using hw
      rw [hw]
      show -1 ≤ fCross i ∧ fCross i ≤ 3
      unfold fCross
      cases i == 0 <;> cases i == 1 <;> cases i == 2 <;> simp
    | false =>
      rw [h3] at hw
      cases h2 : fKind p e == 2 with
      | false => rw [h2] at hw; cases hw
      | true =>
        rw [h2] at hw
        cases h0 : i == 0 with
        | true =>
          rw [h0] at hw
          have hw : w = (1, 1) ∨ w = (2, 2) := by simpa using hw
          rcases hw with rfl | rfl
          · show (-1 : Int) ≤ 1 ∧ (1 : Int) ≤ 3; decide
          · show (-1 : Int) ≤ 2 ∧ (2 : Int) ≤ 3; decide
        | false =>
          rw [h0] at hw
          have hw : w = (0, i) := by simpa using hw
          rw [hw]
          show (-1 : Int) ≤ 0 ∧ (0 : Int) ≤ 3; decide

theorem with_ok {r : RoadD} {s : StepD} {pos stop to : Int} (h : ∀ q ∈ r.2.2.2.1, stepOk q) (hs : stepOk s) (hl : r.2.2.2.1.length ≤ 12) (hn : r.2.2.2.2.1.length ≤ r.2.2.2.1.length) : roadOk (fWith r s pos stop to) := by
  refine ⟨fun q hq => ?_, ?_, ?_⟩
  · rw [with_steps] at hq
    rcases List.mem_append.1 hq with hq | hq
    · exact h q hq
    · have : q = s := by simpa using hq
      rw [this]; exact hs
  · rw [with_steps, List.length_append]; show _ + 1 ≤ 13; omega
  · have := with_needs r s pos stop to
    omega

theorem on_ok {p : PlanD} (hj : fJoined p = true) : ∀ (n : Nat) (r : RoadD) (x : PortD) (met : List Int), onPre n r met → (∀ q ∈ r.2.2.2.1, stepOk q) → (0 ≤ x.2 ∧ x.2 ≤ 3) → ∀ q ∈ fOn p n r x met, roadOk q
  | 0, r, x, met, hp, _, _, q, hq => absurd hp on_zero
  | n + 1, r, x, met, hp, hst, hx, q, hq => by
    obtain ⟨⟨p1, p2, p3⟩, p4, p5⟩ := hp
    have hq : q ∈ onStep p (fOn p n) r x met := hq
    unfold onStep at hq
    cases h1 : fMem met x.1 || decide (r.2.2.2.1.length = 12) with
    | true => rw [h1] at hq; cases hq
    | false =>
      rw [h1] at hq
      have hne : r.2.2.2.1.length ≠ 12 := of_decide_eq_false (Bool.or_eq_false_iff.1 h1).2
      cases h2 : fKind p x.1 == 4 with
      | true =>
        rw [h2] at hq
        have hq : q = fWith r (x.1, x.2, -1) 0 2 (-1) := by simpa using hq
        rw [hq]
        exact with_ok hst ⟨⟨by show -1 ≤ x.2; omega, hx.2⟩, by show (-1 : Int) ≤ -1; decide, by show (-1 : Int) ≤ 3; decide⟩ p2 p4
      | false =>
        rw [h2] at hq
        have hq : q ∈ onWays p (fOn p n) r x (met ++ [x.1]) (fOuts p x.1 x.2).length := hq
        unfold onWays at hq
        rw [List.take_length] at hq
        obtain ⟨w, hw, hq⟩ := List.mem_flatMap.1 hq
        have hh : fHas p (x.1, x.2) = true := by
          cases hh : fHas p (x.1, x.2) with
          | true => rfl
          | false =>
            unfold fOuts at hw
            rw [hh] at hw
            cases hw
        have hwr := outs_range hh hw
        have hs : stepOk (x.1, x.2, w.1) := ⟨⟨by show -1 ≤ x.2; omega, hx.2⟩, hwr⟩
        unfold onWay at hq
        cases h3 : decide (0 ≤ fReads p (x.1, w.1)) with
        | true =>
          rw [h3] at hq
          have hq : q = fWith r (x.1, x.2, w.1) w.2 1 (fReads p (x.1, w.1)) := by simpa using hq
          rw [hq]
          exact with_ok hst hs p2 p4
        | false =>
          rw [h3] at hq
          cases h4 : (fNext p (x.1, w.1)).2 with
          | false =>
            rw [h4] at hq
            have hq : q = fWith r (x.1, x.2, w.1) w.2 3 (-1) := by simpa using hq
            rw [hq]
            exact with_ok hst hs p2 p4
          | true =>
            rw [h4] at hq
            have hq : q ∈ fOn p n (fWith r (x.1, x.2, w.1) w.2 0 (-1)) (fNext p (x.1, w.1)).1 (met ++ [x.1]) := hq
            have hwk := with_ok (pos := w.2) (stop := 0) (to := -1) hst hs p2 p4
            have hl : (fWith r (x.1, x.2, w.1) w.2 0 (-1)).2.2.2.1.length = r.2.2.2.1.length + 1 := by rw [with_steps]; simp
            have hn := with_needs r (x.1, x.2, w.1) w.2 0 (-1)
            refine on_ok hj n _ _ _ ⟨⟨by omega, by omega, by omega⟩, by omega, by simp; omega⟩ hwk.1 (has_end (next_has hj h4)) q hq

theorem all_ok {p : PlanD} (hj : fJoined p = true) : ∀ q ∈ (fAll p).1, roadOk q := by
  intro q hq
  unfold fAll at hq
  cases h : anyTo (allLong p) p.2.2.1.length with
  | true => rw [h] at hq; cases hq
  | false =>
    rw [h] at hq
    have hq : q ∈ allUp p p.2.2.1.length := hq
    unfold allUp at hq
    obtain ⟨s, _, hq⟩ := List.mem_flatMap.1 hq
    unfold fOf at hq
    cases h1 : (fAt p (s : Int)).2 with
    | false => rw [h1] at hq; cases hq
    | true =>
      rw [h1] at hq
      cases h2 : (fNext p (fAt p (s : Int)).1).2 with
      | false => rw [h2] at hq; cases hq
      | true =>
        rw [h2] at hq
        exact on_ok hj 13 _ _ _ (of_pre _ _) (fun q hq => (by cases hq)) (has_end (next_has hj h2)) q hq

theorem all_len (p : PlanD) : (fAll p).1.length ≤ 64 := by
  unfold fAll
  cases h : anyTo (allLong p) p.2.2.1.length with
  | true => exact Nat.zero_le _
  | false => exact all_up_len h

theorem v7 (p : PlanD) : bodyVC (ctxOf tab [(12, c12), (13, c13), (14, c14)]) Try.f7 c7 (a7 (p, ())) (p, ()) = (
lett ((0 : Int), (0 : Int), (0 : Int), [], [], [], [], [], false) fun (y1 : RoadD) =>
shortLines p ∧
((fCheck p != (0 : Int)) = true → (([], [], [], [], (0 : Int), (0 : Int), (0 : Int), (0 : Int), false), []) = (fBuild p).fst ∧ fCheck p = (fBuild p).snd ∧ True) ∧
((fCheck p != (0 : Int)) = false →
p.snd.snd.fst.length ≤ (1000 : Nat) ∧
(((fAll p).snd != (0 : Int)) = true → (([], [], [], [], (0 : Int), (0 : Int), (0 : Int), (0 : Int), false), []) = (fBuild p).fst ∧ (fAll p).snd = (fBuild p).snd ∧ True) ∧
(((fAll p).snd != (0 : Int)) = false →
(∃ (s02 : Nat),
s02 ≤ (fAll p).fst.length ∧
(↑s02 : Int) = (0 : Int) ∧
List.map (fFlank p) (List.take s02 (fAll p).fst) ++ List.drop s02 (fAll p).fst = (fAll p).fst ∧
keepP p ((0 : Int) = (0 : Int) ∧ (0 : Int) = (0 : Int) ∧ (0 : Int) = (0 : Int) ∧ (0 : Int) = (0 : Int) ∧ false = false ∧ True)) ∧
∀ (s2 : Nat),
lett (List.map (fFlank p) (List.take s2 (fAll p).fst) ++ List.drop s2 (fAll p).fst) fun (y3 : List RoadD) =>
lett (decide ((↑s2 : Int) < (↑y3.length : Int))) fun (y4 : Bool) =>
lett (y3.getD (↑s2 : Int).toNat y1) fun (y5 : RoadD) =>
s2 ≤ (fAll p).fst.length →
(y4 = true →
InB (↑s2 : Int) y3.length ∧
flankPre p y5 ∧
InB (↑s2 : Int) y3.length ∧
InR IntKind.i64 ((↑s2 : Int) + (1 : Int)) ∧
∃ (s'6 : Nat),
s'6 ≤ (fAll p).fst.length ∧
(fAll p).fst.length - s'6 < (fAll p).fst.length - s2 ∧
(↑s'6 : Int) = (↑s2 : Int) + (1 : Int) ∧
List.map (fFlank p) (List.take s'6 (fAll p).fst) ++ List.drop s'6 (fAll p).fst = y3.set (↑s2 : Int).toNat (fFlank p y5) ∧
keepP p ((0 : Int) = (0 : Int) ∧ (0 : Int) = (0 : Int) ∧ (0 : Int) = (0 : Int) ∧ (0 : Int) = (0 : Int) ∧ false = false ∧ True)) ∧
(y4 = false → (p, y3) = (fBuild p).fst ∧ (0 : Int) = (fBuild p).snd ∧ True)))) := by kernel_rfl

theorem b7 (p : PlanD) (hp : shortLines p) : bodyVC (ctxOf tab [(12, c12), (13, c13), (14, c14)]) Try.f7 c7 (a7 (p, ())) (p, ()) := by
  have hB : fBuild p = bif fCheck p == 0 then (bif (fAll p).2 == 0 then ((p, (fAll p).1.map (fFlank p)), 0) else (zC, (fAll p).2)) else (zC, fCheck p) := by unfold fBuild; rfl
  have hal := all_len p
  rw [v7, bneB, bneB]
  refine lett.mk fun y1 e1 => ?_
  simp only [keepP_eq, true_and, and_true, Int.toNat_natCast]
  refine ⟨hp, fun h => ?_, fun h => ?_⟩
  · have h : (fCheck p == 0) = false := by simpa using h
    rw [hB, h]
    exact ⟨rfl, rfl⟩
  have h : (fCheck p == 0) = true := by simpa using h
  have hc : fCheck p = 0 := eq_of_beq h
  rw [h] at hB
  obtain ⟨h3, h4⟩ := check_facts hc
  obtain ⟨_, h5, _, _⟩ := sizes_facts h3
  refine ⟨by omega, fun h2 => ?_, fun h2 => ?_⟩
  · have h2 : ((fAll p).2 == 0) = false := by simpa using h2
    rw [hB, h2]
    exact ⟨rfl, rfl⟩
  have h2 : ((fAll p).2 == 0) = true := by simpa using h2
  rw [h2] at hB
  refine ⟨⟨0, by omega, rfl, rfl⟩, fun s => lett.mk fun y3 e3 => lett.mk fun y4 e4 => lett.mk fun y5 e5 => ?_⟩
  intro hs
  have hl3 : y3.length = (fAll p).1.length := by
    rw [e3, List.length_append, List.length_map, List.length_take, List.length_drop]
    omega
  refine ⟨fun h => ?_, fun h => ?_⟩
  · have h := lt_of_y e4 h
    have hlt : s < (fAll p).1.length := by omega
    have hml : (List.map (fFlank p) (List.take s (fAll p).1)).length = s := by rw [List.length_map, List.length_take]; omega
    have hd : (fAll p).1.drop s = (fAll p).1.getD s zR :: (fAll p).1.drop (s + 1) := by
      rw [getD_at zR hlt]
      exact List.drop_eq_getElem_cons hlt
    have e5 : y5 = (fAll p).1.getD s zR := by
      rw [e5, e3, hd, List.getD_eq_getElem?_getD, List.getElem?_append_right (by omega), hml, Nat.sub_self]
      rfl
    have hok := all_ok h4 y5 (by rw [e5]; exact mem_getD zR hlt)
    refine ⟨⟨by omega, by omega⟩, ⟨hc, ⟨by have := hok.2.1; omega, hok.1⟩, by have := hok.2.2; omega⟩, ⟨by omega, by omega⟩, inR64 (by omega) (by omega), s + 1, by omega, by omega, by omega, ?_⟩
    rw [e3, hd, List.set_append_right _ _ (by omega), hml, Nat.sub_self, List.set_cons_zero, map_succ _ zR hlt, List.append_assoc, e5]
    rfl
  · have hle := le_of_y e4 h
    have : s = (fAll p).1.length := by omega
    subst this
    rw [hB, e3, List.take_length, List.drop_length, List.append_nil]
    exact ⟨rfl, rfl⟩

theorem ok7 : DOk Try.prog 7 c7 :=
  DOk.of' (l := [(12, c12), (13, c13), (14, c14)]) (A := a7) tabOk ⟨ok12, ok13, ok14, trivial⟩ Try.func7 (by kernel_rfl) (by kernel_rfl) fun x _ hp => b7 x.1 hp

theorem v5 (p : PlanD) : bodyVC (ctxOf tab [(11, c11), (7, c7)]) Try.f5 c5 noAnn (p, ()) = (
True ∧
((!fFine p) = true → [] = (fRoads p).fst ∧ false = (fRoads p).snd ∧ True) ∧
((!fFine p) = false → shortLines p ∧ (fBuild p).fst.snd = (fRoads p).fst ∧ ((fBuild p).snd == (0 : Int)) = (fRoads p).snd ∧ True)) := by kernel_rfl

theorem fine_few {p : PlanD} (h : fFine p = true) : fFew p = true := by
  unfold fFine at h
  rw [Bool.and_eq_true] at h
  exact h.1

theorem ok5 : DOk Try.prog 5 c5 :=
  DOk.of' (l := [(11, c11), (7, c7)]) (A := fun _ => noAnn) tabOk ⟨ok11, ok7, trivial⟩ Try.func5 (by kernel_rfl) (by kernel_rfl) fun x _ hp => by
    obtain ⟨p, ⟨⟩⟩ := x
    rw [v5]
    refine ⟨trivial, fun h => ?_, fun h => ⟨?_, ?_⟩⟩
    · unfold fRoads
      have h : fFine p = false := by simpa using h
      rw [h]
      exact ⟨rfl, rfl, trivial⟩
    · have h : fFine p = true := by simpa using h
      exact few_lines (fine_few h)
    · unfold fRoads
      have h : fFine p = true := by simpa using h
      rw [h]
      exact ⟨rfl, rfl, trivial⟩

theorem v8 : bodyVC (ctxOf tab [(15, c15)]) Try.f8 c8 noAnn (()) = (
True ∧
True ∧
True ∧
True ∧
True ∧
(((((((List.replicate (6 : Nat) ([], (0 : Int), (0 : Int))).set (0 : Nat) ([(87 : UInt8)], (4 : Int), (0 : Int))).set (1 : Nat) ([(65 : UInt8)], (1 : Int), (20 : Int))).set (2 : Nat)
([(80 : UInt8)], (2 : Int), (10 : Int))).set
(3 : Nat) ([(66 : UInt8)], (1 : Int), (20 : Int))).set
(4 : Nat) ([(67 : UInt8)], (1 : Int), (30 : Int))).set
(5 : Nat) ([(69 : UInt8)], (4 : Int), (0 : Int)),
(((((List.replicate (5 : Nat) (((0 : Int), (0 : Int)), (0 : Int), (0 : Int))).set (0 : Nat) (((0 : Int), (0 : Int)), (1 : Int), (0 : Int))).set (1 : Nat)
(((1 : Int), (1 : Int)), (2 : Int), (0 : Int))).set
(2 : Nat) (((2 : Int), (1 : Int)), (3 : Int), (0 : Int))).set
(3 : Nat) (((3 : Int), (1 : Int)), (5 : Int), (0 : Int))).set
(4 : Nat) (((2 : Int), (2 : Int)), (4 : Int), (0 : Int)),
(((((List.replicate (5 : Nat) ([], ((0 : Int), (0 : Int)), false)).set (0 : Nat) ([(119 : UInt8)], ((0 : Int), (0 : Int)), false)).set (1 : Nat)
([(97 : UInt8)], ((1 : Int), (1 : Int)), false)).set
(2 : Nat) ([(101 : UInt8)], ((5 : Int), (0 : Int)), false)).set
(3 : Nat) ([(98 : UInt8)], ((3 : Int), (0 : Int)), false)).set
(4 : Nat) ([(99 : UInt8)], ((4 : Int), (0 : Int)), false),
[], (10 : Int), (5 : Int), (15 : Int), (2 : Int), false) =
smallP ∧
True) := by kernel_rfl

theorem ok8 : DOk Try.prog 8 c8 :=
  DOk.of' (l := [(15, c15)]) (A := fun _ => noAnn) tabOk ⟨ok15, trivial⟩ Try.func8 (by kernel_rfl) (by kernel_rfl) fun x _ hp => by
    obtain ⟨⟩ := x
    rw [v8]
    exact ⟨trivial, trivial, trivial, trivial, trivial, rfl, trivial⟩

end Ytpnnfimacblhgaa
end Go.Proofs
