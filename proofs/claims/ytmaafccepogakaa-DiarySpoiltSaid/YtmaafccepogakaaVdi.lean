/-
  DiaryCuts, DiarySpoilt.
-/
import Derived.Test.YtmaafccepogakaaVdh
set_option maxRecDepth 100000
set_option linter.unusedVariables false
set_option linter.unusedSimpArgs false
set_option maxHeartbeats 2000000
namespace Go.Proofs
open Go Go.Vc
namespace Ytmaafccepogakaa

/-! ### Many entries' bytes -/

def flat (m n : Int) : List EntryD → List Int
  | [] => []
  | e :: l => fPut m n e ++ flat m n l

def endsOf (m n : Int) : Nat → List EntryD → List Int
  | _, [] => []
  | o, e :: l => ((o + (fPut m n e).length : Nat) : Int) :: endsOf m n (o + (fPut m n e).length) l

theorem book_form (m n : Int) : ∀ (l : List EntryD) (r : List Int × List Int × List EntryD),
    fBook m n l r = (r.1 ++ flat m n (l.filter (fMay m n)), r.2.1 ++ endsOf m n r.1.length (l.filter (fMay m n)), r.2.2 ++ l.filter (fMay m n))
  | [], r => by simp [fBook, flat, endsOf]
  | e :: l, r => by
    cases h : fMay m n e with
    | false =>
      rw [List.filter_cons_of_neg (by simp [h])]
      simp only [fBook, h, cond_false]
      exact book_form m n l r
    | true =>
      rw [List.filter_cons_of_pos h]
      simp only [fBook, h, cond_true]
      rw [book_form m n l]
      simp [flat, endsOf, List.append_assoc]

def endStep (K : Int) (r : Int × Int) (x : Int) : Int × Int := bif decide (x ≤ K) then (r.1 + 1, x) else r

theorem fEnds_eq (K : Int) (l : List Int) : fEnds K l = l.foldl (endStep K) (0, 0) := rfl

theorem ends_beyond {m n : Int} : ∀ (l : List EntryD) (o : Nat) (K : Int) (r : Int × Int), K < o → (∀ e ∈ l, May m n e) → (endsOf m n o l).foldl (endStep K) r = r
  | [], o, K, r, h, hm => rfl
  | e :: l, o, K, r, h, hm => by
    simp only [endsOf, List.foldl_cons]
    have : endStep K r ((o + (fPut m n e).length : Nat) : Int) = r := by
      unfold endStep
      rw [decide_eq_false (by omega)]
      rfl
    rw [this]
    exact ends_beyond l _ K r (by omega) fun x hx => hm x (List.mem_cons_of_mem _ hx)

theorem first_part {m n : Int} {e : EntryD} (h : May m n e) {K : Nat} (hK : K < (fPut m n e).length) : fFirst m.toNat n.toNat ((fPut m n e).take K) = none := by
  cases hf : fFirst m.toNat n.toNat ((fPut m n e).take K) with
  | none => rfl
  | some p =>
    exfalso
    obtain ⟨d, c⟩ := p
    obtain ⟨h1, h2, h3, h4⟩ := fFirst_some h.m0.1 h.n0.1 hf
    have hp : fPut m n e = fPut m n d ++ (((fPut m n e).take K).drop c ++ (fPut m n e).drop K) := by
      rw [← List.append_assoc, ← h4, List.take_append_drop]
    have q1 := fFirst_put h []
    have q2 := fFirst_put h1 (((fPut m n e).take K).drop c ++ (fPut m n e).drop K)
    rw [← hp] at q2
    rw [List.append_nil, q2] at q1
    simp only [Option.some.injEq, Prod.mk.injEq] at q1
    have := q1.2
    rw [List.length_take] at h3
    omega

theorem take_put {a r : List Int} {K : Nat} (h : a.length ≤ K) : (a ++ r).take K = a ++ r.take (K - a.length) := by
  rw [List.take_append, List.take_of_length_le h]

theorem cut {m n : Int} (hm : 0 ≤ m) (hn : 0 ≤ n) : ∀ (l : List EntryD) (o K : Nat) (c : Int), (∀ e ∈ l, May m n e) → K ≤ (flat m n l).length →
    (endsOf m n o l).foldl (endStep ((o + K : Nat) : Int)) (c, (o : Int)) = (c + ((fR m n ((flat m n l).take K)).1.length : Nat), (o : Int) + (fR m n ((flat m n l).take K)).2) ∧
    (fR m n ((flat m n l).take K)).1 = l.take (fR m n ((flat m n l).take K)).1.length
  | [], o, K, c, h, hK => by
    have : fR m n ((flat m n []).take K) = ([], 0) := by
      have : (flat m n []).take K = [] := by simp [flat]
      rw [this]; rfl
    rw [this]
    simp [endsOf]
  | e :: l, o, K, c, h, hK => by
    have he := h e List.mem_cons_self
    have hl := fun x hx => h x (List.mem_cons_of_mem e hx)
    simp only [flat, endsOf, List.foldl_cons] at hK ⊢
    by_cases hs : (fPut m n e).length ≤ K
    · rw [take_put hs]
      have hf := fFirst_put he ((flat m n l).take (K - (fPut m n e).length))
      rw [fR_some hm hn hf, List.drop_left' rfl]
      have ih := cut hm hn l (o + (fPut m n e).length) (K - (fPut m n e).length) (c + 1) hl (by simp at hK; omega)
      rw [show o + (fPut m n e).length + (K - (fPut m n e).length) = o + K by omega] at ih
      have hst : endStep ((o + K : Nat) : Int) (c, (o : Int)) ((o + (fPut m n e).length : Nat) : Int) = (c + 1, ((o + (fPut m n e).length : Nat) : Int)) := by
        unfold endStep
        rw [decide_eq_true (by omega)]
        rfl
      rw [hst, ih.1]
      refine ⟨?_, ?_⟩
      · simp only [List.length_cons, Prod.mk.injEq]
        omega
      · simp only [List.length_cons, List.take_succ_cons]
        rw [← ih.2]
    · have hs : K < (fPut m n e).length := by omega
      have ht : (fPut m n e ++ flat m n l).take K = (fPut m n e).take K := by rw [List.take_append_of_le_length (by omega)]
      rw [ht, fR_none hm hn (first_part he hs)]
      have hst : endStep ((o + K : Nat) : Int) (c, (o : Int)) ((o + (fPut m n e).length : Nat) : Int) = (c, (o : Int)) := by
        unfold endStep
        rw [decide_eq_false (by omega)]
        rfl
      rw [hst, ends_beyond l _ _ _ (by omega) hl]
      simp

theorem spoil {m n : Int} (hm : 0 ≤ m) (hn : 0 ≤ n) {v : Int} (hv : 0 ≤ v ∧ v ≤ 255) : ∀ (l : List EntryD) (o K : Nat) (c : Int), (∀ e ∈ l, May m n e) → K < (flat m n l).length →
    (flat m n l).getD K 0 ≠ v → ((endsOf m n o l).foldl (endStep ((o + K : Nat) : Int)) (c, (o : Int))).2 + 2 ≤ ((o + K : Nat) : Int) →
    (endsOf m n o l).foldl (endStep ((o + K : Nat) : Int)) (c, (o : Int)) = (c + ((fR m n ((flat m n l).set K v)).1.length : Nat), (o : Int) + (fR m n ((flat m n l).set K v)).2)
  | [], o, K, c, h, hK, _, _ => by simp [flat] at hK
  | e :: l, o, K, c, h, hK, hne, hfar => by
    have he := h e List.mem_cons_self
    have hl := fun x hx => h x (List.mem_cons_of_mem e hx)
    simp only [flat, endsOf, List.foldl_cons] at hK hne hfar ⊢
    by_cases hs : (fPut m n e).length ≤ K
    · have hset : (fPut m n e ++ flat m n l).set K v = fPut m n e ++ (flat m n l).set (K - (fPut m n e).length) v := by
        rw [List.set_append, if_neg (by omega)]
      rw [hset]
      have hf := fFirst_put he ((flat m n l).set (K - (fPut m n e).length) v)
      rw [fR_some hm hn hf, List.drop_left' rfl]
      have hst : endStep ((o + K : Nat) : Int) (c, (o : Int)) ((o + (fPut m n e).length : Nat) : Int) = (c + 1, ((o + (fPut m n e).length : Nat) : Int)) := by
        unfold endStep
        rw [decide_eq_true (by omega)]
        rfl
      rw [hst] at hfar ⊢
      have hg : (flat m n l).getD (K - (fPut m n e).length) 0 ≠ v := by
        rw [List.getD_eq_getElem?_getD, List.getElem?_append_right hs, ← List.getD_eq_getElem?_getD] at hne
        exact hne
      have ih := spoil hm hn hv l (o + (fPut m n e).length) (K - (fPut m n e).length) (c + 1) hl (by simp at hK; omega) hg
      rw [show o + (fPut m n e).length + (K - (fPut m n e).length) = o + K by omega] at ih
      rw [ih hfar]
      simp only [List.length_cons, Prod.mk.injEq]
      omega
    · have hs : K < (fPut m n e).length := by omega
      have hst : endStep ((o + K : Nat) : Int) (c, (o : Int)) ((o + (fPut m n e).length : Nat) : Int) = (c, (o : Int)) := by
        unfold endStep
        rw [decide_eq_false (by omega)]
        rfl
      rw [hst, ends_beyond l _ _ _ (by omega) hl] at hfar ⊢
      have hset : (fPut m n e ++ flat m n l).set K v = (fPut m n e).set K v ++ flat m n l := by
        rw [List.set_append, if_pos hs]
      have hg : (fPut m n e).getD K 0 ≠ v := by
        rw [List.getD_eq_getElem?_getD, List.getElem?_append_left hs, ← List.getD_eq_getElem?_getD] at hne
        exact hne
      simp only at hfar
      rw [hset, fR_none hm hn (fFirst_spoilt he (by omega) hs hv hg _)]
      simp

/-! ### A book -/

theorem filter_may {m n : Int} (l : List EntryD) : ∀ e ∈ l.filter (fMay m n), May m n e := fun e he => fMay_iff.1 (List.mem_filter.1 he).2

theorem filter_none {m n : Int} (h : ¬ small m n) (l : List EntryD) : l.filter (fMay m n) = [] := by
  rw [List.filter_eq_nil_iff]
  intro e _ hm
  have := fMay_iff.1 hm
  exact h ⟨this.m0.1, this.m0.2, this.n0.1, this.n0.2⟩

/-- What a cut book is read as. -/
theorem book_cut (m n : Int) (l : List EntryD) (K : Nat) (hK : K ≤ (fBook m n l ([], [], [])).1.length) :
    fEnds (K : Int) (fBook m n l ([], [], [])).2.1 = ((((fRead m n ((fBook m n l ([], [], [])).1.take K)).1.length : Nat) : Int), (fRead m n ((fBook m n l ([], [], [])).1.take K)).2) ∧
    (fRead m n ((fBook m n l ([], [], [])).1.take K)).1 = (fBook m n l ([], [], [])).2.2.take (fRead m n ((fBook m n l ([], [], [])).1.take K)).1.length := by
  rw [book_form] at hK ⊢
  simp only [List.nil_append, List.length_nil] at hK ⊢
  rcases fRead_eq m n ((flat m n (l.filter (fMay m n))).take K) with ⟨h, h1⟩ | ⟨h, h1⟩ <;> rw [h1]
  · have := cut h.1 h.2.2.1 (l.filter (fMay m n)) 0 K 0 (filter_may l) hK
    simp only [Nat.zero_add, Int.zero_add, Int.natCast_zero] at this
    exact this
  · rw [filter_none h]
    exact ⟨rfl, rfl⟩

theorem book_spoil (m n : Int) (l : List EntryD) {v : Int} (hv : 0 ≤ v ∧ v ≤ 255) (K : Nat) (hK : K < (fBook m n l ([], [], [])).1.length) (hne : (fBook m n l ([], [], [])).1.getD K 0 ≠ v)
    (hfar : (fEnds (K : Int) (fBook m n l ([], [], [])).2.1).2 + 2 ≤ (K : Int)) :
    fEnds (K : Int) (fBook m n l ([], [], [])).2.1 = ((((fRead m n ((fBook m n l ([], [], [])).1.set K v)).1.length : Nat) : Int), (fRead m n ((fBook m n l ([], [], [])).1.set K v)).2) := by
  rw [book_form] at hK hne hfar ⊢
  simp only [List.nil_append, List.length_nil] at hK hne hfar ⊢
  rcases fRead_eq m n ((flat m n (l.filter (fMay m n))).set K v) with ⟨h, h1⟩ | ⟨h, h1⟩ <;> rw [h1]
  · have := spoil h.1 h.2.2.1 hv (l.filter (fMay m n)) 0 K 0 (filter_may l) hK hne
    simp only [Nat.zero_add, Int.zero_add, Int.natCast_zero] at this
    exact this hfar
  · rw [filter_none h] at hK
    simp [flat] at hK

theorem ends_succ (K : Int) {l : List Int} {s : Nat} (h : s < l.length) : fEnds K (l.take (s + 1)) = endStep K (fEnds K (l.take s)) (l.getD s 0) := by
  rw [take_succ' 0 h, fEnds_eq, fEnds_eq, List.foldl_append]
  rfl

theorem ends_bd (K : Int) : ∀ (l : List Int), 0 ≤ (fEnds K l).1 ∧ (fEnds K l).1 ≤ l.length := by
  intro l
  rw [fEnds_eq]
  have : ∀ (l : List Int) (r : Int × Int), r.1 ≤ (l.foldl (endStep K) r).1 ∧ (l.foldl (endStep K) r).1 ≤ r.1 + l.length := by
    intro l
    induction l with
    | nil => intro r; simp
    | cons x l ih =>
      intro r
      have := ih (endStep K r x)
      simp only [List.foldl_cons, List.length_cons]
      have h2 : (endStep K r x).1 = r.1 ∨ (endStep K r x).1 = r.1 + 1 := by
        unfold endStep
        cases decide (x ≤ K)
        · exact .inl rfl
        · exact .inr rfl
      omega
  have := this l (0, 0)
  simp only at this
  omega

theorem ends_far (K : Int) (hK : 0 ≤ K) : ∀ (l : List Int), (∀ x ∈ l, 0 ≤ x) → 0 ≤ (fEnds K l).2 ∧ (fEnds K l).2 ≤ K := by
  intro l hl
  rw [fEnds_eq]
  have : ∀ (l : List Int) (r : Int × Int), (∀ x ∈ l, 0 ≤ x) → 0 ≤ r.2 ∧ r.2 ≤ K → 0 ≤ (l.foldl (endStep K) r).2 ∧ (l.foldl (endStep K) r).2 ≤ K := by
    intro l
    induction l with
    | nil => intro r _ h; exact h
    | cons x l ih =>
      intro r hl h
      simp only [List.foldl_cons]
      refine ih _ (fun y hy => hl y (List.mem_cons_of_mem _ hy)) ?_
      unfold endStep
      cases hx : decide (x ≤ K)
      · exact h
      · exact ⟨hl x List.mem_cons_self, of_decide_eq_true hx⟩
  exact this l (0, 0) hl ⟨Int.le_refl _, hK⟩

theorem endsOf_pos (m n : Int) : ∀ (l : List EntryD) (o : Nat), ∀ x ∈ endsOf m n o l, 0 ≤ x
  | [], o, x, h => by cases h
  | e :: l, o, x, h => by
    simp only [endsOf, List.mem_cons] at h
    rcases h with rfl | h
    · omega
    · exact endsOf_pos m n l _ x h

theorem book_ends_pos (m n : Int) (l : List EntryD) : ∀ x ∈ (fBook m n l ([], [], [])).2.1, 0 ≤ x := by
  rw [book_form]
  simp only [List.nil_append]
  exact endsOf_pos m n _ _

/-- A place by a rest. -/
theorem rest_at {a y : Int} (hy : 0 < y) (hy2 : y ≤ 1000000000) : ∃ K : Nat, IntKind.i64.wrap ((IntKind.u64.wrap a).tmod (IntKind.u64.wrap y)) = (K : Int) ∧ (K : Int) < y := by
  rw [IntWalk.u64_in y (by omega)]
  have h0 : 0 ≤ IntKind.u64.wrap a := by
    unfold IntKind.wrap
    simp only [IntKind.signed, Bool.false_and, Bool.false_eq_true, if_false]
    exact Int.emod_nonneg _ (by decide)
  rw [Int.tmod_eq_emod_of_nonneg h0]
  have h1 := Int.emod_nonneg (IntKind.u64.wrap a) (b := y) (by omega)
  have h2 := Int.emod_lt_of_pos (IntKind.u64.wrap a) hy
  rw [IntWalk.i64_in _ (by omega)]
  exact ⟨(IntKind.u64.wrap a % y).toNat, by omega, by omega⟩

theorem allFew_zero (l : List EntryD) : allFew l 0 := by
  intro e he
  simp at he

theorem allFew_succ {l : List EntryD} {s : Nat} (h : s < l.length) (h1 : allFew l s) {d : EntryD} (h2 : fFew (l.getD s d) = true) : allFew l (s + 1) := by
  intro e he
  rw [take_succ' d h] at he
  rcases List.mem_append.1 he with he | he
  · exact h1 e he
  · rw [List.mem_singleton] at he
    rw [he]; exact h2

theorem allFew_all {l : List EntryD} {s : Nat} (h : l.length ≤ s) (h1 : allFew l s) : allShort l := by
  intro e he
  refine few_short (h1 e ?_)
  rw [List.take_of_length_le h]
  exact he

theorem v5 (m : Int) (n : Int) (l : List ((List Bool × List Int × List Bool × List Bool) × List Int × List Int)) (at0 : Int) : bodyVC (ctxOf tab [(8, c8), (9, c9), (18, c18), (15, c15), (17, c17)]) Try.f5 c5 (a5 (m, n, l, at0, ())) (m, n, l, at0, ()) = (
lett (decide ((↑l.length : Int) > (30 : Int))) fun (y4 : Bool) =>
lett (([], [], [], []), [], []) fun (y5 : (List Bool × List Int × List Bool × List Bool) × List Int × List Int) =>
lett (fBook m n l ([], [], [])) fun (y6 : List Int × List Int × List EntryD) =>
lett ((↑y6.fst.length : Int) + (1 : Int)) fun (y7 : Int) =>
lett (IntKind.i64.wrap ((IntKind.u64.wrap at0).tmod (IntKind.u64.wrap y7))) fun (y8 : Int) =>
lett (List.take y8.toNat (List.drop (0 : Nat) y6.fst)) fun (y9 : List Int) =>
lett (fRead m n y9).fst.length fun (y10 : Nat) =>
True ∧
((!true) = true → false = true ∧ True) ∧
((!true) = false →
(y4 = true → true = true ∧ True) ∧
(y4 = false →
(∃ (s011 : Nat), (s011 ≤ l.length ∧ allFew l s011) ∧ (↑s011 : Int) = (0 : Int) ∧ m = m ∧ n = n ∧ l = l ∧ at0 = at0 ∧ l = l ∧ (↑l.length : Int) = (↑l.length : Int) ∧ True) ∧
∀ (s11 : Nat),
lett (decide ((↑s11 : Int) < (↑l.length : Int))) fun (y12 : Bool) =>
lett (!fFew (l.getD (↑s11 : Int).toNat y5)) fun (y13 : Bool) =>
s11 ≤ l.length ∧ allFew l s11 →
(y12 = true →
InB (↑s11 : Int) l.length ∧
True ∧
(y13 = true → true = true ∧ True) ∧
(y13 = false →
InR IntKind.i64 ((↑s11 : Int) + (1 : Int)) ∧
∃ (s'14 : Nat),
(s'14 ≤ l.length ∧ allFew l s'14) ∧
l.length - s'14 < l.length - s11 ∧
(↑s'14 : Int) = (↑s11 : Int) + (1 : Int) ∧ m = m ∧ n = n ∧ l = l ∧ at0 = at0 ∧ l = l ∧ (↑l.length : Int) = (↑l.length : Int) ∧ True)) ∧
(y12 = false →
(l.length ≤ (30 : Nat) ∧ allShort l) ∧
InR IntKind.i64 y7 ∧
IntKind.u64.wrap y7 ≠ (0 : Int) ∧
((0 : Int) ≤ y8 ∧ y8 ≤ (↑y6.fst.length : Int)) ∧
short y9 ∧
(∃ (s014 : Nat),
s014 ≤ y6.snd.fst.length ∧
(fEnds y8 (List.take s014 y6.snd.fst)).fst = (0 : Int) ∧
(fEnds y8 (List.take s014 y6.snd.fst)).snd = (0 : Int) ∧
(↑s014 : Int) = (0 : Int) ∧
y6.snd.snd = y6.snd.snd ∧
y8 = y8 ∧
(fRead m n y9).fst = (fRead m n y9).fst ∧
(fRead m n y9).snd = (fRead m n y9).snd ∧ y6.snd.fst = y6.snd.fst ∧ (↑y6.snd.fst.length : Int) = (↑y6.snd.fst.length : Int) ∧ True) ∧
∀ (s14 : Nat),
lett (decide ((↑s14 : Int) < (↑y6.snd.fst.length : Int))) fun (y15 : Bool) =>
lett (y6.snd.fst.getD (↑s14 : Int).toNat (0 : Int)) fun (y16 : Int) =>
lett (fEnds y8 (List.take s14 y6.snd.fst)) fun (y17 : Int × Int) =>
lett (bif (↑y10 : Int) != y17.fst then true else (fRead m n y9).snd != y17.snd) fun (y18 : Bool) =>
s14 ≤ y6.snd.fst.length →
(y15 = true →
InB (↑s14 : Int) y6.snd.fst.length ∧
(decide (y16 ≤ y8) = true → InR IntKind.i64 (y17.fst + (1 : Int))) ∧
InR IntKind.i64 ((↑s14 : Int) + (1 : Int)) ∧
∃ (s'19 : Nat),
s'19 ≤ y6.snd.fst.length ∧
y6.snd.fst.length - s'19 < y6.snd.fst.length - s14 ∧
((fEnds y8 (List.take s'19 y6.snd.fst)).fst = bif decide (y16 ≤ y8) then y17.fst + (1 : Int) else y17.fst) ∧
((fEnds y8 (List.take s'19 y6.snd.fst)).snd = bif decide (y16 ≤ y8) then y16 else y17.snd) ∧
(↑s'19 : Int) = (↑s14 : Int) + (1 : Int) ∧
y6.snd.snd = y6.snd.snd ∧
y8 = y8 ∧
(fRead m n y9).fst = (fRead m n y9).fst ∧
(fRead m n y9).snd = (fRead m n y9).snd ∧
y6.snd.fst = y6.snd.fst ∧ (↑y6.snd.fst.length : Int) = (↑y6.snd.fst.length : Int) ∧ True) ∧
(y15 = false →
(y18 = true → false = true ∧ True) ∧
(y18 = false →
(∃ (s019 : Nat),
s019 ≤ (100 : Nat) ∧
(↑s019 : Int) = (0 : Int) ∧
y6.snd.snd = y6.snd.snd ∧ (fRead m n y9).fst = (fRead m n y9).fst ∧ (↑y10 : Int) = (↑y10 : Int) ∧ True) ∧
∀ (s19 : Nat),
lett (decide ((↑s19 : Int) < (↑y10 : Int))) fun (y20 : Bool) =>
lett ((fRead m n y9).fst.getD (↑s19 : Int).toNat y5)
fun (y21 : (List Bool × List Int × List Bool × List Bool) × List Int × List Int) =>
lett (!fSame y21 (y6.snd.snd.getD (↑s19 : Int).toNat y5)) fun (y22 : Bool) =>
s19 ≤ (100 : Nat) →
(y20 = true →
InB (↑s19 : Int) y10 ∧
InB (↑s19 : Int) y6.snd.snd.length ∧
shortE y21 ∧
(y22 = true → false = true ∧ True) ∧
(y22 = false →
InR IntKind.i64 ((↑s19 : Int) + (1 : Int)) ∧
∃ (s'23 : Nat),
s'23 ≤ (100 : Nat) ∧
(100 : Nat) - s'23 < (100 : Nat) - s19 ∧
(↑s'23 : Int) = (↑s19 : Int) + (1 : Int) ∧
y6.snd.snd = y6.snd.snd ∧
(fRead m n y9).fst = (fRead m n y9).fst ∧ (↑y10 : Int) = (↑y10 : Int) ∧ True)) ∧
(y20 = false → true = true ∧ True))))))) := by kernel_rfl

theorem b5 (m n : Int) (l : List EntryD) (at0 : Int) : bodyVC (ctxOf tab [(8, c8), (9, c9), (18, c18), (15, c15), (17, c17)]) Try.f5 c5 (a5 (m, n, l, at0, ())) (m, n, l, at0, ()) := by
  rw [v5]
  refine lett.mk fun y4 e4 => lett.mk fun y5 e5 => lett.mk fun y6 e6 => lett.mk fun y7 e7 => lett.mk fun y8 e8 => lett.mk fun y9 e9 => lett.mk fun y10 e10 => ⟨trivial, (fun h => by cases h), fun _ => ⟨fun _ => ⟨rfl, trivial⟩, fun h4 => ?_⟩⟩
  rw [e4] at h4
  have h4 : l.length ≤ 30 := by have := of_decide_eq_false h4; omega
  refine ⟨⟨0, ⟨by omega, allFew_zero l⟩, rfl, rfl, rfl, rfl, rfl, rfl, rfl, trivial⟩, fun s => lett.mk fun y12 e12 => lett.mk fun y13 e13 => fun h => ⟨fun h12 => ?_, fun h12 => ?_⟩⟩
  · rw [e12] at h12
    have h12 : s < l.length := by have := of_decide_eq_true h12; omega
    refine ⟨⟨by omega, by omega⟩, trivial, fun _ => ⟨rfl, trivial⟩, fun h13 => ⟨inR64 (by omega) (by omega), s + 1, ⟨by omega, allFew_succ h12 h.2 (d := y5) ?_⟩, by omega, by omega, rfl, rfl, rfl, rfl, rfl, rfl, trivial⟩⟩
    rw [e13, Int.toNat_natCast] at h13
    simpa using h13
  · rw [e12] at h12
    have h12 : l.length ≤ s := by have := of_decide_eq_false h12; omega
    have hlen := fBook_len m n l ([], [], [])
    rw [← e6] at hlen
    simp only [List.length_nil] at hlen
    obtain ⟨K, hK, hK2⟩ := rest_at (a := at0) (y := y7) (by omega) (by omega)
    rw [← e8] at hK
    subst hK
    have hcut := book_cut m n l K (by rw [← e6]; omega)
    rw [← e6] at hcut
    have e9 : y9 = y6.1.take K := by rw [e9, Int.toNat_natCast, List.drop_zero]
    rw [← e9, ← e10] at hcut
    have hl9 : y9.length ≤ K := by rw [e9, List.length_take]; omega
    have hu : IntKind.u64.wrap y7 ≠ 0 := by rw [IntWalk.u64_in y7 (by omega)]; omega
    have hbd := ends_bd (K : Int) y6.2.1
    refine ⟨⟨h4, allFew_all h12 h.2⟩, inR64 (by omega) (by omega), hu, ⟨by omega, by omega⟩, by unfold short; omega, ⟨0, by omega, by simp [fEnds], by simp [fEnds], rfl, rfl, rfl, rfl, rfl, rfl, rfl, trivial⟩, fun s2 => lett.mk fun y15 e15 => lett.mk fun y16 e16 => lett.mk fun y17 e17 => lett.mk fun y18 e18 => fun h2 => ⟨fun h15 => ?_, fun h15 => ?_⟩⟩
    · rw [e15] at h15
      have h15 : s2 < y6.2.1.length := by have := of_decide_eq_true h15; omega
      have hst := ends_succ (K : Int) h15
      rw [Int.toNat_natCast] at e16
      rw [← e17, ← e16] at hst
      have hb2 := ends_bd (K : Int) (y6.2.1.take s2)
      rw [← e17, List.length_take] at hb2
      refine ⟨⟨by omega, by omega⟩, fun _ => inR64 (by omega) (by omega), inR64 (by omega) (by omega), s2 + 1, by omega, by omega, ?_, ?_, by omega, rfl, rfl, rfl, rfl, rfl, rfl, trivial⟩
      · rw [hst]; unfold endStep; cases decide (y16 ≤ (K : Int)) <;> rfl
      · rw [hst]; unfold endStep; cases decide (y16 ≤ (K : Int)) <;> rfl
    · rw [e15] at h15
      have h15 : y6.2.1.length ≤ s2 := by have := of_decide_eq_false h15; omega
      rw [List.take_of_length_le h15] at e17
      rw [← e17] at hcut hbd
      refine ⟨fun h18 => ?_, fun _ => ⟨⟨0, by omega, rfl, rfl, rfl, rfl, trivial⟩, fun s3 => lett.mk fun y20 e20 => lett.mk fun y21 e21 => lett.mk fun y22 e22 => fun h3 => ⟨fun h20 => ?_, fun _ => ⟨rfl, trivial⟩⟩⟩⟩
      · rw [e18, hcut.1] at h18
        simp at h18
      · rw [e20] at h20
        have h20 : s3 < y10 := by have := of_decide_eq_true h20; omega
        have hc1 : y17.1 = (y10 : Int) := by rw [hcut.1]
        have hlt : s3 < (fRead m n y9).1.length := by omega
        have hle : (fRead m n y9).1.length ≤ y6.2.2.length := by
          have := congrArg List.length hcut.2
          rw [List.length_take] at this
          omega
        have h21 : y21 = y6.2.2.getD s3 y5 := by
          rw [e21, Int.toNat_natCast, hcut.2]
          simp [List.getD_eq_getElem?_getD, List.getElem?_take, h20]
        have hmem : y21 ∈ (fRead m n y9).1 := by
          rw [e21, Int.toNat_natCast]
          exact mem_getD _ hlt
        refine ⟨⟨by omega, by omega⟩, ⟨by omega, by omega⟩, (fRead_may _ hmem).lens, fun h22 => ?_, fun _ => ⟨inR64 (by omega) (by omega), s3 + 1, by omega, by omega, by omega, rfl, rfl, rfl, trivial⟩⟩
        rw [e22, Int.toNat_natCast, ← h21, fSame_iff.2 rfl] at h22
        cases h22

theorem ok5 : DOk Try.prog 5 c5 :=
  DOk.of' (l := [(8, c8), (9, c9), (18, c18), (15, c15), (17, c17)]) (A := a5) tabOk ⟨ok8, ok9, ok18, ok15, ok17, trivial⟩ Try.func5 (by kernel_rfl) (by kernel_rfl)
    fun x _ _ => b5 x.1 x.2.1 x.2.2.1 x.2.2.2.1

theorem v6 (m : Int) (n : Int) (l : List ((List Bool × List Int × List Bool × List Bool) × List Int × List Int)) (at0 : Int) (c : Int) : bodyVC (ctxOf tab [(8, c8), (9, c9), (18, c18), (15, c15)]) Try.f6 c6 (a6 (m, n, l, at0, c, ())) (m, n, l, at0, c, ()) = (
lett (decide ((↑l.length : Int) > (20 : Int))) fun (y5 : Bool) =>
lett (fBook m n l ([], [], [])) fun (y6 : List Int × List Int × List EntryD) =>
lett ((↑y6.fst.length : Int) == (0 : Int)) fun (y7 : Bool) =>
lett (IntKind.u64.wrap (↑y6.fst.length : Int)) fun (y8 : Int) =>
lett (IntKind.i64.wrap ((IntKind.u64.wrap at0).tmod y8)) fun (y9 : Int) =>
lett (y6.fst.set y9.toNat c) fun (y10 : List Int) =>
True ∧
((!true) = true → false = true ∧ True) ∧
((!true) = false →
(y5 = true → true = true ∧ True) ∧
(y5 = false →
(∃ (s011 : Nat),
(s011 ≤ l.length ∧ allFew l s011) ∧ (↑s011 : Int) = (0 : Int) ∧ m = m ∧ n = n ∧ l = l ∧ at0 = at0 ∧ c = c ∧ l = l ∧ (↑l.length : Int) = (↑l.length : Int) ∧ True) ∧
∀ (s11 : Nat),
lett (decide ((↑s11 : Int) < (↑l.length : Int))) fun (y12 : Bool) =>
lett (!fFew (l.getD (↑s11 : Int).toNat (([], [], [], []), [], []))) fun (y13 : Bool) =>
s11 ≤ l.length ∧ allFew l s11 →
(y12 = true →
InB (↑s11 : Int) l.length ∧
True ∧
(y13 = true → true = true ∧ True) ∧
(y13 = false →
InR IntKind.i64 ((↑s11 : Int) + (1 : Int)) ∧
∃ (s'14 : Nat),
(s'14 ≤ l.length ∧ allFew l s'14) ∧
l.length - s'14 < l.length - s11 ∧
(↑s'14 : Int) = (↑s11 : Int) + (1 : Int) ∧ m = m ∧ n = n ∧ l = l ∧ at0 = at0 ∧ c = c ∧ l = l ∧ (↑l.length : Int) = (↑l.length : Int) ∧ True)) ∧
(y12 = false →
(l.length ≤ (30 : Nat) ∧ allShort l) ∧
(y7 = true → true = true ∧ True) ∧
(y7 = false →
y8 ≠ (0 : Int) ∧
(∃ (s014 : Nat),
s014 ≤ y6.snd.fst.length ∧
(fEnds y9 (List.take s014 y6.snd.fst)).fst = (0 : Int) ∧
(fEnds y9 (List.take s014 y6.snd.fst)).snd = (0 : Int) ∧
(↑s014 : Int) = (0 : Int) ∧
m = m ∧ n = n ∧ c = c ∧ y9 = y9 ∧ y6.snd.fst = y6.snd.fst ∧ (↑y6.snd.fst.length : Int) = (↑y6.snd.fst.length : Int) ∧ y6.fst = y6.fst ∧ True) ∧
∀ (s14 : Nat),
lett (decide ((↑s14 : Int) < (↑y6.snd.fst.length : Int))) fun (y15 : Bool) =>
lett (y6.snd.fst.getD (↑s14 : Int).toNat (0 : Int)) fun (y16 : Int) =>
lett (fEnds y9 (List.take s14 y6.snd.fst)) fun (y17 : Int × Int) =>
lett (decide (y9 < y17.snd + (2 : Int))) fun (y18 : Bool) =>
lett (bif y18 then true else y6.fst.getD y9.toNat (0 : Int) == c) fun (y19 : Bool) =>
s14 ≤ y6.snd.fst.length →
(y15 = true →
InB (↑s14 : Int) y6.snd.fst.length ∧
(decide (y16 ≤ y9) = true → InR IntKind.i64 (y17.fst + (1 : Int))) ∧
InR IntKind.i64 ((↑s14 : Int) + (1 : Int)) ∧
∃ (s'20 : Nat),
s'20 ≤ y6.snd.fst.length ∧
y6.snd.fst.length - s'20 < y6.snd.fst.length - s14 ∧
((fEnds y9 (List.take s'20 y6.snd.fst)).fst = bif decide (y16 ≤ y9) then y17.fst + (1 : Int) else y17.fst) ∧
((fEnds y9 (List.take s'20 y6.snd.fst)).snd = bif decide (y16 ≤ y9) then y16 else y17.snd) ∧
(↑s'20 : Int) = (↑s14 : Int) + (1 : Int) ∧
m = m ∧
n = n ∧
c = c ∧
y9 = y9 ∧
y6.snd.fst = y6.snd.fst ∧ (↑y6.snd.fst.length : Int) = (↑y6.snd.fst.length : Int) ∧ y6.fst = y6.fst ∧ True) ∧
(y15 = false →
InR IntKind.i64 (y17.snd + (2 : Int)) ∧
(y18 = false → InB y9 y6.fst.length) ∧
(y19 = true → true = true ∧ True) ∧
(y19 = false →
InB y9 y6.fst.length ∧
short y10 ∧
(bif (↑(fRead m n y10).fst.length : Int) == y17.fst then (fRead m n y10).snd == y17.snd else false) = true ∧ True))))))) := by kernel_rfl

theorem b6 (m n : Int) (l : List EntryD) (at0 c : Int) (hc : 0 ≤ c ∧ c ≤ 255) : bodyVC (ctxOf tab [(8, c8), (9, c9), (18, c18), (15, c15)]) Try.f6 c6 (a6 (m, n, l, at0, c, ())) (m, n, l, at0, c, ()) := by
  rw [v6]
  refine lett.mk fun y5 e5 => lett.mk fun y6 e6 => lett.mk fun y7 e7 => lett.mk fun y8 e8 => lett.mk fun y9 e9 => lett.mk fun y10 e10 => ⟨trivial, (fun h => by cases h), fun _ => ⟨fun _ => ⟨rfl, trivial⟩, fun h5 => ?_⟩⟩
  rw [e5] at h5
  have h5 : l.length ≤ 20 := by have := of_decide_eq_false h5; omega
  refine ⟨⟨0, ⟨by omega, allFew_zero l⟩, rfl, rfl, rfl, rfl, rfl, rfl, rfl, rfl, trivial⟩, fun s => lett.mk fun y12 e12 => lett.mk fun y13 e13 => fun h => ⟨fun h12 => ?_, fun h12 => ?_⟩⟩
  · rw [e12] at h12
    have h12 : s < l.length := by have := of_decide_eq_true h12; omega
    refine ⟨⟨by omega, by omega⟩, trivial, fun _ => ⟨rfl, trivial⟩, fun h13 => ⟨inR64 (by omega) (by omega), s + 1, ⟨by omega, allFew_succ h12 h.2 (d := (([], [], [], []), [], [])) ?_⟩, by omega, by omega, rfl, rfl, rfl, rfl, rfl, rfl, rfl, trivial⟩⟩
    rw [e13, Int.toNat_natCast] at h13
    simpa using h13
  · rw [e12] at h12
    have h12 : l.length ≤ s := by have := of_decide_eq_false h12; omega
    have hlen := fBook_len m n l ([], [], [])
    rw [← e6] at hlen
    simp only [List.length_nil] at hlen
    refine ⟨⟨by omega, allFew_all h12 h.2⟩, fun _ => ⟨rfl, trivial⟩, fun h7 => ?_⟩
    have h7 : 0 < y6.1.length := by
      rw [e7, beq_eq_false_iff_ne] at h7
      omega
    obtain ⟨K, hK, hK2⟩ := rest_at (a := at0) (y := (y6.1.length : Int)) (by omega) (by omega)
    rw [← e8, ← e9] at hK
    have hu : y8 ≠ 0 := by rw [e8, IntWalk.u64_in _ (by omega)]; omega
    subst hK
    rw [Int.toNat_natCast] at e10
    have hbd := ends_bd (K : Int) y6.2.1
    have hpos : ∀ x ∈ y6.2.1, 0 ≤ x := by rw [e6]; exact book_ends_pos m n l
    refine ⟨hu, ⟨0, by omega, by simp [fEnds], by simp [fEnds], rfl, rfl, rfl, rfl, rfl, rfl, rfl, rfl, trivial⟩, fun s2 => lett.mk fun y15 e15 => lett.mk fun y16 e16 => lett.mk fun y17 e17 => lett.mk fun y18 e18 => lett.mk fun y19 e19 => fun h2 => ⟨fun h15 => ?_, fun h15 => ?_⟩⟩
    · rw [e15] at h15
      have h15 : s2 < y6.2.1.length := by have := of_decide_eq_true h15; omega
      have hst := ends_succ (K : Int) h15
      rw [Int.toNat_natCast] at e16
      rw [← e17, ← e16] at hst
      have hb2 := ends_bd (K : Int) (y6.2.1.take s2)
      rw [← e17, List.length_take] at hb2
      refine ⟨⟨by omega, by omega⟩, fun _ => inR64 (by omega) (by omega), inR64 (by omega) (by omega), s2 + 1, by omega, by omega, ?_, ?_, by omega, rfl, rfl, rfl, rfl, rfl, rfl, rfl, trivial⟩
      · rw [hst]; unfold endStep; cases decide (y16 ≤ (K : Int)) <;> rfl
      · rw [hst]; unfold endStep; cases decide (y16 ≤ (K : Int)) <;> rfl
    · rw [e15] at h15
      have h15 : y6.2.1.length ≤ s2 := by have := of_decide_eq_false h15; omega
      rw [List.take_of_length_le h15] at e17
      have hfar := ends_far (K : Int) (by omega) y6.2.1 hpos
      rw [← e17] at hbd hfar
      refine ⟨inR64 (by omega) (by omega), fun _ => ⟨by omega, by omega⟩, fun _ => ⟨rfl, trivial⟩, fun h19 => ?_⟩
      rw [h19] at e19
      cases h18 : y18 with
      | true => rw [h18] at e19; cases e19
      | false =>
        rw [h18] at e19 e18
        have h18 := of_decide_eq_false e18.symm
        have hne : y6.1.getD K 0 ≠ c := by
          rw [Int.toNat_natCast] at e19
          have := e19.symm
          simpa using this
        have hsp := book_spoil m n l hc K (by rw [← e6]; omega) (by rw [← e6]; exact hne) (by rw [← e6, ← e17]; omega)
        rw [← e6, ← e17, ← e10] at hsp
        refine ⟨⟨by omega, by omega⟩, by rw [e10]; unfold short; simp; omega, ?_, trivial⟩
        rw [hsp]
        simp

theorem ok6 : DOk Try.prog 6 c6 :=
  DOk.of' (l := [(8, c8), (9, c9), (18, c18), (15, c15)]) (A := a6) tabOk ⟨ok8, ok9, ok18, ok15, trivial⟩ Try.func6 (by kernel_rfl) (by kernel_rfl)
    fun x hw _ => b6 x.1 x.2.1 x.2.2.1 x.2.2.2.1 x.2.2.2.2.1 (inR_u8 hw.2.2.2.2.1)

end Ytmaafccepogakaa
end Go.Proofs
