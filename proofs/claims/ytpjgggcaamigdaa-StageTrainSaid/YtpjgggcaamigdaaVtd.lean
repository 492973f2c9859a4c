/-
  The small functions do what their contracts say.
-/
import Derived.Test.YtpjgggcaamigdaaVtc
set_option maxRecDepth 100000
set_option linter.unusedVariables false
set_option linter.unusedSimpArgs false
namespace Go.Proofs
open Go Go.Vc
namespace Ytpjgggcaamigdaa

theorem inR64 {n : Int} (h1 : -1000000000000 ≤ n) (h2 : n ≤ 1000000000000) : InR .i64 n := by
  simp only [InR, IntKind.min, IntKind.max, IntKind.signed, IntKind.bits]
  constructor <;> simp <;> omega

theorem room {n b : Nat} (h : n ≤ 2000000) (hb : b ≤ 1000) : roomFor n b := by
  unfold roomFor
  calc n * (b + 1) ≤ 2000000 * 1001 := Nat.mul_le_mul h (by omega)
    _ ≤ _ := by omega

theorem b12 (v : ViewD) : bodyVC (ctxOf tab []) Try.f12 c12 noAnn (v, ()) := by
  rw [v12]
  exact ⟨rfl, trivial⟩

theorem ok12 : DOk Try.prog 12 c12 :=
  DOk.of' (l := []) (wraps := []) (A := fun _ => noAnn) tabOk trivial Try.func12 (by kernel_rfl) (by kernel_rfl) fun x _ _ => b12 x.1

theorem b20 (xs : List Bool) (hpre : c20.pre (xs, ())) : bodyVC (ctxOf tab []) Try.f20 c20 noAnn (xs, ()) := by
  have hp := hpre
  have hp : xs.length ≤ 1000000 := hp
  rw [v20]
  intro b hb
  refine ⟨fun h => ⟨(hb h).symm, trivial⟩, fun _ => ⟨room ?_ (by omega), by simp, trivial⟩⟩
  simp
  omega

theorem ok20 : DOk Try.prog 20 c20 :=
  DOk.of' (l := []) (wraps := []) (A := fun _ => noAnn) tabOk trivial Try.func20 (by kernel_rfl) (by kernel_rfl) fun x _ hp => b20 x.1 hp

theorem fIndex_step {xs : List Bool} {v : Bool} {s : Nat} (h : s < xs.length) : fIndex xs v (xs.length - s) = if xs.getD s false == v then (s : Int) else fIndex xs v (xs.length - (s + 1)) := by
  obtain ⟨k, hk⟩ : ∃ k, xs.length - s = k + 1 := ⟨xs.length - s - 1, by omega⟩
  rw [hk]
  have h1 : xs.length - (k + 1) = s := by omega
  have h2 : xs.length - (s + 1) = k := by omega
  rw [h2, fIndex, h1]

theorem b29 (xs : List Bool) (v : Bool) (hpre : c29.pre (xs, v, ())) : bodyVC (ctxOf tab []) Try.f29 c29 (a29 (xs, v, ())) (xs, v, ()) := by
  have hp := hpre
  have hp : xs.length ≤ 1000000 := hp
  rw [v29]
  simp only [Int.toNat_natCast, true_and, and_true]
  refine ⟨⟨0, ⟨by omega, rfl⟩, rfl⟩, fun s ⟨h1, h2⟩ => ⟨fun h => ?_, fun h => ?_⟩⟩
  · have h : s < xs.length := by simpa using h
    have hst := fIndex_step (v := v) h
    refine ⟨⟨by omega, by omega⟩, fun e => ?_, fun e => ⟨inR64 (by omega) (by omega), s + 1, ⟨by omega, ?_⟩, by omega, by omega⟩⟩
    · rw [h2, hst, if_pos]
      rw [beq_iff_eq] at e ⊢
      exact e.symm
    · rw [h2, hst, if_neg]
      rw [beq_eq_false_iff_ne] at e
      simpa using fun h => e h.symm
  · have h : xs.length ≤ s := by simpa using h
    have : s = xs.length := by omega
    subst this
    rw [h2]
    simp [fIndex]

theorem ok29 : DOk Try.prog 29 c29 :=
  DOk.of' (l := []) (wraps := []) (A := a29) tabOk trivial Try.func29 (by kernel_rfl) (by kernel_rfl) fun x _ hp => b29 x.1 x.2.1 hp

theorem fIndex_mem {xs : List Bool} {v : Bool} : ∀ {k : Nat}, k ≤ xs.length → decide (fIndex xs v k ≥ 0) = (xs.drop (xs.length - k)).contains v
  | 0, h => by simp [fIndex]
  | k + 1, h => by
    have hlt : xs.length - (k + 1) < xs.length := by omega
    rw [fIndex, List.drop_eq_getElem_cons hlt, List.contains_cons]
    have : xs.length - (k + 1) + 1 = xs.length - k := by omega
    rw [this, ← fIndex_mem (by omega : k ≤ xs.length)]
    have hg : xs.getD (xs.length - (k + 1)) false = xs[xs.length - (k + 1)] := by simp [List.getD_eq_getElem?_getD, hlt]
    rw [hg]
    by_cases e : xs[xs.length - (k + 1)] = v
    · rw [if_pos (by simp [e])]
      simp [e]
    · rw [if_neg (by simpa using e)]
      have : (v == xs[xs.length - (k + 1)]) = false := by simpa using fun h => e h.symm
      rw [this, Bool.false_or]

theorem b28 (xs : List Bool) (v : Bool) (hpre : c28.pre (xs, v, ())) : bodyVC (ctxOf tab [(29, c29)]) Try.f28 c28 noAnn (xs, v, ()) := by
  have hp := hpre
  rw [v28]
  refine ⟨hp, ?_, trivial⟩
  rw [fIndex_mem (Nat.le_refl _)]
  simp

theorem ok28 : DOk Try.prog 28 c28 :=
  DOk.of' (l := [(29, c29)]) (wraps := []) (A := fun _ => noAnn) tabOk ⟨ok29, trivial⟩ Try.func28 (by kernel_rfl) (by kernel_rfl) fun x _ hp => b28 x.1 x.2.1 hp

theorem sameUp_succ {α : Type} [BEq α] [LawfulBEq α] {xs ys : List α} {s : Nat} (d : α) (hl : xs.length = ys.length) (h : xs.take s = ys.take s) (hs : s < xs.length) (e : xs.getD s d = ys.getD s d) : xs.take (s + 1) = ys.take (s + 1) := by
  have hs' : s < ys.length := hl ▸ hs
  rw [List.take_add_one, List.take_add_one, h]
  simp only [List.getD_eq_getElem?_getD, List.getElem?_eq_getElem hs, List.getElem?_eq_getElem hs', Option.getD_some] at e
  rw [List.getElem?_eq_getElem hs, List.getElem?_eq_getElem hs', e]

theorem sameUp_full {α : Type} [BEq α] [LawfulBEq α] {xs ys : List α} {s : Nat} (hl : xs.length = ys.length) (h : xs.take s = ys.take s) (hs : xs.length ≤ s) : true = (xs == ys) := by
  rw [List.take_of_length_le hs, List.take_of_length_le (hl ▸ hs)] at h
  simp [h]

theorem sameUp_not {α : Type} [BEq α] [LawfulBEq α] {xs ys : List α} {s : Nat} (d : α) (e : xs.getD s d ≠ ys.getD s d) : false = (xs == ys) := by
  symm
  rw [beq_eq_false_iff_ne]
  rintro rfl
  exact e rfl

theorem b27 (xs : List Bool) (ys : List Bool) (hpre : c27.pre (xs, ys, ())) : bodyVC (ctxOf tab []) Try.f27 c27 (a27 (xs, ys, ())) (xs, ys, ()) := by
  have hp := hpre
  have hp : xs.length ≤ 1000000 := hp
  rw [v27]
  simp only [Int.toNat_natCast, true_and, and_true]
  refine ⟨fun h => ?_, fun h => ?_⟩
  · symm
    rw [beq_eq_false_iff_ne]
    rintro rfl
    simp at h
  · have h : xs.length = ys.length := by
      have : (xs.length : Int) = ys.length := by simpa using h
      omega
    refine ⟨⟨0, ⟨by omega, h, rfl⟩, rfl⟩, fun s ⟨h1, h2, h3⟩ => ⟨fun hs => ?_, fun hs => ?_⟩⟩
    · have hs : s < xs.length := by simpa using hs
      refine ⟨⟨by omega, by omega⟩, ⟨by omega, by omega⟩, fun e => ?_, fun e => ⟨inR64 (by omega) (by omega), s + 1, ⟨by omega, h, ?_⟩, by omega, by omega⟩⟩
      · exact sameUp_not (s := s) false (by simpa using e)
      · exact sameUp_succ false h h3 hs (by simpa using e)
    · exact sameUp_full h h3 (by simpa using hs)

theorem ok27 : DOk Try.prog 27 c27 :=
  DOk.of' (l := []) (wraps := []) (A := a27) tabOk trivial Try.func27 (by kernel_rfl) (by kernel_rfl) fun x _ hp => b27 x.1 x.2.1 hp

theorem b25 (xs : List Bool) (ys : List Bool) (hpre : c25.pre (xs, ys, ())) : bodyVC (ctxOf tab []) Try.f25 c25 (a25 (xs, ys, ())) (xs, ys, ()) := by
  have hp := hpre
  have hp : xs.length ≤ 1000000 := hp
  rw [v25]
  simp only [Int.toNat_natCast, true_and, and_true]
  refine ⟨fun h => ?_, fun h => ?_⟩
  · symm
    rw [beq_eq_false_iff_ne]
    rintro rfl
    simp at h
  · have h : xs.length = ys.length := by
      have : (xs.length : Int) = ys.length := by simpa using h
      omega
    refine ⟨⟨0, ⟨by omega, h, rfl⟩, rfl⟩, fun s ⟨h1, h2, h3⟩ => ⟨fun hs => ?_, fun hs => ?_⟩⟩
    · have hs : s < xs.length := by simpa using hs
      refine ⟨⟨by omega, by omega⟩, ⟨by omega, by omega⟩, fun e => ?_, fun e => ⟨inR64 (by omega) (by omega), s + 1, ⟨by omega, h, ?_⟩, by omega, by omega⟩⟩
      · exact sameUp_not (s := s) false (by simpa using e)
      · exact sameUp_succ false h h3 hs (by simpa using e)
    · exact sameUp_full h h3 (by simpa using hs)

theorem ok25 : DOk Try.prog 25 c25 :=
  DOk.of' (l := []) (wraps := []) (A := a25) tabOk trivial Try.func25 (by kernel_rfl) (by kernel_rfl) fun x _ hp => b25 x.1 x.2.1 hp

theorem b14 (xs : List Int) (ys : List Int) (hpre : c14.pre (xs, ys, ())) : bodyVC (ctxOf tab []) Try.f14 c14 (a14 (xs, ys, ())) (xs, ys, ()) := by
  have hp := hpre
  have hp : xs.length ≤ 1000000 := hp
  rw [v14]
  simp only [Int.toNat_natCast, true_and, and_true]
  refine ⟨fun h => ?_, fun h => ?_⟩
  · symm
    rw [beq_eq_false_iff_ne]
    rintro rfl
    simp at h
  · have h : xs.length = ys.length := by
      have : (xs.length : Int) = ys.length := by simpa using h
      omega
    refine ⟨⟨0, ⟨by omega, h, rfl⟩, rfl⟩, fun s ⟨h1, h2, h3⟩ => ⟨fun hs => ?_, fun hs => ?_⟩⟩
    · have hs : s < xs.length := by simpa using hs
      refine ⟨⟨by omega, by omega⟩, ⟨by omega, by omega⟩, fun e => ?_, fun e => ⟨inR64 (by omega) (by omega), s + 1, ⟨by omega, h, ?_⟩, by omega, by omega⟩⟩
      · exact sameUp_not (s := s) 0 (by simpa using e)
      · exact sameUp_succ 0 h h3 hs (by simpa using e)
    · exact sameUp_full h h3 (by simpa using hs)

theorem ok14 : DOk Try.prog 14 c14 :=
  DOk.of' (l := []) (wraps := []) (A := a14) tabOk trivial Try.func14 (by kernel_rfl) (by kernel_rfl) fun x _ hp => b14 x.1 x.2.1 hp

theorem take_not {xs : List Bool} {s : Nat} (h : (xs.take s).contains true = false) (hs : s < xs.length) (e : xs.getD s false = false) : (xs.take (s + 1)).contains true = false := by
  have hg : xs.getD s false = xs[s] := by simp [List.getD_eq_getElem?_getD, hs]
  rw [hg] at e
  rw [List.take_add_one, List.getElem?_eq_getElem hs, e]
  simp at h ⊢
  exact h

theorem b18 (xs : List Bool) (hpre : c18.pre (xs, ())) : bodyVC (ctxOf tab []) Try.f18 c18 (a18 (xs, ())) (xs, ()) := by
  have hp := hpre
  have hp : xs.length ≤ 1000000 := hp
  rw [v18]
  simp only [Int.toNat_natCast, true_and, and_true]
  refine ⟨⟨0, ⟨by omega, by simp⟩, rfl⟩, fun s ⟨h1, h2⟩ => ⟨fun hs => ?_, fun hs => ?_⟩⟩
  · have hs : s < xs.length := by simpa using hs
    refine ⟨⟨by omega, by omega⟩, fun e => ?_, fun e => ⟨inR64 (by omega) (by omega), s + 1, ⟨by omega, take_not h2 hs e⟩, by omega, by omega⟩⟩
    have hg : xs.getD s false = xs[s] := by simp [List.getD_eq_getElem?_getD, hs]
    rw [hg] at e
    have : true ∈ xs := e ▸ List.getElem_mem hs
    simp [this]
  · have hs : xs.length ≤ s := by simpa using hs
    rw [List.take_of_length_le hs] at h2
    rw [h2]

theorem ok18 : DOk Try.prog 18 c18 :=
  DOk.of' (l := []) (wraps := []) (A := a18) tabOk trivial Try.func18 (by kernel_rfl) (by kernel_rfl) fun x _ hp => b18 x.1 hp

theorem b23 (xs : List Bool) (a : Int) (hpre : c23.pre (xs, a, ())) : bodyVC (ctxOf tab []) Try.f23 c23 (a23 (xs, a, ())) (xs, a, ()) := by
  obtain ⟨hp, h1, h2⟩ := hpre
  have hp : xs.length ≤ 1000000 := hp
  have h1 : 0 ≤ a := h1
  have h2 : a ≤ 1000000 := h2
  rw [v23]
  simp only [Int.toNat_natCast, true_and, and_true]
  refine ⟨⟨a.toNat, ⟨by omega, .inr rfl, rfl⟩, by omega⟩, fun s ⟨k1, k2, k3⟩ => ⟨fun hs => ?_, fun hs => ?_⟩⟩
  · have hs : s < xs.length := by simpa using hs
    have hg : xs.getD s false = xs[s] := by simp [List.getD_eq_getElem?_getD, hs]
    refine ⟨⟨by omega, by omega⟩, fun e => ?_, fun e => ⟨inR64 (by omega) (by omega), s + 1, ⟨by omega, .inl (by omega), ?_⟩, by omega, by omega⟩⟩
    · rw [k3, List.drop_eq_getElem_cons hs, List.contains_cons, ← hg, e]
      rfl
    · rw [k3, List.drop_eq_getElem_cons hs, List.contains_cons, ← hg, e]
      rfl
  · have hs : xs.length ≤ s := by simpa using hs
    rw [k3, List.drop_eq_nil_of_le hs]
    rfl

theorem ok23 : DOk Try.prog 23 c23 :=
  DOk.of' (l := []) (wraps := []) (A := a23) tabOk trivial Try.func23 (by kernel_rfl) (by kernel_rfl) fun x _ hp => b23 x.1 x.2.1 hp

theorem b17 (l : List ViewD) (n : Int) (hpre : c17.pre (l, n, ())) : bodyVC (ctxOf tab []) Try.f17 c17 (a17 (l, n, ())) (l, n, ()) := by
  have hp := hpre
  rw [v17]
  simp only [Int.toNat_natCast, true_and, and_true]
  refine ⟨fun h => ?_, fun h => ?_⟩
  · have h : (60 : Int) < l.length := by simpa using h
    have : ¬ l.length ≤ 60 := by omega
    simp [fFew, this]
  · have h : (l.length : Int) ≤ 60 := by simpa using h
    refine ⟨⟨0, ⟨by omega, rfl⟩, rfl⟩, fun s ⟨h1, h2⟩ => ⟨fun hs => ?_, fun hs => ?_⟩⟩
    · have hs : s < l.length := by simpa using hs
      have hg : ∀ d, l.getD s d = l[s] := fun d => by simp [List.getD_eq_getElem?_getD, hs]
      rw [hg]
      refine ⟨⟨by omega, by omega⟩, fun e => ?_, fun e => ⟨inR64 (by omega) (by omega), s + 1, ⟨by omega, ?_⟩, by omega, by omega⟩⟩
      · have e : ¬ (l[s].1.length : Int) = n := by simpa using e
        have : l.all (fun v => (v.1.length : Int) == n) = false := by
          rw [List.all_eq_false]
          exact ⟨l[s], List.getElem_mem hs, by simpa using e⟩
        rw [fFew, this, Bool.and_false]
      · rw [List.take_add_one, List.getElem?_eq_getElem hs, List.all_append, h2]
        simpa using e
    · have hs : l.length ≤ s := by simpa using hs
      rw [List.take_of_length_le hs] at h2
      rw [fFew, h2]
      have : l.length ≤ 60 := by omega
      simp [this]

theorem ok17 : DOk Try.prog 17 c17 :=
  DOk.of' (l := []) (wraps := []) (A := a17) tabOk trivial Try.func17 (by kernel_rfl) (by kernel_rfl) fun x _ hp => b17 x.1 x.2.1 hp

theorem fRest_succ {a : Int} {k : Nat} : fRest a (a + k) ++ [a + k] = fRest a (a + (k + 1 : Nat)) := by
  unfold fRest
  have h1 : (a + (k : Int) - a).toNat = k := by omega
  have h2 : (a + ((k + 1 : Nat) : Int) - a).toNat = k + 1 := by omega
  rw [h1, h2, List.range_succ, List.map_append]
  rfl

theorem fRest_length {a : Int} {k : Nat} : (fRest a (a + k)).length = k := by
  unfold fRest
  simp
  omega

theorem b24 (a : Int) (b : Int) (hpre : c24.pre (a, b, ())) : bodyVC (ctxOf tab []) Try.f24 c24 (a24 (a, b, ())) (a, b, ()) := by
  obtain ⟨h1, h2⟩ := hpre
  have h1 : 0 ≤ a := h1
  have h2 : b ≤ 1000000 := h2
  rw [v24]
  refine ⟨⟨0, .inr rfl, by simp, rfl, by simp [fRest], trivial⟩, fun k hk => ⟨fun h => ?_, fun h => ?_⟩⟩
  · have h : a + k < b := by simpa using h
    refine ⟨room ?_ (by omega), inR64 (by omega) (by omega), k + 1, .inl (by omega), by omega, by omega, rfl, ?_, trivial⟩
    · rw [fRest_length]
      simp
      omega
    · rw [← fRest_succ]
      rfl
  · have h : b ≤ a + k := by simpa using h
    refine ⟨?_, trivial⟩
    rcases hk with hk | rfl
    · have : b = a + k := by omega
      rw [this]
    · unfold fRest
      congr 2
      omega

theorem ok24 : DOk Try.prog 24 c24 :=
  DOk.of' (l := []) (wraps := []) (A := a24) tabOk trivial Try.func24 (by kernel_rfl) (by kernel_rfl) fun x _ hp => b24 x.1 x.2.1 hp

theorem b22 (a : Int) (b : Int) (hpre : c22.pre (a, b, ())) : bodyVC (ctxOf tab []) Try.f22 c22 (a22 (a, b, ())) (a, b, ()) := by
  obtain ⟨h1, h2⟩ := hpre
  have h1 : 0 ≤ a := h1
  have h2 : b ≤ 1000000 := h2
  rw [v22]
  refine ⟨⟨0, .inr rfl, by simp, rfl, by simp [fRest], trivial⟩, fun k hk => ⟨fun h => ?_, fun h => ?_⟩⟩
  · have h : a + k < b := by simpa using h
    refine ⟨room ?_ (by omega), inR64 (by omega) (by omega), k + 1, .inl (by omega), by omega, by omega, rfl, ?_, trivial⟩
    · rw [fRest_length]
      simp
      omega
    · rw [← fRest_succ]
      rfl
  · have h : b ≤ a + k := by simpa using h
    refine ⟨?_, trivial⟩
    rcases hk with hk | rfl
    · have : b = a + k := by omega
      rw [this]
    · unfold fRest
      congr 2
      omega

theorem ok22 : DOk Try.prog 22 c22 :=
  DOk.of' (l := []) (wraps := []) (A := a22) tabOk trivial Try.func22 (by kernel_rfl) (by kernel_rfl) fun x _ hp => b22 x.1 x.2.1 hp

theorem b26 (l : LifeD) : bodyVC (ctxOf tab []) Try.f26 c26 noAnn (l, ()) := by
  rw [v26]
  exact ⟨rfl, trivial⟩

theorem ok26 : DOk Try.prog 26 c26 :=
  DOk.of' (l := []) (wraps := []) (A := fun _ => noAnn) tabOk trivial Try.func26 (by kernel_rfl) (by kernel_rfl) fun x _ _ => b26 x.1

theorem b19 (l : LifeD) (m : LifeD) (hpre : c19.pre (l, m, ())) : bodyVC (ctxOf tab [(26, c26), (27, c27)]) Try.f19 c19 noAnn (l, m, ()) := by
  have hp := hpre
  rw [v19]
  refine ⟨trivial, trivial, fun _ => hp, ?_, trivial⟩
  unfold fSame
  cases l.fst == m.fst <;> cases l.snd.fst == m.snd.fst <;> cases l.snd.snd.fst == m.snd.snd.fst <;> rfl

theorem ok19 : DOk Try.prog 19 c19 :=
  DOk.of' (l := [(26, c26), (27, c27)]) (wraps := []) (A := fun _ => noAnn) tabOk ⟨ok26, ok27, trivial⟩ Try.func19 (by kernel_rfl) (by kernel_rfl) fun x _ hp => b19 x.1 x.2.1 hp

theorem b13 (l : LifeD) (m : LifeD) (hpre : c13.pre (l, m, ())) : bodyVC (ctxOf tab [(25, c25)]) Try.f13 c13 noAnn (l, m, ()) := by
  have hp := hpre
  rw [v13]
  refine ⟨fun _ => hp, ?_, trivial⟩
  unfold fSame
  cases l.fst == m.fst <;> cases l.snd.fst == m.snd.fst <;> cases l.snd.snd.fst == m.snd.snd.fst <;> rfl

theorem ok13 : DOk Try.prog 13 c13 :=
  DOk.of' (l := [(25, c25)]) (wraps := []) (A := fun _ => noAnn) tabOk ⟨ok25, trivial⟩ Try.func13 (by kernel_rfl) (by kernel_rfl) fun x _ hp => b13 x.1 x.2.1 hp

theorem b15 (n : Int) : bodyVC (ctxOf tab []) Try.f15 c15 noAnn (n, ()) := by
  rw [v15]
  refine ⟨fun h => ⟨?_, trivial⟩, fun h => ?_⟩
  · have h : n < 1 ∨ n > 12 := by
      by_cases e : n < 1
      · exact .inl e
      · simp [e] at h; exact .inr h
    rw [fBegin, if_pos h]
  · have h : 1 ≤ n ∧ n ≤ 12 := by
      by_cases e : n < 1
      · simp [e] at h
      · simp [e] at h; omega
    refine ⟨⟨by omega, by omega⟩, ⟨room (by omega) (by omega), by simp [maxLenI]; omega⟩, ?_, trivial⟩
    rw [fBegin, if_neg (by omega)]

theorem ok15 : DOk Try.prog 15 c15 :=
  DOk.of' (l := []) (wraps := []) (A := fun _ => noAnn) tabOk trivial Try.func15 (by kernel_rfl) (by kernel_rfl) fun x _ _ => b15 x.1

theorem b16 (n : Int) : bodyVC (ctxOf tab []) Try.f16 c16 noAnn (n, ()) := by
  rw [v16]
  refine ⟨fun h => ⟨?_, trivial⟩, fun h => ?_⟩
  · have h : n < 1 ∨ n > 12 := by
      by_cases e : n < 1
      · exact .inl e
      · simp [e] at h; exact .inr h
    rw [fBegin, if_pos h]
  · have h : 1 ≤ n ∧ n ≤ 12 := by
      by_cases e : n < 1
      · simp [e] at h
      · simp [e] at h; omega
    refine ⟨⟨by omega, by omega⟩, ⟨room (by omega) (by omega), by simp [maxLenI]; omega⟩, ?_, trivial⟩
    rw [fBegin, if_neg (by omega)]

theorem ok16 : DOk Try.prog 16 c16 :=
  DOk.of' (l := []) (wraps := []) (A := fun _ => noAnn) tabOk trivial Try.func16 (by kernel_rfl) (by kernel_rfl) fun x _ _ => b16 x.1

theorem b21 (occ : List Bool) (v : ViewD) (hpre : c21.pre (occ, v, ())) : bodyVC (ctxOf tab [(28, c28)]) Try.f21 c21 noAnn (occ, v, ()) := by
  have hp := hpre
  rw [v21]
  refine ⟨hp, ?_, trivial⟩
  unfold fOver
  cases occ.contains true <;> cases v.snd.snd.snd.snd.fst <;> rfl

theorem ok21 : DOk Try.prog 21 c21 :=
  DOk.of' (l := [(28, c28)]) (wraps := []) (A := fun _ => noAnn) tabOk ⟨ok28, trivial⟩ Try.func21 (by kernel_rfl) (by kernel_rfl) fun x _ hp => b21 x.1 x.2.1 hp

end Ytpjgggcaamigdaa
end Go.Proofs
