/-
  Whether all can come home: orders, in plain terms.
-/
import Derived.Test.YtghpaejpccpgeaaVbk
set_option linter.unusedVariables false
set_option linter.unusedSimpArgs false
namespace Go.Proofs
open Go Go.Vc
namespace Ytghpaejpccpgeaa

abbrev Gone := Nat → Bool
def upd (G : Gone) (k : Nat) : Gone := fun j => j == k || G j

theorem upd_same (G : Gone) (k : Nat) : upd G k k = true := by simp [upd]
theorem upd_other (G : Gone) {j k : Nat} (h : j ≠ k) : upd G k j = G j := by simp [upd, h]
theorem upd_le (G : Gone) (k j : Nat) (h : G j = true) : upd G k j = true := by simp [upd, h]
theorem upd_cases {G : Gone} {k j : Nat} (h : upd G k j = true) : j = k ∨ G j = true := by simpa [upd] using h

/-- k could go home, while all who are not gone stand. -/
def CanG (l : List ClaimD) (G : Gone) (k : Nat) : Prop := ∀ w ∈ (l.getD k zeroC).2, ∀ j, j < l.length → j ≠ k → G j = false → ∀ e ∈ (l.getD j zeroC).1, e ∉ w.1

/-- All who are not gone can go in some order. -/
inductive HomeG (l : List ClaimD) : Gone → Prop where
  | done {G : Gone} : (∀ j, j < l.length → G j = true) → HomeG l G
  | step {G : Gone} (k : Nat) : k < l.length → G k = false → CanG l G k → HomeG l (upd G k) → HomeG l G

theorem CanG.mono {l : List ClaimD} {G G' : Gone} {k : Nat} (h : CanG l G k) (hG : ∀ j, G j = true → G' j = true) : CanG l G' k := fun w hw j hj hne hg => h w hw j hj hne (by
  cases e : G j with
  | false => rfl
  | true => rw [hG j e] at hg; cases hg)

theorem HomeG.mono {l : List ClaimD} {G : Gone} (h : HomeG l G) : ∀ {G' : Gone}, (∀ j, G j = true → G' j = true) → HomeG l G' := by
  induction h with
  | done h => exact fun hG => .done fun j hj => hG j (h j hj)
  | step k hk hg hc _ ih =>
    intro G' hG
    cases e : G' k with
    | false =>
      refine .step k hk e (hc.mono hG) (ih fun j hj => ?_)
      rcases upd_cases hj with rfl | hj
      · exact upd_same _ _
      · exact upd_le _ _ _ (hG j hj)
    | true =>
      refine ih fun j hj => ?_
      rcases upd_cases hj with rfl | hj
      · exact e
      · exact hG j hj

/-! ### The code's own state -/

structure Zero (l : List ClaimD) (G : Gone) (left : List ClaimD) : Prop where
  len : left.length = l.length
  at_ : ∀ j, j < l.length → left.getD j zeroC = bif G j then zeroC else l.getD j zeroC

theorem getD_set_same {α : Type} {l : List α} {k : Nat} (x d : α) (h : k < l.length) : (l.set k x).getD k d = x := by simp [List.getD_eq_getElem?_getD, h]
theorem getD_set_other {α : Type} {l : List α} {k j : Nat} (x d : α) (h : k ≠ j) : (l.set k x).getD j d = l.getD j d := by simp [List.getD_eq_getElem?_getD, List.getElem?_set_ne h]

theorem Zero.set {l : List ClaimD} {G : Gone} {left : List ClaimD} (h : Zero l G left) {k : Nat} (hk : k < l.length) : Zero l (upd G k) (left.set k zeroC) where
  len := by simpa using h.len
  at_ := fun j hj => by
    by_cases e : k = j
    · subst e
      rw [getD_set_same _ _ (by rw [h.len]; exact hk), upd_same]
      rfl
    · rw [getD_set_other _ _ e, h.at_ j hj, upd_other _ (Ne.symm e)]

theorem can_zero {l : List ClaimD} {G : Gone} {left : List ClaimD} (h : Zero l G left) {k : Nat} (hk : k < l.length) (hg : G k = false) : fCan left k = true ↔ CanG l G k := by
  unfold fCan CanG
  rw [List.all_eq_true, h.at_ k hk, hg, cond_false]
  refine forall_congr' fun w => forall_congr' fun hw => ?_
  rw [fClear_iff]
  constructor
  · intro H j hj hne hgj e he
    have := H j (by rw [h.len]; exact hj) (by omega) e
    rw [h.at_ j hj, hgj] at this
    exact this he
  · intro H j hj hne e he
    rw [h.len] at hj
    rw [h.at_ j hj] at he
    cases hgj : G j with
    | true => rw [hgj] at he; cases he
    | false =>
      rw [hgj] at he
      exact H j hj (by omega) hgj e he

def goneOf (gone : List Bool) : Gone := fun j => gone.getD j false

theorem gone_set {gone : List Bool} {k : Nat} (hk : k < gone.length) : goneOf (gone.set k true) = upd (goneOf gone) k := by
  funext j
  unfold goneOf
  by_cases e : k = j
  · subst e
    rw [getD_set_same _ _ hk, upd_same]
  · rw [getD_set_other _ _ e, upd_other _ (Ne.symm e)]

theorem gone_none (n : Nat) : goneOf (List.replicate n false) = fun _ => false := by
  funext j
  unfold goneOf
  rw [List.getD_eq_getElem?_getD, List.getElem?_replicate]
  split <;> rfl

theorem zero_none (l : List ClaimD) : Zero l (fun _ => false) l := ⟨rfl, fun _ _ => rfl⟩

theorem count_pos_of {gone : List Bool} {k : Nat} (hk : k < gone.length) (h : gone.getD k false = false) : (gone.set k true).count false + 1 = gone.count false := by
  have hx : gone[k] = false := by rw [← getD_at false hk]; exact h
  have hpos : 0 < gone.count false := List.count_pos_iff.2 (hx ▸ List.getElem_mem hk)
  rw [List.count_set hk, hx]
  simp
  omega

theorem all_gone {gone : List Bool} (h : gone.count false = 0) {j : Nat} (hj : j < gone.length) : gone.getD j false = true := by
  cases e : gone.getD j false with
  | true => rfl
  | false =>
    have : false ∈ gone := by rw [← e]; exact mem_getD _ hj
    have := List.count_pos_iff.2 this
    omega

theorem elig_of_next {left : List ClaimD} {gone : List Bool} (h : fNext left gone < left.length) : fElig left gone (fNext left gone) = true := by
  unfold fNext at h ⊢
  have := List.findIdx_getElem (p := fElig left gone) (xs := List.range left.length) (w := by simpa using h)
  rwa [List.getElem_range] at this

theorem not_elig {left : List ClaimD} {gone : List Bool} (h : ¬ fNext left gone < left.length) {k : Nat} (hk : k < left.length) : fElig left gone k = false := by
  cases e : fElig left gone k with
  | false => rfl
  | true =>
    exfalso
    apply h
    unfold fNext
    have := List.findIdx_lt_length_of_exists (p := fElig left gone) (xs := List.range left.length) ⟨k, List.mem_range.2 hk, e⟩
    simpa using this

theorem ord_home {l : List ClaimD} : ∀ (n : Nat) (left : List ClaimD) (gone : List Bool) (out : List Int), Zero l (goneOf gone) left → gone.length = l.length → gone.count false = n → ((fOrd n left gone out).isSome = true ↔ HomeG l (goneOf gone))
  | 0, left, gone, out, hz, hl, hc => ⟨fun _ => .done fun j hj => all_gone hc (by omega), fun _ => rfl⟩
  | n + 1, left, gone, out, hz, hl, hc => by
    unfold fOrd
    split
    · rename_i h
      have hk : fNext left gone < l.length := by rw [← hz.len]; exact h
      have he := elig_of_next h
      unfold fElig at he
      rw [Bool.and_eq_true] at he
      have hg : gone.getD (fNext left gone) false = false := by
        have := he.1
        rw [getD_at true (by omega)] at this
        rw [getD_at false (by omega)]
        simpa using this
      have hz' := hz.set hk
      rw [← gone_set (by omega)] at hz'
      have hc' := count_pos_of (gone := gone) (k := fNext left gone) (by omega) hg
      rw [ord_home n _ _ _ hz' (by simpa using hl) (by omega), gone_set (by omega)]
      exact ⟨fun H => .step _ hk hg ((can_zero hz hk hg).1 he.2) H, fun H => H.mono (upd_le _ _)⟩
    · rename_i h
      constructor
      · intro H; cases H
      · intro H
        exfalso
        cases H with
        | done H =>
          have : 0 < gone.count false := by omega
          have := List.count_pos_iff.1 this
          obtain ⟨j, hj, hx⟩ := List.mem_iff_getElem.1 this
          have := H j (by omega)
          unfold goneOf at this
          rw [getD_at false hj, hx] at this
          cases this
        | step k hk hg hcan _ =>
          have hg' : gone.getD k false = false := hg
          have := not_elig h (k := k) (by rw [hz.len]; exact hk)
          unfold fElig at this
          rw [(can_zero hz hk hg).2 hcan, getD_at true (by omega), ← getD_at false (by omega), hg'] at this
          cases this

theorem safe_iff (l : List ClaimD) : (fOrder l).isSome = true ↔ HomeG l fun _ => false := by
  unfold fOrder
  have := ord_home (l := l) l.length l (List.replicate l.length false) [] (by rw [gone_none]; exact zero_none l) (by simp) (by simp [List.count_replicate])
  rwa [gone_none] at this

theorem home_iff {l : List ClaimD} : ∀ (n : Nat) (left : List ClaimD) (gone : List Bool), Zero l (goneOf gone) left → gone.length = l.length → gone.count false < n → (fHome n left gone = true ↔ HomeG l (goneOf gone))
  | 0, left, gone, hz, hl, hc => by omega
  | n + 1, left, gone, hz, hl, hc => by
    unfold fHome
    rw [Bool.or_eq_true, List.any_eq_true, List.all_eq_true]
    constructor
    · rintro (⟨k, hk, H⟩ | H)
      · simp only [Bool.and_eq_true, Bool.not_eq_true'] at H
        obtain ⟨hg, hcan, H⟩ := H
        have hk : k < l.length := by rw [← hz.len]; exact List.mem_range.1 hk
        have hz' := hz.set hk
        rw [← gone_set (by omega)] at hz'
        have hc' := count_pos_of (gone := gone) (k := k) (by omega) hg
        rw [home_iff n _ _ hz' (by simpa using hl) (by omega), gone_set (by omega)] at H
        exact .step k hk hg ((can_zero hz hk hg).1 hcan) H
      · exact .done fun j hj => H j (List.mem_range.2 (by rw [hz.len]; exact hj))
    · intro H
      cases H with
      | done H => exact .inr fun j hj => H j (by rw [← hz.len]; exact List.mem_range.1 hj)
      | step k hk hg hcan H =>
        refine .inl ⟨k, List.mem_range.2 (by rw [hz.len]; exact hk), ?_⟩
        have hg' : gone.getD k false = false := hg
        have hz' := hz.set hk
        rw [← gone_set (by omega)] at hz' H
        have hc' := count_pos_of (gone := gone) (k := k) (by omega) hg
        rw [(can_zero hz hk hg).2 hcan, (home_iff n _ _ hz' (by simpa using hl) (by omega)).2 H, hg']
        rfl

theorem home_safe (l : List ClaimD) (n : Nat) (hn : l.length < n) : fHome n l (List.replicate l.length false) = (fOrder l).isSome := by
  rw [Bool.eq_iff_iff, safe_iff]
  have := home_iff (l := l) n l (List.replicate l.length false) (by rw [gone_none]; exact zero_none l) (by simp) (by simp [List.count_replicate]; omega)
  rwa [gone_none] at this

/-! ### The order, step by step -/

def leftF (left : List ClaimD) (ks : List Int) : List ClaimD := ks.foldl (fun x (k : Int) => x.set k.toNat zeroC) left
def metF (gone : List Bool) (ks : List Int) : List Bool := ks.foldl (fun x (k : Int) => x.set k.toNat true) gone

theorem ord_steps : ∀ (n : Nat) (left : List ClaimD) (gone : List Bool) (out o : List Int), gone.length = left.length → fOrd n left gone out = some o →
    ∃ rest, o = out ++ rest ∧ rest.length = n ∧ ∀ s, s < n → 0 ≤ rest.getD s 0 ∧ rest.getD s 0 < left.length ∧ (metF gone (rest.take s)).getD (rest.getD s 0).toNat false = false ∧ fCan (leftF left (rest.take s)) (rest.getD s 0).toNat = true
  | 0, left, gone, out, o, hl, h => ⟨[], by cases h; simp, rfl, fun s hs => by omega⟩
  | n + 1, left, gone, out, o, hl, h => by
    unfold fOrd at h
    split at h
    · rename_i hk
      obtain ⟨rest, e, hr, H⟩ := ord_steps n _ _ _ _ (by simpa using hl) h
      have he := elig_of_next hk
      unfold fElig at he
      rw [Bool.and_eq_true] at he
      refine ⟨(fNext left gone : Int) :: rest, by rw [e]; simp, by simp [hr], fun s hs => ?_⟩
      match s with
      | 0 =>
        refine ⟨by show (0 : Int) ≤ (fNext left gone : Int); omega, by show (fNext left gone : Int) < _; omega, ?_, ?_⟩
        · show gone.getD (fNext left gone : Int).toNat false = false
          rw [Int.toNat_natCast]
          have := he.1
          rw [getD_at true (by omega)] at this
          rw [getD_at false (by omega)]
          simpa using this
        · show fCan left (fNext left gone : Int).toNat = true
          rw [Int.toNat_natCast]
          exact he.2
      | s + 1 =>
        obtain ⟨h1, h2, h3, h4⟩ := H s (by omega)
        rw [List.length_set] at h2
        exact ⟨h1, h2, h3, h4⟩
    · cases h

/-! ### Claims that differ -/

/-- Whoever is gone does not matter. -/
theorem HomeG.congr {l l' : List ClaimD} (hl : l'.length = l.length) {G : Gone} (h : HomeG l G) (he : ∀ j, j < l.length → G j = false → l'.getD j zeroC = l.getD j zeroC) : HomeG l' G := by
  induction h with
  | done h => exact .done fun j hj => h j (by omega)
  | @step G k hk hg hc _ ih =>
    refine .step k (by omega) hg (fun w hw j hj hne hgj => ?_) (ih fun j hj hgj => he j hj ?_)
    · rw [he k hk hg] at hw
      rw [he j (by omega) hgj]
      exact hc w hw j (by omega) hne hgj
    · cases e : G j with
      | false => rfl
      | true => rw [upd_le _ _ _ e] at hgj; cases hgj

/-- The place among the rest, as a place among all. -/
def over (k j : Nat) : Nat := if j < k then j else j + 1

theorem over_ne (k j : Nat) : over k j ≠ k := by unfold over; split <;> omega
theorem over_inj {k i j : Nat} (h : over k i = over k j) : i = j := by unfold over at h; split at h <;> split at h <;> omega
theorem over_of {k m : Nat} (h : m ≠ k) : ∃ j, over k j = m := by
  by_cases hm : m < k
  · exact ⟨m, by unfold over; rw [if_pos hm]⟩
  · exact ⟨m - 1, by unfold over; rw [if_neg (by omega)]; omega⟩

theorem without_len {l : List ClaimD} {k : Nat} (hk : k < l.length) : (l.take k ++ l.drop (k + 1)).length + 1 = l.length := by simp; omega
theorem without_at {l : List ClaimD} {k : Nat} (hk : k < l.length) (j : Nat) : (l.take k ++ l.drop (k + 1)).getD j zeroC = l.getD (over k j) zeroC := by
  unfold over
  rw [List.getD_eq_getElem?_getD, List.getD_eq_getElem?_getD]
  split
  · rename_i h
    rw [List.getElem?_append_left (by simp; omega), List.getElem?_take_of_lt h]
  · rename_i h
    rw [List.getElem?_append_right (by simp; omega), List.getElem?_drop]
    simp only [List.length_take]
    congr 2
    omega

theorem HomeG.without {l : List ClaimD} {k : Nat} (hk : k < l.length) {G : Gone} (h : HomeG l G) (hg : G k = true) : HomeG (l.take k ++ l.drop (k + 1)) fun j => G (over k j) := by
  have hlen := without_len hk
  have hov : ∀ j, j < (l.take k ++ l.drop (k + 1)).length → over k j < l.length := fun j hj => by unfold over; split <;> omega
  induction h with
  | done h => exact .done fun j hj => h _ (hov j hj)
  | @step G m hm hgm hc _ ih =>
    have hne : m ≠ k := fun e => by subst e; rw [hg] at hgm; cases hgm
    obtain ⟨j, hj⟩ := over_of hne
    have hjl : j < (l.take k ++ l.drop (k + 1)).length := by unfold over at hj; split at hj <;> omega
    refine .step j hjl (by rw [hj]; exact hgm) (fun w hw i hi hij hgi e he => ?_) ?_
    · rw [without_at hk, hj] at hw
      rw [without_at hk] at he
      exact hc w hw (over k i) (hov i hi) (fun e => hij (over_inj (e.trans hj.symm))) hgi e he
    · have := ih (upd_le _ _ _ hg)
      have he : (fun i => upd G m (over k i)) = upd (fun i => G (over k i)) j := by
        funext i
        by_cases e : i = j
        · subst e
          rw [upd_same, hj, upd_same]
        · rw [upd_other _ e, upd_other _ fun e' => e (over_inj (e'.trans hj.symm))]
      rwa [he] at this

theorem safe_without {l : List ClaimD} {k : Nat} (hk : k < l.length) (h : (fOrder l).isSome = true) : (fOrder (l.take k ++ l.drop (k + 1))).isSome = true := by
  rw [safe_iff] at h ⊢
  have h1 : HomeG l (upd (fun _ => false) k) := h.mono fun j hj => by cases hj
  exact ((h1.without hk (upd_same _ _))).mono fun j hj => by rw [upd_other _ (over_ne k j)] at hj; cases hj

/-- Somebody with a leg can go home at once. -/
theorem first_one {l : List ClaimD} {G : Gone} (h : HomeG l G) (h0 : ∀ j, j < l.length → (l.getD j zeroC).2 = [] → (l.getD j zeroC).1 = []) (hG : ∀ j, j < l.length → G j = true → (l.getD j zeroC).1 = []) {m : Nat} (hm : m < l.length) (hgm : G m = false) (hl : (l.getD m zeroC).2 ≠ []) :
    ∃ k, k < l.length ∧ (l.getD k zeroC).2 ≠ [] ∧ CanG l (fun _ => false) k := by
  induction h with
  | done h => rw [h m hm] at hgm; cases hgm
  | @step G k hk hg hc _ ih =>
    by_cases hk0 : (l.getD k zeroC).2 = []
    · have hat := h0 k hk hk0
      refine ih (fun j hj hgj => ?_) ?_
      · rcases upd_cases hgj with rfl | hgj
        · exact hat
        · exact hG j hj hgj
      · have : m ≠ k := fun e => by subst e; exact hl hk0
        rw [upd_other _ this]
        exact hgm
    · refine ⟨k, hk, hk0, fun w hw j hj hne _ e he => ?_⟩
      cases hgj : G j with
      | true => rw [hG j hj hgj] at he; cases he
      | false => exact hc w hw j hj hne hgj e he

theorem after_legs (c : ClaimD) : ∀ w ∈ (fAfter c).2, w ∈ c.2 := by
  obtain ⟨a, legs⟩ := c
  match legs with
  | [] => exact fun w hw => by cases hw
  | v :: r => exact fun w hw => List.mem_cons_of_mem _ hw

/-- Behind his leg all are as safe as before. -/
theorem after_safe {l : List ClaimD} {k : Nat} (hk : k < l.length) (hc : CanG l (fun _ => false) k) (h : (fOrder l).isSome = true) : (fOrder (l.set k (fAfter (l.getD k zeroC)))).isSome = true := by
  rw [safe_iff] at h ⊢
  have hlen : (l.set k (fAfter (l.getD k zeroC))).length = l.length := by simp
  refine .step k (by omega) rfl (fun w hw j hj hne _ e he => ?_) ?_
  · rw [getD_set_same _ _ hk] at hw
    rw [getD_set_other _ _ (Ne.symm hne)] at he
    exact hc w (after_legs _ w hw) j (by omega) hne rfl e he
  · refine (h.mono fun j hj => by cases hj).congr hlen fun j hj hgj => ?_
    have : j ≠ k := fun e => by subst e; rw [upd_same] at hgj; cases hgj
    rw [getD_set_other _ _ (Ne.symm this)]

end Ytghpaejpccpgeaa
end Go.Proofs
