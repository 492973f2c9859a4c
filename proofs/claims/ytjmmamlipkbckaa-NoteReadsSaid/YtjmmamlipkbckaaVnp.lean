/-
  The plain law of the log: what is read is what was written; spoilt logs.
-/
import Derived.Test.YtjmmamlipkbckaaVnm
set_option maxRecDepth 100000
set_option linter.unusedVariables false
set_option linter.unusedSimpArgs false
set_option maxHeartbeats 2000000
namespace Go.Proofs
open Go Go.Vc
namespace Ytjmmamlipkbckaa

theorem take_app (n : Nat) (a rest : List Int) (h : a.length = n) : fTake n (a ++ rest, false) = (fVal a, rest, false) := by
  unfold fTake
  rw [decide_eq_false (by show ¬ (a ++ rest).length < n; rw [List.length_append]; omega), cond_false]
  show (fVal ((a ++ rest).take n), (a ++ rest).drop n, false) = _
  rw [← h, List.take_left, List.drop_left]

theorem take_one {x : Int} (h : 0 ≤ x ∧ x ≤ 255) (rest : List Int) : fTake 1 (fBytes 1 x ++ rest, false) = (x, rest, false) := by
  rw [take_app 1 _ _ (bytes_len 1 x), one_byte]
  have : fVal [x % 256] = x := by
    show (0 : Int) * 256 + x % 256 = x
    omega
  rw [this]

theorem take_two {x : Int} (h : 0 ≤ x ∧ x ≤ 65535) (rest : List Int) : fTake 2 (fBytes 2 x ++ rest, false) = (x, rest, false) := by
  rw [take_app 2 _ _ (bytes_len 2 x), two_bytes]
  have : fVal (fTwo x) = x := by
    show ((0 : Int) * 256 + x / 256 % 256) * 256 + x % 256 = x
    omega
  rw [this]

theorem up_read {β : Type} {F : Nat → List β × StD} {g : StD → β × StD} (hF : isUp F g) {enc : β → List Int} {P : β → Prop}
    (hg : ∀ x rest, P x → g (enc x ++ rest, false) = (x, rest, false)) {xs : List β} {rest : List Int} (hP : ∀ x ∈ xs, P x) (h0 : F 0 = ([], xs.flatMap enc ++ rest, false)) :
    ∀ k, k ≤ xs.length → F k = (xs.take k, (xs.drop k).flatMap enc ++ rest, false)
  | 0, _ => by rw [h0]; rfl
  | k + 1, hk => by
    have ih := up_read hF hg hP h0 k (by omega)
    have hs : (F k).2.2 = false := by rw [ih]
    have hd : xs.drop k = xs[k] :: xs.drop (k + 1) := List.drop_eq_getElem_cons (by omega)
    rw [up_step hF hs, ih]
    show (xs.take k ++ [(g ((xs.drop k).flatMap enc ++ rest, false)).1], (g ((xs.drop k).flatMap enc ++ rest, false)).2) = _
    rw [hd, List.flatMap_cons, List.append_assoc, hg _ _ (hP _ (List.getElem_mem _))]
    rw [List.take_succ_eq_append_getElem (by omega)]

theorem up_read_all {β : Type} {F : Nat → List β × StD} {g : StD → β × StD} (hF : isUp F g) {enc : β → List Int} {P : β → Prop}
    (hg : ∀ x rest, P x → g (enc x ++ rest, false) = (x, rest, false)) {xs : List β} {rest : List Int} (hP : ∀ x ∈ xs, P x) (h0 : F 0 = ([], xs.flatMap enc ++ rest, false)) :
    F xs.length = (xs, rest, false) := by
  rw [up_read hF hg hP h0 xs.length (Nat.le_refl _), List.take_length, List.drop_length]
  rfl

theorem row_read {xs : List Int} (hx : ∀ x ∈ xs, 0 ≤ x ∧ x ≤ 2) (rest : List Int) : fRow (xs.flatMap (fBytes 1) ++ rest, false) xs.length = (xs, rest, false) :=
  up_read_all (up_row _) (P := fun x => 0 ≤ x ∧ x ≤ 2) (fun x rest h => take_one ⟨h.1, by omega⟩ rest) hx rfl

theorem trail_read {xs : List PortD} (hx : ∀ x ∈ xs, portOk x) (rest : List Int) : fTrail (fPorts xs ++ rest, false) xs.length = (xs, rest, false) := by
  unfold fPorts
  refine up_read_all (up_trail _) (P := portOk) (fun x rest h => ?_) hx rfl
  obtain ⟨h1, h2⟩ := h
  unfold gTrail
  rw [List.append_assoc, take_one ⟨h1.1, by omega⟩, take_one ⟨h2.1, by omega⟩]

theorem body_read {b : BodyD} (hb : bodyOk b) (rest : List Int) : fBodyR (fBodyLog b ++ rest, false) = (b, rest, false) := by
  obtain ⟨h1, h2, h3, h4, h5, h6⟩ := hb
  obtain ⟨b1, b2, b3, b4, b5⟩ := b
  have h1 : b2.length ≤ 5000 := h1
  have h2 : 1 ≤ b1 ∧ b1 ≤ 4 := h2
  have h3 : 0 ≤ b3 ∧ b3 ≤ 4000 := h3
  have h4 : 0 ≤ b4 ∧ b4 ≤ 4000 := h4
  have h5 : 0 ≤ b5 ∧ b5 ≤ 60 := h5
  unfold fBodyR fV fOver fLeft fTr fMany fMode fBodyLog
  simp only [List.append_assoc]
  rw [take_one ⟨by omega, by omega⟩, take_two ⟨by omega, by omega⟩]
  show (_, _) = _
  simp only [Int.toNat_natCast]
  rw [trail_read h6, take_two ⟨h3.1, by omega⟩, take_two ⟨h4.1, by omega⟩, take_one ⟨h5.1, by omega⟩]

theorem bodies_read {xs : List BodyD} (hx : ∀ x ∈ xs, bodyOk x) (rest : List Int) : fBodies (xs.flatMap fBodyLog ++ rest, false) xs.length = (xs, rest, false) :=
  up_read_all (up_bodies _) (P := bodyOk) (fun x rest h => body_read h rest) hx rfl

theorem note_read {e g t : Nat} {x : NoteD} (h : noteOk e g t x) (rest : List Int) : fNoteR (e : Int) (g : Int) (t : Int) (fNoteLog x ++ rest, false) = (x, rest, false) := by
  obtain ⟨⟨q1, q2, q3⟩, _, h1, h2, h3⟩ := h
  obtain ⟨x1, x2, x3⟩ := x
  have q1 : x1.length = e := q1
  have q2 : x2.length = g := q2
  have q3 : x3.length = t := q3
  subst q1 q2 q3
  unfold fNoteR fNoteLog
  simp only [List.append_assoc, Int.toNat_natCast]
  rw [row_read h1, row_read h2, bodies_read h3]

theorem notes_read {l : List NoteD} (h : fMay l = true) (rest : List Int) : fNotes (fLogBody l ++ rest) = (l, true) := by
  obtain ⟨h1, h2⟩ := may_facts h
  have hfirst : (l.getD 0 zeroN).1.length ≤ 255 ∧ (l.getD 0 zeroN).2.1.length ≤ 255 ∧ (l.getD 0 zeroN).2.2.length ≤ 255 := by
    cases l with
    | nil => exact ⟨Nat.zero_le _, Nat.zero_le _, Nat.zero_le _⟩
    | cons x l =>
      obtain ⟨_, ⟨q1, q2, q3⟩, _⟩ := h2 x (by simp)
      show x.1.length ≤ 255 ∧ x.2.1.length ≤ 255 ∧ x.2.2.length ≤ 255
      omega
  generalize hd : l.getD 0 zeroN = d at *
  obtain ⟨f1, f2, f3⟩ := hfirst
  have e0 : fH0 (fLogBody l ++ rest) = (fBytes 1 (d.1.length : Int) ++ (fBytes 1 (d.2.1.length : Int) ++ (fBytes 1 (d.2.2.length : Int) ++ (fBytes 2 (l.length : Int) ++ (l.flatMap fNoteLog ++ rest)))), false) := by
    unfold fH0 fLogBody fHead
    rw [hd]
    simp only [List.append_assoc]
    rw [take_app 3 [83, 69, 77] _ rfl]
  have e1 : fH1 (fLogBody l ++ rest) = ((d.1.length : Int), fBytes 1 (d.2.1.length : Int) ++ (fBytes 1 (d.2.2.length : Int) ++ (fBytes 2 (l.length : Int) ++ (l.flatMap fNoteLog ++ rest))), false) := by
    unfold fH1
    rw [e0, take_one ⟨by omega, by omega⟩]
  have e2 : fH2 (fLogBody l ++ rest) = ((d.2.1.length : Int), fBytes 1 (d.2.2.length : Int) ++ (fBytes 2 (l.length : Int) ++ (l.flatMap fNoteLog ++ rest)), false) := by
    unfold fH2
    rw [e1, take_one ⟨by omega, by omega⟩]
  have e3 : fH3 (fLogBody l ++ rest) = ((d.2.2.length : Int), fBytes 2 (l.length : Int) ++ (l.flatMap fNoteLog ++ rest), false) := by
    unfold fH3
    rw [e2, take_one ⟨by omega, by omega⟩]
  have e4 : fH4 (fLogBody l ++ rest) = ((l.length : Int), l.flatMap fNoteLog ++ rest, false) := by
    unfold fH4
    rw [e3, take_two ⟨by omega, by omega⟩]
  unfold fNotes fNotesAll
  rw [e1, e2, e3, e4]
  simp only [Int.toNat_natCast]
  rw [up_read_all (up_notes (d.1.length : Int) (d.2.1.length : Int) (d.2.2.length : Int) (l.flatMap fNoteLog ++ rest, false)) (P := noteOk d.1.length d.2.1.length d.2.2.length) (fun x rest h => note_read h rest) h2 rfl]
  rfl

theorem log_pos {l : List NoteD} (h : fMay l = true) : 12 ≤ (fLog l).length := by
  rw [log_eq h, List.length_append, bytes_len]
  unfold fLogBody
  rw [List.length_append, head_len]
  omega

theorem notes_log {l : List NoteD} (h : fMay l = true) (rest : List Int) : fNotes (fLog l ++ rest) = (l, true) := by
  rw [log_eq h, List.append_assoc]
  exact notes_read h _

theorem read_log {l : List NoteD} (h : fMay l = true) : fRead (fLog l) = (l, 0) := by
  have hn := notes_log h []
  rw [List.append_nil] at hn
  have hp := log_pos h
  unfold fRead
  rw [hn]
  simp only [beq_self_eq_true, Bool.and_true, Bool.true_and]
  rw [decide_eq_false (by omega)]
  rfl

/-- What is read is a log, and of notes that may be. -/
theorem read_cases (b : List Int) : (∃ m, fRead b = (m, 0) ∧ fMay m = true ∧ fLog m = b) ∨ fRead b = ([], 2) := by
  unfold fRead
  cases h : ((fNotes b).2 && (!decide (b.length = 0) && (fLog (fNotes b).1 == b))) with
  | false => exact .inr rfl
  | true =>
    rw [Bool.and_eq_true, Bool.and_eq_true] at h
    obtain ⟨_, h2, h3⟩ := h
    have h3 := eq_of_beq h3
    refine .inl ⟨_, rfl, ?_, h3⟩
    cases hm : fMay (fNotes b).1 with
    | true => rfl
    | false =>
      rw [log_none hm] at h3
      rw [← h3] at h2
      cases h2

theorem log_inj {a b : List NoteD} (ha : fMay a = true) (hb : fMay b = true) (h : fLog a = fLog b) : a = b := by
  have h1 := notes_log ha []
  rw [h, notes_log hb []] at h1
  exact (congrArg Prod.fst h1).symm

/-! ### Bytes -/

theorem bytes_bytes : ∀ (s : Nat) (x : Int), bytesOk (fBytes s x)
  | 0, _ => fun y hy => by cases hy
  | s + 1, x => fun y hy => by
    rcases List.mem_cons.1 hy with rfl | hy
    · have := Int.emod_nonneg (x / 256 ^ s) (by decide : (256 : Int) ≠ 0)
      have := Int.emod_lt_of_pos (x / 256 ^ s) (by decide : (0 : Int) < 256)
      omega
    · exact bytes_bytes s x y hy

theorem app_bytes {a b : List Int} (ha : bytesOk a) (hb : bytesOk b) : bytesOk (a ++ b) := fun x hx => by
  rcases List.mem_append.1 hx with h | h
  · exact ha x h
  · exact hb x h

theorem flat_bytes {α : Type} {f : α → List Int} (hf : ∀ x, bytesOk (f x)) (l : List α) : bytesOk (l.flatMap f) := fun y hy => by
  obtain ⟨x, _, h⟩ := List.mem_flatMap.1 hy
  exact hf x y h

theorem ports_bytes (l : List PortD) : bytesOk (fPorts l) := by
  unfold fPorts
  exact flat_bytes (fun h => app_bytes (bytes_bytes _ _) (bytes_bytes _ _)) l

theorem bodyLog_bytes (b : BodyD) : bytesOk (fBodyLog b) := by
  unfold fBodyLog
  exact app_bytes (app_bytes (app_bytes (app_bytes (bytes_bytes _ _) (bytes_bytes _ _)) (ports_bytes _)) (app_bytes (bytes_bytes _ _) (bytes_bytes _ _))) (bytes_bytes _ _)

theorem noteLog_bytes (x : NoteD) : bytesOk (fNoteLog x) := by
  unfold fNoteLog
  exact app_bytes (app_bytes (flat_bytes (bytes_bytes 1) _) (flat_bytes (bytes_bytes 1) _)) (flat_bytes bodyLog_bytes _)

theorem head_bytes (l : List NoteD) : bytesOk (fHead l) := by
  unfold fHead
  refine app_bytes (app_bytes (fun x hx => ?_) (app_bytes (app_bytes (bytes_bytes _ _) (bytes_bytes _ _)) (bytes_bytes _ _))) (bytes_bytes _ _)
  simp only [List.mem_cons, List.not_mem_nil, or_false] at hx
  omega

theorem logBody_bytes (l : List NoteD) : bytesOk (fLogBody l) := by
  unfold fLogBody
  exact app_bytes (head_bytes l) (flat_bytes noteLog_bytes l)

theorem log_bytes (l : List NoteD) : bytesOk (fLog l) := by
  cases h : fMay l with
  | true => rw [log_eq h]; exact app_bytes (logBody_bytes l) (bytes_bytes _ _)
  | false => rw [log_none h]; intro x hx; cases hx

theorem map_inj : ∀ {a b : List Int}, bytesOk a → bytesOk b → a.map (fun n => UInt8.ofNat n.toNat) = b.map (fun n => UInt8.ofNat n.toNat) → a = b
  | [], [], _, _, _ => rfl
  | [], _ :: _, _, _, h => by simp at h
  | _ :: _, [], _, _, h => by simp at h
  | x :: a, y :: b, ha, hb, h => by
    rw [List.map_cons, List.map_cons, List.cons.injEq] at h
    have hx := ha x (by simp)
    have hy := hb y (by simp)
    have h1 := congrArg UInt8.toNat h.1
    rw [UInt8.toNat_ofNat', UInt8.toNat_ofNat', Nat.mod_eq_of_lt (by omega), Nat.mod_eq_of_lt (by omega)] at h1
    have : x = y := by omega
    rw [this, map_inj (fun z hz => ha z (List.mem_cons_of_mem _ hz)) (fun z hz => hb z (List.mem_cons_of_mem _ hz)) h.2]

theorem map_beq {a b : List Int} (ha : bytesOk a) (hb : bytesOk b) : (a.map (fun n => UInt8.ofNat n.toNat) == b.map (fun n => UInt8.ofNat n.toNat)) = (a == b) := by
  cases h : (a == b) with
  | true => rw [eq_of_beq h]; simp
  | false =>
    rw [beq_eq_false_iff_ne] at h ⊢
    exact fun e => h (map_inj ha hb e)

/-! ### Spoilt logs -/

theorem four_inj {a b : Int} (ha : 0 ≤ a ∧ a < 4294967296) (hb : 0 ≤ b ∧ b < 4294967296) (h : fBytes 4 a = fBytes 4 b) : a = b := by
  rw [four_bytes, four_bytes] at h
  unfold fFour at h
  simp only [List.cons.injEq, and_true] at h
  omega

theorem sum_set (b : List Int) (k : Nat) (c : Int) : ∀ s, s ≤ b.length → (fSumUp (b.set k c) s - fSumUp b s - (if k < s then (c - b.getD k 0) * (2 * (k : Int) + 1) else 0)) % 4294967296 = 0
  | 0, _ => by simp [fSumUp]
  | s + 1, hs => by
    have ih := sum_set b k c s (by omega)
    show ((fSumUp (b.set k c) s + (b.set k c).getD s 0 * (2 * (s : Int) + 1)) % 4294967296 - (fSumUp b s + b.getD s 0 * (2 * (s : Int) + 1)) % 4294967296 - _) % 4294967296 = 0
    by_cases h : k = s
    · subst h
      have e1 : (b.set k c).getD k 0 = c := by rw [getD_at 0 (by rw [List.length_set]; omega), List.getElem_set_self]
      rw [e1]
      rw [if_neg (by omega)] at ih
      rw [if_pos (by omega), Int.sub_mul]
      generalize c * (2 * (k : Int) + 1) = p at *
      generalize b.getD k 0 * (2 * (k : Int) + 1) = q at *
      omega
    · have e1 : (b.set k c).getD s 0 = b.getD s 0 := by
        rw [getD_at 0 (by rw [List.length_set]; omega), getD_at 0 (by omega), List.getElem_set_ne h]
      rw [e1]
      have e2 : (k < s + 1) = (k < s) := by rw [eq_iff_iff]; omega
      simp only [e2]
      generalize (if k < s then (c - b.getD k 0) * (2 * (k : Int) + 1) else 0) = r at *
      generalize b.getD s 0 * (2 * (s : Int) + 1) = q at *
      omega

theorem odd_cancel : ∀ (n : Nat) (d : Int) (k : Int), (2 : Int) ^ n ∣ d * (2 * k + 1) → (2 : Int) ^ n ∣ d
  | 0, d, _, _ => by simp
  | n + 1, d, k, h => by
    have h2 : (2 : Int) ∣ d * (2 * k + 1) := Int.dvd_trans ⟨2 ^ n, by rw [Int.pow_succ, Int.mul_comm]⟩ h
    have hd : (2 : Int) ∣ d := by
      have e : d * (2 * k + 1) = 2 * (d * k) + d := by rw [Int.mul_add, Int.mul_one, Int.mul_left_comm]
      rw [e] at h2
      omega
    obtain ⟨d', rfl⟩ := hd
    have h3 : (2 : Int) ^ n ∣ d' * (2 * k + 1) := by
      obtain ⟨q, hq⟩ := h
      rw [Int.pow_succ, Int.mul_comm (2 ^ n) 2, Int.mul_assoc, Int.mul_assoc] at hq
      exact ⟨q, Int.eq_of_mul_eq_mul_left (by decide) hq⟩
    have := odd_cancel n d' k h3
    rw [Int.pow_succ, Int.mul_comm]
    exact Int.mul_dvd_mul_left 2 this

theorem sum_differs {b : List Int} (hb : bytesOk b) {k : Nat} (hk : k < b.length) {c : Int} (hc : 0 ≤ c ∧ c ≤ 255) (hne : c ≠ b.getD k 0) : fSum (b.set k c) ≠ fSum b := by
  intro h
  have hs := sum_set b k c b.length (Nat.le_refl _)
  unfold fSum at h
  rw [List.length_set] at h
  rw [h, if_pos hk] at hs
  have hy := hb _ (mem_getD 0 hk)
  have hd : (2 : Int) ^ 32 ∣ (c - b.getD k 0) * (2 * (k : Int) + 1) := by
    have e : (2 : Int) ^ 32 = 4294967296 := by decide
    rw [e]
    generalize (c - b.getD k 0) * (2 * (k : Int) + 1) = p at *
    omega
  have := odd_cancel 32 _ _ hd
  have e : (2 : Int) ^ 32 = 4294967296 := by decide
  rw [e] at this
  omega

theorem read_err {b : List Int} (h : ¬ ∃ m, fMay m = true ∧ fLog m = b) : fRead b = ([], 2) := by
  rcases read_cases b with ⟨m, _, h1, h2⟩ | h'
  · exact absurd ⟨m, h1, h2⟩ h
  · exact h'

theorem spoilt {l : List NoteD} (hl : fMay l = true) {k : Nat} (hk : k < (fLog l).length) {c : Int} (hc : 0 ≤ c ∧ c ≤ 255) (hne : c ≠ (fLog l).getD k 0) : fRead ((fLog l).set k c) = ([], 2) := by
  apply read_err
  rintro ⟨m, hm, h⟩
  have h0 := h
  rw [log_eq hl, log_eq hm] at h
  have hlen := congrArg List.length h
  rw [List.length_set, List.length_append, List.length_append, bytes_len, bytes_len] at hlen
  have hlen : (fLogBody m).length = (fLogBody l).length := by omega
  rw [List.set_append] at h
  by_cases hkb : k < (fLogBody l).length
  · rw [if_pos hkb] at h
    obtain ⟨h1, h2⟩ := List.append_inj h (by rw [List.length_set, hlen])
    have h3 := four_inj (sum_range _ _) (sum_range _ _) h2
    rw [h1] at h3
    have e : (fLog l).getD k 0 = (fLogBody l).getD k 0 := by
      simp only [log_eq hl, List.getD_eq_getElem?_getD]
      rw [List.getElem?_append_left hkb]
    rw [e] at hne
    exact sum_differs (logBody_bytes l) hkb hc hne h3
  · rw [if_neg hkb] at h
    obtain ⟨h1, h2⟩ := List.append_inj h hlen
    rw [h1] at h2
    have h4 : (fLog l).set k c = fLog l := by
      rw [← h0, log_eq hl, log_eq hm, h1]
    have h5 : ((fLog l).set k c).getD k 0 = (fLog l).getD k 0 := by rw [h4]
    rw [getD_at 0 (by rw [List.length_set]; exact hk), List.getElem_set_self] at h5
    exact hne h5

theorem cut_short {l : List NoteD} (hl : fMay l = true) {k : Nat} (hk : k < (fLog l).length) : fRead ((fLog l).take k) = ([], 2) := by
  apply read_err
  rintro ⟨m, hm, h⟩
  have h1 := notes_log hm ((fLog l).drop k)
  rw [h, List.take_append_drop] at h1
  have h2 := notes_log hl []
  rw [List.append_nil, h1] at h2
  have h3 : m = l := congrArg Prod.fst h2
  rw [h3] at h
  have := congrArg List.length h
  rw [List.length_take] at this
  omega

theorem made_long {l : List NoteD} (hl : fMay l = true) {more : List Int} (hk : 0 < more.length) : fRead (fLog l ++ more) = ([], 2) := by
  apply read_err
  rintro ⟨m, hm, h⟩
  have h1 := notes_log hl more
  rw [← h] at h1
  have h2 := notes_log hm []
  rw [List.append_nil, h1] at h2
  have h3 : l = m := congrArg Prod.fst h2
  rw [← h3] at h
  have := congrArg List.length h
  rw [List.length_append] at this
  omega

end Ytjmmamlipkbckaa
end Go.Proofs
