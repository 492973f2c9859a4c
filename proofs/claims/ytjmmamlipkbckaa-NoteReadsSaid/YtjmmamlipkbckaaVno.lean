/-
  Plain facts of the log: how long it is, what notes that may be are.
-/
import Derived.Test.YtjmmamlipkbckaaVnh
import Derived.Test.YtjmmamlipkbckaaVni
import Derived.Test.YtjmmamlipkbckaaVnk
set_option maxRecDepth 100000
set_option linter.unusedVariables false
set_option linter.unusedSimpArgs false
set_option maxHeartbeats 1000000
namespace Go.Proofs
open Go Go.Vc
namespace Ytjmmamlipkbckaa

def portOk (h : PortD) : Prop := (0 ≤ h.1 ∧ h.1 ≤ 39) ∧ 0 ≤ h.2 ∧ h.2 ≤ 3
def bodyOk (b : BodyD) : Prop := b.2.1.length ≤ 5000 ∧ (1 ≤ b.1 ∧ b.1 ≤ 4) ∧ (0 ≤ b.2.2.1 ∧ b.2.2.1 ≤ 4000) ∧ (0 ≤ b.2.2.2.1 ∧ b.2.2.2.1 ≤ 4000) ∧ (0 ≤ b.2.2.2.2 ∧ b.2.2.2.2 ≤ 60) ∧ ∀ h ∈ b.2.1, portOk h
def noteOk (e g t : Nat) (x : NoteD) : Prop := (x.1.length = e ∧ x.2.1.length = g ∧ x.2.2.length = t) ∧ (x.1.length ≤ 40 ∧ x.2.1.length ≤ 24 ∧ x.2.2.length ≤ 8) ∧ (∀ n ∈ x.1, 0 ≤ n ∧ n ≤ 2) ∧ (∀ n ∈ x.2.1, 0 ≤ n ∧ n ≤ 2) ∧ ∀ b ∈ x.2.2, bodyOk b

theorem fIn_true {lo hi n : Int} (h : fIn lo hi n = true) : lo ≤ n ∧ n ≤ hi := by
  unfold fIn at h
  rw [Bool.and_eq_true] at h
  exact ⟨of_decide_eq_true h.1, of_decide_eq_true h.2⟩

theorem body_facts {b : BodyD} (h : fBody b = true) : bodyOk b := by
  unfold fBody at h
  simp only [Bool.and_eq_true, List.all_eq_true] at h
  obtain ⟨h1, h2, h3, h4, h5, h6⟩ := h
  refine ⟨of_decide_eq_true h1, fIn_true h2, fIn_true h3, fIn_true h4, fIn_true h5, fun p hp => ?_⟩
  have := h6 p hp
  unfold fPort at this
  rw [Bool.and_eq_true] at this
  exact ⟨fIn_true this.1, fIn_true this.2⟩

theorem note_facts {d x : NoteD} (h : fNote d x = true) : noteOk d.1.length d.2.1.length d.2.2.length x := by
  unfold fNote at h
  simp only [Bool.and_eq_true, List.all_eq_true] at h
  obtain ⟨h1, h2, h3, h4, h5, h6, h7, h8, h9⟩ := h
  exact ⟨⟨of_decide_eq_true h1, of_decide_eq_true h2, of_decide_eq_true h3⟩, ⟨of_decide_eq_true h4, of_decide_eq_true h5, of_decide_eq_true h6⟩, fun n hn => fIn_true (h7 n hn), fun n hn => fIn_true (h8 n hn), fun b hb => body_facts (h9 b hb)⟩

theorem may_facts {l : List NoteD} (h : fMay l = true) : l.length ≤ 2001 ∧ ∀ x ∈ l, noteOk (l.getD 0 zeroN).1.length (l.getD 0 zeroN).2.1.length (l.getD 0 zeroN).2.2.length x := by
  unfold fMay at h
  simp only [Bool.and_eq_true, List.all_eq_true] at h
  exact ⟨of_decide_eq_true h.1, fun x hx => note_facts (h.2 x hx)⟩

theorem may_short {l : List NoteD} (h : fMay l = true) : shortL l := by
  obtain ⟨h1, h2⟩ := may_facts h
  refine ⟨by show l.length ≤ 1000000; omega, fun x hx => ?_⟩
  obtain ⟨_, ⟨q1, q2, q3⟩, _, _, q4⟩ := h2 x hx
  refine ⟨by show x.1.length ≤ 1000000; omega, by show x.2.1.length ≤ 1000000; omega, by show x.2.2.length ≤ 1000000; omega, fun b hb => ?_⟩
  have := (q4 b hb).1
  show b.2.1.length ≤ 1000000
  omega

/-! ### How long -/

theorem flatMap_len {α : Type} (f : α → List Int) (B : Nat) : ∀ (l : List α), (∀ x ∈ l, (f x).length ≤ B) → (l.flatMap f).length ≤ l.length * B
  | [], _ => by simp
  | x :: l, h => by
    rw [List.flatMap_cons, List.length_append, List.length_cons, Nat.succ_mul]
    have h1 := h x (by simp)
    have h2 := flatMap_len f B l fun y hy => h y (List.mem_cons_of_mem _ hy)
    omega

theorem ports_len (l : List PortD) : (fPorts l).length = 2 * l.length := by
  unfold fPorts
  induction l with
  | nil => rfl
  | cons x l ih => rw [List.flatMap_cons, List.length_append, ih, List.length_append, bytes_len, bytes_len, List.length_cons]; omega

theorem bodyLog_len (b : BodyD) : (fBodyLog b).length = 8 + 2 * b.2.1.length := by
  unfold fBodyLog
  simp only [List.length_append, bytes_len, ports_len]
  omega

theorem head_len (l : List NoteD) : (fHead l).length = 8 := by
  unfold fHead
  simp only [List.length_append, bytes_len]
  rfl

theorem noteLog_len {e g t : Nat} {x : NoteD} (h : noteOk e g t x) : (fNoteLog x).length ≤ 80128 := by
  obtain ⟨_, ⟨q1, q2, q3⟩, _, _, q4⟩ := h
  unfold fNoteLog
  have hb := flatMap_len fBodyLog 10008 x.2.2 fun b hb => by rw [bodyLog_len]; have := (q4 b hb).1; omega
  have : x.2.2.length * 10008 ≤ 8 * 10008 := Nat.mul_le_mul_right _ q3
  simp only [List.length_append, flat_len]
  omega

theorem logUp_len {l : List NoteD} (h : fMay l = true) (k : Nat) : (fHead l ++ (l.take k).flatMap fNoteLog).length ≤ 161000000 := by
  obtain ⟨h1, h2⟩ := may_facts h
  have hb := flatMap_len fNoteLog 80128 (l.take k) fun x hx => noteLog_len (h2 x (List.mem_of_mem_take hx))
  have hk : (l.take k).length ≤ 2001 := by rw [List.length_take]; omega
  have : (l.take k).length * 80128 ≤ 2001 * 80128 := Nat.mul_le_mul_right _ hk
  rw [List.length_append, head_len]
  omega

theorem logBody_len {l : List NoteD} (h : fMay l = true) : (fLogBody l).length ≤ 161000000 := by
  have := logUp_len h l.length
  rw [List.take_length] at this
  unfold fLogBody
  exact this

theorem log_eq {l : List NoteD} (h : fMay l = true) : fLog l = fLogBody l ++ fBytes 4 (fSum (fLogBody l)) := by
  unfold fLog
  rw [h]
  rfl

theorem log_none {l : List NoteD} (h : fMay l = false) : fLog l = [] := by
  unfold fLog
  rw [h]
  rfl

theorem log_len (l : List NoteD) : (fLog l).length ≤ 200000000 := by
  cases h : fMay l with
  | false => rw [log_none h]; simp
  | true =>
    rw [log_eq h, List.length_append, bytes_len]
    have := logBody_len h
    omega

/-! ### One more -/

theorem flat_succ {α : Type} (f : α → List Int) {l : List α} {s : Nat} (d : α) (h : s < l.length) : (l.take (s + 1)).flatMap f = (l.take s).flatMap f ++ f (l.getD s d) := by
  rw [take_succ' d h, List.flatMap_append]
  simp

theorem ports_succ {l : List PortD} {s : Nat} (d : PortD) (h : s < l.length) : fPorts (l.take (s + 1)) = fPorts (l.take s) ++ (fBytes 1 (l.getD s d).1 ++ fBytes 1 (l.getD s d).2) := by
  unfold fPorts
  exact flat_succ _ d h

theorem ports_nil : fPorts [] = [] := by unfold fPorts; rfl

theorem one_byte (n : Int) : fBytes 1 n = [n % 256] := by
  show [n / 256 ^ 0 % 256] = _
  simp

theorem two_bytes (n : Int) : fBytes 2 n = fTwo n := by
  show [n / 256 ^ 1 % 256, n / 256 ^ 0 % 256] = [n / 256 % 256, n % 256]
  simp

theorem four_bytes (n : Int) : fBytes 4 n = fFour n := by
  show [n / 256 ^ 3 % 256, n / 256 ^ 2 % 256, n / 256 ^ 1 % 256, n / 256 ^ 0 % 256] = [n / 16777216 % 256, n / 65536 % 256, n / 256 % 256, n % 256]
  simp

theorem head_nil : fHead [] = [83, 69, 77, 0, 0, 0, 0, 0] := by
  unfold fHead
  rfl

end Ytjmmamlipkbckaa
end Go.Proofs
