/-
  Sums, two, take, row, put: written out and proved.
-/
import Derived.Test.YtjmmamlipkbckaaVng
import Derived.Test.YtjmmamlipkbckaaVnc
set_option maxRecDepth 100000
set_option linter.unusedVariables false
set_option linter.unusedSimpArgs false
set_option maxHeartbeats 1000000
namespace Go.Proofs
open Go Go.Vc
namespace Ytjmmamlipkbckaa

theorem roomB {n b : Nat} (h : n ≤ 2000000000) (hb : b ≤ 1000) : roomFor n b := by
  unfold roomFor
  have : n * (b + 1) ≤ 2000000000 * 1001 := Nat.mul_le_mul h (by omega)
  omega

theorem inRB {n : Int} (h1 : -1000000000000 ≤ n) (h2 : n ≤ 1000000000000) : InR .i64 n := inR64 h1 h2

/-! ### Sums -/

theorem wrap_u32 (n : Int) : IntKind.u32.wrap n = n % 4294967296 := by simp [IntKind.wrap, IntKind.bits, IntKind.signed]

theorem sum_step (b : List Int) (s : Nat) : IntKind.u32.wrap (fSumUp b s + IntKind.u32.wrap (b.getD s 0 * IntKind.u32.wrap (2 * (s : Int) + 1))) = fSumUp b (s + 1) := by
  show _ = (fSumUp b s + b.getD s 0 * (2 * (s : Int) + 1)) % 4294967296
  rw [wrap_u32, wrap_u32, wrap_u32]
  rw [Int.add_emod, Int.emod_emod, Int.mul_emod, Int.emod_emod, ← Int.mul_emod, ← Int.add_emod]

theorem sum_range (b : List Int) : ∀ s, 0 ≤ fSumUp b s ∧ fSumUp b s < 4294967296
  | 0 => by show (0 : Int) ≤ 0 ∧ (0 : Int) < 4294967296; omega
  | s + 1 => by
    show 0 ≤ (_ : Int) % 4294967296 ∧ (_ : Int) % 4294967296 < 4294967296
    exact ⟨Int.emod_nonneg _ (by decide), Int.emod_lt_of_pos _ (by decide)⟩

theorem v17 (b : List Int) : bodyVC (ctxOf tab []) Try.f17 c17 (a17 (b, ())) (b, ()) = (
(∃ (s01 : Nat), s01 ≤ b.length ∧ fSumUp b s01 = (0 : Int) ∧ (↑s01 : Int) = (0 : Int) ∧ b = b ∧ (↑b.length : Int) = (↑b.length : Int) ∧ True) ∧
∀ (s1 : Nat),
lett (decide ((↑s1 : Int) < (↑b.length : Int))) fun (y2 : Bool) =>
lett ((2 : Int) * (↑s1 : Int) + (1 : Int)) fun (y3 : Int) =>
s1 ≤ b.length →
(y2 = true →
InB (↑s1 : Int) b.length ∧
InR IntKind.i64 ((2 : Int) * (↑s1 : Int)) ∧
InR IntKind.i64 y3 ∧
InR IntKind.i64 ((↑s1 : Int) + (1 : Int)) ∧
∃ (s'4 : Nat),
s'4 ≤ b.length ∧
b.length - s'4 < b.length - s1 ∧
fSumUp b s'4 = IntKind.u32.wrap (fSumUp b s1 + IntKind.u32.wrap (b.getD (↑s1 : Int).toNat (0 : Int) * IntKind.u32.wrap y3)) ∧
(↑s'4 : Int) = (↑s1 : Int) + (1 : Int) ∧ b = b ∧ (↑b.length : Int) = (↑b.length : Int) ∧ True) ∧
(y2 = false → fSumUp b s1 = fSum b ∧ True)) := by kernel_rfl

theorem b17 (b : List Int) (hb : b.length ≤ 1000000000) : bodyVC (ctxOf tab []) Try.f17 c17 (a17 (b, ())) (b, ()) := by
  rw [v17]
  simp only [true_and, and_true, Int.toNat_natCast]
  refine ⟨⟨0, by omega, rfl, rfl⟩, fun s => lett.mk fun y2 e2 => lett.mk fun y3 e3 => ?_⟩
  intro hs
  refine ⟨fun h2 => ?_, fun h2 => ?_⟩
  · have hlt := lt_of_y e2 h2
    refine ⟨⟨by omega, by omega⟩, inRB (by omega) (by omega), inRB (by omega) (by omega), inRB (by omega) (by omega), s + 1, by omega, by omega, ?_, by omega⟩
    rw [e3, sum_step]
  · have hle := le_of_y e2 h2
    have : s = b.length := by omega
    subst this
    rfl

theorem ok17 : DOk Try.prog 17 c17 :=
  DOk.of' (l := []) (A := a17) tabOk trivial Try.func17 (by kernel_rfl) (by kernel_rfl) fun x _ hp => b17 x.1 hp

theorem v25 (b : List Int) : obodyVC (ctxOf tab []) Try.f25 c25 (a25 (b, ())) (b, ()) = (
(∃ (s01 : Nat), s01 ≤ b.length ∧ fSumUp b s01 = (0 : Int) ∧ (↑s01 : Int) = (0 : Int) ∧ (↑b.length : Int) = (↑b.length : Int) ∧ b = b ∧ True) ∧
∀ (s1 : Nat),
lett (decide ((↑s1 : Int) < (↑b.length : Int))) fun (y2 : Bool) =>
lett ((2 : Int) * (↑s1 : Int) + (1 : Int)) fun (y3 : Int) =>
lett
(((((List.replicate (4 : Nat) (0 : Int)).set (0 : Nat) (IntKind.u8.wrap ((fSumUp b s1).fdiv ((2 : Int) ^ min (Int.toNat (24 : Int)) IntKind.u32.bits)))).set (1 : Nat)
(IntKind.u8.wrap ((fSumUp b s1).fdiv ((2 : Int) ^ min (Int.toNat (16 : Int)) IntKind.u32.bits)))).set
(2 : Nat) (IntKind.u8.wrap ((fSumUp b s1).fdiv ((2 : Int) ^ min (Int.toNat (8 : Int)) IntKind.u32.bits)))).set
(3 : Nat) (IntKind.u8.wrap (fSumUp b s1)))
fun (y4 : List Int) =>
s1 ≤ b.length →
(y2 = true →
InB (↑s1 : Int) b.length ∧
InR IntKind.i64 ((2 : Int) * (↑s1 : Int)) ∧
InR IntKind.i64 y3 ∧
InR IntKind.i64 ((↑s1 : Int) + (1 : Int)) ∧
∃ (s'5 : Nat),
s'5 ≤ b.length ∧
b.length - s'5 < b.length - s1 ∧
fSumUp b s'5 = IntKind.u32.wrap (fSumUp b s1 + IntKind.u32.wrap (b.getD (↑s1 : Int).toNat (0 : Int) * IntKind.u32.wrap y3)) ∧
(↑s'5 : Int) = (↑s1 : Int) + (1 : Int) ∧ (↑b.length : Int) = (↑b.length : Int) ∧ b = b ∧ True) ∧
(y2 = false → (0 : Int) ≤ (24 : Int) ∧ (0 : Int) ≤ (16 : Int) ∧ (0 : Int) ≤ (8 : Int) ∧ roomFor (b.length + y4.length) (1 : Nat) ∧ b ++ y4 = b ++ fFour (fSum b) ∧ True)) := by kernel_rfl

theorem four_eq {n : Int} (h : 0 ≤ n ∧ n < 4294967296) :
    (((((List.replicate (4 : Nat) (0 : Int)).set (0 : Nat) (IntKind.u8.wrap (n.fdiv ((2 : Int) ^ min (Int.toNat (24 : Int)) IntKind.u32.bits)))).set (1 : Nat) (IntKind.u8.wrap (n.fdiv ((2 : Int) ^ min (Int.toNat (16 : Int)) IntKind.u32.bits)))).set (2 : Nat) (IntKind.u8.wrap (n.fdiv ((2 : Int) ^ min (Int.toNat (8 : Int)) IntKind.u32.bits)))).set (3 : Nat) (IntKind.u8.wrap n)) = fFour n := by
  have e24 : ((2 : Int) ^ min (Int.toNat (24 : Int)) IntKind.u32.bits) = 16777216 := by decide
  have e16 : ((2 : Int) ^ min (Int.toNat (16 : Int)) IntKind.u32.bits) = 65536 := by decide
  have e8 : ((2 : Int) ^ min (Int.toNat (8 : Int)) IntKind.u32.bits) = 256 := by decide
  rw [e24, e16, e8, IntKind.wrap_u8, IntKind.wrap_u8, IntKind.wrap_u8, IntKind.wrap_u8, Int.fdiv_eq_ediv_of_nonneg _ (by omega), Int.fdiv_eq_ediv_of_nonneg _ (by omega), Int.fdiv_eq_ediv_of_nonneg _ (by omega)]
  rfl

theorem b25 (b : List Int) (hb : b.length ≤ 1000000000) : obodyVC (ctxOf tab []) Try.f25 c25 (a25 (b, ())) (b, ()) := by
  rw [v25]
  simp only [true_and, and_true, Int.toNat_natCast]
  refine ⟨⟨0, by omega, rfl, rfl⟩, fun s => lett.mk fun y2 e2 => lett.mk fun y3 e3 => lett.mk fun y4 e4 => ?_⟩
  intro hs
  refine ⟨fun h2 => ?_, fun h2 => ?_⟩
  · have hlt := lt_of_y e2 h2
    refine ⟨⟨by omega, by omega⟩, inRB (by omega) (by omega), inRB (by omega) (by omega), inRB (by omega) (by omega), s + 1, by omega, by omega, ?_, by omega⟩
    rw [e3, sum_step]
  · have hle := le_of_y e2 h2
    have : s = b.length := by omega
    subst this
    have e4 : y4 = fFour (fSum b) := e4.trans (four_eq (sum_range b _))
    rw [e4]
    exact ⟨by omega, by omega, by omega, roomB (by simp [fFour]; omega) (by omega), rfl⟩

theorem ok25 : OOk Try.prog 25 c25 :=
  OOk.of' (l := []) (A := a25) tabOk trivial Try.func25 (by kernel_rfl) (by kernel_rfl) fun x hw hp => b25 x.1 hp

theorem v24 (b : List Int) (n : Int) : obodyVC (ctxOf tab []) Try.f24 c24 noAnn (b, n, ()) = (
lett (((List.replicate (2 : Nat) (0 : Int)).set (0 : Nat) (IntKind.u8.wrap (IntKind.i64.wrap (n.tdiv (256 : Int))))).set (1 : Nat) (IntKind.u8.wrap (n.tmod (256 : Int)))) fun (y2 : List Int) =>
(256 : Int) ≠ (0 : Int) ∧ (256 : Int) ≠ (0 : Int) ∧ roomFor (b.length + y2.length) (1 : Nat) ∧ b ++ y2 = b ++ fTwo n ∧ True) := by kernel_rfl

theorem ok24 : OOk Try.prog 24 c24 :=
  OOk.of' (l := []) (A := fun _ => noAnn) tabOk trivial Try.func24 (by kernel_rfl) (by kernel_rfl) fun x hw hp => by
    obtain ⟨b, n, ⟨⟩⟩ := x
    obtain ⟨hp1, hp⟩ := hp
    have hp1 : b.length ≤ 1000000000 := hp1
    have hp : 0 ≤ n := hp
    have hn : InR .i64 n := hw.2.1
    have hn := inR_i64 hn
    rw [v24]
    refine lett.mk fun y2 e2 => ⟨by decide, by decide, roomB (by rw [e2]; simp; omega) (by omega), ?_, trivial⟩
    have e : y2 = fTwo n := by
      rw [e2, Int.tdiv_eq_ediv_of_nonneg hp, Int.tmod_eq_emod_of_nonneg hp, IntWalk.i64_in _ (by omega), IntKind.wrap_u8, IntKind.wrap_u8]
      show [n / 256 % 256, n % 256 % 256] = [n / 256 % 256, n % 256]
      rw [Int.emod_emod]
    rw [e]

/-! ### Taking numbers -/

def bytesOk (b : List Int) : Prop := ∀ x ∈ b, 0 ≤ x ∧ x ≤ 255

theorem fVal_snoc (b : List Int) (c : Int) : fVal (b ++ [c]) = fVal b * 256 + c := by
  unfold fVal
  rw [List.foldl_append]
  rfl

theorem fVal_range : ∀ (n : Nat) (b : List Int), b.length = n → bytesOk b → 0 ≤ fVal b ∧ fVal b < 256 ^ n
  | 0, b, hl, _ => by
    have : b = [] := List.eq_nil_of_length_eq_zero hl
    subst this
    show (0 : Int) ≤ 0 ∧ (0 : Int) < 1
    omega
  | n + 1, b, hl, hb => by
    obtain ⟨b', c, rfl⟩ : ∃ b' c, b = b' ++ [c] := ⟨b.dropLast, b.getLast (by intro e; subst e; simp at hl), (List.dropLast_concat_getLast _).symm⟩
    have hl' : b'.length = n := by simpa using hl
    obtain ⟨h1, h2⟩ := fVal_range n b' hl' fun x hx => hb x (List.mem_append_left _ hx)
    have hc := hb c (by simp)
    rw [fVal_snoc, Int.pow_succ]
    generalize (256 : Int) ^ n = p at *
    omega

theorem pow_le {k : Nat} (h : k ≤ 4) : (256 : Int) ^ k ≤ 4294967296 := by
  match k, h with
  | 0, _ => decide
  | 1, _ => decide
  | 2, _ => decide
  | 3, _ => decide
  | 4, _ => decide

theorem shift_or {x c : Int} (hx : 0 ≤ x ∧ x < 4294967296) (hc : 0 ≤ c ∧ c ≤ 255) : bitsOf BinOp.or IntKind.i64 (IntKind.i64.wrap (x * (2 : Int) ^ min (Int.toNat (8 : Int)) IntKind.i64.bits)) c = x * 256 + c := by
  have e : ((2 : Int) ^ min (Int.toNat (8 : Int)) IntKind.i64.bits) = 256 := by decide
  rw [e, IntWalk.i64_in _ (by omega)]
  obtain ⟨m, rfl⟩ := Int.eq_ofNat_of_zero_le hx.1
  obtain ⟨n, rfl⟩ := Int.eq_ofNat_of_zero_le hc.1
  have em : ((m : Int) * 256) = ((m * 256 : Nat) : Int) := by simp
  rw [em]
  unfold bitsOf
  show IntKind.i64.wrap (((BitVec.ofInt 64 ((m * 256 : Nat) : Int) ||| BitVec.ofInt 64 (n : Int)).toNat : Nat) : Int) = _
  rw [BitVec.ofInt_natCast, BitVec.ofInt_natCast, BitVec.toNat_or, BitVec.toNat_ofNat, BitVec.toNat_ofNat, Nat.mod_eq_of_lt (by omega), Nat.mod_eq_of_lt (by omega)]
  have hor : m * 256 ||| n = m * 256 + n := by
    have := Nat.two_pow_add_eq_or_of_lt (i := 8) (b := n) (by omega) m
    rw [show 2 ^ 8 * m = m * 256 by omega] at this
    exact this.symm
  rw [hor, IntWalk.i64_in _ (by omega)]
  omega

theorem v40 (n : Int) (b : List Int) (short : Bool) : obodyVC (ctxOf tab []) Try.f40 c40 (a40 (n, b, short, ())) (n, b, short, ()) = (
lett (decide ((↑b.length : Int) < n)) fun (y3 : Bool) =>
lett (fTake n.toNat (b, short)) fun (y4 : Int × StD) =>
(y3 = true → (0 : Int) = y4.fst ∧ [] = y4.snd.fst ∧ true = y4.snd.snd ∧ True) ∧
(y3 = false →
((0 : Int) ≤ n ∧ n ≤ (↑b.length : Int)) ∧
(∃ (s05 : Nat),
s05 ≤ n.toNat ∧
fVal (List.take s05 b) = (0 : Int) ∧
(↑s05 : Int) = (0 : Int) ∧
n = n ∧ List.take n.toNat b = List.take n.toNat b ∧ (↑(List.take n.toNat b).length : Int) = (↑(List.take n.toNat b).length : Int) ∧ b = b ∧ short = short ∧ True) ∧
∀ (s5 : Nat),
lett (decide ((↑s5 : Int) < (↑(List.take n.toNat b).length : Int))) fun (y6 : Bool) =>
s5 ≤ n.toNat →
(y6 = true →
InB (↑s5 : Int) (List.take n.toNat b).length ∧
(0 : Int) ≤ (8 : Int) ∧
InR IntKind.i64 ((↑s5 : Int) + (1 : Int)) ∧
∃ (s'7 : Nat),
s'7 ≤ n.toNat ∧
n.toNat - s'7 < n.toNat - s5 ∧
fVal (List.take s'7 b) =
bitsOf BinOp.or IntKind.i64 (IntKind.i64.wrap (fVal (List.take s5 b) * (2 : Int) ^ min (Int.toNat (8 : Int)) IntKind.i64.bits))
((List.take n.toNat b).getD (↑s5 : Int).toNat (0 : Int)) ∧
(↑s'7 : Int) = (↑s5 : Int) + (1 : Int) ∧
n = n ∧
List.take n.toNat b = List.take n.toNat b ∧ (↑(List.take n.toNat b).length : Int) = (↑(List.take n.toNat b).length : Int) ∧ b = b ∧ short = short ∧ True) ∧
(y6 = false → ((0 : Int) ≤ n ∧ n ≤ (↑b.length : Int)) ∧ fVal (List.take s5 b) = y4.fst ∧ List.drop n.toNat b = y4.snd.fst ∧ short = y4.snd.snd ∧ True))) := by kernel_rfl

theorem b40 (n : Int) (b : List Int) (short : Bool) (hb : bytesOk b) (hn : 0 ≤ n ∧ n ≤ 4) : obodyVC (ctxOf tab []) Try.f40 c40 (a40 (n, b, short, ())) (n, b, short, ()) := by
  rw [v40]
  simp only [true_and, and_true, Int.toNat_natCast]
  refine lett.mk fun y3 e3 => lett.mk fun y4 e4 => ⟨fun h3 => ?_, fun h3 => ?_⟩
  · rw [e3] at h3
    have h3 := of_decide_eq_true h3
    unfold fTake at e4
    rw [decide_eq_true (by show b.length < n.toNat; omega)] at e4
    rw [e4]
    exact ⟨rfl, rfl, rfl⟩
  · rw [e3] at h3
    have h3 := of_decide_eq_false h3
    unfold fTake at e4
    rw [decide_eq_false (by show ¬ b.length < n.toNat; omega)] at e4
    have hlen : (b.take n.toNat).length = n.toNat := by simp; omega
    refine ⟨⟨hn.1, by omega⟩, ⟨0, by omega, rfl, rfl⟩, fun s => lett.mk fun y6 e6 => ?_⟩
    intro hs
    refine ⟨fun h6 => ?_, fun h6 => ?_⟩
    · rw [e6, hlen] at h6
      have h6 := of_decide_eq_true h6
      have hsb : s < b.length := by omega
      have hg : (b.take n.toNat).getD s 0 = b.getD s 0 := by
        rw [getD_at 0 (by omega), getD_at 0 hsb, List.getElem_take]
      refine ⟨⟨by omega, by omega⟩, by omega, inRB (by omega) (by omega), s + 1, by omega, by omega, ?_, by omega⟩
      have hr := fVal_range s (b.take s) (by simp; omega) fun x hx => hb x (List.mem_of_mem_take hx)
      have hp := pow_le (k := s) (by omega)
      rw [hg, shift_or ⟨hr.1, by omega⟩ (hb _ (mem_getD 0 hsb)), take_succ' 0 hsb, fVal_snoc]
    · rw [e6, hlen] at h6
      have h6 := of_decide_eq_false h6
      have : s = n.toNat := by omega
      subst this
      rw [e4]
      exact ⟨⟨hn.1, by omega⟩, rfl, rfl, rfl⟩

theorem bytes_wf {b : List Int} (h : (Ty.list U8).wf b) : bytesOk b := fun x hx => inR_u8 (h.2 x hx)

theorem ok40 : OOk Try.prog 40 c40 :=
  OOk.of' (l := []) (A := a40) tabOk trivial Try.func40 (by kernel_rfl) (by kernel_rfl) fun x hw hp => b40 x.1 x.2.1 x.2.2.1 (bytes_wf hw.2.1) hp

theorem v41 (n : Int) (st : List Int × Bool × Unit) : obodyVC (ctxOf tab [(40, c40)]) Try.f41 c41 (a41 (n, st, ())) (n, st, ()) = (
lett (st.fst, st.snd.fst) fun (y2 : List Int × Bool) =>
(∃ (s03 : Nat), s03 ≤ n.toNat ∧ (↑s03 : Int) = (0 : Int) ∧ n = n ∧ (fRow y2 s03).fst = [] ∧ (fRow y2 s03).snd.fst = st.fst ∧ (fRow y2 s03).snd.snd = st.snd.fst ∧ True) ∧
∀ (s3 : Nat),
lett (bif decide ((↑s3 : Int) < n) then !(fRow y2 s3).snd.snd else false) fun (y4 : Bool) =>
lett (fTake (Int.toNat (1 : Int)) (fRow y2 s3).snd) fun (y5 : Int × StD) =>
lett ((List.replicate (1 : Nat) (0 : Int)).set (0 : Nat) y5.fst) fun (y6 : List Int) =>
s3 ≤ n.toNat →
(y4 = true →
((0 : Int) ≤ (1 : Int) ∧ (1 : Int) ≤ (4 : Int)) ∧
roomFor ((fRow y2 s3).fst.length + y6.length) (8 : Nat) ∧
InR IntKind.i64 ((↑s3 : Int) + (1 : Int)) ∧
∃ (s'7 : Nat),
s'7 ≤ n.toNat ∧
n.toNat - s'7 < n.toNat - s3 ∧
(↑s'7 : Int) = (↑s3 : Int) + (1 : Int) ∧
n = n ∧ (fRow y2 s'7).fst = (fRow y2 s3).fst ++ y6 ∧ (fRow y2 s'7).snd.fst = y5.snd.fst ∧ (fRow y2 s'7).snd.snd = y5.snd.snd ∧ True) ∧
(y4 = false → (fRow y2 s3).fst = (fRow y2 n.toNat).fst ∧ (fRow y2 s3).snd.fst = (fRow y2 n.toNat).snd.fst ∧ (fRow y2 s3).snd.snd = (fRow y2 n.toNat).snd.snd ∧ True)) := by kernel_rfl

theorem row_stop {s : StD} {k : Nat} (h : (fRow s k).2.2 = true) : ∀ m, k ≤ m → fRow s m = fRow s k
  | 0, hm => by
    have : k = 0 := by omega
    subst this
    rfl
  | m + 1, hm => by
    by_cases e : k = m + 1
    · subst e; rfl
    · have ih := row_stop h m (by omega)
      show (bif (fRow s m).2.2 then _ else _) = _
      rw [ih, h]
      rfl

theorem row_len (s : StD) : ∀ k, (fRow s k).1.length ≤ k
  | 0 => Nat.le_refl _
  | k + 1 => by
    have := row_len s k
    show (bif (fRow s k).2.2 then _ else _ : List Int × StD).1.length ≤ _
    cases (fRow s k).2.2
    · rw [cond_false, List.length_append]; show _ + 1 ≤ _; omega
    · rw [cond_true]; omega

theorem b41 (n : Int) (st : List Int × Bool × Unit) (hn : n ≤ 1000) : obodyVC (ctxOf tab [(40, c40)]) Try.f41 c41 (a41 (n, st, ())) (n, st, ()) := by
  rw [v41]
  simp only [true_and, and_true, Int.toNat_natCast]
  refine lett.mk fun y2 e2 => ⟨⟨0, by omega, rfl, rfl, by rw [e2]; rfl, by rw [e2]; rfl⟩, fun s => lett.mk fun y4 e4 => lett.mk fun y5 e5 => lett.mk fun y6 e6 => ?_⟩
  intro hs
  have hlen := row_len y2 s
  have e6 : y6 = [y5.1] := e6
  refine ⟨fun h4 => ?_, fun h4 => ?_⟩
  · cases hd : decide ((s : Int) < n) with
    | false => rw [e4, hd] at h4; cases h4
    | true =>
      rw [e4, hd] at h4
      have hd := of_decide_eq_true hd
      have h4 : (fRow y2 s).2.2 = false := by
        cases h : (fRow y2 s).2.2 with
        | false => rfl
        | true => rw [h] at h4; cases h4
      have hstep : fRow y2 (s + 1) = ((fRow y2 s).1 ++ [y5.1], y5.2) := by
        show (bif (fRow y2 s).2.2 then _ else _) = _
        rw [h4, e5]
        rfl
      refine ⟨⟨by omega, by omega⟩, roomB (by rw [e6]; simp; omega) (by omega), inRB (by omega) (by omega), s + 1, by omega, by omega, by omega, ?_, ?_, ?_⟩
      · rw [hstep, e6]
      · rw [hstep]
      · rw [hstep]
  · have hst : fRow y2 n.toNat = fRow y2 s := by
      cases h : (fRow y2 s).2.2 with
      | true => exact row_stop h _ hs
      | false =>
        rw [e4, h] at h4
        cases hd : decide ((s : Int) < n) with
        | true => rw [hd] at h4; cases h4
        | false =>
          have hd := of_decide_eq_false hd
          have : n.toNat = s := by omega
          rw [this]
    rw [hst]
    exact ⟨rfl, rfl, rfl⟩

theorem ok41 : OOk Try.prog 41 c41 :=
  OOk.of' (l := [(40, c40)]) (A := a41) tabOk ⟨ok40, trivial⟩ Try.func41 (by kernel_rfl) (by kernel_rfl) fun x hw hp => b41 x.1 x.2.1 hp

/-! ### Putting numbers -/

theorem bytes_len : ∀ (s : Nat) (x : Int), (fBytes s x).length = s
  | 0, _ => rfl
  | s + 1, x => by show _ + 1 = _; rw [bytes_len s x]

theorem bytes_at (x : Int) : ∀ (s j : Nat), j < s → (fBytes s x).getD j 0 = x / 256 ^ (s - 1 - j) % 256
  | 0, j, h => by omega
  | s + 1, 0, h => by
    show x / 256 ^ s % 256 = _
    simp
  | s + 1, j + 1, h => by
    show (fBytes s x).getD j 0 = _
    rw [bytes_at x s j (by omega)]
    congr 3
    omega

theorem flat_len (s : Nat) : ∀ (l : List Int), (l.flatMap (fBytes s)).length = s * l.length
  | [] => by simp
  | x :: l => by
    rw [List.flatMap_cons, List.length_append, bytes_len, flat_len s l, List.length_cons, Nat.mul_succ]
    omega

theorem shift_byte {x y : Int} (hy : 0 ≤ y ∧ y ≤ 3) : IntKind.u8.wrap (x.fdiv ((2 : Int) ^ min ((8 : Int) * y).toNat IntKind.i64.bits)) = x / 256 ^ y.toNat % 256 := by
  have h1 : min ((8 : Int) * y).toNat IntKind.i64.bits = 8 * y.toNat := by
    rw [Nat.min_eq_left (by show ((8 : Int) * y).toNat ≤ 64; omega)]
    omega
  have h2 : ((2 : Int) ^ (8 * y.toNat)) = 256 ^ y.toNat := by rw [Int.pow_mul]; rfl
  have hp : (0 : Int) ≤ 256 ^ y.toNat := Int.le_of_lt (Int.pow_pos (by decide))
  rw [h1, h2, IntKind.wrap_u8, Int.fdiv_eq_ediv_of_nonneg _ hp]

theorem v16 (size : Int) (xs : List Int) (out : List Int) : obodyVC (ctxOf tab []) Try.f16 c16 (a16 (size, xs, out, ())) (size, xs, out, ()) = (
(∃ (s03 : Nat),
s03 ≤ xs.length ∧ (↑s03 : Int) = (0 : Int) ∧ size = size ∧ xs = xs ∧ (↑xs.length : Int) = (↑xs.length : Int) ∧ out ++ List.flatMap (fBytes size.toNat) (List.take s03 xs) = out ∧ True) ∧
∀ (s3 : Nat),
lett (decide ((↑s3 : Int) < (↑xs.length : Int))) fun (y4 : Bool) =>
lett (xs.getD (↑s3 : Int).toNat (0 : Int)) fun (y5 : Int) =>
lett (out ++ List.flatMap (fBytes size.toNat) (List.take s3 xs)) fun (y6 : List Int) =>
s3 ≤ xs.length →
(y4 = true →
InB (↑s3 : Int) xs.length ∧
InR IntKind.i64 (size - (1 : Int)) ∧
(∃ (s07 : Nat),
s07 ≤ size.toNat ∧
size - (1 : Int) - (↑s07 : Int) = size - (1 : Int) ∧
size = size ∧ y5 = y5 ∧ xs = xs ∧ (↑xs.length : Int) = (↑xs.length : Int) ∧ (↑s3 : Int) = (↑s3 : Int) ∧ y6 ++ List.take s07 (fBytes size.toNat y5) = y6 ∧ True) ∧
∀ (s7 : Nat),
lett (size - (1 : Int) - (↑s7 : Int)) fun (y8 : Int) =>
lett (y6 ++ List.take s7 (fBytes size.toNat y5)) fun (y9 : List Int) =>
lett ((List.replicate (1 : Nat) (0 : Int)).set (0 : Nat) (IntKind.u8.wrap (y5.fdiv ((2 : Int) ^ min ((8 : Int) * y8).toNat IntKind.i64.bits)))) fun (y10 : List Int) =>
s7 ≤ size.toNat →
(decide (y8 ≥ (0 : Int)) = true →
InR IntKind.i64 ((8 : Int) * y8) ∧
(0 : Int) ≤ (8 : Int) * y8 ∧
roomFor (y9.length + y10.length) (1 : Nat) ∧
InR IntKind.i64 (y8 - (1 : Int)) ∧
∃ (s'11 : Nat),
s'11 ≤ size.toNat ∧
size.toNat - s'11 < size.toNat - s7 ∧
size - (1 : Int) - (↑s'11 : Int) = y8 - (1 : Int) ∧
size = size ∧
y5 = y5 ∧
xs = xs ∧
(↑xs.length : Int) = (↑xs.length : Int) ∧ (↑s3 : Int) = (↑s3 : Int) ∧ y6 ++ List.take s'11 (fBytes size.toNat y5) = y9 ++ y10 ∧ True) ∧
(decide (y8 ≥ (0 : Int)) = false →
InR IntKind.i64 ((↑s3 : Int) + (1 : Int)) ∧
∃ (s'11 : Nat),
s'11 ≤ xs.length ∧
xs.length - s'11 < xs.length - s3 ∧
(↑s'11 : Int) = (↑s3 : Int) + (1 : Int) ∧
size = size ∧ xs = xs ∧ (↑xs.length : Int) = (↑xs.length : Int) ∧ out ++ List.flatMap (fBytes size.toNat) (List.take s'11 xs) = y9 ∧ True)) ∧
(y4 = false → y6 = out ++ List.flatMap (fBytes size.toNat) xs ∧ True)) := by kernel_rfl

theorem b16 (size : Int) (xs : List Int) (out : List Int) (h0 : 0 ≤ size) (h4 : size ≤ 4) (hx : xs.length ≤ 1000000) (ho : out.length ≤ 1000000000) : obodyVC (ctxOf tab []) Try.f16 c16 (a16 (size, xs, out, ())) (size, xs, out, ()) := by
  rw [v16]
  simp only [true_and, and_true, Int.toNat_natCast]
  refine ⟨⟨0, by omega, rfl, by simp⟩, fun s => lett.mk fun y4 e4 => lett.mk fun y5 e5 => lett.mk fun y6 e6 => ?_⟩
  intro hs
  have hfl := flat_len size.toNat (xs.take s)
  have hmul : size.toNat * (xs.take s).length ≤ 4 * 1000000 := Nat.mul_le_mul (by omega) (by simp; omega)
  have l6 : y6.length ≤ 1004000000 := by rw [e6, List.length_append]; omega
  refine ⟨fun h => ?_, fun h => ?_⟩
  · have hlt := lt_of_y e4 h
    refine ⟨⟨by omega, by omega⟩, inRB (by omega) (by omega), ⟨0, by omega, by omega, by simp⟩, fun j => lett.mk fun y8 e8 => lett.mk fun y9 e9 => lett.mk fun y10 e10 => ?_⟩
    intro hj
    have hbl := bytes_len size.toNat y5
    have l9 : y9.length ≤ 1004000010 := by rw [e9, List.length_append, List.length_take]; omega
    have e10 : y10 = [IntKind.u8.wrap (y5.fdiv ((2 : Int) ^ min ((8 : Int) * y8).toNat IntKind.i64.bits))] := e10
    refine ⟨fun h8 => ?_, fun h8 => ?_⟩
    · have h8 := of_decide_eq_true h8
      refine ⟨inRB (by omega) (by omega), by omega, roomB (by rw [e10]; simp; omega) (by omega), inRB (by omega) (by omega), j + 1, by omega, by omega, by omega, ?_⟩
      have hj' : j < size.toNat := by omega
      rw [take_succ' 0 (by rw [hbl]; exact hj'), bytes_at _ _ _ hj', e9, e10, shift_byte (by omega), ← List.append_assoc, show y8.toNat = size.toNat - 1 - j by omega]
    · have h8 := of_decide_eq_false h8
      have : j = size.toNat := by omega
      subst this
      refine ⟨inRB (by omega) (by omega), s + 1, by omega, by omega, by omega, ?_⟩
      rw [take_succ' 0 hlt, List.flatMap_append, ← List.append_assoc, e9, e6, e5]
      congr 1
      simp [List.take_of_length_le, bytes_len]
  · have hle := le_of_y e4 h
    have : s = xs.length := by omega
    subst this
    rw [e6, List.take_length]

theorem ok16 : OOk Try.prog 16 c16 :=
  OOk.of' (l := []) (A := a16) tabOk trivial Try.func16 (by kernel_rfl) (by kernel_rfl) fun x hw hp => b16 x.1 x.2.1 x.2.2.1 hp.1 hp.2.1 hp.2.2.1 hp.2.2.2

end Ytjmmamlipkbckaa
end Go.Proofs
