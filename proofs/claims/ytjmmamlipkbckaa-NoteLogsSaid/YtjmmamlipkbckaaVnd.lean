/-
  The diary's equalities: written out and proved.
-/
import Derived.Test.YtjmmamlipkbckaaVnc
set_option maxRecDepth 100000
set_option linter.unusedVariables false
set_option linter.unusedSimpArgs false
set_option maxHeartbeats 1000000
namespace Go.Proofs
open Go Go.Vc
namespace Ytjmmamlipkbckaa

theorem v28 (xs : List Int) (ys : List Int) : bodyVC (ctxOf tab []) Try.f28 c28 (a28 (xs, ys, ())) (xs, ys, ()) = (
lett ((↑xs.length : Int) != (↑ys.length : Int)) fun (y2 : Bool) =>
(y2 = true → false = (xs == ys) ∧ True) ∧
(y2 = false →
(∃ (s03 : Nat), (s03 ≤ xs.length ∧ sameUp xs ys s03) ∧ (↑s03 : Int) = (0 : Int) ∧ xs = xs ∧ ys = ys ∧ (↑xs.length : Int) = (↑xs.length : Int) ∧ True) ∧
∀ (s3 : Nat),
lett (decide ((↑s3 : Int) < (↑xs.length : Int))) fun (y4 : Bool) =>
lett (xs.getD (↑s3 : Int).toNat (0 : Int) != ys.getD (↑s3 : Int).toNat (0 : Int)) fun (y5 : Bool) =>
s3 ≤ xs.length ∧ sameUp xs ys s3 →
(y4 = true →
InB (↑s3 : Int) xs.length ∧
InB (↑s3 : Int) ys.length ∧
(y5 = true → false = (xs == ys) ∧ True) ∧
(y5 = false →
InR IntKind.i64 ((↑s3 : Int) + (1 : Int)) ∧
∃ (s'6 : Nat),
(s'6 ≤ xs.length ∧ sameUp xs ys s'6) ∧
xs.length - s'6 < xs.length - s3 ∧ (↑s'6 : Int) = (↑s3 : Int) + (1 : Int) ∧ xs = xs ∧ ys = ys ∧ (↑xs.length : Int) = (↑xs.length : Int) ∧ True)) ∧
(y4 = false → true = (xs == ys) ∧ True))) := by kernel_rfl

theorem b28 (xs : List Int) (ys : List Int) (hp : xs.length ≤ 1000000) : bodyVC (ctxOf tab []) Try.f28 c28 (a28 (xs, ys, ())) (xs, ys, ()) := by
  rw [v28]
  refine lett.mk fun y2 e2 => ?_
  simp only [true_and, and_true]
  refine ⟨fun h => ?_, fun h => ?_⟩
  · rw [e2] at h
    symm
    rw [beq_eq_false_iff_ne]
    rintro rfl
    simp at h
  · have h : xs.length = ys.length := by
      rw [e2] at h
      have : (xs.length : Int) = ys.length := by simpa using h
      omega
    refine ⟨⟨0, ⟨by omega, h, rfl⟩, rfl⟩, fun s => lett.mk fun y4 e4 => lett.mk fun y5 e5 => ?_⟩
    rintro ⟨h1, h2, h3⟩
    rw [Int.toNat_natCast] at e5
    refine ⟨fun hs => ?_, fun hs => ?_⟩
    · rw [e4] at hs
      have hs : s < xs.length := by simpa using hs
      refine ⟨⟨by omega, by omega⟩, ⟨by omega, by omega⟩, fun e => ?_, fun e => ⟨inR64 (by omega) (by omega), s + 1, ⟨by omega, h, ?_⟩, by omega, by omega⟩⟩
      · exact sameUp_not (s := s) 0 (by rw [e5] at e; simpa using e)
      · exact sameUp_succ 0 h h3 hs (by rw [e5] at e; simpa using e)
    · exact sameUp_full h h3 (by rw [e4] at hs; simpa using hs)

theorem ok28 : DOk Try.prog 28 c28 :=
  DOk.of' (l := []) (A := a28) tabOk trivial Try.func28 (by kernel_rfl) (by kernel_rfl) fun x _ hp => b28 x.1 x.2.1 hp

theorem v32 (xs : List Int) (ys : List Int) : bodyVC (ctxOf tab []) Try.f32 c32 (a32 (xs, ys, ())) (xs, ys, ()) = (
lett ((↑xs.length : Int) != (↑ys.length : Int)) fun (y2 : Bool) =>
(y2 = true → false = (xs == ys) ∧ True) ∧
(y2 = false →
(∃ (s03 : Nat), (s03 ≤ xs.length ∧ sameUp xs ys s03) ∧ (↑s03 : Int) = (0 : Int) ∧ xs = xs ∧ ys = ys ∧ (↑xs.length : Int) = (↑xs.length : Int) ∧ True) ∧
∀ (s3 : Nat),
lett (decide ((↑s3 : Int) < (↑xs.length : Int))) fun (y4 : Bool) =>
lett (xs.getD (↑s3 : Int).toNat (0 : Int) != ys.getD (↑s3 : Int).toNat (0 : Int)) fun (y5 : Bool) =>
s3 ≤ xs.length ∧ sameUp xs ys s3 →
(y4 = true →
InB (↑s3 : Int) xs.length ∧
InB (↑s3 : Int) ys.length ∧
(y5 = true → false = (xs == ys) ∧ True) ∧
(y5 = false →
InR IntKind.i64 ((↑s3 : Int) + (1 : Int)) ∧
∃ (s'6 : Nat),
(s'6 ≤ xs.length ∧ sameUp xs ys s'6) ∧
xs.length - s'6 < xs.length - s3 ∧ (↑s'6 : Int) = (↑s3 : Int) + (1 : Int) ∧ xs = xs ∧ ys = ys ∧ (↑xs.length : Int) = (↑xs.length : Int) ∧ True)) ∧
(y4 = false → true = (xs == ys) ∧ True))) := by kernel_rfl

theorem b32 (xs : List Int) (ys : List Int) (hp : xs.length ≤ 1000000000) : bodyVC (ctxOf tab []) Try.f32 c32 (a32 (xs, ys, ())) (xs, ys, ()) := by
  rw [v32]
  refine lett.mk fun y2 e2 => ?_
  simp only [true_and, and_true]
  refine ⟨fun h => ?_, fun h => ?_⟩
  · rw [e2] at h
    symm
    rw [beq_eq_false_iff_ne]
    rintro rfl
    simp at h
  · have h : xs.length = ys.length := by
      rw [e2] at h
      have : (xs.length : Int) = ys.length := by simpa using h
      omega
    refine ⟨⟨0, ⟨by omega, h, rfl⟩, rfl⟩, fun s => lett.mk fun y4 e4 => lett.mk fun y5 e5 => ?_⟩
    rintro ⟨h1, h2, h3⟩
    rw [Int.toNat_natCast] at e5
    refine ⟨fun hs => ?_, fun hs => ?_⟩
    · rw [e4] at hs
      have hs : s < xs.length := by simpa using hs
      refine ⟨⟨by omega, by omega⟩, ⟨by omega, by omega⟩, fun e => ?_, fun e => ⟨inR64 (by omega) (by omega), s + 1, ⟨by omega, h, ?_⟩, by omega, by omega⟩⟩
      · exact sameUp_not (s := s) 0 (by rw [e5] at e; simpa using e)
      · exact sameUp_succ 0 h h3 hs (by rw [e5] at e; simpa using e)
    · exact sameUp_full h h3 (by rw [e4] at hs; simpa using hs)

theorem ok32 : DOk Try.prog 32 c32 :=
  DOk.of' (l := []) (A := a32) tabOk trivial Try.func32 (by kernel_rfl) (by kernel_rfl) fun x _ hp => b32 x.1 x.2.1 hp

theorem v33 (xs : List Int) (ys : List Int) : bodyVC (ctxOf tab []) Try.f33 c33 (a33 (xs, ys, ())) (xs, ys, ()) = (
lett ((↑xs.length : Int) != (↑ys.length : Int)) fun (y2 : Bool) =>
(y2 = true → false = (xs == ys) ∧ True) ∧
(y2 = false →
(∃ (s03 : Nat), (s03 ≤ xs.length ∧ sameUp xs ys s03) ∧ (↑s03 : Int) = (0 : Int) ∧ xs = xs ∧ ys = ys ∧ True) ∧
∀ (s3 : Nat),
lett (decide ((↑s3 : Int) < (↑xs.length : Int))) fun (y4 : Bool) =>
lett (xs.getD (↑s3 : Int).toNat (0 : Int) != ys.getD (↑s3 : Int).toNat (0 : Int)) fun (y5 : Bool) =>
s3 ≤ xs.length ∧ sameUp xs ys s3 →
(y4 = true →
InB (↑s3 : Int) xs.length ∧
InB (↑s3 : Int) ys.length ∧
(y5 = true → false = (xs == ys) ∧ True) ∧
(y5 = false →
InR IntKind.i64 ((↑s3 : Int) + (1 : Int)) ∧
∃ (s'6 : Nat), (s'6 ≤ xs.length ∧ sameUp xs ys s'6) ∧ xs.length - s'6 < xs.length - s3 ∧ (↑s'6 : Int) = (↑s3 : Int) + (1 : Int) ∧ xs = xs ∧ ys = ys ∧ True)) ∧
(y4 = false → true = (xs == ys) ∧ True))) := by kernel_rfl

theorem b33 (xs : List Int) (ys : List Int) (hp : xs.length ≤ 1000000) : bodyVC (ctxOf tab []) Try.f33 c33 (a33 (xs, ys, ())) (xs, ys, ()) := by
  rw [v33]
  refine lett.mk fun y2 e2 => ?_
  simp only [true_and, and_true]
  refine ⟨fun h => ?_, fun h => ?_⟩
  · rw [e2] at h
    symm
    rw [beq_eq_false_iff_ne]
    rintro rfl
    simp at h
  · have h : xs.length = ys.length := by
      rw [e2] at h
      have : (xs.length : Int) = ys.length := by simpa using h
      omega
    refine ⟨⟨0, ⟨by omega, h, rfl⟩, rfl⟩, fun s => lett.mk fun y4 e4 => lett.mk fun y5 e5 => ?_⟩
    rintro ⟨h1, h2, h3⟩
    rw [Int.toNat_natCast] at e5
    refine ⟨fun hs => ?_, fun hs => ?_⟩
    · rw [e4] at hs
      have hs : s < xs.length := by simpa using hs
      refine ⟨⟨by omega, by omega⟩, ⟨by omega, by omega⟩, fun e => ?_, fun e => ⟨inR64 (by omega) (by omega), s + 1, ⟨by omega, h, ?_⟩, by omega, by omega⟩⟩
      · exact sameUp_not (s := s) 0 (by rw [e5] at e; simpa using e)
      · exact sameUp_succ 0 h h3 hs (by rw [e5] at e; simpa using e)
    · exact sameUp_full h h3 (by rw [e4] at hs; simpa using hs)

theorem ok33 : DOk Try.prog 33 c33 :=
  DOk.of' (l := []) (A := a33) tabOk trivial Try.func33 (by kernel_rfl) (by kernel_rfl) fun x _ hp => b33 x.1 x.2.1 hp

theorem v39 (xs : List (Int × Int)) (ys : List (Int × Int)) : bodyVC (ctxOf tab []) Try.f39 c39 (a39 (xs, ys, ())) (xs, ys, ()) = (
lett ((↑xs.length : Int) != (↑ys.length : Int)) fun (y2 : Bool) =>
(y2 = true → false = (xs == ys) ∧ True) ∧
(y2 = false →
(∃ (s03 : Nat), (s03 ≤ xs.length ∧ sameUp xs ys s03) ∧ (↑s03 : Int) = (0 : Int) ∧ xs = xs ∧ ys = ys ∧ (↑xs.length : Int) = (↑xs.length : Int) ∧ True) ∧
∀ (s3 : Nat),
lett (decide ((↑s3 : Int) < (↑xs.length : Int))) fun (y4 : Bool) =>
lett (xs.getD (↑s3 : Int).toNat ((0 : Int), (0 : Int))) fun (y5 : Int × Int) =>
lett (ys.getD (↑s3 : Int).toNat ((0 : Int), (0 : Int))) fun (y6 : Int × Int) =>
lett (!(y5.fst == y6.fst && (y5.snd == y6.snd && true))) fun (y7 : Bool) =>
s3 ≤ xs.length ∧ sameUp xs ys s3 →
(y4 = true →
InB (↑s3 : Int) xs.length ∧
InB (↑s3 : Int) ys.length ∧
(y7 = true → false = (xs == ys) ∧ True) ∧
(y7 = false →
InR IntKind.i64 ((↑s3 : Int) + (1 : Int)) ∧
∃ (s'8 : Nat),
(s'8 ≤ xs.length ∧ sameUp xs ys s'8) ∧
xs.length - s'8 < xs.length - s3 ∧ (↑s'8 : Int) = (↑s3 : Int) + (1 : Int) ∧ xs = xs ∧ ys = ys ∧ (↑xs.length : Int) = (↑xs.length : Int) ∧ True)) ∧
(y4 = false → true = (xs == ys) ∧ True))) := by kernel_rfl

theorem b39 (xs : List PortD) (ys : List PortD) (hp : xs.length ≤ 1000000) : bodyVC (ctxOf tab []) Try.f39 c39 (a39 (xs, ys, ())) (xs, ys, ()) := by
  rw [v39]
  refine lett.mk fun y2 e2 => ?_
  simp only [true_and, and_true]
  refine ⟨fun h => ?_, fun h => ?_⟩
  · rw [e2] at h
    symm
    rw [beq_eq_false_iff_ne]
    rintro rfl
    simp at h
  · have h : xs.length = ys.length := by
      rw [e2] at h
      have : (xs.length : Int) = ys.length := by simpa using h
      omega
    refine ⟨⟨0, ⟨by omega, h, rfl⟩, rfl⟩, fun s => lett.mk fun y4 e4 => lett.mk fun y5 e5 => ?_⟩
    rintro ⟨h1, h2, h3⟩
    rw [Int.toNat_natCast] at e5
    refine ⟨fun hs => ?_, fun hs => ?_⟩
    · rw [e4] at hs
      have hs : s < xs.length := by simpa using hs
      refine ⟨⟨by omega, by omega⟩, ⟨by omega, by omega⟩, fun e => ?_, fun e => ⟨inR64 (by omega) (by omega), s + 1, ⟨by omega, h, ?_⟩, by omega, by omega⟩⟩
      · exact sameUp_not (s := s) ((0 : Int), (0 : Int)) (by rw [e5] at e; intro hh; rw [Prod.ext_iff] at hh; simp_all)
      · exact sameUp_succ ((0 : Int), (0 : Int)) h h3 hs (by rw [e5] at e; simpa [Prod.ext_iff] using e)
    · exact sameUp_full h h3 (by rw [e4] at hs; simpa using hs)

theorem ok39 : DOk Try.prog 39 c39 :=
  DOk.of' (l := []) (A := a39) tabOk trivial Try.func39 (by kernel_rfl) (by kernel_rfl) fun x _ hp => b39 x.1 x.2.1 hp

theorem v44 (xs : List (Int × Int)) (ys : List (Int × Int)) : bodyVC (ctxOf tab []) Try.f44 c44 (a44 (xs, ys, ())) (xs, ys, ()) = (
lett ((↑xs.length : Int) != (↑ys.length : Int)) fun (y2 : Bool) =>
(y2 = true → false = (xs == ys) ∧ True) ∧
(y2 = false →
(∃ (s03 : Nat), (s03 ≤ xs.length ∧ sameUp xs ys s03) ∧ (↑s03 : Int) = (0 : Int) ∧ xs = xs ∧ ys = ys ∧ True) ∧
∀ (s3 : Nat),
lett (decide ((↑s3 : Int) < (↑xs.length : Int))) fun (y4 : Bool) =>
lett (xs.getD (↑s3 : Int).toNat ((0 : Int), (0 : Int))) fun (y5 : Int × Int) =>
lett (ys.getD (↑s3 : Int).toNat ((0 : Int), (0 : Int))) fun (y6 : Int × Int) =>
lett (!(y5.fst == y6.fst && (y5.snd == y6.snd && true))) fun (y7 : Bool) =>
s3 ≤ xs.length ∧ sameUp xs ys s3 →
(y4 = true →
InB (↑s3 : Int) xs.length ∧
InB (↑s3 : Int) ys.length ∧
(y7 = true → false = (xs == ys) ∧ True) ∧
(y7 = false →
InR IntKind.i64 ((↑s3 : Int) + (1 : Int)) ∧
∃ (s'8 : Nat), (s'8 ≤ xs.length ∧ sameUp xs ys s'8) ∧ xs.length - s'8 < xs.length - s3 ∧ (↑s'8 : Int) = (↑s3 : Int) + (1 : Int) ∧ xs = xs ∧ ys = ys ∧ True)) ∧
(y4 = false → true = (xs == ys) ∧ True))) := by kernel_rfl

theorem b44 (xs : List PortD) (ys : List PortD) (hp : xs.length ≤ 1000000) : bodyVC (ctxOf tab []) Try.f44 c44 (a44 (xs, ys, ())) (xs, ys, ()) := by
  rw [v44]
  refine lett.mk fun y2 e2 => ?_
  simp only [true_and, and_true]
  refine ⟨fun h => ?_, fun h => ?_⟩
  · rw [e2] at h
    symm
    rw [beq_eq_false_iff_ne]
    rintro rfl
    simp at h
  · have h : xs.length = ys.length := by
      rw [e2] at h
      have : (xs.length : Int) = ys.length := by simpa using h
      omega
    refine ⟨⟨0, ⟨by omega, h, rfl⟩, rfl⟩, fun s => lett.mk fun y4 e4 => lett.mk fun y5 e5 => ?_⟩
    rintro ⟨h1, h2, h3⟩
    rw [Int.toNat_natCast] at e5
    refine ⟨fun hs => ?_, fun hs => ?_⟩
    · rw [e4] at hs
      have hs : s < xs.length := by simpa using hs
      refine ⟨⟨by omega, by omega⟩, ⟨by omega, by omega⟩, fun e => ?_, fun e => ⟨inR64 (by omega) (by omega), s + 1, ⟨by omega, h, ?_⟩, by omega, by omega⟩⟩
      · exact sameUp_not (s := s) ((0 : Int), (0 : Int)) (by rw [e5] at e; intro hh; rw [Prod.ext_iff] at hh; simp_all)
      · exact sameUp_succ ((0 : Int), (0 : Int)) h h3 hs (by rw [e5] at e; simpa [Prod.ext_iff] using e)
    · exact sameUp_full h h3 (by rw [e4] at hs; simpa using hs)

theorem ok44 : DOk Try.prog 44 c44 :=
  DOk.of' (l := []) (A := a44) tabOk trivial Try.func44 (by kernel_rfl) (by kernel_rfl) fun x _ hp => b44 x.1 x.2.1 hp


theorem v42 (d : Int × List (Int × Int) × Int × Int × Int) (e : Int × List (Int × Int) × Int × Int × Int) : bodyVC (ctxOf tab [(44, c44)]) Try.f42 c42 noAnn (d, e, ()) = (
lett (bif bif bif d.fst == e.fst then d.snd.snd.fst == e.snd.snd.fst else false then d.snd.snd.snd.fst == e.snd.snd.snd.fst else false then d.snd.snd.snd.snd == e.snd.snd.snd.snd else false)
fun (y2 : Bool) => (y2 = true → short d.snd.fst) ∧ (bif y2 then d.snd.fst == e.snd.fst else false) = (d == e) ∧ True) := by kernel_rfl

theorem ok42 : DOk Try.prog 42 c42 :=
  DOk.of' (l := [(44, c44)]) (A := fun _ => noAnn) tabOk ⟨ok44, trivial⟩ Try.func42 (by kernel_rfl) (by kernel_rfl) fun x _ hp => by
    obtain ⟨⟨d1, d2, d3, d4, d5⟩, ⟨e1, e2, e3, e4, e5⟩, ⟨⟩⟩ := x
    rw [v42]
    refine lett.mk fun y2 h2 => ⟨fun _ => hp, ?_, trivial⟩
    rw [h2]
    have key : ∀ a b c d e : Bool, (bif (bif bif bif a then b else false then c else false then d else false) then e else false) = (a && (e && (b && (c && d)))) := by decide
    exact key (d1 == e1) (d3 == e3) (d4 == e4) (d5 == e5) (d2 == e2)

theorem v30 (d : Int × List (Int × Int) × Int × Int × Int) (e : Int × List (Int × Int) × Int × Int × Int) : bodyVC (ctxOf tab [(39, c39)]) Try.f30 c30 noAnn (d, e, ()) = (
((d.fst == e.fst) = true → short d.snd.fst) ∧
(bif bif bif bif d.fst == e.fst then d.snd.fst == e.snd.fst else false then d.snd.snd.fst == e.snd.snd.fst else false then d.snd.snd.snd.fst == e.snd.snd.snd.fst else false then
d.snd.snd.snd.snd == e.snd.snd.snd.snd
else false) =
(d == e) ∧
True) := by kernel_rfl

theorem ok30 : DOk Try.prog 30 c30 :=
  DOk.of' (l := [(39, c39)]) (A := fun _ => noAnn) tabOk ⟨ok39, trivial⟩ Try.func30 (by kernel_rfl) (by kernel_rfl) fun x _ hp => by
    obtain ⟨⟨d1, d2, d3, d4, d5⟩, ⟨e1, e2, e3, e4, e5⟩, ⟨⟩⟩ := x
    rw [v30]
    refine ⟨fun _ => hp, ?_, trivial⟩
    have key : ∀ a b c d e : Bool, (bif bif bif bif a then b else false then c else false then d else false then e else false) = (a && (b && (c && (d && e)))) := by decide
    exact key (d1 == e1) (d2 == e2) (d3 == e3) (d4 == e4) (d5 == e5)

end Ytjmmamlipkbckaa
end Go.Proofs
