/-
  stage.Next does what its contract says.
-/
import Derived.Test.YtpjgggcaamigdaaVte
set_option maxRecDepth 100000
set_option linter.unusedVariables false
set_option linter.unusedSimpArgs false
set_option maxHeartbeats 4000000
namespace Go.Proofs
open Go Go.Vc
namespace Ytpjgggcaamigdaa

theorem fSeen_get {seen o : List Bool} {k : Nat} (hl : seen.length = o.length) (i : Nat) : (fSeen seen o k)[i]? = if i < k then (seen[i]?).bind (fun a => (o[i]?).map fun b => a || b) else seen[i]? := by
  have hz2 : ∀ xs ys : List Bool, (List.zipWith (fun a b => a || b) xs ys)[i]? = (xs[i]?).bind (fun a => (ys[i]?).map fun b => a || b) := fun xs ys => by
    rw [List.getElem?_zipWith]
    cases xs[i]? <;> cases ys[i]? <;> rfl
  unfold fSeen
  by_cases hk : k ≤ seen.length
  · have hz : (List.zipWith (fun a b => a || b) (seen.take k) (o.take k)).length = k := by simp; omega
    by_cases h : i < k
    · rw [if_pos h, List.getElem?_append_left (by rw [hz]; exact h), hz2, List.getElem?_take_of_lt h, List.getElem?_take_of_lt h]
    · rw [if_neg h, List.getElem?_append_right (by rw [hz]; omega), hz, List.getElem?_drop]
      congr 1
      omega
  · have h1 : seen.take k = seen := List.take_of_length_le (by omega)
    have h2 : o.take k = o := List.take_of_length_le (by omega)
    have h3 : seen.drop k = [] := List.drop_eq_nil_of_le (by omega)
    rw [h1, h2, h3, List.append_nil, hz2]
    by_cases h : i < k
    · rw [if_pos h]
    · rw [if_neg h, List.getElem?_eq_none (by omega : seen.length ≤ i)]
      rfl

theorem fSeen_length {seen o : List Bool} {k : Nat} (hl : seen.length = o.length) (hk : k ≤ seen.length) : (fSeen seen o k).length = seen.length := by
  simp [fSeen]
  omega

theorem fSeen_zero {seen o : List Bool} : fSeen seen o 0 = seen := by simp [fSeen]

theorem fSeen_at {seen o : List Bool} {k : Nat} (hl : seen.length = o.length) : (fSeen seen o k).getD k false = seen.getD k false := by
  rw [List.getD_eq_getElem?_getD, fSeen_get hl, if_neg (Nat.lt_irrefl k), ← List.getD_eq_getElem?_getD]

theorem fSeen_step {seen o : List Bool} {k : Nat} (hl : seen.length = o.length) (hk : k < seen.length) : fSeen seen o (k + 1) = (fSeen seen o k).set k (seen.getD k false || o.getD k false) := by
  apply List.ext_getElem?
  intro i
  have hk' : k < o.length := hl ▸ hk
  rw [fSeen_get hl, List.getElem?_set, fSeen_length hl (by omega)]
  by_cases e : k = i
  · subst e
    rw [if_pos (Nat.lt_succ_self k), if_pos rfl, if_pos hk, List.getElem?_eq_getElem hk, List.getElem?_eq_getElem hk']
    simp [List.getD_eq_getElem?_getD, hk, hk']
  · rw [if_neg e, fSeen_get hl]
    by_cases h : i < k
    · rw [if_pos (by omega), if_pos h]
    · rw [if_neg (by omega), if_neg h]

theorem fOcc_length (v : ViewD) : (fOcc v).length = v.1.length := by
  unfold fOcc
  cases v.2.1 <;> simp

theorem fNext_idle {l : LifeD} {v : ViewD} (h : l.1 = 0) : fNext l v = (l, []) := by
  unfold fNext
  rw [if_pos h]

def badIn (l : LifeD) (v : ViewD) : Prop := l.1 < 0 ∨ l.1 > 3 ∨ v.1.length = 0 ∨ l.2.2.2.length ≠ v.1.length ∨ l.2.1 < 0 ∨ l.2.1 ≥ v.1.length

theorem fNext_bad {l : LifeD} {v : ViewD} (h : l.1 ≠ 0) (hb : badIn l v) : fNext l v = (zeroL, []) := by
  unfold fNext
  rw [if_neg h]
  exact if_pos hb

/-- What 'Next' answers for a road that is locked, all being well-formed. -/
def nextIn (st : Int) (fr : Nat) (off : Bool) (seen o : List Bool) (n : Nat) (v : ViewD) : LifeD × List Int :=
  if st ≠ 3 ∧ o.getD 0 false = false then
    if off = true ∧ fOver (o.drop fr) v = true then (zeroL, fRest fr n)
    else if off = false ∧ v.2.2.1 = true ∧ v.2.2.2.1 = true then ((2, fr, off, seen), [])
    else ((1, fr, off, seen), [])
  else
    let f := fFree seen o v.2.1 (n - 1) (n - 1 - fr) fr
    if (f = n - 1 ∧ (v.2.1 = true ∨ o.getD (n - 1) false = true)) ∨ (off = true ∧ fOver (o.drop f) v = true) then (zeroL, fRest fr n)
    else ((3, f, off, seen), fRest fr f)

theorem fNext_in {l : LifeD} {f : Nat} {v : ViewD} (h : l.1 ≠ 0) (hb : ¬ badIn l v) (hf : l.2.1 = (f : Int)) :
    fNext l v = nextIn l.1 f (l.2.2.1 || v.2.2.2.2.2.2) (fSeen l.2.2.2 (fOcc v) v.1.length) (fOcc v) v.1.length v := by
  unfold fNext
  rw [if_neg h]
  refine (if_neg hb).trans ?_
  simp only [hf, Int.toNat_natCast]
  rfl

theorem fFree_step {seen o : List Bool} {gate : Bool} {last f : Nat} (h : f < last) :
    fFree seen o gate last (last - f) f = if seen.getD f false && (!o.getD f false && (o.getD (f + 1) false || gate && f + 1 == last)) then fFree seen o gate last (last - (f + 1)) (f + 1) else f := by
  have : last - f = (last - (f + 1)) + 1 := by omega
  rw [this, fFree]

theorem fFree_end {seen o : List Bool} {gate : Bool} {last f : Nat} (h : last ≤ f) : fFree seen o gate last (last - f) f = f := by
  have : last - f = 0 := by omega
  rw [this, fFree]

theorem iteIff {α : Type} {P Q : Prop} [Decidable P] [Decidable Q] (h : P ↔ Q) {a b : α} : (if P then a else b) = if Q then a else b := by
  by_cases hp : P
  · rw [if_pos hp, if_pos (h.1 hp)]
  · rw [if_neg hp, if_neg (fun hq => hp (h.2 hq))]

theorem b10 (l : LifeD) (v : ViewD) (h1 : l.2.2.2.length ≤ 1000000) (h2 : v.1.length ≤ 1000000) : bodyVC (ctxOf tab [(20, c20), (21, c21), (22, c22)]) Try.f10 c10 (a10 (l, v, ())) (l, v, ()) := by
  rw [v10]
  have ho : (bif v.2.1 then v.1.set ((v.1.length : Int) - 1).toNat false else v.1) = fOcc v := by
    have : ((v.1.length : Int) - 1).toNat = v.1.length - 1 := by omega
    rw [this]
    rfl
  have hol := fOcc_length v
  simp only [Int.toNat_natCast, true_and, and_true, Bool.cond_self, ho, hol]
  have htk : ∀ f, List.take (v.1.length - f) (List.drop f (fOcc v)) = List.drop f (fOcc v) := fun f => List.take_of_length_le (by simp; omega)
  simp only [htk]
  generalize hoo : fOcc v = o at *
  generalize hn : v.1.length = n at *
  refine ⟨h1, fun e => ?_, fun e => ⟨fun e2 => ?_, fun e2 => ?_⟩⟩
  · have e : l.1 = 0 := by simpa using e
    rw [fNext_idle e]
    exact ⟨rfl, rfl⟩
  · have e : l.1 ≠ 0 := by simpa using e
    have hb : badIn l v := by
      simp only [Bool.cond_true_left, Bool.or_eq_true, decide_eq_true_eq, beq_iff_eq, bne_iff_ne] at e2
      unfold badIn
      omega
    rw [fNext_bad e hb]
    exact ⟨rfl, rfl⟩
  · have e : l.1 ≠ 0 := by simpa using e
    have hb : ¬ badIn l v := by
      simp only [Bool.cond_true_left, Bool.or_eq_false_iff, decide_eq_false_iff_not, beq_eq_false_iff_ne, bne_eq_false_iff_eq] at e2
      unfold badIn
      omega
    have hb' := hb
    unfold badIn at hb'
    rw [hn] at hb'
    obtain ⟨f, hf⟩ : ∃ f : Nat, l.2.1 = (f : Int) := ⟨l.2.1.toNat, by omega⟩
    have hlt : f < n := by omega
    have hsl : l.2.2.2.length = o.length := by omega
    have hN := fNext_in e hb hf
    rw [hoo, hn] at hN
    rw [hN]
    simp only [hf, Int.toNat_natCast]
    refine ⟨h2, fun _ => inR64 (by omega) (by omega), fun _ => ⟨by omega, by omega⟩, ⟨0, by omega, rfl, fSeen_zero⟩, fun s hs => ⟨fun hlt => ?_, fun hlt => ?_⟩⟩
    · have hlt : s < n := by simpa using hlt
      have hL : (fSeen l.2.2.2 o s).length = n := by rw [fSeen_length hsl (by omega)]; omega
      refine ⟨⟨by omega, by omega⟩, fun _ => ⟨by omega, by omega⟩, ⟨by omega, by omega⟩, inR64 (by omega) (by omega), s + 1, by omega, by omega, by omega, ?_⟩
      rw [fSeen_step hsl (by omega), fSeen_at hsl, Bool.cond_true_left]
    · have hlt : s = n := by
        have : n ≤ s := by simpa using hlt
        omega
      subst hlt
      have hveta : (v.fst, v.snd.fst, v.snd.snd.fst, v.snd.snd.snd.fst, v.snd.snd.snd.snd.fst, v.snd.snd.snd.snd.snd.fst, v.snd.snd.snd.snd.snd.snd) = v := rfl
      have h0n : (Int.toNat 0) = 0 := rfl
      have htn : ((s : Int) - 1).toNat = s - 1 := by omega
      have hsucc : ∀ k : Nat, ((k : Int) + 1).toNat = k + 1 := fun k => by omega
      have hdl : ∀ k, (List.drop k o).length ≤ 1000000 := fun k => by rw [List.length_drop]; omega
      simp only [hveta, h0n, htn, hsucc, Bool.cond_true_left, Bool.cond_false_right]
      generalize hoff : (l.snd.snd.fst || v.snd.snd.snd.snd.snd.snd) = off2
      have hsn : (fSeen l.snd.snd.snd o s).length = s := by rw [fSeen_length hsl (by omega)]; omega
      generalize fSeen l.snd.snd.snd o s = sn at *
      refine ⟨fun _ => ⟨by omega, by omega⟩, fun hu => ?_, fun hu => ?_⟩
      · have hst : l.1 ≠ 3 ∧ o.getD 0 false = false := by
          cases h : o.getD 0 false with
          | true =>
            rw [h] at hu
            by_cases e3 : l.1 = 3
            · simp [e3] at hu
            · have : (l.1 != 3) = true := by simpa using e3
              rw [this] at hu
              simp at hu
          | false =>
            rw [h] at hu
            refine ⟨fun e3 => ?_, rfl⟩
            simp [e3] at hu
        have hNI : ∀ x y, nextIn l.1 f x y o s v = if x = true ∧ fOver (o.drop f) v = true then (zeroL, fRest f s) else if x = false ∧ v.2.2.1 = true ∧ v.2.2.2.1 = true then ((2, f, x, y), []) else ((1, f, x, y), []) := fun x y => by
          unfold nextIn
          rw [if_pos hst]
        refine ⟨fun _ => ⟨by omega, by omega⟩, fun _ => hdl _, fun hc => ?_, fun hc => ?_⟩
        · rw [hNI, if_pos (by simpa using hc)]
          exact ⟨⟨by omega, by omega⟩, rfl, rfl⟩
        · have hc' : ¬ (off2 = true ∧ fOver (o.drop f) v = true) := by
            rw [← Bool.and_eq_true, hc]
            simp
          rw [hNI, if_neg hc']
          by_cases hg : off2 = false ∧ v.2.2.1 = true ∧ v.2.2.2.1 = true
          · rw [if_pos hg]
            obtain ⟨g1, g2, g3⟩ := hg
            simp [g1, g2, g3]
          · rw [if_neg hg]
            have : (!off2 && v.2.2.1 && v.2.2.2.1) = false := by
              cases off2 <;> cases h1 : v.2.2.1 <;> cases h2 : v.2.2.2.1 <;> simp_all
            simp [this]
      · have h3 : (bif l.1 != 3 && o.getD 0 false then 3 else l.1) = 3 := by simpa using hu
        have hused : ¬ (l.1 ≠ 3 ∧ o.getD 0 false = false) := by
          rintro ⟨e3, e4⟩
          rw [e4, Bool.and_false] at h3
          exact e3 h3
        have hcond : ∀ k, f ≤ k → k ≤ s - 1 → fFree sn o v.2.1 (s - 1) (s - 1 - f) f = k → ∀ b, ((((k : Int) == (s : Int) - 1) && (v.2.1 || o.getD (s - 1) false)) || (off2 && fOver (List.drop k o) v)) = b →
            nextIn l.1 f off2 sn o s v = if b = true then (zeroL, fRest f s) else ((3, k, off2, sn), fRest f k) := fun k k1 k2 k3 b hb => by
          subst hb
          unfold nextIn
          rw [if_neg hused]
          simp only [k3]
          refine iteIff ?_
          simp only [Bool.or_eq_true, Bool.and_eq_true, beq_iff_eq]
          have : ((k : Int) = (s : Int) - 1) ↔ k = s - 1 := by omega
          rw [this]
        refine ⟨inR64 (by omega) (by omega), ⟨f, ⟨by omega, by omega, rfl⟩, rfl⟩, fun k ⟨KF, KL, KE⟩ => ⟨fun hk => ?_, fun hk => ?_⟩⟩
        · have hk : k < s - 1 := by
            have : (k : Int) < (s : Int) - 1 := by simpa using hk
            omega
          have hst := fFree_step (seen := sn) (o := o) (gate := v.2.1) hk
          refine ⟨inR64 (by omega) (by omega), ⟨by omega, by omega⟩, fun _ => ⟨by omega, by omega⟩, fun hc => ?_, fun hc => ⟨⟨by omega, by omega⟩, fun hd => ?_, fun hd => ?_⟩⟩
          · rw [hst, if_neg (by
              intro h
              simp only [Bool.and_eq_true, Bool.not_eq_true'] at h
              rw [h.1, h.2.1] at hc
              simp at hc)] at KE
            refine ⟨fun _ _ => ⟨by omega, by omega⟩, fun _ _ => ⟨by omega, by omega⟩, fun _ _ => hdl _, fun hc => ?_, fun hc => ?_⟩
            · rw [hcond k KF KL KE _ hc]; exact ⟨⟨by omega, by omega⟩, rfl, rfl⟩
            · rw [hcond k KF KL KE _ hc, h3]; exact ⟨⟨by omega, by omega⟩, rfl, rfl⟩
          · refine ⟨k + 1, ⟨by omega, by omega, ?_⟩, by omega, by omega⟩
            rw [KE, hst, if_pos]
            have hx : (((k : Int) + 1 == (s : Int) - 1)) = (k + 1 == s - 1) := by
              rw [Bool.eq_iff_iff, beq_iff_eq, beq_iff_eq]
              omega
            rw [hx] at hd
            simp only [Bool.or_eq_false_iff, Bool.not_eq_false'] at hc
            rw [hc.1, hc.2, hd]
            rfl
          · rw [hst, if_neg (by
              intro h
              have hx : (((k : Int) + 1 == (s : Int) - 1)) = (k + 1 == s - 1) := by
                rw [Bool.eq_iff_iff, beq_iff_eq, beq_iff_eq]
                omega
              rw [hx] at hd
              rw [hd] at h
              simp at h)] at KE
            refine ⟨fun _ _ => ⟨by omega, by omega⟩, fun _ _ => ⟨by omega, by omega⟩, fun _ _ => hdl _, fun hc => ?_, fun hc => ?_⟩
            · rw [hcond k KF KL KE _ hc]; exact ⟨⟨by omega, by omega⟩, rfl, rfl⟩
            · rw [hcond k KF KL KE _ hc, h3]; exact ⟨⟨by omega, by omega⟩, rfl, rfl⟩
        · have hk : s - 1 ≤ k := by
            have : ¬ (k : Int) < (s : Int) - 1 := by simpa using hk
            omega
          rw [fFree_end hk] at KE
          refine ⟨fun _ _ => ⟨by omega, by omega⟩, fun _ _ => ⟨by omega, by omega⟩, fun _ _ => hdl _, fun hc => ?_, fun hc => ?_⟩
          · rw [hcond k KF KL KE _ hc]; exact ⟨⟨by omega, by omega⟩, rfl, rfl⟩
          · rw [hcond k KF KL KE _ hc, h3]; exact ⟨⟨by omega, by omega⟩, rfl, rfl⟩

theorem ok10 : DOk Try.prog 10 c10 :=
  DOk.of' (l := [(20, c20), (21, c21), (22, c22)]) (wraps := []) (A := a10) tabOk ⟨ok20, ok21, ok22, trivial⟩ Try.func10 (by kernel_rfl) (by kernel_rfl) fun x _ hp => b10 x.1 x.2.1 hp.1 hp.2

end Ytpjgggcaamigdaa
end Go.Proofs
