/-
  The reference's Next does what its contract says.
-/
import Derived.Test.YtpjgggcaamigdaaVtg
import Derived.Test.YtpjgggcaamigdaaVtf
set_option maxRecDepth 100000
set_option linter.unusedVariables false
set_option linter.unusedSimpArgs false
set_option maxHeartbeats 4000000
namespace Go.Proofs
open Go Go.Vc
namespace Ytpjgggcaamigdaa

theorem zip_nil {seen o : List Bool} : List.zipWith (fun a b => a || b) (List.take 0 seen) (List.take 0 o) = [] := by simp

theorem zip_step {seen o : List Bool} {k : Nat} (hl : seen.length = o.length) (hk : k < seen.length) :
    List.zipWith (fun a b => a || b) (List.take (k + 1) seen) (List.take (k + 1) o) = List.zipWith (fun a b => a || b) (List.take k seen) (List.take k o) ++ [seen.getD k false || o.getD k false] := by
  have hk' : k < o.length := hl ▸ hk
  rw [List.take_add_one, List.take_add_one, List.getElem?_eq_getElem hk, List.getElem?_eq_getElem hk', List.zipWith_append]
  · simp [List.getD_eq_getElem?_getD, hk, hk']
  · simp
    omega

theorem zip_length {seen o : List Bool} {k : Nat} (hl : seen.length = o.length) (hk : k ≤ seen.length) : (List.zipWith (fun a b => a || b) (List.take k seen) (List.take k o)).length = k := by
  simp
  omega

theorem zip_full {seen o : List Bool} {k : Nat} (hl : seen.length = k) : List.zipWith (fun a b => a || b) (List.take k seen) (List.take k o) = fSeen seen o k := by
  unfold fSeen
  rw [List.drop_eq_nil_of_le (by omega), List.append_nil]

theorem b11 (l : LifeD) (v : ViewD) (h1 : l.2.2.2.length ≤ 1000000) (h2 : v.1.length ≤ 1000000) : bodyVC (ctxOf tab [(23, c23), (24, c24)]) Try.f11 c11 (a11 (l, v, ())) (l, v, ()) := by
  rw [v11]
  have hveta : (v.fst, v.snd.fst, v.snd.snd.fst, v.snd.snd.snd.fst, v.snd.snd.snd.snd.fst, v.snd.snd.snd.snd.snd.fst, v.snd.snd.snd.snd.snd.snd) = v := rfl
  have hre : List.replicate 0 false ++ v.1 = v.1 := rfl
  have h0n : (Int.toNat 0) = 0 := rfl
  have ho : (bif v.2.1 then v.1.set ((v.1.length : Int) - 1).toNat false else v.1) = fOcc v := by
    have : ((v.1.length : Int) - 1).toNat = v.1.length - 1 := by omega
    rw [this]
    rfl
  have hol := fOcc_length v
  simp only [Int.toNat_natCast, true_and, and_true, Bool.cond_self, Bool.cond_true_left, Bool.cond_false_right, hveta, hre, h0n, ho, hol]
  generalize hoo : fOcc v = o at *
  generalize hn : v.1.length = n at *
  refine ⟨fun e => ?_, fun e => ⟨fun e2 => ?_, fun e2 => ?_⟩⟩
  · have e : l.1 = 0 := by simpa using e
    rw [fNext_idle e]
    exact ⟨rfl, rfl⟩
  · have e : l.1 ≠ 0 := by simpa using e
    have hb : badIn l v := by
      simp only [Bool.or_eq_true, decide_eq_true_eq, bne_iff_ne] at e2
      unfold badIn
      omega
    rw [fNext_bad e hb]
    exact ⟨rfl, rfl⟩
  · have e : l.1 ≠ 0 := by simpa using e
    have hb : ¬ badIn l v := by
      simp only [Bool.or_eq_false_iff, decide_eq_false_iff_not, bne_eq_false_iff_eq] at e2
      unfold badIn
      omega
    have hb' := hb
    unfold badIn at hb'
    rw [hn] at hb'
    obtain ⟨f, hf⟩ : ∃ f : Nat, l.2.1 = (f : Int) := ⟨l.2.1.toNat, by omega⟩
    have hlt : f < n := by omega
    have hsl : l.2.2.2.length = o.length := by omega
    have hN := fNext_in e hb hf
    rw [hoo, hn] at hN
    rw [hN]
    simp only [hf, Int.toNat_natCast]
    refine ⟨room (by simp; omega) (by omega), fun _ => inR64 (by omega) (by omega), fun _ => ⟨by omega, by omega⟩, ⟨0, by omega, rfl, zip_nil⟩, fun s hs => ⟨fun hlt => ?_, fun hlt => ?_⟩⟩
    · have hlt : s < n := by simpa using hlt
      refine ⟨⟨by omega, by omega⟩, fun _ => ⟨by omega, by omega⟩, room ?_ (by omega), inR64 (by omega) (by omega), s + 1, by omega, by omega, by omega, ?_⟩
      · rw [zip_length hsl (by omega)]
        simp
        omega
      · rw [zip_step hsl (by omega)]
        rfl
    · have hlt : s = n := by
        have : n ≤ s := by simpa using hlt
        omega
      subst hlt
      have htn : ((s : Int) - 1).toNat = s - 1 := by omega
      have hsucc : ∀ k : Nat, ((k : Int) + 1).toNat = k + 1 := fun k => by omega
      simp only [htn, hsucc, zip_full (by omega : l.2.2.2.length = s)]
      generalize hoff : (l.snd.snd.fst || v.snd.snd.snd.snd.snd.snd) = off2
      have hsn : (fSeen l.snd.snd.snd o s).length = s := by rw [fSeen_length hsl (by omega)]; omega
      generalize fSeen l.snd.snd.snd o s = sn at *
      have hov : ∀ xs : List Bool, (!xs.contains true && (!v.snd.snd.snd.snd.fst || v.snd.snd.snd.snd.snd.fst)) = fOver xs v := fun _ => rfl
      simp only [hov]
      refine ⟨⟨by omega, by omega, by omega⟩, fun hu => ⟨⟨by omega, by omega⟩, fun hd => ⟨fun h => (by simp at h), fun _ => ?_⟩, fun hd => ?_⟩, fun hu => ⟨fun h => (by rw [hu] at h; cases h), fun _ => ?_⟩⟩
      · have hused : ¬ (l.1 ≠ 3 ∧ o.getD 0 false = false) := fun h => by rw [hd] at h; cases h.2
        have hcond : ∀ k, f ≤ k → k ≤ s - 1 → fFree sn o v.2.1 (s - 1) (s - 1 - f) f = k → ∀ b, ((((k : Int) == (s : Int) - 1) && (v.2.1 || o.getD (s - 1) false)) || (off2 && fOver (List.drop k o) v)) = b →
            nextIn l.1 f off2 sn o s v = if b = true then (zeroL, fRest f s) else ((3, k, off2, sn), fRest f k) := fun k k1 k2 k3 b hb => by
          subst hb
          unfold nextIn
          rw [if_neg hused]
          simp only [k3]
          refine iteIff ?_
          simp only [Bool.or_eq_true, Bool.and_eq_true, beq_iff_eq]
          have : ((k : Int) = (s : Int) - 1) ↔ k = s - 1 := by omega
          rw [this]
        refine ⟨⟨f, ⟨by omega, by omega, rfl⟩, rfl⟩, fun k ⟨KF, KL, KE⟩ => ⟨inR64 (by omega) (by omega), fun _ => ⟨by omega, by omega⟩, fun _ => ⟨by omega, by omega⟩, fun _ => inR64 (by omega) (by omega), fun hc => ?_, fun _ _ _ => inR64 (by omega) (by omega), fun _ _ _ => inR64 (by omega) (by omega), fun hc => ?_, fun hc => ?_⟩⟩
        · simp only [Bool.and_eq_true, decide_eq_true_eq] at hc
          exact ⟨by omega, by omega⟩
        · have hx : (((k : Int) + 1 == (s : Int) - 1)) = (k + 1 == s - 1) := by
            rw [Bool.eq_iff_iff, beq_iff_eq, beq_iff_eq]
            omega
          rw [hx] at hc
          simp only [Bool.and_eq_true, decide_eq_true_eq, Bool.not_eq_true'] at hc
          have hk : k < s - 1 := by omega
          refine ⟨inR64 (by omega) (by omega), k + 1, ⟨by omega, by omega, ?_⟩, by omega, by omega⟩
          rw [KE, fFree_step hk, if_pos]
          rw [hc.1.1.2, hc.1.2, hc.2]
          rfl
        · have hx : (((k : Int) + 1 == (s : Int) - 1)) = (k + 1 == s - 1) := by
            rw [Bool.eq_iff_iff, beq_iff_eq, beq_iff_eq]
            omega
          rw [hx] at hc
          have hstop : fFree sn o v.2.1 (s - 1) (s - 1 - k) k = k := by
            by_cases hk : k < s - 1
            · have : decide ((k : Int) < (s : Int) - 1) = true := by simp; omega
              rw [this, Bool.true_and] at hc
              rw [fFree_step hk, if_neg]
              rw [← Bool.and_assoc, hc]
              simp
            · exact fFree_end (by omega)
          rw [hstop] at KE
          refine ⟨⟨by omega, by omega, by omega⟩, inR64 (by omega) (by omega), fun _ _ => inR64 (by omega) (by omega), fun _ _ => ⟨by omega, by omega⟩, fun hq => ?_, fun hq => ?_⟩
          · rw [hcond k KF KL KE _ hq]; exact ⟨⟨by omega, by omega⟩, rfl, rfl⟩
          · rw [hcond k KF KL KE _ hq]; exact ⟨⟨by omega, by omega⟩, rfl, rfl⟩
      · have hst : l.1 ≠ 3 ∧ o.getD 0 false = false := ⟨by simpa using hu, hd⟩
        have hNI : ∀ x y, nextIn l.1 f x y o s v = if x = true ∧ fOver (o.drop f) v = true then (zeroL, fRest f s) else if x = false ∧ v.2.2.1 = true ∧ v.2.2.2.1 = true then ((2, f, x, y), []) else ((1, f, x, y), []) := fun x y => by
          unfold nextIn
          rw [if_pos hst]
        refine ⟨fun hc => ?_, fun hc => ⟨fun _ => ?_, fun h => ?_⟩⟩
        · rw [hNI, if_pos (by simpa using hc)]
          exact ⟨⟨by omega, by omega⟩, rfl, rfl⟩
        · have hc' : ¬ (off2 = true ∧ fOver (o.drop f) v = true) := by
            rw [← Bool.and_eq_true, hc]
            simp
          rw [hNI, if_neg hc']
          by_cases hg : off2 = false ∧ v.2.2.1 = true ∧ v.2.2.2.1 = true
          · rw [if_pos hg]
            obtain ⟨g1, g2, g3⟩ := hg
            simp [g1, g2, g3]
          · rw [if_neg hg]
            have : (!off2 && v.2.2.1 && v.2.2.2.1) = false := by
              cases off2 <;> cases h1 : v.2.2.1 <;> cases h2 : v.2.2.2.1 <;> simp_all
            simp [this]
        · exfalso
          cases hb2 : (!off2 && v.2.2.1 && v.2.2.2.1) <;> rw [hb2] at h <;> simp at h
      · have h3 : l.1 = 3 := by simpa using hu
        have hused : ¬ (l.1 ≠ 3 ∧ o.getD 0 false = false) := fun h => h.1 h3
        have hcond : ∀ k, f ≤ k → k ≤ s - 1 → fFree sn o v.2.1 (s - 1) (s - 1 - f) f = k → ∀ b, ((((k : Int) == (s : Int) - 1) && (v.2.1 || o.getD (s - 1) false)) || (off2 && fOver (List.drop k o) v)) = b →
            nextIn l.1 f off2 sn o s v = if b = true then (zeroL, fRest f s) else ((3, k, off2, sn), fRest f k) := fun k k1 k2 k3 b hb => by
          subst hb
          unfold nextIn
          rw [if_neg hused]
          simp only [k3]
          refine iteIff ?_
          simp only [Bool.or_eq_true, Bool.and_eq_true, beq_iff_eq]
          have : ((k : Int) = (s : Int) - 1) ↔ k = s - 1 := by omega
          rw [this]
        simp only [show l.1 = 3 from h3] at hcond ⊢
        refine ⟨⟨f, ⟨by omega, by omega, rfl⟩, rfl⟩, fun k ⟨KF, KL, KE⟩ => ⟨inR64 (by omega) (by omega), fun _ => ⟨by omega, by omega⟩, fun _ => ⟨by omega, by omega⟩, fun _ => inR64 (by omega) (by omega), fun hc => ?_, fun _ _ _ => inR64 (by omega) (by omega), fun _ _ _ => inR64 (by omega) (by omega), fun hc => ?_, fun hc => ?_⟩⟩
        · simp only [Bool.and_eq_true, decide_eq_true_eq] at hc
          exact ⟨by omega, by omega⟩
        · have hx : (((k : Int) + 1 == (s : Int) - 1)) = (k + 1 == s - 1) := by
            rw [Bool.eq_iff_iff, beq_iff_eq, beq_iff_eq]
            omega
          rw [hx] at hc
          simp only [Bool.and_eq_true, decide_eq_true_eq, Bool.not_eq_true'] at hc
          have hk : k < s - 1 := by omega
          refine ⟨inR64 (by omega) (by omega), k + 1, ⟨by omega, by omega, ?_⟩, by omega, by omega⟩
          rw [KE, fFree_step hk, if_pos]
          rw [hc.1.1.2, hc.1.2, hc.2]
          rfl
        · have hx : (((k : Int) + 1 == (s : Int) - 1)) = (k + 1 == s - 1) := by
            rw [Bool.eq_iff_iff, beq_iff_eq, beq_iff_eq]
            omega
          rw [hx] at hc
          have hstop : fFree sn o v.2.1 (s - 1) (s - 1 - k) k = k := by
            by_cases hk : k < s - 1
            · have : decide ((k : Int) < (s : Int) - 1) = true := by simp; omega
              rw [this, Bool.true_and] at hc
              rw [fFree_step hk, if_neg]
              rw [← Bool.and_assoc, hc]
              simp
            · exact fFree_end (by omega)
          rw [hstop] at KE
          refine ⟨⟨by omega, by omega, by omega⟩, inR64 (by omega) (by omega), fun _ _ => inR64 (by omega) (by omega), fun _ _ => ⟨by omega, by omega⟩, fun hq => ?_, fun hq => ?_⟩
          · rw [hcond k KF KL KE _ hq]; exact ⟨⟨by omega, by omega⟩, rfl, rfl⟩
          · rw [hcond k KF KL KE _ hq]; exact ⟨⟨by omega, by omega⟩, rfl, rfl⟩

theorem ok11 : DOk Try.prog 11 c11 :=
  DOk.of' (l := [(23, c23), (24, c24)]) (wraps := []) (A := a11) tabOk ⟨ok23, ok24, trivial⟩ Try.func11 (by kernel_rfl) (by kernel_rfl) fun x _ hp => b11 x.1 x.2.1 hp.1 hp.2

end Ytpjgggcaamigdaa
end Go.Proofs
