/-
  AutoNone: the statement.
-/
import Derived.Test.YtklcddahddbjcaaGreatM6
set_option maxRecDepth 100000
set_option linter.unusedVariables false
set_option maxHeartbeats 4000000
namespace Go.Proofs.YtklcddahddbjcaaGreat
open Go Go.Vc
open Go.ChangeShapes Go.WideShapes Go.ChangeAt Go.RowKit
open Go.ChangeMaps (open_string shut_string)
theorem law_pre {P : Program} {f : Nat} {ts : List Ty} {pre : Tup ts → Prop} (h : DOk P f { args := ts, out := .data [.bool], pre := pre, fn := fun _ => (true, ()) }) {W : World} {x : Tup ts} {vs : List Value} (hv : VReps (memOf W) ts x vs) (hp : pre x) :
    Calls P f vs.toArray W fun e w' => e = .returned (.bool true) ∧ Below W.heap.size W w' := by
  refine (h.calls (memOf W) W x vs (fun b o h => h) hv hp).mono fun e w' => ?_
  rintro ⟨v, F', rfl, _, _, _, hk, hout⟩
  have hout : [v] = [Value.bool true] := hout
  simp only [List.cons.injEq, and_true] at hout
  exact ⟨by rw [hout], ⟨hk.os, hk.tape, hk.output, hk.size, fun k hk' => hk.block k hk' (fun h => h)⟩⟩

theorem lifted4 (os : Os) (started : os.Started) (H : Type) (enc : TypeId × Value → H) :
    ReturnsInHanded {} Tryz.checked os 4 .any (Rows.autoNoneSpec.pre6 enc Tryz.prog Tryz.f4 Rows.autoNoneRow.domain false) (Rows.autoNoneSpec.post enc Tryz.prog Tryz.f4 false true false false) := by
  refine returnsInHanded_of_change_sized (C := Tryz.checked) own started (by kernel_rfl) Tryz.func4
    (ChangeSpec.witness6 (enc := enc) (C := Tryz.checked) false ⟨#[], #[.agg #[.slice none 0 0, .slice none 0 0, .slice none 0 0, .slice none 0 0, .int .i64 0, .int .i64 0, .int .i64 0, .int .i64 0, .bool false], .slice none 0 0], []⟩ 8 (by kernel_rfl) (by kernel_rfl) (by kernel_rfl) (by kernel_rfl)) ?_
  intro W base args ds gs before hval0 hW hcnd hz _
  have hval : ∀ (j : Nat) t v, Tryz.f4.params[j]? = some t → args[j]? = some v → Value.okWide Tryz.prog W .any base t v := hval0
  have hW' := hW
  obtain ⟨p, q, hA0, hV, rfl, hfz, hnd⟩ := hW
  have hA : DataW.TrodAll enc Tryz.prog W 0 (fun _ => true) true Tryz.f4.params.toList args.toList ds p := hA0
  rw [Tryz.params4] at hA hval
  obtain ⟨v0, vs0, d0, ds0, p0, q0, hargs, rfl, rfl, h0, r0⟩ := trodAll_cons hA
  obtain ⟨v1, vs1, d1, ds1, p1, q1, rfl, rfl, rfl, h1, r1⟩ := trodAll_cons r0
  obtain ⟨rfl, rfl, rfl⟩ := trodAll_nil r1
  obtain rfl : args = #[v0, v1] := by cases args; simp_all
  obtain ⟨rfl, rfl⟩ := trodVars_none hV
  have k0 := h0
  have lt0 : ∀ x ∈ p0, x.block < W.heap.size := by obtain ⟨m, hm⟩ := k0; exact DataW.trod_lt m _ _ _ hm
  have k1 := h1
  have lt1 : ∀ x ∈ p1, x.block < W.heap.size := by obtain ⟨m, hm⟩ := k1; exact DataW.trod_lt m _ _ _ hm
  obtain ⟨x0, w0⟩ := val_rep (ty := PlanT) (by kernel_rfl) (hval 0 27 v0 rfl rfl) h0
  obtain ⟨x1, w1⟩ := val_rep (ty := .list ActT) (by kernel_rfl) (hval 1 40 v1 rfl rfl) h1
  clear hA0 hval0
  have hp : x0.2.2.1.length * 40 ≤ 140737488355328 := by
    obtain ⟨ad, cap, hc⟩ := val_cells w0 rfl rfl
    have h40 : x0.2.2.1.length * Tryz.prog.bytesOf 44 ≤ reachBytes := sized_part (i := 0) (j := 2) hz rfl rfl Tryz.underlying27 rfl Tryz.underlying24 k0 hc
    have hb : Tryz.prog.bytesOf 44 = 40 := by kernel_rfl
    rw [hb] at h40
    exact Nat.le_trans h40 (by decide)
  refine (law_pre (ts := [PlanT, .list ActT]) ok4 (x := (x0, x1, ())) (vs := [v0, v1]) ⟨v0, _, rfl, w0, v1, _, rfl, w1, rfl⟩ hp).mono fun e W' ⟨he, bel⟩ => ?_
  subst he
  exact ⟨_, rfl, _, _, _, [], _, [], hW', trodAll_mk1 (shut_bool Tryz.underlying4 _), (trodAll_cons_mk (Below.trod laidOut (by kernel_rfl) (of_decide_eq_true (by kernel_rfl)) k0 bel lt0) (trodAll_cons_mk (Below.trod laidOut (by kernel_rfl) (of_decide_eq_true (by kernel_rfl)) k1 bel lt1) trodAll_mk0)), rfl, bel.frame _, fun h => by cases h⟩

theorem joined4 : joinedFacts Tryz.checked.prog 4 Tryz.f4 Rows.autoNoneSpec Rows.autoNoneRow = true := by
  unfold joinedFacts
  repeat' (with_reducible refine Bool.and_eq_true_iff.2 ⟨?_, ?_⟩)
  all_goals as_aux_lemma => kernel_rfl
theorem over4 : Rows.autoNoneRow.holds Tryz.pinned (OpenSpec.ofChange Rows.autoNoneSpec) :=
  OpenClaim.holds_of_wide 4 Tryz.f4 rfl rfl rfl rfl rfl rfl rfl ⟨rfl, rfl, rfl, rfl, rfl⟩ rfl rfl rfl rfl rfl (by kernel_rfl) Tryz.func4 joined4
    (of_decide_eq_true (by kernel_rfl)) (by unfold Func.isWrapper; first | (rw [if_pos (by decide +kernel)]; kernel_rfl) | (rw [if_neg (by decide +kernel)]; exact ⟨rfl, rfl⟩))
    (fun os started H enc _ => lifted4 os started H enc)

theorem autoNone_proved : Rows.AutoNoneSaid := over4
#print axioms autoNone_proved
end Go.Proofs.YtklcddahddbjcaaGreat
