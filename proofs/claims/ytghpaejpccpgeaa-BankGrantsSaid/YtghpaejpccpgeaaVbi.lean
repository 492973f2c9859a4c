/-
  The law's own example holds: the walk, and the contract.
-/
import Derived.Test.YtghpaejpccpgeaaVbh
set_option maxRecDepth 100000
set_option linter.unusedVariables false
set_option linter.unusedSimpArgs false
namespace Go.Proofs
open Go Go.Vc Go.RowKit
namespace Ytghpaejpccpgeaa

set_option maxHeartbeats 1000000 in
theorem known_any (ok20 : DOk Try.prog 20 c20) (w : World) :
    Calls Try.prog 10 #[] w fun e w' => e = .returned (.bool true) ∧ Below w.heap.size w w' := by
  have hcap := cap35
  have app0 : ∀ (a b c d : Value) (zs : Array Value), (#[a, b, c, d] ++ zs)[0]? = some a := fun a b c d zs => by rw [Array.getElem?_append_left (by simp)]; rfl
  have app1 : ∀ (a b c d : Value) (zs : Array Value), (#[a, b, c, d] ++ zs)[1]? = some b := fun a b c d zs => by rw [Array.getElem?_append_left (by simp)]; rfl
  have app2 : ∀ (a b c d : Value) (zs : Array Value), (#[a, b, c, d] ++ zs)[2]? = some c := fun a b c d zs => by rw [Array.getElem?_append_left (by simp)]; rfl
  have app3 : ∀ (a b c d : Value) (zs : Array Value), (#[a, b, c, d] ++ zs)[3]? = some d := fun a b c d zs => by rw [Array.getElem?_append_left (by simp)]; rfl
  go_enter Try.func10, Try.ntmps10
  go_wp2_with fail
  have hc2 : 2 ≤ (Question.appendCap 2 0 35).cut (w.tape w.drawn (Question.appendCap 2 0 35)) := Nat.le_add_right _ _
  have hcm : (Question.appendCap 2 0 35).cut (w.tape w.drawn (Question.appendCap 2 0 35)) ≤ maxLenI := by
    show 2 + _ % (2 ^ 63 - 2) ≤ _
    have := Nat.mod_lt (w.tape w.drawn (Question.appendCap 2 0 35)) (show 0 < 2 ^ 63 - 2 by omega)
    simp only [maxLenI]
    omega
  generalize hcp : (Question.appendCap 2 0 35).cut (w.tape w.drawn (Question.appendCap 2 0 35)) = cap at hc2 hcm ⊢
  refine call_stuck (B := w.heap.size) (W0 := w) (b0 := w.heap.size) (b1 := w.heap.size + 1) (b2 := w.heap.size + 1 + 1) (b3 := w.heap.size + 1 + 1 + 1) (b4 := w.heap.size + 1 + 1 + 1 + 1) (b5 := w.heap.size + 1 + 1 + 1 + 1 + 1) (b6 := w.heap.size + 1 + 1 + 1 + 1 + 1 + 1) (b7 := w.heap.size + 1 + 1 + 1 + 1 + 1 + 1 + 1) ?hB ?hs ?hA hc2 hcm ?h5 ?h62 ?g0 ?g1 ?g2 ?g3 ?hf ?_
  case hB =>
    repeat (first
      | exact Below.refl _ _
      | refine Below.drew ?_
      | refine Below.setCell ?_ (by simp <;> omega) _
      | refine Below.alloc ?_ (by simp <;> omega) _)
  case hs => simp <;> omega
  case hA => constructor <;> go_simp
  case h5 => go_simp
  case h62 => go_simp
  case g0 => go_simp
  case g1 => go_simp
  case g2 => go_simp
  case g3 => go_simp
  case hf => go_simp
  intro v0 w2 hB hs hA h73 h62 hfz
  clear app0 app1 app2 app3 hcap hcp hc2 hcm
  go_wp2_with fail
  refine call_free' hB hs hA (by omega) (by omega) (by assumption) ?_
  clear hB hs hA h73 h62 hfz
  intro v1 w3 hB hs hl hv
  go_wp2_with fail
  refine call_same hB hs hl hv ?_
  clear hB hs hl hv
  intro w4 hB hs hl
  go_wp2_with fail
  refine call_grant ok20 hB hs hl ?_
  clear hB hs hl
  intro w5 hB hs hl
  go_wp2_with fail
  refine call_fr hB hs hl ?_
  clear hB hs hl
  intro w6 hB hs hl
  go_wp2_with fail
  refine call_may hB hs hl ?_
  clear hB hs hl
  intro w7 hB
  go_wp2_with fail
  go_ret
  exact ⟨rfl, hB⟩

theorem ok10 (ok20 : DOk Try.prog 20 c20) : DOk Try.prog 10 c10 where
  fn := ⟨Try.f10, _, Try.func10, by kernel_rfl, rfl⟩
  calls F w x vs hF hx _ := by
    have hx : vs = [] := hx
    subst hx
    refine (known_any ok20 w).mono fun e w' => ?_
    rintro ⟨rfl, hb⟩
    exact ⟨_, F, rfl, .refl F, fun b o h => (hb.block b (heap_lt (hF b o h))).trans (hF b o h), fun b o h => .inl h, ⟨hb.os, hb.tape, hb.output, hb.size, fun k hk _ => hb.block k hk⟩, rfl⟩

end Ytghpaejpccpgeaa
end Go.Proofs
