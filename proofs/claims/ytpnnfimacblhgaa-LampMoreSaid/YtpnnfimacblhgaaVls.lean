/-
  What the statements' proofs share.
-/
import Derived.Test.YtpnnfimacblhgaaRows
import Derived.Test.YtpnnfimacblhgaaVlj
import Derived.Test.YtpnnfimacblhgaaVcx
import Derived.WalkKit
import Derived.ProofKit
import Derived.OpenShut
import Derived.ShutString
import Derived.ChangeOld
import Derived.Below
set_option maxRecDepth 100000
set_option linter.unusedVariables false
namespace Go.Proofs.Ytpnnfimacblhgaa
open Go Go.Vc
open Go.ChangeShapes Go.WideShapes Go.ChangeAt Go.RowKit
open Go.ChangeMaps (open_string shut_string)

theorem own : ownKnob Try.prog.godebug = none := by kernel_rfl
theorem laidOut : laidOutB Try.prog = true := by kernel_rfl

theorem law_calls {P : Program} {f : Nat} {ts : List Ty} (h : DOk P f (lawCon ts)) {W : World} {x : Tup ts} {vs : List Value} (hv : VReps (memOf W) ts x vs) :
    Calls P f vs.toArray W fun e w' => e = .returned (.bool true) ∧ Below W.heap.size W w' := by
  refine (h.calls (memOf W) W x vs (fun b o h => h) hv trivial).mono fun e w' => ?_
  rintro ⟨v, F', rfl, _, _, _, hk, hout⟩
  have hout : [v] = [Value.bool true] := hout
  simp only [List.cons.injEq, and_true] at hout
  exact ⟨by rw [hout], ⟨hk.os, hk.tape, hk.output, hk.size, fun k hk' => hk.block k hk' (fun h => h)⟩⟩

end Go.Proofs.Ytpnnfimacblhgaa
