/-
  No cell of these rows narrows 'for every input' (looked for: loops, veiled, ifaces, maps, wideKeys, modest, calm, conditions, laid).
  DERIVED. THE GIVEN ROWS OF THIS SEAT. 6 by the template 'for every input the law returns true; each argument reads behind the call as it read before'; 0 by the template 'total and deterministic' (their statements: YtpjgggcaamigdaaTotals.lean).
  GIVEN WITH THE SEED: the statements are not yours to turn. If you find one false, say at which input.
  Laid BY PROGRAM, IN A SANDBOX (cutbox-rows.mjs): the forced cells as the released guide's own fill.sh prints them over the translation f9abf4b8032d18ee… (all of the seat's roots in one cut). By AI agents, Wed Nov 11 2026. No macro, syntax, notation, axiom, sorry.
-/
import Derived.Test.YtpjgggcaamigdaaChecked
import GoSem.Claim
import GoSem.ClaimJoined
import GoSem.ClaimMapViews
import Derived.JoinedTies
import Derived.KernelRfl
namespace Go.Proofs.Ytpjgggcaamigdaa
/- THE CELL 'sum', in the pinned program and in every row, IS THE sha256 OF THE DUMP (.gsa) THAT YtpjgggcaamigdaaProg.lean LOADS. Nothing in Lean hashes anything: it is a label: what it is worth is what the hold of that sum in a sandbox is worth. -/
noncomputable def Try.pinned : Pinned := { name := "ytpjgggcaamigdaa", sum := "f9abf4b8032d18ee4c68463361b763f8d8c7ba0da5cfbdf46637d5e04ceef4e6", checked := Try.checked }
namespace Rows
def none {H : Type} : Left H := { results := [], args := [] }

/-- 'semaphorelaw17.StageNexts': WHATEVER THE INPUT: true; the input reads as it did. -/
def stageNextsSpec : ChangeSpec := { name := "stageNexts", fn := fun _ => fun
  | [d1, d2] => { results := [.lit (.bool true)], args := [d1, d2] }
  | _ => none }
def stageNextsRow : OpenClaim := { program := "ytpjgggcaamigdaa", sum := "f9abf4b8032d18ee4c68463361b763f8d8c7ba0da5cfbdf46637d5e04ceef4e6", func := "semaphore/semaphorelaw17.StageNexts", spec := "stageNexts", apart := false }
def StageNextsSaid : Prop := stageNextsRow.holds Try.pinned (OpenSpec.ofChange stageNextsSpec)

/-- ITS FALSE NEIGHBOUR: 'it returns false'. Refute it at one input. -/
def stageNextsWrong : ChangeSpec := { name := "stageNexts", fn := fun _ => fun
  | [d1, d2] => { results := [.lit (.bool false)], args := [d1, d2] }
  | _ => none }
def StageNextsWrongFalsely : Prop := stageNextsRow.holds Try.pinned (OpenSpec.ofChange stageNextsWrong)

/-- 'semaphorelaw17.StageRuns': WHATEVER THE INPUT: true; the input reads as it did. -/
def stageRunsSpec : ChangeSpec := { name := "stageRuns", fn := fun _ => fun
  | [d1, d2] => { results := [.lit (.bool true)], args := [d1, d2] }
  | _ => none }
def stageRunsRow : OpenClaim := { program := "ytpjgggcaamigdaa", sum := "f9abf4b8032d18ee4c68463361b763f8d8c7ba0da5cfbdf46637d5e04ceef4e6", func := "semaphore/semaphorelaw17.StageRuns", spec := "stageRuns", apart := false }
def StageRunsSaid : Prop := stageRunsRow.holds Try.pinned (OpenSpec.ofChange stageRunsSpec)

/-- ITS FALSE NEIGHBOUR: 'it returns false'. Refute it at one input. -/
def stageRunsWrong : ChangeSpec := { name := "stageRuns", fn := fun _ => fun
  | [d1, d2] => { results := [.lit (.bool false)], args := [d1, d2] }
  | _ => none }
def StageRunsWrongFalsely : Prop := stageRunsRow.holds Try.pinned (OpenSpec.ofChange stageRunsWrong)

/-- 'semaphorelaw17.StageOnce': WHATEVER THE INPUT: true; the input reads as it did. -/
def stageOnceSpec : ChangeSpec := { name := "stageOnce", fn := fun _ => fun
  | [d1, d2] => { results := [.lit (.bool true)], args := [d1, d2] }
  | _ => none }
def stageOnceRow : OpenClaim := { program := "ytpjgggcaamigdaa", sum := "f9abf4b8032d18ee4c68463361b763f8d8c7ba0da5cfbdf46637d5e04ceef4e6", func := "semaphore/semaphorelaw17.StageOnce", spec := "stageOnce", apart := false }
def StageOnceSaid : Prop := stageOnceRow.holds Try.pinned (OpenSpec.ofChange stageOnceSpec)

/-- ITS FALSE NEIGHBOUR: 'it returns false'. Refute it at one input. -/
def stageOnceWrong : ChangeSpec := { name := "stageOnce", fn := fun _ => fun
  | [d1, d2] => { results := [.lit (.bool false)], args := [d1, d2] }
  | _ => none }
def StageOnceWrongFalsely : Prop := stageOnceRow.holds Try.pinned (OpenSpec.ofChange stageOnceWrong)

/-- 'semaphorelaw17.StageTrain': WHATEVER THE INPUT: true; the input reads as it did. -/
def stageTrainSpec : ChangeSpec := { name := "stageTrain", fn := fun _ => fun
  | [d1, d2, d3] => { results := [.lit (.bool true)], args := [d1, d2, d3] }
  | _ => none }
def stageTrainRow : OpenClaim := { program := "ytpjgggcaamigdaa", sum := "f9abf4b8032d18ee4c68463361b763f8d8c7ba0da5cfbdf46637d5e04ceef4e6", func := "semaphore/semaphorelaw17.StageTrain", spec := "stageTrain", apart := false }
def StageTrainSaid : Prop := stageTrainRow.holds Try.pinned (OpenSpec.ofChange stageTrainSpec)

/-- ITS FALSE NEIGHBOUR: 'it returns false'. Refute it at one input. -/
def stageTrainWrong : ChangeSpec := { name := "stageTrain", fn := fun _ => fun
  | [d1, d2, d3] => { results := [.lit (.bool false)], args := [d1, d2, d3] }
  | _ => none }
def StageTrainWrongFalsely : Prop := stageTrainRow.holds Try.pinned (OpenSpec.ofChange stageTrainWrong)

/-- 'semaphorelaw17.StageHeld': WHATEVER THE INPUT: true; the input reads as it did. -/
def stageHeldSpec : ChangeSpec := { name := "stageHeld", fn := fun _ => fun
  | [d1, d2, d3] => { results := [.lit (.bool true)], args := [d1, d2, d3] }
  | _ => none }
def stageHeldRow : OpenClaim := { program := "ytpjgggcaamigdaa", sum := "f9abf4b8032d18ee4c68463361b763f8d8c7ba0da5cfbdf46637d5e04ceef4e6", func := "semaphore/semaphorelaw17.StageHeld", spec := "stageHeld", apart := false }
def StageHeldSaid : Prop := stageHeldRow.holds Try.pinned (OpenSpec.ofChange stageHeldSpec)

/-- ITS FALSE NEIGHBOUR: 'it returns false'. Refute it at one input. -/
def stageHeldWrong : ChangeSpec := { name := "stageHeld", fn := fun _ => fun
  | [d1, d2, d3] => { results := [.lit (.bool false)], args := [d1, d2, d3] }
  | _ => none }
def StageHeldWrongFalsely : Prop := stageHeldRow.holds Try.pinned (OpenSpec.ofChange stageHeldWrong)

/-- 'semaphorelaw17.StageClear': WHATEVER THE INPUT: true; the input reads as it did. -/
def stageClearSpec : ChangeSpec := { name := "stageClear", fn := fun _ => fun
  | [d1, d2] => { results := [.lit (.bool true)], args := [d1, d2] }
  | _ => none }
def stageClearRow : OpenClaim := { program := "ytpjgggcaamigdaa", sum := "f9abf4b8032d18ee4c68463361b763f8d8c7ba0da5cfbdf46637d5e04ceef4e6", func := "semaphore/semaphorelaw17.StageClear", spec := "stageClear", apart := false }
def StageClearSaid : Prop := stageClearRow.holds Try.pinned (OpenSpec.ofChange stageClearSpec)

/-- ITS FALSE NEIGHBOUR: 'it returns false'. Refute it at one input. -/
def stageClearWrong : ChangeSpec := { name := "stageClear", fn := fun _ => fun
  | [d1, d2] => { results := [.lit (.bool false)], args := [d1, d2] }
  | _ => none }
def StageClearWrongFalsely : Prop := stageClearRow.holds Try.pinned (OpenSpec.ofChange stageClearWrong)

/- THE SECOND FORM. 'bulk': how many values and letters a reading holds, each counted each time it is reached (what is shared counts as often as it is met; a slice's spare places count too). A statement '..UptoSaid' is the law's where the arguments, and the package variables that the reading takes, are together of bulk at most 1048576: NARROWER than '..Said'. Prove '..Said' where nothing that the law and all that it calls make is longer than what came in: it says more and counts as full. Else prove '..UptoSaid'. A law counts once. -/
mutual
def uptoBulk {H : Type} : DataW H → Nat
  | .lit (.string bytes) => bytes.length + 1
  | .lit _ => 1
  | .nil => 1
  | .ptr d => uptoBulk d + 1
  | .slice elems spare => uptoBulkAll elems + uptoBulkAll spare + 1
  | .agg parts => uptoBulkAll parts + 1
  | .iface _ d => uptoBulk d + 1
  | .map entries => uptoBulkEntries entries + 1
  | .held _ => 1
def uptoBulkAll {H : Type} : List (DataW H) → Nat
  | [] => 0
  | d :: r => uptoBulk d + uptoBulkAll r
def uptoBulkEntries {H : Type} : List (Lit × DataW H) → Nat
  | [] => 0
  | x :: r => uptoBulkEntry x + uptoBulkEntries r
def uptoBulkEntry {H : Type} : Lit × DataW H → Nat
  | (.string bytes, d) => bytes.length + uptoBulk d + 1
  | (_, d) => uptoBulk d + 1
 end
def uptoSmall : (H : Type) → List (DataW H) → Bool := fun _ ds => decide (uptoBulkAll ds ≤ 1048576)
def OpenSpec.upto (s : _root_.Go.ChangeSpec) : _root_.Go.OpenSpec := { _root_.Go.OpenSpec.ofChange s with cond := some uptoSmall }

/-- 'semaphorelaw17.StageNexts', WHERE WHAT IT READS IS OF BULK AT MOST 1048576: true; the input reads as it did. -/
def stageNextsUptoRow : OpenClaim := { program := "ytpjgggcaamigdaa", sum := "f9abf4b8032d18ee4c68463361b763f8d8c7ba0da5cfbdf46637d5e04ceef4e6", func := "semaphore/semaphorelaw17.StageNexts", spec := "stageNexts", apart := false, narrowed := true }
def StageNextsUptoSaid : Prop := stageNextsUptoRow.holds Try.pinned (OpenSpec.upto stageNextsSpec)

/-- 'semaphorelaw17.StageRuns', WHERE WHAT IT READS IS OF BULK AT MOST 1048576: true; the input reads as it did. -/
def stageRunsUptoRow : OpenClaim := { program := "ytpjgggcaamigdaa", sum := "f9abf4b8032d18ee4c68463361b763f8d8c7ba0da5cfbdf46637d5e04ceef4e6", func := "semaphore/semaphorelaw17.StageRuns", spec := "stageRuns", apart := false, narrowed := true }
def StageRunsUptoSaid : Prop := stageRunsUptoRow.holds Try.pinned (OpenSpec.upto stageRunsSpec)

/-- 'semaphorelaw17.StageOnce', WHERE WHAT IT READS IS OF BULK AT MOST 1048576: true; the input reads as it did. -/
def stageOnceUptoRow : OpenClaim := { program := "ytpjgggcaamigdaa", sum := "f9abf4b8032d18ee4c68463361b763f8d8c7ba0da5cfbdf46637d5e04ceef4e6", func := "semaphore/semaphorelaw17.StageOnce", spec := "stageOnce", apart := false, narrowed := true }
def StageOnceUptoSaid : Prop := stageOnceUptoRow.holds Try.pinned (OpenSpec.upto stageOnceSpec)

/-- 'semaphorelaw17.StageTrain', WHERE WHAT IT READS IS OF BULK AT MOST 1048576: true; the input reads as it did. -/
def stageTrainUptoRow : OpenClaim := { program := "ytpjgggcaamigdaa", sum := "f9abf4b8032d18ee4c68463361b763f8d8c7ba0da5cfbdf46637d5e04ceef4e6", func := "semaphore/semaphorelaw17.StageTrain", spec := "stageTrain", apart := false, narrowed := true }
def StageTrainUptoSaid : Prop := stageTrainUptoRow.holds Try.pinned (OpenSpec.upto stageTrainSpec)

/-- 'semaphorelaw17.StageHeld', WHERE WHAT IT READS IS OF BULK AT MOST 1048576: true; the input reads as it did. -/
def stageHeldUptoRow : OpenClaim := { program := "ytpjgggcaamigdaa", sum := "f9abf4b8032d18ee4c68463361b763f8d8c7ba0da5cfbdf46637d5e04ceef4e6", func := "semaphore/semaphorelaw17.StageHeld", spec := "stageHeld", apart := false, narrowed := true }
def StageHeldUptoSaid : Prop := stageHeldUptoRow.holds Try.pinned (OpenSpec.upto stageHeldSpec)

/-- 'semaphorelaw17.StageClear', WHERE WHAT IT READS IS OF BULK AT MOST 1048576: true; the input reads as it did. -/
def stageClearUptoRow : OpenClaim := { program := "ytpjgggcaamigdaa", sum := "f9abf4b8032d18ee4c68463361b763f8d8c7ba0da5cfbdf46637d5e04ceef4e6", func := "semaphore/semaphorelaw17.StageClear", spec := "stageClear", apart := false, narrowed := true }
def StageClearUptoSaid : Prop := stageClearUptoRow.holds Try.pinned (OpenSpec.upto stageClearSpec)

end Rows
end Go.Proofs.Ytpjgggcaamigdaa
