/-
  No cell of these rows narrows 'for every input' (looked for: loops, veiled, ifaces, maps, wideKeys, modest, calm, conditions, laid).
  DERIVED. THE GIVEN ROWS OF THIS SEAT. 3 by the template 'for every input the law returns true; each argument reads behind the call as it read before'; 0 by the template 'total and deterministic' (their statements: YtpnnfimacblhgaaGreatTotals.lean).
  GIVEN WITH THE SEED: the statements are not yours to turn. If you find one false, say at which input.
  Laid BY PROGRAM, IN A SANDBOX (cutbox-rows.mjs): the forced cells as the released guide's own fill.sh prints them over the translation 54adbbf865b5d05e… (all of the seat's roots in one cut). By AI agents, Wed Nov 11 2026. No macro, syntax, notation, axiom, sorry.
-/
import Derived.Test.YtpnnfimacblhgaaGreatChecked
import GoSem.Claim
import GoSem.ClaimJoined
import GoSem.ClaimMapViews
import Derived.JoinedTies
import Derived.KernelRfl
namespace Go.Proofs.YtpnnfimacblhgaaGreat
/- THE CELL 'sum', in the pinned program and in every row, IS THE sha256 OF THE DUMP (.gsa) THAT YtpnnfimacblhgaaGreatProg.lean LOADS. Nothing in Lean hashes anything: it is a label: what it is worth is what the hold of that sum in a sandbox is worth. -/
noncomputable def Tryz.pinned : Pinned := { name := "ytpnnfimacblhgaagreat", sum := "54adbbf865b5d05ecbc5153f0ed536a95d6b4aa3f26974b2a421d5f8ca0aee2b", checked := Tryz.checked }
namespace Rows
def none {H : Type} : Left H := { results := [], args := [] }

/-- 'semaphorelaw15.TokenWants': WHATEVER THE INPUT: true; the input reads as it did. -/
def tokenWantsSpec : ChangeSpec := { name := "tokenWants", fn := fun _ => fun
  | [d1, d2] => { results := [.lit (.bool true)], args := [d1, d2] }
  | _ => none }
def tokenWantsRow : OpenClaim := { program := "ytpnnfimacblhgaagreat", sum := "54adbbf865b5d05ecbc5153f0ed536a95d6b4aa3f26974b2a421d5f8ca0aee2b", func := "semaphore/semaphorelaw15.TokenWants", spec := "tokenWants", unfollowed := true, recurses := true, plainKeys := false, apart := false }
def TokenWantsSaid : Prop := tokenWantsRow.holds Tryz.pinned (OpenSpec.ofChange tokenWantsSpec)

/-- ITS FALSE NEIGHBOUR: 'it returns false'. Refute it at one input. -/
def tokenWantsWrong : ChangeSpec := { name := "tokenWants", fn := fun _ => fun
  | [d1, d2] => { results := [.lit (.bool false)], args := [d1, d2] }
  | _ => none }
def TokenWantsWrongFalsely : Prop := tokenWantsRow.holds Tryz.pinned (OpenSpec.ofChange tokenWantsWrong)

/-- 'semaphorelaw15.TokenOne': WHATEVER THE INPUT: true; the input reads as it did. -/
def tokenOneSpec : ChangeSpec := { name := "tokenOne", fn := fun _ => fun
  | [d1, d2, d3] => { results := [.lit (.bool true)], args := [d1, d2, d3] }
  | _ => none }
def tokenOneRow : OpenClaim := { program := "ytpnnfimacblhgaagreat", sum := "54adbbf865b5d05ecbc5153f0ed536a95d6b4aa3f26974b2a421d5f8ca0aee2b", func := "semaphore/semaphorelaw15.TokenOne", spec := "tokenOne", unfollowed := true, recurses := true, plainKeys := false, apart := false }
def TokenOneSaid : Prop := tokenOneRow.holds Tryz.pinned (OpenSpec.ofChange tokenOneSpec)

/-- ITS FALSE NEIGHBOUR: 'it returns false'. Refute it at one input. -/
def tokenOneWrong : ChangeSpec := { name := "tokenOne", fn := fun _ => fun
  | [d1, d2, d3] => { results := [.lit (.bool false)], args := [d1, d2, d3] }
  | _ => none }
def TokenOneWrongFalsely : Prop := tokenOneRow.holds Tryz.pinned (OpenSpec.ofChange tokenOneWrong)

/-- 'semaphorelaw16.CallMoves': WHATEVER THE INPUT: true; the input reads as it did. -/
def callMovesSpec : ChangeSpec := { name := "callMoves", fn := fun _ => fun
  | [d1, d2, d3] => { results := [.lit (.bool true)], args := [d1, d2, d3] }
  | _ => none }
def callMovesRow : OpenClaim := { program := "ytpnnfimacblhgaagreat", sum := "54adbbf865b5d05ecbc5153f0ed536a95d6b4aa3f26974b2a421d5f8ca0aee2b", func := "semaphore/semaphorelaw16.CallMoves", spec := "callMoves", unfollowed := true, recurses := true, plainKeys := false, apart := false }
def CallMovesSaid : Prop := callMovesRow.holds Tryz.pinned (OpenSpec.ofChange callMovesSpec)

/-- ITS FALSE NEIGHBOUR: 'it returns false'. Refute it at one input. -/
def callMovesWrong : ChangeSpec := { name := "callMoves", fn := fun _ => fun
  | [d1, d2, d3] => { results := [.lit (.bool false)], args := [d1, d2, d3] }
  | _ => none }
def CallMovesWrongFalsely : Prop := callMovesRow.holds Tryz.pinned (OpenSpec.ofChange callMovesWrong)

/- THE SECOND FORM. 'bulk': how many values and letters a reading holds, each counted each time it is reached (what is shared counts as often as it is met; a slice's spare places count too). A statement '..UptoSaid' is the law's where the arguments, and the package variables that the reading takes, are together of bulk at most 1048576: NARROWER than '..Said'. Prove '..Said' where nothing that the law and all that it calls make is longer than what came in: it says more and counts as full. Else prove '..UptoSaid'. A law counts once. -/
mutual
def uptoBulk {H : Type} : DataW H → Nat
  | .lit (.string bytes) => bytes.length + 1
  | .lit _ => 1
  | .nil => 1
  | .ptr d => uptoBulk d + 1
  | .slice elems spare => uptoBulkAll elems + uptoBulkAll spare + 1
  | .agg parts => uptoBulkAll parts + 1
  | .iface _ d => uptoBulk d + 1
  | .map entries => uptoBulkEntries entries + 1
  | .held _ => 1
def uptoBulkAll {H : Type} : List (DataW H) → Nat
  | [] => 0
  | d :: r => uptoBulk d + uptoBulkAll r
def uptoBulkEntries {H : Type} : List (Lit × DataW H) → Nat
  | [] => 0
  | x :: r => uptoBulkEntry x + uptoBulkEntries r
def uptoBulkEntry {H : Type} : Lit × DataW H → Nat
  | (.string bytes, d) => bytes.length + uptoBulk d + 1
  | (_, d) => uptoBulk d + 1
 end
def uptoSmall : (H : Type) → List (DataW H) → Bool := fun _ ds => decide (uptoBulkAll ds ≤ 1048576)
def OpenSpec.upto (s : _root_.Go.ChangeSpec) : _root_.Go.OpenSpec := { _root_.Go.OpenSpec.ofChange s with cond := some uptoSmall }

/-- 'semaphorelaw15.TokenWants', WHERE WHAT IT READS IS OF BULK AT MOST 1048576: true; the input reads as it did. -/
def tokenWantsUptoRow : OpenClaim := { program := "ytpnnfimacblhgaagreat", sum := "54adbbf865b5d05ecbc5153f0ed536a95d6b4aa3f26974b2a421d5f8ca0aee2b", func := "semaphore/semaphorelaw15.TokenWants", spec := "tokenWants", unfollowed := true, recurses := true, plainKeys := false, apart := false, narrowed := true }
def TokenWantsUptoSaid : Prop := tokenWantsUptoRow.holds Tryz.pinned (OpenSpec.upto tokenWantsSpec)

/-- 'semaphorelaw15.TokenOne', WHERE WHAT IT READS IS OF BULK AT MOST 1048576: true; the input reads as it did. -/
def tokenOneUptoRow : OpenClaim := { program := "ytpnnfimacblhgaagreat", sum := "54adbbf865b5d05ecbc5153f0ed536a95d6b4aa3f26974b2a421d5f8ca0aee2b", func := "semaphore/semaphorelaw15.TokenOne", spec := "tokenOne", unfollowed := true, recurses := true, plainKeys := false, apart := false, narrowed := true }
def TokenOneUptoSaid : Prop := tokenOneUptoRow.holds Tryz.pinned (OpenSpec.upto tokenOneSpec)

/-- 'semaphorelaw16.CallMoves', WHERE WHAT IT READS IS OF BULK AT MOST 1048576: true; the input reads as it did. -/
def callMovesUptoRow : OpenClaim := { program := "ytpnnfimacblhgaagreat", sum := "54adbbf865b5d05ecbc5153f0ed536a95d6b4aa3f26974b2a421d5f8ca0aee2b", func := "semaphore/semaphorelaw16.CallMoves", spec := "callMoves", unfollowed := true, recurses := true, plainKeys := false, apart := false, narrowed := true }
def CallMovesUptoSaid : Prop := callMovesUptoRow.holds Tryz.pinned (OpenSpec.upto callMovesSpec)

end Rows
end Go.Proofs.YtpnnfimacblhgaaGreat
