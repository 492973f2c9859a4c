/-
  No cell of these rows narrows 'for every input' (looked for: loops, veiled, ifaces, maps, wideKeys, modest, calm, conditions, laid).
  DERIVED. THE GIVEN ROWS OF THIS SEAT. 7 by the template 'for every input the law returns true; each argument reads behind the call as it read before'; 0 by the template 'total and deterministic' (their statements: YtghpaejpccpgeaaTotals.lean).
  GIVEN WITH THE SEED: the statements are not yours to turn. If you find one false, say at which input.
  Laid BY PROGRAM, IN A SANDBOX (cutbox-rows.mjs): the forced cells as the released guide's own fill.sh prints them over the translation 121014f379e069b6… (all of the seat's roots in one cut). By AI agents, Wed Nov 11 2026. No macro, syntax, notation, axiom, sorry.
-/
import Derived.Test.YtghpaejpccpgeaaChecked
import GoSem.Claim
import GoSem.ClaimJoined
import GoSem.ClaimMapViews
import Derived.JoinedTies
import Derived.KernelRfl
namespace Go.Proofs.Ytghpaejpccpgeaa
/- THE CELL 'sum', in the pinned program and in every row, IS THE sha256 OF THE DUMP (.gsa) THAT YtghpaejpccpgeaaProg.lean LOADS. Nothing in Lean hashes anything: it is a label: what it is worth is what the hold of that sum in a sandbox is worth. -/
noncomputable def Try.pinned : Pinned := { name := "ytghpaejpccpgeaa", sum := "121014f379e069b6a300842c4322b13837e6721e4a4858446ed08cc9e048fb2c", checked := Try.checked }
namespace Rows
def none {H : Type} : Left H := { results := [], args := [] }

/-- 'semaphorelaw35.BankForms': WHATEVER THE INPUT: true; the input reads as it did. -/
def bankFormsSpec : ChangeSpec := { name := "bankForms", fn := fun _ => fun
  | [d1, d2] => { results := [.lit (.bool true)], args := [d1, d2] }
  | _ => none }
def bankFormsRow : OpenClaim := { program := "ytghpaejpccpgeaa", sum := "121014f379e069b6a300842c4322b13837e6721e4a4858446ed08cc9e048fb2c", func := "semaphore/semaphorelaw35.BankForms", spec := "bankForms", unfollowed := true, recurses := true, apart := false }
def BankFormsSaid : Prop := bankFormsRow.holds Try.pinned (OpenSpec.ofChange bankFormsSpec)

/-- ITS FALSE NEIGHBOUR: 'it returns false'. Refute it at one input. -/
def bankFormsWrong : ChangeSpec := { name := "bankForms", fn := fun _ => fun
  | [d1, d2] => { results := [.lit (.bool false)], args := [d1, d2] }
  | _ => none }
def BankFormsWrongFalsely : Prop := bankFormsRow.holds Try.pinned (OpenSpec.ofChange bankFormsWrong)

/-- 'semaphorelaw35.BankGrants': WHATEVER THE INPUT: true; the input reads as it did. -/
def bankGrantsSpec : ChangeSpec := { name := "bankGrants", fn := fun _ => fun
  | [d1, d2, d3] => { results := [.lit (.bool true)], args := [d1, d2, d3] }
  | _ => none }
def bankGrantsRow : OpenClaim := { program := "ytghpaejpccpgeaa", sum := "121014f379e069b6a300842c4322b13837e6721e4a4858446ed08cc9e048fb2c", func := "semaphore/semaphorelaw35.BankGrants", spec := "bankGrants", unfollowed := true, recurses := true, apart := false }
def BankGrantsSaid : Prop := bankGrantsRow.holds Try.pinned (OpenSpec.ofChange bankGrantsSpec)

/-- ITS FALSE NEIGHBOUR: 'it returns false'. Refute it at one input. -/
def bankGrantsWrong : ChangeSpec := { name := "bankGrants", fn := fun _ => fun
  | [d1, d2, d3] => { results := [.lit (.bool false)], args := [d1, d2, d3] }
  | _ => none }
def BankGrantsWrongFalsely : Prop := bankGrantsRow.holds Try.pinned (OpenSpec.ofChange bankGrantsWrong)

/-- 'semaphorelaw35.BankAll': WHATEVER THE INPUT: true; the input reads as it did. -/
def bankAllSpec : ChangeSpec := { name := "bankAll", fn := fun _ => fun
  | [d] => { results := [.lit (.bool true)], args := [d] }
  | _ => none }
def bankAllRow : OpenClaim := { program := "ytghpaejpccpgeaa", sum := "121014f379e069b6a300842c4322b13837e6721e4a4858446ed08cc9e048fb2c", func := "semaphore/semaphorelaw35.BankAll", spec := "bankAll", unfollowed := true, recurses := true, apart := false }
def BankAllSaid : Prop := bankAllRow.holds Try.pinned (OpenSpec.ofChange bankAllSpec)

/-- ITS FALSE NEIGHBOUR: 'it returns false'. Refute it at one input. -/
def bankAllWrong : ChangeSpec := { name := "bankAll", fn := fun _ => fun
  | [d] => { results := [.lit (.bool false)], args := [d] }
  | _ => none }
def BankAllWrongFalsely : Prop := bankAllRow.holds Try.pinned (OpenSpec.ofChange bankAllWrong)

/-- 'semaphorelaw35.BankGoes': WHATEVER THE INPUT: true; the input reads as it did. -/
def bankGoesSpec : ChangeSpec := { name := "bankGoes", fn := fun _ => fun
  | [d] => { results := [.lit (.bool true)], args := [d] }
  | _ => none }
def bankGoesRow : OpenClaim := { program := "ytghpaejpccpgeaa", sum := "121014f379e069b6a300842c4322b13837e6721e4a4858446ed08cc9e048fb2c", func := "semaphore/semaphorelaw35.BankGoes", spec := "bankGoes", unfollowed := true, recurses := true, apart := false }
def BankGoesSaid : Prop := bankGoesRow.holds Try.pinned (OpenSpec.ofChange bankGoesSpec)

/-- ITS FALSE NEIGHBOUR: 'it returns false'. Refute it at one input. -/
def bankGoesWrong : ChangeSpec := { name := "bankGoes", fn := fun _ => fun
  | [d] => { results := [.lit (.bool false)], args := [d] }
  | _ => none }
def BankGoesWrongFalsely : Prop := bankGoesRow.holds Try.pinned (OpenSpec.ofChange bankGoesWrong)

/-- 'semaphorelaw35.BankKeeps': WHATEVER THE INPUT: true; the input reads as it did. -/
def bankKeepsSpec : ChangeSpec := { name := "bankKeeps", fn := fun _ => fun
  | [d1, d2, d3] => { results := [.lit (.bool true)], args := [d1, d2, d3] }
  | _ => none }
def bankKeepsRow : OpenClaim := { program := "ytghpaejpccpgeaa", sum := "121014f379e069b6a300842c4322b13837e6721e4a4858446ed08cc9e048fb2c", func := "semaphore/semaphorelaw35.BankKeeps", spec := "bankKeeps", unfollowed := true, recurses := true, apart := false }
def BankKeepsSaid : Prop := bankKeepsRow.holds Try.pinned (OpenSpec.ofChange bankKeepsSpec)

/-- ITS FALSE NEIGHBOUR: 'it returns false'. Refute it at one input. -/
def bankKeepsWrong : ChangeSpec := { name := "bankKeeps", fn := fun _ => fun
  | [d1, d2, d3] => { results := [.lit (.bool false)], args := [d1, d2, d3] }
  | _ => none }
def BankKeepsWrongFalsely : Prop := bankKeepsRow.holds Try.pinned (OpenSpec.ofChange bankKeepsWrong)

/-- 'semaphorelaw35.BankFirst': WHATEVER THE INPUT: true; the input reads as it did. -/
def bankFirstSpec : ChangeSpec := { name := "bankFirst", fn := fun _ => fun
  | [d] => { results := [.lit (.bool true)], args := [d] }
  | _ => none }
def bankFirstRow : OpenClaim := { program := "ytghpaejpccpgeaa", sum := "121014f379e069b6a300842c4322b13837e6721e4a4858446ed08cc9e048fb2c", func := "semaphore/semaphorelaw35.BankFirst", spec := "bankFirst", unfollowed := true, recurses := true, apart := false }
def BankFirstSaid : Prop := bankFirstRow.holds Try.pinned (OpenSpec.ofChange bankFirstSpec)

/-- ITS FALSE NEIGHBOUR: 'it returns false'. Refute it at one input. -/
def bankFirstWrong : ChangeSpec := { name := "bankFirst", fn := fun _ => fun
  | [d] => { results := [.lit (.bool false)], args := [d] }
  | _ => none }
def BankFirstWrongFalsely : Prop := bankFirstRow.holds Try.pinned (OpenSpec.ofChange bankFirstWrong)

/-- 'semaphorelaw35.BankAfters': WHATEVER THE INPUT: true; the input reads as it did. -/
def bankAftersSpec : ChangeSpec := { name := "bankAfters", fn := fun _ => fun
  | [d] => { results := [.lit (.bool true)], args := [d] }
  | _ => none }
def bankAftersRow : OpenClaim := { program := "ytghpaejpccpgeaa", sum := "121014f379e069b6a300842c4322b13837e6721e4a4858446ed08cc9e048fb2c", func := "semaphore/semaphorelaw35.BankAfters", spec := "bankAfters", unfollowed := true, recurses := true, apart := false }
def BankAftersSaid : Prop := bankAftersRow.holds Try.pinned (OpenSpec.ofChange bankAftersSpec)

/-- ITS FALSE NEIGHBOUR: 'it returns false'. Refute it at one input. -/
def bankAftersWrong : ChangeSpec := { name := "bankAfters", fn := fun _ => fun
  | [d] => { results := [.lit (.bool false)], args := [d] }
  | _ => none }
def BankAftersWrongFalsely : Prop := bankAftersRow.holds Try.pinned (OpenSpec.ofChange bankAftersWrong)

/- THE SECOND FORM. 'bulk': how many values and letters a reading holds, each counted each time it is reached (what is shared counts as often as it is met; a slice's spare places count too). A statement '..UptoSaid' is the law's where the arguments, and the package variables that the reading takes, are together of bulk at most 1048576: NARROWER than '..Said'. Prove '..Said' where nothing that the law and all that it calls make is longer than what came in: it says more and counts as full. Else prove '..UptoSaid'. A law counts once. -/
mutual
def uptoBulk {H : Type} : DataW H → Nat
  | .lit (.string bytes) => bytes.length + 1
  | .lit _ => 1
  | .nil => 1
  | .ptr d => uptoBulk d + 1
  | .slice elems spare => uptoBulkAll elems + uptoBulkAll spare + 1
  | .agg parts => uptoBulkAll parts + 1
  | .iface _ d => uptoBulk d + 1
  | .map entries => uptoBulkEntries entries + 1
  | .held _ => 1
def uptoBulkAll {H : Type} : List (DataW H) → Nat
  | [] => 0
  | d :: r => uptoBulk d + uptoBulkAll r
def uptoBulkEntries {H : Type} : List (Lit × DataW H) → Nat
  | [] => 0
  | x :: r => uptoBulkEntry x + uptoBulkEntries r
def uptoBulkEntry {H : Type} : Lit × DataW H → Nat
  | (.string bytes, d) => bytes.length + uptoBulk d + 1
  | (_, d) => uptoBulk d + 1
 end
def uptoSmall : (H : Type) → List (DataW H) → Bool := fun _ ds => decide (uptoBulkAll ds ≤ 1048576)
def OpenSpec.upto (s : _root_.Go.ChangeSpec) : _root_.Go.OpenSpec := { _root_.Go.OpenSpec.ofChange s with cond := some uptoSmall }

/-- 'semaphorelaw35.BankForms', WHERE WHAT IT READS IS OF BULK AT MOST 1048576: true; the input reads as it did. -/
def bankFormsUptoRow : OpenClaim := { program := "ytghpaejpccpgeaa", sum := "121014f379e069b6a300842c4322b13837e6721e4a4858446ed08cc9e048fb2c", func := "semaphore/semaphorelaw35.BankForms", spec := "bankForms", unfollowed := true, recurses := true, apart := false, narrowed := true }
def BankFormsUptoSaid : Prop := bankFormsUptoRow.holds Try.pinned (OpenSpec.upto bankFormsSpec)

/-- 'semaphorelaw35.BankGrants', WHERE WHAT IT READS IS OF BULK AT MOST 1048576: true; the input reads as it did. -/
def bankGrantsUptoRow : OpenClaim := { program := "ytghpaejpccpgeaa", sum := "121014f379e069b6a300842c4322b13837e6721e4a4858446ed08cc9e048fb2c", func := "semaphore/semaphorelaw35.BankGrants", spec := "bankGrants", unfollowed := true, recurses := true, apart := false, narrowed := true }
def BankGrantsUptoSaid : Prop := bankGrantsUptoRow.holds Try.pinned (OpenSpec.upto bankGrantsSpec)

/-- 'semaphorelaw35.BankAll', WHERE WHAT IT READS IS OF BULK AT MOST 1048576: true; the input reads as it did. -/
def bankAllUptoRow : OpenClaim := { program := "ytghpaejpccpgeaa", sum := "121014f379e069b6a300842c4322b13837e6721e4a4858446ed08cc9e048fb2c", func := "semaphore/semaphorelaw35.BankAll", spec := "bankAll", unfollowed := true, recurses := true, apart := false, narrowed := true }
def BankAllUptoSaid : Prop := bankAllUptoRow.holds Try.pinned (OpenSpec.upto bankAllSpec)

/-- 'semaphorelaw35.BankGoes', WHERE WHAT IT READS IS OF BULK AT MOST 1048576: true; the input reads as it did. -/
def bankGoesUptoRow : OpenClaim := { program := "ytghpaejpccpgeaa", sum := "121014f379e069b6a300842c4322b13837e6721e4a4858446ed08cc9e048fb2c", func := "semaphore/semaphorelaw35.BankGoes", spec := "bankGoes", unfollowed := true, recurses := true, apart := false, narrowed := true }
def BankGoesUptoSaid : Prop := bankGoesUptoRow.holds Try.pinned (OpenSpec.upto bankGoesSpec)

/-- 'semaphorelaw35.BankKeeps', WHERE WHAT IT READS IS OF BULK AT MOST 1048576: true; the input reads as it did. -/
def bankKeepsUptoRow : OpenClaim := { program := "ytghpaejpccpgeaa", sum := "121014f379e069b6a300842c4322b13837e6721e4a4858446ed08cc9e048fb2c", func := "semaphore/semaphorelaw35.BankKeeps", spec := "bankKeeps", unfollowed := true, recurses := true, apart := false, narrowed := true }
def BankKeepsUptoSaid : Prop := bankKeepsUptoRow.holds Try.pinned (OpenSpec.upto bankKeepsSpec)

/-- 'semaphorelaw35.BankFirst', WHERE WHAT IT READS IS OF BULK AT MOST 1048576: true; the input reads as it did. -/
def bankFirstUptoRow : OpenClaim := { program := "ytghpaejpccpgeaa", sum := "121014f379e069b6a300842c4322b13837e6721e4a4858446ed08cc9e048fb2c", func := "semaphore/semaphorelaw35.BankFirst", spec := "bankFirst", unfollowed := true, recurses := true, apart := false, narrowed := true }
def BankFirstUptoSaid : Prop := bankFirstUptoRow.holds Try.pinned (OpenSpec.upto bankFirstSpec)

/-- 'semaphorelaw35.BankAfters', WHERE WHAT IT READS IS OF BULK AT MOST 1048576: true; the input reads as it did. -/
def bankAftersUptoRow : OpenClaim := { program := "ytghpaejpccpgeaa", sum := "121014f379e069b6a300842c4322b13837e6721e4a4858446ed08cc9e048fb2c", func := "semaphore/semaphorelaw35.BankAfters", spec := "bankAfters", unfollowed := true, recurses := true, apart := false, narrowed := true }
def BankAftersUptoSaid : Prop := bankAftersUptoRow.holds Try.pinned (OpenSpec.upto bankAftersSpec)

end Rows
end Go.Proofs.Ytghpaejpccpgeaa
