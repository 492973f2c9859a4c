/-
  No cell of these rows narrows 'for every input' (looked for: loops, veiled, ifaces, maps, wideKeys, modest, calm, conditions, laid).
  DERIVED. THE GIVEN ROWS OF THIS SEAT. 4 by the template 'for every input the law returns true; each argument reads behind the call as it read before'; 0 by the template 'total and deterministic' (their statements: YtjmmamlipkbckaaTotals.lean).
  GIVEN WITH THE SEED: the statements are not yours to turn. If you find one false, say at which input.
  Laid BY PROGRAM, IN A SANDBOX (cutbox-rows.mjs): the forced cells as the released guide's own fill.sh prints them over the translation 87df7ac70deabb3f… (all of the seat's roots in one cut). By AI agents, Wed Nov 11 2026. No macro, syntax, notation, axiom, sorry.
-/
import Derived.Test.YtjmmamlipkbckaaChecked
import GoSem.Claim
import GoSem.ClaimJoined
import GoSem.ClaimMapViews
import Derived.JoinedTies
import Derived.KernelRfl
namespace Go.Proofs.Ytjmmamlipkbckaa
/- THE CELL 'sum', in the pinned program and in every row, IS THE sha256 OF THE DUMP (.gsa) THAT YtjmmamlipkbckaaProg.lean LOADS. Nothing in Lean hashes anything: it is a label: what it is worth is what the hold of that sum in a sandbox is worth. -/
noncomputable def Try.pinned : Pinned := { name := "ytjmmamlipkbckaa", sum := "87df7ac70deabb3f7db1155f7c306b45d1ad57e437eebe480546967b99b57622", checked := Try.checked }
namespace Rows
def none {H : Type} : Left H := { results := [], args := [] }

/-- 'semaphorelaw27.NoteLogs': WHATEVER THE INPUT: true; the input reads as it did. -/
def noteLogsSpec : ChangeSpec := { name := "noteLogs", fn := fun _ => fun
  | [d] => { results := [.lit (.bool true)], args := [d] }
  | _ => none }
def noteLogsRow : OpenClaim := { program := "ytjmmamlipkbckaa", sum := "87df7ac70deabb3f7db1155f7c306b45d1ad57e437eebe480546967b99b57622", func := "semaphore/semaphorelaw27.NoteLogs", spec := "noteLogs", unfollowed := true, recurses := true, apart := false }
def NoteLogsSaid : Prop := noteLogsRow.holds Try.pinned (OpenSpec.ofChange noteLogsSpec)

/-- ITS FALSE NEIGHBOUR: 'it returns false'. Refute it at one input. -/
def noteLogsWrong : ChangeSpec := { name := "noteLogs", fn := fun _ => fun
  | [d] => { results := [.lit (.bool false)], args := [d] }
  | _ => none }
def NoteLogsWrongFalsely : Prop := noteLogsRow.holds Try.pinned (OpenSpec.ofChange noteLogsWrong)

/-- 'semaphorelaw27.NoteReads': WHATEVER THE INPUT: true; the input reads as it did. -/
def noteReadsSpec : ChangeSpec := { name := "noteReads", fn := fun _ => fun
  | [d] => { results := [.lit (.bool true)], args := [d] }
  | _ => none }
def noteReadsRow : OpenClaim := { program := "ytjmmamlipkbckaa", sum := "87df7ac70deabb3f7db1155f7c306b45d1ad57e437eebe480546967b99b57622", func := "semaphore/semaphorelaw27.NoteReads", spec := "noteReads", unfollowed := true, recurses := true, apart := false }
def NoteReadsSaid : Prop := noteReadsRow.holds Try.pinned (OpenSpec.ofChange noteReadsSpec)

/-- ITS FALSE NEIGHBOUR: 'it returns false'. Refute it at one input. -/
def noteReadsWrong : ChangeSpec := { name := "noteReads", fn := fun _ => fun
  | [d] => { results := [.lit (.bool false)], args := [d] }
  | _ => none }
def NoteReadsWrongFalsely : Prop := noteReadsRow.holds Try.pinned (OpenSpec.ofChange noteReadsWrong)

/-- 'semaphorelaw27.NoteSpoilt': WHATEVER THE INPUT: true; the input reads as it did. -/
def noteSpoiltSpec : ChangeSpec := { name := "noteSpoilt", fn := fun _ => fun
  | [d1, d2, d3, d4] => { results := [.lit (.bool true)], args := [d1, d2, d3, d4] }
  | _ => none }
def noteSpoiltRow : OpenClaim := { program := "ytjmmamlipkbckaa", sum := "87df7ac70deabb3f7db1155f7c306b45d1ad57e437eebe480546967b99b57622", func := "semaphore/semaphorelaw27.NoteSpoilt", spec := "noteSpoilt", unfollowed := true, recurses := true, apart := false }
def NoteSpoiltSaid : Prop := noteSpoiltRow.holds Try.pinned (OpenSpec.ofChange noteSpoiltSpec)

/-- ITS FALSE NEIGHBOUR: 'it returns false'. Refute it at one input. -/
def noteSpoiltWrong : ChangeSpec := { name := "noteSpoilt", fn := fun _ => fun
  | [d1, d2, d3, d4] => { results := [.lit (.bool false)], args := [d1, d2, d3, d4] }
  | _ => none }
def NoteSpoiltWrongFalsely : Prop := noteSpoiltRow.holds Try.pinned (OpenSpec.ofChange noteSpoiltWrong)

/-- 'semaphorelaw27.NoteApart': WHATEVER THE INPUT: true; the input reads as it did. -/
def noteApartSpec : ChangeSpec := { name := "noteApart", fn := fun _ => fun
  | [d1, d2] => { results := [.lit (.bool true)], args := [d1, d2] }
  | _ => none }
def noteApartRow : OpenClaim := { program := "ytjmmamlipkbckaa", sum := "87df7ac70deabb3f7db1155f7c306b45d1ad57e437eebe480546967b99b57622", func := "semaphore/semaphorelaw27.NoteApart", spec := "noteApart", unfollowed := true, recurses := true, apart := false }
def NoteApartSaid : Prop := noteApartRow.holds Try.pinned (OpenSpec.ofChange noteApartSpec)

/-- ITS FALSE NEIGHBOUR: 'it returns false'. Refute it at one input. -/
def noteApartWrong : ChangeSpec := { name := "noteApart", fn := fun _ => fun
  | [d1, d2] => { results := [.lit (.bool false)], args := [d1, d2] }
  | _ => none }
def NoteApartWrongFalsely : Prop := noteApartRow.holds Try.pinned (OpenSpec.ofChange noteApartWrong)

/- THE SECOND FORM. 'bulk': how many values and letters a reading holds, each counted each time it is reached (what is shared counts as often as it is met; a slice's spare places count too). A statement '..UptoSaid' is the law's where the arguments, and the package variables that the reading takes, are together of bulk at most 1048576: NARROWER than '..Said'. Prove '..Said' where nothing that the law and all that it calls make is longer than what came in: it says more and counts as full. Else prove '..UptoSaid'. A law counts once. -/
mutual
def uptoBulk {H : Type} : DataW H → Nat
  | .lit (.string bytes) => bytes.length + 1
  | .lit _ => 1
  | .nil => 1
  | .ptr d => uptoBulk d + 1
  | .slice elems spare => uptoBulkAll elems + uptoBulkAll spare + 1
  | .agg parts => uptoBulkAll parts + 1
  | .iface _ d => uptoBulk d + 1
  | .map entries => uptoBulkEntries entries + 1
  | .held _ => 1
def uptoBulkAll {H : Type} : List (DataW H) → Nat
  | [] => 0
  | d :: r => uptoBulk d + uptoBulkAll r
def uptoBulkEntries {H : Type} : List (Lit × DataW H) → Nat
  | [] => 0
  | x :: r => uptoBulkEntry x + uptoBulkEntries r
def uptoBulkEntry {H : Type} : Lit × DataW H → Nat
  | (.string bytes, d) => bytes.length + uptoBulk d + 1
  | (_, d) => uptoBulk d + 1
 end
def uptoSmall : (H : Type) → List (DataW H) → Bool := fun _ ds => decide (uptoBulkAll ds ≤ 1048576)
def OpenSpec.upto (s : _root_.Go.ChangeSpec) : _root_.Go.OpenSpec := { _root_.Go.OpenSpec.ofChange s with cond := some uptoSmall }

/-- 'semaphorelaw27.NoteLogs', WHERE WHAT IT READS IS OF BULK AT MOST 1048576: true; the input reads as it did. -/
def noteLogsUptoRow : OpenClaim := { program := "ytjmmamlipkbckaa", sum := "87df7ac70deabb3f7db1155f7c306b45d1ad57e437eebe480546967b99b57622", func := "semaphore/semaphorelaw27.NoteLogs", spec := "noteLogs", unfollowed := true, recurses := true, apart := false, narrowed := true }
def NoteLogsUptoSaid : Prop := noteLogsUptoRow.holds Try.pinned (OpenSpec.upto noteLogsSpec)

/-- 'semaphorelaw27.NoteReads', WHERE WHAT IT READS IS OF BULK AT MOST 1048576: true; the input reads as it did. -/
def noteReadsUptoRow : OpenClaim := { program := "ytjmmamlipkbckaa", sum := "87df7ac70deabb3f7db1155f7c306b45d1ad57e437eebe480546967b99b57622", func := "semaphore/semaphorelaw27.NoteReads", spec := "noteReads", unfollowed := true, recurses := true, apart := false, narrowed := true }
def NoteReadsUptoSaid : Prop := noteReadsUptoRow.holds Try.pinned (OpenSpec.upto noteReadsSpec)

/-- 'semaphorelaw27.NoteSpoilt', WHERE WHAT IT READS IS OF BULK AT MOST 1048576: true; the input reads as it did. -/
def noteSpoiltUptoRow : OpenClaim := { program := "ytjmmamlipkbckaa", sum := "87df7ac70deabb3f7db1155f7c306b45d1ad57e437eebe480546967b99b57622", func := "semaphore/semaphorelaw27.NoteSpoilt", spec := "noteSpoilt", unfollowed := true, recurses := true, apart := false, narrowed := true }
def NoteSpoiltUptoSaid : Prop := noteSpoiltUptoRow.holds Try.pinned (OpenSpec.upto noteSpoiltSpec)

/-- 'semaphorelaw27.NoteApart', WHERE WHAT IT READS IS OF BULK AT MOST 1048576: true; the input reads as it did. -/
def noteApartUptoRow : OpenClaim := { program := "ytjmmamlipkbckaa", sum := "87df7ac70deabb3f7db1155f7c306b45d1ad57e437eebe480546967b99b57622", func := "semaphore/semaphorelaw27.NoteApart", spec := "noteApart", unfollowed := true, recurses := true, apart := false, narrowed := true }
def NoteApartUptoSaid : Prop := noteApartUptoRow.holds Try.pinned (OpenSpec.upto noteApartSpec)

end Rows
end Go.Proofs.Ytjmmamlipkbckaa
