/-
  No cell of these rows narrows 'for every input' (looked for: loops, veiled, ifaces, maps, wideKeys, modest, calm, conditions, laid).
  DERIVED. THE GIVEN ROWS OF THIS SEAT. 5 by the template 'for every input the law returns true; each argument reads behind the call as it read before'; 0 by the template 'total and deterministic' (their statements: YtmaafccepogakaaTotals.lean).
  GIVEN WITH THE SEED: the statements are not yours to turn. If you find one false, say at which input.
  Laid BY PROGRAM, IN A SANDBOX (cutbox-rows.mjs): the forced cells as the released guide's own fill.sh prints them over the translation d503bde6f9d5d3df… (all of the seat's roots in one cut). By AI agents, Wed Nov 11 2026. No macro, syntax, notation, axiom, sorry.
-/
import Derived.Test.YtmaafccepogakaaChecked
import GoSem.Claim
import GoSem.ClaimJoined
import GoSem.ClaimMapViews
import Derived.JoinedTies
import Derived.KernelRfl
namespace Go.Proofs.Ytmaafccepogakaa
/- THE CELL 'sum', in the pinned program and in every row, IS THE sha256 OF THE DUMP (.gsa) THAT YtmaafccepogakaaProg.lean LOADS. Nothing in Lean hashes anything: it is a label: what it is worth is what the hold of that sum in a sandbox is worth. -/
noncomputable def Try.pinned : Pinned := { name := "ytmaafccepogakaa", sum := "d503bde6f9d5d3df73882d64ff89a31310499ad92f574633761ec6331bf4f18b", checked := Try.checked }
namespace Rows
def none {H : Type} : Left H := { results := [], args := [] }

/-- 'semaphorelaw37.DiaryPuts': WHATEVER THE INPUT: true; the input reads as it did. -/
def diaryPutsSpec : ChangeSpec := { name := "diaryPuts", fn := fun _ => fun
  | [d1, d2, d3] => { results := [.lit (.bool true)], args := [d1, d2, d3] }
  | _ => none }
def diaryPutsRow : OpenClaim := { program := "ytmaafccepogakaa", sum := "d503bde6f9d5d3df73882d64ff89a31310499ad92f574633761ec6331bf4f18b", func := "semaphore/semaphorelaw37.DiaryPuts", spec := "diaryPuts", unfollowed := true, recurses := true, apart := false }
def DiaryPutsSaid : Prop := diaryPutsRow.holds Try.pinned (OpenSpec.ofChange diaryPutsSpec)

/-- ITS FALSE NEIGHBOUR: 'it returns false'. Refute it at one input. -/
def diaryPutsWrong : ChangeSpec := { name := "diaryPuts", fn := fun _ => fun
  | [d1, d2, d3] => { results := [.lit (.bool false)], args := [d1, d2, d3] }
  | _ => none }
def DiaryPutsWrongFalsely : Prop := diaryPutsRow.holds Try.pinned (OpenSpec.ofChange diaryPutsWrong)

/-- 'semaphorelaw37.DiaryReads': WHATEVER THE INPUT: true; the input reads as it did. -/
def diaryReadsSpec : ChangeSpec := { name := "diaryReads", fn := fun _ => fun
  | [d1, d2, d3] => { results := [.lit (.bool true)], args := [d1, d2, d3] }
  | _ => none }
def diaryReadsRow : OpenClaim := { program := "ytmaafccepogakaa", sum := "d503bde6f9d5d3df73882d64ff89a31310499ad92f574633761ec6331bf4f18b", func := "semaphore/semaphorelaw37.DiaryReads", spec := "diaryReads", unfollowed := true, recurses := true, apart := false }
def DiaryReadsSaid : Prop := diaryReadsRow.holds Try.pinned (OpenSpec.ofChange diaryReadsSpec)

/-- ITS FALSE NEIGHBOUR: 'it returns false'. Refute it at one input. -/
def diaryReadsWrong : ChangeSpec := { name := "diaryReads", fn := fun _ => fun
  | [d1, d2, d3] => { results := [.lit (.bool false)], args := [d1, d2, d3] }
  | _ => none }
def DiaryReadsWrongFalsely : Prop := diaryReadsRow.holds Try.pinned (OpenSpec.ofChange diaryReadsWrong)

/-- 'semaphorelaw37.DiaryCuts': WHATEVER THE INPUT: true; the input reads as it did. -/
def diaryCutsSpec : ChangeSpec := { name := "diaryCuts", fn := fun _ => fun
  | [d1, d2, d3, d4] => { results := [.lit (.bool true)], args := [d1, d2, d3, d4] }
  | _ => none }
def diaryCutsRow : OpenClaim := { program := "ytmaafccepogakaa", sum := "d503bde6f9d5d3df73882d64ff89a31310499ad92f574633761ec6331bf4f18b", func := "semaphore/semaphorelaw37.DiaryCuts", spec := "diaryCuts", unfollowed := true, recurses := true, apart := false }
def DiaryCutsSaid : Prop := diaryCutsRow.holds Try.pinned (OpenSpec.ofChange diaryCutsSpec)

/-- ITS FALSE NEIGHBOUR: 'it returns false'. Refute it at one input. -/
def diaryCutsWrong : ChangeSpec := { name := "diaryCuts", fn := fun _ => fun
  | [d1, d2, d3, d4] => { results := [.lit (.bool false)], args := [d1, d2, d3, d4] }
  | _ => none }
def DiaryCutsWrongFalsely : Prop := diaryCutsRow.holds Try.pinned (OpenSpec.ofChange diaryCutsWrong)

/-- 'semaphorelaw37.DiarySpoilt': WHATEVER THE INPUT: true; the input reads as it did. -/
def diarySpoiltSpec : ChangeSpec := { name := "diarySpoilt", fn := fun _ => fun
  | [d1, d2, d3, d4, d5] => { results := [.lit (.bool true)], args := [d1, d2, d3, d4, d5] }
  | _ => none }
def diarySpoiltRow : OpenClaim := { program := "ytmaafccepogakaa", sum := "d503bde6f9d5d3df73882d64ff89a31310499ad92f574633761ec6331bf4f18b", func := "semaphore/semaphorelaw37.DiarySpoilt", spec := "diarySpoilt", unfollowed := true, recurses := true, apart := false }
def DiarySpoiltSaid : Prop := diarySpoiltRow.holds Try.pinned (OpenSpec.ofChange diarySpoiltSpec)

/-- ITS FALSE NEIGHBOUR: 'it returns false'. Refute it at one input. -/
def diarySpoiltWrong : ChangeSpec := { name := "diarySpoilt", fn := fun _ => fun
  | [d1, d2, d3, d4, d5] => { results := [.lit (.bool false)], args := [d1, d2, d3, d4, d5] }
  | _ => none }
def DiarySpoiltWrongFalsely : Prop := diarySpoiltRow.holds Try.pinned (OpenSpec.ofChange diarySpoiltWrong)

/-- 'semaphorelaw37.DiaryApart': WHATEVER THE INPUT: true; the input reads as it did. -/
def diaryApartSpec : ChangeSpec := { name := "diaryApart", fn := fun _ => fun
  | [d1, d2, d3, d4] => { results := [.lit (.bool true)], args := [d1, d2, d3, d4] }
  | _ => none }
def diaryApartRow : OpenClaim := { program := "ytmaafccepogakaa", sum := "d503bde6f9d5d3df73882d64ff89a31310499ad92f574633761ec6331bf4f18b", func := "semaphore/semaphorelaw37.DiaryApart", spec := "diaryApart", unfollowed := true, recurses := true, apart := false }
def DiaryApartSaid : Prop := diaryApartRow.holds Try.pinned (OpenSpec.ofChange diaryApartSpec)

/-- ITS FALSE NEIGHBOUR: 'it returns false'. Refute it at one input. -/
def diaryApartWrong : ChangeSpec := { name := "diaryApart", fn := fun _ => fun
  | [d1, d2, d3, d4] => { results := [.lit (.bool false)], args := [d1, d2, d3, d4] }
  | _ => none }
def DiaryApartWrongFalsely : Prop := diaryApartRow.holds Try.pinned (OpenSpec.ofChange diaryApartWrong)

/- THE SECOND FORM. 'bulk': how many values and letters a reading holds, each counted each time it is reached (what is shared counts as often as it is met; a slice's spare places count too). A statement '..UptoSaid' is the law's where the arguments, and the package variables that the reading takes, are together of bulk at most 1048576: NARROWER than '..Said'. Prove '..Said' where nothing that the law and all that it calls make is longer than what came in: it says more and counts as full. Else prove '..UptoSaid'. A law counts once. -/
mutual
def uptoBulk {H : Type} : DataW H → Nat
  | .lit (.string bytes) => bytes.length + 1
  | .lit _ => 1
  | .nil => 1
  | .ptr d => uptoBulk d + 1
  | .slice elems spare => uptoBulkAll elems + uptoBulkAll spare + 1
  | .agg parts => uptoBulkAll parts + 1
  | .iface _ d => uptoBulk d + 1
  | .map entries => uptoBulkEntries entries + 1
  | .held _ => 1
def uptoBulkAll {H : Type} : List (DataW H) → Nat
  | [] => 0
  | d :: r => uptoBulk d + uptoBulkAll r
def uptoBulkEntries {H : Type} : List (Lit × DataW H) → Nat
  | [] => 0
  | x :: r => uptoBulkEntry x + uptoBulkEntries r
def uptoBulkEntry {H : Type} : Lit × DataW H → Nat
  | (.string bytes, d) => bytes.length + uptoBulk d + 1
  | (_, d) => uptoBulk d + 1
 end
def uptoSmall : (H : Type) → List (DataW H) → Bool := fun _ ds => decide (uptoBulkAll ds ≤ 1048576)
def OpenSpec.upto (s : _root_.Go.ChangeSpec) : _root_.Go.OpenSpec := { _root_.Go.OpenSpec.ofChange s with cond := some uptoSmall }

/-- 'semaphorelaw37.DiaryPuts', WHERE WHAT IT READS IS OF BULK AT MOST 1048576: true; the input reads as it did. -/
def diaryPutsUptoRow : OpenClaim := { program := "ytmaafccepogakaa", sum := "d503bde6f9d5d3df73882d64ff89a31310499ad92f574633761ec6331bf4f18b", func := "semaphore/semaphorelaw37.DiaryPuts", spec := "diaryPuts", unfollowed := true, recurses := true, apart := false, narrowed := true }
def DiaryPutsUptoSaid : Prop := diaryPutsUptoRow.holds Try.pinned (OpenSpec.upto diaryPutsSpec)

/-- 'semaphorelaw37.DiaryReads', WHERE WHAT IT READS IS OF BULK AT MOST 1048576: true; the input reads as it did. -/
def diaryReadsUptoRow : OpenClaim := { program := "ytmaafccepogakaa", sum := "d503bde6f9d5d3df73882d64ff89a31310499ad92f574633761ec6331bf4f18b", func := "semaphore/semaphorelaw37.DiaryReads", spec := "diaryReads", unfollowed := true, recurses := true, apart := false, narrowed := true }
def DiaryReadsUptoSaid : Prop := diaryReadsUptoRow.holds Try.pinned (OpenSpec.upto diaryReadsSpec)

/-- 'semaphorelaw37.DiaryCuts', WHERE WHAT IT READS IS OF BULK AT MOST 1048576: true; the input reads as it did. -/
def diaryCutsUptoRow : OpenClaim := { program := "ytmaafccepogakaa", sum := "d503bde6f9d5d3df73882d64ff89a31310499ad92f574633761ec6331bf4f18b", func := "semaphore/semaphorelaw37.DiaryCuts", spec := "diaryCuts", unfollowed := true, recurses := true, apart := false, narrowed := true }
def DiaryCutsUptoSaid : Prop := diaryCutsUptoRow.holds Try.pinned (OpenSpec.upto diaryCutsSpec)

/-- 'semaphorelaw37.DiarySpoilt', WHERE WHAT IT READS IS OF BULK AT MOST 1048576: true; the input reads as it did. -/
def diarySpoiltUptoRow : OpenClaim := { program := "ytmaafccepogakaa", sum := "d503bde6f9d5d3df73882d64ff89a31310499ad92f574633761ec6331bf4f18b", func := "semaphore/semaphorelaw37.DiarySpoilt", spec := "diarySpoilt", unfollowed := true, recurses := true, apart := false, narrowed := true }
def DiarySpoiltUptoSaid : Prop := diarySpoiltUptoRow.holds Try.pinned (OpenSpec.upto diarySpoiltSpec)

/-- 'semaphorelaw37.DiaryApart', WHERE WHAT IT READS IS OF BULK AT MOST 1048576: true; the input reads as it did. -/
def diaryApartUptoRow : OpenClaim := { program := "ytmaafccepogakaa", sum := "d503bde6f9d5d3df73882d64ff89a31310499ad92f574633761ec6331bf4f18b", func := "semaphore/semaphorelaw37.DiaryApart", spec := "diaryApart", unfollowed := true, recurses := true, apart := false, narrowed := true }
def DiaryApartUptoSaid : Prop := diaryApartUptoRow.holds Try.pinned (OpenSpec.upto diaryApartSpec)

end Rows
end Go.Proofs.Ytmaafccepogakaa
