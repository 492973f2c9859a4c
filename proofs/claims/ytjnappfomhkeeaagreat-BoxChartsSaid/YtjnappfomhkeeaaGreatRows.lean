/-
  No cell of these rows narrows 'for every input' (looked for: loops, veiled, ifaces, maps, wideKeys, modest, calm, conditions, laid).
  DERIVED. THE GIVEN ROWS OF THIS SEAT. 9 by the template 'for every input the law returns true; each argument reads behind the call as it read before'; 0 by the template 'total and deterministic' (their statements: YtjnappfomhkeeaaGreatTotals.lean).
  GIVEN WITH THE SEED: the statements are not yours to turn. If you find one false, say at which input.
  Laid BY PROGRAM, IN A SANDBOX (cutbox-rows.mjs): the forced cells as the released guide's own fill.sh prints them over the translation 6fefe170f2e48594… (all of the seat's roots in one cut). By AI agents, Wed Nov 11 2026. No macro, syntax, notation, axiom, sorry.
-/
import Derived.Test.YtjnappfomhkeeaaGreatChecked
import GoSem.Claim
import GoSem.ClaimJoined
import GoSem.ClaimMapViews
import Derived.JoinedTies
import Derived.KernelRfl
namespace Go.Proofs.YtjnappfomhkeeaaGreat
/- THE CELL 'sum', in the pinned program and in every row, IS THE sha256 OF THE DUMP (.gsa) THAT YtjnappfomhkeeaaGreatProg.lean LOADS. Nothing in Lean hashes anything: it is a label: what it is worth is what the hold of that sum in a sandbox is worth. -/
noncomputable def Tryz.pinned : Pinned := { name := "ytjnappfomhkeeaagreat", sum := "6fefe170f2e4859491b500684cb00cb11ef6169bfa02719cb8edad0ff94a4f90", checked := Tryz.checked }
namespace Rows
def none {H : Type} : Left H := { results := [], args := [] }

/-- 'semaphorelaw19.BoxNews': WHATEVER THE INPUT: true; the input reads as it did. -/
def boxNewsSpec : ChangeSpec := { name := "boxNews", fn := fun _ => fun
  | [d1, d2, d3, d4, d5] => { results := [.lit (.bool true)], args := [d1, d2, d3, d4, d5] }
  | _ => none }
def boxNewsRow : OpenClaim := { program := "ytjnappfomhkeeaagreat", sum := "6fefe170f2e4859491b500684cb00cb11ef6169bfa02719cb8edad0ff94a4f90", func := "semaphore/semaphorelaw19.BoxNews", spec := "boxNews", inPlace := ["maps.clone"], unfollowed := true, recurses := true, plainKeys := false, apart := false }
def BoxNewsSaid : Prop := boxNewsRow.holds Tryz.pinned (OpenSpec.ofChange boxNewsSpec)

/-- ITS FALSE NEIGHBOUR: 'it returns false'. Refute it at one input. -/
def boxNewsWrong : ChangeSpec := { name := "boxNews", fn := fun _ => fun
  | [d1, d2, d3, d4, d5] => { results := [.lit (.bool false)], args := [d1, d2, d3, d4, d5] }
  | _ => none }
def BoxNewsWrongFalsely : Prop := boxNewsRow.holds Tryz.pinned (OpenSpec.ofChange boxNewsWrong)

/-- 'semaphorelaw19.BoxApart': WHATEVER THE INPUT: true; the input reads as it did. -/
def boxApartSpec : ChangeSpec := { name := "boxApart", fn := fun _ => fun
  | [d1, d2] => { results := [.lit (.bool true)], args := [d1, d2] }
  | _ => none }
def boxApartRow : OpenClaim := { program := "ytjnappfomhkeeaagreat", sum := "6fefe170f2e4859491b500684cb00cb11ef6169bfa02719cb8edad0ff94a4f90", func := "semaphore/semaphorelaw19.BoxApart", spec := "boxApart", inPlace := ["maps.clone"], unfollowed := true, recurses := true, plainKeys := false, apart := false }
def BoxApartSaid : Prop := boxApartRow.holds Tryz.pinned (OpenSpec.ofChange boxApartSpec)

/-- ITS FALSE NEIGHBOUR: 'it returns false'. Refute it at one input. -/
def boxApartWrong : ChangeSpec := { name := "boxApart", fn := fun _ => fun
  | [d1, d2] => { results := [.lit (.bool false)], args := [d1, d2] }
  | _ => none }
def BoxApartWrongFalsely : Prop := boxApartRow.holds Tryz.pinned (OpenSpec.ofChange boxApartWrong)

/-- 'semaphorelaw19.BoxClear': WHATEVER THE INPUT: true; the input reads as it did. -/
def boxClearSpec : ChangeSpec := { name := "boxClear", fn := fun _ => fun
  | [d1, d2] => { results := [.lit (.bool true)], args := [d1, d2] }
  | _ => none }
def boxClearRow : OpenClaim := { program := "ytjnappfomhkeeaagreat", sum := "6fefe170f2e4859491b500684cb00cb11ef6169bfa02719cb8edad0ff94a4f90", func := "semaphore/semaphorelaw19.BoxClear", spec := "boxClear", unfollowed := true, recurses := true, plainKeys := false, apart := false }
def BoxClearSaid : Prop := boxClearRow.holds Tryz.pinned (OpenSpec.ofChange boxClearSpec)

/-- ITS FALSE NEIGHBOUR: 'it returns false'. Refute it at one input. -/
def boxClearWrong : ChangeSpec := { name := "boxClear", fn := fun _ => fun
  | [d1, d2] => { results := [.lit (.bool false)], args := [d1, d2] }
  | _ => none }
def BoxClearWrongFalsely : Prop := boxClearRow.holds Tryz.pinned (OpenSpec.ofChange boxClearWrong)

/-- 'semaphorelaw19.BoxPoints': WHATEVER THE INPUT: true; the input reads as it did. -/
def boxPointsSpec : ChangeSpec := { name := "boxPoints", fn := fun _ => fun
  | [d1, d2] => { results := [.lit (.bool true)], args := [d1, d2] }
  | _ => none }
def boxPointsRow : OpenClaim := { program := "ytjnappfomhkeeaagreat", sum := "6fefe170f2e4859491b500684cb00cb11ef6169bfa02719cb8edad0ff94a4f90", func := "semaphore/semaphorelaw19.BoxPoints", spec := "boxPoints", inPlace := ["maps.clone"], unfollowed := true, recurses := true, plainKeys := false, apart := false }
def BoxPointsSaid : Prop := boxPointsRow.holds Tryz.pinned (OpenSpec.ofChange boxPointsSpec)

/-- ITS FALSE NEIGHBOUR: 'it returns false'. Refute it at one input. -/
def boxPointsWrong : ChangeSpec := { name := "boxPoints", fn := fun _ => fun
  | [d1, d2] => { results := [.lit (.bool false)], args := [d1, d2] }
  | _ => none }
def BoxPointsWrongFalsely : Prop := boxPointsRow.holds Tryz.pinned (OpenSpec.ofChange boxPointsWrong)

/-- 'semaphorelaw19.BoxRefuse': WHATEVER THE INPUT: true; the input reads as it did. -/
def boxRefuseSpec : ChangeSpec := { name := "boxRefuse", fn := fun _ => fun
  | [d1, d2, d3] => { results := [.lit (.bool true)], args := [d1, d2, d3] }
  | _ => none }
def boxRefuseRow : OpenClaim := { program := "ytjnappfomhkeeaagreat", sum := "6fefe170f2e4859491b500684cb00cb11ef6169bfa02719cb8edad0ff94a4f90", func := "semaphore/semaphorelaw19.BoxRefuse", spec := "boxRefuse", unfollowed := true, recurses := true, plainKeys := false, apart := false }
def BoxRefuseSaid : Prop := boxRefuseRow.holds Tryz.pinned (OpenSpec.ofChange boxRefuseSpec)

/-- ITS FALSE NEIGHBOUR: 'it returns false'. Refute it at one input. -/
def boxRefuseWrong : ChangeSpec := { name := "boxRefuse", fn := fun _ => fun
  | [d1, d2, d3] => { results := [.lit (.bool false)], args := [d1, d2, d3] }
  | _ => none }
def BoxRefuseWrongFalsely : Prop := boxRefuseRow.holds Tryz.pinned (OpenSpec.ofChange boxRefuseWrong)

/-- 'semaphorelaw19.BoxBack': WHATEVER THE INPUT: true; the input reads as it did. -/
def boxBackSpec : ChangeSpec := { name := "boxBack", fn := fun _ => fun
  | [d1, d2, d3] => { results := [.lit (.bool true)], args := [d1, d2, d3] }
  | _ => none }
def boxBackRow : OpenClaim := { program := "ytjnappfomhkeeaagreat", sum := "6fefe170f2e4859491b500684cb00cb11ef6169bfa02719cb8edad0ff94a4f90", func := "semaphore/semaphorelaw19.BoxBack", spec := "boxBack", inPlace := ["maps.clone"], unfollowed := true, recurses := true, plainKeys := false, apart := false }
def BoxBackSaid : Prop := boxBackRow.holds Tryz.pinned (OpenSpec.ofChange boxBackSpec)

/-- ITS FALSE NEIGHBOUR: 'it returns false'. Refute it at one input. -/
def boxBackWrong : ChangeSpec := { name := "boxBack", fn := fun _ => fun
  | [d1, d2, d3] => { results := [.lit (.bool false)], args := [d1, d2, d3] }
  | _ => none }
def BoxBackWrongFalsely : Prop := boxBackRow.holds Tryz.pinned (OpenSpec.ofChange boxBackWrong)

/-- 'semaphorelaw19.BoxLocal': WHATEVER THE INPUT: true; the input reads as it did. -/
def boxLocalSpec : ChangeSpec := { name := "boxLocal", fn := fun _ => fun
  | [d1, d2, d3, d4] => { results := [.lit (.bool true)], args := [d1, d2, d3, d4] }
  | _ => none }
def boxLocalRow : OpenClaim := { program := "ytjnappfomhkeeaagreat", sum := "6fefe170f2e4859491b500684cb00cb11ef6169bfa02719cb8edad0ff94a4f90", func := "semaphore/semaphorelaw19.BoxLocal", spec := "boxLocal", unfollowed := true, recurses := true, plainKeys := false, apart := false }
def BoxLocalSaid : Prop := boxLocalRow.holds Tryz.pinned (OpenSpec.ofChange boxLocalSpec)

/-- ITS FALSE NEIGHBOUR: 'it returns false'. Refute it at one input. -/
def boxLocalWrong : ChangeSpec := { name := "boxLocal", fn := fun _ => fun
  | [d1, d2, d3, d4] => { results := [.lit (.bool false)], args := [d1, d2, d3, d4] }
  | _ => none }
def BoxLocalWrongFalsely : Prop := boxLocalRow.holds Tryz.pinned (OpenSpec.ofChange boxLocalWrong)

/-- 'semaphorelaw19.BoxPlays': WHATEVER THE INPUT: true; the input reads as it did. -/
def boxPlaysSpec : ChangeSpec := { name := "boxPlays", fn := fun _ => fun
  | [d1, d2] => { results := [.lit (.bool true)], args := [d1, d2] }
  | _ => none }
def boxPlaysRow : OpenClaim := { program := "ytjnappfomhkeeaagreat", sum := "6fefe170f2e4859491b500684cb00cb11ef6169bfa02719cb8edad0ff94a4f90", func := "semaphore/semaphorelaw19.BoxPlays", spec := "boxPlays", inPlace := ["maps.clone"], unfollowed := true, recurses := true, plainKeys := false, apart := false }
def BoxPlaysSaid : Prop := boxPlaysRow.holds Tryz.pinned (OpenSpec.ofChange boxPlaysSpec)

/-- ITS FALSE NEIGHBOUR: 'it returns false'. Refute it at one input. -/
def boxPlaysWrong : ChangeSpec := { name := "boxPlays", fn := fun _ => fun
  | [d1, d2] => { results := [.lit (.bool false)], args := [d1, d2] }
  | _ => none }
def BoxPlaysWrongFalsely : Prop := boxPlaysRow.holds Tryz.pinned (OpenSpec.ofChange boxPlaysWrong)

/-- 'semaphorelaw19.BoxCharts': WHATEVER THE INPUT: true; the input reads as it did. -/
def boxChartsSpec : ChangeSpec := { name := "boxCharts", fn := fun _ => fun
  | [d1, d2] => { results := [.lit (.bool true)], args := [d1, d2] }
  | _ => none }
def boxChartsRow : OpenClaim := { program := "ytjnappfomhkeeaagreat", sum := "6fefe170f2e4859491b500684cb00cb11ef6169bfa02719cb8edad0ff94a4f90", func := "semaphore/semaphorelaw19.BoxCharts", spec := "boxCharts", inPlace := ["maps.clone"], unfollowed := true, recurses := true, plainKeys := false, apart := false }
def BoxChartsSaid : Prop := boxChartsRow.holds Tryz.pinned (OpenSpec.ofChange boxChartsSpec)

/-- ITS FALSE NEIGHBOUR: 'it returns false'. Refute it at one input. -/
def boxChartsWrong : ChangeSpec := { name := "boxCharts", fn := fun _ => fun
  | [d1, d2] => { results := [.lit (.bool false)], args := [d1, d2] }
  | _ => none }
def BoxChartsWrongFalsely : Prop := boxChartsRow.holds Tryz.pinned (OpenSpec.ofChange boxChartsWrong)

/- THE SECOND FORM. 'bulk': how many values and letters a reading holds, each counted each time it is reached (what is shared counts as often as it is met; a slice's spare places count too). A statement '..UptoSaid' is the law's where the arguments, and the package variables that the reading takes, are together of bulk at most 1048576: NARROWER than '..Said'. Prove '..Said' where nothing that the law and all that it calls make is longer than what came in: it says more and counts as full. Else prove '..UptoSaid'. A law counts once. -/
mutual
def uptoBulk {H : Type} : DataW H → Nat
  | .lit (.string bytes) => bytes.length + 1
  | .lit _ => 1
  | .nil => 1
  | .ptr d => uptoBulk d + 1
  | .slice elems spare => uptoBulkAll elems + uptoBulkAll spare + 1
  | .agg parts => uptoBulkAll parts + 1
  | .iface _ d => uptoBulk d + 1
  | .map entries => uptoBulkEntries entries + 1
  | .held _ => 1
def uptoBulkAll {H : Type} : List (DataW H) → Nat
  | [] => 0
  | d :: r => uptoBulk d + uptoBulkAll r
def uptoBulkEntries {H : Type} : List (Lit × DataW H) → Nat
  | [] => 0
  | x :: r => uptoBulkEntry x + uptoBulkEntries r
def uptoBulkEntry {H : Type} : Lit × DataW H → Nat
  | (.string bytes, d) => bytes.length + uptoBulk d + 1
  | (_, d) => uptoBulk d + 1
 end
def uptoSmall : (H : Type) → List (DataW H) → Bool := fun _ ds => decide (uptoBulkAll ds ≤ 1048576)
def OpenSpec.upto (s : _root_.Go.ChangeSpec) : _root_.Go.OpenSpec := { _root_.Go.OpenSpec.ofChange s with cond := some uptoSmall }

/-- 'semaphorelaw19.BoxNews', WHERE WHAT IT READS IS OF BULK AT MOST 1048576: true; the input reads as it did. -/
def boxNewsUptoRow : OpenClaim := { program := "ytjnappfomhkeeaagreat", sum := "6fefe170f2e4859491b500684cb00cb11ef6169bfa02719cb8edad0ff94a4f90", func := "semaphore/semaphorelaw19.BoxNews", spec := "boxNews", inPlace := ["maps.clone"], unfollowed := true, recurses := true, plainKeys := false, apart := false, narrowed := true }
def BoxNewsUptoSaid : Prop := boxNewsUptoRow.holds Tryz.pinned (OpenSpec.upto boxNewsSpec)

/-- 'semaphorelaw19.BoxApart', WHERE WHAT IT READS IS OF BULK AT MOST 1048576: true; the input reads as it did. -/
def boxApartUptoRow : OpenClaim := { program := "ytjnappfomhkeeaagreat", sum := "6fefe170f2e4859491b500684cb00cb11ef6169bfa02719cb8edad0ff94a4f90", func := "semaphore/semaphorelaw19.BoxApart", spec := "boxApart", inPlace := ["maps.clone"], unfollowed := true, recurses := true, plainKeys := false, apart := false, narrowed := true }
def BoxApartUptoSaid : Prop := boxApartUptoRow.holds Tryz.pinned (OpenSpec.upto boxApartSpec)

/-- 'semaphorelaw19.BoxClear', WHERE WHAT IT READS IS OF BULK AT MOST 1048576: true; the input reads as it did. -/
def boxClearUptoRow : OpenClaim := { program := "ytjnappfomhkeeaagreat", sum := "6fefe170f2e4859491b500684cb00cb11ef6169bfa02719cb8edad0ff94a4f90", func := "semaphore/semaphorelaw19.BoxClear", spec := "boxClear", unfollowed := true, recurses := true, plainKeys := false, apart := false, narrowed := true }
def BoxClearUptoSaid : Prop := boxClearUptoRow.holds Tryz.pinned (OpenSpec.upto boxClearSpec)

/-- 'semaphorelaw19.BoxPoints', WHERE WHAT IT READS IS OF BULK AT MOST 1048576: true; the input reads as it did. -/
def boxPointsUptoRow : OpenClaim := { program := "ytjnappfomhkeeaagreat", sum := "6fefe170f2e4859491b500684cb00cb11ef6169bfa02719cb8edad0ff94a4f90", func := "semaphore/semaphorelaw19.BoxPoints", spec := "boxPoints", inPlace := ["maps.clone"], unfollowed := true, recurses := true, plainKeys := false, apart := false, narrowed := true }
def BoxPointsUptoSaid : Prop := boxPointsUptoRow.holds Tryz.pinned (OpenSpec.upto boxPointsSpec)

/-- 'semaphorelaw19.BoxRefuse', WHERE WHAT IT READS IS OF BULK AT MOST 1048576: true; the input reads as it did. -/
def boxRefuseUptoRow : OpenClaim := { program := "ytjnappfomhkeeaagreat", sum := "6fefe170f2e4859491b500684cb00cb11ef6169bfa02719cb8edad0ff94a4f90", func := "semaphore/semaphorelaw19.BoxRefuse", spec := "boxRefuse", unfollowed := true, recurses := true, plainKeys := false, apart := false, narrowed := true }
def BoxRefuseUptoSaid : Prop := boxRefuseUptoRow.holds Tryz.pinned (OpenSpec.upto boxRefuseSpec)

/-- 'semaphorelaw19.BoxBack', WHERE WHAT IT READS IS OF BULK AT MOST 1048576: true; the input reads as it did. -/
def boxBackUptoRow : OpenClaim := { program := "ytjnappfomhkeeaagreat", sum := "6fefe170f2e4859491b500684cb00cb11ef6169bfa02719cb8edad0ff94a4f90", func := "semaphore/semaphorelaw19.BoxBack", spec := "boxBack", inPlace := ["maps.clone"], unfollowed := true, recurses := true, plainKeys := false, apart := false, narrowed := true }
def BoxBackUptoSaid : Prop := boxBackUptoRow.holds Tryz.pinned (OpenSpec.upto boxBackSpec)

/-- 'semaphorelaw19.BoxLocal', WHERE WHAT IT READS IS OF BULK AT MOST 1048576: true; the input reads as it did. -/
def boxLocalUptoRow : OpenClaim := { program := "ytjnappfomhkeeaagreat", sum := "6fefe170f2e4859491b500684cb00cb11ef6169bfa02719cb8edad0ff94a4f90", func := "semaphore/semaphorelaw19.BoxLocal", spec := "boxLocal", unfollowed := true, recurses := true, plainKeys := false, apart := false, narrowed := true }
def BoxLocalUptoSaid : Prop := boxLocalUptoRow.holds Tryz.pinned (OpenSpec.upto boxLocalSpec)

/-- 'semaphorelaw19.BoxPlays', WHERE WHAT IT READS IS OF BULK AT MOST 1048576: true; the input reads as it did. -/
def boxPlaysUptoRow : OpenClaim := { program := "ytjnappfomhkeeaagreat", sum := "6fefe170f2e4859491b500684cb00cb11ef6169bfa02719cb8edad0ff94a4f90", func := "semaphore/semaphorelaw19.BoxPlays", spec := "boxPlays", inPlace := ["maps.clone"], unfollowed := true, recurses := true, plainKeys := false, apart := false, narrowed := true }
def BoxPlaysUptoSaid : Prop := boxPlaysUptoRow.holds Tryz.pinned (OpenSpec.upto boxPlaysSpec)

/-- 'semaphorelaw19.BoxCharts', WHERE WHAT IT READS IS OF BULK AT MOST 1048576: true; the input reads as it did. -/
def boxChartsUptoRow : OpenClaim := { program := "ytjnappfomhkeeaagreat", sum := "6fefe170f2e4859491b500684cb00cb11ef6169bfa02719cb8edad0ff94a4f90", func := "semaphore/semaphorelaw19.BoxCharts", spec := "boxCharts", inPlace := ["maps.clone"], unfollowed := true, recurses := true, plainKeys := false, apart := false, narrowed := true }
def BoxChartsUptoSaid : Prop := boxChartsUptoRow.holds Tryz.pinned (OpenSpec.upto boxChartsSpec)

end Rows
end Go.Proofs.YtjnappfomhkeeaaGreat
