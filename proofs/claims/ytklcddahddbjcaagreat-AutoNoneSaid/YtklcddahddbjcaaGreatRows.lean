/-
  No cell of these rows narrows 'for every input' (looked for: loops, veiled, ifaces, maps, wideKeys, modest, calm, conditions, laid).
  DERIVED. THE GIVEN ROWS OF THIS SEAT. 11 by the template 'for every input the law returns true; each argument reads behind the call as it read before'; 0 by the template 'total and deterministic' (their statements: YtklcddahddbjcaaGreatTotals.lean).
  GIVEN WITH THE SEED: the statements are not yours to turn. If you find one false, say at which input.
  Laid BY PROGRAM, IN A SANDBOX (cutbox-rows.mjs): the forced cells as the released guide's own fill.sh prints them over the translation bc963a88a61501bb… (all of the seat's roots in one cut). By AI agents, Wed Nov 11 2026. No macro, syntax, notation, axiom, sorry.
-/
import Derived.Test.YtklcddahddbjcaaGreatChecked
import GoSem.Claim
import GoSem.ClaimJoined
import GoSem.ClaimMapViews
import Derived.JoinedTies
import Derived.KernelRfl
namespace Go.Proofs.YtklcddahddbjcaaGreat
/- THE CELL 'sum', in the pinned program and in every row, IS THE sha256 OF THE DUMP (.gsa) THAT YtklcddahddbjcaaGreatProg.lean LOADS. Nothing in Lean hashes anything: it is a label: what it is worth is what the hold of that sum in a sandbox is worth. -/
noncomputable def Tryz.pinned : Pinned := { name := "ytklcddahddbjcaagreat", sum := "bc963a88a61501bbea1886b96a63f710986629706726c92f53431f36f5cf0be7", checked := Tryz.checked }
namespace Rows
def none {H : Type} : Left H := { results := [], args := [] }

/-- 'semaphorelaw20.AutoCalls': WHATEVER THE INPUT: true; the input reads as it did. -/
def autoCallsSpec : ChangeSpec := { name := "autoCalls", fn := fun _ => fun
  | [d1, d2, d3] => { results := [.lit (.bool true)], args := [d1, d2, d3] }
  | _ => none }
def autoCallsRow : OpenClaim := { program := "ytklcddahddbjcaagreat", sum := "bc963a88a61501bbea1886b96a63f710986629706726c92f53431f36f5cf0be7", func := "semaphore/semaphorelaw20.AutoCalls", spec := "autoCalls", unfollowed := true, recurses := true, plainKeys := false, apart := false }
def AutoCallsSaid : Prop := autoCallsRow.holds Tryz.pinned (OpenSpec.ofChange autoCallsSpec)

/-- ITS FALSE NEIGHBOUR: 'it returns false'. Refute it at one input. -/
def autoCallsWrong : ChangeSpec := { name := "autoCalls", fn := fun _ => fun
  | [d1, d2, d3] => { results := [.lit (.bool false)], args := [d1, d2, d3] }
  | _ => none }
def AutoCallsWrongFalsely : Prop := autoCallsRow.holds Tryz.pinned (OpenSpec.ofChange autoCallsWrong)

/-- 'semaphorelaw20.AutoNone': WHATEVER THE INPUT: true; the input reads as it did. -/
def autoNoneSpec : ChangeSpec := { name := "autoNone", fn := fun _ => fun
  | [d1, d2] => { results := [.lit (.bool true)], args := [d1, d2] }
  | _ => none }
def autoNoneRow : OpenClaim := { program := "ytklcddahddbjcaagreat", sum := "bc963a88a61501bbea1886b96a63f710986629706726c92f53431f36f5cf0be7", func := "semaphore/semaphorelaw20.AutoNone", spec := "autoNone", unfollowed := true, recurses := true, plainKeys := false, apart := false }
def AutoNoneSaid : Prop := autoNoneRow.holds Tryz.pinned (OpenSpec.ofChange autoNoneSpec)

/-- ITS FALSE NEIGHBOUR: 'it returns false'. Refute it at one input. -/
def autoNoneWrong : ChangeSpec := { name := "autoNone", fn := fun _ => fun
  | [d1, d2] => { results := [.lit (.bool false)], args := [d1, d2] }
  | _ => none }
def AutoNoneWrongFalsely : Prop := autoNoneRow.holds Tryz.pinned (OpenSpec.ofChange autoNoneWrong)

/-- 'semaphorelaw20.AutoOnes': WHATEVER THE INPUT: true; the input reads as it did. -/
def autoOnesSpec : ChangeSpec := { name := "autoOnes", fn := fun _ => fun
  | [d1, d2, d3] => { results := [.lit (.bool true)], args := [d1, d2, d3] }
  | _ => none }
def autoOnesRow : OpenClaim := { program := "ytklcddahddbjcaagreat", sum := "bc963a88a61501bbea1886b96a63f710986629706726c92f53431f36f5cf0be7", func := "semaphore/semaphorelaw20.AutoOnes", spec := "autoOnes", unfollowed := true, recurses := true, plainKeys := false, apart := false }
def AutoOnesSaid : Prop := autoOnesRow.holds Tryz.pinned (OpenSpec.ofChange autoOnesSpec)

/-- ITS FALSE NEIGHBOUR: 'it returns false'. Refute it at one input. -/
def autoOnesWrong : ChangeSpec := { name := "autoOnes", fn := fun _ => fun
  | [d1, d2, d3] => { results := [.lit (.bool false)], args := [d1, d2, d3] }
  | _ => none }
def AutoOnesWrongFalsely : Prop := autoOnesRow.holds Tryz.pinned (OpenSpec.ofChange autoOnesWrong)

/-- 'semaphorelaw20.AutoRun': WHATEVER THE INPUT: true; the input reads as it did. -/
def autoRunSpec : ChangeSpec := { name := "autoRun", fn := fun _ => fun
  | [d1, d2] => { results := [.lit (.bool true)], args := [d1, d2] }
  | _ => none }
def autoRunRow : OpenClaim := { program := "ytklcddahddbjcaagreat", sum := "bc963a88a61501bbea1886b96a63f710986629706726c92f53431f36f5cf0be7", func := "semaphore/semaphorelaw20.AutoRun", spec := "autoRun", unfollowed := true, recurses := true, plainKeys := false, apart := false }
def AutoRunSaid : Prop := autoRunRow.holds Tryz.pinned (OpenSpec.ofChange autoRunSpec)

/-- ITS FALSE NEIGHBOUR: 'it returns false'. Refute it at one input. -/
def autoRunWrong : ChangeSpec := { name := "autoRun", fn := fun _ => fun
  | [d1, d2] => { results := [.lit (.bool false)], args := [d1, d2] }
  | _ => none }
def AutoRunWrongFalsely : Prop := autoRunRow.holds Tryz.pinned (OpenSpec.ofChange autoRunWrong)

/-- 'semaphorelaw20.AutoTicks': WHATEVER THE INPUT: true; the input reads as it did. -/
def autoTicksSpec : ChangeSpec := { name := "autoTicks", fn := fun _ => fun
  | [d1, d2] => { results := [.lit (.bool true)], args := [d1, d2] }
  | _ => none }
def autoTicksRow : OpenClaim := { program := "ytklcddahddbjcaagreat", sum := "bc963a88a61501bbea1886b96a63f710986629706726c92f53431f36f5cf0be7", func := "semaphore/semaphorelaw20.AutoTicks", spec := "autoTicks", inPlace := ["maps.clone"], unfollowed := true, recurses := true, plainKeys := false, apart := false }
def AutoTicksSaid : Prop := autoTicksRow.holds Tryz.pinned (OpenSpec.ofChange autoTicksSpec)

/-- ITS FALSE NEIGHBOUR: 'it returns false'. Refute it at one input. -/
def autoTicksWrong : ChangeSpec := { name := "autoTicks", fn := fun _ => fun
  | [d1, d2] => { results := [.lit (.bool false)], args := [d1, d2] }
  | _ => none }
def AutoTicksWrongFalsely : Prop := autoTicksRow.holds Tryz.pinned (OpenSpec.ofChange autoTicksWrong)

/-- 'semaphorelaw38.AgainTicks': WHATEVER THE INPUT: true; the input reads as it did. -/
def againTicksSpec : ChangeSpec := { name := "againTicks", fn := fun _ => fun
  | [d1, d2] => { results := [.lit (.bool true)], args := [d1, d2] }
  | _ => none }
def againTicksRow : OpenClaim := { program := "ytklcddahddbjcaagreat", sum := "bc963a88a61501bbea1886b96a63f710986629706726c92f53431f36f5cf0be7", func := "semaphore/semaphorelaw38.AgainTicks", spec := "againTicks", inPlace := ["maps.clone"], unfollowed := true, recurses := true, plainKeys := false, apart := false }
def AgainTicksSaid : Prop := againTicksRow.holds Tryz.pinned (OpenSpec.ofChange againTicksSpec)

/-- ITS FALSE NEIGHBOUR: 'it returns false'. Refute it at one input. -/
def againTicksWrong : ChangeSpec := { name := "againTicks", fn := fun _ => fun
  | [d1, d2] => { results := [.lit (.bool false)], args := [d1, d2] }
  | _ => none }
def AgainTicksWrongFalsely : Prop := againTicksRow.holds Tryz.pinned (OpenSpec.ofChange againTicksWrong)

/-- 'semaphorelaw38.AgainRaw': WHATEVER THE INPUT: true; the input reads as it did. -/
def againRawSpec : ChangeSpec := { name := "againRaw", fn := fun _ => fun
  | [d1, d2] => { results := [.lit (.bool true)], args := [d1, d2] }
  | _ => none }
def againRawRow : OpenClaim := { program := "ytklcddahddbjcaagreat", sum := "bc963a88a61501bbea1886b96a63f710986629706726c92f53431f36f5cf0be7", func := "semaphore/semaphorelaw38.AgainRaw", spec := "againRaw", inPlace := ["maps.clone"], unfollowed := true, recurses := true, plainKeys := false, apart := false }
def AgainRawSaid : Prop := againRawRow.holds Tryz.pinned (OpenSpec.ofChange againRawSpec)

/-- ITS FALSE NEIGHBOUR: 'it returns false'. Refute it at one input. -/
def againRawWrong : ChangeSpec := { name := "againRaw", fn := fun _ => fun
  | [d1, d2] => { results := [.lit (.bool false)], args := [d1, d2] }
  | _ => none }
def AgainRawWrongFalsely : Prop := againRawRow.holds Tryz.pinned (OpenSpec.ofChange againRawWrong)

/-- 'semaphorelaw38.AgainBack': WHATEVER THE INPUT: true; the input reads as it did. -/
def againBackSpec : ChangeSpec := { name := "againBack", fn := fun _ => fun
  | [d1, d2, d3, d4] => { results := [.lit (.bool true)], args := [d1, d2, d3, d4] }
  | _ => none }
def againBackRow : OpenClaim := { program := "ytklcddahddbjcaagreat", sum := "bc963a88a61501bbea1886b96a63f710986629706726c92f53431f36f5cf0be7", func := "semaphore/semaphorelaw38.AgainBack", spec := "againBack", inPlace := ["maps.clone"], unfollowed := true, recurses := true, plainKeys := false, apart := false }
def AgainBackSaid : Prop := againBackRow.holds Tryz.pinned (OpenSpec.ofChange againBackSpec)

/-- ITS FALSE NEIGHBOUR: 'it returns false'. Refute it at one input. -/
def againBackWrong : ChangeSpec := { name := "againBack", fn := fun _ => fun
  | [d1, d2, d3, d4] => { results := [.lit (.bool false)], args := [d1, d2, d3, d4] }
  | _ => none }
def AgainBackWrongFalsely : Prop := againBackRow.holds Tryz.pinned (OpenSpec.ofChange againBackWrong)

/-- 'semaphorelaw38.AgainLocks': WHATEVER THE INPUT: true; the input reads as it did. -/
def againLocksSpec : ChangeSpec := { name := "againLocks", fn := fun _ => fun
  | [d1, d2] => { results := [.lit (.bool true)], args := [d1, d2] }
  | _ => none }
def againLocksRow : OpenClaim := { program := "ytklcddahddbjcaagreat", sum := "bc963a88a61501bbea1886b96a63f710986629706726c92f53431f36f5cf0be7", func := "semaphore/semaphorelaw38.AgainLocks", spec := "againLocks", inPlace := ["maps.clone"], unfollowed := true, recurses := true, plainKeys := false, apart := false }
def AgainLocksSaid : Prop := againLocksRow.holds Tryz.pinned (OpenSpec.ofChange againLocksSpec)

/-- ITS FALSE NEIGHBOUR: 'it returns false'. Refute it at one input. -/
def againLocksWrong : ChangeSpec := { name := "againLocks", fn := fun _ => fun
  | [d1, d2] => { results := [.lit (.bool false)], args := [d1, d2] }
  | _ => none }
def AgainLocksWrongFalsely : Prop := againLocksRow.holds Tryz.pinned (OpenSpec.ofChange againLocksWrong)

/-- 'semaphorelaw38.AgainSame': WHATEVER THE INPUT: true; the input reads as it did. -/
def againSameSpec : ChangeSpec := { name := "againSame", fn := fun _ => fun
  | [d1, d2, d3] => { results := [.lit (.bool true)], args := [d1, d2, d3] }
  | _ => none }
def againSameRow : OpenClaim := { program := "ytklcddahddbjcaagreat", sum := "bc963a88a61501bbea1886b96a63f710986629706726c92f53431f36f5cf0be7", func := "semaphore/semaphorelaw38.AgainSame", spec := "againSame", inPlace := ["maps.clone"], unfollowed := true, recurses := true, plainKeys := false, apart := false }
def AgainSameSaid : Prop := againSameRow.holds Tryz.pinned (OpenSpec.ofChange againSameSpec)

/-- ITS FALSE NEIGHBOUR: 'it returns false'. Refute it at one input. -/
def againSameWrong : ChangeSpec := { name := "againSame", fn := fun _ => fun
  | [d1, d2, d3] => { results := [.lit (.bool false)], args := [d1, d2, d3] }
  | _ => none }
def AgainSameWrongFalsely : Prop := againSameRow.holds Tryz.pinned (OpenSpec.ofChange againSameWrong)

/-- 'semaphorelaw38.AgainNone': WHATEVER THE INPUT: true; the input reads as it did. -/
def againNoneSpec : ChangeSpec := { name := "againNone", fn := fun _ => fun
  | [d1, d2] => { results := [.lit (.bool true)], args := [d1, d2] }
  | _ => none }
def againNoneRow : OpenClaim := { program := "ytklcddahddbjcaagreat", sum := "bc963a88a61501bbea1886b96a63f710986629706726c92f53431f36f5cf0be7", func := "semaphore/semaphorelaw38.AgainNone", spec := "againNone", inPlace := ["maps.clone"], unfollowed := true, recurses := true, plainKeys := false, apart := false }
def AgainNoneSaid : Prop := againNoneRow.holds Tryz.pinned (OpenSpec.ofChange againNoneSpec)

/-- ITS FALSE NEIGHBOUR: 'it returns false'. Refute it at one input. -/
def againNoneWrong : ChangeSpec := { name := "againNone", fn := fun _ => fun
  | [d1, d2] => { results := [.lit (.bool false)], args := [d1, d2] }
  | _ => none }
def AgainNoneWrongFalsely : Prop := againNoneRow.holds Tryz.pinned (OpenSpec.ofChange againNoneWrong)

/- THE SECOND FORM. 'bulk': how many values and letters a reading holds, each counted each time it is reached (what is shared counts as often as it is met; a slice's spare places count too). A statement '..UptoSaid' is the law's where the arguments, and the package variables that the reading takes, are together of bulk at most 1048576: NARROWER than '..Said'. Prove '..Said' where nothing that the law and all that it calls make is longer than what came in: it says more and counts as full. Else prove '..UptoSaid'. A law counts once. -/
mutual
def uptoBulk {H : Type} : DataW H → Nat
  | .lit (.string bytes) => bytes.length + 1
  | .lit _ => 1
  | .nil => 1
  | .ptr d => uptoBulk d + 1
  | .slice elems spare => uptoBulkAll elems + uptoBulkAll spare + 1
  | .agg parts => uptoBulkAll parts + 1
  | .iface _ d => uptoBulk d + 1
  | .map entries => uptoBulkEntries entries + 1
  | .held _ => 1
def uptoBulkAll {H : Type} : List (DataW H) → Nat
  | [] => 0
  | d :: r => uptoBulk d + uptoBulkAll r
def uptoBulkEntries {H : Type} : List (Lit × DataW H) → Nat
  | [] => 0
  | x :: r => uptoBulkEntry x + uptoBulkEntries r
def uptoBulkEntry {H : Type} : Lit × DataW H → Nat
  | (.string bytes, d) => bytes.length + uptoBulk d + 1
  | (_, d) => uptoBulk d + 1
 end
def uptoSmall : (H : Type) → List (DataW H) → Bool := fun _ ds => decide (uptoBulkAll ds ≤ 1048576)
def OpenSpec.upto (s : _root_.Go.ChangeSpec) : _root_.Go.OpenSpec := { _root_.Go.OpenSpec.ofChange s with cond := some uptoSmall }

/-- 'semaphorelaw20.AutoCalls', WHERE WHAT IT READS IS OF BULK AT MOST 1048576: true; the input reads as it did. -/
def autoCallsUptoRow : OpenClaim := { program := "ytklcddahddbjcaagreat", sum := "bc963a88a61501bbea1886b96a63f710986629706726c92f53431f36f5cf0be7", func := "semaphore/semaphorelaw20.AutoCalls", spec := "autoCalls", unfollowed := true, recurses := true, plainKeys := false, apart := false, narrowed := true }
def AutoCallsUptoSaid : Prop := autoCallsUptoRow.holds Tryz.pinned (OpenSpec.upto autoCallsSpec)

/-- 'semaphorelaw20.AutoNone', WHERE WHAT IT READS IS OF BULK AT MOST 1048576: true; the input reads as it did. -/
def autoNoneUptoRow : OpenClaim := { program := "ytklcddahddbjcaagreat", sum := "bc963a88a61501bbea1886b96a63f710986629706726c92f53431f36f5cf0be7", func := "semaphore/semaphorelaw20.AutoNone", spec := "autoNone", unfollowed := true, recurses := true, plainKeys := false, apart := false, narrowed := true }
def AutoNoneUptoSaid : Prop := autoNoneUptoRow.holds Tryz.pinned (OpenSpec.upto autoNoneSpec)

/-- 'semaphorelaw20.AutoOnes', WHERE WHAT IT READS IS OF BULK AT MOST 1048576: true; the input reads as it did. -/
def autoOnesUptoRow : OpenClaim := { program := "ytklcddahddbjcaagreat", sum := "bc963a88a61501bbea1886b96a63f710986629706726c92f53431f36f5cf0be7", func := "semaphore/semaphorelaw20.AutoOnes", spec := "autoOnes", unfollowed := true, recurses := true, plainKeys := false, apart := false, narrowed := true }
def AutoOnesUptoSaid : Prop := autoOnesUptoRow.holds Tryz.pinned (OpenSpec.upto autoOnesSpec)

/-- 'semaphorelaw20.AutoRun', WHERE WHAT IT READS IS OF BULK AT MOST 1048576: true; the input reads as it did. -/
def autoRunUptoRow : OpenClaim := { program := "ytklcddahddbjcaagreat", sum := "bc963a88a61501bbea1886b96a63f710986629706726c92f53431f36f5cf0be7", func := "semaphore/semaphorelaw20.AutoRun", spec := "autoRun", unfollowed := true, recurses := true, plainKeys := false, apart := false, narrowed := true }
def AutoRunUptoSaid : Prop := autoRunUptoRow.holds Tryz.pinned (OpenSpec.upto autoRunSpec)

/-- 'semaphorelaw20.AutoTicks', WHERE WHAT IT READS IS OF BULK AT MOST 1048576: true; the input reads as it did. -/
def autoTicksUptoRow : OpenClaim := { program := "ytklcddahddbjcaagreat", sum := "bc963a88a61501bbea1886b96a63f710986629706726c92f53431f36f5cf0be7", func := "semaphore/semaphorelaw20.AutoTicks", spec := "autoTicks", inPlace := ["maps.clone"], unfollowed := true, recurses := true, plainKeys := false, apart := false, narrowed := true }
def AutoTicksUptoSaid : Prop := autoTicksUptoRow.holds Tryz.pinned (OpenSpec.upto autoTicksSpec)

/-- 'semaphorelaw38.AgainTicks', WHERE WHAT IT READS IS OF BULK AT MOST 1048576: true; the input reads as it did. -/
def againTicksUptoRow : OpenClaim := { program := "ytklcddahddbjcaagreat", sum := "bc963a88a61501bbea1886b96a63f710986629706726c92f53431f36f5cf0be7", func := "semaphore/semaphorelaw38.AgainTicks", spec := "againTicks", inPlace := ["maps.clone"], unfollowed := true, recurses := true, plainKeys := false, apart := false, narrowed := true }
def AgainTicksUptoSaid : Prop := againTicksUptoRow.holds Tryz.pinned (OpenSpec.upto againTicksSpec)

/-- 'semaphorelaw38.AgainRaw', WHERE WHAT IT READS IS OF BULK AT MOST 1048576: true; the input reads as it did. -/
def againRawUptoRow : OpenClaim := { program := "ytklcddahddbjcaagreat", sum := "bc963a88a61501bbea1886b96a63f710986629706726c92f53431f36f5cf0be7", func := "semaphore/semaphorelaw38.AgainRaw", spec := "againRaw", inPlace := ["maps.clone"], unfollowed := true, recurses := true, plainKeys := false, apart := false, narrowed := true }
def AgainRawUptoSaid : Prop := againRawUptoRow.holds Tryz.pinned (OpenSpec.upto againRawSpec)

/-- 'semaphorelaw38.AgainBack', WHERE WHAT IT READS IS OF BULK AT MOST 1048576: true; the input reads as it did. -/
def againBackUptoRow : OpenClaim := { program := "ytklcddahddbjcaagreat", sum := "bc963a88a61501bbea1886b96a63f710986629706726c92f53431f36f5cf0be7", func := "semaphore/semaphorelaw38.AgainBack", spec := "againBack", inPlace := ["maps.clone"], unfollowed := true, recurses := true, plainKeys := false, apart := false, narrowed := true }
def AgainBackUptoSaid : Prop := againBackUptoRow.holds Tryz.pinned (OpenSpec.upto againBackSpec)

/-- 'semaphorelaw38.AgainLocks', WHERE WHAT IT READS IS OF BULK AT MOST 1048576: true; the input reads as it did. -/
def againLocksUptoRow : OpenClaim := { program := "ytklcddahddbjcaagreat", sum := "bc963a88a61501bbea1886b96a63f710986629706726c92f53431f36f5cf0be7", func := "semaphore/semaphorelaw38.AgainLocks", spec := "againLocks", inPlace := ["maps.clone"], unfollowed := true, recurses := true, plainKeys := false, apart := false, narrowed := true }
def AgainLocksUptoSaid : Prop := againLocksUptoRow.holds Tryz.pinned (OpenSpec.upto againLocksSpec)

/-- 'semaphorelaw38.AgainSame', WHERE WHAT IT READS IS OF BULK AT MOST 1048576: true; the input reads as it did. -/
def againSameUptoRow : OpenClaim := { program := "ytklcddahddbjcaagreat", sum := "bc963a88a61501bbea1886b96a63f710986629706726c92f53431f36f5cf0be7", func := "semaphore/semaphorelaw38.AgainSame", spec := "againSame", inPlace := ["maps.clone"], unfollowed := true, recurses := true, plainKeys := false, apart := false, narrowed := true }
def AgainSameUptoSaid : Prop := againSameUptoRow.holds Tryz.pinned (OpenSpec.upto againSameSpec)

/-- 'semaphorelaw38.AgainNone', WHERE WHAT IT READS IS OF BULK AT MOST 1048576: true; the input reads as it did. -/
def againNoneUptoRow : OpenClaim := { program := "ytklcddahddbjcaagreat", sum := "bc963a88a61501bbea1886b96a63f710986629706726c92f53431f36f5cf0be7", func := "semaphore/semaphorelaw38.AgainNone", spec := "againNone", inPlace := ["maps.clone"], unfollowed := true, recurses := true, plainKeys := false, apart := false, narrowed := true }
def AgainNoneUptoSaid : Prop := againNoneUptoRow.holds Tryz.pinned (OpenSpec.upto againNoneSpec)

end Rows
end Go.Proofs.YtklcddahddbjcaaGreat
