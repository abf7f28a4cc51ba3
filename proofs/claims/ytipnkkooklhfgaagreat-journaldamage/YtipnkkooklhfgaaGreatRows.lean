/-
  No cell of these rows narrows 'for every input' (looked for: loops, veiled, ifaces, maps, wideKeys, modest, calm, conditions, laid).
  DERIVED. THE GIVEN ROWS OF THIS SEAT. 6 by the template 'for every input the law returns true; each argument reads behind the call as it read before'; 0 by the template 'total and deterministic' (their statements: YtipnkkooklhfgaaGreatTotals.lean).
  GIVEN WITH THE SEED: the statements are not yours to turn. If you find one false, say at which input.
  Laid BY PROGRAM, IN A SANDBOX (cutbox-rows.mjs): the forced cells as the released guide's own fill.sh prints them over the translation 9c4574a50463e933… (all of the seat's roots in one cut). By AI agents, Wed Nov 11 2026. No macro, syntax, notation, axiom, sorry.
-/
import Derived.Test.YtipnkkooklhfgaaGreatChecked
import GoSem.Claim
import GoSem.ClaimJoined
import GoSem.ClaimMapViews
import Derived.JoinedTies
import Derived.KernelRfl
namespace Go.Proofs.YtipnkkooklhfgaaGreat
/- THE CELL 'sum', in the pinned program and in every row, IS THE sha256 OF THE DUMP (.gsa) THAT YtipnkkooklhfgaaGreatProg.lean LOADS. Nothing in Lean hashes anything: it is a label: what it is worth is what the hold of that sum in a sandbox is worth. -/
noncomputable def Tryz.pinned : Pinned := { name := "ytipnkkooklhfgaagreat", sum := "9c4574a50463e93382e3bcd2dd9bf477999e8630b3b8b6b4814a5b30617ba267", checked := Tryz.checked }
namespace Rows
def none {H : Type} : Left H := { results := [], args := [] }

/-- 'pagemendlaw06.JournalExact': WHATEVER THE INPUT: true; the input reads as it did. -/
def journalExactSpec : ChangeSpec := { name := "journalExact", fn := fun _ => fun
  | [d1, d2, d3, d4] => { results := [.lit (.bool true)], args := [d1, d2, d3, d4] }
  | _ => none }
def journalExactRow : OpenClaim := { program := "ytipnkkooklhfgaagreat", sum := "9c4574a50463e93382e3bcd2dd9bf477999e8630b3b8b6b4814a5b30617ba267", func := "pagemend/pagemendlaw06.JournalExact", spec := "journalExact", inPlace := ["internal/abi.NoEscape"], unfollowed := true, recurses := true, apart := false }
def JournalExactSaid : Prop := journalExactRow.holds Tryz.pinned (OpenSpec.ofChange journalExactSpec)

/-- ITS FALSE NEIGHBOUR: 'it returns false'. Refute it at one input. -/
def journalExactWrong : ChangeSpec := { name := "journalExact", fn := fun _ => fun
  | [d1, d2, d3, d4] => { results := [.lit (.bool false)], args := [d1, d2, d3, d4] }
  | _ => none }
def JournalExactWrongFalsely : Prop := journalExactRow.holds Tryz.pinned (OpenSpec.ofChange journalExactWrong)

/-- 'pagemendlaw06.JournalBytes': WHATEVER THE INPUT: true; the input reads as it did. -/
def journalBytesSpec : ChangeSpec := { name := "journalBytes", fn := fun _ => fun
  | [d1, d2, d3] => { results := [.lit (.bool true)], args := [d1, d2, d3] }
  | _ => none }
def journalBytesRow : OpenClaim := { program := "ytipnkkooklhfgaagreat", sum := "9c4574a50463e93382e3bcd2dd9bf477999e8630b3b8b6b4814a5b30617ba267", func := "pagemend/pagemendlaw06.JournalBytes", spec := "journalBytes", inPlace := ["internal/abi.NoEscape"], unfollowed := true, recurses := true, apart := false }
def JournalBytesSaid : Prop := journalBytesRow.holds Tryz.pinned (OpenSpec.ofChange journalBytesSpec)

/-- ITS FALSE NEIGHBOUR: 'it returns false'. Refute it at one input. -/
def journalBytesWrong : ChangeSpec := { name := "journalBytes", fn := fun _ => fun
  | [d1, d2, d3] => { results := [.lit (.bool false)], args := [d1, d2, d3] }
  | _ => none }
def JournalBytesWrongFalsely : Prop := journalBytesRow.holds Tryz.pinned (OpenSpec.ofChange journalBytesWrong)

/-- 'pagemendlaw06.JournalCrashes': WHATEVER THE INPUT: true; the input reads as it did. -/
def journalCrashesSpec : ChangeSpec := { name := "journalCrashes", fn := fun _ => fun
  | [d1, d2] => { results := [.lit (.bool true)], args := [d1, d2] }
  | _ => none }
def journalCrashesRow : OpenClaim := { program := "ytipnkkooklhfgaagreat", sum := "9c4574a50463e93382e3bcd2dd9bf477999e8630b3b8b6b4814a5b30617ba267", func := "pagemend/pagemendlaw06.JournalCrashes", spec := "journalCrashes", inPlace := ["internal/abi.NoEscape"], unfollowed := true, recurses := true, apart := false }
def JournalCrashesSaid : Prop := journalCrashesRow.holds Tryz.pinned (OpenSpec.ofChange journalCrashesSpec)

/-- ITS FALSE NEIGHBOUR: 'it returns false'. Refute it at one input. -/
def journalCrashesWrong : ChangeSpec := { name := "journalCrashes", fn := fun _ => fun
  | [d1, d2] => { results := [.lit (.bool false)], args := [d1, d2] }
  | _ => none }
def JournalCrashesWrongFalsely : Prop := journalCrashesRow.holds Tryz.pinned (OpenSpec.ofChange journalCrashesWrong)

/-- 'pagemendlaw06.JournalDamage': WHATEVER THE INPUT: true; the input reads as it did. -/
def journalDamageSpec : ChangeSpec := { name := "journalDamage", fn := fun _ => fun
  | [d1, d2, d3] => { results := [.lit (.bool true)], args := [d1, d2, d3] }
  | _ => none }
def journalDamageRow : OpenClaim := { program := "ytipnkkooklhfgaagreat", sum := "9c4574a50463e93382e3bcd2dd9bf477999e8630b3b8b6b4814a5b30617ba267", func := "pagemend/pagemendlaw06.JournalDamage", spec := "journalDamage", inPlace := ["internal/abi.NoEscape"], unfollowed := true, recurses := true, apart := false }
def JournalDamageSaid : Prop := journalDamageRow.holds Tryz.pinned (OpenSpec.ofChange journalDamageSpec)

/-- ITS FALSE NEIGHBOUR: 'it returns false'. Refute it at one input. -/
def journalDamageWrong : ChangeSpec := { name := "journalDamage", fn := fun _ => fun
  | [d1, d2, d3] => { results := [.lit (.bool false)], args := [d1, d2, d3] }
  | _ => none }
def JournalDamageWrongFalsely : Prop := journalDamageRow.holds Tryz.pinned (OpenSpec.ofChange journalDamageWrong)

/-- 'pagemendlaw06.JournalCuts': WHATEVER THE INPUT: true; the input reads as it did. -/
def journalCutsSpec : ChangeSpec := { name := "journalCuts", fn := fun _ => fun
  | [d1, d2, d3] => { results := [.lit (.bool true)], args := [d1, d2, d3] }
  | _ => none }
def journalCutsRow : OpenClaim := { program := "ytipnkkooklhfgaagreat", sum := "9c4574a50463e93382e3bcd2dd9bf477999e8630b3b8b6b4814a5b30617ba267", func := "pagemend/pagemendlaw06.JournalCuts", spec := "journalCuts", inPlace := ["internal/abi.NoEscape"], unfollowed := true, recurses := true, apart := false }
def JournalCutsSaid : Prop := journalCutsRow.holds Tryz.pinned (OpenSpec.ofChange journalCutsSpec)

/-- ITS FALSE NEIGHBOUR: 'it returns false'. Refute it at one input. -/
def journalCutsWrong : ChangeSpec := { name := "journalCuts", fn := fun _ => fun
  | [d1, d2, d3] => { results := [.lit (.bool false)], args := [d1, d2, d3] }
  | _ => none }
def JournalCutsWrongFalsely : Prop := journalCutsRow.holds Tryz.pinned (OpenSpec.ofChange journalCutsWrong)

/-- 'pagemendlaw06.JournalForces': WHATEVER THE INPUT: true; the input reads as it did. -/
def journalForcesSpec : ChangeSpec := { name := "journalForces", fn := fun _ => fun
  | [d1, d2] => { results := [.lit (.bool true)], args := [d1, d2] }
  | _ => none }
def journalForcesRow : OpenClaim := { program := "ytipnkkooklhfgaagreat", sum := "9c4574a50463e93382e3bcd2dd9bf477999e8630b3b8b6b4814a5b30617ba267", func := "pagemend/pagemendlaw06.JournalForces", spec := "journalForces", inPlace := ["internal/abi.NoEscape"], unfollowed := true, recurses := true, apart := false }
def JournalForcesSaid : Prop := journalForcesRow.holds Tryz.pinned (OpenSpec.ofChange journalForcesSpec)

/-- ITS FALSE NEIGHBOUR: 'it returns false'. Refute it at one input. -/
def journalForcesWrong : ChangeSpec := { name := "journalForces", fn := fun _ => fun
  | [d1, d2] => { results := [.lit (.bool false)], args := [d1, d2] }
  | _ => none }
def JournalForcesWrongFalsely : Prop := journalForcesRow.holds Tryz.pinned (OpenSpec.ofChange journalForcesWrong)

/- THE SECOND FORM. 'bulk': how many values and letters a reading holds, each counted each time it is reached (what is shared counts as often as it is met; a slice's spare places count too). A statement '..UptoSaid' is the law's where the arguments, and the package variables that the reading takes, are together of bulk at most 1048576: NARROWER than '..Said'. Prove '..Said' where nothing that the law and all that it calls make is longer than what came in: it says more and counts as full. Else prove '..UptoSaid'. A law counts once. -/
mutual
def uptoBulk {H : Type} : DataW H → Nat
  | .lit (.string bytes) => bytes.length + 1
  | .lit _ => 1
  | .nil => 1
  | .ptr d => uptoBulk d + 1
  | .slice elems spare => uptoBulkAll elems + uptoBulkAll spare + 1
  | .agg parts => uptoBulkAll parts + 1
  | .iface _ d => uptoBulk d + 1
  | .map entries => uptoBulkEntries entries + 1
  | .held _ => 1
def uptoBulkAll {H : Type} : List (DataW H) → Nat
  | [] => 0
  | d :: r => uptoBulk d + uptoBulkAll r
def uptoBulkEntries {H : Type} : List (Lit × DataW H) → Nat
  | [] => 0
  | x :: r => uptoBulkEntry x + uptoBulkEntries r
def uptoBulkEntry {H : Type} : Lit × DataW H → Nat
  | (.string bytes, d) => bytes.length + uptoBulk d + 1
  | (_, d) => uptoBulk d + 1
 end
def uptoSmall : (H : Type) → List (DataW H) → Bool := fun _ ds => decide (uptoBulkAll ds ≤ 1048576)
def OpenSpec.upto (s : _root_.Go.ChangeSpec) : _root_.Go.OpenSpec := { _root_.Go.OpenSpec.ofChange s with cond := some uptoSmall }

/-- 'pagemendlaw06.JournalExact', WHERE WHAT IT READS IS OF BULK AT MOST 1048576: true; the input reads as it did. -/
def journalExactUptoRow : OpenClaim := { program := "ytipnkkooklhfgaagreat", sum := "9c4574a50463e93382e3bcd2dd9bf477999e8630b3b8b6b4814a5b30617ba267", func := "pagemend/pagemendlaw06.JournalExact", spec := "journalExact", inPlace := ["internal/abi.NoEscape"], unfollowed := true, recurses := true, apart := false, narrowed := true }
def JournalExactUptoSaid : Prop := journalExactUptoRow.holds Tryz.pinned (OpenSpec.upto journalExactSpec)

/-- 'pagemendlaw06.JournalBytes', WHERE WHAT IT READS IS OF BULK AT MOST 1048576: true; the input reads as it did. -/
def journalBytesUptoRow : OpenClaim := { program := "ytipnkkooklhfgaagreat", sum := "9c4574a50463e93382e3bcd2dd9bf477999e8630b3b8b6b4814a5b30617ba267", func := "pagemend/pagemendlaw06.JournalBytes", spec := "journalBytes", inPlace := ["internal/abi.NoEscape"], unfollowed := true, recurses := true, apart := false, narrowed := true }
def JournalBytesUptoSaid : Prop := journalBytesUptoRow.holds Tryz.pinned (OpenSpec.upto journalBytesSpec)

/-- 'pagemendlaw06.JournalCrashes', WHERE WHAT IT READS IS OF BULK AT MOST 1048576: true; the input reads as it did. -/
def journalCrashesUptoRow : OpenClaim := { program := "ytipnkkooklhfgaagreat", sum := "9c4574a50463e93382e3bcd2dd9bf477999e8630b3b8b6b4814a5b30617ba267", func := "pagemend/pagemendlaw06.JournalCrashes", spec := "journalCrashes", inPlace := ["internal/abi.NoEscape"], unfollowed := true, recurses := true, apart := false, narrowed := true }
def JournalCrashesUptoSaid : Prop := journalCrashesUptoRow.holds Tryz.pinned (OpenSpec.upto journalCrashesSpec)

/-- 'pagemendlaw06.JournalDamage', WHERE WHAT IT READS IS OF BULK AT MOST 1048576: true; the input reads as it did. -/
def journalDamageUptoRow : OpenClaim := { program := "ytipnkkooklhfgaagreat", sum := "9c4574a50463e93382e3bcd2dd9bf477999e8630b3b8b6b4814a5b30617ba267", func := "pagemend/pagemendlaw06.JournalDamage", spec := "journalDamage", inPlace := ["internal/abi.NoEscape"], unfollowed := true, recurses := true, apart := false, narrowed := true }
def JournalDamageUptoSaid : Prop := journalDamageUptoRow.holds Tryz.pinned (OpenSpec.upto journalDamageSpec)

/-- 'pagemendlaw06.JournalCuts', WHERE WHAT IT READS IS OF BULK AT MOST 1048576: true; the input reads as it did. -/
def journalCutsUptoRow : OpenClaim := { program := "ytipnkkooklhfgaagreat", sum := "9c4574a50463e93382e3bcd2dd9bf477999e8630b3b8b6b4814a5b30617ba267", func := "pagemend/pagemendlaw06.JournalCuts", spec := "journalCuts", inPlace := ["internal/abi.NoEscape"], unfollowed := true, recurses := true, apart := false, narrowed := true }
def JournalCutsUptoSaid : Prop := journalCutsUptoRow.holds Tryz.pinned (OpenSpec.upto journalCutsSpec)

/-- 'pagemendlaw06.JournalForces', WHERE WHAT IT READS IS OF BULK AT MOST 1048576: true; the input reads as it did. -/
def journalForcesUptoRow : OpenClaim := { program := "ytipnkkooklhfgaagreat", sum := "9c4574a50463e93382e3bcd2dd9bf477999e8630b3b8b6b4814a5b30617ba267", func := "pagemend/pagemendlaw06.JournalForces", spec := "journalForces", inPlace := ["internal/abi.NoEscape"], unfollowed := true, recurses := true, apart := false, narrowed := true }
def JournalForcesUptoSaid : Prop := journalForcesUptoRow.holds Tryz.pinned (OpenSpec.upto journalForcesSpec)

end Rows
end Go.Proofs.YtipnkkooklhfgaaGreat
