/-
  No cell of these rows narrows 'for every input' (looked for: loops, veiled, ifaces, maps, wideKeys, modest, calm, conditions, laid).
  DERIVED. THE GIVEN ROWS OF THIS SEAT. 6 by the template 'for every input the law returns true; each argument reads behind the call as it read before'; 0 by the template 'total and deterministic' (their statements: YtjjjlkjhojdnnaaTotals.lean).
  GIVEN WITH THE SEED: the statements are not yours to turn. If you find one false, say at which input.
  Laid BY PROGRAM, IN A SANDBOX (cutbox-rows.mjs): the forced cells as the released guide's own fill.sh prints them over the translation 3e6d362ba57b6d96… (all of the seat's roots in one cut). By AI agents, Wed Nov 11 2026. No macro, syntax, notation, axiom, sorry.
-/
import Derived.Test.YtjjjlkjhojdnnaaChecked
import GoSem.Claim
import GoSem.ClaimJoined
import GoSem.ClaimMapViews
import Derived.JoinedTies
import Derived.KernelRfl
namespace Go.Proofs.Ytjjjlkjhojdnnaa
/- THE CELL 'sum', in the pinned program and in every row, IS THE sha256 OF THE DUMP (.gsa) THAT YtjjjlkjhojdnnaaProg.lean LOADS. Nothing in Lean hashes anything: it is a label: what it is worth is what the hold of that sum in a sandbox is worth. -/
noncomputable def Try.pinned : Pinned := { name := "ytjjjlkjhojdnnaa", sum := "3e6d362ba57b6d963c2e4f71ba09bef89c936c1d24c7acd01482c27a701a0b13", checked := Try.checked }
namespace Rows
def none {H : Type} : Left H := { results := [], args := [] }

/-- 'pagemendlaw35.QuarantineExact': WHATEVER THE INPUT: true; the input reads as it did. -/
def quarantineExactSpec : ChangeSpec := { name := "quarantineExact", fn := fun _ => fun
  | [d1, d2, d3, d4] => { results := [.lit (.bool true)], args := [d1, d2, d3, d4] }
  | _ => none }
def quarantineExactRow : OpenClaim := { program := "ytjjjlkjhojdnnaa", sum := "3e6d362ba57b6d963c2e4f71ba09bef89c936c1d24c7acd01482c27a701a0b13", func := "pagemend/pagemendlaw35.QuarantineExact", spec := "quarantineExact", inPlace := ["slices.overlaps[int]", "slices.overlaps[pagemend/api.Place]"], unfollowed := true, recurses := true, apart := false }
def QuarantineExactSaid : Prop := quarantineExactRow.holds Try.pinned (OpenSpec.ofChange quarantineExactSpec)

/-- ITS FALSE NEIGHBOUR: 'it returns false'. Refute it at one input. -/
def quarantineExactWrong : ChangeSpec := { name := "quarantineExact", fn := fun _ => fun
  | [d1, d2, d3, d4] => { results := [.lit (.bool false)], args := [d1, d2, d3, d4] }
  | _ => none }
def QuarantineExactWrongFalsely : Prop := quarantineExactRow.holds Try.pinned (OpenSpec.ofChange quarantineExactWrong)

/-- 'pagemendlaw35.QuarantinePlaces': WHATEVER THE INPUT: true; the input reads as it did. -/
def quarantinePlacesSpec : ChangeSpec := { name := "quarantinePlaces", fn := fun _ => fun
  | [d1, d2, d3] => { results := [.lit (.bool true)], args := [d1, d2, d3] }
  | _ => none }
def quarantinePlacesRow : OpenClaim := { program := "ytjjjlkjhojdnnaa", sum := "3e6d362ba57b6d963c2e4f71ba09bef89c936c1d24c7acd01482c27a701a0b13", func := "pagemend/pagemendlaw35.QuarantinePlaces", spec := "quarantinePlaces", inPlace := ["slices.overlaps[int]", "slices.overlaps[pagemend/api.Place]"], unfollowed := true, recurses := true, apart := false }
def QuarantinePlacesSaid : Prop := quarantinePlacesRow.holds Try.pinned (OpenSpec.ofChange quarantinePlacesSpec)

/-- ITS FALSE NEIGHBOUR: 'it returns false'. Refute it at one input. -/
def quarantinePlacesWrong : ChangeSpec := { name := "quarantinePlaces", fn := fun _ => fun
  | [d1, d2, d3] => { results := [.lit (.bool false)], args := [d1, d2, d3] }
  | _ => none }
def QuarantinePlacesWrongFalsely : Prop := quarantinePlacesRow.holds Try.pinned (OpenSpec.ofChange quarantinePlacesWrong)

/-- 'pagemendlaw35.QuarantineSpares': WHATEVER THE INPUT: true; the input reads as it did. -/
def quarantineSparesSpec : ChangeSpec := { name := "quarantineSpares", fn := fun _ => fun
  | [d1, d2] => { results := [.lit (.bool true)], args := [d1, d2] }
  | _ => none }
def quarantineSparesRow : OpenClaim := { program := "ytjjjlkjhojdnnaa", sum := "3e6d362ba57b6d963c2e4f71ba09bef89c936c1d24c7acd01482c27a701a0b13", func := "pagemend/pagemendlaw35.QuarantineSpares", spec := "quarantineSpares", inPlace := ["slices.overlaps[int]", "slices.overlaps[pagemend/api.Place]"], unfollowed := true, recurses := true, apart := false }
def QuarantineSparesSaid : Prop := quarantineSparesRow.holds Try.pinned (OpenSpec.ofChange quarantineSparesSpec)

/-- ITS FALSE NEIGHBOUR: 'it returns false'. Refute it at one input. -/
def quarantineSparesWrong : ChangeSpec := { name := "quarantineSpares", fn := fun _ => fun
  | [d1, d2] => { results := [.lit (.bool false)], args := [d1, d2] }
  | _ => none }
def QuarantineSparesWrongFalsely : Prop := quarantineSparesRow.holds Try.pinned (OpenSpec.ofChange quarantineSparesWrong)

/-- 'pagemendlaw35.QuarantineAgain': WHATEVER THE INPUT: true; the input reads as it did. -/
def quarantineAgainSpec : ChangeSpec := { name := "quarantineAgain", fn := fun _ => fun
  | [d1, d2] => { results := [.lit (.bool true)], args := [d1, d2] }
  | _ => none }
def quarantineAgainRow : OpenClaim := { program := "ytjjjlkjhojdnnaa", sum := "3e6d362ba57b6d963c2e4f71ba09bef89c936c1d24c7acd01482c27a701a0b13", func := "pagemend/pagemendlaw35.QuarantineAgain", spec := "quarantineAgain", inPlace := ["slices.overlaps[int]", "slices.overlaps[pagemend/api.Place]"], unfollowed := true, recurses := true, apart := false }
def QuarantineAgainSaid : Prop := quarantineAgainRow.holds Try.pinned (OpenSpec.ofChange quarantineAgainSpec)

/-- ITS FALSE NEIGHBOUR: 'it returns false'. Refute it at one input. -/
def quarantineAgainWrong : ChangeSpec := { name := "quarantineAgain", fn := fun _ => fun
  | [d1, d2] => { results := [.lit (.bool false)], args := [d1, d2] }
  | _ => none }
def QuarantineAgainWrongFalsely : Prop := quarantineAgainRow.holds Try.pinned (OpenSpec.ofChange quarantineAgainWrong)

/-- 'pagemendlaw35.QuarantineNotes': WHATEVER THE INPUT: true; the input reads as it did. -/
def quarantineNotesSpec : ChangeSpec := { name := "quarantineNotes", fn := fun _ => fun
  | [d1, d2] => { results := [.lit (.bool true)], args := [d1, d2] }
  | _ => none }
def quarantineNotesRow : OpenClaim := { program := "ytjjjlkjhojdnnaa", sum := "3e6d362ba57b6d963c2e4f71ba09bef89c936c1d24c7acd01482c27a701a0b13", func := "pagemend/pagemendlaw35.QuarantineNotes", spec := "quarantineNotes", inPlace := ["slices.overlaps[int]", "slices.overlaps[pagemend/api.Place]", "internal/abi.NoEscape"], unfollowed := true, recurses := true, apart := false }
def QuarantineNotesSaid : Prop := quarantineNotesRow.holds Try.pinned (OpenSpec.ofChange quarantineNotesSpec)

/-- ITS FALSE NEIGHBOUR: 'it returns false'. Refute it at one input. -/
def quarantineNotesWrong : ChangeSpec := { name := "quarantineNotes", fn := fun _ => fun
  | [d1, d2] => { results := [.lit (.bool false)], args := [d1, d2] }
  | _ => none }
def QuarantineNotesWrongFalsely : Prop := quarantineNotesRow.holds Try.pinned (OpenSpec.ofChange quarantineNotesWrong)

/-- 'pagemendlaw06.JournalLimits': WHATEVER THE INPUT: true; the input reads as it did. -/
def journalLimitsSpec : ChangeSpec := { name := "journalLimits", fn := fun _ => fun
  | [d1, d2] => { results := [.lit (.bool true)], args := [d1, d2] }
  | _ => none }
def journalLimitsRow : OpenClaim := { program := "ytjjjlkjhojdnnaa", sum := "3e6d362ba57b6d963c2e4f71ba09bef89c936c1d24c7acd01482c27a701a0b13", func := "pagemend/pagemendlaw06.JournalLimits", spec := "journalLimits", inPlace := ["internal/abi.NoEscape"], unfollowed := true, recurses := true, apart := false }
def JournalLimitsSaid : Prop := journalLimitsRow.holds Try.pinned (OpenSpec.ofChange journalLimitsSpec)

/-- ITS FALSE NEIGHBOUR: 'it returns false'. Refute it at one input. -/
def journalLimitsWrong : ChangeSpec := { name := "journalLimits", fn := fun _ => fun
  | [d1, d2] => { results := [.lit (.bool false)], args := [d1, d2] }
  | _ => none }
def JournalLimitsWrongFalsely : Prop := journalLimitsRow.holds Try.pinned (OpenSpec.ofChange journalLimitsWrong)

/- THE SECOND FORM. 'bulk': how many values and letters a reading holds, each counted each time it is reached (what is shared counts as often as it is met; a slice's spare places count too). A statement '..UptoSaid' is the law's where the arguments, and the package variables that the reading takes, are together of bulk at most 1048576: NARROWER than '..Said'. Prove '..Said' where nothing that the law and all that it calls make is longer than what came in: it says more and counts as full. Else prove '..UptoSaid'. A law counts once. -/
mutual
def uptoBulk {H : Type} : DataW H → Nat
  | .lit (.string bytes) => bytes.length + 1
  | .lit _ => 1
  | .nil => 1
  | .ptr d => uptoBulk d + 1
  | .slice elems spare => uptoBulkAll elems + uptoBulkAll spare + 1
  | .agg parts => uptoBulkAll parts + 1
  | .iface _ d => uptoBulk d + 1
  | .map entries => uptoBulkEntries entries + 1
  | .held _ => 1
def uptoBulkAll {H : Type} : List (DataW H) → Nat
  | [] => 0
  | d :: r => uptoBulk d + uptoBulkAll r
def uptoBulkEntries {H : Type} : List (Lit × DataW H) → Nat
  | [] => 0
  | x :: r => uptoBulkEntry x + uptoBulkEntries r
def uptoBulkEntry {H : Type} : Lit × DataW H → Nat
  | (.string bytes, d) => bytes.length + uptoBulk d + 1
  | (_, d) => uptoBulk d + 1
 end
def uptoSmall : (H : Type) → List (DataW H) → Bool := fun _ ds => decide (uptoBulkAll ds ≤ 1048576)
def OpenSpec.upto (s : _root_.Go.ChangeSpec) : _root_.Go.OpenSpec := { _root_.Go.OpenSpec.ofChange s with cond := some uptoSmall }

/-- 'pagemendlaw35.QuarantineExact', WHERE WHAT IT READS IS OF BULK AT MOST 1048576: true; the input reads as it did. -/
def quarantineExactUptoRow : OpenClaim := { program := "ytjjjlkjhojdnnaa", sum := "3e6d362ba57b6d963c2e4f71ba09bef89c936c1d24c7acd01482c27a701a0b13", func := "pagemend/pagemendlaw35.QuarantineExact", spec := "quarantineExact", inPlace := ["slices.overlaps[int]", "slices.overlaps[pagemend/api.Place]"], unfollowed := true, recurses := true, apart := false, narrowed := true }
def QuarantineExactUptoSaid : Prop := quarantineExactUptoRow.holds Try.pinned (OpenSpec.upto quarantineExactSpec)

/-- 'pagemendlaw35.QuarantinePlaces', WHERE WHAT IT READS IS OF BULK AT MOST 1048576: true; the input reads as it did. -/
def quarantinePlacesUptoRow : OpenClaim := { program := "ytjjjlkjhojdnnaa", sum := "3e6d362ba57b6d963c2e4f71ba09bef89c936c1d24c7acd01482c27a701a0b13", func := "pagemend/pagemendlaw35.QuarantinePlaces", spec := "quarantinePlaces", inPlace := ["slices.overlaps[int]", "slices.overlaps[pagemend/api.Place]"], unfollowed := true, recurses := true, apart := false, narrowed := true }
def QuarantinePlacesUptoSaid : Prop := quarantinePlacesUptoRow.holds Try.pinned (OpenSpec.upto quarantinePlacesSpec)

/-- 'pagemendlaw35.QuarantineSpares', WHERE WHAT IT READS IS OF BULK AT MOST 1048576: true; the input reads as it did. -/
def quarantineSparesUptoRow : OpenClaim := { program := "ytjjjlkjhojdnnaa", sum := "3e6d362ba57b6d963c2e4f71ba09bef89c936c1d24c7acd01482c27a701a0b13", func := "pagemend/pagemendlaw35.QuarantineSpares", spec := "quarantineSpares", inPlace := ["slices.overlaps[int]", "slices.overlaps[pagemend/api.Place]"], unfollowed := true, recurses := true, apart := false, narrowed := true }
def QuarantineSparesUptoSaid : Prop := quarantineSparesUptoRow.holds Try.pinned (OpenSpec.upto quarantineSparesSpec)

/-- 'pagemendlaw35.QuarantineAgain', WHERE WHAT IT READS IS OF BULK AT MOST 1048576: true; the input reads as it did. -/
def quarantineAgainUptoRow : OpenClaim := { program := "ytjjjlkjhojdnnaa", sum := "3e6d362ba57b6d963c2e4f71ba09bef89c936c1d24c7acd01482c27a701a0b13", func := "pagemend/pagemendlaw35.QuarantineAgain", spec := "quarantineAgain", inPlace := ["slices.overlaps[int]", "slices.overlaps[pagemend/api.Place]"], unfollowed := true, recurses := true, apart := false, narrowed := true }
def QuarantineAgainUptoSaid : Prop := quarantineAgainUptoRow.holds Try.pinned (OpenSpec.upto quarantineAgainSpec)

/-- 'pagemendlaw35.QuarantineNotes', WHERE WHAT IT READS IS OF BULK AT MOST 1048576: true; the input reads as it did. -/
def quarantineNotesUptoRow : OpenClaim := { program := "ytjjjlkjhojdnnaa", sum := "3e6d362ba57b6d963c2e4f71ba09bef89c936c1d24c7acd01482c27a701a0b13", func := "pagemend/pagemendlaw35.QuarantineNotes", spec := "quarantineNotes", inPlace := ["slices.overlaps[int]", "slices.overlaps[pagemend/api.Place]", "internal/abi.NoEscape"], unfollowed := true, recurses := true, apart := false, narrowed := true }
def QuarantineNotesUptoSaid : Prop := quarantineNotesUptoRow.holds Try.pinned (OpenSpec.upto quarantineNotesSpec)

/-- 'pagemendlaw06.JournalLimits', WHERE WHAT IT READS IS OF BULK AT MOST 1048576: true; the input reads as it did. -/
def journalLimitsUptoRow : OpenClaim := { program := "ytjjjlkjhojdnnaa", sum := "3e6d362ba57b6d963c2e4f71ba09bef89c936c1d24c7acd01482c27a701a0b13", func := "pagemend/pagemendlaw06.JournalLimits", spec := "journalLimits", inPlace := ["internal/abi.NoEscape"], unfollowed := true, recurses := true, apart := false, narrowed := true }
def JournalLimitsUptoSaid : Prop := journalLimitsUptoRow.holds Try.pinned (OpenSpec.upto journalLimitsSpec)

end Rows
end Go.Proofs.Ytjjjlkjhojdnnaa
