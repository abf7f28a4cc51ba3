/-
  No cell of these rows narrows 'for every input' (looked for: loops, veiled, ifaces, maps, wideKeys, modest, calm, conditions, laid).
  DERIVED. THE GIVEN ROWS OF THIS SEAT. 10 by the template 'for every input the law returns true; each argument reads behind the call as it read before'; 0 by the template 'total and deterministic' (their statements: YtmdjgpnonhbfdaaTotals.lean).
  GIVEN WITH THE SEED: the statements are not yours to turn. If you find one false, say at which input.
  Laid BY PROGRAM, IN A SANDBOX (cutbox-rows.mjs): the forced cells as the released guide's own fill.sh prints them over the translation 8dbefb1dbe009c72… (all of the seat's roots in one cut). By AI agents, Wed Nov 11 2026. No macro, syntax, notation, axiom, sorry.
-/
import Derived.Test.YtmdjgpnonhbfdaaChecked
import GoSem.Claim
import GoSem.ClaimJoined
import GoSem.ClaimMapViews
import Derived.JoinedTies
import Derived.KernelRfl
namespace Go.Proofs.Ytmdjgpnonhbfdaa
/- THE CELL 'sum', in the pinned program and in every row, IS THE sha256 OF THE DUMP (.gsa) THAT YtmdjgpnonhbfdaaProg.lean LOADS. Nothing in Lean hashes anything: it is a label: what it is worth is what the hold of that sum in a sandbox is worth. -/
noncomputable def Try.pinned : Pinned := { name := "ytmdjgpnonhbfdaa", sum := "8dbefb1dbe009c72c4a0863304cd46009580f63a73268236c4a2ddbf39ad498b", checked := Try.checked }
namespace Rows
def none {H : Type} : Left H := { results := [], args := [] }

/-- 'pagemendlaw01.CodecNumbers': WHATEVER THE INPUT: true; the input reads as it did. -/
def codecNumbersSpec : ChangeSpec := { name := "codecNumbers", fn := fun _ => fun
  | [d1, d2, d3, d4, d5] => { results := [.lit (.bool true)], args := [d1, d2, d3, d4, d5] }
  | _ => none }
def codecNumbersRow : OpenClaim := { program := "ytmdjgpnonhbfdaa", sum := "8dbefb1dbe009c72c4a0863304cd46009580f63a73268236c4a2ddbf39ad498b", func := "pagemend/pagemendlaw01.CodecNumbers", spec := "codecNumbers", inPlace := ["internal/abi.NoEscape"], apart := false }
def CodecNumbersSaid : Prop := codecNumbersRow.holds Try.pinned (OpenSpec.ofChange codecNumbersSpec)

/-- ITS FALSE NEIGHBOUR: 'it returns false'. Refute it at one input. -/
def codecNumbersWrong : ChangeSpec := { name := "codecNumbers", fn := fun _ => fun
  | [d1, d2, d3, d4, d5] => { results := [.lit (.bool false)], args := [d1, d2, d3, d4, d5] }
  | _ => none }
def CodecNumbersWrongFalsely : Prop := codecNumbersRow.holds Try.pinned (OpenSpec.ofChange codecNumbersWrong)

/-- 'pagemendlaw01.CodecBack': WHATEVER THE INPUT: true; the input reads as it did. -/
def codecBackSpec : ChangeSpec := { name := "codecBack", fn := fun _ => fun
  | [d1, d2, d3, d4] => { results := [.lit (.bool true)], args := [d1, d2, d3, d4] }
  | _ => none }
def codecBackRow : OpenClaim := { program := "ytmdjgpnonhbfdaa", sum := "8dbefb1dbe009c72c4a0863304cd46009580f63a73268236c4a2ddbf39ad498b", func := "pagemend/pagemendlaw01.CodecBack", spec := "codecBack", inPlace := ["internal/abi.NoEscape"], apart := false }
def CodecBackSaid : Prop := codecBackRow.holds Try.pinned (OpenSpec.ofChange codecBackSpec)

/-- ITS FALSE NEIGHBOUR: 'it returns false'. Refute it at one input. -/
def codecBackWrong : ChangeSpec := { name := "codecBack", fn := fun _ => fun
  | [d1, d2, d3, d4] => { results := [.lit (.bool false)], args := [d1, d2, d3, d4] }
  | _ => none }
def CodecBackWrongFalsely : Prop := codecBackRow.holds Try.pinned (OpenSpec.ofChange codecBackWrong)

/-- 'pagemendlaw01.CodecSum': WHATEVER THE INPUT: true; the input reads as it did. -/
def codecSumSpec : ChangeSpec := { name := "codecSum", fn := fun _ => fun
  | [d1, d2, d3] => { results := [.lit (.bool true)], args := [d1, d2, d3] }
  | _ => none }
def codecSumRow : OpenClaim := { program := "ytmdjgpnonhbfdaa", sum := "8dbefb1dbe009c72c4a0863304cd46009580f63a73268236c4a2ddbf39ad498b", func := "pagemend/pagemendlaw01.CodecSum", spec := "codecSum", inPlace := ["internal/abi.NoEscape"], apart := false }
def CodecSumSaid : Prop := codecSumRow.holds Try.pinned (OpenSpec.ofChange codecSumSpec)

/-- ITS FALSE NEIGHBOUR: 'it returns false'. Refute it at one input. -/
def codecSumWrong : ChangeSpec := { name := "codecSum", fn := fun _ => fun
  | [d1, d2, d3] => { results := [.lit (.bool false)], args := [d1, d2, d3] }
  | _ => none }
def CodecSumWrongFalsely : Prop := codecSumRow.holds Try.pinned (OpenSpec.ofChange codecSumWrong)

/-- 'pagemendlaw01.CodecFrames': WHATEVER THE INPUT: true; the input reads as it did. -/
def codecFramesSpec : ChangeSpec := { name := "codecFrames", fn := fun _ => fun
  | [d1, d2, d3, d4] => { results := [.lit (.bool true)], args := [d1, d2, d3, d4] }
  | _ => none }
def codecFramesRow : OpenClaim := { program := "ytmdjgpnonhbfdaa", sum := "8dbefb1dbe009c72c4a0863304cd46009580f63a73268236c4a2ddbf39ad498b", func := "pagemend/pagemendlaw01.CodecFrames", spec := "codecFrames", inPlace := ["internal/abi.NoEscape"], recurses := true, apart := false }
def CodecFramesSaid : Prop := codecFramesRow.holds Try.pinned (OpenSpec.ofChange codecFramesSpec)

/-- ITS FALSE NEIGHBOUR: 'it returns false'. Refute it at one input. -/
def codecFramesWrong : ChangeSpec := { name := "codecFrames", fn := fun _ => fun
  | [d1, d2, d3, d4] => { results := [.lit (.bool false)], args := [d1, d2, d3, d4] }
  | _ => none }
def CodecFramesWrongFalsely : Prop := codecFramesRow.holds Try.pinned (OpenSpec.ofChange codecFramesWrong)

/-- 'pagemendlaw01.CodecDamage': WHATEVER THE INPUT: true; the input reads as it did. -/
def codecDamageSpec : ChangeSpec := { name := "codecDamage", fn := fun _ => fun
  | [d1, d2, d3] => { results := [.lit (.bool true)], args := [d1, d2, d3] }
  | _ => none }
def codecDamageRow : OpenClaim := { program := "ytmdjgpnonhbfdaa", sum := "8dbefb1dbe009c72c4a0863304cd46009580f63a73268236c4a2ddbf39ad498b", func := "pagemend/pagemendlaw01.CodecDamage", spec := "codecDamage", inPlace := ["internal/abi.NoEscape"], apart := false }
def CodecDamageSaid : Prop := codecDamageRow.holds Try.pinned (OpenSpec.ofChange codecDamageSpec)

/-- ITS FALSE NEIGHBOUR: 'it returns false'. Refute it at one input. -/
def codecDamageWrong : ChangeSpec := { name := "codecDamage", fn := fun _ => fun
  | [d1, d2, d3] => { results := [.lit (.bool false)], args := [d1, d2, d3] }
  | _ => none }
def CodecDamageWrongFalsely : Prop := codecDamageRow.holds Try.pinned (OpenSpec.ofChange codecDamageWrong)

/-- 'pagemendlaw05.EntryDecodes': WHATEVER THE INPUT: true; the input reads as it did. -/
def entryDecodesSpec : ChangeSpec := { name := "entryDecodes", fn := fun _ => fun
  | [d1, d2] => { results := [.lit (.bool true)], args := [d1, d2] }
  | _ => none }
def entryDecodesRow : OpenClaim := { program := "ytmdjgpnonhbfdaa", sum := "8dbefb1dbe009c72c4a0863304cd46009580f63a73268236c4a2ddbf39ad498b", func := "pagemend/pagemendlaw05.EntryDecodes", spec := "entryDecodes", inPlace := ["internal/abi.NoEscape"], unfollowed := true, recurses := true, apart := false }
def EntryDecodesSaid : Prop := entryDecodesRow.holds Try.pinned (OpenSpec.ofChange entryDecodesSpec)

/-- ITS FALSE NEIGHBOUR: 'it returns false'. Refute it at one input. -/
def entryDecodesWrong : ChangeSpec := { name := "entryDecodes", fn := fun _ => fun
  | [d1, d2] => { results := [.lit (.bool false)], args := [d1, d2] }
  | _ => none }
def EntryDecodesWrongFalsely : Prop := entryDecodesRow.holds Try.pinned (OpenSpec.ofChange entryDecodesWrong)

/-- 'pagemendlaw05.EntryReturns': WHATEVER THE INPUT: true; the input reads as it did. -/
def entryReturnsSpec : ChangeSpec := { name := "entryReturns", fn := fun _ => fun
  | [d] => { results := [.lit (.bool true)], args := [d] }
  | _ => none }
def entryReturnsRow : OpenClaim := { program := "ytmdjgpnonhbfdaa", sum := "8dbefb1dbe009c72c4a0863304cd46009580f63a73268236c4a2ddbf39ad498b", func := "pagemend/pagemendlaw05.EntryReturns", spec := "entryReturns", inPlace := ["internal/abi.NoEscape"], unfollowed := true, recurses := true, apart := false }
def EntryReturnsSaid : Prop := entryReturnsRow.holds Try.pinned (OpenSpec.ofChange entryReturnsSpec)

/-- ITS FALSE NEIGHBOUR: 'it returns false'. Refute it at one input. -/
def entryReturnsWrong : ChangeSpec := { name := "entryReturns", fn := fun _ => fun
  | [d] => { results := [.lit (.bool false)], args := [d] }
  | _ => none }
def EntryReturnsWrongFalsely : Prop := entryReturnsRow.holds Try.pinned (OpenSpec.ofChange entryReturnsWrong)

/-- 'pagemendlaw05.EntrySizes': WHATEVER THE INPUT: true; the input reads as it did. -/
def entrySizesSpec : ChangeSpec := { name := "entrySizes", fn := fun _ => fun
  | [d] => { results := [.lit (.bool true)], args := [d] }
  | _ => none }
def entrySizesRow : OpenClaim := { program := "ytmdjgpnonhbfdaa", sum := "8dbefb1dbe009c72c4a0863304cd46009580f63a73268236c4a2ddbf39ad498b", func := "pagemend/pagemendlaw05.EntrySizes", spec := "entrySizes", inPlace := ["internal/abi.NoEscape"], unfollowed := true, recurses := true, apart := false }
def EntrySizesSaid : Prop := entrySizesRow.holds Try.pinned (OpenSpec.ofChange entrySizesSpec)

/-- ITS FALSE NEIGHBOUR: 'it returns false'. Refute it at one input. -/
def entrySizesWrong : ChangeSpec := { name := "entrySizes", fn := fun _ => fun
  | [d] => { results := [.lit (.bool false)], args := [d] }
  | _ => none }
def EntrySizesWrongFalsely : Prop := entrySizesRow.holds Try.pinned (OpenSpec.ofChange entrySizesWrong)

/-- 'pagemendlaw05.EntryFields': WHATEVER THE INPUT: true; the input reads as it did. -/
def entryFieldsSpec : ChangeSpec := { name := "entryFields", fn := fun _ => fun
  | [d1, d2] => { results := [.lit (.bool true)], args := [d1, d2] }
  | _ => none }
def entryFieldsRow : OpenClaim := { program := "ytmdjgpnonhbfdaa", sum := "8dbefb1dbe009c72c4a0863304cd46009580f63a73268236c4a2ddbf39ad498b", func := "pagemend/pagemendlaw05.EntryFields", spec := "entryFields", inPlace := ["internal/abi.NoEscape"], unfollowed := true, recurses := true, apart := false }
def EntryFieldsSaid : Prop := entryFieldsRow.holds Try.pinned (OpenSpec.ofChange entryFieldsSpec)

/-- ITS FALSE NEIGHBOUR: 'it returns false'. Refute it at one input. -/
def entryFieldsWrong : ChangeSpec := { name := "entryFields", fn := fun _ => fun
  | [d1, d2] => { results := [.lit (.bool false)], args := [d1, d2] }
  | _ => none }
def EntryFieldsWrongFalsely : Prop := entryFieldsRow.holds Try.pinned (OpenSpec.ofChange entryFieldsWrong)

/-- 'pagemendlaw05.EntryEncodes': WHATEVER THE INPUT: true; the input reads as it did. -/
def entryEncodesSpec : ChangeSpec := { name := "entryEncodes", fn := fun _ => fun
  | [d1, d2] => { results := [.lit (.bool true)], args := [d1, d2] }
  | _ => none }
def entryEncodesRow : OpenClaim := { program := "ytmdjgpnonhbfdaa", sum := "8dbefb1dbe009c72c4a0863304cd46009580f63a73268236c4a2ddbf39ad498b", func := "pagemend/pagemendlaw05.EntryEncodes", spec := "entryEncodes", inPlace := ["internal/abi.NoEscape"], unfollowed := true, recurses := true, apart := false }
def EntryEncodesSaid : Prop := entryEncodesRow.holds Try.pinned (OpenSpec.ofChange entryEncodesSpec)

/-- ITS FALSE NEIGHBOUR: 'it returns false'. Refute it at one input. -/
def entryEncodesWrong : ChangeSpec := { name := "entryEncodes", fn := fun _ => fun
  | [d1, d2] => { results := [.lit (.bool false)], args := [d1, d2] }
  | _ => none }
def EntryEncodesWrongFalsely : Prop := entryEncodesRow.holds Try.pinned (OpenSpec.ofChange entryEncodesWrong)

/- THE SECOND FORM. 'bulk': how many values and letters a reading holds, each counted each time it is reached (what is shared counts as often as it is met; a slice's spare places count too). A statement '..UptoSaid' is the law's where the arguments, and the package variables that the reading takes, are together of bulk at most 1048576: NARROWER than '..Said'. Prove '..Said' where nothing that the law and all that it calls make is longer than what came in: it says more and counts as full. Else prove '..UptoSaid'. A law counts once. -/
mutual
def uptoBulk {H : Type} : DataW H → Nat
  | .lit (.string bytes) => bytes.length + 1
  | .lit _ => 1
  | .nil => 1
  | .ptr d => uptoBulk d + 1
  | .slice elems spare => uptoBulkAll elems + uptoBulkAll spare + 1
  | .agg parts => uptoBulkAll parts + 1
  | .iface _ d => uptoBulk d + 1
  | .map entries => uptoBulkEntries entries + 1
  | .held _ => 1
def uptoBulkAll {H : Type} : List (DataW H) → Nat
  | [] => 0
  | d :: r => uptoBulk d + uptoBulkAll r
def uptoBulkEntries {H : Type} : List (Lit × DataW H) → Nat
  | [] => 0
  | x :: r => uptoBulkEntry x + uptoBulkEntries r
def uptoBulkEntry {H : Type} : Lit × DataW H → Nat
  | (.string bytes, d) => bytes.length + uptoBulk d + 1
  | (_, d) => uptoBulk d + 1
 end
def uptoSmall : (H : Type) → List (DataW H) → Bool := fun _ ds => decide (uptoBulkAll ds ≤ 1048576)
def OpenSpec.upto (s : _root_.Go.ChangeSpec) : _root_.Go.OpenSpec := { _root_.Go.OpenSpec.ofChange s with cond := some uptoSmall }

/-- 'pagemendlaw01.CodecNumbers', WHERE WHAT IT READS IS OF BULK AT MOST 1048576: true; the input reads as it did. -/
def codecNumbersUptoRow : OpenClaim := { program := "ytmdjgpnonhbfdaa", sum := "8dbefb1dbe009c72c4a0863304cd46009580f63a73268236c4a2ddbf39ad498b", func := "pagemend/pagemendlaw01.CodecNumbers", spec := "codecNumbers", inPlace := ["internal/abi.NoEscape"], apart := false, narrowed := true }
def CodecNumbersUptoSaid : Prop := codecNumbersUptoRow.holds Try.pinned (OpenSpec.upto codecNumbersSpec)

/-- 'pagemendlaw01.CodecBack', WHERE WHAT IT READS IS OF BULK AT MOST 1048576: true; the input reads as it did. -/
def codecBackUptoRow : OpenClaim := { program := "ytmdjgpnonhbfdaa", sum := "8dbefb1dbe009c72c4a0863304cd46009580f63a73268236c4a2ddbf39ad498b", func := "pagemend/pagemendlaw01.CodecBack", spec := "codecBack", inPlace := ["internal/abi.NoEscape"], apart := false, narrowed := true }
def CodecBackUptoSaid : Prop := codecBackUptoRow.holds Try.pinned (OpenSpec.upto codecBackSpec)

/-- 'pagemendlaw01.CodecSum', WHERE WHAT IT READS IS OF BULK AT MOST 1048576: true; the input reads as it did. -/
def codecSumUptoRow : OpenClaim := { program := "ytmdjgpnonhbfdaa", sum := "8dbefb1dbe009c72c4a0863304cd46009580f63a73268236c4a2ddbf39ad498b", func := "pagemend/pagemendlaw01.CodecSum", spec := "codecSum", inPlace := ["internal/abi.NoEscape"], apart := false, narrowed := true }
def CodecSumUptoSaid : Prop := codecSumUptoRow.holds Try.pinned (OpenSpec.upto codecSumSpec)

/-- 'pagemendlaw01.CodecFrames', WHERE WHAT IT READS IS OF BULK AT MOST 1048576: true; the input reads as it did. -/
def codecFramesUptoRow : OpenClaim := { program := "ytmdjgpnonhbfdaa", sum := "8dbefb1dbe009c72c4a0863304cd46009580f63a73268236c4a2ddbf39ad498b", func := "pagemend/pagemendlaw01.CodecFrames", spec := "codecFrames", inPlace := ["internal/abi.NoEscape"], recurses := true, apart := false, narrowed := true }
def CodecFramesUptoSaid : Prop := codecFramesUptoRow.holds Try.pinned (OpenSpec.upto codecFramesSpec)

/-- 'pagemendlaw01.CodecDamage', WHERE WHAT IT READS IS OF BULK AT MOST 1048576: true; the input reads as it did. -/
def codecDamageUptoRow : OpenClaim := { program := "ytmdjgpnonhbfdaa", sum := "8dbefb1dbe009c72c4a0863304cd46009580f63a73268236c4a2ddbf39ad498b", func := "pagemend/pagemendlaw01.CodecDamage", spec := "codecDamage", inPlace := ["internal/abi.NoEscape"], apart := false, narrowed := true }
def CodecDamageUptoSaid : Prop := codecDamageUptoRow.holds Try.pinned (OpenSpec.upto codecDamageSpec)

/-- 'pagemendlaw05.EntryDecodes', WHERE WHAT IT READS IS OF BULK AT MOST 1048576: true; the input reads as it did. -/
def entryDecodesUptoRow : OpenClaim := { program := "ytmdjgpnonhbfdaa", sum := "8dbefb1dbe009c72c4a0863304cd46009580f63a73268236c4a2ddbf39ad498b", func := "pagemend/pagemendlaw05.EntryDecodes", spec := "entryDecodes", inPlace := ["internal/abi.NoEscape"], unfollowed := true, recurses := true, apart := false, narrowed := true }
def EntryDecodesUptoSaid : Prop := entryDecodesUptoRow.holds Try.pinned (OpenSpec.upto entryDecodesSpec)

/-- 'pagemendlaw05.EntryReturns', WHERE WHAT IT READS IS OF BULK AT MOST 1048576: true; the input reads as it did. -/
def entryReturnsUptoRow : OpenClaim := { program := "ytmdjgpnonhbfdaa", sum := "8dbefb1dbe009c72c4a0863304cd46009580f63a73268236c4a2ddbf39ad498b", func := "pagemend/pagemendlaw05.EntryReturns", spec := "entryReturns", inPlace := ["internal/abi.NoEscape"], unfollowed := true, recurses := true, apart := false, narrowed := true }
def EntryReturnsUptoSaid : Prop := entryReturnsUptoRow.holds Try.pinned (OpenSpec.upto entryReturnsSpec)

/-- 'pagemendlaw05.EntrySizes', WHERE WHAT IT READS IS OF BULK AT MOST 1048576: true; the input reads as it did. -/
def entrySizesUptoRow : OpenClaim := { program := "ytmdjgpnonhbfdaa", sum := "8dbefb1dbe009c72c4a0863304cd46009580f63a73268236c4a2ddbf39ad498b", func := "pagemend/pagemendlaw05.EntrySizes", spec := "entrySizes", inPlace := ["internal/abi.NoEscape"], unfollowed := true, recurses := true, apart := false, narrowed := true }
def EntrySizesUptoSaid : Prop := entrySizesUptoRow.holds Try.pinned (OpenSpec.upto entrySizesSpec)

/-- 'pagemendlaw05.EntryFields', WHERE WHAT IT READS IS OF BULK AT MOST 1048576: true; the input reads as it did. -/
def entryFieldsUptoRow : OpenClaim := { program := "ytmdjgpnonhbfdaa", sum := "8dbefb1dbe009c72c4a0863304cd46009580f63a73268236c4a2ddbf39ad498b", func := "pagemend/pagemendlaw05.EntryFields", spec := "entryFields", inPlace := ["internal/abi.NoEscape"], unfollowed := true, recurses := true, apart := false, narrowed := true }
def EntryFieldsUptoSaid : Prop := entryFieldsUptoRow.holds Try.pinned (OpenSpec.upto entryFieldsSpec)

/-- 'pagemendlaw05.EntryEncodes', WHERE WHAT IT READS IS OF BULK AT MOST 1048576: true; the input reads as it did. -/
def entryEncodesUptoRow : OpenClaim := { program := "ytmdjgpnonhbfdaa", sum := "8dbefb1dbe009c72c4a0863304cd46009580f63a73268236c4a2ddbf39ad498b", func := "pagemend/pagemendlaw05.EntryEncodes", spec := "entryEncodes", inPlace := ["internal/abi.NoEscape"], unfollowed := true, recurses := true, apart := false, narrowed := true }
def EntryEncodesUptoSaid : Prop := entryEncodesUptoRow.holds Try.pinned (OpenSpec.upto entryEncodesSpec)

end Rows
end Go.Proofs.Ytmdjgpnonhbfdaa
