/-
  No cell of these rows narrows 'for every input' (looked for: loops, veiled, ifaces, maps, wideKeys, modest, calm, conditions, laid).
  DERIVED. THE GIVEN ROWS OF THIS SEAT. 2 by the template 'for every input the law returns true; each argument reads behind the call as it read before'; 0 by the template 'total and deterministic' (their statements: YtalibkpienbliaaGreatTotals.lean).
  GIVEN WITH THE SEED: the statements are not yours to turn. If you find one false, say at which input.
  Laid BY PROGRAM, IN A SANDBOX (cutbox-rows.mjs): the forced cells as the released guide's own fill.sh prints them over the translation d9a4cd53ba9cafd7… (all of the seat's roots in one cut). By AI agents, Wed Nov 11 2026. No macro, syntax, notation, axiom, sorry.
-/
import Derived.Test.YtalibkpienbliaaGreatChecked
import GoSem.Claim
import GoSem.ClaimJoined
import GoSem.ClaimMapViews
import Derived.JoinedTies
import Derived.KernelRfl
namespace Go.Proofs.YtalibkpienbliaaGreat
/- THE CELL 'sum', in the pinned program and in every row, IS THE sha256 OF THE DUMP (.gsa) THAT YtalibkpienbliaaGreatProg.lean LOADS. Nothing in Lean hashes anything: it is a label: what it is worth is what the hold of that sum in a sandbox is worth. -/
noncomputable def Tryz.pinned : Pinned := { name := "ytalibkpienbliaagreat", sum := "d9a4cd53ba9cafd7298902c3465ad97e146276a836f84901344ac46017dcfdc7", checked := Tryz.checked }
namespace Rows
def none {H : Type} : Left H := { results := [], args := [] }

/-- 'pagemendlaw22.LedgerSerial': WHATEVER THE INPUT: true; the input reads as it did. -/
def ledgerSerialSpec : ChangeSpec := { name := "ledgerSerial", fn := fun _ => fun
  | [d] => { results := [.lit (.bool true)], args := [d] }
  | _ => none }
def ledgerSerialRow : OpenClaim := { program := "ytalibkpienbliaagreat", sum := "d9a4cd53ba9cafd7298902c3465ad97e146276a836f84901344ac46017dcfdc7", func := "pagemend/pagemendlaw22.LedgerSerial", spec := "ledgerSerial", unfollowed := true, recurses := true, plainKeys := false, apart := false }
def LedgerSerialSaid : Prop := ledgerSerialRow.holds Tryz.pinned (OpenSpec.ofChange ledgerSerialSpec)

/-- ITS FALSE NEIGHBOUR: 'it returns false'. Refute it at one input. -/
def ledgerSerialWrong : ChangeSpec := { name := "ledgerSerial", fn := fun _ => fun
  | [d] => { results := [.lit (.bool false)], args := [d] }
  | _ => none }
def LedgerSerialWrongFalsely : Prop := ledgerSerialRow.holds Tryz.pinned (OpenSpec.ofChange ledgerSerialWrong)

/-- 'pagemendlaw22.LedgerPages': WHATEVER THE INPUT: true; the input reads as it did. -/
def ledgerPagesSpec : ChangeSpec := { name := "ledgerPages", fn := fun _ => fun
  | [d] => { results := [.lit (.bool true)], args := [d] }
  | _ => none }
def ledgerPagesRow : OpenClaim := { program := "ytalibkpienbliaagreat", sum := "d9a4cd53ba9cafd7298902c3465ad97e146276a836f84901344ac46017dcfdc7", func := "pagemend/pagemendlaw22.LedgerPages", spec := "ledgerPages", unfollowed := true, recurses := true, plainKeys := false, apart := false }
def LedgerPagesSaid : Prop := ledgerPagesRow.holds Tryz.pinned (OpenSpec.ofChange ledgerPagesSpec)

/-- ITS FALSE NEIGHBOUR: 'it returns false'. Refute it at one input. -/
def ledgerPagesWrong : ChangeSpec := { name := "ledgerPages", fn := fun _ => fun
  | [d] => { results := [.lit (.bool false)], args := [d] }
  | _ => none }
def LedgerPagesWrongFalsely : Prop := ledgerPagesRow.holds Tryz.pinned (OpenSpec.ofChange ledgerPagesWrong)

/- THE SECOND FORM. 'bulk': how many values and letters a reading holds, each counted each time it is reached (what is shared counts as often as it is met; a slice's spare places count too). A statement '..UptoSaid' is the law's where the arguments, and the package variables that the reading takes, are together of bulk at most 1048576: NARROWER than '..Said'. Prove '..Said' where nothing that the law and all that it calls make is longer than what came in: it says more and counts as full. Else prove '..UptoSaid'. A law counts once. -/
mutual
def uptoBulk {H : Type} : DataW H → Nat
  | .lit (.string bytes) => bytes.length + 1
  | .lit _ => 1
  | .nil => 1
  | .ptr d => uptoBulk d + 1
  | .slice elems spare => uptoBulkAll elems + uptoBulkAll spare + 1
  | .agg parts => uptoBulkAll parts + 1
  | .iface _ d => uptoBulk d + 1
  | .map entries => uptoBulkEntries entries + 1
  | .held _ => 1
def uptoBulkAll {H : Type} : List (DataW H) → Nat
  | [] => 0
  | d :: r => uptoBulk d + uptoBulkAll r
def uptoBulkEntries {H : Type} : List (Lit × DataW H) → Nat
  | [] => 0
  | x :: r => uptoBulkEntry x + uptoBulkEntries r
def uptoBulkEntry {H : Type} : Lit × DataW H → Nat
  | (.string bytes, d) => bytes.length + uptoBulk d + 1
  | (_, d) => uptoBulk d + 1
 end
def uptoSmall : (H : Type) → List (DataW H) → Bool := fun _ ds => decide (uptoBulkAll ds ≤ 1048576)
def OpenSpec.upto (s : _root_.Go.ChangeSpec) : _root_.Go.OpenSpec := { _root_.Go.OpenSpec.ofChange s with cond := some uptoSmall }

/-- 'pagemendlaw22.LedgerSerial', WHERE WHAT IT READS IS OF BULK AT MOST 1048576: true; the input reads as it did. -/
def ledgerSerialUptoRow : OpenClaim := { program := "ytalibkpienbliaagreat", sum := "d9a4cd53ba9cafd7298902c3465ad97e146276a836f84901344ac46017dcfdc7", func := "pagemend/pagemendlaw22.LedgerSerial", spec := "ledgerSerial", unfollowed := true, recurses := true, plainKeys := false, apart := false, narrowed := true }
def LedgerSerialUptoSaid : Prop := ledgerSerialUptoRow.holds Tryz.pinned (OpenSpec.upto ledgerSerialSpec)

/-- 'pagemendlaw22.LedgerPages', WHERE WHAT IT READS IS OF BULK AT MOST 1048576: true; the input reads as it did. -/
def ledgerPagesUptoRow : OpenClaim := { program := "ytalibkpienbliaagreat", sum := "d9a4cd53ba9cafd7298902c3465ad97e146276a836f84901344ac46017dcfdc7", func := "pagemend/pagemendlaw22.LedgerPages", spec := "ledgerPages", unfollowed := true, recurses := true, plainKeys := false, apart := false, narrowed := true }
def LedgerPagesUptoSaid : Prop := ledgerPagesUptoRow.holds Tryz.pinned (OpenSpec.upto ledgerPagesSpec)

end Rows
end Go.Proofs.YtalibkpienbliaaGreat
