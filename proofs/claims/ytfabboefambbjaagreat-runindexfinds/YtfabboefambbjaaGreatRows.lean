/-
  No cell of these rows narrows 'for every input' (looked for: loops, veiled, ifaces, maps, wideKeys, modest, calm, conditions, laid).
  DERIVED. THE GIVEN ROWS OF THIS SEAT. 4 by the template 'for every input the law returns true; each argument reads behind the call as it read before'; 0 by the template 'total and deterministic' (their statements: YtfabboefambbjaaGreatTotals.lean).
  GIVEN WITH THE SEED: the statements are not yours to turn. If you find one false, say at which input.
  Laid BY PROGRAM, IN A SANDBOX (cutbox-rows.mjs): the forced cells as the released guide's own fill.sh prints them over the translation d43f58e0846e1598… (all of the seat's roots in one cut). By AI agents, Wed Nov 11 2026. No macro, syntax, notation, axiom, sorry.
-/
import Derived.Test.YtfabboefambbjaaGreatChecked
import GoSem.Claim
import GoSem.ClaimJoined
import GoSem.ClaimMapViews
import Derived.JoinedTies
import Derived.KernelRfl
namespace Go.Proofs.YtfabboefambbjaaGreat
/- THE CELL 'sum', in the pinned program and in every row, IS THE sha256 OF THE DUMP (.gsa) THAT YtfabboefambbjaaGreatProg.lean LOADS. Nothing in Lean hashes anything: it is a label: what it is worth is what the hold of that sum in a sandbox is worth. -/
noncomputable def Tryz.pinned : Pinned := { name := "ytfabboefambbjaagreat", sum := "d43f58e0846e15983a853b184b22fd1776d9ea7e795a1cda743821d39be0d38a", checked := Tryz.checked }
namespace Rows
def none {H : Type} : Left H := { results := [], args := [] }

/-- 'pagemendlaw24.RunindexRows': WHATEVER THE INPUT: true; the input reads as it did. -/
def runindexRowsSpec : ChangeSpec := { name := "runindexRows", fn := fun _ => fun
  | [d] => { results := [.lit (.bool true)], args := [d] }
  | _ => none }
def runindexRowsRow : OpenClaim := { program := "ytfabboefambbjaagreat", sum := "d43f58e0846e15983a853b184b22fd1776d9ea7e795a1cda743821d39be0d38a", func := "pagemend/pagemendlaw24.RunindexRows", spec := "runindexRows", unfollowed := true, recurses := true, apart := false }
def RunindexRowsSaid : Prop := runindexRowsRow.holds Tryz.pinned (OpenSpec.ofChange runindexRowsSpec)

/-- ITS FALSE NEIGHBOUR: 'it returns false'. Refute it at one input. -/
def runindexRowsWrong : ChangeSpec := { name := "runindexRows", fn := fun _ => fun
  | [d] => { results := [.lit (.bool false)], args := [d] }
  | _ => none }
def RunindexRowsWrongFalsely : Prop := runindexRowsRow.holds Tryz.pinned (OpenSpec.ofChange runindexRowsWrong)

/-- 'pagemendlaw24.RunindexReads': WHATEVER THE INPUT: true; the input reads as it did. -/
def runindexReadsSpec : ChangeSpec := { name := "runindexReads", fn := fun _ => fun
  | [d1, d2, d3] => { results := [.lit (.bool true)], args := [d1, d2, d3] }
  | _ => none }
def runindexReadsRow : OpenClaim := { program := "ytfabboefambbjaagreat", sum := "d43f58e0846e15983a853b184b22fd1776d9ea7e795a1cda743821d39be0d38a", func := "pagemend/pagemendlaw24.RunindexReads", spec := "runindexReads", unfollowed := true, recurses := true, apart := false }
def RunindexReadsSaid : Prop := runindexReadsRow.holds Tryz.pinned (OpenSpec.ofChange runindexReadsSpec)

/-- ITS FALSE NEIGHBOUR: 'it returns false'. Refute it at one input. -/
def runindexReadsWrong : ChangeSpec := { name := "runindexReads", fn := fun _ => fun
  | [d1, d2, d3] => { results := [.lit (.bool false)], args := [d1, d2, d3] }
  | _ => none }
def RunindexReadsWrongFalsely : Prop := runindexReadsRow.holds Tryz.pinned (OpenSpec.ofChange runindexReadsWrong)

/-- 'pagemendlaw24.RunindexElsewhere': WHATEVER THE INPUT: true; the input reads as it did. -/
def runindexElsewhereSpec : ChangeSpec := { name := "runindexElsewhere", fn := fun _ => fun
  | [d1, d2, d3] => { results := [.lit (.bool true)], args := [d1, d2, d3] }
  | _ => none }
def runindexElsewhereRow : OpenClaim := { program := "ytfabboefambbjaagreat", sum := "d43f58e0846e15983a853b184b22fd1776d9ea7e795a1cda743821d39be0d38a", func := "pagemend/pagemendlaw24.RunindexElsewhere", spec := "runindexElsewhere", unfollowed := true, recurses := true, apart := false }
def RunindexElsewhereSaid : Prop := runindexElsewhereRow.holds Tryz.pinned (OpenSpec.ofChange runindexElsewhereSpec)

/-- ITS FALSE NEIGHBOUR: 'it returns false'. Refute it at one input. -/
def runindexElsewhereWrong : ChangeSpec := { name := "runindexElsewhere", fn := fun _ => fun
  | [d1, d2, d3] => { results := [.lit (.bool false)], args := [d1, d2, d3] }
  | _ => none }
def RunindexElsewhereWrongFalsely : Prop := runindexElsewhereRow.holds Tryz.pinned (OpenSpec.ofChange runindexElsewhereWrong)

/-- 'pagemendlaw24.RunindexFinds': WHATEVER THE INPUT: true; the input reads as it did. -/
def runindexFindsSpec : ChangeSpec := { name := "runindexFinds", fn := fun _ => fun
  | [d] => { results := [.lit (.bool true)], args := [d] }
  | _ => none }
def runindexFindsRow : OpenClaim := { program := "ytfabboefambbjaagreat", sum := "d43f58e0846e15983a853b184b22fd1776d9ea7e795a1cda743821d39be0d38a", func := "pagemend/pagemendlaw24.RunindexFinds", spec := "runindexFinds", unfollowed := true, recurses := true, apart := false }
def RunindexFindsSaid : Prop := runindexFindsRow.holds Tryz.pinned (OpenSpec.ofChange runindexFindsSpec)

/-- ITS FALSE NEIGHBOUR: 'it returns false'. Refute it at one input. -/
def runindexFindsWrong : ChangeSpec := { name := "runindexFinds", fn := fun _ => fun
  | [d] => { results := [.lit (.bool false)], args := [d] }
  | _ => none }
def RunindexFindsWrongFalsely : Prop := runindexFindsRow.holds Tryz.pinned (OpenSpec.ofChange runindexFindsWrong)

/- THE SECOND FORM. 'bulk': how many values and letters a reading holds, each counted each time it is reached (what is shared counts as often as it is met; a slice's spare places count too). A statement '..UptoSaid' is the law's where the arguments, and the package variables that the reading takes, are together of bulk at most 1048576: NARROWER than '..Said'. Prove '..Said' where nothing that the law and all that it calls make is longer than what came in: it says more and counts as full. Else prove '..UptoSaid'. A law counts once. -/
mutual
def uptoBulk {H : Type} : DataW H → Nat
  | .lit (.string bytes) => bytes.length + 1
  | .lit _ => 1
  | .nil => 1
  | .ptr d => uptoBulk d + 1
  | .slice elems spare => uptoBulkAll elems + uptoBulkAll spare + 1
  | .agg parts => uptoBulkAll parts + 1
  | .iface _ d => uptoBulk d + 1
  | .map entries => uptoBulkEntries entries + 1
  | .held _ => 1
def uptoBulkAll {H : Type} : List (DataW H) → Nat
  | [] => 0
  | d :: r => uptoBulk d + uptoBulkAll r
def uptoBulkEntries {H : Type} : List (Lit × DataW H) → Nat
  | [] => 0
  | x :: r => uptoBulkEntry x + uptoBulkEntries r
def uptoBulkEntry {H : Type} : Lit × DataW H → Nat
  | (.string bytes, d) => bytes.length + uptoBulk d + 1
  | (_, d) => uptoBulk d + 1
 end
def uptoSmall : (H : Type) → List (DataW H) → Bool := fun _ ds => decide (uptoBulkAll ds ≤ 1048576)
def OpenSpec.upto (s : _root_.Go.ChangeSpec) : _root_.Go.OpenSpec := { _root_.Go.OpenSpec.ofChange s with cond := some uptoSmall }

/-- 'pagemendlaw24.RunindexRows', WHERE WHAT IT READS IS OF BULK AT MOST 1048576: true; the input reads as it did. -/
def runindexRowsUptoRow : OpenClaim := { program := "ytfabboefambbjaagreat", sum := "d43f58e0846e15983a853b184b22fd1776d9ea7e795a1cda743821d39be0d38a", func := "pagemend/pagemendlaw24.RunindexRows", spec := "runindexRows", unfollowed := true, recurses := true, apart := false, narrowed := true }
def RunindexRowsUptoSaid : Prop := runindexRowsUptoRow.holds Tryz.pinned (OpenSpec.upto runindexRowsSpec)

/-- 'pagemendlaw24.RunindexReads', WHERE WHAT IT READS IS OF BULK AT MOST 1048576: true; the input reads as it did. -/
def runindexReadsUptoRow : OpenClaim := { program := "ytfabboefambbjaagreat", sum := "d43f58e0846e15983a853b184b22fd1776d9ea7e795a1cda743821d39be0d38a", func := "pagemend/pagemendlaw24.RunindexReads", spec := "runindexReads", unfollowed := true, recurses := true, apart := false, narrowed := true }
def RunindexReadsUptoSaid : Prop := runindexReadsUptoRow.holds Tryz.pinned (OpenSpec.upto runindexReadsSpec)

/-- 'pagemendlaw24.RunindexElsewhere', WHERE WHAT IT READS IS OF BULK AT MOST 1048576: true; the input reads as it did. -/
def runindexElsewhereUptoRow : OpenClaim := { program := "ytfabboefambbjaagreat", sum := "d43f58e0846e15983a853b184b22fd1776d9ea7e795a1cda743821d39be0d38a", func := "pagemend/pagemendlaw24.RunindexElsewhere", spec := "runindexElsewhere", unfollowed := true, recurses := true, apart := false, narrowed := true }
def RunindexElsewhereUptoSaid : Prop := runindexElsewhereUptoRow.holds Tryz.pinned (OpenSpec.upto runindexElsewhereSpec)

/-- 'pagemendlaw24.RunindexFinds', WHERE WHAT IT READS IS OF BULK AT MOST 1048576: true; the input reads as it did. -/
def runindexFindsUptoRow : OpenClaim := { program := "ytfabboefambbjaagreat", sum := "d43f58e0846e15983a853b184b22fd1776d9ea7e795a1cda743821d39be0d38a", func := "pagemend/pagemendlaw24.RunindexFinds", spec := "runindexFinds", unfollowed := true, recurses := true, apart := false, narrowed := true }
def RunindexFindsUptoSaid : Prop := runindexFindsUptoRow.holds Tryz.pinned (OpenSpec.upto runindexFindsSpec)

end Rows
end Go.Proofs.YtfabboefambbjaaGreat
