/-
  No cell of these rows narrows 'for every input' (looked for: loops, veiled, ifaces, maps, wideKeys, modest, calm, conditions, laid).
  DERIVED. THE GIVEN ROWS OF THIS SEAT. 2 by the template 'for every input the law returns true; each argument reads behind the call as it read before'; 0 by the template 'total and deterministic' (their statements: YtdnbdbgdfocpgaaGreatTotals.lean).
  GIVEN WITH THE SEED: the statements are not yours to turn. If you find one false, say at which input.
  Laid BY PROGRAM, IN A SANDBOX (cutbox-rows.mjs): the forced cells as the released guide's own fill.sh prints them over the translation 5fee0740b9d7346d… (all of the seat's roots in one cut). By AI agents, Wed Nov 11 2026. No macro, syntax, notation, axiom, sorry.
-/
import Derived.Test.YtdnbdbgdfocpgaaGreatChecked
import GoSem.Claim
import GoSem.ClaimJoined
import GoSem.ClaimMapViews
import Derived.JoinedTies
import Derived.KernelRfl
namespace Go.Proofs.YtdnbdbgdfocpgaaGreat
/- THE CELL 'sum', in the pinned program and in every row, IS THE sha256 OF THE DUMP (.gsa) THAT YtdnbdbgdfocpgaaGreatProg.lean LOADS. Nothing in Lean hashes anything: it is a label: what it is worth is what the hold of that sum in a sandbox is worth. -/
noncomputable def Tryz.pinned : Pinned := { name := "ytdnbdbgdfocpgaagreat", sum := "5fee0740b9d7346d65829a70ca5c244b2502d997562013e1c83971d2b463d5e7", checked := Tryz.checked }
namespace Rows
def none {H : Type} : Left H := { results := [], args := [] }

/-- 'pagemendlaw07.ChainStores': WHATEVER THE INPUT: true; the input reads as it did. -/
def chainStoresSpec : ChangeSpec := { name := "chainStores", fn := fun _ => fun
  | [d1, d2, d3] => { results := [.lit (.bool true)], args := [d1, d2, d3] }
  | _ => none }
def chainStoresRow : OpenClaim := { program := "ytdnbdbgdfocpgaagreat", sum := "5fee0740b9d7346d65829a70ca5c244b2502d997562013e1c83971d2b463d5e7", func := "pagemend/pagemendlaw07.ChainStores", spec := "chainStores", unfollowed := true, recurses := true, apart := false }
def ChainStoresSaid : Prop := chainStoresRow.holds Tryz.pinned (OpenSpec.ofChange chainStoresSpec)

/-- ITS FALSE NEIGHBOUR: 'it returns false'. Refute it at one input. -/
def chainStoresWrong : ChangeSpec := { name := "chainStores", fn := fun _ => fun
  | [d1, d2, d3] => { results := [.lit (.bool false)], args := [d1, d2, d3] }
  | _ => none }
def ChainStoresWrongFalsely : Prop := chainStoresRow.holds Tryz.pinned (OpenSpec.ofChange chainStoresWrong)

/-- 'pagemendlaw07.ChainWalks': WHATEVER THE INPUT: true; the input reads as it did. -/
def chainWalksSpec : ChangeSpec := { name := "chainWalks", fn := fun _ => fun
  | [d] => { results := [.lit (.bool true)], args := [d] }
  | _ => none }
def chainWalksRow : OpenClaim := { program := "ytdnbdbgdfocpgaagreat", sum := "5fee0740b9d7346d65829a70ca5c244b2502d997562013e1c83971d2b463d5e7", func := "pagemend/pagemendlaw07.ChainWalks", spec := "chainWalks", unfollowed := true, recurses := true, apart := false }
def ChainWalksSaid : Prop := chainWalksRow.holds Tryz.pinned (OpenSpec.ofChange chainWalksSpec)

/-- ITS FALSE NEIGHBOUR: 'it returns false'. Refute it at one input. -/
def chainWalksWrong : ChangeSpec := { name := "chainWalks", fn := fun _ => fun
  | [d] => { results := [.lit (.bool false)], args := [d] }
  | _ => none }
def ChainWalksWrongFalsely : Prop := chainWalksRow.holds Tryz.pinned (OpenSpec.ofChange chainWalksWrong)

/- THE SECOND FORM. 'bulk': how many values and letters a reading holds, each counted each time it is reached (what is shared counts as often as it is met; a slice's spare places count too). A statement '..UptoSaid' is the law's where the arguments, and the package variables that the reading takes, are together of bulk at most 1048576: NARROWER than '..Said'. Prove '..Said' where nothing that the law and all that it calls make is longer than what came in: it says more and counts as full. Else prove '..UptoSaid'. A law counts once. -/
mutual
def uptoBulk {H : Type} : DataW H → Nat
  | .lit (.string bytes) => bytes.length + 1
  | .lit _ => 1
  | .nil => 1
  | .ptr d => uptoBulk d + 1
  | .slice elems spare => uptoBulkAll elems + uptoBulkAll spare + 1
  | .agg parts => uptoBulkAll parts + 1
  | .iface _ d => uptoBulk d + 1
  | .map entries => uptoBulkEntries entries + 1
  | .held _ => 1
def uptoBulkAll {H : Type} : List (DataW H) → Nat
  | [] => 0
  | d :: r => uptoBulk d + uptoBulkAll r
def uptoBulkEntries {H : Type} : List (Lit × DataW H) → Nat
  | [] => 0
  | x :: r => uptoBulkEntry x + uptoBulkEntries r
def uptoBulkEntry {H : Type} : Lit × DataW H → Nat
  | (.string bytes, d) => bytes.length + uptoBulk d + 1
  | (_, d) => uptoBulk d + 1
 end
def uptoSmall : (H : Type) → List (DataW H) → Bool := fun _ ds => decide (uptoBulkAll ds ≤ 1048576)
def OpenSpec.upto (s : _root_.Go.ChangeSpec) : _root_.Go.OpenSpec := { _root_.Go.OpenSpec.ofChange s with cond := some uptoSmall }

/-- 'pagemendlaw07.ChainStores', WHERE WHAT IT READS IS OF BULK AT MOST 1048576: true; the input reads as it did. -/
def chainStoresUptoRow : OpenClaim := { program := "ytdnbdbgdfocpgaagreat", sum := "5fee0740b9d7346d65829a70ca5c244b2502d997562013e1c83971d2b463d5e7", func := "pagemend/pagemendlaw07.ChainStores", spec := "chainStores", unfollowed := true, recurses := true, apart := false, narrowed := true }
def ChainStoresUptoSaid : Prop := chainStoresUptoRow.holds Tryz.pinned (OpenSpec.upto chainStoresSpec)

/-- 'pagemendlaw07.ChainWalks', WHERE WHAT IT READS IS OF BULK AT MOST 1048576: true; the input reads as it did. -/
def chainWalksUptoRow : OpenClaim := { program := "ytdnbdbgdfocpgaagreat", sum := "5fee0740b9d7346d65829a70ca5c244b2502d997562013e1c83971d2b463d5e7", func := "pagemend/pagemendlaw07.ChainWalks", spec := "chainWalks", unfollowed := true, recurses := true, apart := false, narrowed := true }
def ChainWalksUptoSaid : Prop := chainWalksUptoRow.holds Tryz.pinned (OpenSpec.upto chainWalksSpec)

end Rows
end Go.Proofs.YtdnbdbgdfocpgaaGreat
