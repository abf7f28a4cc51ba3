/-
  Closed facts about the types of this seat, written by a program (gentypes.py).
-/
import Derived.Test.YtjjjlkjhojdnnaaProg
import Derived.Test.YtjjjlkjhojdnnaaV3
import Derived.KernelRfl
import Derived.Test.YtjjjlkjhojdnnaaV2
namespace Go.Proofs
open Go.V

theorem Try.vt3 : vt Try.prog 3 = some none := by kernel_rfl
theorem Try.vkind3 : vkind Try.prog 3 = .int .i64 := by kernel_rfl
theorem Try.vt4 : vt Try.prog 4 = some none := by kernel_rfl
theorem Try.vkind4 : vkind Try.prog 4 = .bool := by kernel_rfl
theorem Try.vkind5 : vkind Try.prog 5 = .int .u8 := by kernel_rfl
theorem Try.vzero5 : vzero Try.prog 5 = some [.pv (.lit (.int .u8 0))] := by kernel_rfl
theorem Try.bytes5 : bytesT Try.prog 5 = some 1 := by kernel_rfl
theorem Try.vt9 : vt Try.prog 9 = some none := by kernel_rfl
theorem Try.notInt9 : notInt Try.prog 9 = true := by kernel_rfl
theorem Try.vkind9 : vkind Try.prog 9 = .str := by kernel_rfl
theorem Try.vt22 : vt Try.prog 22 = some none := by kernel_rfl
theorem Try.velem22 : velem Try.prog 22 = some (none, 5, 1) := by kernel_rfl
theorem Try.notInt22 : notInt Try.prog 22 = true := by kernel_rfl
theorem Try.vkind22 : vkind Try.prog 22 = .sl 5 := by kernel_rfl
theorem Try.vt50 : vt Try.prog 50 = some none := by kernel_rfl
theorem Try.velem50 : velem Try.prog 50 = some (none, 59, 13) := by kernel_rfl
theorem Try.notInt50 : notInt Try.prog 50 = true := by kernel_rfl
theorem Try.vkind50 : vkind Try.prog 50 = .sl 59 := by kernel_rfl
theorem Try.vt52 : vt Try.prog 52 = some (some 3) := by kernel_rfl
theorem Try.vfield52x0 : vfield Try.prog 52 0 = some (3, 0, 1) := by kernel_rfl
theorem Try.vfield52x1 : vfield Try.prog 52 1 = some (50, 1, 1) := by kernel_rfl
theorem Try.vfield52x2 : vfield Try.prog 52 2 = some (3, 2, 1) := by kernel_rfl
theorem Try.vplaces52 : vplaces Try.prog 52 = some fun j => ([(0, 1), (1, 1), (2, 1)] : List (Nat × Nat))[j]? := by kernel_rfl
theorem Try.vzero52 : vzero Try.prog 52 = some [.pv (.lit (.int .i64 0)), .pv (.slc []), .pv (.lit (.int .i64 0))] := by kernel_rfl
theorem Try.vt55 : vt Try.prog 55 = some (some 2) := by kernel_rfl
theorem Try.vfield55x0 : vfield Try.prog 55 0 = some (4, 0, 1) := by kernel_rfl
theorem Try.vfield55x1 : vfield Try.prog 55 1 = some (9, 1, 1) := by kernel_rfl
theorem Try.vt57 : vt Try.prog 57 = some (some 6) := by kernel_rfl
theorem Try.vfield57x0 : vfield Try.prog 57 0 = some (3, 0, 1) := by kernel_rfl
theorem Try.vfield57x1 : vfield Try.prog 57 1 = some (3, 1, 1) := by kernel_rfl
theorem Try.vfield57x2 : vfield Try.prog 57 2 = some (55, 2, 2) := by kernel_rfl
theorem Try.vfield57x3 : vfield Try.prog 57 3 = some (55, 4, 2) := by kernel_rfl
theorem Try.vplaces57 : vplaces Try.prog 57 = some fun j => ([(0, 1), (1, 1), (2, 2), (4, 2)] : List (Nat × Nat))[j]? := by kernel_rfl
theorem Try.vzero57 : vzero Try.prog 57 = some [.pv (.lit (.int .i64 0)), .pv (.lit (.int .i64 0)), .pv (.lit (.bool false)), .pv (.str []), .pv (.lit (.bool false)), .pv (.str [])] := by kernel_rfl
theorem Try.leaves57 : leaves Try.prog 8 57 = some [(0, 1), (1, 1), (2, 0), (3, 2), (4, 0), (5, 2)] := by kernel_rfl
theorem Try.eqg57 : Try.prog.eqGuardType Try.prog.depth 57 = false := by kernel_rfl
theorem Try.vt59 : vt Try.prog 59 = some (some 13) := by kernel_rfl
theorem Try.vfield59x0 : vfield Try.prog 59 0 = some (3, 0, 1) := by kernel_rfl
theorem Try.vfield59x1 : vfield Try.prog 59 1 = some (3, 1, 1) := by kernel_rfl
theorem Try.vfield59x2 : vfield Try.prog 59 2 = some (3, 2, 1) := by kernel_rfl
theorem Try.vfield59x3 : vfield Try.prog 59 3 = some (3, 3, 1) := by kernel_rfl
theorem Try.vfield59x4 : vfield Try.prog 59 4 = some (3, 4, 1) := by kernel_rfl
theorem Try.vfield59x5 : vfield Try.prog 59 5 = some (3, 5, 1) := by kernel_rfl
theorem Try.vfield59x6 : vfield Try.prog 59 6 = some (57, 6, 6) := by kernel_rfl
theorem Try.vfield59x7 : vfield Try.prog 59 7 = some (9, 12, 1) := by kernel_rfl
theorem Try.vplaces59 : vplaces Try.prog 59 = some fun j => ([(0, 1), (1, 1), (2, 1), (3, 1), (4, 1), (5, 1), (6, 6), (12, 1)] : List (Nat × Nat))[j]? := by kernel_rfl
theorem Try.vzero59 : vzero Try.prog 59 = some [.pv (.lit (.int .i64 0)), .pv (.lit (.int .i64 0)), .pv (.lit (.int .i64 0)), .pv (.lit (.int .i64 0)), .pv (.lit (.int .i64 0)), .pv (.lit (.int .i64 0)), .pv (.lit (.int .i64 0)), .pv (.lit (.int .i64 0)), .pv (.lit (.bool false)), .pv (.str []), .pv (.lit (.bool false)), .pv (.str []), .pv (.str [])] := by kernel_rfl
theorem Try.bytes59 : bytesT Try.prog 59 = some 128 := by kernel_rfl
theorem Try.vt89 : vt Try.prog 89 = some none := by kernel_rfl
theorem Try.vkind99 : vkind Try.prog 99 = .int .u64 := by kernel_rfl
theorem Try.vt106 : vt Try.prog 106 = some none := by kernel_rfl
theorem Try.vfield108x0 : vfield Try.prog 108 0 = some (106, 0, 1) := by kernel_rfl
theorem Try.vfield108x1 : vfield Try.prog 108 1 = some (22, 1, 1) := by kernel_rfl
theorem Try.vzero108 : vzero Try.prog 108 = some [.pv (.lit (.pointer none)), .pv (.lit (.slice none 0 0))] := by kernel_rfl
theorem Try.vkind114 : vkind Try.prog 114 = .int .u64 := by kernel_rfl
theorem Try.vt122 : vt Try.prog 122 = some none := by kernel_rfl
theorem Try.vt124 : vt Try.prog 124 = some (some 7) := by kernel_rfl
theorem Try.vfield124x0 : vfield Try.prog 124 0 = some (4, 0, 1) := by kernel_rfl
theorem Try.vfield124x1 : vfield Try.prog 124 1 = some (4, 1, 1) := by kernel_rfl
theorem Try.vfield124x2 : vfield Try.prog 124 2 = some (4, 2, 1) := by kernel_rfl
theorem Try.vfield124x3 : vfield Try.prog 124 3 = some (4, 3, 1) := by kernel_rfl
theorem Try.vfield124x4 : vfield Try.prog 124 4 = some (4, 4, 1) := by kernel_rfl
theorem Try.vfield124x5 : vfield Try.prog 124 5 = some (89, 5, 1) := by kernel_rfl
theorem Try.vfield124x6 : vfield Try.prog 124 6 = some (122, 6, 1) := by kernel_rfl
theorem Try.vplaces124 : vplaces Try.prog 124 = some fun j => ([(0, 1), (1, 1), (2, 1), (3, 1), (4, 1), (5, 1), (6, 1)] : List (Nat × Nat))[j]? := by kernel_rfl
theorem Try.vzero124 : vzero Try.prog 124 = some [.pv (.lit (.bool false)), .pv (.lit (.bool false)), .pv (.lit (.bool false)), .pv (.lit (.bool false)), .pv (.lit (.bool false)), .pv (.lit .nilFunc), .pv (.lit .nilFunc)] := by kernel_rfl
theorem Try.vt125 : vt Try.prog 125 = some (some 63) := by kernel_rfl
theorem Try.velem125 : velem Try.prog 125 = some (some 9, 124, 7) := by kernel_rfl
theorem Try.vplaces125 : vplaces Try.prog 125 = some fun j => some (j * 7, 7) := by kernel_rfl
theorem Try.vzero125 : vzero Try.prog 125 = some [.pv (.lit (.bool false)), .pv (.lit (.bool false)), .pv (.lit (.bool false)), .pv (.lit (.bool false)), .pv (.lit (.bool false)), .pv (.lit .nilFunc), .pv (.lit .nilFunc), .pv (.lit (.bool false)), .pv (.lit (.bool false)), .pv (.lit (.bool false)), .pv (.lit (.bool false)), .pv (.lit (.bool false)), .pv (.lit .nilFunc), .pv (.lit .nilFunc), .pv (.lit (.bool false)), .pv (.lit (.bool false)), .pv (.lit (.bool false)), .pv (.lit (.bool false)), .pv (.lit (.bool false)), .pv (.lit .nilFunc), .pv (.lit .nilFunc), .pv (.lit (.bool false)), .pv (.lit (.bool false)), .pv (.lit (.bool false)), .pv (.lit (.bool false)), .pv (.lit (.bool false)), .pv (.lit .nilFunc), .pv (.lit .nilFunc), .pv (.lit (.bool false)), .pv (.lit (.bool false)), .pv (.lit (.bool false)), .pv (.lit (.bool false)), .pv (.lit (.bool false)), .pv (.lit .nilFunc), .pv (.lit .nilFunc), .pv (.lit (.bool false)), .pv (.lit (.bool false)), .pv (.lit (.bool false)), .pv (.lit (.bool false)), .pv (.lit (.bool false)), .pv (.lit .nilFunc), .pv (.lit .nilFunc), .pv (.lit (.bool false)), .pv (.lit (.bool false)), .pv (.lit (.bool false)), .pv (.lit (.bool false)), .pv (.lit (.bool false)), .pv (.lit .nilFunc), .pv (.lit .nilFunc), .pv (.lit (.bool false)), .pv (.lit (.bool false)), .pv (.lit (.bool false)), .pv (.lit (.bool false)), .pv (.lit (.bool false)), .pv (.lit .nilFunc), .pv (.lit .nilFunc), .pv (.lit (.bool false)), .pv (.lit (.bool false)), .pv (.lit (.bool false)), .pv (.lit (.bool false)), .pv (.lit (.bool false)), .pv (.lit .nilFunc), .pv (.lit .nilFunc)] := by kernel_rfl
theorem Try.vt136 : vt Try.prog 136 = some none := by kernel_rfl
theorem Try.vkind136 : vkind Try.prog 136 = .int .u32 := by kernel_rfl
theorem Try.vt139 : vt Try.prog 139 = some (some 16) := by kernel_rfl
theorem Try.velem139 : velem Try.prog 139 = some (some 16, 136, 1) := by kernel_rfl
theorem Try.vzero139 : vzero Try.prog 139 = some [.pv (.lit (.int .u32 0)), .pv (.lit (.int .u32 0)), .pv (.lit (.int .u32 0)), .pv (.lit (.int .u32 0)), .pv (.lit (.int .u32 0)), .pv (.lit (.int .u32 0)), .pv (.lit (.int .u32 0)), .pv (.lit (.int .u32 0)), .pv (.lit (.int .u32 0)), .pv (.lit (.int .u32 0)), .pv (.lit (.int .u32 0)), .pv (.lit (.int .u32 0)), .pv (.lit (.int .u32 0)), .pv (.lit (.int .u32 0)), .pv (.lit (.int .u32 0)), .pv (.lit (.int .u32 0))] := by kernel_rfl
attribute [go_sem] Try.vt3 Try.vkind3 Try.vt4 Try.vkind4 Try.vkind5 Try.vzero5 Try.bytes5 Try.vt9 Try.notInt9 Try.vkind9 Try.vt22 Try.velem22 Try.notInt22 Try.vkind22 Try.vt50 Try.velem50 Try.notInt50 Try.vkind50 Try.vt52 Try.vfield52x0 Try.vfield52x1 Try.vfield52x2 Try.vplaces52 Try.vzero52 Try.vt55 Try.vfield55x0 Try.vfield55x1 Try.vt57 Try.vfield57x0 Try.vfield57x1 Try.vfield57x2 Try.vfield57x3 Try.vplaces57 Try.vzero57 Try.leaves57 Try.eqg57 Try.vt59 Try.vfield59x0 Try.vfield59x1 Try.vfield59x2 Try.vfield59x3 Try.vfield59x4 Try.vfield59x5 Try.vfield59x6 Try.vfield59x7 Try.vplaces59 Try.vzero59 Try.bytes59 Try.vt89 Try.vkind99 Try.vt106 Try.vfield108x0 Try.vfield108x1 Try.vzero108 Try.vkind114 Try.vt122 Try.vt124 Try.vfield124x0 Try.vfield124x1 Try.vfield124x2 Try.vfield124x3 Try.vfield124x4 Try.vfield124x5 Try.vfield124x6 Try.vplaces124 Try.vzero124 Try.vt125 Try.velem125 Try.vplaces125 Try.vzero125 Try.vt136 Try.vkind136 Try.vt139 Try.velem139 Try.vzero139

end Go.Proofs

namespace Go.Proofs.Ytjjjlkjhojdnnaa
open Go.V Go
set_option maxRecDepth 100000
set_option linter.unusedSimpArgs false

/-- A cell, a change, an entry. -/
structure Ce where
  set : Bool
  data : List UInt8
structure Ch where
  pg : Int
  sl : Int
  b : Ce
  a : Ce
structure E where
  lsn : Int
  kind : Int
  tx : Int
  ptx : Int
  ppg : Int
  ref : Int
  c : Ch
  blob : List UInt8
def Ce.d (x : Ce) : List DV := [.bool x.set, .pv (.str x.data)]
def Ch.d (x : Ch) : List DV := [.int .i64 x.pg, .int .i64 x.sl, .bool x.b.set, .pv (.str x.b.data), .bool x.a.set, .pv (.str x.a.data)]
def E.d (x : E) : List DV := [.int .i64 x.lsn, .int .i64 x.kind, .int .i64 x.tx, .int .i64 x.ptx, .int .i64 x.ppg, .int .i64 x.ref, .int .i64 x.c.pg, .int .i64 x.c.sl, .bool x.c.b.set, .pv (.str x.c.b.data), .bool x.c.a.set, .pv (.str x.c.a.data), .pv (.str x.blob)]
def Ce0 : Ce := ⟨false, []⟩
def Ch0 : Ch := ⟨0, 0, Ce0, Ce0⟩
def E0 : E := ⟨0, 0, 0, 0, 0, 0, Ch0, []⟩

def Ce.okB (x : Ce) : Bool := decide (x.data.length ≤ 12) && (x.set || x.data == [])
def Ch.okB (x : Ch) : Bool := decide (0 ≤ x.pg) && decide (x.pg < 64) && decide (0 ≤ x.sl) && decide (x.sl < 16) && x.b.okB && x.a.okB
def Ce.no (x : Ce) : Bool := !x.set && x.data == []
def Ch.no (x : Ch) : Bool := x.pg == 0 && x.sl == 0 && x.b.no && x.a.no
def bef (n l : Int) : Bool := decide (0 ≤ n) && decide (n < l)

theorem cellok_v (x : Ce) : VCalls Try.prog 104 [.agg x.d] [] (Ret (.bool x.okB)) := by
  refine vcalls_drop (fn := Try.f104) Try.func104 rfl (by kernel_rfl) (by simp [Try.f104]) ?_
  simp (config := { maxSteps := 2000000 }) (implicitDefEqProofs := false) (disch := first | omega | assumption | (simp only []; done) | fail) only [go_sem, ↓reduceIte, reduceCtorEq, Nat.reduceBEq, Int.reduceBEq, Try.f104, Ce.d]
  skip
  repeat' (first
    | (refine vrunG_split (fun hZ => ?_) (fun hZ => ?_) <;> (try rw [hZ]) <;> (try simp only [decide_eq_true_eq, decide_eq_false_iff_not, Bool.or_eq_true, Bool.and_eq_true, Bool.or_eq_false_iff, Bool.and_eq_false_imp, Bool.not_eq_true', Bool.not_eq_false', beq_iff_eq, beq_eq_false_iff_ne, bne_iff_ne, bne_eq_false_iff_eq, ne_eq, Bool.not_eq_eq_eq_not, Bool.not_true, Bool.not_false] at hZ) <;> (try (first | rw [(hZ : _ = false)] | rw [(hZ : _ = true)])) <;> (try simp (config := { maxSteps := 2000000 }) (implicitDefEqProofs := false) (disch := first | omega | assumption | (simp only []; done) | fail) only [go_sem, ↓reduceIte, reduceCtorEq, Nat.reduceLT, Nat.reduceBEq, Int.reduceLT, Int.reduceBEq]))
    | (refine vbr_split (fun hZ => ?_) (fun hZ => ?_) <;> (try rw [hZ]) <;> (try simp only [decide_eq_true_eq, decide_eq_false_iff_not, Bool.or_eq_true, Bool.and_eq_true, Bool.or_eq_false_iff, Bool.and_eq_false_imp, Bool.not_eq_true', Bool.not_eq_false', beq_iff_eq, beq_eq_false_iff_ne, bne_iff_ne, bne_eq_false_iff_eq, ne_eq, Bool.not_eq_eq_eq_not, Bool.not_true, Bool.not_false] at hZ) <;> (try (first | rw [(hZ : _ = false)] | rw [(hZ : _ = true)])) <;> skip)
    | (refine vdrG_split (fun hZ => ?_) (fun hZ => ?_) <;> (try rw [hZ]) <;> (try simp only [decide_eq_true_eq, decide_eq_false_iff_not, Bool.or_eq_true, Bool.and_eq_true, Bool.or_eq_false_iff, Bool.and_eq_false_imp, Bool.not_eq_true', Bool.not_eq_false', beq_iff_eq, beq_eq_false_iff_ne, bne_iff_ne, bne_eq_false_iff_eq, ne_eq, Bool.not_eq_eq_eq_not, Bool.not_true, Bool.not_false] at hZ) <;> (try (first | rw [(hZ : _ = false)] | rw [(hZ : _ = true)])) <;> skip)
    )
  all_goals (first | rfl | (congr 3; rw [Bool.eq_iff_iff]; (try simp only [Ce.okB, decide_eq_true_eq, Bool.and_eq_true, Bool.or_eq_true, Bool.not_eq_true', Bool.not_eq_false', decide_eq_false_iff_not, beq_iff_eq, bne_iff_ne, ne_eq, Bool.false_eq_true, Bool.true_eq_false, iff_true, true_iff, iff_false, false_iff]); first | done | omega | grind))
theorem none_v (x : Ch) : VCalls Try.prog 93 [.agg x.d] [] (Ret (.bool x.no)) := by
  refine vcalls_drop (fn := Try.f93) Try.func93 rfl (by kernel_rfl) (by simp [Try.f93]) ?_
  simp (config := { maxSteps := 2000000 }) (implicitDefEqProofs := false) (disch := first | omega | assumption | (simp only []; done) | fail) only [go_sem, ↓reduceIte, Nat.reduceAdd, Nat.reduceLT, Nat.reduceBEq, Int.reduceLT, Int.reduceAdd, Int.reduceBEq, Try.f93, Ch.d, allEq, leafEq]
  simp only [Ch.no, Ce.no, Bool.and_assoc]
theorem before_v (n : Int) (x : E) : VCalls Try.prog 83 [.int .i64 n, .agg x.d] [] (Ret (.bool (bef n x.lsn))) := by
  refine vcalls_drop (fn := Try.f83) Try.func83 rfl (by kernel_rfl) (by simp [Try.f83]) ?_
  simp (config := { maxSteps := 2000000 }) (implicitDefEqProofs := false) (disch := first | omega | assumption | (simp only []; done) | fail) only [go_sem, ↓reduceIte, Nat.reduceAdd, Nat.reduceBEq, Int.reduceAdd, Int.reduceBEq, Try.f83, E.d]
  skip
  repeat' (first
    | (refine vrunG_split (fun hZ => ?_) (fun hZ => ?_) <;> (try rw [hZ]) <;> (try simp only [decide_eq_true_eq, decide_eq_false_iff_not, Bool.or_eq_true, Bool.and_eq_true, Bool.or_eq_false_iff, Bool.and_eq_false_imp, Bool.not_eq_true', Bool.not_eq_false', beq_iff_eq, beq_eq_false_iff_ne, bne_iff_ne, bne_eq_false_iff_eq, ne_eq, Bool.not_eq_eq_eq_not, Bool.not_true, Bool.not_false] at hZ) <;> (try (first | rw [(hZ : _ = false)] | rw [(hZ : _ = true)])) <;> (try simp (config := { maxSteps := 2000000 }) (implicitDefEqProofs := false) (disch := first | omega | assumption | (simp only []; done) | fail) only [go_sem, ↓reduceIte, reduceCtorEq, Nat.reduceLT, Nat.reduceBEq, Int.reduceLT, Int.reduceBEq]))
    | (refine vbr_split (fun hZ => ?_) (fun hZ => ?_) <;> (try rw [hZ]) <;> (try simp only [decide_eq_true_eq, decide_eq_false_iff_not, Bool.or_eq_true, Bool.and_eq_true, Bool.or_eq_false_iff, Bool.and_eq_false_imp, Bool.not_eq_true', Bool.not_eq_false', beq_iff_eq, beq_eq_false_iff_ne, bne_iff_ne, bne_eq_false_iff_eq, ne_eq, Bool.not_eq_eq_eq_not, Bool.not_true, Bool.not_false] at hZ) <;> (try (first | rw [(hZ : _ = false)] | rw [(hZ : _ = true)])) <;> skip)
    | (refine vdrG_split (fun hZ => ?_) (fun hZ => ?_) <;> (try rw [hZ]) <;> (try simp only [decide_eq_true_eq, decide_eq_false_iff_not, Bool.or_eq_true, Bool.and_eq_true, Bool.or_eq_false_iff, Bool.and_eq_false_imp, Bool.not_eq_true', Bool.not_eq_false', beq_iff_eq, beq_eq_false_iff_ne, bne_iff_ne, bne_eq_false_iff_eq, ne_eq, Bool.not_eq_eq_eq_not, Bool.not_true, Bool.not_false] at hZ) <;> (try (first | rw [(hZ : _ = false)] | rw [(hZ : _ = true)])) <;> skip)
    )
  all_goals (first | rfl | (congr 3; rw [Bool.eq_iff_iff]; (try simp only [bef, decide_eq_true_eq, Bool.and_eq_true, Bool.or_eq_true, Bool.not_eq_true', Bool.not_eq_false', decide_eq_false_iff_not, beq_iff_eq, bne_iff_ne, ne_eq, Bool.false_eq_true, Bool.true_eq_false, iff_true, true_iff, iff_false, false_iff]); first | done | omega | grind))
theorem paged_v (n : Int) : VCalls Try.prog 103 [.int .i64 n] [] (Ret (.bool (decide (0 ≤ n) && decide (n < 64)))) := by
  refine vcalls_drop (fn := Try.f103) Try.func103 rfl (by kernel_rfl) (by simp [Try.f103]) ?_
  simp (config := { maxSteps := 2000000 }) (implicitDefEqProofs := false) (disch := first | omega | assumption | (simp only []; done) | fail) only [go_sem, Nat.reduceBEq, Int.reduceBEq, Try.f103]
  skip
  repeat' (first
    | (refine vrunG_split (fun hZ => ?_) (fun hZ => ?_) <;> (try rw [hZ]) <;> (try simp only [decide_eq_true_eq, decide_eq_false_iff_not, Bool.or_eq_true, Bool.and_eq_true, Bool.or_eq_false_iff, Bool.and_eq_false_imp, Bool.not_eq_true', Bool.not_eq_false', beq_iff_eq, beq_eq_false_iff_ne, bne_iff_ne, bne_eq_false_iff_eq, ne_eq, Bool.not_eq_eq_eq_not, Bool.not_true, Bool.not_false] at hZ) <;> (try (first | rw [(hZ : _ = false)] | rw [(hZ : _ = true)])) <;> (try simp (config := { maxSteps := 2000000 }) (implicitDefEqProofs := false) (disch := first | omega | assumption | (simp only []; done) | fail) only [go_sem, Nat.reduceLT, Nat.reduceBEq, Int.reduceLT, Int.reduceBEq]))
    | (refine vbr_split (fun hZ => ?_) (fun hZ => ?_) <;> (try rw [hZ]) <;> (try simp only [decide_eq_true_eq, decide_eq_false_iff_not, Bool.or_eq_true, Bool.and_eq_true, Bool.or_eq_false_iff, Bool.and_eq_false_imp, Bool.not_eq_true', Bool.not_eq_false', beq_iff_eq, beq_eq_false_iff_ne, bne_iff_ne, bne_eq_false_iff_eq, ne_eq, Bool.not_eq_eq_eq_not, Bool.not_true, Bool.not_false] at hZ) <;> (try (first | rw [(hZ : _ = false)] | rw [(hZ : _ = true)])) <;> skip)
    | (refine vdrG_split (fun hZ => ?_) (fun hZ => ?_) <;> (try rw [hZ]) <;> (try simp only [decide_eq_true_eq, decide_eq_false_iff_not, Bool.or_eq_true, Bool.and_eq_true, Bool.or_eq_false_iff, Bool.and_eq_false_imp, Bool.not_eq_true', Bool.not_eq_false', beq_iff_eq, beq_eq_false_iff_ne, bne_iff_ne, bne_eq_false_iff_eq, ne_eq, Bool.not_eq_eq_eq_not, Bool.not_true, Bool.not_false] at hZ) <;> (try (first | rw [(hZ : _ = false)] | rw [(hZ : _ = true)])) <;> skip)
    )
  all_goals (first | rfl | (congr 3; rw [Bool.eq_iff_iff]; (try simp only [decide_eq_true_eq, Bool.and_eq_true, Bool.or_eq_true, Bool.not_eq_true', Bool.not_eq_false', decide_eq_false_iff_not, beq_iff_eq, bne_iff_ne, ne_eq, Bool.false_eq_true, Bool.true_eq_false, iff_true, true_iff, iff_false, false_iff]); first | done | omega | grind))
theorem anyref_v (x : E) : VCalls Try.prog 92 [.agg x.d] [] (Ret (.bool true)) := by
  refine vcalls_drop (fn := Try.f92) Try.func92 rfl (by kernel_rfl) (by simp [Try.f92]) ?_
  simp (config := { maxSteps := 2000000 }) (implicitDefEqProofs := false) (disch := first | omega | assumption | (simp only []; done) | fail) only [go_sem, ↓reduceIte, Nat.reduceLT, Int.reduceLT, Try.f92, E.d]
theorem undoref_v (x : E) : VCalls Try.prog 95 [.agg x.d] [] (Ret (.bool (decide (1 ≤ x.ref) && decide (x.ref ≤ x.ptx)))) := by
  refine vcalls_drop (fn := Try.f95) Try.func95 rfl (by kernel_rfl) (by simp [Try.f95]) ?_
  simp (config := { maxSteps := 2000000 }) (implicitDefEqProofs := false) (disch := first | omega | assumption | (simp only []; done) | fail) only [go_sem, ↓reduceIte, reduceCtorEq, Nat.reduceBEq, Int.reduceBEq, Try.f95, E.d]
  skip
  repeat' (first
    | (refine vrunG_split (fun hZ => ?_) (fun hZ => ?_) <;> (try rw [hZ]) <;> (try simp only [decide_eq_true_eq, decide_eq_false_iff_not, Bool.or_eq_true, Bool.and_eq_true, Bool.or_eq_false_iff, Bool.and_eq_false_imp, Bool.not_eq_true', Bool.not_eq_false', beq_iff_eq, beq_eq_false_iff_ne, bne_iff_ne, bne_eq_false_iff_eq, ne_eq, Bool.not_eq_eq_eq_not, Bool.not_true, Bool.not_false] at hZ) <;> (try (first | rw [(hZ : _ = false)] | rw [(hZ : _ = true)])) <;> (try simp (config := { maxSteps := 2000000 }) (implicitDefEqProofs := false) (disch := first | omega | assumption | (simp only []; done) | fail) only [go_sem, ↓reduceIte, reduceCtorEq, Nat.reduceLT, Nat.reduceBEq, Int.reduceLT, Int.reduceBEq]))
    | (refine vbr_split (fun hZ => ?_) (fun hZ => ?_) <;> (try rw [hZ]) <;> (try simp only [decide_eq_true_eq, decide_eq_false_iff_not, Bool.or_eq_true, Bool.and_eq_true, Bool.or_eq_false_iff, Bool.and_eq_false_imp, Bool.not_eq_true', Bool.not_eq_false', beq_iff_eq, beq_eq_false_iff_ne, bne_iff_ne, bne_eq_false_iff_eq, ne_eq, Bool.not_eq_eq_eq_not, Bool.not_true, Bool.not_false] at hZ) <;> (try (first | rw [(hZ : _ = false)] | rw [(hZ : _ = true)])) <;> skip)
    | (refine vdrG_split (fun hZ => ?_) (fun hZ => ?_) <;> (try rw [hZ]) <;> (try simp only [decide_eq_true_eq, decide_eq_false_iff_not, Bool.or_eq_true, Bool.and_eq_true, Bool.or_eq_false_iff, Bool.and_eq_false_imp, Bool.not_eq_true', Bool.not_eq_false', beq_iff_eq, beq_eq_false_iff_ne, bne_iff_ne, bne_eq_false_iff_eq, ne_eq, Bool.not_eq_eq_eq_not, Bool.not_true, Bool.not_false] at hZ) <;> (try (first | rw [(hZ : _ = false)] | rw [(hZ : _ = true)])) <;> skip)
    )
  all_goals (first | rfl | (congr 3; rw [Bool.eq_iff_iff]; (try simp only [decide_eq_true_eq, Bool.and_eq_true, Bool.or_eq_true, Bool.not_eq_true', Bool.not_eq_false', decide_eq_false_iff_not, beq_iff_eq, bne_iff_ne, ne_eq, Bool.false_eq_true, Bool.true_eq_false, iff_true, true_iff, iff_false, false_iff]); first | done | omega | grind))
/-- The change of an index. -/
def Ch.ix (x : Ch) : Bool := x.sl == 0 && x.b.no && x.a.no && decide (0 ≤ x.pg) && decide (x.pg < 64)
theorem index_v (x : Ch) : VCalls Try.prog 96 [.agg x.d] [] (Ret (.bool x.ix)) := by
  refine vcalls_drop (fn := Try.f96) Try.func96 rfl (by kernel_rfl) (by simp [Try.f96]) ?_
  simp (config := { maxSteps := 2000000 }) (implicitDefEqProofs := false) (disch := first | omega | assumption | (simp only []; done) | fail) only [go_sem, V.splice, ↓reduceIte, reduceCtorEq, Nat.reduceAdd, Nat.reduceLeDiff, Nat.reduceBEq, Int.reduceAdd, Int.reduceBEq, Try.f96, Ch.d, allEq, leafEq]
  skip
  repeat' (first
    | (refine vrunG_split (fun hZ => ?_) (fun hZ => ?_) <;> (try rw [hZ]) <;> (try simp only [decide_eq_true_eq, decide_eq_false_iff_not, Bool.or_eq_true, Bool.and_eq_true, Bool.or_eq_false_iff, Bool.and_eq_false_imp, Bool.not_eq_true', Bool.not_eq_false', beq_iff_eq, beq_eq_false_iff_ne, bne_iff_ne, bne_eq_false_iff_eq, ne_eq, Bool.not_eq_eq_eq_not, Bool.not_true, Bool.not_false] at hZ) <;> (try (first | rw [(hZ : _ = false)] | rw [(hZ : _ = true)])) <;> (try simp (config := { maxSteps := 2000000 }) (implicitDefEqProofs := false) (disch := first | omega | assumption | (simp only []; done) | fail) only [go_sem, ↓reduceIte, reduceCtorEq, Nat.reduceLT, Nat.reduceBEq, Int.reduceLT, Int.reduceBEq]))
    | (refine vbr_split (fun hZ => ?_) (fun hZ => ?_) <;> (try rw [hZ]) <;> (try simp only [decide_eq_true_eq, decide_eq_false_iff_not, Bool.or_eq_true, Bool.and_eq_true, Bool.or_eq_false_iff, Bool.and_eq_false_imp, Bool.not_eq_true', Bool.not_eq_false', beq_iff_eq, beq_eq_false_iff_ne, bne_iff_ne, bne_eq_false_iff_eq, ne_eq, Bool.not_eq_eq_eq_not, Bool.not_true, Bool.not_false] at hZ) <;> (try (first | rw [(hZ : _ = false)] | rw [(hZ : _ = true)])) <;> skip)
    | (refine vdrG_split (fun hZ => ?_) (fun hZ => ?_) <;> (try rw [hZ]) <;> (try simp only [decide_eq_true_eq, decide_eq_false_iff_not, Bool.or_eq_true, Bool.and_eq_true, Bool.or_eq_false_iff, Bool.and_eq_false_imp, Bool.not_eq_true', Bool.not_eq_false', beq_iff_eq, beq_eq_false_iff_ne, bne_iff_ne, bne_eq_false_iff_eq, ne_eq, Bool.not_eq_eq_eq_not, Bool.not_true, Bool.not_false] at hZ) <;> (try (first | rw [(hZ : _ = false)] | rw [(hZ : _ = true)])) <;> skip)
    )
  all_goals (first | rfl | (congr 3; rw [Bool.eq_iff_iff]; (try simp only [Ch.ix, Ce.no, decide_eq_true_eq, Bool.and_eq_true, Bool.or_eq_true, Bool.not_eq_true', Bool.not_eq_false', decide_eq_false_iff_not, beq_iff_eq, bne_iff_ne, ne_eq, Bool.false_eq_true, Bool.true_eq_false, iff_true, true_iff, iff_false, false_iff]); first | done | omega | grind))
theorem chok_v (x : Ch) : VCalls Try.prog 94 [.agg x.d] [] (Ret (.bool x.okB)) := by
  refine vcalls_drop (fn := Try.f94) Try.func94 rfl (by kernel_rfl) (by simp [Try.f94]) ?_
  simp (config := { maxSteps := 2000000 }) (implicitDefEqProofs := false) (disch := first | omega | assumption | (simp only []; done) | fail) only [go_sem, ↓reduceIte, reduceCtorEq, Nat.reduceBEq, Int.reduceBEq, Try.f94, Ch.d]
  skip
  repeat' (first
    | (refine vrunG_split (fun hZ => ?_) (fun hZ => ?_) <;> (try rw [hZ]) <;> (try simp only [decide_eq_true_eq, decide_eq_false_iff_not, Bool.or_eq_true, Bool.and_eq_true, Bool.or_eq_false_iff, Bool.and_eq_false_imp, Bool.not_eq_true', Bool.not_eq_false', beq_iff_eq, beq_eq_false_iff_ne, bne_iff_ne, bne_eq_false_iff_eq, ne_eq, Bool.not_eq_eq_eq_not, Bool.not_true, Bool.not_false] at hZ) <;> (try (first | rw [(hZ : _ = false)] | rw [(hZ : _ = true)])) <;> (try simp (config := { maxSteps := 2000000 }) (implicitDefEqProofs := false) (disch := first | omega | assumption | (simp only []; done) | fail) only [go_sem, ↓reduceIte, reduceCtorEq, Nat.reduceAdd, Nat.reduceLT, Nat.reduceLeDiff, Nat.reduceBEq, Int.reduceLT, Int.reduceAdd, Int.reduceBEq]))
    | (refine vbr_split (fun hZ => ?_) (fun hZ => ?_) <;> (try rw [hZ]) <;> (try simp only [decide_eq_true_eq, decide_eq_false_iff_not, Bool.or_eq_true, Bool.and_eq_true, Bool.or_eq_false_iff, Bool.and_eq_false_imp, Bool.not_eq_true', Bool.not_eq_false', beq_iff_eq, beq_eq_false_iff_ne, bne_iff_ne, bne_eq_false_iff_eq, ne_eq, Bool.not_eq_eq_eq_not, Bool.not_true, Bool.not_false] at hZ) <;> (try (first | rw [(hZ : _ = false)] | rw [(hZ : _ = true)])) <;> skip)
    | (refine vdrG_split (fun hZ => ?_) (fun hZ => ?_) <;> (try rw [hZ]) <;> (try simp only [decide_eq_true_eq, decide_eq_false_iff_not, Bool.or_eq_true, Bool.and_eq_true, Bool.or_eq_false_iff, Bool.and_eq_false_imp, Bool.not_eq_true', Bool.not_eq_false', beq_iff_eq, beq_eq_false_iff_ne, bne_iff_ne, bne_eq_false_iff_eq, ne_eq, Bool.not_eq_eq_eq_not, Bool.not_true, Bool.not_false] at hZ) <;> (try (first | rw [(hZ : _ = false)] | rw [(hZ : _ = true)])) <;> skip)
    | (refine vc_pure (paged_v x.pg) rfl ?_; (try simp (config := { maxSteps := 2000000 }) (implicitDefEqProofs := false) (disch := first | omega | assumption | (simp only []; done) | fail) only [go_sem]))
    | (refine vc_pure (cellok_v x.b) rfl ?_; (try simp (config := { maxSteps := 2000000 }) (implicitDefEqProofs := false) (disch := first | omega | assumption | (simp only []; done) | fail) only [go_sem, Nat.reduceBEq, Int.reduceBEq]))
    | (refine vc_pure (cellok_v x.a) rfl ?_; (try simp (config := { maxSteps := 2000000 }) (implicitDefEqProofs := false) (disch := first | omega | assumption | (simp only []; done) | fail) only [go_sem, Nat.reduceLT, Nat.reduceBEq, Int.reduceLT, Int.reduceBEq]))
    )
  all_goals (first | rfl | (congr 3; rw [Bool.eq_iff_iff]; (try simp only [Ch.okB, decide_eq_true_eq, Bool.and_eq_true, Bool.or_eq_true, Bool.not_eq_true', Bool.not_eq_false', decide_eq_false_iff_not, beq_iff_eq, bne_iff_ne, ne_eq, Bool.false_eq_true, Bool.true_eq_false, iff_true, true_iff, iff_false, false_iff]); first | done | omega | grind))
def rl (tx ch pg rf bl : Bool) (f g : Nat) : List DV := [.bool tx, .bool ch, .bool pg, .bool rf, .bool bl, .fn (.func f) [] [], .fn (.func g) [] []]
def rl0 : List DV := [.bool false, .bool false, .bool false, .bool false, .bool false, .pv (.lit .nilFunc), .pv (.lit .nilFunc)]
def rlEnd : List DV := rl true true false false false 92 93
def rlNote : List DV := rl false false false false true 92 93
def rlAll : List DV := rl0 ++ rl true false true false false 92 94 ++ rl true true true true false 95 94 ++ rlEnd ++ rlEnd ++ rlEnd ++ rlNote ++ rl false false false true false 92 96 ++ rlNote
theorem rules_v : VCalls Try.prog 84 [] [] (Ret (.agg rlAll)) := by
  refine vcalls_drop (fn := Try.f84) Try.func84 rfl (by kernel_rfl) (by simp [Try.f84]) ?_
  simp (config := { maxSteps := 2000000 }) (implicitDefEqProofs := false) (disch := first | omega | assumption | (simp only []; done) | fail) only [go_sem, V.splice, ↓reduceIte, Nat.reduceAdd, Nat.reduceLT, Nat.reduceLeDiff, Nat.reduceMul, Nat.reduceBEq, Int.reduceLT, Int.reduceAdd, Int.reduceMul, Int.reduceBEq, Try.f84]
  rfl
end Go.Proofs.Ytjjjlkjhojdnnaa

namespace Go.Proofs.Ytjjjlkjhojdnnaa
open Go.V Go
set_option maxRecDepth 100000
set_option linter.unusedSimpArgs false

def txB (n : Int) : Bool := decide (1 ≤ n) && decide (n ≤ 1073741824)
def E.kindB (e : E) : Bool :=
  if e.kind = 1 then txB e.tx && e.ref == 0 && e.blob == [] && e.c.okB
  else if e.kind = 2 then txB e.tx && e.ptx != 0 && e.blob == [] && decide (1 ≤ e.ref) && decide (e.ref ≤ e.ptx) && e.c.okB
  else if e.kind = 3 ∨ e.kind = 4 ∨ e.kind = 5 then txB e.tx && e.ptx != 0 && e.ppg == 0 && e.ref == 0 && e.blob == [] && e.c.no
  else if e.kind = 6 ∨ e.kind = 8 then e.tx == 0 && e.ptx == 0 && e.ppg == 0 && e.ref == 0 && decide (e.blob.length ≤ 8192) && e.c.no
  else if e.kind = 7 then e.tx == 0 && e.ptx == 0 && e.ppg == 0 && e.blob == [] && e.c.ix
  else false
def E.okB (e : E) : Bool := decide (1 ≤ e.lsn) && decide (e.lsn ≤ 1099511627776) && bef e.ptx e.lsn && bef e.ppg e.lsn && bef e.ref e.lsn && e.kindB
theorem kindB_eq (lsn kind tx ptx ppg ref : Int) (c : Ch) (blob : List UInt8) : (⟨lsn, kind, tx, ptx, ppg, ref, c, blob⟩ : E).kindB =
  if kind = 1 then txB tx && ref == 0 && blob == [] && c.okB
  else if kind = 2 then txB tx && ptx != 0 && blob == [] && decide (1 ≤ ref) && decide (ref ≤ ptx) && c.okB
  else if kind = 3 ∨ kind = 4 ∨ kind = 5 then txB tx && ptx != 0 && ppg == 0 && ref == 0 && blob == [] && c.no
  else if kind = 6 ∨ kind = 8 then tx == 0 && ptx == 0 && ppg == 0 && ref == 0 && decide (blob.length ≤ 8192) && c.no
  else if kind = 7 then tx == 0 && ptx == 0 && ppg == 0 && blob == [] && c.ix
  else false := rfl
theorem kindB_no {e : E} (h : e.kind < 1 ∨ 8 < e.kind) : e.kindB = false := by
  unfold E.kindB; rw [if_neg (by omega), if_neg (by omega), if_neg (by omega), if_neg (by omega), if_neg (by omega)]
theorem kind_cases (k : Int) : (k < 1 ∨ 8 < k) ∨ k = 1 ∨ k = 2 ∨ k = 3 ∨ k = 4 ∨ k = 5 ∨ k = 6 ∨ k = 7 ∨ k = 8 := by omega

set_option maxHeartbeats 4000000 in
theorem valid_v (e : E) : VCalls Try.prog 63 [.agg e.d] [] (Ret (.bool e.okB)) := by
  refine vcalls_drop (fn := Try.f63) Try.func63 rfl (by kernel_rfl) (by simp [Try.f63]) ?_
  obtain ⟨lsn, kind, tx, ptx, ppg, ref, c, blob⟩ := e
  have r1 := before_v ptx ⟨lsn, kind, tx, ptx, ppg, ref, c, blob⟩
  have r2 := before_v ppg ⟨lsn, kind, tx, ptx, ppg, ref, c, blob⟩
  have r3 := before_v ref ⟨lsn, kind, tx, ptx, ppg, ref, c, blob⟩
  have r4 := anyref_v ⟨lsn, kind, tx, ptx, ppg, ref, c, blob⟩
  have r5 := undoref_v ⟨lsn, kind, tx, ptx, ppg, ref, c, blob⟩
  have q1 := none_v c
  have q2 := chok_v c
  have q3 := index_v c
  have e1 : (⟨lsn, kind, tx, ptx, ppg, ref, c, blob⟩ : E).okB = (decide (1 ≤ lsn) && decide (lsn ≤ 1099511627776) && bef ptx lsn && bef ppg lsn && bef ref lsn && (⟨lsn, kind, tx, ptx, ppg, ref, c, blob⟩ : E).kindB) := rfl
  dsimp only [E.d] at *
  generalize bef ptx lsn = B1 at *
  generalize bef ppg lsn = B2 at *
  generalize bef ref lsn = B3 at *
  have e2 := kindB_eq lsn kind tx ptx ppg ref c blob
  dsimp only [Ch.d] at q1 q2 q3
  generalize c.no = N at *
  generalize c.okB = K at *
  generalize c.ix = X at *
  have e3 := @kindB_no ⟨lsn, kind, tx, ptx, ppg, ref, c, blob⟩
  dsimp only at e3
  generalize (⟨lsn, kind, tx, ptx, ppg, ref, c, blob⟩ : E).kindB = Q at *
  generalize (⟨lsn, kind, tx, ptx, ppg, ref, c, blob⟩ : E).okB = R at *
  simp (config := { maxSteps := 2000000 }) (implicitDefEqProofs := false) (disch := first | omega | assumption | (simp only []; done) | fail) only [go_sem, ↓reduceIte, reduceCtorEq, Nat.reduceBEq, Int.reduceBEq, Try.f63]
  skip
  repeat' (first
    | (refine vrunG_split (fun hZ => ?_) (fun hZ => ?_) <;> (try rw [hZ]) <;> (try simp only [decide_eq_true_eq, decide_eq_false_iff_not, Bool.or_eq_true, Bool.and_eq_true, Bool.or_eq_false_iff, Bool.and_eq_false_imp, Bool.not_eq_true', Bool.not_eq_false', beq_iff_eq, beq_eq_false_iff_ne, bne_iff_ne, bne_eq_false_iff_eq, ne_eq, Bool.not_eq_eq_eq_not, Bool.not_true, Bool.not_false] at hZ) <;> (try (first | rw [(hZ : _ = false)] | rw [(hZ : _ = true)])) <;> (try simp (config := { maxSteps := 2000000 }) (implicitDefEqProofs := false) (disch := first | omega | assumption | (simp only []; done) | fail) only [go_sem, ↓reduceIte, reduceCtorEq, Nat.reduceAdd, Nat.reduceBEq, Int.reduceAdd, Int.reduceBEq]))
    | (refine vbr_split (fun hZ => ?_) (fun hZ => ?_) <;> (try rw [hZ]) <;> (try simp only [decide_eq_true_eq, decide_eq_false_iff_not, Bool.or_eq_true, Bool.and_eq_true, Bool.or_eq_false_iff, Bool.and_eq_false_imp, Bool.not_eq_true', Bool.not_eq_false', beq_iff_eq, beq_eq_false_iff_ne, bne_iff_ne, bne_eq_false_iff_eq, ne_eq, Bool.not_eq_eq_eq_not, Bool.not_true, Bool.not_false] at hZ) <;> (try (first | rw [(hZ : _ = false)] | rw [(hZ : _ = true)])) <;> (try simp (config := { maxSteps := 2000000 }) (implicitDefEqProofs := false) (disch := first | omega | assumption | (simp only []; done) | fail) only [go_sem]))
    | (refine vdrG_split (fun hZ => ?_) (fun hZ => ?_) <;> (try rw [hZ]) <;> (try simp only [decide_eq_true_eq, decide_eq_false_iff_not, Bool.or_eq_true, Bool.and_eq_true, Bool.or_eq_false_iff, Bool.and_eq_false_imp, Bool.not_eq_true', Bool.not_eq_false', beq_iff_eq, beq_eq_false_iff_ne, bne_iff_ne, bne_eq_false_iff_eq, ne_eq, Bool.not_eq_eq_eq_not, Bool.not_true, Bool.not_false] at hZ) <;> (try (first | rw [(hZ : _ = false)] | rw [(hZ : _ = true)])) <;> skip)
    | (refine vc_pure (r1) rfl ?_; (try simp (config := { maxSteps := 2000000 }) (implicitDefEqProofs := false) (disch := first | omega | assumption | (simp only []; done) | fail) only [go_sem, Nat.reduceBEq, Int.reduceBEq]))
    | (refine vc_pure (r2) rfl ?_; (try simp (config := { maxSteps := 2000000 }) (implicitDefEqProofs := false) (disch := first | omega | assumption | (simp only []; done) | fail) only [go_sem, Nat.reduceBEq, Int.reduceBEq]))
    | (refine vc_pure (r3) rfl ?_; (try simp (config := { maxSteps := 2000000 }) (implicitDefEqProofs := false) (disch := first | omega | assumption | (simp only []; done) | fail) only [go_sem, Nat.reduceBEq, Int.reduceBEq]))
    | (refine vspine (id := 3) [1, 2] [⟨[4], [], 0, [1, 2], [3]⟩, ⟨[4], [4], 5, [], []⟩] (by kernel_rfl) (by kernel_rfl) ?_; (try simp (config := { maxSteps := 2000000 }) (implicitDefEqProofs := false) (disch := first | omega | assumption | (simp only []; done) | fail) only [go_sem, ↓reduceIte, reduceCtorEq, Nat.reduceAdd, Nat.reduceBEq, Int.reduceAdd, Int.reduceBEq]))
    )
  all_goals first
    | (congr 3; rw [Bool.eq_iff_iff, e1]; simp only [Bool.and_eq_true, decide_eq_true_eq, Bool.false_eq_true, false_iff]; first | omega | (intro h; simp_all; done) | (intro h; rw [e3 (by omega)] at h; simp at h; done))
    | skip
  all_goals
    have hT : R = Q := by rw [e1]; simp_all
    rcases kind_cases kind with hk | rfl | rfl | rfl | rfl | rfl | rfl | rfl | rfl
    · omega
  all_goals
    skip
    repeat' (first
      | (refine vrunG_split (fun hZ => ?_) (fun hZ => ?_) <;> (try rw [hZ]) <;> (try simp only [decide_eq_true_eq, decide_eq_false_iff_not, Bool.or_eq_true, Bool.and_eq_true, Bool.or_eq_false_iff, Bool.and_eq_false_imp, Bool.not_eq_true', Bool.not_eq_false', beq_iff_eq, beq_eq_false_iff_ne, bne_iff_ne, bne_eq_false_iff_eq, ne_eq, Bool.not_eq_eq_eq_not, Bool.not_true, Bool.not_false] at hZ) <;> (try (first | rw [(hZ : _ = false)] | rw [(hZ : _ = true)])) <;> (try simp (config := { maxSteps := 2000000 }) (implicitDefEqProofs := false) (disch := first | omega | assumption | (simp only []; done) | fail) only [go_sem, ↓reduceIte, reduceCtorEq, Nat.reduceAdd, Nat.reduceLT, Nat.reduceLeDiff, Nat.reduceBEq, Int.reduceLT, Int.reduceAdd, Int.reduceBEq]))
      | (refine vbr_split (fun hZ => ?_) (fun hZ => ?_) <;> (try rw [hZ]) <;> (try simp only [decide_eq_true_eq, decide_eq_false_iff_not, Bool.or_eq_true, Bool.and_eq_true, Bool.or_eq_false_iff, Bool.and_eq_false_imp, Bool.not_eq_true', Bool.not_eq_false', beq_iff_eq, beq_eq_false_iff_ne, bne_iff_ne, bne_eq_false_iff_eq, ne_eq, Bool.not_eq_eq_eq_not, Bool.not_true, Bool.not_false] at hZ) <;> (try (first | rw [(hZ : _ = false)] | rw [(hZ : _ = true)])) <;> (try simp (config := { maxSteps := 2000000 }) (implicitDefEqProofs := false) (disch := first | omega | assumption | (simp only []; done) | fail) only [go_sem, ↓reduceIte, reduceCtorEq, Nat.reduceBEq, Int.reduceBEq]))
      | (refine vdrG_split (fun hZ => ?_) (fun hZ => ?_) <;> (try rw [hZ]) <;> (try simp only [decide_eq_true_eq, decide_eq_false_iff_not, Bool.or_eq_true, Bool.and_eq_true, Bool.or_eq_false_iff, Bool.and_eq_false_imp, Bool.not_eq_true', Bool.not_eq_false', beq_iff_eq, beq_eq_false_iff_ne, bne_iff_ne, bne_eq_false_iff_eq, ne_eq, Bool.not_eq_eq_eq_not, Bool.not_true, Bool.not_false] at hZ) <;> (try (first | rw [(hZ : _ = false)] | rw [(hZ : _ = true)])) <;> skip)
      | (refine vc_pure (rules_v) rfl ?_; (try simp (config := { maxSteps := 2000000 }) (implicitDefEqProofs := false) (disch := first | omega | assumption | (simp only []; done) | fail) only [go_sem, V.splice, ↓reduceIte, reduceCtorEq, Nat.reduceAdd, Nat.reduceLeDiff, Nat.reduceMul, Nat.reduceBEq, Int.reduceToNat, Int.reduceAdd, Int.reduceMul, Int.reduceBEq, rlAll, rl0, rl, rlEnd, rlNote]))
      | (refine vc_pure (r4) rfl ?_; (try simp (config := { maxSteps := 2000000 }) (implicitDefEqProofs := false) (disch := first | omega | assumption | (simp only []; done) | fail) only [go_sem, ↓reduceIte, reduceCtorEq, Nat.reduceAdd, Nat.reduceLeDiff, Nat.reduceBEq, Int.reduceAdd, Int.reduceBEq]))
      | (refine vc_pure (r5) rfl ?_; (try simp (config := { maxSteps := 2000000 }) (implicitDefEqProofs := false) (disch := first | omega | assumption | (simp only []; done) | fail) only [go_sem, Nat.reduceBEq, Int.reduceBEq]))
      | (refine vc_pure (q1) rfl ?_; (try simp (config := { maxSteps := 2000000 }) (implicitDefEqProofs := false) (disch := first | omega | assumption | (simp only []; done) | fail) only [go_sem, Nat.reduceLT, Nat.reduceBEq, Int.reduceLT, Int.reduceBEq]))
      | (refine vc_pure (q2) rfl ?_; (try simp (config := { maxSteps := 2000000 }) (implicitDefEqProofs := false) (disch := first | omega | assumption | (simp only []; done) | fail) only [go_sem, Nat.reduceLT, Nat.reduceBEq, Int.reduceLT, Int.reduceBEq]))
      | (refine vc_pure (q3) rfl ?_; (try simp (config := { maxSteps := 2000000 }) (implicitDefEqProofs := false) (disch := first | omega | assumption | (simp only []; done) | fail) only [go_sem, Nat.reduceLT, Nat.reduceBEq, Int.reduceLT, Int.reduceBEq]))
      )
  all_goals (try (congr 3; rw [hT, Bool.eq_iff_iff, e2]; clear hT e1 e2 e3 r1 r2 r3 r4 r5 q1 q2 q3; simp [txB]; first | omega | grind))
  all_goals skip
end Go.Proofs.Ytjjjlkjhojdnnaa

namespace Go.Proofs.Ytjjjlkjhojdnnaa
open Go.V Go
set_option maxRecDepth 100000
set_option linter.unusedSimpArgs false

def encE : Enc E := ⟨13, fun x => [.lit (.int .i64 x.lsn), .lit (.int .i64 x.kind), .lit (.int .i64 x.tx), .lit (.int .i64 x.ptx), .lit (.int .i64 x.ppg), .lit (.int .i64 x.ref), .lit (.int .i64 x.c.pg), .lit (.int .i64 x.c.sl), .lit (.bool x.c.b.set), .str x.c.b.data, .lit (.bool x.c.a.set), .str x.c.a.data, .str x.blob], by decide, fun _ => rfl⟩
theorem lenE (l : List E) : (cells encE l).length = l.length * 13 := cells_len encE l
theorem allE (l : List E) (n : Nat) (h : l.length * 13 ≤ n) : (cells encE l).take n = cells encE l := by rw [List.take_of_length_le]; rw [lenE]; exact h
theorem slkE (l : List E) (T : TypeId) (a b : Nat) (h : a ≤ b ∧ b ≤ l.length) : vslk (some (none, T, 13)) (fz encE l) a b = some (.pv (.sl (fz encE ((l.take b).drop a)))) := vslk_fz encE l T a b h
theorem srcE (l : List E) : (fz encE l = [] ∨ (fz encE l)[0]?.map List.length = some 13) = True := fz_src encE l
theorem frzE {n : Nat} {hp : Heap} {len : Nat} {l : List E} (h : l.length = len) : frzC n hp 0 13 len (some (cells encE l)) = some (.sl (fz encE l)) := frzC_cells encE h

theorem app_E (l : List E) (e : E) : cells encE l ++ [.pv (.lit (.int .i64 e.lsn)), .pv (.lit (.int .i64 e.kind)), .pv (.lit (.int .i64 e.tx)), .pv (.lit (.int .i64 e.ptx)), .pv (.lit (.int .i64 e.ppg)), .pv (.lit (.int .i64 e.ref)), .pv (.lit (.int .i64 e.c.pg)), .pv (.lit (.int .i64 e.c.sl)), .pv (.lit (.bool e.c.b.set)), .pv (.str e.c.b.data), .pv (.lit (.bool e.c.a.set)), .pv (.str e.c.a.data), .pv (.str e.blob)] = cells encE (l ++ [e]) := by rw [cells_app]; rfl
theorem fzE_at (l : List E) (i : Nat) (h : i < l.length) : (fz encE l)[i]? = some [.lit (.int .i64 l[i].lsn), .lit (.int .i64 l[i].kind), .lit (.int .i64 l[i].tx), .lit (.int .i64 l[i].ptx), .lit (.int .i64 l[i].ppg), .lit (.int .i64 l[i].ref), .lit (.int .i64 l[i].c.pg), .lit (.int .i64 l[i].c.sl), .lit (.bool l[i].c.b.set), .str l[i].c.b.data, .lit (.bool l[i].c.a.set), .str l[i].c.a.data, .str l[i].blob] := fz_get encE l i h
theorem getD_eq {α : Type} (l : List α) (i : Nat) (h : i < l.length) (d : α) : l.getD i d = l[i] := by rw [List.getD_eq_getElem?_getD, List.getElem?_eq_getElem h]; rfl
structure To (n : Nat) where
  i : Nat
  hi : i ≤ n
structure Okay (n : Nat) (c : Nat → Bool) where
  i : Nat
  hi : i ≤ n
  ok : ∀ k, k < i → c k = true
def Okay.start (n : Nat) (c : Nat → Bool) : Okay n c := ⟨0, Nat.zero_le _, fun k h => by omega⟩
def Okay.next {n : Nat} {c : Nat → Bool} (s : Okay n c) (h : s.i < n) (hc : c s.i = true) : Okay n c := ⟨s.i + 1, h, fun k hk => by
  rcases Nat.lt_or_ge k s.i with hlt | hge
  · exact s.ok k hlt
  · obtain rfl : k = s.i := by omega
    exact hc⟩
theorem Okay.all {n : Nat} {c : Nat → Bool} (s : Okay n c) (h : ¬ s.i < n) : (List.range n).all c = true := by
  rw [List.all_eq_true]
  intro k hk
  rw [List.mem_range] at hk
  exact s.ok k (by omega)
theorem all_not {n : Nat} {c : Nat → Bool} {i : Nat} (h : i < n) (hc : c i = false) : (List.range n).all c = false := by
  rw [List.all_eq_false]
  exact ⟨i, List.mem_range.2 h, by rw [hc]; decide⟩
/-- A log. -/
structure Lg where
  f : Int
  es : List E
  d : Int
def Lg.c (x : Lg) : List DV := [.int .i64 x.f, .pv (.sl (fz encE x.es)), .int .i64 x.d]
def Lg0 : Lg := ⟨0, [], 0⟩
def Lg.hd (x : Lg) : Prop := 1 ≤ x.f ∧ x.f ≤ 1099511627776 ∧ x.es.length ≤ 4096 ∧ x.f - 1 ≤ x.d ∧ x.d ≤ x.f + x.es.length - 1
instance (x : Lg) : Decidable x.hd := by unfold Lg.hd; infer_instance
def lgC (x : Lg) (i : Nat) : Bool := decide ((x.es.getD i E0).lsn = x.f + i) && (x.es.getD i E0).okB
def lgB (x : Lg) : Bool := decide x.hd && (List.range x.es.length).all (lgC x)
def Lg.end_ (x : Lg) : Int := x.f + x.es.length - 1
theorem lgB_hd {x : Lg} (h : lgB x = true) : x.hd := by unfold lgB at h; simp at h; exact h.1
theorem jend_v (x : Lg) (h1 : -1099511627776 ≤ x.f ∧ x.f ≤ 1099511627776) (h2 : x.es.length ≤ 1000000) : VCalls Try.prog 62 [.agg x.c] [] (Ret (.int .i64 x.end_)) := by
  refine vcalls_drop (fn := Try.f62) Try.func62 rfl (by kernel_rfl) (by simp [Try.f62]) ?_
  obtain ⟨f, es, d⟩ := x
  dsimp only at h1 h2
  simp (config := { maxSteps := 2000000 }) (implicitDefEqProofs := false) (disch := first | omega | assumption | (simp only []; done) | fail) only [go_sem, ↓reduceIte, reduceCtorEq, Nat.reduceLT, Nat.reduceBEq, Int.reduceLT, Int.reduceBEq, Try.f62, Lg.c]
  skip
  repeat' (first
    | (refine vrunG_split (fun hZ => ?_) (fun hZ => ?_) <;> (try rw [hZ]) <;> (try simp only [decide_eq_true_eq, decide_eq_false_iff_not, Bool.or_eq_true, Bool.and_eq_true, Bool.or_eq_false_iff, Bool.and_eq_false_imp, Bool.not_eq_true', Bool.not_eq_false', beq_iff_eq, beq_eq_false_iff_ne, bne_iff_ne, bne_eq_false_iff_eq, ne_eq, Bool.not_eq_eq_eq_not, Bool.not_true, Bool.not_false] at hZ) <;> (try (first | rw [(hZ : _ = false)] | rw [(hZ : _ = true)])) <;> skip)
    | (refine vbr_split (fun hZ => ?_) (fun hZ => ?_) <;> (try rw [hZ]) <;> (try simp only [decide_eq_true_eq, decide_eq_false_iff_not, Bool.or_eq_true, Bool.and_eq_true, Bool.or_eq_false_iff, Bool.and_eq_false_imp, Bool.not_eq_true', Bool.not_eq_false', beq_iff_eq, beq_eq_false_iff_ne, bne_iff_ne, bne_eq_false_iff_eq, ne_eq, Bool.not_eq_eq_eq_not, Bool.not_true, Bool.not_false] at hZ) <;> (try (first | rw [(hZ : _ = false)] | rw [(hZ : _ = true)])) <;> skip)
    | (refine vdrG_split (fun hZ => ?_) (fun hZ => ?_) <;> (try rw [hZ]) <;> (try simp only [decide_eq_true_eq, decide_eq_false_iff_not, Bool.or_eq_true, Bool.and_eq_true, Bool.or_eq_false_iff, Bool.and_eq_false_imp, Bool.not_eq_true', Bool.not_eq_false', beq_iff_eq, beq_eq_false_iff_ne, bne_iff_ne, bne_eq_false_iff_eq, ne_eq, Bool.not_eq_eq_eq_not, Bool.not_true, Bool.not_false] at hZ) <;> (try (first | rw [(hZ : _ = false)] | rw [(hZ : _ = true)])) <;> skip)
    )
  all_goals rfl
set_option maxHeartbeats 4000000 in
theorem jvalid_v (x : Lg) (hx : x.es.length ≤ 9223372036854775807) : VCalls Try.prog 55 [.agg x.c] [] (Ret (.bool (lgB x))) := by
  refine vcalls_drop (fn := Try.f55) Try.func55 rfl (by kernel_rfl) (by simp [Try.f55]) ?_
  obtain ⟨f, es, d⟩ := x
  dsimp only at hx
  have hr := fun (i : Nat) (h : i < es.length) => valid_v es[i]
  have c1 := jend_v ⟨f, es, d⟩
  have hlg : ∀ i, lgC ⟨f, es, d⟩ i = true ↔ (es.getD i E0).lsn = f + i ∧ (es.getD i E0).okB = true := fun i => by simp [lgC]
  have hB : lgB ⟨f, es, d⟩ = (decide (Lg.hd ⟨f, es, d⟩) && (List.range es.length).all (lgC ⟨f, es, d⟩)) := rfl
  have hH : Lg.hd ⟨f, es, d⟩ = (1 ≤ f ∧ f ≤ 1099511627776 ∧ es.length ≤ 4096 ∧ f - 1 ≤ d ∧ d ≤ f + es.length - 1) := rfl
  have no : ¬ Lg.hd ⟨f, es, d⟩ → lgB ⟨f, es, d⟩ = false := fun h => by rw [hB, decide_eq_false h]; rfl
  unfold Lg.c at c1 ⊢
  unfold Lg.end_ at c1
  unfold E.d at hr
  dsimp only at c1 ⊢
  generalize lgC ⟨f, es, d⟩ = lc at *
  generalize lgB ⟨f, es, d⟩ = b at *
  simp (config := { maxSteps := 2000000 }) (implicitDefEqProofs := false) (disch := first | omega | assumption | (simp only []; done) | fail) only [go_sem, ↓reduceIte, Try.f55]
  skip
  repeat' (first
    | (refine vrunG_split (fun hZ => ?_) (fun hZ => ?_) <;> (try rw [hZ]) <;> (try simp only [decide_eq_true_eq, decide_eq_false_iff_not, Bool.or_eq_true, Bool.and_eq_true, Bool.or_eq_false_iff, Bool.and_eq_false_imp, Bool.not_eq_true', Bool.not_eq_false', beq_iff_eq, beq_eq_false_iff_ne, bne_iff_ne, bne_eq_false_iff_eq, ne_eq, Bool.not_eq_eq_eq_not, Bool.not_true, Bool.not_false] at hZ) <;> (try (first | rw [(hZ : _ = false)] | rw [(hZ : _ = true)])) <;> (try simp (config := { maxSteps := 2000000 }) (implicitDefEqProofs := false) (disch := first | omega | assumption | (simp only []; done) | fail) only [go_sem, ↓reduceIte, reduceCtorEq, Nat.reduceAdd, Nat.reduceBEq, Int.reduceAdd, Int.reduceBEq]))
    | (refine vbr_split (fun hZ => ?_) (fun hZ => ?_) <;> (try rw [hZ]) <;> (try simp only [decide_eq_true_eq, decide_eq_false_iff_not, Bool.or_eq_true, Bool.and_eq_true, Bool.or_eq_false_iff, Bool.and_eq_false_imp, Bool.not_eq_true', Bool.not_eq_false', beq_iff_eq, beq_eq_false_iff_ne, bne_iff_ne, bne_eq_false_iff_eq, ne_eq, Bool.not_eq_eq_eq_not, Bool.not_true, Bool.not_false] at hZ) <;> (try (first | rw [(hZ : _ = false)] | rw [(hZ : _ = true)])) <;> (try simp (config := { maxSteps := 2000000 }) (implicitDefEqProofs := false) (disch := first | omega | assumption | (simp only []; done) | fail) only [go_sem, ↓reduceIte, reduceCtorEq, Nat.reduceBEq, Int.reduceBEq]))
    | (refine vdrG_split (fun hZ => ?_) (fun hZ => ?_) <;> (try rw [hZ]) <;> (try simp only [decide_eq_true_eq, decide_eq_false_iff_not, Bool.or_eq_true, Bool.and_eq_true, Bool.or_eq_false_iff, Bool.and_eq_false_imp, Bool.not_eq_true', Bool.not_eq_false', beq_iff_eq, beq_eq_false_iff_ne, bne_iff_ne, bne_eq_false_iff_eq, ne_eq, Bool.not_eq_eq_eq_not, Bool.not_true, Bool.not_false] at hZ) <;> (try (first | rw [(hZ : _ = false)] | rw [(hZ : _ = true)])) <;> skip)
    | (refine vc_pure (c1 (by omega) (by omega)) rfl ?_; (try simp (config := { maxSteps := 2000000 }) (implicitDefEqProofs := false) (disch := first | omega | assumption | (simp only []; done) | fail) only [go_sem, Nat.reduceBEq, Int.reduceBEq]))
    | (refine vspine (id := 1) [0, 1, 2, 3, 4, 5, 6, 7, 8, 9, 10, 11, 12, 13, 14, 15, 16, 17, 18, 19, 20, 21, 22, 23, 24, 25] [⟨[], [], 26, [0, 1, 2, 3, 4, 5, 6, 7, 8, 9, 10, 11, 12, 13, 14, 15, 16, 17, 18, 19, 20, 21, 23, 24], [27, 28]⟩] (by kernel_rfl) (by kernel_rfl) ?_; (try simp (config := { maxSteps := 2000000 }) (implicitDefEqProofs := false) (disch := first | omega | assumption | (simp only []; done) | fail) only [go_sem, ↓reduceIte, reduceCtorEq, Nat.reduceBEq, Int.reduceBEq]))
    )
  all_goals first | (rw [no (by rw [hH]; omega)]) | skip
  refine vloopW (fun s : Okay es.length lc => ⟨55, 0, [(37, .int .i64 s.i), (36, .int .i64 es.length), (35, .pv (.sl (fz encE es))), (1, .ptr 0 0)], [⟨52, true, [.int .i64 f, .pv (.sl (fz encE es)), .int .i64 d]⟩]⟩) (fun s => es.length - s.i) (Okay.start _ _) (by refine gc_of (keep := [0]) rfl rfl rfl (by decide) ?_ ?_ <;> (repeat' apply And.intro) <;> first | trivial | rfl | exact ⟨_, rfl, rfl, rfl, .inl ⟨rfl, rfl⟩⟩ | exact ⟨_, rfl, rfl, rfl, .inl ⟨cells_nums _ _ _, rfl⟩⟩ | exact ⟨_, rfl, rfl, rfl, .inl ⟨pvs_nums _ _, rfl⟩⟩ | exact ⟨_, rfl, rfl, rfl, .inr ⟨rfl, rfl⟩⟩) ?_
  intro s
  have hsi := s.hi
  have hg := fun h : s.i < es.length => fzE_at es s.i h
  have hd := fun h : s.i < es.length => getD_eq es s.i h E0
  (try simp (config := { maxSteps := 2000000 }) (implicitDefEqProofs := false) (disch := first | omega | assumption | (simp only []; done) | fail) only [go_sem, Nat.reduceBEq, Int.reduceBEq])
  repeat' (first
    | (refine vrunG_split (fun hZ => ?_) (fun hZ => ?_) <;> (try rw [hZ]) <;> (try simp only [decide_eq_true_eq, decide_eq_false_iff_not, Bool.or_eq_true, Bool.and_eq_true, Bool.or_eq_false_iff, Bool.and_eq_false_imp, Bool.not_eq_true', Bool.not_eq_false', beq_iff_eq, beq_eq_false_iff_ne, bne_iff_ne, bne_eq_false_iff_eq, ne_eq, Bool.not_eq_eq_eq_not, Bool.not_true, Bool.not_false] at hZ) <;> (try (first | rw [(hZ : _ = false)] | rw [(hZ : _ = true)])) <;> (try simp (config := { maxSteps := 2000000 }) (implicitDefEqProofs := false) (disch := first | omega | assumption | (simp only []; done) | fail) only [go_sem, ↓reduceIte, Nat.reduceAdd, Nat.reduceBEq, Int.reduceAdd, Int.reduceBEq]))
    | (refine vbr_split (fun hZ => ?_) (fun hZ => ?_) <;> (try rw [hZ]) <;> (try simp only [decide_eq_true_eq, decide_eq_false_iff_not, Bool.or_eq_true, Bool.and_eq_true, Bool.or_eq_false_iff, Bool.and_eq_false_imp, Bool.not_eq_true', Bool.not_eq_false', beq_iff_eq, beq_eq_false_iff_ne, bne_iff_ne, bne_eq_false_iff_eq, ne_eq, Bool.not_eq_eq_eq_not, Bool.not_true, Bool.not_false] at hZ) <;> (try (first | rw [(hZ : _ = false)] | rw [(hZ : _ = true)])) <;> (try simp (config := { maxSteps := 2000000 }) (implicitDefEqProofs := false) (disch := first | omega | assumption | (simp only [List.length_cons, List.length_nil, Nat.zero_add, Nat.reduceAdd]; done) | fail) only [go_sem, V.splice, ↓reduceIte, reduceCtorEq, Nat.reduceAdd, Nat.reduceLT, Nat.reduceBEq, Int.reduceLT, Int.reduceAdd, Int.reduceBEq, hg]))
    | (refine vdrG_split (fun hZ => ?_) (fun hZ => ?_) <;> (try rw [hZ]) <;> (try simp only [decide_eq_true_eq, decide_eq_false_iff_not, Bool.or_eq_true, Bool.and_eq_true, Bool.or_eq_false_iff, Bool.and_eq_false_imp, Bool.not_eq_true', Bool.not_eq_false', beq_iff_eq, beq_eq_false_iff_ne, bne_iff_ne, bne_eq_false_iff_eq, ne_eq, Bool.not_eq_eq_eq_not, Bool.not_true, Bool.not_false] at hZ) <;> (try (first | rw [(hZ : _ = false)] | rw [(hZ : _ = true)])) <;> skip)
    | (refine vc_pure (hr s.i (by omega)) rfl ?_; (try simp (config := { maxSteps := 2000000 }) (implicitDefEqProofs := false) (disch := first | omega | assumption | (simp only []; done) | fail) only [go_sem, Nat.reduceBEq, Int.reduceBEq]))
    )
  all_goals first
    | (rw [hB, all_not (i := s.i) (by omega) (Bool.eq_false_iff.2 fun h => by rw [hlg, hd (by omega)] at h; omega), Bool.and_false])
    | (rw [hB, all_not (i := s.i) (by omega) (Bool.eq_false_iff.2 fun h => by rw [hlg, hd (by omega)] at h; exact absurd h.2 (by simp_all)), Bool.and_false])
    | (rw [hB, s.all (by omega), decide_eq_true (by rw [hH]; omega)]; rfl)
    | (exact ⟨s.next (by omega) ((hlg _).2 (by rw [hd (by omega)]; exact ⟨by omega, by assumption⟩)), by show es.length - (s.i + 1) < es.length - s.i; omega, (by refine gc_of (keep := [0]) rfl rfl rfl (by decide) ?_ ?_ <;> (repeat' apply And.intro) <;> first | trivial | rfl | exact ⟨_, rfl, rfl, rfl, .inl ⟨rfl, rfl⟩⟩ | exact ⟨_, rfl, rfl, rfl, .inl ⟨cells_nums _ _ _, rfl⟩⟩ | exact ⟨_, rfl, rfl, rfl, .inl ⟨pvs_nums _ _, rfl⟩⟩ | exact ⟨_, rfl, rfl, rfl, .inr ⟨rfl, rfl⟩⟩)⟩)
    | skip
end Go.Proofs.Ytjjjlkjhojdnnaa

namespace Go.Proofs.Ytjjjlkjhojdnnaa
open Go.V Go
set_option maxRecDepth 100000
set_option linter.unusedSimpArgs false

abbrev noK : Nat → Bool := fun _ => false
theorem cloneE_v (l : List E) (hl : l.length ≤ 1000000) : VCalls Try.prog 65 [.pv (.sl (fz encE l))] [] (NewSl noK [] 13 l.length 59 (cells encE l)) := by
  refine VCalls.newSl ?_
  by_cases hz : l = []
  · subst hz
    refine VCalls.open0 fun ad cap hs => ?_
    refine vcalls_keep (fn := Try.f65) Try.func65 rfl (by kernel_rfl) (by simp [Try.f65]) ?_
    simp (config := { maxSteps := 2000000 }) (implicitDefEqProofs := false) (disch := first | omega | assumption | (simp only []; done) | fail) only [go_sem, Nat.reduceBEq, Int.reduceBEq, Try.f65, Try.underlying50]
    refine vbr_split (fun h => ?_) (fun h => ?_)
    · simp (config := { maxSteps := 2000000 }) (implicitDefEqProofs := false) (disch := first | omega | assumption | (simp only []; done) | fail) only [go_sem]
      exact ⟨by simp, .inl ⟨rfl, rfl, rfl⟩⟩
    · simp (config := { maxSteps := 2000000 }) (implicitDefEqProofs := false) (disch := first | omega | assumption | (simp only []; done) | fail) only [go_sem, V.mk, ↓reduceIte, Nat.reduceAdd, Nat.reduceLT, Nat.reduceLeDiff, Nat.reduceBEq, Int.reduceLT, Int.reduceAdd, Int.reduceBEq]
      exact ⟨by simp, .inr ⟨_, .inl rfl, by simp, rfl, rfl⟩⟩
  · have hp : 0 < l.length := List.length_pos_iff.2 hz
    refine vcalls_keep (fn := Try.f65) Try.func65 rfl (by kernel_rfl) (by simp [Try.f65]) ?_
    have h0 := isNil_fz encE l hp
    have hx : (fz encE l)[0]?.map List.length = some 13 := fz_has encE l hp
    have hb : l.length * 128 ≤ 140737488355328 := by omega
    have hfl : pvs (fz encE l) = cells encE l := fz_flat encE l
    simp (config := { maxSteps := 2000000 }) (implicitDefEqProofs := false) (disch := first | omega | assumption | (simp only []; done) | fail) only [go_sem, V.mk, ↓reduceIte, Nat.reduceAdd, Nat.reduceLT, Nat.reduceLeDiff, Nat.reduceBEq, Int.reduceLT, Int.reduceAdd, Int.reduceBEq, Try.f65, Try.underlying50, h0, hx, hb]
    exact ⟨by simp, .inr ⟨_, .inl rfl, by simp, rfl, cells_nums _ _ _⟩⟩
theorem clipE_v (l : List E) : VCalls Try.prog 64 [.pv (.sl (fz encE l))] [] (Ret (.pv (.slc (fz encE l)))) := by
  refine vcalls_drop (fn := Try.f64) Try.func64 rfl (by kernel_rfl) (by simp [Try.f64]) ?_
  have h3 : vslk3 (some (none, 59, 13)) (fz encE l) 0 l.length l.length = some (.pv (.slc (fz encE l))) := vslk3_fz encE l _
  simp (config := { maxSteps := 2000000 }) (implicitDefEqProofs := false) (disch := first | omega | assumption | (simp only []; done) | fail) only [go_sem, Nat.reduceLT, Nat.reduceBEq, Int.reduceLT, Int.reduceBEq, Try.f64, h3]
def appS (x : Lg) (e : E) : Lg × Int × Int := if lgB x = false then (Lg0, 0, 26) else if x.es.length = 4096 ∨ 1099511627776 < x.end_ + 1 then (Lg0, 0, 21)
  else if ({ e with lsn := x.end_ + 1 } : E).okB = false then (Lg0, 0, 12) else (⟨x.f, x.es ++ [{ e with lsn := x.end_ + 1 }], x.d⟩, x.end_ + 1, 0)
def appD (r : Lg × Int × Int) : DV := .tup [.agg r.1.c, .int .i64 r.2.1, .int .i64 r.2.2]
set_option maxHeartbeats 4000000 in
theorem append_v (x : Lg) (hx : x.es.length ≤ 9223372036854775807) (e : E) : VCalls Try.prog 34 [.agg x.c, .agg e.d] [] (Ret (appD (appS x e))) := by
  refine VCalls.unwk ?_
  refine vcalls_drop (fn := Try.f34) Try.func34 rfl (by kernel_rfl) (by simp [Try.f34]) ?_
  obtain ⟨f, es, d⟩ := x
  dsimp only at hx
  have c1 := jvalid_v ⟨f, es, d⟩ hx
  have c2 := jend_v ⟨f, es, d⟩
  have hh := @lgB_hd ⟨f, es, d⟩
  have c3 := valid_v { e with lsn := f + es.length - 1 + 1 }
  have e0 : appS ⟨f, es, d⟩ e = if lgB ⟨f, es, d⟩ = false then (Lg0, 0, 26) else if es.length = 4096 ∨ 1099511627776 < f + es.length - 1 + 1 then (Lg0, 0, 21)
    else if ({ e with lsn := f + es.length - 1 + 1 } : E).okB = false then (Lg0, 0, 12) else (⟨f, es ++ [{ e with lsn := f + es.length - 1 + 1 }], d⟩, f + es.length - 1 + 1, 0) := rfl
  unfold Lg.hd at hh
  unfold Lg.end_ at c2
  unfold Lg.c at c1 c2 ⊢
  unfold E.d at c3 ⊢
  obtain ⟨lsn, kind, tx, ptx, ppg, ref, c, blob⟩ := e
  dsimp only at *
  have c4 := clipE_v es
  rw [e0]
  have hl := app_E es ⟨f + es.length - 1 + 1, kind, tx, ptx, ppg, ref, c, blob⟩
  dsimp only at hl
  cases hv : lgB ⟨f, es, d⟩
  · rw [hv] at c1
    simp (config := { maxSteps := 2000000 }) (implicitDefEqProofs := false) (disch := first | omega | assumption | (simp only []; done) | fail) only [go_sem, ↓reduceIte, Nat.reduceAdd, Nat.reduceBEq, Int.reduceAdd, Int.reduceBEq, Try.f34]
    skip
    repeat' (first
      | (refine vrunG_split (fun hZ => ?_) (fun hZ => ?_) <;> (try rw [hZ]) <;> (try simp only [decide_eq_true_eq, decide_eq_false_iff_not, Bool.or_eq_true, Bool.and_eq_true, Bool.or_eq_false_iff, Bool.and_eq_false_imp, Bool.not_eq_true', Bool.not_eq_false', beq_iff_eq, beq_eq_false_iff_ne, bne_iff_ne, bne_eq_false_iff_eq, ne_eq, Bool.not_eq_eq_eq_not, Bool.not_true, Bool.not_false] at hZ) <;> (try (first | rw [(hZ : _ = false)] | rw [(hZ : _ = true)])) <;> skip)
      | (refine vbr_split (fun hZ => ?_) (fun hZ => ?_) <;> (try rw [hZ]) <;> (try simp only [decide_eq_true_eq, decide_eq_false_iff_not, Bool.or_eq_true, Bool.and_eq_true, Bool.or_eq_false_iff, Bool.and_eq_false_imp, Bool.not_eq_true', Bool.not_eq_false', beq_iff_eq, beq_eq_false_iff_ne, bne_iff_ne, bne_eq_false_iff_eq, ne_eq, Bool.not_eq_eq_eq_not, Bool.not_true, Bool.not_false] at hZ) <;> (try (first | rw [(hZ : _ = false)] | rw [(hZ : _ = true)])) <;> skip)
      | (refine vdrG_split (fun hZ => ?_) (fun hZ => ?_) <;> (try rw [hZ]) <;> (try simp only [decide_eq_true_eq, decide_eq_false_iff_not, Bool.or_eq_true, Bool.and_eq_true, Bool.or_eq_false_iff, Bool.and_eq_false_imp, Bool.not_eq_true', Bool.not_eq_false', beq_iff_eq, beq_eq_false_iff_ne, bne_iff_ne, bne_eq_false_iff_eq, ne_eq, Bool.not_eq_eq_eq_not, Bool.not_true, Bool.not_false] at hZ) <;> (try (first | rw [(hZ : _ = false)] | rw [(hZ : _ = true)])) <;> skip)
      | (refine vc_pure (c1) rfl ?_; (try simp (config := { maxSteps := 2000000 }) (implicitDefEqProofs := false) (disch := first | omega | assumption | (simp only []; done) | fail) only [go_sem, V.splice, ↓reduceIte, Nat.reduceAdd, Nat.reduceBEq, Int.reduceAdd, Int.reduceBEq]))
      )
    all_goals first | rfl | contradiction
  rw [hv] at c1
  rw [if_neg (by decide)]
  replace hh := hh hv
  have hb : (es.length + 1) * 128 ≤ 140737488355328 := by omega
  by_cases h1 : es.length = 4096 ∨ 1099511627776 < f + (es.length : Int) - 1 + 1
  · rw [if_pos h1]
    simp (config := { maxSteps := 2000000 }) (implicitDefEqProofs := false) (disch := first | omega | assumption | (simp only []; done) | fail) only [go_sem, ↓reduceIte, Nat.reduceAdd, Nat.reduceBEq, Int.reduceAdd, Int.reduceBEq, Try.f34]
    skip
    repeat' (first
      | (refine vrunG_split (fun hZ => ?_) (fun hZ => ?_) <;> (try rw [hZ]) <;> (try simp only [decide_eq_true_eq, decide_eq_false_iff_not, Bool.or_eq_true, Bool.and_eq_true, Bool.or_eq_false_iff, Bool.and_eq_false_imp, Bool.not_eq_true', Bool.not_eq_false', beq_iff_eq, beq_eq_false_iff_ne, bne_iff_ne, bne_eq_false_iff_eq, ne_eq, Bool.not_eq_eq_eq_not, Bool.not_true, Bool.not_false] at hZ) <;> (try (first | rw [(hZ : _ = false)] | rw [(hZ : _ = true)])) <;> (try simp (config := { maxSteps := 2000000 }) (implicitDefEqProofs := false) (disch := first | omega | assumption | (simp only []; done) | fail) only [go_sem, V.splice, ↓reduceIte, reduceCtorEq, Nat.reduceAdd, Nat.reduceBEq, Int.reduceAdd, Int.reduceBEq]))
      | (refine vbr_split (fun hZ => ?_) (fun hZ => ?_) <;> (try rw [hZ]) <;> (try simp only [decide_eq_true_eq, decide_eq_false_iff_not, Bool.or_eq_true, Bool.and_eq_true, Bool.or_eq_false_iff, Bool.and_eq_false_imp, Bool.not_eq_true', Bool.not_eq_false', beq_iff_eq, beq_eq_false_iff_ne, bne_iff_ne, bne_eq_false_iff_eq, ne_eq, Bool.not_eq_eq_eq_not, Bool.not_true, Bool.not_false] at hZ) <;> (try (first | rw [(hZ : _ = false)] | rw [(hZ : _ = true)])) <;> skip)
      | (refine vdrG_split (fun hZ => ?_) (fun hZ => ?_) <;> (try rw [hZ]) <;> (try simp only [decide_eq_true_eq, decide_eq_false_iff_not, Bool.or_eq_true, Bool.and_eq_true, Bool.or_eq_false_iff, Bool.and_eq_false_imp, Bool.not_eq_true', Bool.not_eq_false', beq_iff_eq, beq_eq_false_iff_ne, bne_iff_ne, bne_eq_false_iff_eq, ne_eq, Bool.not_eq_eq_eq_not, Bool.not_true, Bool.not_false] at hZ) <;> (try (first | rw [(hZ : _ = false)] | rw [(hZ : _ = true)])) <;> skip)
      | (refine vc_pure (c1) rfl ?_; (try simp (config := { maxSteps := 2000000 }) (implicitDefEqProofs := false) (disch := first | omega | assumption | (simp only []; done) | fail) only [go_sem, ↓reduceIte, Nat.reduceAdd, Nat.reduceBEq, Int.reduceAdd, Int.reduceBEq]))
      | (refine vc_pure (c2 (by omega) (by omega)) rfl ?_; (try simp (config := { maxSteps := 2000000 }) (implicitDefEqProofs := false) (disch := first | omega | assumption | (simp only []; done) | fail) only [go_sem, ↓reduceIte, reduceCtorEq, Nat.reduceAdd, Nat.reduceBEq, Int.reduceAdd, Int.reduceBEq]))
      )
    all_goals first | rfl | contradiction | omega
  rw [if_neg h1]
  generalize (⟨f + es.length - 1 + 1, kind, tx, ptx, ppg, ref, c, blob⟩ : E).okB = ok at *
  cases ok
  · rw [if_pos rfl]
    simp (config := { maxSteps := 2000000 }) (implicitDefEqProofs := false) (disch := first | omega | assumption | (simp only []; done) | fail) only [go_sem, ↓reduceIte, Nat.reduceAdd, Nat.reduceBEq, Int.reduceAdd, Int.reduceBEq, Try.f34]
    skip
    repeat' (first
      | (refine vrunG_split (fun hZ => ?_) (fun hZ => ?_) <;> (try rw [hZ]) <;> (try simp only [decide_eq_true_eq, decide_eq_false_iff_not, Bool.or_eq_true, Bool.and_eq_true, Bool.or_eq_false_iff, Bool.and_eq_false_imp, Bool.not_eq_true', Bool.not_eq_false', beq_iff_eq, beq_eq_false_iff_ne, bne_iff_ne, bne_eq_false_iff_eq, ne_eq, Bool.not_eq_eq_eq_not, Bool.not_true, Bool.not_false] at hZ) <;> (try (first | rw [(hZ : _ = false)] | rw [(hZ : _ = true)])) <;> skip)
      | (refine vbr_split (fun hZ => ?_) (fun hZ => ?_) <;> (try rw [hZ]) <;> (try simp only [decide_eq_true_eq, decide_eq_false_iff_not, Bool.or_eq_true, Bool.and_eq_true, Bool.or_eq_false_iff, Bool.and_eq_false_imp, Bool.not_eq_true', Bool.not_eq_false', beq_iff_eq, beq_eq_false_iff_ne, bne_iff_ne, bne_eq_false_iff_eq, ne_eq, Bool.not_eq_eq_eq_not, Bool.not_true, Bool.not_false] at hZ) <;> (try (first | rw [(hZ : _ = false)] | rw [(hZ : _ = true)])) <;> skip)
      | (refine vdrG_split (fun hZ => ?_) (fun hZ => ?_) <;> (try rw [hZ]) <;> (try simp only [decide_eq_true_eq, decide_eq_false_iff_not, Bool.or_eq_true, Bool.and_eq_true, Bool.or_eq_false_iff, Bool.and_eq_false_imp, Bool.not_eq_true', Bool.not_eq_false', beq_iff_eq, beq_eq_false_iff_ne, bne_iff_ne, bne_eq_false_iff_eq, ne_eq, Bool.not_eq_eq_eq_not, Bool.not_true, Bool.not_false] at hZ) <;> (try (first | rw [(hZ : _ = false)] | rw [(hZ : _ = true)])) <;> skip)
      | (refine vc_pure (c1) rfl ?_; (try simp (config := { maxSteps := 2000000 }) (implicitDefEqProofs := false) (disch := first | omega | assumption | (simp only []; done) | fail) only [go_sem, ↓reduceIte, Nat.reduceAdd, Nat.reduceBEq, Int.reduceAdd, Int.reduceBEq]))
      | (refine vc_pure (c2 (by omega) (by omega)) rfl ?_; (try simp (config := { maxSteps := 2000000 }) (implicitDefEqProofs := false) (disch := first | omega | assumption | (simp only []; done) | fail) only [go_sem, ↓reduceIte, reduceCtorEq, Nat.reduceAdd, Nat.reduceBEq, Int.reduceAdd, Int.reduceBEq]))
      | (refine vc_pure (c3) rfl ?_; (try simp (config := { maxSteps := 2000000 }) (implicitDefEqProofs := false) (disch := first | omega | assumption | (simp only []; done) | fail) only [go_sem, V.splice, ↓reduceIte, Nat.reduceAdd, Nat.reduceBEq, Int.reduceAdd, Int.reduceBEq]))
      )
    all_goals first | rfl | contradiction | omega
  · rw [if_neg (by decide)]
    simp (config := { maxSteps := 2000000 }) (implicitDefEqProofs := false) (disch := first | omega | assumption | (simp only []; done) | fail) only [go_sem, ↓reduceIte, Nat.reduceAdd, Nat.reduceBEq, Int.reduceAdd, Int.reduceBEq, Try.f34]
    skip
    repeat' (first
      | (refine vrunG_split (fun hZ => ?_) (fun hZ => ?_) <;> (try rw [hZ]) <;> (try simp only [decide_eq_true_eq, decide_eq_false_iff_not, Bool.or_eq_true, Bool.and_eq_true, Bool.or_eq_false_iff, Bool.and_eq_false_imp, Bool.not_eq_true', Bool.not_eq_false', beq_iff_eq, beq_eq_false_iff_ne, bne_iff_ne, bne_eq_false_iff_eq, ne_eq, Bool.not_eq_eq_eq_not, Bool.not_true, Bool.not_false] at hZ) <;> (try (first | rw [(hZ : _ = false)] | rw [(hZ : _ = true)])) <;> skip)
      | (refine vbr_split (fun hZ => ?_) (fun hZ => ?_) <;> (try rw [hZ]) <;> (try simp only [decide_eq_true_eq, decide_eq_false_iff_not, Bool.or_eq_true, Bool.and_eq_true, Bool.or_eq_false_iff, Bool.and_eq_false_imp, Bool.not_eq_true', Bool.not_eq_false', beq_iff_eq, beq_eq_false_iff_ne, bne_iff_ne, bne_eq_false_iff_eq, ne_eq, Bool.not_eq_eq_eq_not, Bool.not_true, Bool.not_false] at hZ) <;> (try (first | rw [(hZ : _ = false)] | rw [(hZ : _ = true)])) <;> skip)
      | (refine vdrG_split (fun hZ => ?_) (fun hZ => ?_) <;> (try rw [hZ]) <;> (try simp only [decide_eq_true_eq, decide_eq_false_iff_not, Bool.or_eq_true, Bool.and_eq_true, Bool.or_eq_false_iff, Bool.and_eq_false_imp, Bool.not_eq_true', Bool.not_eq_false', beq_iff_eq, beq_eq_false_iff_ne, bne_iff_ne, bne_eq_false_iff_eq, ne_eq, Bool.not_eq_eq_eq_not, Bool.not_true, Bool.not_false] at hZ) <;> (try (first | rw [(hZ : _ = false)] | rw [(hZ : _ = true)])) <;> skip)
      | (refine vc_pure (c1) rfl ?_; (try simp (config := { maxSteps := 2000000 }) (implicitDefEqProofs := false) (disch := first | omega | assumption | (simp only []; done) | fail) only [go_sem, ↓reduceIte, Nat.reduceAdd, Nat.reduceBEq, Int.reduceAdd, Int.reduceBEq]))
      | (refine vc_pure (c2 (by omega) (by omega)) rfl ?_; (try simp (config := { maxSteps := 2000000 }) (implicitDefEqProofs := false) (disch := first | omega | assumption | (simp only []; done) | fail) only [go_sem, ↓reduceIte, reduceCtorEq, Nat.reduceAdd, Nat.reduceBEq, Int.reduceAdd, Int.reduceBEq]))
      | (refine vc_pure (c3) rfl ?_; (try simp (config := { maxSteps := 2000000 }) (implicitDefEqProofs := false) (disch := first | omega | assumption | (simp only []; done) | fail) only [go_sem]))
      | (refine vc_pure (c4) rfl ?_; (try simp (config := { maxSteps := 2000000 }) (implicitDefEqProofs := false) (disch := first | omega | assumption | (simp only []; done) | fail) only [go_sem, V.splice, V.mk, ↓reduceIte, reduceCtorEq, Nat.reduceAdd, Nat.reduceLT, Nat.reduceLeDiff, Nat.reduceBEq, Int.reduceLT, Int.reduceAdd, Int.reduceBEq, srcE, hl, hb]))
      | (refine vspine (id := 8) [0, 1, 3] [⟨[4], [], 2, [0, 3], []⟩, ⟨[4], [4], 5, [0, 1, 3], [6]⟩, ⟨[], [], 7, [], []⟩] (by kernel_rfl) (by kernel_rfl) ?_; (try simp (config := { maxSteps := 2000000 }) (implicitDefEqProofs := false) (disch := first | omega | assumption | (simp only []; done) | fail) only [go_sem, V.splice, V.mk, ↓reduceIte, reduceCtorEq, Nat.reduceAdd, Nat.reduceLeDiff, Nat.reduceBEq, Int.reduceAdd, Int.reduceBEq]))
      | (refine vspine (id := 9) [0, 1, 2] [⟨[], [], 3, [1, 2], []⟩, ⟨[], [], 4, [], []⟩, ⟨[], [], 5, [], []⟩] (by kernel_rfl) (by kernel_rfl) ?_; (try simp (config := { maxSteps := 2000000 }) (implicitDefEqProofs := false) (disch := first | omega | assumption | (simp only []; done) | (simp only [List.length_append, List.length_cons, List.length_nil] <;> omega) | fail) only [go_sem, V.splice, ↓reduceIte, reduceCtorEq, Nat.reduceAdd, Nat.reduceLT, Nat.reduceBEq, Int.reduceLT, Int.reduceAdd, Int.reduceBEq, frzE]))
      )
    all_goals first | rfl | contradiction | omega | skip
end Go.Proofs.Ytjjjlkjhojdnnaa

namespace Go.Proofs.Ytjjjlkjhojdnnaa
open Go.V Go
set_option maxRecDepth 100000
set_option linter.unusedSimpArgs false

def forceS (x : Lg) (n : Int) : Lg × Int := if lgB x = false then (Lg0, 26) else if x.end_ < n then (Lg0, 14) else (⟨x.f, x.es, if n > x.d then n else x.d⟩, 0)
def cutS (x : Lg) (n : Int) : Lg × Int := if lgB x = false then (Lg0, 26) else if n < x.f ∨ x.end_ + 1 < n ∨ 1099511627776 < n then (Lg0, 1) else if x.d < n - 1 then (Lg0, 15) else (⟨n, x.es.drop (n - x.f).toNat, x.d⟩, 0)
def lgD (r : Lg × Int) : DV := .tup [.agg r.1.c, .int .i64 r.2]
set_option maxHeartbeats 4000000 in
theorem force_v (x : Lg) (hx : x.es.length ≤ 9223372036854775807) (n : Int) : VCalls Try.prog 35 [.agg x.c, .int .i64 n] [] (Ret (lgD (forceS x n))) := by
  refine VCalls.unwk ?_
  refine vcalls_drop (fn := Try.f35) Try.func35 rfl (by kernel_rfl) (by simp [Try.f35]) ?_
  obtain ⟨f, es, d⟩ := x
  dsimp only at hx
  have c1 := jvalid_v ⟨f, es, d⟩ hx
  have c2 := jend_v ⟨f, es, d⟩
  have hh := @lgB_hd ⟨f, es, d⟩
  have e0 : forceS ⟨f, es, d⟩ n = if lgB ⟨f, es, d⟩ = false then (Lg0, 26) else if f + es.length - 1 < n then (Lg0, 14) else (⟨f, es, if n > d then n else d⟩, 0) := rfl
  unfold Lg.hd at hh
  unfold Lg.end_ at c2
  unfold Lg.c at c1 c2 ⊢
  dsimp only at *
  rw [e0]
  cases hv : lgB ⟨f, es, d⟩
  · rw [hv] at c1
    simp (config := { maxSteps := 2000000 }) (implicitDefEqProofs := false) (disch := first | omega | assumption | (simp only []; done) | fail) only [go_sem, ↓reduceIte, Nat.reduceAdd, Nat.reduceBEq, Int.reduceAdd, Int.reduceBEq, Try.f35]
    skip
    repeat' (first
      | (refine vrunG_split (fun hZ => ?_) (fun hZ => ?_) <;> (try rw [hZ]) <;> (try simp only [decide_eq_true_eq, decide_eq_false_iff_not, Bool.or_eq_true, Bool.and_eq_true, Bool.or_eq_false_iff, Bool.and_eq_false_imp, Bool.not_eq_true', Bool.not_eq_false', beq_iff_eq, beq_eq_false_iff_ne, bne_iff_ne, bne_eq_false_iff_eq, ne_eq, Bool.not_eq_eq_eq_not, Bool.not_true, Bool.not_false] at hZ) <;> (try (first | rw [(hZ : _ = false)] | rw [(hZ : _ = true)])) <;> skip)
      | (refine vbr_split (fun hZ => ?_) (fun hZ => ?_) <;> (try rw [hZ]) <;> (try simp only [decide_eq_true_eq, decide_eq_false_iff_not, Bool.or_eq_true, Bool.and_eq_true, Bool.or_eq_false_iff, Bool.and_eq_false_imp, Bool.not_eq_true', Bool.not_eq_false', beq_iff_eq, beq_eq_false_iff_ne, bne_iff_ne, bne_eq_false_iff_eq, ne_eq, Bool.not_eq_eq_eq_not, Bool.not_true, Bool.not_false] at hZ) <;> (try (first | rw [(hZ : _ = false)] | rw [(hZ : _ = true)])) <;> skip)
      | (refine vdrG_split (fun hZ => ?_) (fun hZ => ?_) <;> (try rw [hZ]) <;> (try simp only [decide_eq_true_eq, decide_eq_false_iff_not, Bool.or_eq_true, Bool.and_eq_true, Bool.or_eq_false_iff, Bool.and_eq_false_imp, Bool.not_eq_true', Bool.not_eq_false', beq_iff_eq, beq_eq_false_iff_ne, bne_iff_ne, bne_eq_false_iff_eq, ne_eq, Bool.not_eq_eq_eq_not, Bool.not_true, Bool.not_false] at hZ) <;> (try (first | rw [(hZ : _ = false)] | rw [(hZ : _ = true)])) <;> skip)
      | (refine vc_pure (c1) rfl ?_; (try simp (config := { maxSteps := 2000000 }) (implicitDefEqProofs := false) (disch := first | omega | assumption | (simp only []; done) | fail) only [go_sem, V.splice, ↓reduceIte, Nat.reduceAdd, Nat.reduceBEq, Int.reduceAdd, Int.reduceBEq]))
      )
    all_goals first | rfl | contradiction
  rw [hv] at c1
  rw [if_neg (by decide)]
  replace hh := hh hv
  by_cases h1 : f + (es.length : Int) - 1 < n
  · rw [if_pos h1]
    simp (config := { maxSteps := 2000000 }) (implicitDefEqProofs := false) (disch := first | omega | assumption | (simp only []; done) | fail) only [go_sem, ↓reduceIte, Nat.reduceAdd, Nat.reduceBEq, Int.reduceAdd, Int.reduceBEq, Try.f35]
    skip
    repeat' (first
      | (refine vrunG_split (fun hZ => ?_) (fun hZ => ?_) <;> (try rw [hZ]) <;> (try simp only [decide_eq_true_eq, decide_eq_false_iff_not, Bool.or_eq_true, Bool.and_eq_true, Bool.or_eq_false_iff, Bool.and_eq_false_imp, Bool.not_eq_true', Bool.not_eq_false', beq_iff_eq, beq_eq_false_iff_ne, bne_iff_ne, bne_eq_false_iff_eq, ne_eq, Bool.not_eq_eq_eq_not, Bool.not_true, Bool.not_false] at hZ) <;> (try (first | rw [(hZ : _ = false)] | rw [(hZ : _ = true)])) <;> skip)
      | (refine vbr_split (fun hZ => ?_) (fun hZ => ?_) <;> (try rw [hZ]) <;> (try simp only [decide_eq_true_eq, decide_eq_false_iff_not, Bool.or_eq_true, Bool.and_eq_true, Bool.or_eq_false_iff, Bool.and_eq_false_imp, Bool.not_eq_true', Bool.not_eq_false', beq_iff_eq, beq_eq_false_iff_ne, bne_iff_ne, bne_eq_false_iff_eq, ne_eq, Bool.not_eq_eq_eq_not, Bool.not_true, Bool.not_false] at hZ) <;> (try (first | rw [(hZ : _ = false)] | rw [(hZ : _ = true)])) <;> skip)
      | (refine vdrG_split (fun hZ => ?_) (fun hZ => ?_) <;> (try rw [hZ]) <;> (try simp only [decide_eq_true_eq, decide_eq_false_iff_not, Bool.or_eq_true, Bool.and_eq_true, Bool.or_eq_false_iff, Bool.and_eq_false_imp, Bool.not_eq_true', Bool.not_eq_false', beq_iff_eq, beq_eq_false_iff_ne, bne_iff_ne, bne_eq_false_iff_eq, ne_eq, Bool.not_eq_eq_eq_not, Bool.not_true, Bool.not_false] at hZ) <;> (try (first | rw [(hZ : _ = false)] | rw [(hZ : _ = true)])) <;> skip)
      | (refine vc_pure (c1) rfl ?_; (try simp (config := { maxSteps := 2000000 }) (implicitDefEqProofs := false) (disch := first | omega | assumption | (simp only []; done) | fail) only [go_sem, ↓reduceIte, Nat.reduceAdd, Nat.reduceBEq, Int.reduceAdd, Int.reduceBEq]))
      | (refine vc_pure (c2 (by omega) (by omega)) rfl ?_; (try simp (config := { maxSteps := 2000000 }) (implicitDefEqProofs := false) (disch := first | omega | assumption | (simp only []; done) | fail) only [go_sem, V.splice, ↓reduceIte, Nat.reduceAdd, Nat.reduceBEq, Int.reduceAdd, Int.reduceBEq]))
      )
    all_goals first | rfl | contradiction | omega
  · rw [if_neg h1]
    simp (config := { maxSteps := 2000000 }) (implicitDefEqProofs := false) (disch := first | omega | assumption | (simp only []; done) | fail) only [go_sem, ↓reduceIte, Nat.reduceAdd, Nat.reduceBEq, Int.reduceAdd, Int.reduceBEq, Try.f35]
    skip
    repeat' (first
      | (refine vrunG_split (fun hZ => ?_) (fun hZ => ?_) <;> (try rw [hZ]) <;> (try simp only [decide_eq_true_eq, decide_eq_false_iff_not, Bool.or_eq_true, Bool.and_eq_true, Bool.or_eq_false_iff, Bool.and_eq_false_imp, Bool.not_eq_true', Bool.not_eq_false', beq_iff_eq, beq_eq_false_iff_ne, bne_iff_ne, bne_eq_false_iff_eq, ne_eq, Bool.not_eq_eq_eq_not, Bool.not_true, Bool.not_false] at hZ) <;> (try (first | rw [(hZ : _ = false)] | rw [(hZ : _ = true)])) <;> skip)
      | (refine vbr_split (fun hZ => ?_) (fun hZ => ?_) <;> (try rw [hZ]) <;> (try simp only [decide_eq_true_eq, decide_eq_false_iff_not, Bool.or_eq_true, Bool.and_eq_true, Bool.or_eq_false_iff, Bool.and_eq_false_imp, Bool.not_eq_true', Bool.not_eq_false', beq_iff_eq, beq_eq_false_iff_ne, bne_iff_ne, bne_eq_false_iff_eq, ne_eq, Bool.not_eq_eq_eq_not, Bool.not_true, Bool.not_false] at hZ) <;> (try (first | rw [(hZ : _ = false)] | rw [(hZ : _ = true)])) <;> skip)
      | (refine vdrG_split (fun hZ => ?_) (fun hZ => ?_) <;> (try rw [hZ]) <;> (try simp only [decide_eq_true_eq, decide_eq_false_iff_not, Bool.or_eq_true, Bool.and_eq_true, Bool.or_eq_false_iff, Bool.and_eq_false_imp, Bool.not_eq_true', Bool.not_eq_false', beq_iff_eq, beq_eq_false_iff_ne, bne_iff_ne, bne_eq_false_iff_eq, ne_eq, Bool.not_eq_eq_eq_not, Bool.not_true, Bool.not_false] at hZ) <;> (try (first | rw [(hZ : _ = false)] | rw [(hZ : _ = true)])) <;> skip)
      | (refine vc_pure (c1) rfl ?_; (try simp (config := { maxSteps := 2000000 }) (implicitDefEqProofs := false) (disch := first | omega | assumption | (simp only []; done) | fail) only [go_sem, ↓reduceIte, Nat.reduceAdd, Nat.reduceBEq, Int.reduceAdd, Int.reduceBEq]))
      | (refine vc_pure (c2 (by omega) (by omega)) rfl ?_; (try simp (config := { maxSteps := 2000000 }) (implicitDefEqProofs := false) (disch := first | omega | assumption | (simp only []; done) | fail) only [go_sem, V.splice, ↓reduceIte, reduceCtorEq, Nat.reduceAdd, Nat.reduceLT, Nat.reduceBEq, Int.reduceLT, Int.reduceAdd, Int.reduceBEq]))
      )

    all_goals first | rfl | contradiction | omega
set_option maxHeartbeats 4000000 in
theorem cut_v (x : Lg) (hx : x.es.length ≤ 9223372036854775807) (n : Int) : VCalls Try.prog 36 [.agg x.c, .int .i64 n] [] (Ret (lgD (cutS x n))) := by
  refine VCalls.unwk ?_
  refine vcalls_drop (fn := Try.f36) Try.func36 rfl (by kernel_rfl) (by simp [Try.f36]) ?_
  obtain ⟨f, es, d⟩ := x
  dsimp only at hx
  have c1 := jvalid_v ⟨f, es, d⟩ hx
  have c2 := jend_v ⟨f, es, d⟩
  have hh := @lgB_hd ⟨f, es, d⟩
  have e0 : cutS ⟨f, es, d⟩ n = if lgB ⟨f, es, d⟩ = false then (Lg0, 26) else if n < f ∨ f + es.length - 1 + 1 < n ∨ 1099511627776 < n then (Lg0, 1) else if d < n - 1 then (Lg0, 15) else (⟨n, es.drop (n - f).toNat, d⟩, 0) := rfl
  unfold Lg.hd at hh
  unfold Lg.end_ at c2
  unfold Lg.c at c1 c2 ⊢
  dsimp only at *
  rw [e0]
  cases hv : lgB ⟨f, es, d⟩
  · rw [hv] at c1
    simp (config := { maxSteps := 2000000 }) (implicitDefEqProofs := false) (disch := first | omega | assumption | (simp only []; done) | fail) only [go_sem, ↓reduceIte, Nat.reduceAdd, Nat.reduceBEq, Int.reduceAdd, Int.reduceBEq, Try.f36]
    skip
    repeat' (first
      | (refine vrunG_split (fun hZ => ?_) (fun hZ => ?_) <;> (try rw [hZ]) <;> (try simp only [decide_eq_true_eq, decide_eq_false_iff_not, Bool.or_eq_true, Bool.and_eq_true, Bool.or_eq_false_iff, Bool.and_eq_false_imp, Bool.not_eq_true', Bool.not_eq_false', beq_iff_eq, beq_eq_false_iff_ne, bne_iff_ne, bne_eq_false_iff_eq, ne_eq, Bool.not_eq_eq_eq_not, Bool.not_true, Bool.not_false] at hZ) <;> (try (first | rw [(hZ : _ = false)] | rw [(hZ : _ = true)])) <;> skip)
      | (refine vbr_split (fun hZ => ?_) (fun hZ => ?_) <;> (try rw [hZ]) <;> (try simp only [decide_eq_true_eq, decide_eq_false_iff_not, Bool.or_eq_true, Bool.and_eq_true, Bool.or_eq_false_iff, Bool.and_eq_false_imp, Bool.not_eq_true', Bool.not_eq_false', beq_iff_eq, beq_eq_false_iff_ne, bne_iff_ne, bne_eq_false_iff_eq, ne_eq, Bool.not_eq_eq_eq_not, Bool.not_true, Bool.not_false] at hZ) <;> (try (first | rw [(hZ : _ = false)] | rw [(hZ : _ = true)])) <;> skip)
      | (refine vdrG_split (fun hZ => ?_) (fun hZ => ?_) <;> (try rw [hZ]) <;> (try simp only [decide_eq_true_eq, decide_eq_false_iff_not, Bool.or_eq_true, Bool.and_eq_true, Bool.or_eq_false_iff, Bool.and_eq_false_imp, Bool.not_eq_true', Bool.not_eq_false', beq_iff_eq, beq_eq_false_iff_ne, bne_iff_ne, bne_eq_false_iff_eq, ne_eq, Bool.not_eq_eq_eq_not, Bool.not_true, Bool.not_false] at hZ) <;> (try (first | rw [(hZ : _ = false)] | rw [(hZ : _ = true)])) <;> skip)
      | (refine vc_pure (c1) rfl ?_; (try simp (config := { maxSteps := 2000000 }) (implicitDefEqProofs := false) (disch := first | omega | assumption | (simp only []; done) | fail) only [go_sem, V.splice, ↓reduceIte, Nat.reduceAdd, Nat.reduceBEq, Int.reduceAdd, Int.reduceBEq]))
      )
    all_goals first | rfl | contradiction
  rw [hv] at c1
  rw [if_neg (by decide)]
  replace hh := hh hv
  by_cases h1 : n < f ∨ f + (es.length : Int) - 1 + 1 < n ∨ 1099511627776 < n
  · rw [if_pos h1]
    simp (config := { maxSteps := 2000000 }) (implicitDefEqProofs := false) (disch := first | omega | assumption | (simp only []; done) | fail) only [go_sem, ↓reduceIte, Nat.reduceAdd, Nat.reduceBEq, Int.reduceAdd, Int.reduceBEq, Try.f36]
    skip
    repeat' (first
      | (refine vrunG_split (fun hZ => ?_) (fun hZ => ?_) <;> (try rw [hZ]) <;> (try simp only [decide_eq_true_eq, decide_eq_false_iff_not, Bool.or_eq_true, Bool.and_eq_true, Bool.or_eq_false_iff, Bool.and_eq_false_imp, Bool.not_eq_true', Bool.not_eq_false', beq_iff_eq, beq_eq_false_iff_ne, bne_iff_ne, bne_eq_false_iff_eq, ne_eq, Bool.not_eq_eq_eq_not, Bool.not_true, Bool.not_false] at hZ) <;> (try (first | rw [(hZ : _ = false)] | rw [(hZ : _ = true)])) <;> (try simp (config := { maxSteps := 2000000 }) (implicitDefEqProofs := false) (disch := first | omega | assumption | (simp only []; done) | fail) only [go_sem, V.splice, ↓reduceIte, Nat.reduceAdd, Nat.reduceBEq, Int.reduceAdd, Int.reduceBEq]))
      | (refine vbr_split (fun hZ => ?_) (fun hZ => ?_) <;> (try rw [hZ]) <;> (try simp only [decide_eq_true_eq, decide_eq_false_iff_not, Bool.or_eq_true, Bool.and_eq_true, Bool.or_eq_false_iff, Bool.and_eq_false_imp, Bool.not_eq_true', Bool.not_eq_false', beq_iff_eq, beq_eq_false_iff_ne, bne_iff_ne, bne_eq_false_iff_eq, ne_eq, Bool.not_eq_eq_eq_not, Bool.not_true, Bool.not_false] at hZ) <;> (try (first | rw [(hZ : _ = false)] | rw [(hZ : _ = true)])) <;> skip)
      | (refine vdrG_split (fun hZ => ?_) (fun hZ => ?_) <;> (try rw [hZ]) <;> (try simp only [decide_eq_true_eq, decide_eq_false_iff_not, Bool.or_eq_true, Bool.and_eq_true, Bool.or_eq_false_iff, Bool.and_eq_false_imp, Bool.not_eq_true', Bool.not_eq_false', beq_iff_eq, beq_eq_false_iff_ne, bne_iff_ne, bne_eq_false_iff_eq, ne_eq, Bool.not_eq_eq_eq_not, Bool.not_true, Bool.not_false] at hZ) <;> (try (first | rw [(hZ : _ = false)] | rw [(hZ : _ = true)])) <;> skip)
      | (refine vc_pure (c1) rfl ?_; (try simp (config := { maxSteps := 2000000 }) (implicitDefEqProofs := false) (disch := first | omega | assumption | (simp only []; done) | fail) only [go_sem, ↓reduceIte, reduceCtorEq, Nat.reduceBEq, Int.reduceBEq]))
      | (refine vc_pure (c2 (by omega) (by omega)) rfl ?_; (try simp (config := { maxSteps := 2000000 }) (implicitDefEqProofs := false) (disch := first | omega | assumption | (simp only []; done) | fail) only [go_sem, Nat.reduceBEq, Int.reduceBEq]))
      )
    all_goals first | rfl | contradiction | omega
  rw [if_neg h1]
  by_cases h2 : d < n - 1
  · rw [if_pos h2]
    simp (config := { maxSteps := 2000000 }) (implicitDefEqProofs := false) (disch := first | omega | assumption | (simp only []; done) | fail) only [go_sem, ↓reduceIte, Nat.reduceAdd, Nat.reduceBEq, Int.reduceAdd, Int.reduceBEq, Try.f36]
    skip
    repeat' (first
      | (refine vrunG_split (fun hZ => ?_) (fun hZ => ?_) <;> (try rw [hZ]) <;> (try simp only [decide_eq_true_eq, decide_eq_false_iff_not, Bool.or_eq_true, Bool.and_eq_true, Bool.or_eq_false_iff, Bool.and_eq_false_imp, Bool.not_eq_true', Bool.not_eq_false', beq_iff_eq, beq_eq_false_iff_ne, bne_iff_ne, bne_eq_false_iff_eq, ne_eq, Bool.not_eq_eq_eq_not, Bool.not_true, Bool.not_false] at hZ) <;> (try (first | rw [(hZ : _ = false)] | rw [(hZ : _ = true)])) <;> skip)
      | (refine vbr_split (fun hZ => ?_) (fun hZ => ?_) <;> (try rw [hZ]) <;> (try simp only [decide_eq_true_eq, decide_eq_false_iff_not, Bool.or_eq_true, Bool.and_eq_true, Bool.or_eq_false_iff, Bool.and_eq_false_imp, Bool.not_eq_true', Bool.not_eq_false', beq_iff_eq, beq_eq_false_iff_ne, bne_iff_ne, bne_eq_false_iff_eq, ne_eq, Bool.not_eq_eq_eq_not, Bool.not_true, Bool.not_false] at hZ) <;> (try (first | rw [(hZ : _ = false)] | rw [(hZ : _ = true)])) <;> skip)
      | (refine vdrG_split (fun hZ => ?_) (fun hZ => ?_) <;> (try rw [hZ]) <;> (try simp only [decide_eq_true_eq, decide_eq_false_iff_not, Bool.or_eq_true, Bool.and_eq_true, Bool.or_eq_false_iff, Bool.and_eq_false_imp, Bool.not_eq_true', Bool.not_eq_false', beq_iff_eq, beq_eq_false_iff_ne, bne_iff_ne, bne_eq_false_iff_eq, ne_eq, Bool.not_eq_eq_eq_not, Bool.not_true, Bool.not_false] at hZ) <;> (try (first | rw [(hZ : _ = false)] | rw [(hZ : _ = true)])) <;> skip)
      | (refine vc_pure (c1) rfl ?_; (try simp (config := { maxSteps := 2000000 }) (implicitDefEqProofs := false) (disch := first | omega | assumption | (simp only []; done) | fail) only [go_sem, ↓reduceIte, reduceCtorEq, Nat.reduceAdd, Nat.reduceBEq, Int.reduceAdd, Int.reduceBEq]))
      | (refine vc_pure (c2 (by omega) (by omega)) rfl ?_; (try simp (config := { maxSteps := 2000000 }) (implicitDefEqProofs := false) (disch := first | omega | assumption | (simp only []; done) | fail) only [go_sem, V.splice, ↓reduceIte, reduceCtorEq, Nat.reduceAdd, Nat.reduceBEq, Int.reduceAdd, Int.reduceBEq]))
      )
    all_goals first | rfl | contradiction | omega
  rw [if_neg h2]
  obtain ⟨k, hk⟩ : ∃ k : Nat, n = f + k := ⟨(n - f).toNat, by omega⟩
  subst hk
  rw [show (f + (k : Int) - f).toNat = k by omega]
  have c4 := cloneE_v (es.drop k) (by rw [List.length_drop]; omega)
  have hkl : k ≤ es.length := by omega
  have e1 : (f + (k : Int) - f) = k := by omega
  have hsl := slkE es 59 k es.length ⟨hkl, Nat.le_refl _⟩
  rw [List.take_length] at hsl
  simp (config := { maxSteps := 2000000 }) (implicitDefEqProofs := false) (disch := first | omega | assumption | (simp only []; done) | fail) only [go_sem, ↓reduceIte, Nat.reduceAdd, Nat.reduceBEq, Int.reduceAdd, Int.reduceBEq, Try.f36]
  skip
  repeat' (first
    | (refine vrunG_split (fun hZ => ?_) (fun hZ => ?_) <;> (try rw [hZ]) <;> (try simp only [decide_eq_true_eq, decide_eq_false_iff_not, Bool.or_eq_true, Bool.and_eq_true, Bool.or_eq_false_iff, Bool.and_eq_false_imp, Bool.not_eq_true', Bool.not_eq_false', beq_iff_eq, beq_eq_false_iff_ne, bne_iff_ne, bne_eq_false_iff_eq, ne_eq, Bool.not_eq_eq_eq_not, Bool.not_true, Bool.not_false] at hZ) <;> (try (first | rw [(hZ : _ = false)] | rw [(hZ : _ = true)])) <;> skip)
    | (refine vbr_split (fun hZ => ?_) (fun hZ => ?_) <;> (try rw [hZ]) <;> (try simp only [decide_eq_true_eq, decide_eq_false_iff_not, Bool.or_eq_true, Bool.and_eq_true, Bool.or_eq_false_iff, Bool.and_eq_false_imp, Bool.not_eq_true', Bool.not_eq_false', beq_iff_eq, beq_eq_false_iff_ne, bne_iff_ne, bne_eq_false_iff_eq, ne_eq, Bool.not_eq_eq_eq_not, Bool.not_true, Bool.not_false] at hZ) <;> (try (first | rw [(hZ : _ = false)] | rw [(hZ : _ = true)])) <;> skip)
    | (refine vdrG_split (fun hZ => ?_) (fun hZ => ?_) <;> (try rw [hZ]) <;> (try simp only [decide_eq_true_eq, decide_eq_false_iff_not, Bool.or_eq_true, Bool.and_eq_true, Bool.or_eq_false_iff, Bool.and_eq_false_imp, Bool.not_eq_true', Bool.not_eq_false', beq_iff_eq, beq_eq_false_iff_ne, bne_iff_ne, bne_eq_false_iff_eq, ne_eq, Bool.not_eq_eq_eq_not, Bool.not_true, Bool.not_false] at hZ) <;> (try (first | rw [(hZ : _ = false)] | rw [(hZ : _ = true)])) <;> skip)
    | (refine vc_new0 (c4) rfl (cells_nums _ _ _) ?_; (try simp (config := { maxSteps := 2000000 }) (implicitDefEqProofs := false) (disch := first | omega | assumption | (simp only []; done) | (simp only [List.length_drop] <;> omega) | fail) only [go_sem, V.splice, ↓reduceIte, reduceCtorEq, Nat.reduceAdd, Nat.reduceLT, Nat.reduceBEq, Int.reduceLT, Int.reduceAdd, Int.reduceBEq, frzE, List.length_drop, List.length_drop]))
    | (refine vc_pure (c1) rfl ?_; (try simp (config := { maxSteps := 2000000 }) (implicitDefEqProofs := false) (disch := first | omega | assumption | (simp only []; done) | fail) only [go_sem, ↓reduceIte, reduceCtorEq, Nat.reduceAdd, Nat.reduceBEq, Int.reduceAdd, Int.reduceBEq]))
    | (refine vc_pure (c2 (by omega) (by omega)) rfl ?_; (try simp (config := { maxSteps := 2000000 }) (implicitDefEqProofs := false) (disch := first | omega | assumption | (simp only []; done) | fail) only [go_sem, ↓reduceIte, reduceCtorEq, Nat.reduceBEq, Int.reduceBEq, e1, hsl, fz_len]))
    )

  all_goals first | rfl | contradiction | omega
end Go.Proofs.Ytjjjlkjhojdnnaa

namespace Go.Proofs.Ytjjjlkjhojdnnaa
open Go.V Go
set_option maxRecDepth 100000
set_option linter.unusedSimpArgs false

theorem pe : isPtr Try.prog 106 = true := by kernel_rfl
theorem cto : toU Try.prog 106 133 = true := by kernel_rfl
theorem cfr : frU Try.prog 133 106 108 = true := by kernel_rfl
theorem cob : Try.prog.cellsOf 108 = 2 := by kernel_rfl
theorem uok : ustrOk Try.prog 127 5 = true := by kernel_rfl
theorem noEscape_v (x : DV) (hp : Heap) : VCalls Try.prog 99 [x] hp fun r h' => r = x ∧ h' = hp :=
  vcalls_same Try.func99 (by kernel_rfl) (by kernel_rfl) rfl rfl

/-- A builder: fresh; used, and empty; used, with bytes. -/
def nilP : DV := .pv (.lit (.pointer none))
def bld (a b : DV) : Blk := ⟨108, true, [a, b]⟩
def bE : DV := .pv (.lit (.slice none 0 0))

theorem check0 : VCalls Try.prog 88 [.ptr 0 0] [bld nilP bE] (fun r h' => r = .tup [] ∧ h' = [bld (.ptr 0 0) bE]) := by
  refine vcalls_keep (fn := Try.f88) Try.func88 rfl (by kernel_rfl) (by simp [Try.f88]) ?_
  simp (config := { maxSteps := 2000000 }) (implicitDefEqProofs := false) (disch := first | omega | assumption | (simp only []; done) | fail) only [go_sem, ↓reduceIte, reduceCtorEq, Nat.reduceAdd, Nat.reduceBEq, Int.reduceAdd, Int.reduceBEq, Try.f88, bld, nilP, bE, ptrEq_eql pe, ptrEq_neq pe, convPtr_to cto, convPtr_from cfr, ofConst_ptr]
  refine (noEscape_v _ _).mono ?_
  rintro r h' ⟨rfl, rfl⟩
  simp (config := { maxSteps := 2000000 }) (implicitDefEqProofs := false) (disch := first | omega | assumption | (simp only []; done) | fail) only [go_sem, ↓reduceIte, reduceCtorEq, Nat.reduceAdd, Nat.reduceBEq, Int.reduceAdd, Int.reduceBEq, ptrEq_eql pe, ptrEq_neq pe, convPtr_to cto, convPtr_from cfr, cob, results_nil]

/-- The bytes of a builder. -/
def bufB (l : List UInt8) : Blk := ⟨5, true, cells encU l⟩
theorem check2 (l : List UInt8) : VCalls Try.prog 88 [.ptr 0 0] [bld (.ptr 0 0) (.own 1 1 0 l.length), bufB l] (fun r h' => r = .tup [] ∧ h' = [bld (.ptr 0 0) (.own 1 1 0 l.length), bufB l]) := by
  refine vcalls_keep (fn := Try.f88) Try.func88 rfl (by kernel_rfl) (by simp [Try.f88]) ?_
  simp (config := { maxSteps := 2000000 }) (implicitDefEqProofs := false) (disch := first | omega | assumption | (simp only []; done) | fail) only [go_sem, ↓reduceIte, reduceCtorEq, Nat.reduceAdd, Nat.reduceLT, Nat.reduceBEq, Int.reduceLT, Int.reduceAdd, Int.reduceBEq, Try.f88, bld, bufB, ptrEq_eql pe, ptrEq_neq pe, convPtr_to cto, convPtr_from cfr, ofConst_ptr, results_nil]

/-- WriteString, at a fresh builder. -/
theorem ws0 (s : List UInt8) (hs : s.length ≤ 1100000000) : VCalls Try.prog 74 [.ptr 0 0, .pv (.str s)] [bld nilP bE] (fun r h' => r = .tup [.int .i64 s.length, .pv (.lit .nilIface)] ∧ h' = [bld (.ptr 0 0) (.own 1 1 0 s.length), bufB s]) := by
  refine vcalls_keep (fn := Try.f74) Try.func74 rfl (by kernel_rfl) (by simp [Try.f74]) ?_
  simp (config := { maxSteps := 2000000 }) (implicitDefEqProofs := false) (disch := first | omega | assumption | (simp only []; done) | fail) only [go_sem, Nat.reduceAdd, Nat.reduceBEq, Int.reduceAdd, Int.reduceBEq, Try.f74, bld, nilP, bE, ptrEq_eql pe, ptrEq_neq pe, convPtr_to cto, convPtr_from cfr, ofConst_nilIface]
  refine check0.mono ?_
  rintro r h' ⟨rfl, rfl⟩
  have hs2 : s.length ≤ 140737488355328 := by omega
  simp (config := { maxSteps := 2000000 }) (implicitDefEqProofs := false) (disch := first | omega | assumption | (simp only []; done) | fail) only [go_sem, ↓reduceIte, reduceCtorEq, Nat.reduceAdd, Nat.reduceLT, Nat.reduceBEq, Int.reduceLT, Int.reduceAdd, Int.reduceBEq, bld, bE, ptrEq_eql pe, ptrEq_neq pe, convPtr_to cto, convPtr_from cfr, ofConst_nilIface, hs2, bufB, cellsU]

/-- WriteByte. -/
theorem wb_v (l : List UInt8) (b : UInt8) (hl : l.length ≤ 1100000000) : VCalls Try.prog 75 [.ptr 0 0, .int .u8 b.toNat] [bld (.ptr 0 0) (.own 1 1 0 l.length), bufB l] (fun r h' => r = .pv (.lit .nilIface) ∧ h' = [bld (.ptr 0 0) (.own 3 1 0 (l ++ [b]).length), ⟨5, false, []⟩, bufB [b], bufB (l ++ [b])]) := by
  refine vcalls_keep (fn := Try.f75) Try.func75 rfl (by kernel_rfl) (by simp [Try.f75]) ?_
  simp (config := { maxSteps := 2000000 }) (implicitDefEqProofs := false) (disch := first | omega | assumption | (simp only []; done) | fail) only [go_sem, Nat.reduceAdd, Nat.reduceBEq, Int.reduceAdd, Int.reduceBEq, Try.f75, bld, bufB, ptrEq_eql pe, ptrEq_neq pe, convPtr_to cto, convPtr_from cfr, ofConst_nilIface]
  refine (check2 l).mono ?_
  rintro r h' ⟨rfl, rfl⟩
  have hs2 : l.length + 1 ≤ 140737488355328 := by omega
  simp (config := { maxSteps := 2000000 }) (implicitDefEqProofs := false) (disch := first | omega | assumption | (simp only []; done) | fail) only [go_sem, V.splice, V.mk, ↓reduceIte, reduceCtorEq, Nat.reduceAdd, Nat.reduceLT, Nat.reduceLeDiff, Nat.reduceBEq, Int.reduceLT, Int.reduceAdd, Int.reduceBEq, bld, bufB, ptrEq_eql pe, ptrEq_neq pe, convPtr_to cto, convPtr_from cfr, ofConst_nilIface, hs2]
  have e1 : (cells encU l).take l.length = cells encU l := by rw [List.take_of_length_le]; rw [cellsU_len]; exact Nat.le_refl _
  rw [e1, cells_app, List.length_append]
  rfl

theorem str_v (l : List UInt8) (hl : l.length ≤ 1100000000) (h0 : 0 < l.length) : VCalls Try.prog 76 [.ptr 0 0] [bld (.ptr 0 0) (.own 1 1 0 l.length), bufB l] (fun r h' => r = .pv (.str l) ∧ h' = [bld (.ptr 0 0) (.own 1 1 0 l.length), ⟨5, false, []⟩]) := by
  refine vcalls_keep (fn := Try.f76) Try.func76 rfl (by kernel_rfl) (by simp [Try.f76]) ?_
  simp (config := { maxSteps := 2000000 }) (implicitDefEqProofs := false) (disch := first | omega | assumption | (simp only []; done) | fail) only [go_sem, Nat.reduceAdd, Int.reduceAdd, Try.f76, bld, bufB, ptrEq_eql pe, ptrEq_neq pe, convPtr_to cto, convPtr_from cfr]
  refine vspine (id := 1) [0, 1, 2, 3, 5, 6, 7, 8, 9] [⟨[], [], 4, [0, 1, 2, 5, 6, 7, 8, 9], []⟩, ⟨[], [], 10, [0, 1, 2, 3, 5, 6, 7, 8], []⟩, ⟨[], [], 11, [], []⟩] (by kernel_rfl) (by kernel_rfl) ?_
  have hu := ustr_eq (P := Try.prog) (hp := [bld (.ptr 0 0) (.own 1 1 0 l.length), bufB l]) (k := 1) (n := l.length) uok rfl rfl h0 (by omega)
  simp only [bld, bufB] at hu
  simp (config := { maxSteps := 2000000 }) (implicitDefEqProofs := false) (disch := first | omega | assumption | (simp only []; done) | fail) only [go_sem, ↓reduceIte, reduceCtorEq, Nat.reduceLT, Nat.reduceBEq, Int.reduceLT, Int.reduceBEq, ptrEq_eql pe, ptrEq_neq pe, convPtr_to cto, convPtr_from cfr, sdata_own h0, hu]
/-- String, of a builder in which nothing was written. -/
theorem str0_v : VCalls Try.prog 76 [.ptr 0 0] [bld nilP bE] (fun r h' => r = .pv (.str []) ∧ h' = [bld nilP bE]) := by
  refine vcalls_keep (fn := Try.f76) Try.func76 rfl (by kernel_rfl) (by simp [Try.f76]) ?_
  simp (config := { maxSteps := 2000000 }) (implicitDefEqProofs := false) (disch := first | omega | assumption | (simp only []; done) | fail) only [go_sem, Try.f76, bld, nilP, bE, ptrEq_eql pe, ptrEq_neq pe, convPtr_to cto, convPtr_from cfr]
  refine vspine (id := 1) [0, 1, 2, 3, 5, 6, 7, 8, 9] [⟨[], [], 4, [0, 1, 2, 5, 6, 7, 8, 9], []⟩, ⟨[], [], 10, [0, 1, 2, 3, 5, 6, 7, 8], []⟩, ⟨[], [], 11, [], []⟩] (by kernel_rfl) (by kernel_rfl) ?_
  simp (config := { maxSteps := 2000000 }) (implicitDefEqProofs := false) (disch := first | omega | assumption | (simp only []; done) | fail) only [go_sem, ↓reduceIte, reduceCtorEq, Nat.reduceLT, Nat.reduceBEq, Int.reduceLT, Int.reduceBEq, ptrEq_eql pe, ptrEq_neq pe, convPtr_to cto, convPtr_from cfr]
end Go.Proofs.Ytjjjlkjhojdnnaa

namespace Go.Proofs.Ytjjjlkjhojdnnaa
open Go.V Go
set_option maxRecDepth 100000
set_option linter.unusedSimpArgs false

/-- A byte of a number. -/
def byteX (n : Int) (i : Nat) : Int := IntKind.u8.wrap ((IntKind.u64.wrap n).fdiv (2 ^ min (8 * (i : Int)).toNat 64))
def byteI (n : Int) (i : Nat) : UInt8 := UInt8.ofNat (byteX n i).toNat
theorem wrap_u8_eq (x : Int) : IntKind.u8.wrap x = x % 256 := by
  simp [IntKind.wrap, IntKind.signed, IntKind.bits]
theorem byteI_eq (n : Int) (i : Nat) : byteX n i = ((byteI n i).toNat : Int) := by
  unfold byteI byteX
  rw [wrap_u8_eq]
  generalize (IntKind.u64.wrap n).fdiv (2 ^ min (8 * (i : Int)).toNat 64) = y
  simp only [UInt8.toNat_ofNat']
  omega
def putL (s : List UInt8) (n : Int) (k : Nat) : List UInt8 := s ++ (List.range k).map (byteI n)

theorem putL_len (s : List UInt8) (n : Int) (k : Nat) : (putL s n k).length = s.length + k := by simp [putL]
theorem putL_succ (s : List UInt8) (n : Int) (k : Nat) : putL s n (k + 1) = putL s n k ++ [byteI n k] := by simp [putL, List.range_succ]

set_option maxHeartbeats 1000000 in
theorem put_v (s : List UInt8) (hs : s.length ≤ 1000000000) (n : Int) (k : Nat) (h1 : 1 ≤ k) (h8 : k ≤ 8) : VCalls Try.prog 50 [.pv (.str s), .int .i64 n, .int .i64 k] [] (Ret (.pv (.str (putL s n k)))) := by
  refine vcalls_drop (fn := Try.f50) Try.func50 rfl (by kernel_rfl) (by simp [Try.f50]) ?_
  simp (config := { maxSteps := 2000000 }) (implicitDefEqProofs := false) (disch := first | omega | assumption | (simp only []; done) | fail) only [go_sem, ↓reduceIte, Nat.reduceAdd, Nat.reduceBEq, Int.reduceAdd, Int.reduceBEq, Try.f50]
  refine (ws0 s (by omega)).mono ?_
  rintro r h' ⟨rfl, rfl⟩
  simp (config := { maxSteps := 2000000 }) (implicitDefEqProofs := false) (disch := first | omega | assumption | (simp only []; done) | fail) only [go_sem, Nat.reduceBEq, Int.reduceBEq, bld]
  refine vloopW (fun i : {i : Nat // i ≤ k} => ⟨31, 0, [(19, .int .i64 i.1), (18, .int .i64 k), (7, .ptr 0 0), (1, .int .i64 n)], [bld (.ptr 0 0) (.own 1 1 0 (putL s n i.1).length), bufB (putL s n i.1)]⟩) (fun i => k - i.1) ⟨0, by omega⟩ (.inl (by simpa only [putL, List.range_zero, List.map_nil, List.append_nil] using (by refine ⟨rfl, rfl, by simp, ?_, ?_, .inr ⟨?_, ?_⟩⟩ <;> (repeat' apply And.intro) <;> first | rfl | trivial | (intro _; first | rfl | apply cells_refs)))) ?_
  intro i
  obtain ⟨i, hi⟩ := i
  dsimp only
  simp (config := { maxSteps := 2000000 }) (implicitDefEqProofs := false) (disch := first | omega | assumption | (simp only []; done) | fail) only [go_sem, Nat.reduceBEq, Int.reduceBEq, bld, bufB]
  refine vbr_split (fun hc => ?_) (fun hc => ?_) <;> simp only [decide_eq_true_eq, decide_eq_false_iff_not, Bool.or_eq_true, Bool.and_eq_true, Bool.or_eq_false_iff, Bool.and_eq_false_imp, Bool.not_eq_true', Bool.not_eq_false', beq_iff_eq, beq_eq_false_iff_ne, bne_iff_ne, bne_eq_false_iff_eq, ne_eq] at hc
  · simp (config := { maxSteps := 2000000 }) (implicitDefEqProofs := false) (disch := first | omega | assumption | (simp only []; done) | fail) only [go_sem, Nat.reduceBEq, Int.reduceBEq]
    have hw := wb_v (putL s n i) (byteI n i) (by rw [putL_len]; omega)
    rw [← byteI_eq] at hw
    refine hw.mono ?_
    rintro r h' ⟨rfl, rfl⟩
    simp (config := { maxSteps := 2000000 }) (implicitDefEqProofs := false) (disch := first | omega | assumption | (simp only []; done) | fail) only [go_sem, Nat.reduceBEq, Int.reduceBEq, bld, bufB]
    refine ⟨⟨i + 1, by omega⟩, by show k - (i + 1) < k - i; omega, ?_⟩
    rw [putL_succ]
    refine gc_of (keep := [0, 3]) rfl rfl rfl (by decide) ⟨⟨_, rfl, rfl, rfl, .inr ⟨rfl, rfl⟩⟩, ⟨_, rfl, rfl, rfl, .inl ⟨?_, rfl⟩⟩, trivial⟩ ?_
    · show DV.nums.go _ (cells encU _) = true
      exact cells_nums _ _ _
    · refine ⟨⟨rfl, rfl⟩, ⟨rfl, rfl⟩, ⟨rfl, rfl⟩, ⟨rfl, rfl⟩, trivial⟩
  · simp (config := { maxSteps := 2000000 }) (implicitDefEqProofs := false) (disch := first | omega | assumption | (simp only []; done) | fail) only [go_sem, ↓reduceIte, Nat.reduceLT, Nat.reduceBEq, Int.reduceLT, Int.reduceBEq]
    have hik : i = k := by omega
    subst hik
    refine (str_v (putL s n i) (by rw [putL_len]; omega) (by rw [putL_len]; omega)).mono ?_
    rintro r h' ⟨rfl, rfl⟩
    simp (config := { maxSteps := 2000000 }) (implicitDefEqProofs := false) (disch := first | omega | assumption | (simp only []; done) | fail) only [go_sem]

end Go.Proofs.Ytjjjlkjhojdnnaa

namespace Go.Proofs.Ytjjjlkjhojdnnaa
open Go.V Go
set_option maxRecDepth 100000
set_option linter.unusedSimpArgs false


def tc (l : List Int) : List DV := l.map (DV.int .u32)
theorem tc_len (l : List Int) : (tc l).length = l.length := by simp [tc]
theorem tc_get (l : List Int) (i : Nat) (h : i < l.length) : (tc l)[i]? = some (.int .u32 (l.getD i 0)) := by
  rw [tc, List.getElem?_map, List.getD_eq_getElem?_getD, List.getElem?_eq_getElem h]; rfl
theorem tc_set (l : List Int) (i : Nat) (n : Int) : (tc l).set i (.pv (.lit (.int .u32 n))) = tc (l.set i n) := by rw [tc, tc, List.map_set]
theorem tc_nums (p : Nat → Bool) (l : List Int) : DV.nums.go p (tc l) = true := by
  induction l with
  | nil => rfl
  | cons a l ih => simpa [tc, DV.nums.go, DV.nums] using ih
theorem tc_refs (n : Nat) (l : List Int) : DV.refs.go n (tc l) = true := by
  induction l with
  | nil => rfl
  | cons a l ih => simpa [tc, DV.refs.go, DV.refs] using ih

theorem tc_one (l : List Int) : allOne (tc l) = true := by
  induction l with
  | nil => rfl
  | cons a l ih => simpa [tc, allOne, DV.one] using ih

theorem tc_frz (n : Nat) (hp : Heap) (l : List Int) : allSome ((tc l).map (frz1 n hp)) = some (tc l) := by
  have e : tc l = (l.map fun n => PV.lit (.int .u32 n)).map DV.pv := by rw [tc, List.map_map]; rfl
  rw [e]; exact pvs_frz n hp _

def rnd (r : Int) : Int := if bits .and .u32 r 1 = 1 then bits .xor .u32 (r.fdiv 2) 2197175160 else r.fdiv 2
def rndN : Nat → Int → Int
  | 0, r => r
  | n + 1, r => rnd (rndN n r)
def rem16 (i : Nat) : Int := rndN 4 i
def tabN (i : Nat) : List Int := (List.range 16).map fun j => if j < i then rem16 j else 0
theorem tabN_len (i : Nat) : (tabN i).length = 16 := by simp [tabN]

theorem tabN_succ (i : Nat) (h : i < 16) : (tabN i).set i (rem16 i) = tabN (i + 1) := by
  apply List.ext_getElem?
  intro j
  rw [List.getElem?_set]
  by_cases hij : i = j
  · subst hij
    rw [if_pos rfl, if_pos (by rw [tabN_len]; exact h)]
    simp [tabN, h]
  · rw [if_neg hij]
    simp only [tabN, List.getElem?_map]
    by_cases hj : j < 16
    · rw [List.getElem?_range hj]
      simp only [Option.map_some]
      by_cases h1 : j < i
      · rw [if_pos h1, if_pos (by omega)]
      · rw [if_neg h1, if_neg (by omega)]
    · rw [List.getElem?_eq_none (by simp; omega)]
      rfl

set_option maxHeartbeats 1000000 in
theorem remainders_v : VCalls Try.prog 105 [] [] (Ret (.agg (tc (tabN 16)))) := by
  refine vcalls_drop (fn := Try.f105) Try.func105 rfl (by kernel_rfl) (by simp [Try.f105]) ?_
  simp (config := { maxSteps := 2000000 }) (implicitDefEqProofs := false) (disch := first | omega | assumption | (simp only []; done) | fail) only [go_sem, ↓reduceIte, Try.f105]
  refine vloop (fun i : {i : Nat // i ≤ 16} => ⟨25, 0, [(4, .int .i64 i.1), (1, .ptr 1 0), (0, .ptr 0 0)], [⟨139, true, tc (tabN 0)⟩, ⟨139, true, tc (tabN i.1)⟩]⟩) (fun i => 16 - i.1) ⟨0, by omega⟩ (by refine ⟨rfl, rfl, by simp, ?_, ?_, .inl rfl⟩ <;> (repeat' apply And.intro) <;> first | rfl | trivial) ?_
  intro i
  obtain ⟨i, hi⟩ := i
  dsimp only
  simp (config := { maxSteps := 2000000 }) (implicitDefEqProofs := false) (disch := first | omega | assumption | (simp only []; done) | fail) only [go_sem]
  refine vbr_split (fun hc => ?_) (fun hc => ?_) <;> simp only [decide_eq_true_eq, decide_eq_false_iff_not, Bool.or_eq_true, Bool.and_eq_true, Bool.or_eq_false_iff, Bool.and_eq_false_imp, Bool.not_eq_true', Bool.not_eq_false', beq_iff_eq, beq_eq_false_iff_ne, bne_iff_ne, bne_eq_false_iff_eq, ne_eq] at hc
  · have hw : IntKind.u32.wrap (i : Int) = (i : Int) := by simp [IntKind.wrap, IntKind.signed, IntKind.bits]; omega
    simp (config := { maxSteps := 2000000 }) (implicitDefEqProofs := false) (disch := first | omega | assumption | (simp only []; done) | fail) only [go_sem, Nat.reduceBEq, Int.reduceBEq, hw]
    refine vloop (fun j : {j : Nat // j ≤ 4} => ⟨25, 0, [(9, .int .i64 j.1), (2, .int .i64 i), (3, .int .u32 (rndN j.1 i)), (4, .int .i64 i), (1, .ptr 1 0), (0, .ptr 0 0)], [⟨139, true, tc (tabN 0)⟩, ⟨139, true, tc (tabN i)⟩]⟩) (fun j => 4 - j.1) ⟨0, by omega⟩ (by refine ⟨rfl, rfl, by simp, ?_, ?_, .inl rfl⟩ <;> (repeat' apply And.intro) <;> first | rfl | trivial) ?_
    intro j
    obtain ⟨j, hj⟩ := j
    dsimp only
    simp (config := { maxSteps := 2000000 }) (implicitDefEqProofs := false) (disch := first | omega | assumption | (simp only []; done) | fail) only [go_sem]
    refine vbr_split (fun hcj => ?_) (fun hcj => ?_) <;> simp only [decide_eq_true_eq, decide_eq_false_iff_not, Bool.or_eq_true, Bool.and_eq_true, Bool.or_eq_false_iff, Bool.and_eq_false_imp, Bool.not_eq_true', Bool.not_eq_false', beq_iff_eq, beq_eq_false_iff_ne, bne_iff_ne, bne_eq_false_iff_eq, ne_eq] at hcj
    · simp (config := { maxSteps := 2000000 }) (implicitDefEqProofs := false) (disch := first | omega | assumption | (simp only []; done) | fail) only [go_sem, Nat.reduceBEq, Int.reduceBEq]
      refine vbr_split (fun hb => ?_) (fun hb => ?_) <;> simp only [decide_eq_true_eq, decide_eq_false_iff_not, Bool.or_eq_true, Bool.and_eq_true, Bool.or_eq_false_iff, Bool.and_eq_false_imp, Bool.not_eq_true', Bool.not_eq_false', beq_iff_eq, beq_eq_false_iff_ne, bne_iff_ne, bne_eq_false_iff_eq, ne_eq] at hb
      · simp (config := { maxSteps := 2000000 }) (implicitDefEqProofs := false) (disch := first | omega | assumption | (simp only []; done) | fail) only [go_sem, Nat.reduceBEq, Int.reduceToNat, Int.reduceBEq]
        refine ⟨⟨j + 1, by omega⟩, by show 4 - (j + 1) < 4 - j; omega, ?_⟩
        have e : rndN (j + 1) i = bits .xor .u32 ((rndN j i).fdiv 2) 2197175160 := by rw [rndN, rnd, if_pos hb]
        rw [e]
        exact (by refine ⟨rfl, rfl, by simp, ?_, ?_, .inr ⟨?_, ?_⟩⟩ <;> (repeat' apply And.intro) <;> first | rfl | trivial | (intro _; first | rfl | apply cells_refs | apply tc_refs))
      · simp (config := { maxSteps := 2000000 }) (implicitDefEqProofs := false) (disch := first | omega | assumption | (simp only []; done) | fail) only [go_sem, Nat.reduceBEq, Int.reduceToNat, Int.reduceBEq]
        refine ⟨⟨j + 1, by omega⟩, by show 4 - (j + 1) < 4 - j; omega, ?_⟩
        have e : rndN (j + 1) i = (rndN j i).fdiv 2 := by rw [rndN, rnd, if_neg hb]
        rw [e]
        exact (by refine ⟨rfl, rfl, by simp, ?_, ?_, .inr ⟨?_, ?_⟩⟩ <;> (repeat' apply And.intro) <;> first | rfl | trivial | (intro _; first | rfl | apply cells_refs | apply tc_refs))
    · have hj4 : j = 4 := by omega
      subst hj4
      have hl : i < (tc (tabN i)).length := by rw [tc_len, tabN_len]; omega
      have hs : (tc (tabN i)).set i (.pv (.lit (.int .u32 (rndN 4 i)))) = tc (tabN (i + 1)) := by rw [tc_set, ← tabN_succ i (by omega)]; rfl
      simp (config := { maxSteps := 2000000 }) (implicitDefEqProofs := false) (disch := first | omega | assumption | (simp only []; done) | fail) only [go_sem, ↓reduceIte, Nat.reduceBEq, Int.reduceBEq, hl, hs]
      exact ⟨⟨i + 1, by omega⟩, by show 16 - (i + 1) < 16 - i; omega, (by refine ⟨rfl, rfl, by simp, ?_, ?_, .inr ⟨?_, ?_⟩⟩ <;> (repeat' apply And.intro) <;> first | rfl | trivial | (intro _; first | rfl | apply cells_refs | apply tc_refs))⟩
  · have hi16 : i = 16 := by omega
    subst hi16
    have ht : (tc (tabN 16)).take 16 = tc (tabN 16) := List.take_of_length_le (by rw [tc_len, tabN_len]; omega)
    have hd : (tc (tabN 0)).drop 16 = [] := List.drop_of_length_le (by rw [tc_len, tabN_len]; omega)
    simp (config := { maxSteps := 2000000 }) (implicitDefEqProofs := false) (disch := first | omega | assumption | (simp only []; done) | fail) only [go_sem, V.splice, ↓reduceIte, Nat.reduceLT, Nat.reduceBEq, Int.reduceLT, Int.reduceBEq, tc_len, tabN_len, tc_nums, ht, hd, tc_one, tc_frz]

def half (r : Int) : Int := bits .xor .u32 (r.fdiv (2 ^ min 4 32)) ((tabN 16).getD (bits .and .u32 r 15).toNat 0)
theorem and15 (r : Int) : 0 ≤ bits .and .u32 r 15 ∧ bits .and .u32 r 15 < 16 := by
  have h : bits .and .u32 r 15 = ((BitVec.ofInt 32 r &&& 15#32).toNat : Int) := by
    show IntKind.u32.wrap ((BitVec.ofInt 32 r &&& BitVec.ofInt 32 15).toNat) = _
    have hw : ∀ b : BitVec 32, IntKind.u32.wrap (b.toNat : Int) = (b.toNat : Int) := fun b => by
      have := b.isLt
      simp [IntKind.wrap, IntKind.signed, IntKind.bits]; omega
    exact hw _
  rw [h]
  have : (BitVec.ofInt 32 r &&& 15#32).toNat ≤ 15 := by rw [BitVec.toNat_and]; exact Nat.and_le_right
  omega
def byte1 (r : Int) (b : UInt8) : Int := half (half (bits .xor .u32 r (IntKind.u32.wrap b.toNat)))
def sumR (s : List UInt8) : Int := s.foldl byte1 4294967295
def sumX (s : List UInt8) : Int := bits .xor .u32 4294967295 (sumR s)
theorem sumR_succ (s : List UInt8) (i : Nat) (h : i < s.length) : sumR (s.take (i + 1)) = byte1 (sumR (s.take i)) (s.getD i 0) := by
  rw [sumR, List.take_succ_eq_append_getElem h, List.foldl_append]
  rw [List.getD_eq_getElem?_getD, List.getElem?_eq_getElem h]; rfl

set_option maxHeartbeats 1000000 in
theorem sum_v (s : List UInt8) (hs : s.length ≤ 100000000) : VCalls Try.prog 101 [.pv (.str s)] [] (Ret (.int .u32 (sumX s))) := by
  refine vcalls_drop (fn := Try.f101) Try.func101 rfl (by kernel_rfl) (by simp [Try.f101]) ?_
  simp (config := { maxSteps := 2000000 }) (implicitDefEqProofs := false) (disch := first | omega | assumption | (simp only []; done) | fail) only [go_sem, Try.f101]
  refine vc_pure remainders_v rfl ?_
  simp (config := { maxSteps := 2000000 }) (implicitDefEqProofs := false) (disch := first | omega | assumption | (simp only []; done) | fail) only [go_sem, V.splice, ↓reduceIte, Nat.reduceAdd, Nat.reduceBEq, Int.reduceAdd, Int.reduceBEq, tc_len, tabN_len, tc_one]
  refine vloop (fun i : {i : Nat // i ≤ s.length} => ⟨35, 0, [(9, .int .i64 i.1), (8, .int .i64 s.length), (4, .int .u32 (sumR (s.take i.1))), (3, .ptr 0 0), (0, .pv (.str s))], [⟨139, true, tc (tabN 16)⟩]⟩) (fun i => s.length - i.1) ⟨0, by omega⟩ (by refine ⟨rfl, rfl, by simp, ?_, ?_, .inl rfl⟩ <;> (repeat' apply And.intro) <;> first | rfl | trivial) ?_
  intro i
  obtain ⟨i, hi⟩ := i
  dsimp only
  simp (config := { maxSteps := 2000000 }) (implicitDefEqProofs := false) (disch := first | omega | assumption | (simp only []; done) | fail) only [go_sem, Nat.reduceBEq, Int.reduceBEq]
  refine vbr_split (fun hc => ?_) (fun hc => ?_) <;> simp only [decide_eq_true_eq, decide_eq_false_iff_not, Bool.or_eq_true, Bool.and_eq_true, Bool.or_eq_false_iff, Bool.and_eq_false_imp, Bool.not_eq_true', Bool.not_eq_false', beq_iff_eq, beq_eq_false_iff_ne, bne_iff_ne, bne_eq_false_iff_eq, ne_eq] at hc
  · have hlt : i < s.length := by omega
    have hg : s[i]? = some (s.getD i 0) := by rw [List.getD_eq_getElem?_getD, List.getElem?_eq_getElem hlt]; rfl
    have a1 := and15 (bits .xor .u32 (sumR (s.take i)) (IntKind.u32.wrap (s.getD i 0).toNat))
    have a2 := and15 (half (bits .xor .u32 (sumR (s.take i)) (IntKind.u32.wrap (s.getD i 0).toNat)))
    have t1 := tc_get (tabN 16) (bits .and .u32 (bits .xor .u32 (sumR (s.take i)) (IntKind.u32.wrap (s.getD i 0).toNat)) 15).toNat (by rw [tabN_len]; omega)
    have t2 := tc_get (tabN 16) (bits .and .u32 (half (bits .xor .u32 (sumR (s.take i)) (IntKind.u32.wrap (s.getD i 0).toNat))) 15).toNat (by rw [tabN_len]; omega)
    have hh : ∀ r, bits .xor .u32 (r.fdiv (2 ^ min 4 32)) ((tabN 16).getD (bits .and .u32 r 15).toNat 0) = half r := fun _ => rfl
    simp (config := { maxSteps := 2000000 }) (implicitDefEqProofs := false) (disch := first | omega | assumption | (simp only []; done) | fail) only [go_sem, Nat.reduceBEq, Int.reduceToNat, Int.reduceBEq, hg, t1, t2, hh]
    refine ⟨⟨i + 1, hlt⟩, by show s.length - (i + 1) < s.length - i; omega, ?_⟩
    rw [sumR_succ s i hlt]
    exact (by refine ⟨rfl, rfl, by simp, ?_, ?_, .inr ⟨?_, ?_⟩⟩ <;> (repeat' apply And.intro) <;> first | rfl | trivial | (intro _; first | rfl | apply cells_refs | apply tc_refs))
  · simp (config := { maxSteps := 2000000 }) (implicitDefEqProofs := false) (disch := first | omega | assumption | (simp only []; done) | fail) only [go_sem, ↓reduceIte, Nat.reduceLT, Nat.reduceBEq, Int.reduceLT, Int.reduceBEq]
    rw [List.take_of_length_le (by omega)]
    rfl

theorem rnd_b (x : BitVec 32) : rnd (x.toNat : Int) = ((rb x).toNat : Int) := by
  have h1 : bits .and .u32 (x.toNat : Int) 1 = ((x &&& 1#32).toNat : Int) := and32 x 1#32
  have h2 : (x.toNat : Int).fdiv 2 = ((x >>> 1).toNat : Int) := shr32 x 1
  have h3 : (x &&& 1#32).toNat = x.toNat % 2 := by rw [BitVec.toNat_and]; exact Nat.and_one_is_mod _
  have h4 : x.getLsbD 0 = decide (x.toNat % 2 = 1) := by simp [BitVec.getLsbD, Nat.testBit_zero]
  unfold rnd rb
  rw [h1, h2, h3, h4]
  by_cases h : x.toNat % 2 = 1
  · rw [if_pos (by omega), if_pos (by simpa using h)]
    exact xor32 _ polyB
  · rw [if_neg (by omega), if_neg (by simpa using h)]; simp
theorem rndN_b (n : Nat) (x : BitVec 32) : rndN n (x.toNat : Int) = ((rbN n x).toNat : Int) := by
  induction n with
  | zero => rfl
  | succ n ih => rw [rndN, ih, rnd_b]; rfl

theorem half_b (x : BitVec 32) : half (x.toNat : Int) = ((rbN 4 x).toNat : Int) := by
  have h1 : bits .and .u32 (x.toNat : Int) 15 = ((x &&& 15#32).toNat : Int) := and32 x 15#32
  have h15 : (x &&& 15#32).toNat < 16 := by rw [BitVec.toNat_and]; exact Nat.lt_succ_of_le Nat.and_le_right
  have h2 : (tabN 16).getD (x &&& 15#32).toNat 0 = ((rbN 4 (x &&& 15#32)).toNat : Int) := by
    rw [← rndN_b]
    simp only [tabN, List.getD_eq_getElem?_getD, List.getElem?_map, List.getElem?_range h15, Option.map_some, Option.getD_some, rem16]
    rw [if_pos h15]
  have h3 : (x.toNat : Int).fdiv (2 ^ min 4 32) = ((x >>> 4).toNat : Int) := shr32 x 4
  have e1 : x = (x &&& 15#32) ^^^ ((x >>> 4) <<< 4) := by
    apply BitVec.eq_of_getLsbD_eq
    intro i hi
    rw [BitVec.getLsbD_xor, BitVec.getLsbD_and, BitVec.getLsbD_shiftLeft, BitVec.getLsbD_ushiftRight]
    by_cases h : i < 4
    · have h15 : (15#32).getLsbD i = true := by
        rcases i with _ | _ | _ | _ | i <;> first | rfl | omega
      simp [h15, h]
    · have h15 : (15#32).getLsbD i = false := by
        have : (15#32).getLsbD i = (15 : Nat).testBit i := by simp [BitVec.getLsbD]
        rw [this]; apply Nat.testBit_lt_two_pow
        exact Nat.lt_of_lt_of_le (show 15 < 2 ^ 4 by omega) (Nat.pow_le_pow_right (by omega) (by omega))
      rw [h15]; simp [h, hi, show 4 + (i - 4) = i by omega]
  have e2 : rbN 4 x = rbN 4 (x &&& 15#32) ^^^ (x >>> 4) := by
    have hs : rbN 4 ((x >>> 4) <<< 4) = x >>> 4 := shl_low _ _ (fun i hi => by rw [BitVec.getLsbD_ushiftRight]; exact BitVec.getLsbD_of_ge _ _ (by omega)) (by omega)
    conv => lhs; rw [e1]
    rw [rbN_xor, hs]
  unfold half
  rw [h1, h3, Int.toNat_natCast, h2, xor32, e2, BitVec.xor_comm]

theorem byte1_b (x : BitVec 32) (b : UInt8) : byte1 (x.toNat : Int) b = ((cb x b).toNat : Int) := by
  unfold byte1
  rw [b32_nat, xor32, half_b, half_b, ← rbN_add]; rfl
theorem fold_b : ∀ (s : List UInt8) (x : BitVec 32), s.foldl byte1 (x.toNat : Int) = ((s.foldl cb x).toNat : Int)
  | [], _ => rfl
  | b :: s, x => by rw [List.foldl_cons, byte1_b, fold_b s, List.foldl_cons]
theorem sumR_b (s : List UInt8) : sumR s = ((s.foldl cb 4294967295#32).toNat : Int) := fold_b s 4294967295#32
theorem sumX_b (s : List UInt8) : sumX s = ((4294967295#32 ^^^ s.foldl cb 4294967295#32).toNat : Int) := by
  rw [sumX, sumR_b]; exact xor32 4294967295#32 _
theorem sumX_in (s : List UInt8) : 0 ≤ sumX s ∧ sumX s < 4294967296 := by
  rw [sumX_b]
  have := (4294967295#32 ^^^ s.foldl cb 4294967295#32).isLt
  omega
/-- A frame. -/
def frm (s : List UInt8) : List UInt8 := if s.length ≤ 8392 then putL (putL [] s.length 4 ++ s) (sumX (putL [] s.length 4 ++ s)) 4 else []

theorem frame_v (s : List UInt8) (hs : s.length ≤ 90000000) : VCalls Try.prog 90 [.pv (.str s)] [] (Ret (.pv (.str (frm s)))) := by
  refine vcalls_drop (fn := Try.f90) Try.func90 rfl (by kernel_rfl) (by simp [Try.f90]) ?_
  by_cases h : s.length ≤ 8392
  · have h1 : ¬ 8392 < (s.length : Int) := by omega
    have hl := putL_len [] s.length 4
    simp only [List.length_nil, Nat.zero_add] at hl
    have hl2 : (putL [] s.length 4 ++ s).length ≤ 10000 := by rw [List.length_append, hl]; omega
    simp (config := { maxSteps := 2000000 }) (implicitDefEqProofs := false) (disch := first | omega | assumption | (simp only []; done) | fail) only [go_sem, Nat.reduceBEq, Int.reduceBEq, Try.f90, h1]
    refine vc_pure (put_v [] (by simp) s.length 4 (by omega) (by omega)) rfl ?_
    simp (config := { maxSteps := 2000000 }) (implicitDefEqProofs := false) (disch := first | omega | assumption | (simp only []; done) | fail) only [go_sem, Nat.reduceBEq, Int.reduceBEq]
    refine vc_pure (sum_v _ (by omega)) rfl ?_
    have hx := sumX_in (putL [] s.length 4 ++ s)
    simp (config := { maxSteps := 2000000 }) (implicitDefEqProofs := false) (disch := first | omega | assumption | (simp only []; done) | fail) only [go_sem, Nat.reduceLT, Nat.reduceBEq, Int.reduceLT, Int.reduceBEq]
    refine vc_pure (put_v (putL [] s.length 4 ++ s) (by omega) _ 4 (by omega) (by omega)) rfl ?_
    simp (config := { maxSteps := 2000000 }) (implicitDefEqProofs := false) (disch := first | omega | assumption | (simp only []; done) | fail) only [go_sem, ↓reduceIte, frm, h]
  · have h1 : 8392 < (s.length : Int) := by omega
    simp (config := { maxSteps := 2000000 }) (implicitDefEqProofs := false) (disch := first | omega | assumption | (simp only []; done) | fail) only [go_sem, ↓reduceIte, Nat.reduceBEq, Int.reduceBEq, Try.f90, h1, frm, h]

end Go.Proofs.Ytjjjlkjhojdnnaa

namespace Go.Proofs.Ytjjjlkjhojdnnaa
open Go.V Go
set_option maxRecDepth 100000
set_option pp.deepTerms true
set_option pp.deepTerms.threshold 100000
set_option pp.maxSteps 1000000
set_option pp.proofs false
set_option linter.unusedSimpArgs false

theorem frames0_v : VCalls Try.prog 82 [.pv (.sl (fz encE []))] [] (Ret (.pv (.str []))) := by
  refine vcalls_drop (fn := Try.f82) Try.func82 rfl (by kernel_rfl) (by simp [Try.f82]) ?_
  simp (config := { maxSteps := 2000000 }) (implicitDefEqProofs := false) (disch := first | omega | assumption | (simp only []; done) | fail) only [go_sem, ↓reduceIte, Nat.reduceBEq, Int.reduceBEq, Try.f82]
  refine vloopW (fun _ : Unit => ⟨24, 0, [(10, .int .i64 0), (9, .int .i64 0), (8, .pv (.sl (fz encE []))), (3, .ptr 0 0)], [bld nilP bE]⟩) (fun _ => 0) () (by refine gc_of (keep := [0]) rfl rfl rfl (by decide) ?_ ?_ <;> (repeat' apply And.intro) <;> first | trivial | rfl | exact ⟨_, rfl, rfl, rfl, .inl ⟨rfl, rfl⟩⟩ | exact ⟨_, rfl, rfl, rfl, .inl ⟨cells_nums _ _ _, rfl⟩⟩ | exact ⟨_, rfl, rfl, rfl, .inl ⟨pvs_nums _ _, rfl⟩⟩ | exact ⟨_, rfl, rfl, rfl, .inr ⟨rfl, rfl⟩⟩) ?_
  intro _
  simp (config := { maxSteps := 2000000 }) (implicitDefEqProofs := false) (disch := first | omega | assumption | (simp only []; done) | fail) only [go_sem, ↓reduceIte, Nat.reduceLT, Nat.reduceBEq, Int.reduceLT, Int.reduceBEq, bld, nilP, bE]
  refine str0_v.mono ?_
  rintro r h' ⟨rfl, rfl⟩
  simp (config := { maxSteps := 2000000 }) (implicitDefEqProofs := false) (disch := first | omega | assumption | (simp only []; done) | fail) only [go_sem, bld, nilP, bE]
theorem jnew_v : VCalls Try.prog 59 [] [] (Ret (.agg (⟨1, [], 0⟩ : Lg).c)) := by
  refine VCalls.unwk ?_
  refine vcalls_drop (fn := Try.f59) Try.func59 rfl (by kernel_rfl) (by simp [Try.f59]) ?_
  simp (config := { maxSteps := 2000000 }) (implicitDefEqProofs := false) (disch := first | omega | assumption | (simp only []; done) | fail) only [go_sem, V.splice, ↓reduceIte, Nat.reduceAdd, Nat.reduceLT, Nat.reduceLeDiff, Nat.reduceBEq, Int.reduceLT, Int.reduceAdd, Int.reduceBEq, Try.f59]
  skip
  repeat' (first
    | (refine vrunG_split (fun hZ => ?_) (fun hZ => ?_) <;> (try rw [hZ]) <;> (try simp only [decide_eq_true_eq, decide_eq_false_iff_not, Bool.or_eq_true, Bool.and_eq_true, Bool.or_eq_false_iff, Bool.and_eq_false_imp, Bool.not_eq_true', Bool.not_eq_false', beq_iff_eq, beq_eq_false_iff_ne, bne_iff_ne, bne_eq_false_iff_eq, ne_eq, Bool.not_eq_eq_eq_not, Bool.not_true, Bool.not_false] at hZ) <;> (try (first | rw [(hZ : _ = false)] | rw [(hZ : _ = true)])) <;> skip)
    | (refine vbr_split (fun hZ => ?_) (fun hZ => ?_) <;> (try rw [hZ]) <;> (try simp only [decide_eq_true_eq, decide_eq_false_iff_not, Bool.or_eq_true, Bool.and_eq_true, Bool.or_eq_false_iff, Bool.and_eq_false_imp, Bool.not_eq_true', Bool.not_eq_false', beq_iff_eq, beq_eq_false_iff_ne, bne_iff_ne, bne_eq_false_iff_eq, ne_eq, Bool.not_eq_eq_eq_not, Bool.not_true, Bool.not_false] at hZ) <;> (try (first | rw [(hZ : _ = false)] | rw [(hZ : _ = true)])) <;> skip)
    | (refine vdrG_split (fun hZ => ?_) (fun hZ => ?_) <;> (try rw [hZ]) <;> (try simp only [decide_eq_true_eq, decide_eq_false_iff_not, Bool.or_eq_true, Bool.and_eq_true, Bool.or_eq_false_iff, Bool.and_eq_false_imp, Bool.not_eq_true', Bool.not_eq_false', beq_iff_eq, beq_eq_false_iff_ne, bne_iff_ne, bne_eq_false_iff_eq, ne_eq, Bool.not_eq_eq_eq_not, Bool.not_true, Bool.not_false] at hZ) <;> (try (first | rw [(hZ : _ = false)] | rw [(hZ : _ = true)])) <;> skip)
    )
  all_goals rfl
theorem jlast_v (x : Lg) (hx : x.es.length ≤ 9223372036854775807) : VCalls Try.prog 60 [.agg x.c] [] (Ret (.int .i64 (if lgB x = true then x.end_ else 0))) := by
  refine vcalls_drop (fn := Try.f60) Try.func60 rfl (by kernel_rfl) (by simp [Try.f60]) ?_
  obtain ⟨f, es, d⟩ := x
  dsimp only at hx
  have c1 := jvalid_v ⟨f, es, d⟩ hx
  have c2 := jend_v ⟨f, es, d⟩
  have hh := @lgB_hd ⟨f, es, d⟩
  unfold Lg.hd at hh
  unfold Lg.end_ at *
  unfold Lg.c at *
  dsimp only at *
  cases hv : lgB ⟨f, es, d⟩
  · rw [hv] at c1
    simp (config := { maxSteps := 2000000 }) (implicitDefEqProofs := false) (disch := first | omega | assumption | (simp only []; done) | fail) only [go_sem, ↓reduceIte, Nat.reduceAdd, Nat.reduceBEq, Int.reduceAdd, Int.reduceBEq, Try.f60]
    skip
    repeat' (first
      | (refine vrunG_split (fun hZ => ?_) (fun hZ => ?_) <;> (try rw [hZ]) <;> (try simp only [decide_eq_true_eq, decide_eq_false_iff_not, Bool.or_eq_true, Bool.and_eq_true, Bool.or_eq_false_iff, Bool.and_eq_false_imp, Bool.not_eq_true', Bool.not_eq_false', beq_iff_eq, beq_eq_false_iff_ne, bne_iff_ne, bne_eq_false_iff_eq, ne_eq, Bool.not_eq_eq_eq_not, Bool.not_true, Bool.not_false] at hZ) <;> (try (first | rw [(hZ : _ = false)] | rw [(hZ : _ = true)])) <;> skip)
      | (refine vbr_split (fun hZ => ?_) (fun hZ => ?_) <;> (try rw [hZ]) <;> (try simp only [decide_eq_true_eq, decide_eq_false_iff_not, Bool.or_eq_true, Bool.and_eq_true, Bool.or_eq_false_iff, Bool.and_eq_false_imp, Bool.not_eq_true', Bool.not_eq_false', beq_iff_eq, beq_eq_false_iff_ne, bne_iff_ne, bne_eq_false_iff_eq, ne_eq, Bool.not_eq_eq_eq_not, Bool.not_true, Bool.not_false] at hZ) <;> (try (first | rw [(hZ : _ = false)] | rw [(hZ : _ = true)])) <;> skip)
      | (refine vdrG_split (fun hZ => ?_) (fun hZ => ?_) <;> (try rw [hZ]) <;> (try simp only [decide_eq_true_eq, decide_eq_false_iff_not, Bool.or_eq_true, Bool.and_eq_true, Bool.or_eq_false_iff, Bool.and_eq_false_imp, Bool.not_eq_true', Bool.not_eq_false', beq_iff_eq, beq_eq_false_iff_ne, bne_iff_ne, bne_eq_false_iff_eq, ne_eq, Bool.not_eq_eq_eq_not, Bool.not_true, Bool.not_false] at hZ) <;> (try (first | rw [(hZ : _ = false)] | rw [(hZ : _ = true)])) <;> skip)
      | (refine vc_pure (c1) rfl ?_; (try simp (config := { maxSteps := 2000000 }) (implicitDefEqProofs := false) (disch := first | omega | assumption | (simp only []; done) | fail) only [go_sem]))
      )
    all_goals first | rfl | contradiction
  · rw [hv] at c1
    replace hh := hh hv
    simp (config := { maxSteps := 2000000 }) (implicitDefEqProofs := false) (disch := first | omega | assumption | (simp only []; done) | fail) only [go_sem, ↓reduceIte, Nat.reduceAdd, Nat.reduceBEq, Int.reduceAdd, Int.reduceBEq, Try.f60]
    skip
    repeat' (first
      | (refine vrunG_split (fun hZ => ?_) (fun hZ => ?_) <;> (try rw [hZ]) <;> (try simp only [decide_eq_true_eq, decide_eq_false_iff_not, Bool.or_eq_true, Bool.and_eq_true, Bool.or_eq_false_iff, Bool.and_eq_false_imp, Bool.not_eq_true', Bool.not_eq_false', beq_iff_eq, beq_eq_false_iff_ne, bne_iff_ne, bne_eq_false_iff_eq, ne_eq, Bool.not_eq_eq_eq_not, Bool.not_true, Bool.not_false] at hZ) <;> (try (first | rw [(hZ : _ = false)] | rw [(hZ : _ = true)])) <;> skip)
      | (refine vbr_split (fun hZ => ?_) (fun hZ => ?_) <;> (try rw [hZ]) <;> (try simp only [decide_eq_true_eq, decide_eq_false_iff_not, Bool.or_eq_true, Bool.and_eq_true, Bool.or_eq_false_iff, Bool.and_eq_false_imp, Bool.not_eq_true', Bool.not_eq_false', beq_iff_eq, beq_eq_false_iff_ne, bne_iff_ne, bne_eq_false_iff_eq, ne_eq, Bool.not_eq_eq_eq_not, Bool.not_true, Bool.not_false] at hZ) <;> (try (first | rw [(hZ : _ = false)] | rw [(hZ : _ = true)])) <;> skip)
      | (refine vdrG_split (fun hZ => ?_) (fun hZ => ?_) <;> (try rw [hZ]) <;> (try simp only [decide_eq_true_eq, decide_eq_false_iff_not, Bool.or_eq_true, Bool.and_eq_true, Bool.or_eq_false_iff, Bool.and_eq_false_imp, Bool.not_eq_true', Bool.not_eq_false', beq_iff_eq, beq_eq_false_iff_ne, bne_iff_ne, bne_eq_false_iff_eq, ne_eq, Bool.not_eq_eq_eq_not, Bool.not_true, Bool.not_false] at hZ) <;> (try (first | rw [(hZ : _ = false)] | rw [(hZ : _ = true)])) <;> skip)
      | (refine vc_pure (c1) rfl ?_; (try simp (config := { maxSteps := 2000000 }) (implicitDefEqProofs := false) (disch := first | omega | assumption | (simp only []; done) | fail) only [go_sem, ↓reduceIte, Nat.reduceAdd, Nat.reduceLT, Nat.reduceBEq, Int.reduceLT, Int.reduceAdd, Int.reduceBEq]))
      | (refine vc_pure (c2 (by omega) (by omega)) rfl ?_; (try simp (config := { maxSteps := 2000000 }) (implicitDefEqProofs := false) (disch := first | omega | assumption | (simp only []; done) | fail) only [go_sem]))
      )
    all_goals first | rfl | contradiction | omega
theorem jhead_v (x : Lg) (hx : x.es.length ≤ 9223372036854775807) : VCalls Try.prog 81 [.agg x.c] [] (Ret (.pv (.str (frm (putL [80, 77, 76, 71] x.f 8))))) := by
  refine vcalls_drop (fn := Try.f81) Try.func81 rfl (by kernel_rfl) (by simp [Try.f81]) ?_
  unfold Lg.c
  have c1 := put_v [80, 77, 76, 71] (by simp) x.f 8 (by omega) (by omega)
  have c2 := frame_v (putL [80, 77, 76, 71] x.f 8) (by rw [putL_len]; simp)
  simp (config := { maxSteps := 2000000 }) (implicitDefEqProofs := false) (disch := first | omega | assumption | (simp only []; done) | fail) only [go_sem, ↓reduceIte, reduceCtorEq, Nat.reduceBEq, Int.reduceBEq, Try.f81]
  skip
  repeat' (first
    | (refine vrunG_split (fun hZ => ?_) (fun hZ => ?_) <;> (try rw [hZ]) <;> (try simp only [decide_eq_true_eq, decide_eq_false_iff_not, Bool.or_eq_true, Bool.and_eq_true, Bool.or_eq_false_iff, Bool.and_eq_false_imp, Bool.not_eq_true', Bool.not_eq_false', beq_iff_eq, beq_eq_false_iff_ne, bne_iff_ne, bne_eq_false_iff_eq, ne_eq, Bool.not_eq_eq_eq_not, Bool.not_true, Bool.not_false] at hZ) <;> (try (first | rw [(hZ : _ = false)] | rw [(hZ : _ = true)])) <;> skip)
    | (refine vbr_split (fun hZ => ?_) (fun hZ => ?_) <;> (try rw [hZ]) <;> (try simp only [decide_eq_true_eq, decide_eq_false_iff_not, Bool.or_eq_true, Bool.and_eq_true, Bool.or_eq_false_iff, Bool.and_eq_false_imp, Bool.not_eq_true', Bool.not_eq_false', beq_iff_eq, beq_eq_false_iff_ne, bne_iff_ne, bne_eq_false_iff_eq, ne_eq, Bool.not_eq_eq_eq_not, Bool.not_true, Bool.not_false] at hZ) <;> (try (first | rw [(hZ : _ = false)] | rw [(hZ : _ = true)])) <;> skip)
    | (refine vdrG_split (fun hZ => ?_) (fun hZ => ?_) <;> (try rw [hZ]) <;> (try simp only [decide_eq_true_eq, decide_eq_false_iff_not, Bool.or_eq_true, Bool.and_eq_true, Bool.or_eq_false_iff, Bool.and_eq_false_imp, Bool.not_eq_true', Bool.not_eq_false', beq_iff_eq, beq_eq_false_iff_ne, bne_iff_ne, bne_eq_false_iff_eq, ne_eq, Bool.not_eq_eq_eq_not, Bool.not_true, Bool.not_false] at hZ) <;> (try (first | rw [(hZ : _ = false)] | rw [(hZ : _ = true)])) <;> skip)
    | (refine vc_pure (c1) rfl ?_; (try simp (config := { maxSteps := 2000000 }) (implicitDefEqProofs := false) (disch := first | omega | assumption | (simp only []; done) | fail) only [go_sem, Nat.reduceLT, Int.reduceLT]))
    | (refine vc_pure (c2) rfl ?_; (try simp (config := { maxSteps := 2000000 }) (implicitDefEqProofs := false) (disch := first | omega | assumption | (simp only []; done) | fail) only [go_sem]))
    )
  all_goals skip
theorem frm_len {s : List UInt8} (h : s.length ≤ 8392) : (frm s).length = s.length + 8 := by
  unfold frm
  rw [if_pos h, putL_len, List.length_append, putL_len]; simp; omega
theorem bytes0_v : VCalls Try.prog 61 [.agg (⟨1, [], 0⟩ : Lg).c] [] (Ret (.pv (.str (frm (putL [80, 77, 76, 71] 1 8))))) := by
  refine vcalls_drop (fn := Try.f61) Try.func61 rfl (by kernel_rfl) (by simp [Try.f61]) ?_
  have c1 := jvalid_v ⟨1, [], 0⟩ (by simp)
  have c2 := jhead_v ⟨1, [], 0⟩ (by simp)
  have c3 := frames0_v
  have hv : lgB ⟨1, [], 0⟩ = true := by decide
  rw [hv] at c1
  unfold Lg.c at *
  dsimp only at *
  have hl := frm_len (s := putL [80, 77, 76, 71] 1 8) (by rw [putL_len]; simp)
  rw [putL_len] at hl
  simp only [List.length_cons, List.length_nil, Nat.zero_add, Nat.reduceAdd] at hl
  generalize frm (putL [80, 77, 76, 71] 1 8) = s at *
  simp (config := { maxSteps := 2000000 }) (implicitDefEqProofs := false) (disch := first | omega | assumption | (simp only []; done) | fail) only [go_sem, ↓reduceIte, Nat.reduceAdd, Nat.reduceBEq, Int.reduceAdd, Int.reduceBEq, Try.f61]
  skip
  repeat' (first
    | (refine vrunG_split (fun hZ => ?_) (fun hZ => ?_) <;> (try rw [hZ]) <;> (try simp only [decide_eq_true_eq, decide_eq_false_iff_not, Bool.or_eq_true, Bool.and_eq_true, Bool.or_eq_false_iff, Bool.and_eq_false_imp, Bool.not_eq_true', Bool.not_eq_false', beq_iff_eq, beq_eq_false_iff_ne, bne_iff_ne, bne_eq_false_iff_eq, ne_eq, Bool.not_eq_eq_eq_not, Bool.not_true, Bool.not_false] at hZ) <;> (try (first | rw [(hZ : _ = false)] | rw [(hZ : _ = true)])) <;> skip)
    | (refine vbr_split (fun hZ => ?_) (fun hZ => ?_) <;> (try rw [hZ]) <;> (try simp only [decide_eq_true_eq, decide_eq_false_iff_not, Bool.or_eq_true, Bool.and_eq_true, Bool.or_eq_false_iff, Bool.and_eq_false_imp, Bool.not_eq_true', Bool.not_eq_false', beq_iff_eq, beq_eq_false_iff_ne, bne_iff_ne, bne_eq_false_iff_eq, ne_eq, Bool.not_eq_eq_eq_not, Bool.not_true, Bool.not_false] at hZ) <;> (try (first | rw [(hZ : _ = false)] | rw [(hZ : _ = true)])) <;> skip)
    | (refine vdrG_split (fun hZ => ?_) (fun hZ => ?_) <;> (try rw [hZ]) <;> (try simp only [decide_eq_true_eq, decide_eq_false_iff_not, Bool.or_eq_true, Bool.and_eq_true, Bool.or_eq_false_iff, Bool.and_eq_false_imp, Bool.not_eq_true', Bool.not_eq_false', beq_iff_eq, beq_eq_false_iff_ne, bne_iff_ne, bne_eq_false_iff_eq, ne_eq, Bool.not_eq_eq_eq_not, Bool.not_true, Bool.not_false] at hZ) <;> (try (first | rw [(hZ : _ = false)] | rw [(hZ : _ = true)])) <;> skip)
    | (refine vc_pure (c1) rfl ?_; (try simp (config := { maxSteps := 2000000 }) (implicitDefEqProofs := false) (disch := first | omega | assumption | (simp only []; done) | fail) only [go_sem]))
    | (refine vc_pure (c2) rfl ?_; (try simp (config := { maxSteps := 2000000 }) (implicitDefEqProofs := false) (disch := first | omega | assumption | (simp only []; done) | fail) only [go_sem, Nat.reduceBEq, Int.reduceBEq]))
    | (refine vc_pure (c3) rfl ?_; (try simp (config := { maxSteps := 2000000 }) (implicitDefEqProofs := false) (disch := first | omega | assumption | (simp only []; done) | (simp only [List.length_nil] <;> omega) | fail) only [go_sem, Nat.reduceLT, Nat.reduceBEq, Int.reduceLT, Int.reduceBEq]))
    | (refine vspine (id := 3) [0, 2, 3] [⟨[], [], 1, [2, 3], []⟩, ⟨[], [], 4, [0, 2], [5]⟩, ⟨[], [], 6, [], []⟩] (by kernel_rfl) (by kernel_rfl) ?_; (try simp (config := { maxSteps := 2000000 }) (implicitDefEqProofs := false) (disch := first | omega | assumption | (simp only []; done) | fail) only [go_sem, ↓reduceIte, reduceCtorEq, Nat.reduceAdd, Nat.reduceBEq, Int.reduceAdd, Int.reduceBEq]))
    )
  all_goals first | rfl | contradiction | (rw [List.append_nil])
theorem awk6_v : VCalls Try.prog 33 [] [] (Ret (.bool true)) := by
  refine vcalls_drop (fn := Try.f33) Try.func33 rfl (by kernel_rfl) (by simp [Try.f33]) ?_
  have c1 := jnew_v
  have c2 := append_v ⟨1, [], 0⟩ (by simp) ⟨0, 8, 0, 0, 0, 0, Ch0, [120]⟩
  have ha : appS ⟨1, [], 0⟩ ⟨0, 8, 0, 0, 0, 0, Ch0, [120]⟩ = (⟨1, [⟨1, 8, 0, 0, 0, 0, Ch0, [120]⟩], 0⟩, 1, 0) := rfl
  rw [ha] at c2
  have c3 := jlast_v ⟨1, [⟨1, 8, 0, 0, 0, 0, Ch0, [120]⟩], 0⟩ (by simp)
  have hb : (if lgB ⟨1, [⟨1, 8, 0, 0, 0, 0, Ch0, [120]⟩], 0⟩ = true then (⟨1, [⟨1, 8, 0, 0, 0, 0, Ch0, [120]⟩], 0⟩ : Lg).end_ else 0) = 1 := by decide
  rw [hb] at c3
  have c4 := bytes0_v
  have hl := frm_len (s := putL [80, 77, 76, 71] 1 8) (by rw [putL_len]; simp)
  rw [putL_len] at hl
  simp only [List.length_cons, List.length_nil, Nat.zero_add, Nat.reduceAdd] at hl
  generalize frm (putL [80, 77, 76, 71] 1 8) = s at *
  unfold appD at c2
  unfold Lg.c E.d at *
  dsimp only at *
  simp (config := { maxSteps := 2000000 }) (implicitDefEqProofs := false) (disch := first | omega | assumption | (simp only []; done) | fail) only [go_sem, Try.f33]
  skip
  repeat' (first
    | (refine vrunG_split (fun hZ => ?_) (fun hZ => ?_) <;> (try rw [hZ]) <;> (try simp only [decide_eq_true_eq, decide_eq_false_iff_not, Bool.or_eq_true, Bool.and_eq_true, Bool.or_eq_false_iff, Bool.and_eq_false_imp, Bool.not_eq_true', Bool.not_eq_false', beq_iff_eq, beq_eq_false_iff_ne, bne_iff_ne, bne_eq_false_iff_eq, ne_eq, Bool.not_eq_eq_eq_not, Bool.not_true, Bool.not_false] at hZ) <;> (try (first | rw [(hZ : _ = false)] | rw [(hZ : _ = true)])) <;> skip)
    | (refine vbr_split (fun hZ => ?_) (fun hZ => ?_) <;> (try rw [hZ]) <;> (try simp only [decide_eq_true_eq, decide_eq_false_iff_not, Bool.or_eq_true, Bool.and_eq_true, Bool.or_eq_false_iff, Bool.and_eq_false_imp, Bool.not_eq_true', Bool.not_eq_false', beq_iff_eq, beq_eq_false_iff_ne, bne_iff_ne, bne_eq_false_iff_eq, ne_eq, Bool.not_eq_eq_eq_not, Bool.not_true, Bool.not_false] at hZ) <;> (try (first | rw [(hZ : _ = false)] | rw [(hZ : _ = true)])) <;> skip)
    | (refine vdrG_split (fun hZ => ?_) (fun hZ => ?_) <;> (try rw [hZ]) <;> (try simp only [decide_eq_true_eq, decide_eq_false_iff_not, Bool.or_eq_true, Bool.and_eq_true, Bool.or_eq_false_iff, Bool.and_eq_false_imp, Bool.not_eq_true', Bool.not_eq_false', beq_iff_eq, beq_eq_false_iff_ne, bne_iff_ne, bne_eq_false_iff_eq, ne_eq, Bool.not_eq_eq_eq_not, Bool.not_true, Bool.not_false] at hZ) <;> (try (first | rw [(hZ : _ = false)] | rw [(hZ : _ = true)])) <;> skip)
    | (refine vc_pure (c1) rfl ?_; (try simp (config := { maxSteps := 2000000 }) (implicitDefEqProofs := false) (disch := first | omega | assumption | (simp only []; done) | fail) only [go_sem, V.splice, ↓reduceIte, Nat.reduceAdd, Nat.reduceLeDiff, Nat.reduceBEq, Int.reduceAdd, Int.reduceBEq]))
    | (refine vc_pure (c2) rfl ?_; (try simp (config := { maxSteps := 2000000 }) (implicitDefEqProofs := false) (disch := first | omega | assumption | (simp only []; done) | fail) only [go_sem, V.splice, ↓reduceIte, Nat.reduceAdd, Nat.reduceBEq, Int.reduceAdd, Int.reduceBEq]))
    | (refine vc_pure (c3) rfl ?_; (try simp (config := { maxSteps := 2000000 }) (implicitDefEqProofs := false) (disch := first | omega | assumption | (simp only []; done) | fail) only [go_sem, Nat.reduceBEq, Int.reduceBEq]))
    | (refine vc_pure (c4) rfl ?_; (try simp (config := { maxSteps := 2000000 }) (implicitDefEqProofs := false) (disch := first | omega | assumption | (simp only []; done) | fail) only [go_sem, Nat.reduceLT, Nat.reduceBEq, Int.reduceLT, Int.reduceBEq, hl]))
    )
  all_goals skip
  trace_state
end Go.Proofs.Ytjjjlkjhojdnnaa

namespace Go.Proofs.Ytjjjlkjhojdnnaa
open Go.V Go
set_option maxRecDepth 100000
set_option linter.unusedSimpArgs false

/-- A note. -/
def nE (a : Int) : E := ⟨a, 8, 0, 0, 0, 0, Ch0, []⟩
def nts (F : Int) (n : Nat) : List E := (List.range n).map fun (i : Nat) => nE (F + i)
theorem nts_len (F : Int) (n : Nat) : (nts F n).length = n := by simp [nts]
theorem nts_succ (F : Int) (n : Nat) : nts F (n + 1) = nts F n ++ [nE (F + n)] := by simp [nts, List.range_succ]
theorem nts_get (F : Int) (n i : Nat) (h : i < n) : (nts F n).getD i E0 = nE (F + i) := by
  rw [getD_eq _ _ (by rw [nts_len]; exact h)]; simp [nts]
theorem nts_drop (F : Int) (n : Nat) : (nts F (n + 1)).drop 1 = nts (F + 1) n := by
  apply List.ext_getElem
  · rw [List.length_drop, nts_len, nts_len]; omega
  · intro i h1 h2
    simp only [List.getElem_drop, nts, List.getElem_map, List.getElem_range]
    congr 1
    omega
theorem nE_ok {a : Int} (h1 : 1 ≤ a) (h2 : a ≤ 1099511627776) : (nE a).okB = true := by
  have e : (nE a).kindB = true := rfl
  have e0 : (nE a).okB = (decide (1 ≤ a) && decide (a ≤ 1099511627776) && bef 0 a && bef 0 a && bef 0 a && (nE a).kindB) := rfl
  have e1 : bef 0 a = true := by simp [bef]; omega
  rw [e0, e, e1, decide_eq_true h1, decide_eq_true h2]
  rfl
theorem lg_nts {F d : Int} {n : Nat} (h1 : 1 ≤ F) (h2 : F + n - 1 ≤ 1099511627776) (h0 : 1 ≤ n) (hn : n ≤ 4096) (hd : F - 1 ≤ d ∧ d ≤ F + n - 1) : lgB ⟨F, nts F n, d⟩ = true := by
  unfold lgB
  rw [decide_eq_true (by unfold Lg.hd; dsimp only; rw [nts_len]; omega), Bool.true_and, List.all_eq_true]
  intro i hi
  rw [List.mem_range] at hi
  dsimp only at hi
  rw [nts_len] at hi
  simp only [lgC, nts_get F n i hi, Bool.and_eq_true, decide_eq_true_eq]
  exact ⟨rfl, nE_ok (by omega) (by omega)⟩
theorem app_nts {F d : Int} {n : Nat} (h1 : 1 ≤ F) (h2 : F + n - 1 ≤ 1099511627776) (h0 : 1 ≤ n) (hn : n ≤ 4096) (hd : F - 1 ≤ d ∧ d ≤ F + n - 1) :
    appS ⟨F, nts F n, d⟩ (nE 0) = if n = 4096 ∨ F + n = 1099511627777 then (Lg0, 0, 21) else (⟨F, nts F (n + 1), d⟩, F + n, 0) := by
  unfold appS
  rw [if_neg (by rw [lg_nts h1 h2 h0 hn hd]; decide)]
  unfold Lg.end_
  dsimp only
  rw [nts_len, show F + (n : Int) - 1 + 1 = F + n by omega]
  by_cases h : n = 4096 ∨ F + n = 1099511627777
  · rw [if_pos (by omega), if_pos h]
  · have hk := nE_ok (a := F + n) (by omega) (by omega)
    rw [if_neg (by omega), if_neg h, if_neg (by show ¬ (nE (F + n)).okB = false; rw [hk]; decide), nts_succ]
    rfl
theorem force_nts {F : Int} {n : Nat} (h1 : 1 ≤ F) (h2 : F + n - 1 ≤ 1099511627776) (h0 : 1 ≤ n) (hn : n ≤ 4096) : forceS ⟨F, nts F n, F - 1⟩ F = (⟨F, nts F n, F⟩, 0) := by
  unfold forceS
  rw [if_neg (by rw [lg_nts h1 h2 h0 hn (by omega)]; decide)]
  unfold Lg.end_
  dsimp only
  rw [nts_len, if_neg (by omega), if_pos (by omega)]
theorem cut_nts {F : Int} {n : Nat} (h1 : 1 ≤ F) (h2 : F + (n + 1 : Nat) - 1 ≤ 1099511627776) (h0 : 1 ≤ n) (hn : n + 1 ≤ 4096) : cutS ⟨F, nts F (n + 1), F⟩ (F + 1) = (⟨F + 1, nts (F + 1) n, F⟩, 0) := by
  unfold cutS
  rw [if_neg (by rw [lg_nts h1 h2 (by omega) hn (by omega)]; decide)]
  unfold Lg.end_
  dsimp only
  rw [nts_len, if_neg (by omega), if_neg (by omega), show (F + 1 - F).toNat = 1 by omega, nts_drop]
end Go.Proofs.Ytjjjlkjhojdnnaa

namespace Go.Proofs.Ytjjjlkjhojdnnaa
open Go.V Go
set_option maxRecDepth 100000
set_option linter.unusedSimpArgs false

abbrev QJ : Exit → St → Prop := vpost Try.prog [ResultVar.tmp 4] 0 (Ret (.bool true))
theorem app_n (F : Int) (i : Nat) : cells encE (nts F i) ++ [.pv (.lit (.int .i64 (F + (i : Int)))), .pv (.lit (.int .i64 8)), .pv (.lit (.int .i64 0)), .pv (.lit (.int .i64 0)), .pv (.lit (.int .i64 0)), .pv (.lit (.int .i64 0)), .pv (.lit (.int .i64 0)), .pv (.lit (.int .i64 0)), .pv (.lit (.bool false)), .pv (.str []), .pv (.lit (.bool false)), .pv (.str []), .pv (.str [])] = cells encE (nts F (i + 1)) := by
  rw [nts_succ]; exact app_E (nts F i) (nE (F + i))
set_option maxHeartbeats 8000000 in
theorem jlt_high (F : Int) (n : Nat) (hmm : 4094 ≤ n ∧ n ≤ 4096) (hF2 : 1 ≤ F ∧ F + n - 1 ≤ 1099511627776 ∧ F + 1 ≤ 1099511627776) (hFm : F + n = 1099511627777) :
    VWp Try.prog (restc 7 (bodyc Try.f8)) QJ ⟨132, 0, [(6, .ptr 0 0), (5, .int .i64 n), (1, .bool true)], [⟨52, true, [.int .i64 F, .pv (.sl (fz encE (nts F n))), .int .i64 (F - 1)]⟩]⟩ := by
  refine vcode_sound _ _ _ ?_
  have q1 := append_v ⟨F, nts F n, F - 1⟩ (by dsimp only; rw [nts_len]; omega) (nE 0)
  rw [app_nts (by omega) (by omega) (by omega) (by omega) (by omega)] at q1
  have q2 := force_v ⟨F, nts F n, F - 1⟩ (by dsimp only; rw [nts_len]; omega) F
  have q2e : forceS ⟨F, nts F n, F - 1⟩ F = (⟨F, nts F n, F⟩, 0) := force_nts (by omega) (by omega) (by omega) (by omega)
  rw [q2e] at q2
  obtain ⟨m, rfl⟩ : ∃ m, n = m + 1 := ⟨n - 1, by omega⟩
  have q3 := cut_v ⟨F, nts F (m + 1), F⟩ (by dsimp only; rw [nts_len]; omega) (F + 1)
  rw [cut_nts (by omega) (by omega) (by omega) (by omega)] at q3
  have q4 := append_v ⟨F + 1, nts (F + 1) m, F⟩ (by dsimp only; rw [nts_len]; omega) (nE 0)
  rw [app_nts (by omega) (by omega) (by omega) (by omega) (by omega)] at q4
  rw [if_pos (.inr (by omega))] at q4
  unfold appD lgD at *
  unfold Lg.c nE E.d at *
  dsimp only [Ch0, Ce0, Lg0] at *
  have hln : (nts F (m + 1)).length = m + 1 := nts_len _ _
  have hln2 : (nts (F + 1) m).length = m := nts_len _ _
  have hln3 : (nts (F + 1) (m + 1)).length = m + 1 := nts_len _ _
  have hln4 : (nts F (m + 2)).length = m + 2 := nts_len _ _
  by_cases h4 : m + 1 = 4096
  · rw [if_pos (.inl h4)] at q1
    dsimp only at q1
    simp (config := { maxSteps := 2000000 }) (implicitDefEqProofs := false) (disch := first | omega | assumption | (simp only []; done) | fail) only [go_sem, V.splice, ↓reduceIte, Nat.reduceAdd, Nat.reduceLeDiff, Nat.reduceBEq, Int.reduceAdd, Int.reduceBEq, Try.f8, bodyc, restc_seq, restc_zero]
    skip
    repeat' (first
      | (refine vrunG_split (fun hZ => ?_) (fun hZ => ?_) <;> (try rw [hZ]) <;> (try simp only [decide_eq_true_eq, decide_eq_false_iff_not, Bool.or_eq_true, Bool.and_eq_true, Bool.or_eq_false_iff, Bool.and_eq_false_imp, Bool.not_eq_true', Bool.not_eq_false', beq_iff_eq, beq_eq_false_iff_ne, bne_iff_ne, bne_eq_false_iff_eq, ne_eq, Bool.not_eq_eq_eq_not, Bool.not_true, Bool.not_false] at hZ) <;> (try (first | rw [(hZ : _ = false)] | rw [(hZ : _ = true)])) <;> skip)
      | (refine vbr_split (fun hZ => ?_) (fun hZ => ?_) <;> (try rw [hZ]) <;> (try simp only [decide_eq_true_eq, decide_eq_false_iff_not, Bool.or_eq_true, Bool.and_eq_true, Bool.or_eq_false_iff, Bool.and_eq_false_imp, Bool.not_eq_true', Bool.not_eq_false', beq_iff_eq, beq_eq_false_iff_ne, bne_iff_ne, bne_eq_false_iff_eq, ne_eq, Bool.not_eq_eq_eq_not, Bool.not_true, Bool.not_false] at hZ) <;> (try (first | rw [(hZ : _ = false)] | rw [(hZ : _ = true)])) <;> skip)
      | (refine vdrG_split (fun hZ => ?_) (fun hZ => ?_) <;> (try rw [hZ]) <;> (try simp only [decide_eq_true_eq, decide_eq_false_iff_not, Bool.or_eq_true, Bool.and_eq_true, Bool.or_eq_false_iff, Bool.and_eq_false_imp, Bool.not_eq_true', Bool.not_eq_false', beq_iff_eq, beq_eq_false_iff_ne, bne_iff_ne, bne_eq_false_iff_eq, ne_eq, Bool.not_eq_eq_eq_not, Bool.not_true, Bool.not_false] at hZ) <;> (try (first | rw [(hZ : _ = false)] | rw [(hZ : _ = true)])) <;> skip)
      | (refine vc_pure (q1) rfl ?_; (try simp (config := { maxSteps := 2000000 }) (implicitDefEqProofs := false) (disch := first | omega | assumption | (simp only []; done) | fail) only [go_sem, V.splice, ↓reduceIte, reduceCtorEq, Nat.reduceAdd, Nat.reduceBEq, Int.reduceAdd, Int.reduceBEq, fz_len]))
      | (refine vc_pure (q2) rfl ?_; (try simp (config := { maxSteps := 2000000 }) (implicitDefEqProofs := false) (disch := first | omega | assumption | (simp only []; done) | fail) only [go_sem, V.splice, ↓reduceIte, reduceCtorEq, Nat.reduceAdd, Nat.reduceBEq, Int.reduceAdd, Int.reduceBEq]))
      | (refine vc_pure (q3) rfl ?_; (try simp (config := { maxSteps := 2000000 }) (implicitDefEqProofs := false) (disch := first | omega | assumption | (simp only []; done) | fail) only [go_sem, V.splice, ↓reduceIte, Nat.reduceAdd, Nat.reduceLeDiff, Nat.reduceBEq, Int.reduceAdd, Int.reduceBEq]))
      | (refine vc_pure (q4) rfl ?_; (try simp (config := { maxSteps := 2000000 }) (implicitDefEqProofs := false) (disch := first | omega | assumption | (simp only []; done) | fail) only [go_sem, V.splice, ↓reduceIte, reduceCtorEq, Nat.reduceAdd, Nat.reduceLT, Nat.reduceBEq, Int.reduceLT, Int.reduceAdd, Int.reduceBEq, nts_len, fz_len]))
      )
    all_goals first | rfl | contradiction | omega
  · rw [if_pos (.inr (by omega))] at q1
    dsimp only at q1
    simp (config := { maxSteps := 2000000 }) (implicitDefEqProofs := false) (disch := first | omega | assumption | (simp only []; done) | fail) only [go_sem, V.splice, ↓reduceIte, Nat.reduceAdd, Nat.reduceLeDiff, Nat.reduceBEq, Int.reduceAdd, Int.reduceBEq, Try.f8, bodyc, restc_seq, restc_zero]
    skip
    repeat' (first
      | (refine vrunG_split (fun hZ => ?_) (fun hZ => ?_) <;> (try rw [hZ]) <;> (try simp only [decide_eq_true_eq, decide_eq_false_iff_not, Bool.or_eq_true, Bool.and_eq_true, Bool.or_eq_false_iff, Bool.and_eq_false_imp, Bool.not_eq_true', Bool.not_eq_false', beq_iff_eq, beq_eq_false_iff_ne, bne_iff_ne, bne_eq_false_iff_eq, ne_eq, Bool.not_eq_eq_eq_not, Bool.not_true, Bool.not_false] at hZ) <;> (try (first | rw [(hZ : _ = false)] | rw [(hZ : _ = true)])) <;> skip)
      | (refine vbr_split (fun hZ => ?_) (fun hZ => ?_) <;> (try rw [hZ]) <;> (try simp only [decide_eq_true_eq, decide_eq_false_iff_not, Bool.or_eq_true, Bool.and_eq_true, Bool.or_eq_false_iff, Bool.and_eq_false_imp, Bool.not_eq_true', Bool.not_eq_false', beq_iff_eq, beq_eq_false_iff_ne, bne_iff_ne, bne_eq_false_iff_eq, ne_eq, Bool.not_eq_eq_eq_not, Bool.not_true, Bool.not_false] at hZ) <;> (try (first | rw [(hZ : _ = false)] | rw [(hZ : _ = true)])) <;> skip)
      | (refine vdrG_split (fun hZ => ?_) (fun hZ => ?_) <;> (try rw [hZ]) <;> (try simp only [decide_eq_true_eq, decide_eq_false_iff_not, Bool.or_eq_true, Bool.and_eq_true, Bool.or_eq_false_iff, Bool.and_eq_false_imp, Bool.not_eq_true', Bool.not_eq_false', beq_iff_eq, beq_eq_false_iff_ne, bne_iff_ne, bne_eq_false_iff_eq, ne_eq, Bool.not_eq_eq_eq_not, Bool.not_true, Bool.not_false] at hZ) <;> (try (first | rw [(hZ : _ = false)] | rw [(hZ : _ = true)])) <;> skip)
      | (refine vc_pure (q1) rfl ?_; (try simp (config := { maxSteps := 2000000 }) (implicitDefEqProofs := false) (disch := first | omega | assumption | (simp only []; done) | fail) only [go_sem, V.splice, ↓reduceIte, reduceCtorEq, Nat.reduceAdd, Nat.reduceBEq, Int.reduceAdd, Int.reduceBEq, fz_len]))
      | (refine vc_pure (q2) rfl ?_; (try simp (config := { maxSteps := 2000000 }) (implicitDefEqProofs := false) (disch := first | omega | assumption | (simp only []; done) | fail) only [go_sem, V.splice, ↓reduceIte, reduceCtorEq, Nat.reduceAdd, Nat.reduceBEq, Int.reduceAdd, Int.reduceBEq]))
      | (refine vc_pure (q3) rfl ?_; (try simp (config := { maxSteps := 2000000 }) (implicitDefEqProofs := false) (disch := first | omega | assumption | (simp only []; done) | fail) only [go_sem, V.splice, ↓reduceIte, Nat.reduceAdd, Nat.reduceLeDiff, Nat.reduceBEq, Int.reduceAdd, Int.reduceBEq]))
      | (refine vc_pure (q4) rfl ?_; (try simp (config := { maxSteps := 2000000 }) (implicitDefEqProofs := false) (disch := first | omega | assumption | (simp only []; done) | fail) only [go_sem, V.splice, ↓reduceIte, reduceCtorEq, Nat.reduceAdd, Nat.reduceLT, Nat.reduceBEq, Int.reduceLT, Int.reduceAdd, Int.reduceBEq, nts_len, fz_len]))
      )
    all_goals first | rfl | contradiction | omega
set_option maxHeartbeats 8000000 in
theorem jl_high (less : Int) (hl : 0 ≤ less ∧ less ≤ 255) : VCalls Try.prog 8 [.int .u8 less, .bool true] [] (Ret (.bool true)) := by
  refine vcalls_dropW (fn := Try.f8) (c := bodyc Try.f8) Try.func8 rfl (by kernel_rfl) (by simp [Try.f8]) ?_
  obtain ⟨z, hz, hz3⟩ : ∃ z : Nat, less.tmod 3 = z ∧ z < 3 := ⟨(less % 3).toNat, by rw [Int.tmod_eq_emod_of_nonneg hl.1]; omega, by omega⟩
  obtain ⟨n, hm⟩ : ∃ n : Nat, (4096 : Int) - z = n := ⟨4096 - z, by omega⟩
  have hmm : 4094 ≤ n ∧ n ≤ 4096 := by omega
  have c0 := awk6_v
  obtain ⟨F, hF⟩ : ∃ F : Int, (1099511627776 : Int) - (n : Int) + 1 = F := ⟨_, rfl⟩
  have hF2 : 1 ≤ F ∧ F + n - 1 ≤ 1099511627776 ∧ F + 1 ≤ 1099511627776 := by omega
  have hr := jlt_high F n hmm hF2 (by omega)
  refine vcut 7 ?_
  generalize restc 7 (bodyc Try.f8) = rest at *
  simp (config := { maxSteps := 2000000 }) (implicitDefEqProofs := false) (disch := first | omega | assumption | (simp only []; done) | fail) only [go_sem, Nat.reduceAdd, Int.reduceAdd, Try.f8, bodyc, headc_seq, headc_zero]
  skip
  repeat' (first
    | (refine vrunG_split (fun hZ => ?_) (fun hZ => ?_) <;> (try rw [hZ]) <;> (try simp only [decide_eq_true_eq, decide_eq_false_iff_not, Bool.or_eq_true, Bool.and_eq_true, Bool.or_eq_false_iff, Bool.and_eq_false_imp, Bool.not_eq_true', Bool.not_eq_false', beq_iff_eq, beq_eq_false_iff_ne, bne_iff_ne, bne_eq_false_iff_eq, ne_eq, Bool.not_eq_eq_eq_not, Bool.not_true, Bool.not_false] at hZ) <;> (try (first | rw [(hZ : _ = false)] | rw [(hZ : _ = true)])) <;> skip)
    | (refine vbr_split (fun hZ => ?_) (fun hZ => ?_) <;> (try rw [hZ]) <;> (try simp only [decide_eq_true_eq, decide_eq_false_iff_not, Bool.or_eq_true, Bool.and_eq_true, Bool.or_eq_false_iff, Bool.and_eq_false_imp, Bool.not_eq_true', Bool.not_eq_false', beq_iff_eq, beq_eq_false_iff_ne, bne_iff_ne, bne_eq_false_iff_eq, ne_eq, Bool.not_eq_eq_eq_not, Bool.not_true, Bool.not_false] at hZ) <;> (try (first | rw [(hZ : _ = false)] | rw [(hZ : _ = true)])) <;> skip)
    | (refine vdrG_split (fun hZ => ?_) (fun hZ => ?_) <;> (try rw [hZ]) <;> (try simp only [decide_eq_true_eq, decide_eq_false_iff_not, Bool.or_eq_true, Bool.and_eq_true, Bool.or_eq_false_iff, Bool.and_eq_false_imp, Bool.not_eq_true', Bool.not_eq_false', beq_iff_eq, beq_eq_false_iff_ne, bne_iff_ne, bne_eq_false_iff_eq, ne_eq, Bool.not_eq_eq_eq_not, Bool.not_true, Bool.not_false] at hZ) <;> (try (first | rw [(hZ : _ = false)] | rw [(hZ : _ = true)])) <;> skip)
    | (refine vc_pure (c0) rfl ?_; (try simp (config := { maxSteps := 2000000 }) (implicitDefEqProofs := false) (disch := first | omega | assumption | (simp only []; done) | fail) only [go_sem, V.splice, ↓reduceIte, reduceCtorEq, Nat.reduceAdd, Nat.reduceLT, Nat.reduceLeDiff, Nat.reduceBEq, Int.reduceLT, Int.reduceAdd, Int.reduceBEq, hz, hm, hF]))
    )
  refine VLoop.nilOwnC 0 1 59 13 rfl rfl ?_
  simp (config := { maxSteps := 2000000 }) (implicitDefEqProofs := false) (disch := first | omega | assumption) only [go_sem]
  refine vloopW (fun t : To n => ⟨132, 0, [(7, .int .i64 t.i), (6, .ptr 0 0), (5, .int .i64 n), (1, .bool true)], [⟨52, true, [.int .i64 F, .own 1 13 0 t.i, .int .i64 (F - 1)]⟩, ⟨59, true, cells encE (nts F t.i)⟩]⟩) (fun t => n - t.i) ⟨0, by omega⟩ (by refine gc_of (keep := [0, 1]) rfl rfl rfl (by decide) ?_ ?_ <;> (repeat' apply And.intro) <;> first | trivial | rfl | exact ⟨_, rfl, rfl, rfl, .inl ⟨rfl, rfl⟩⟩ | exact ⟨_, rfl, rfl, rfl, .inl ⟨cells_nums _ _ _, rfl⟩⟩ | exact ⟨_, rfl, rfl, rfl, .inl ⟨pvs_nums _ _, rfl⟩⟩ | exact ⟨_, rfl, rfl, rfl, .inr ⟨rfl, rfl⟩⟩) ?_
  rintro ⟨i, hi⟩
  dsimp only
  have hb : (i + 1) * 128 ≤ 140737488355328 := by omega
  have hln : (nts F i).length = i := nts_len _ _
  by_cases hi1 : i < n
  · have ha := app_n F i
    (try simp (config := { maxSteps := 2000000 }) (implicitDefEqProofs := false) (disch := first | omega | assumption | (simp only []; done) | fail) only [go_sem, V.splice, V.mk, ↓reduceIte, reduceCtorEq, Nat.reduceAdd, Nat.reduceLeDiff, Nat.reduceBEq, Int.reduceAdd, Int.reduceBEq, lenE, allE, ha, hb, nts_len])
    repeat' (first
      | (refine vrunG_split (fun hZ => ?_) (fun hZ => ?_) <;> (try rw [hZ]) <;> (try simp only [decide_eq_true_eq, decide_eq_false_iff_not, Bool.or_eq_true, Bool.and_eq_true, Bool.or_eq_false_iff, Bool.and_eq_false_imp, Bool.not_eq_true', Bool.not_eq_false', beq_iff_eq, beq_eq_false_iff_ne, bne_iff_ne, bne_eq_false_iff_eq, ne_eq, Bool.not_eq_eq_eq_not, Bool.not_true, Bool.not_false] at hZ) <;> (try (first | rw [(hZ : _ = false)] | rw [(hZ : _ = true)])) <;> skip)
      | (refine vbr_split (fun hZ => ?_) (fun hZ => ?_) <;> (try rw [hZ]) <;> (try simp only [decide_eq_true_eq, decide_eq_false_iff_not, Bool.or_eq_true, Bool.and_eq_true, Bool.or_eq_false_iff, Bool.and_eq_false_imp, Bool.not_eq_true', Bool.not_eq_false', beq_iff_eq, beq_eq_false_iff_ne, bne_iff_ne, bne_eq_false_iff_eq, ne_eq, Bool.not_eq_eq_eq_not, Bool.not_true, Bool.not_false] at hZ) <;> (try (first | rw [(hZ : _ = false)] | rw [(hZ : _ = true)])) <;> skip)
      | (refine vdrG_split (fun hZ => ?_) (fun hZ => ?_) <;> (try rw [hZ]) <;> (try simp only [decide_eq_true_eq, decide_eq_false_iff_not, Bool.or_eq_true, Bool.and_eq_true, Bool.or_eq_false_iff, Bool.and_eq_false_imp, Bool.not_eq_true', Bool.not_eq_false', beq_iff_eq, beq_eq_false_iff_ne, bne_iff_ne, bne_eq_false_iff_eq, ne_eq, Bool.not_eq_eq_eq_not, Bool.not_true, Bool.not_false] at hZ) <;> (try (first | rw [(hZ : _ = false)] | rw [(hZ : _ = true)])) <;> skip)
      )
    refine ⟨⟨i + 1, by omega⟩, by show n - (i + 1) < n - i; omega, ?_⟩
    dsimp only
    exact (by refine gc_of (keep := [0, 3]) rfl rfl rfl (by decide) ?_ ?_ <;> (repeat' apply And.intro) <;> first | trivial | rfl | exact ⟨_, rfl, rfl, rfl, .inl ⟨rfl, rfl⟩⟩ | exact ⟨_, rfl, rfl, rfl, .inl ⟨cells_nums _ _ _, rfl⟩⟩ | exact ⟨_, rfl, rfl, rfl, .inl ⟨pvs_nums _ _, rfl⟩⟩ | exact ⟨_, rfl, rfl, rfl, .inr ⟨rfl, rfl⟩⟩)
  · obtain rfl : n = i := by omega
    (try simp (config := { maxSteps := 2000000 }) (implicitDefEqProofs := false) (disch := first | omega | assumption | (simp only []; done) | fail) only [go_sem, ↓reduceIte, Nat.reduceBEq, Int.reduceBEq])
    repeat' (first
      | (refine vrunG_split (fun hZ => ?_) (fun hZ => ?_) <;> (try rw [hZ]) <;> (try simp only [decide_eq_true_eq, decide_eq_false_iff_not, Bool.or_eq_true, Bool.and_eq_true, Bool.or_eq_false_iff, Bool.and_eq_false_imp, Bool.not_eq_true', Bool.not_eq_false', beq_iff_eq, beq_eq_false_iff_ne, bne_iff_ne, bne_eq_false_iff_eq, ne_eq, Bool.not_eq_eq_eq_not, Bool.not_true, Bool.not_false] at hZ) <;> (try (first | rw [(hZ : _ = false)] | rw [(hZ : _ = true)])) <;> skip)
      | (refine vbr_split (fun hZ => ?_) (fun hZ => ?_) <;> (try rw [hZ]) <;> (try simp only [decide_eq_true_eq, decide_eq_false_iff_not, Bool.or_eq_true, Bool.and_eq_true, Bool.or_eq_false_iff, Bool.and_eq_false_imp, Bool.not_eq_true', Bool.not_eq_false', beq_iff_eq, beq_eq_false_iff_ne, bne_iff_ne, bne_eq_false_iff_eq, ne_eq, Bool.not_eq_eq_eq_not, Bool.not_true, Bool.not_false] at hZ) <;> (try (first | rw [(hZ : _ = false)] | rw [(hZ : _ = true)])) <;> skip)
      | (refine vdrG_split (fun hZ => ?_) (fun hZ => ?_) <;> (try rw [hZ]) <;> (try simp only [decide_eq_true_eq, decide_eq_false_iff_not, Bool.or_eq_true, Bool.and_eq_true, Bool.or_eq_false_iff, Bool.and_eq_false_imp, Bool.not_eq_true', Bool.not_eq_false', beq_iff_eq, beq_eq_false_iff_ne, bne_iff_ne, bne_eq_false_iff_eq, ne_eq, Bool.not_eq_eq_eq_not, Bool.not_true, Bool.not_false] at hZ) <;> (try (first | rw [(hZ : _ = false)] | rw [(hZ : _ = true)])) <;> skip)
      )
    skip
    refine ⟨⟨132, 0, [(6, .ptr 0 0), (5, .int .i64 n), (1, .bool true)], [⟨52, true, [.int .i64 F, .pv (.sl (fz encE (nts F n))), .int .i64 (F - 1)]⟩]⟩, .fzN (n := 1) ⟨rfl, rfl, Nat.zero_le _, by simp, ?_, ?_⟩, hr⟩
    · simp (config := { maxSteps := 2000000 }) (implicitDefEqProofs := false) (disch := first | omega | assumption) only [go_sem, ↓reduceIte, frzE (nts_len F n)]
    · refine ⟨rfl, rfl, rfl, trivial⟩
set_option maxHeartbeats 8000000 in
theorem jlt_low (F : Int) (n : Nat) (hmm : 4094 ≤ n ∧ n ≤ 4096) (hF2 : 1 ≤ F ∧ F + n - 1 ≤ 1099511627776 ∧ F + 1 ≤ 1099511627776) (hFm : F = 1) :
    VWp Try.prog (restc 7 (bodyc Try.f8)) QJ ⟨132, 0, [(6, .ptr 0 0), (5, .int .i64 n), (1, .bool false)], [⟨52, true, [.int .i64 F, .pv (.sl (fz encE (nts F n))), .int .i64 (F - 1)]⟩]⟩ := by
  refine vcode_sound _ _ _ ?_
  have q1 := append_v ⟨F, nts F n, F - 1⟩ (by dsimp only; rw [nts_len]; omega) (nE 0)
  rw [app_nts (by omega) (by omega) (by omega) (by omega) (by omega)] at q1
  have q2 := force_v ⟨F, nts F n, F - 1⟩ (by dsimp only; rw [nts_len]; omega) F
  have q2e : forceS ⟨F, nts F n, F - 1⟩ F = (⟨F, nts F n, F⟩, 0) := force_nts (by omega) (by omega) (by omega) (by omega)
  rw [q2e] at q2
  obtain ⟨m, rfl⟩ : ∃ m, n = m + 1 := ⟨n - 1, by omega⟩
  have q3 := cut_v ⟨F, nts F (m + 1), F⟩ (by dsimp only; rw [nts_len]; omega) (F + 1)
  rw [cut_nts (by omega) (by omega) (by omega) (by omega)] at q3
  have q4 := append_v ⟨F + 1, nts (F + 1) m, F⟩ (by dsimp only; rw [nts_len]; omega) (nE 0)
  rw [app_nts (by omega) (by omega) (by omega) (by omega) (by omega)] at q4
  rw [if_neg (by omega)] at q4
  unfold appD lgD at *
  unfold Lg.c nE E.d at *
  dsimp only [Ch0, Ce0, Lg0] at *
  have hln : (nts F (m + 1)).length = m + 1 := nts_len _ _
  have hln2 : (nts (F + 1) m).length = m := nts_len _ _
  have hln3 : (nts (F + 1) (m + 1)).length = m + 1 := nts_len _ _
  have hln4 : (nts F (m + 2)).length = m + 2 := nts_len _ _
  by_cases h4 : m + 1 = 4096
  · rw [if_pos (.inl h4)] at q1
    dsimp only at q1
    simp (config := { maxSteps := 2000000 }) (implicitDefEqProofs := false) (disch := first | omega | assumption | (simp only []; done) | fail) only [go_sem, V.splice, ↓reduceIte, Nat.reduceAdd, Nat.reduceLeDiff, Nat.reduceBEq, Int.reduceAdd, Int.reduceBEq, Try.f8, bodyc, restc_seq, restc_zero]
    skip
    repeat' (first
      | (refine vrunG_split (fun hZ => ?_) (fun hZ => ?_) <;> (try rw [hZ]) <;> (try simp only [decide_eq_true_eq, decide_eq_false_iff_not, Bool.or_eq_true, Bool.and_eq_true, Bool.or_eq_false_iff, Bool.and_eq_false_imp, Bool.not_eq_true', Bool.not_eq_false', beq_iff_eq, beq_eq_false_iff_ne, bne_iff_ne, bne_eq_false_iff_eq, ne_eq, Bool.not_eq_eq_eq_not, Bool.not_true, Bool.not_false] at hZ) <;> (try (first | rw [(hZ : _ = false)] | rw [(hZ : _ = true)])) <;> skip)
      | (refine vbr_split (fun hZ => ?_) (fun hZ => ?_) <;> (try rw [hZ]) <;> (try simp only [decide_eq_true_eq, decide_eq_false_iff_not, Bool.or_eq_true, Bool.and_eq_true, Bool.or_eq_false_iff, Bool.and_eq_false_imp, Bool.not_eq_true', Bool.not_eq_false', beq_iff_eq, beq_eq_false_iff_ne, bne_iff_ne, bne_eq_false_iff_eq, ne_eq, Bool.not_eq_eq_eq_not, Bool.not_true, Bool.not_false] at hZ) <;> (try (first | rw [(hZ : _ = false)] | rw [(hZ : _ = true)])) <;> skip)
      | (refine vdrG_split (fun hZ => ?_) (fun hZ => ?_) <;> (try rw [hZ]) <;> (try simp only [decide_eq_true_eq, decide_eq_false_iff_not, Bool.or_eq_true, Bool.and_eq_true, Bool.or_eq_false_iff, Bool.and_eq_false_imp, Bool.not_eq_true', Bool.not_eq_false', beq_iff_eq, beq_eq_false_iff_ne, bne_iff_ne, bne_eq_false_iff_eq, ne_eq, Bool.not_eq_eq_eq_not, Bool.not_true, Bool.not_false] at hZ) <;> (try (first | rw [(hZ : _ = false)] | rw [(hZ : _ = true)])) <;> skip)
      | (refine vc_pure (q1) rfl ?_; (try simp (config := { maxSteps := 2000000 }) (implicitDefEqProofs := false) (disch := first | omega | assumption | (simp only []; done) | fail) only [go_sem, V.splice, ↓reduceIte, reduceCtorEq, Nat.reduceAdd, Nat.reduceBEq, Int.reduceAdd, Int.reduceBEq, fz_len]))
      | (refine vc_pure (q2) rfl ?_; (try simp (config := { maxSteps := 2000000 }) (implicitDefEqProofs := false) (disch := first | omega | assumption | (simp only []; done) | fail) only [go_sem, V.splice, ↓reduceIte, reduceCtorEq, Nat.reduceAdd, Nat.reduceBEq, Int.reduceAdd, Int.reduceBEq]))
      | (refine vc_pure (q3) rfl ?_; (try simp (config := { maxSteps := 2000000 }) (implicitDefEqProofs := false) (disch := first | omega | assumption | (simp only []; done) | fail) only [go_sem, V.splice, ↓reduceIte, Nat.reduceAdd, Nat.reduceLeDiff, Nat.reduceBEq, Int.reduceAdd, Int.reduceBEq]))
      | (refine vc_pure (q4) rfl ?_; (try simp (config := { maxSteps := 2000000 }) (implicitDefEqProofs := false) (disch := first | omega | assumption | (simp only []; done) | fail) only [go_sem, V.splice, ↓reduceIte, reduceCtorEq, Nat.reduceAdd, Nat.reduceLT, Nat.reduceBEq, Int.reduceLT, Int.reduceAdd, Int.reduceBEq, nts_len, fz_len]))
      )
    all_goals first | rfl | contradiction | omega
  · rw [if_neg (by omega)] at q1
    dsimp only at q1
    simp (config := { maxSteps := 2000000 }) (implicitDefEqProofs := false) (disch := first | omega | assumption | (simp only []; done) | fail) only [go_sem, V.splice, ↓reduceIte, Nat.reduceAdd, Nat.reduceLeDiff, Nat.reduceBEq, Int.reduceAdd, Int.reduceBEq, Try.f8, bodyc, restc_seq, restc_zero]
    skip
    repeat' (first
      | (refine vrunG_split (fun hZ => ?_) (fun hZ => ?_) <;> (try rw [hZ]) <;> (try simp only [decide_eq_true_eq, decide_eq_false_iff_not, Bool.or_eq_true, Bool.and_eq_true, Bool.or_eq_false_iff, Bool.and_eq_false_imp, Bool.not_eq_true', Bool.not_eq_false', beq_iff_eq, beq_eq_false_iff_ne, bne_iff_ne, bne_eq_false_iff_eq, ne_eq, Bool.not_eq_eq_eq_not, Bool.not_true, Bool.not_false] at hZ) <;> (try (first | rw [(hZ : _ = false)] | rw [(hZ : _ = true)])) <;> skip)
      | (refine vbr_split (fun hZ => ?_) (fun hZ => ?_) <;> (try rw [hZ]) <;> (try simp only [decide_eq_true_eq, decide_eq_false_iff_not, Bool.or_eq_true, Bool.and_eq_true, Bool.or_eq_false_iff, Bool.and_eq_false_imp, Bool.not_eq_true', Bool.not_eq_false', beq_iff_eq, beq_eq_false_iff_ne, bne_iff_ne, bne_eq_false_iff_eq, ne_eq, Bool.not_eq_eq_eq_not, Bool.not_true, Bool.not_false] at hZ) <;> (try (first | rw [(hZ : _ = false)] | rw [(hZ : _ = true)])) <;> skip)
      | (refine vdrG_split (fun hZ => ?_) (fun hZ => ?_) <;> (try rw [hZ]) <;> (try simp only [decide_eq_true_eq, decide_eq_false_iff_not, Bool.or_eq_true, Bool.and_eq_true, Bool.or_eq_false_iff, Bool.and_eq_false_imp, Bool.not_eq_true', Bool.not_eq_false', beq_iff_eq, beq_eq_false_iff_ne, bne_iff_ne, bne_eq_false_iff_eq, ne_eq, Bool.not_eq_eq_eq_not, Bool.not_true, Bool.not_false] at hZ) <;> (try (first | rw [(hZ : _ = false)] | rw [(hZ : _ = true)])) <;> skip)
      | (refine vc_pure (q1) rfl ?_; (try simp (config := { maxSteps := 2000000 }) (implicitDefEqProofs := false) (disch := first | omega | assumption | (simp only []; done) | fail) only [go_sem, V.splice, ↓reduceIte, reduceCtorEq, Nat.reduceAdd, Nat.reduceBEq, Int.reduceAdd, Int.reduceBEq]))
      | (refine vc_pure (q2) rfl ?_; (try simp (config := { maxSteps := 2000000 }) (implicitDefEqProofs := false) (disch := first | omega | assumption | (simp only []; done) | fail) only [go_sem, V.splice, ↓reduceIte, reduceCtorEq, Nat.reduceAdd, Nat.reduceBEq, Int.reduceAdd, Int.reduceBEq]))
      | (refine vc_pure (q3) rfl ?_; (try simp (config := { maxSteps := 2000000 }) (implicitDefEqProofs := false) (disch := first | omega | assumption | (simp only []; done) | fail) only [go_sem, V.splice, ↓reduceIte, Nat.reduceAdd, Nat.reduceLeDiff, Nat.reduceBEq, Int.reduceAdd, Int.reduceBEq]))
      | (refine vc_pure (q4) rfl ?_; (try simp (config := { maxSteps := 2000000 }) (implicitDefEqProofs := false) (disch := first | omega | assumption | (simp only []; done) | fail) only [go_sem, V.splice, ↓reduceIte, reduceCtorEq, Nat.reduceAdd, Nat.reduceLT, Nat.reduceBEq, Int.reduceLT, Int.reduceAdd, Int.reduceBEq, nts_len, fz_len]))
      )
    all_goals first | rfl | contradiction | omega
set_option maxHeartbeats 8000000 in
theorem jl_low (less : Int) (hl : 0 ≤ less ∧ less ≤ 255) : VCalls Try.prog 8 [.int .u8 less, .bool false] [] (Ret (.bool true)) := by
  refine vcalls_dropW (fn := Try.f8) (c := bodyc Try.f8) Try.func8 rfl (by kernel_rfl) (by simp [Try.f8]) ?_
  obtain ⟨z, hz, hz3⟩ : ∃ z : Nat, less.tmod 3 = z ∧ z < 3 := ⟨(less % 3).toNat, by rw [Int.tmod_eq_emod_of_nonneg hl.1]; omega, by omega⟩
  obtain ⟨n, hm⟩ : ∃ n : Nat, (4096 : Int) - z = n := ⟨4096 - z, by omega⟩
  have hmm : 4094 ≤ n ∧ n ≤ 4096 := by omega
  have c0 := awk6_v
  obtain ⟨F, hF⟩ : ∃ F : Int, (1 : Int) = F := ⟨_, rfl⟩
  have hF2 : 1 ≤ F ∧ F + n - 1 ≤ 1099511627776 ∧ F + 1 ≤ 1099511627776 := by omega
  have hr := jlt_low F n hmm hF2 (by omega)
  refine vcut 7 ?_
  generalize restc 7 (bodyc Try.f8) = rest at *
  simp (config := { maxSteps := 2000000 }) (implicitDefEqProofs := false) (disch := first | omega | assumption | (simp only []; done) | fail) only [go_sem, Nat.reduceAdd, Int.reduceAdd, Try.f8, bodyc, headc_seq, headc_zero]
  skip
  repeat' (first
    | (refine vrunG_split (fun hZ => ?_) (fun hZ => ?_) <;> (try rw [hZ]) <;> (try simp only [decide_eq_true_eq, decide_eq_false_iff_not, Bool.or_eq_true, Bool.and_eq_true, Bool.or_eq_false_iff, Bool.and_eq_false_imp, Bool.not_eq_true', Bool.not_eq_false', beq_iff_eq, beq_eq_false_iff_ne, bne_iff_ne, bne_eq_false_iff_eq, ne_eq, Bool.not_eq_eq_eq_not, Bool.not_true, Bool.not_false] at hZ) <;> (try (first | rw [(hZ : _ = false)] | rw [(hZ : _ = true)])) <;> skip)
    | (refine vbr_split (fun hZ => ?_) (fun hZ => ?_) <;> (try rw [hZ]) <;> (try simp only [decide_eq_true_eq, decide_eq_false_iff_not, Bool.or_eq_true, Bool.and_eq_true, Bool.or_eq_false_iff, Bool.and_eq_false_imp, Bool.not_eq_true', Bool.not_eq_false', beq_iff_eq, beq_eq_false_iff_ne, bne_iff_ne, bne_eq_false_iff_eq, ne_eq, Bool.not_eq_eq_eq_not, Bool.not_true, Bool.not_false] at hZ) <;> (try (first | rw [(hZ : _ = false)] | rw [(hZ : _ = true)])) <;> skip)
    | (refine vdrG_split (fun hZ => ?_) (fun hZ => ?_) <;> (try rw [hZ]) <;> (try simp only [decide_eq_true_eq, decide_eq_false_iff_not, Bool.or_eq_true, Bool.and_eq_true, Bool.or_eq_false_iff, Bool.and_eq_false_imp, Bool.not_eq_true', Bool.not_eq_false', beq_iff_eq, beq_eq_false_iff_ne, bne_iff_ne, bne_eq_false_iff_eq, ne_eq, Bool.not_eq_eq_eq_not, Bool.not_true, Bool.not_false] at hZ) <;> (try (first | rw [(hZ : _ = false)] | rw [(hZ : _ = true)])) <;> skip)
    | (refine vc_pure (c0) rfl ?_; (try simp (config := { maxSteps := 2000000 }) (implicitDefEqProofs := false) (disch := first | omega | assumption | (simp only []; done) | fail) only [go_sem, V.splice, ↓reduceIte, reduceCtorEq, Nat.reduceAdd, Nat.reduceLT, Nat.reduceLeDiff, Nat.reduceSub, Nat.reduceBEq, Int.reduceLT, Int.reduceAdd, Int.reduceSub, Int.reduceBEq, hz, hm]))
    )
  refine VLoop.nilOwnC 0 1 59 13 rfl rfl ?_
  simp (config := { maxSteps := 2000000 }) (implicitDefEqProofs := false) (disch := first | omega | assumption) only [go_sem]
  refine vloopW (fun t : To n => ⟨132, 0, [(7, .int .i64 t.i), (6, .ptr 0 0), (5, .int .i64 n), (1, .bool false)], [⟨52, true, [.int .i64 1, .own 1 13 0 t.i, .int .i64 0]⟩, ⟨59, true, cells encE (nts 1 t.i)⟩]⟩) (fun t => n - t.i) ⟨0, by omega⟩ (by refine gc_of (keep := [0, 1]) rfl rfl rfl (by decide) ?_ ?_ <;> (repeat' apply And.intro) <;> first | trivial | rfl | exact ⟨_, rfl, rfl, rfl, .inl ⟨rfl, rfl⟩⟩ | exact ⟨_, rfl, rfl, rfl, .inl ⟨cells_nums _ _ _, rfl⟩⟩ | exact ⟨_, rfl, rfl, rfl, .inl ⟨pvs_nums _ _, rfl⟩⟩ | exact ⟨_, rfl, rfl, rfl, .inr ⟨rfl, rfl⟩⟩) ?_
  rintro ⟨i, hi⟩
  dsimp only
  have hb : (i + 1) * 128 ≤ 140737488355328 := by omega
  have hln : (nts 1 i).length = i := nts_len _ _
  by_cases hi1 : i < n
  · have ha := app_n 1 i
    (try simp (config := { maxSteps := 2000000 }) (implicitDefEqProofs := false) (disch := first | omega | assumption | (simp only []; done) | fail) only [go_sem, V.splice, V.mk, ↓reduceIte, reduceCtorEq, Nat.reduceAdd, Nat.reduceLeDiff, Nat.reduceBEq, Int.reduceAdd, Int.reduceBEq, lenE, allE, ha, hb, nts_len])
    repeat' (first
      | (refine vrunG_split (fun hZ => ?_) (fun hZ => ?_) <;> (try rw [hZ]) <;> (try simp only [decide_eq_true_eq, decide_eq_false_iff_not, Bool.or_eq_true, Bool.and_eq_true, Bool.or_eq_false_iff, Bool.and_eq_false_imp, Bool.not_eq_true', Bool.not_eq_false', beq_iff_eq, beq_eq_false_iff_ne, bne_iff_ne, bne_eq_false_iff_eq, ne_eq, Bool.not_eq_eq_eq_not, Bool.not_true, Bool.not_false] at hZ) <;> (try (first | rw [(hZ : _ = false)] | rw [(hZ : _ = true)])) <;> skip)
      | (refine vbr_split (fun hZ => ?_) (fun hZ => ?_) <;> (try rw [hZ]) <;> (try simp only [decide_eq_true_eq, decide_eq_false_iff_not, Bool.or_eq_true, Bool.and_eq_true, Bool.or_eq_false_iff, Bool.and_eq_false_imp, Bool.not_eq_true', Bool.not_eq_false', beq_iff_eq, beq_eq_false_iff_ne, bne_iff_ne, bne_eq_false_iff_eq, ne_eq, Bool.not_eq_eq_eq_not, Bool.not_true, Bool.not_false] at hZ) <;> (try (first | rw [(hZ : _ = false)] | rw [(hZ : _ = true)])) <;> skip)
      | (refine vdrG_split (fun hZ => ?_) (fun hZ => ?_) <;> (try rw [hZ]) <;> (try simp only [decide_eq_true_eq, decide_eq_false_iff_not, Bool.or_eq_true, Bool.and_eq_true, Bool.or_eq_false_iff, Bool.and_eq_false_imp, Bool.not_eq_true', Bool.not_eq_false', beq_iff_eq, beq_eq_false_iff_ne, bne_iff_ne, bne_eq_false_iff_eq, ne_eq, Bool.not_eq_eq_eq_not, Bool.not_true, Bool.not_false] at hZ) <;> (try (first | rw [(hZ : _ = false)] | rw [(hZ : _ = true)])) <;> skip)
      )
    refine ⟨⟨i + 1, by omega⟩, by show n - (i + 1) < n - i; omega, ?_⟩
    dsimp only
    exact (by refine gc_of (keep := [0, 3]) rfl rfl rfl (by decide) ?_ ?_ <;> (repeat' apply And.intro) <;> first | trivial | rfl | exact ⟨_, rfl, rfl, rfl, .inl ⟨rfl, rfl⟩⟩ | exact ⟨_, rfl, rfl, rfl, .inl ⟨cells_nums _ _ _, rfl⟩⟩ | exact ⟨_, rfl, rfl, rfl, .inl ⟨pvs_nums _ _, rfl⟩⟩ | exact ⟨_, rfl, rfl, rfl, .inr ⟨rfl, rfl⟩⟩)
  · obtain rfl : n = i := by omega
    (try simp (config := { maxSteps := 2000000 }) (implicitDefEqProofs := false) (disch := first | omega | assumption | (simp only []; done) | fail) only [go_sem, ↓reduceIte, Nat.reduceBEq, Int.reduceBEq])
    repeat' (first
      | (refine vrunG_split (fun hZ => ?_) (fun hZ => ?_) <;> (try rw [hZ]) <;> (try simp only [decide_eq_true_eq, decide_eq_false_iff_not, Bool.or_eq_true, Bool.and_eq_true, Bool.or_eq_false_iff, Bool.and_eq_false_imp, Bool.not_eq_true', Bool.not_eq_false', beq_iff_eq, beq_eq_false_iff_ne, bne_iff_ne, bne_eq_false_iff_eq, ne_eq, Bool.not_eq_eq_eq_not, Bool.not_true, Bool.not_false] at hZ) <;> (try (first | rw [(hZ : _ = false)] | rw [(hZ : _ = true)])) <;> skip)
      | (refine vbr_split (fun hZ => ?_) (fun hZ => ?_) <;> (try rw [hZ]) <;> (try simp only [decide_eq_true_eq, decide_eq_false_iff_not, Bool.or_eq_true, Bool.and_eq_true, Bool.or_eq_false_iff, Bool.and_eq_false_imp, Bool.not_eq_true', Bool.not_eq_false', beq_iff_eq, beq_eq_false_iff_ne, bne_iff_ne, bne_eq_false_iff_eq, ne_eq, Bool.not_eq_eq_eq_not, Bool.not_true, Bool.not_false] at hZ) <;> (try (first | rw [(hZ : _ = false)] | rw [(hZ : _ = true)])) <;> skip)
      | (refine vdrG_split (fun hZ => ?_) (fun hZ => ?_) <;> (try rw [hZ]) <;> (try simp only [decide_eq_true_eq, decide_eq_false_iff_not, Bool.or_eq_true, Bool.and_eq_true, Bool.or_eq_false_iff, Bool.and_eq_false_imp, Bool.not_eq_true', Bool.not_eq_false', beq_iff_eq, beq_eq_false_iff_ne, bne_iff_ne, bne_eq_false_iff_eq, ne_eq, Bool.not_eq_eq_eq_not, Bool.not_true, Bool.not_false] at hZ) <;> (try (first | rw [(hZ : _ = false)] | rw [(hZ : _ = true)])) <;> skip)
      )
    subst hF; replace hr : VWp Try.prog rest QJ ⟨132, 0, [(6, .ptr 0 0), (5, .int .i64 n), (1, .bool false)], [⟨52, true, [.int .i64 1, .pv (.sl (fz encE (nts 1 n))), .int .i64 0]⟩]⟩ := hr
    refine ⟨⟨132, 0, [(6, .ptr 0 0), (5, .int .i64 n), (1, .bool false)], [⟨52, true, [.int .i64 1, .pv (.sl (fz encE (nts 1 n))), .int .i64 0]⟩]⟩, .fzN (n := 1) ⟨rfl, rfl, Nat.zero_le _, by simp, ?_, ?_⟩, hr⟩
    · simp (config := { maxSteps := 2000000 }) (implicitDefEqProofs := false) (disch := first | omega | assumption) only [go_sem, ↓reduceIte, frzE (nts_len 1 n)]
    · refine ⟨rfl, rfl, rfl, trivial⟩
theorem jl_all (less : Int) (hl : 0 ≤ less ∧ less ≤ 255) (high : Bool) : VCalls Try.prog 8 [.int .u8 less, .bool high] [] (Ret (.bool true)) := by
  cases high
  · exact jl_low less hl
  · exact jl_high less hl
end Go.Proofs.Ytjjjlkjhojdnnaa
