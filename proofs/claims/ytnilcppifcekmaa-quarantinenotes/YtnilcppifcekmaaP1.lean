/-
  Contracts of functions and plain laws. No condition.
-/
import Derived.Test.YtnilcppifcekmaaProg
import Derived.Test.YtnilcppifcekmaaV3
import Derived.KernelRfl
set_option linter.unusedSimpArgs false
set_option linter.unusedVariables false
set_option maxRecDepth 100000
set_option maxHeartbeats 8000000
namespace Go.Proofs
open Go.V
theorem Try.vt3 : vt Try.prog 3 = some none := by kernel_rfl
theorem Try.vkind3 : vkind Try.prog 3 = .int .i64 := by kernel_rfl
theorem Try.vzero3 : vzero Try.prog 3 = some [.pv (.lit (.int .i64 0))] := by kernel_rfl
theorem Try.bytes3 : bytesT Try.prog 3 = some 8 := by kernel_rfl
theorem Try.vt4 : vt Try.prog 4 = some none := by kernel_rfl
theorem Try.vkind4 : vkind Try.prog 4 = .bool := by kernel_rfl
theorem Try.vzero4 : vzero Try.prog 4 = some [.pv (.lit (.bool false))] := by kernel_rfl
theorem Try.vt5 : vt Try.prog 5 = some none := by kernel_rfl
theorem Try.vkind5 : vkind Try.prog 5 = .int .u8 := by kernel_rfl
theorem Try.vzero5 : vzero Try.prog 5 = some [.pv (.lit (.int .u8 0))] := by kernel_rfl
theorem Try.bytes5 : bytesT Try.prog 5 = some 1 := by kernel_rfl
theorem Try.vt9 : vt Try.prog 9 = some none := by kernel_rfl
theorem Try.notInt9 : notInt Try.prog 9 = true := by kernel_rfl
theorem Try.vkind9 : vkind Try.prog 9 = .str := by kernel_rfl
theorem Try.vt22 : vt Try.prog 22 = some none := by kernel_rfl
theorem Try.velem22 : velem Try.prog 22 = some (none, 5, 1) := by kernel_rfl
theorem Try.notInt22 : notInt Try.prog 22 = true := by kernel_rfl
theorem Try.vkind22 : vkind Try.prog 22 = .sl 5 := by kernel_rfl
theorem Try.vt26 : vt Try.prog 26 = some none := by kernel_rfl
theorem Try.velem26 : velem Try.prog 26 = some (none, 41, 13) := by kernel_rfl
theorem Try.notInt26 : notInt Try.prog 26 = true := by kernel_rfl
theorem Try.vkind26 : vkind Try.prog 26 = .sl 41 := by kernel_rfl
theorem Try.vt28 : vt Try.prog 28 = some (some 3) := by kernel_rfl
theorem Try.vfield28x0 : vfield Try.prog 28 0 = some (3, 0, 1) := by kernel_rfl
theorem Try.vfield28x1 : vfield Try.prog 28 1 = some (26, 1, 1) := by kernel_rfl
theorem Try.vfield28x2 : vfield Try.prog 28 2 = some (3, 2, 1) := by kernel_rfl
theorem Try.vplaces28 : vplaces Try.prog 28 = some fun j => ([(0, 1), (1, 1), (2, 1)] : List (Nat × Nat))[j]? := by kernel_rfl
theorem Try.vzero28 : vzero Try.prog 28 = some [.pv (.lit (.int .i64 0)), .pv (.slc []), .pv (.lit (.int .i64 0))] := by kernel_rfl
theorem Try.vt31 : vt Try.prog 31 = some none := by kernel_rfl
theorem Try.velem31 : velem Try.prog 31 = some (none, 61, 2) := by kernel_rfl
theorem Try.notInt31 : notInt Try.prog 31 = true := by kernel_rfl
theorem Try.vkind31 : vkind Try.prog 31 = .sl 61 := by kernel_rfl
theorem Try.vt32 : vt Try.prog 32 = some none := by kernel_rfl
theorem Try.velem32 : velem Try.prog 32 = some (none, 3, 1) := by kernel_rfl
theorem Try.notInt32 : notInt Try.prog 32 = true := by kernel_rfl
theorem Try.vkind32 : vkind Try.prog 32 = .sl 3 := by kernel_rfl
theorem Try.vt34 : vt Try.prog 34 = some (some 4) := by kernel_rfl
theorem Try.vfield34x0 : vfield Try.prog 34 0 = some (3, 0, 1) := by kernel_rfl
theorem Try.vfield34x1 : vfield Try.prog 34 1 = some (3, 1, 1) := by kernel_rfl
theorem Try.vfield34x2 : vfield Try.prog 34 2 = some (31, 2, 1) := by kernel_rfl
theorem Try.vfield34x3 : vfield Try.prog 34 3 = some (32, 3, 1) := by kernel_rfl
theorem Try.vplaces34 : vplaces Try.prog 34 = some fun j => ([(0, 1), (1, 1), (2, 1), (3, 1)] : List (Nat × Nat))[j]? := by kernel_rfl
theorem Try.vzero34 : vzero Try.prog 34 = some [.pv (.lit (.int .i64 0)), .pv (.lit (.int .i64 0)), .pv (.slc []), .pv (.slc [])] := by kernel_rfl
theorem Try.vt37 : vt Try.prog 37 = some (some 2) := by kernel_rfl
theorem Try.vfield37x0 : vfield Try.prog 37 0 = some (4, 0, 1) := by kernel_rfl
theorem Try.vfield37x1 : vfield Try.prog 37 1 = some (9, 1, 1) := by kernel_rfl
theorem Try.vt39 : vt Try.prog 39 = some (some 6) := by kernel_rfl
theorem Try.vfield39x0 : vfield Try.prog 39 0 = some (3, 0, 1) := by kernel_rfl
theorem Try.vfield39x1 : vfield Try.prog 39 1 = some (3, 1, 1) := by kernel_rfl
theorem Try.vfield39x2 : vfield Try.prog 39 2 = some (37, 2, 2) := by kernel_rfl
theorem Try.vfield39x3 : vfield Try.prog 39 3 = some (37, 4, 2) := by kernel_rfl
theorem Try.vplaces39 : vplaces Try.prog 39 = some fun j => ([(0, 1), (1, 1), (2, 2), (4, 2)] : List (Nat × Nat))[j]? := by kernel_rfl
theorem Try.vzero39 : vzero Try.prog 39 = some [.pv (.lit (.int .i64 0)), .pv (.lit (.int .i64 0)), .pv (.lit (.bool false)), .pv (.str []), .pv (.lit (.bool false)), .pv (.str [])] := by kernel_rfl
theorem Try.leaves39 : leaves Try.prog 8 39 = some [(0, 1), (1, 1), (2, 0), (3, 2), (4, 0), (5, 2)] := by kernel_rfl
theorem Try.eqg39 : Try.prog.eqGuardType Try.prog.depth 39 = false := by kernel_rfl
theorem Try.vt41 : vt Try.prog 41 = some (some 13) := by kernel_rfl
theorem Try.vfield41x0 : vfield Try.prog 41 0 = some (3, 0, 1) := by kernel_rfl
theorem Try.vfield41x1 : vfield Try.prog 41 1 = some (3, 1, 1) := by kernel_rfl
theorem Try.vfield41x2 : vfield Try.prog 41 2 = some (3, 2, 1) := by kernel_rfl
theorem Try.vfield41x3 : vfield Try.prog 41 3 = some (3, 3, 1) := by kernel_rfl
theorem Try.vfield41x4 : vfield Try.prog 41 4 = some (3, 4, 1) := by kernel_rfl
theorem Try.vfield41x5 : vfield Try.prog 41 5 = some (3, 5, 1) := by kernel_rfl
theorem Try.vfield41x6 : vfield Try.prog 41 6 = some (39, 6, 6) := by kernel_rfl
theorem Try.vfield41x7 : vfield Try.prog 41 7 = some (9, 12, 1) := by kernel_rfl
theorem Try.vplaces41 : vplaces Try.prog 41 = some fun j => ([(0, 1), (1, 1), (2, 1), (3, 1), (4, 1), (5, 1), (6, 6), (12, 1)] : List (Nat × Nat))[j]? := by kernel_rfl
theorem Try.vzero41 : vzero Try.prog 41 = some [.pv (.lit (.int .i64 0)), .pv (.lit (.int .i64 0)), .pv (.lit (.int .i64 0)), .pv (.lit (.int .i64 0)), .pv (.lit (.int .i64 0)), .pv (.lit (.int .i64 0)), .pv (.lit (.int .i64 0)), .pv (.lit (.int .i64 0)), .pv (.lit (.bool false)), .pv (.str []), .pv (.lit (.bool false)), .pv (.str []), .pv (.str [])] := by kernel_rfl
theorem Try.bytes41 : bytesT Try.prog 41 = some 128 := by kernel_rfl
theorem Try.leaves41 : leaves Try.prog 8 41 = some [(0, 1), (1, 1), (2, 1), (3, 1), (4, 1), (5, 1), (6, 1), (7, 1), (8, 0), (9, 2), (10, 0), (11, 2), (12, 2)] := by kernel_rfl
theorem Try.eqg41 : Try.prog.eqGuardType Try.prog.depth 41 = false := by kernel_rfl
theorem Try.vfield59x0 : vfield Try.prog 59 0 = some (22, 0, 1) := by kernel_rfl
theorem Try.vfield59x1 : vfield Try.prog 59 1 = some (3, 1, 1) := by kernel_rfl
theorem Try.vplaces59 : vplaces Try.prog 59 = some fun j => ([(0, 1), (1, 1)] : List (Nat × Nat))[j]? := by kernel_rfl
theorem Try.vzero59 : vzero Try.prog 59 = some [.pv (.slc []), .pv (.lit (.int .i64 0))] := by kernel_rfl
theorem Try.vt61 : vt Try.prog 61 = some (some 2) := by kernel_rfl
theorem Try.vfield61x0 : vfield Try.prog 61 0 = some (3, 0, 1) := by kernel_rfl
theorem Try.vfield61x1 : vfield Try.prog 61 1 = some (3, 1, 1) := by kernel_rfl
theorem Try.vplaces61 : vplaces Try.prog 61 = some fun j => ([(0, 1), (1, 1)] : List (Nat × Nat))[j]? := by kernel_rfl
theorem Try.vzero61 : vzero Try.prog 61 = some [.pv (.lit (.int .i64 0)), .pv (.lit (.int .i64 0))] := by kernel_rfl
theorem Try.bytes61 : bytesT Try.prog 61 = some 16 := by kernel_rfl
theorem Try.leaves61 : leaves Try.prog 8 61 = some [(0, 1), (1, 1)] := by kernel_rfl
theorem Try.eqg61 : Try.prog.eqGuardType Try.prog.depth 61 = false := by kernel_rfl
theorem Try.vt66 : vt Try.prog 66 = some none := by kernel_rfl
theorem Try.velem72 : velem Try.prog 72 = some (some 64, 4, 1) := by kernel_rfl
theorem Try.vzero72 : vzero Try.prog 72 = some [.pv (.lit (.bool false)), .pv (.lit (.bool false)), .pv (.lit (.bool false)), .pv (.lit (.bool false)), .pv (.lit (.bool false)), .pv (.lit (.bool false)), .pv (.lit (.bool false)), .pv (.lit (.bool false)), .pv (.lit (.bool false)), .pv (.lit (.bool false)), .pv (.lit (.bool false)), .pv (.lit (.bool false)), .pv (.lit (.bool false)), .pv (.lit (.bool false)), .pv (.lit (.bool false)), .pv (.lit (.bool false)), .pv (.lit (.bool false)), .pv (.lit (.bool false)), .pv (.lit (.bool false)), .pv (.lit (.bool false)), .pv (.lit (.bool false)), .pv (.lit (.bool false)), .pv (.lit (.bool false)), .pv (.lit (.bool false)), .pv (.lit (.bool false)), .pv (.lit (.bool false)), .pv (.lit (.bool false)), .pv (.lit (.bool false)), .pv (.lit (.bool false)), .pv (.lit (.bool false)), .pv (.lit (.bool false)), .pv (.lit (.bool false)), .pv (.lit (.bool false)), .pv (.lit (.bool false)), .pv (.lit (.bool false)), .pv (.lit (.bool false)), .pv (.lit (.bool false)), .pv (.lit (.bool false)), .pv (.lit (.bool false)), .pv (.lit (.bool false)), .pv (.lit (.bool false)), .pv (.lit (.bool false)), .pv (.lit (.bool false)), .pv (.lit (.bool false)), .pv (.lit (.bool false)), .pv (.lit (.bool false)), .pv (.lit (.bool false)), .pv (.lit (.bool false)), .pv (.lit (.bool false)), .pv (.lit (.bool false)), .pv (.lit (.bool false)), .pv (.lit (.bool false)), .pv (.lit (.bool false)), .pv (.lit (.bool false)), .pv (.lit (.bool false)), .pv (.lit (.bool false)), .pv (.lit (.bool false)), .pv (.lit (.bool false)), .pv (.lit (.bool false)), .pv (.lit (.bool false)), .pv (.lit (.bool false)), .pv (.lit (.bool false)), .pv (.lit (.bool false)), .pv (.lit (.bool false))] := by kernel_rfl
theorem Try.vt83 : vt Try.prog 83 = some none := by kernel_rfl
theorem Try.vfield85x0 : vfield Try.prog 85 0 = some (83, 0, 1) := by kernel_rfl
theorem Try.vfield85x1 : vfield Try.prog 85 1 = some (22, 1, 1) := by kernel_rfl
theorem Try.vzero85 : vzero Try.prog 85 = some [.pv (.lit (.pointer none)), .pv (.lit (.slice none 0 0))] := by kernel_rfl
theorem Try.vkind91 : vkind Try.prog 91 = .int .u64 := by kernel_rfl
theorem Try.vkind93 : vkind Try.prog 93 = .int .u64 := by kernel_rfl
theorem Try.vt99 : vt Try.prog 99 = some (some 2) := by kernel_rfl
theorem Try.vfield99x0 : vfield Try.prog 99 0 = some (9, 0, 1) := by kernel_rfl
theorem Try.vfield99x1 : vfield Try.prog 99 1 = some (4, 1, 1) := by kernel_rfl
theorem Try.vplaces99 : vplaces Try.prog 99 = some fun j => ([(0, 1), (1, 1)] : List (Nat × Nat))[j]? := by kernel_rfl
theorem Try.vzero99 : vzero Try.prog 99 = some [.pv (.str []), .pv (.lit (.bool false))] := by kernel_rfl
theorem Try.vt110 : vt Try.prog 110 = some none := by kernel_rfl
theorem Try.vt112 : vt Try.prog 112 = some (some 7) := by kernel_rfl
theorem Try.vfield112x0 : vfield Try.prog 112 0 = some (4, 0, 1) := by kernel_rfl
theorem Try.vfield112x1 : vfield Try.prog 112 1 = some (4, 1, 1) := by kernel_rfl
theorem Try.vfield112x2 : vfield Try.prog 112 2 = some (4, 2, 1) := by kernel_rfl
theorem Try.vfield112x3 : vfield Try.prog 112 3 = some (4, 3, 1) := by kernel_rfl
theorem Try.vfield112x4 : vfield Try.prog 112 4 = some (4, 4, 1) := by kernel_rfl
theorem Try.vfield112x5 : vfield Try.prog 112 5 = some (66, 5, 1) := by kernel_rfl
theorem Try.vfield112x6 : vfield Try.prog 112 6 = some (110, 6, 1) := by kernel_rfl
theorem Try.vplaces112 : vplaces Try.prog 112 = some fun j => ([(0, 1), (1, 1), (2, 1), (3, 1), (4, 1), (5, 1), (6, 1)] : List (Nat × Nat))[j]? := by kernel_rfl
theorem Try.vzero112 : vzero Try.prog 112 = some [.pv (.lit (.bool false)), .pv (.lit (.bool false)), .pv (.lit (.bool false)), .pv (.lit (.bool false)), .pv (.lit (.bool false)), .pv (.lit .nilFunc), .pv (.lit .nilFunc)] := by kernel_rfl
theorem Try.vt113 : vt Try.prog 113 = some (some 63) := by kernel_rfl
theorem Try.velem113 : velem Try.prog 113 = some (some 9, 112, 7) := by kernel_rfl
theorem Try.vplaces113 : vplaces Try.prog 113 = some fun j => some (j * 7, 7) := by kernel_rfl
theorem Try.vzero113 : vzero Try.prog 113 = some [.pv (.lit (.bool false)), .pv (.lit (.bool false)), .pv (.lit (.bool false)), .pv (.lit (.bool false)), .pv (.lit (.bool false)), .pv (.lit .nilFunc), .pv (.lit .nilFunc), .pv (.lit (.bool false)), .pv (.lit (.bool false)), .pv (.lit (.bool false)), .pv (.lit (.bool false)), .pv (.lit (.bool false)), .pv (.lit .nilFunc), .pv (.lit .nilFunc), .pv (.lit (.bool false)), .pv (.lit (.bool false)), .pv (.lit (.bool false)), .pv (.lit (.bool false)), .pv (.lit (.bool false)), .pv (.lit .nilFunc), .pv (.lit .nilFunc), .pv (.lit (.bool false)), .pv (.lit (.bool false)), .pv (.lit (.bool false)), .pv (.lit (.bool false)), .pv (.lit (.bool false)), .pv (.lit .nilFunc), .pv (.lit .nilFunc), .pv (.lit (.bool false)), .pv (.lit (.bool false)), .pv (.lit (.bool false)), .pv (.lit (.bool false)), .pv (.lit (.bool false)), .pv (.lit .nilFunc), .pv (.lit .nilFunc), .pv (.lit (.bool false)), .pv (.lit (.bool false)), .pv (.lit (.bool false)), .pv (.lit (.bool false)), .pv (.lit (.bool false)), .pv (.lit .nilFunc), .pv (.lit .nilFunc), .pv (.lit (.bool false)), .pv (.lit (.bool false)), .pv (.lit (.bool false)), .pv (.lit (.bool false)), .pv (.lit (.bool false)), .pv (.lit .nilFunc), .pv (.lit .nilFunc), .pv (.lit (.bool false)), .pv (.lit (.bool false)), .pv (.lit (.bool false)), .pv (.lit (.bool false)), .pv (.lit (.bool false)), .pv (.lit .nilFunc), .pv (.lit .nilFunc), .pv (.lit (.bool false)), .pv (.lit (.bool false)), .pv (.lit (.bool false)), .pv (.lit (.bool false)), .pv (.lit (.bool false)), .pv (.lit .nilFunc), .pv (.lit .nilFunc)] := by kernel_rfl
attribute [go_sem] Try.vt3 Try.vkind3 Try.vzero3 Try.bytes3 Try.vt4 Try.vkind4 Try.vzero4 Try.vt5 Try.vkind5 Try.vzero5 Try.bytes5 Try.vt9 Try.notInt9 Try.vkind9 Try.vt22 Try.velem22 Try.notInt22 Try.vkind22 Try.vt26 Try.velem26 Try.notInt26 Try.vkind26 Try.vt28 Try.vfield28x0 Try.vfield28x1 Try.vfield28x2 Try.vplaces28 Try.vzero28 Try.vt31 Try.velem31 Try.notInt31 Try.vkind31 Try.vt32 Try.velem32 Try.notInt32 Try.vkind32 Try.vt34 Try.vfield34x0 Try.vfield34x1 Try.vfield34x2 Try.vfield34x3 Try.vplaces34 Try.vzero34 Try.vt37 Try.vfield37x0 Try.vfield37x1 Try.vt39 Try.vfield39x0 Try.vfield39x1 Try.vfield39x2 Try.vfield39x3 Try.vplaces39 Try.vzero39 Try.leaves39 Try.eqg39 Try.vt41 Try.vfield41x0 Try.vfield41x1 Try.vfield41x2 Try.vfield41x3 Try.vfield41x4 Try.vfield41x5 Try.vfield41x6 Try.vfield41x7 Try.vplaces41 Try.vzero41 Try.bytes41 Try.leaves41 Try.eqg41 Try.vfield59x0 Try.vfield59x1 Try.vplaces59 Try.vzero59 Try.vt61 Try.vfield61x0 Try.vfield61x1 Try.vplaces61 Try.vzero61 Try.bytes61 Try.leaves61 Try.eqg61 Try.vt66 Try.velem72 Try.vzero72 Try.vt83 Try.vfield85x0 Try.vfield85x1 Try.vzero85 Try.vkind91 Try.vkind93 Try.vt99 Try.vfield99x0 Try.vfield99x1 Try.vplaces99 Try.vzero99 Try.vt110 Try.vt112 Try.vfield112x0 Try.vfield112x1 Try.vfield112x2 Try.vfield112x3 Try.vfield112x4 Try.vfield112x5 Try.vfield112x6 Try.vplaces112 Try.vzero112 Try.vt113 Try.velem113 Try.vplaces113 Try.vzero113
end Go.Proofs
namespace Go.Proofs.Ytnilcppifcekmaa
open Go.V Go
theorem pe : isPtr Try.prog 83 = true := by kernel_rfl
theorem cto : toU Try.prog 83 116 = true := by kernel_rfl
theorem cfr : frU Try.prog 116 83 85 = true := by kernel_rfl
theorem cob : Try.prog.cellsOf 85 = 2 := by kernel_rfl
theorem uok : ustrOk Try.prog 109 5 = true := by kernel_rfl
theorem noEscape_v (x : DV) (hp : Heap) : VCalls Try.prog 72 [x] hp fun r h' => r = x ∧ h' = hp :=
  vcalls_same Try.func72 (by kernel_rfl) (by kernel_rfl) rfl rfl
def nilP : DV := .pv (.lit (.pointer none))
def bld (a b : DV) : Blk := ⟨85, true, [a, b]⟩
def bE : DV := .pv (.lit (.slice none 0 0))
theorem check0 : VCalls Try.prog 65 [.ptr 0 0] [bld nilP bE] (fun r h' => r = .tup [] ∧ h' = [bld (.ptr 0 0) bE]) := by
  refine vcalls_keep (fn := Try.f65) Try.func65 rfl (by kernel_rfl) (by simp [Try.f65]) ?_
  simp (config := { maxSteps := 2000000 }) (implicitDefEqProofs := false) (disch := first | omega | assumption | (simp only []; done) | fail) only [go_sem, ↓reduceIte, reduceCtorEq, Nat.reduceAdd, Nat.reduceBEq, Int.reduceAdd, Int.reduceBEq, Try.f65, bld, nilP, bE, ptrEq_eql pe, ptrEq_neq pe, convPtr_to cto, convPtr_from cfr, ofConst_ptr]
  refine (noEscape_v _ _).mono ?_
  rintro r h' ⟨rfl, rfl⟩
  simp (config := { maxSteps := 2000000 }) (implicitDefEqProofs := false) (disch := first | omega | assumption | (simp only []; done) | fail) only [go_sem, ↓reduceIte, reduceCtorEq, Nat.reduceAdd, Nat.reduceBEq, Int.reduceAdd, Int.reduceBEq, ptrEq_eql pe, ptrEq_neq pe, convPtr_to cto, convPtr_from cfr, cob, results_nil]
def bufB (l : List UInt8) : Blk := ⟨5, true, cells encU l⟩
theorem check2 (l : List UInt8) : VCalls Try.prog 65 [.ptr 0 0] [bld (.ptr 0 0) (.own 1 1 0 l.length), bufB l] (fun r h' => r = .tup [] ∧ h' = [bld (.ptr 0 0) (.own 1 1 0 l.length), bufB l]) := by
  refine vcalls_keep (fn := Try.f65) Try.func65 rfl (by kernel_rfl) (by simp [Try.f65]) ?_
  simp (config := { maxSteps := 2000000 }) (implicitDefEqProofs := false) (disch := first | omega | assumption | (simp only []; done) | fail) only [go_sem, ↓reduceIte, reduceCtorEq, Nat.reduceAdd, Nat.reduceLT, Nat.reduceBEq, Int.reduceLT, Int.reduceAdd, Int.reduceBEq, Try.f65, bld, bufB, ptrEq_eql pe, ptrEq_neq pe, convPtr_to cto, convPtr_from cfr, ofConst_ptr, results_nil]
theorem ws0 (s : List UInt8) (hs : s.length ≤ 1100000000) : VCalls Try.prog 45 [.ptr 0 0, .pv (.str s)] [bld nilP bE] (fun r h' => r = .tup [.int .i64 s.length, .pv (.lit .nilIface)] ∧ h' = [bld (.ptr 0 0) (.own 1 1 0 s.length), bufB s]) := by
  refine vcalls_keep (fn := Try.f45) Try.func45 rfl (by kernel_rfl) (by simp [Try.f45]) ?_
  simp (config := { maxSteps := 2000000 }) (implicitDefEqProofs := false) (disch := first | omega | assumption | (simp only []; done) | fail) only [go_sem, Nat.reduceAdd, Nat.reduceBEq, Int.reduceAdd, Int.reduceBEq, Try.f45, bld, nilP, bE, ptrEq_eql pe, ptrEq_neq pe, convPtr_to cto, convPtr_from cfr, ofConst_nilIface]
  refine check0.mono ?_
  rintro r h' ⟨rfl, rfl⟩
  have hs2 : s.length ≤ 140737488355328 := by omega
  simp (config := { maxSteps := 2000000 }) (implicitDefEqProofs := false) (disch := first | omega | assumption | (simp only []; done) | fail) only [go_sem, ↓reduceIte, reduceCtorEq, Nat.reduceAdd, Nat.reduceLT, Nat.reduceBEq, Int.reduceLT, Int.reduceAdd, Int.reduceBEq, bld, bE, ptrEq_eql pe, ptrEq_neq pe, convPtr_to cto, convPtr_from cfr, ofConst_nilIface, hs2, bufB, cellsU]
theorem wb_v (l : List UInt8) (b : UInt8) (hl : l.length ≤ 1100000000) : VCalls Try.prog 46 [.ptr 0 0, .int .u8 b.toNat] [bld (.ptr 0 0) (.own 1 1 0 l.length), bufB l] (fun r h' => r = .pv (.lit .nilIface) ∧ h' = [bld (.ptr 0 0) (.own 3 1 0 (l ++ [b]).length), ⟨5, false, []⟩, bufB [b], bufB (l ++ [b])]) := by
  refine vcalls_keep (fn := Try.f46) Try.func46 rfl (by kernel_rfl) (by simp [Try.f46]) ?_
  simp (config := { maxSteps := 2000000 }) (implicitDefEqProofs := false) (disch := first | omega | assumption | (simp only []; done) | fail) only [go_sem, Nat.reduceAdd, Nat.reduceBEq, Int.reduceAdd, Int.reduceBEq, Try.f46, bld, bufB, ptrEq_eql pe, ptrEq_neq pe, convPtr_to cto, convPtr_from cfr, ofConst_nilIface]
  refine (check2 l).mono ?_
  rintro r h' ⟨rfl, rfl⟩
  have hs2 : l.length + 1 ≤ 140737488355328 := by omega
  simp (config := { maxSteps := 2000000 }) (implicitDefEqProofs := false) (disch := first | omega | assumption | (simp only []; done) | fail) only [go_sem, V.splice, V.mk, ↓reduceIte, reduceCtorEq, Nat.reduceAdd, Nat.reduceLT, Nat.reduceLeDiff, Nat.reduceBEq, Int.reduceLT, Int.reduceAdd, Int.reduceBEq, bld, bufB, ptrEq_eql pe, ptrEq_neq pe, convPtr_to cto, convPtr_from cfr, ofConst_nilIface, hs2]
  have e1 : (cells encU l).take l.length = cells encU l := by rw [List.take_of_length_le]; rw [cellsU_len]; exact Nat.le_refl _
  rw [e1, cells_app, List.length_append]
  rfl
theorem str_v (l : List UInt8) (hl : l.length ≤ 1100000000) (h0 : 0 < l.length) : VCalls Try.prog 47 [.ptr 0 0] [bld (.ptr 0 0) (.own 1 1 0 l.length), bufB l] (fun r h' => r = .pv (.str l) ∧ h' = [bld (.ptr 0 0) (.own 1 1 0 l.length), ⟨5, false, []⟩]) := by
  refine vcalls_keep (fn := Try.f47) Try.func47 rfl (by kernel_rfl) (by simp [Try.f47]) ?_
  simp (config := { maxSteps := 2000000 }) (implicitDefEqProofs := false) (disch := first | omega | assumption | (simp only []; done) | fail) only [go_sem, Nat.reduceAdd, Int.reduceAdd, Try.f47, bld, bufB, ptrEq_eql pe, ptrEq_neq pe, convPtr_to cto, convPtr_from cfr]
  refine vspine (id := 1) [0, 1, 2, 3, 5, 6, 7, 8, 9] [⟨[], [], 4, [0, 1, 2, 5, 6, 7, 8, 9], []⟩, ⟨[], [], 10, [0, 1, 2, 3, 5, 6, 7, 8], []⟩, ⟨[], [], 11, [], []⟩] (by kernel_rfl) (by kernel_rfl) ?_
  have hu := ustr_eq (P := Try.prog) (hp := [bld (.ptr 0 0) (.own 1 1 0 l.length), bufB l]) (k := 1) (n := l.length) uok rfl rfl h0 (by omega)
  simp only [bld, bufB] at hu
  simp (config := { maxSteps := 2000000 }) (implicitDefEqProofs := false) (disch := first | omega | assumption | (simp only []; done) | fail) only [go_sem, ↓reduceIte, reduceCtorEq, Nat.reduceLT, Nat.reduceBEq, Int.reduceLT, Int.reduceBEq, ptrEq_eql pe, ptrEq_neq pe, convPtr_to cto, convPtr_from cfr, sdata_own h0, hu]
end Go.Proofs.Ytnilcppifcekmaa
namespace Go.Proofs.Ytnilcppifcekmaa
open Go.V Go
def byteX (n : Int) (i : Nat) : Int := IntKind.u8.wrap ((IntKind.u64.wrap n).fdiv (2 ^ min (8 * (i : Int)).toNat 64))
def byteI (n : Int) (i : Nat) : UInt8 := UInt8.ofNat (byteX n i).toNat
theorem wrap_u8_eq (x : Int) : IntKind.u8.wrap x = x % 256 := by
  simp [IntKind.wrap, IntKind.signed, IntKind.bits]
theorem byteI_eq (n : Int) (i : Nat) : byteX n i = ((byteI n i).toNat : Int) := by
  unfold byteI byteX
  rw [wrap_u8_eq]
  generalize (IntKind.u64.wrap n).fdiv (2 ^ min (8 * (i : Int)).toNat 64) = y
  simp only [UInt8.toNat_ofNat']
  omega
def putL (s : List UInt8) (n : Int) (k : Nat) : List UInt8 := s ++ (List.range k).map (byteI n)
theorem putL_len (s : List UInt8) (n : Int) (k : Nat) : (putL s n k).length = s.length + k := by simp [putL]
theorem putL_succ (s : List UInt8) (n : Int) (k : Nat) : putL s n (k + 1) = putL s n k ++ [byteI n k] := by simp [putL, List.range_succ]
theorem put_v (s : List UInt8) (hs : s.length ≤ 1000000000) (n : Int) (k : Nat) (h1 : 1 ≤ k) (h8 : k ≤ 8) : VCalls Try.prog 23 [.pv (.str s), .int .i64 n, .int .i64 k] [] (Ret (.pv (.str (putL s n k)))) := by
  refine dd Try.func23 ?_
  simp (config := { maxSteps := 2000000 }) (implicitDefEqProofs := false) (disch := first | omega | assumption | (simp only []; done) | fail) only [go_sem, ↓reduceIte, Nat.reduceAdd, Nat.reduceBEq, Int.reduceAdd, Int.reduceBEq, Try.f23]
  refine (ws0 s (by omega)).mono ?_
  rintro r h' ⟨rfl, rfl⟩
  simp (config := { maxSteps := 2000000 }) (implicitDefEqProofs := false) (disch := first | omega | assumption | (simp only []; done) | fail) only [go_sem, Nat.reduceBEq, Int.reduceBEq, bld]
  refine vloopW (fun i : {i : Nat // i ≤ k} => ⟨31, 0, [(19, .int .i64 i.1), (18, .int .i64 k), (7, .ptr 0 0), (1, .int .i64 n)], [bld (.ptr 0 0) (.own 1 1 0 (putL s n i.1).length), bufB (putL s n i.1)]⟩) (fun i => k - i.1) ⟨0, by omega⟩ (.inl (by simpa only [putL, List.range_zero, List.map_nil, List.append_nil] using (by refine ⟨rfl, rfl, by simp, ?_, ?_, .inr ⟨?_, ?_⟩⟩ <;> (repeat' apply And.intro) <;> first | rfl | trivial | (intro _; first | rfl | apply cells_refs)))) ?_
  intro i
  obtain ⟨i, hi⟩ := i
  dsimp only
  simp (config := { maxSteps := 2000000 }) (implicitDefEqProofs := false) (disch := first | omega | assumption | (simp only []; done) | fail) only [go_sem, Nat.reduceBEq, Int.reduceBEq, bld, bufB]
  refine vbr_split (fun hc => ?_) (fun hc => ?_) <;> simp only [decide_eq_true_eq, decide_eq_false_iff_not, Bool.or_eq_true, Bool.and_eq_true, Bool.or_eq_false_iff, Bool.and_eq_false_imp, Bool.not_eq_true', Bool.not_eq_false', beq_iff_eq, beq_eq_false_iff_ne, bne_iff_ne, bne_eq_false_iff_eq, ne_eq] at hc
  · simp (config := { maxSteps := 2000000 }) (implicitDefEqProofs := false) (disch := first | omega | assumption | (simp only []; done) | fail) only [go_sem, Nat.reduceBEq, Int.reduceBEq]
    have hw := wb_v (putL s n i) (byteI n i) (by rw [putL_len]; omega)
    rw [← byteI_eq] at hw
    refine hw.mono ?_
    rintro r h' ⟨rfl, rfl⟩
    simp (config := { maxSteps := 2000000 }) (implicitDefEqProofs := false) (disch := first | omega | assumption | (simp only []; done) | fail) only [go_sem, Nat.reduceBEq, Int.reduceBEq, bld, bufB]
    refine ⟨⟨i + 1, by omega⟩, by show k - (i + 1) < k - i; omega, ?_⟩
    rw [putL_succ]
    refine gc_of (keep := [0, 3]) rfl rfl rfl (by decide) ⟨⟨_, rfl, rfl, rfl, .inr ⟨rfl, rfl⟩⟩, ⟨_, rfl, rfl, rfl, .inl ⟨?_, rfl⟩⟩, trivial⟩ ?_
    · show DV.nums.go _ (cells encU _) = true
      exact cells_nums _ _ _
    · refine ⟨⟨rfl, rfl⟩, ⟨rfl, rfl⟩, ⟨rfl, rfl⟩, ⟨rfl, rfl⟩, trivial⟩
  · simp (config := { maxSteps := 2000000 }) (implicitDefEqProofs := false) (disch := first | omega | assumption | (simp only []; done) | fail) only [go_sem, ↓reduceIte, Nat.reduceLT, Nat.reduceBEq, Int.reduceLT, Int.reduceBEq]
    have hik : i = k := by omega
    subst hik
    refine (str_v (putL s n i) (by rw [putL_len]; omega) (by rw [putL_len]; omega)).mono ?_
    rintro r h' ⟨rfl, rfl⟩
    simp (config := { maxSteps := 2000000 }) (implicitDefEqProofs := false) (disch := first | omega | assumption | (simp only []; done) | fail) only [go_sem]
theorem btsF : bts Try.prog 22 9 = true := by kernel_rfl
theorem rput_v (s : List UInt8) (hs : s.length ≤ 1000000000) (n : Int) (k : Nat) (h1 : 1 ≤ k) (h8 : k ≤ 8) : VCalls Try.prog 24 [.pv (.str s), .int .i64 n, .int .i64 k] [] (Ret (.pv (.str (putL s n k)))) := by
  refine dd Try.func24 ?_
  simp (config := { maxSteps := 2000000 }) (implicitDefEqProofs := false) (disch := first | omega | assumption | (simp only []; done) | fail) only [go_sem, Nat.reduceAdd, Nat.reduceBEq, Int.reduceAdd, Int.reduceBEq, Try.f24]
  refine vloopW (fun i : {i : Nat // i ≤ k} => ⟨32, 0, [(7, .int .i64 i.1), (2, .int .i64 k), (0, .pv (.str (putL s n i.1))), (1, .int .i64 n)], []⟩) (fun i => k - i.1) ⟨0, by omega⟩ (.inl (by simpa only [putL, List.range_zero, List.map_nil, List.append_nil] using (by refine ⟨rfl, rfl, by simp, ?_, ?_, .inr ⟨?_, ?_⟩⟩ <;> (repeat' apply And.intro) <;> first | rfl | trivial | (intro _; first | rfl | apply cells_refs)))) ?_
  intro i
  obtain ⟨i, hi⟩ := i
  dsimp only
  simp (config := { maxSteps := 2000000 }) (implicitDefEqProofs := false) (disch := first | omega | assumption | (simp only []; done) | fail) only [go_sem, Nat.reduceBEq, Int.reduceBEq]
  refine vbr_split (fun hc => ?_) (fun hc => ?_) <;> simp only [decide_eq_true_eq, decide_eq_false_iff_not, Bool.or_eq_true, Bool.and_eq_true, Bool.or_eq_false_iff, Bool.and_eq_false_imp, Bool.not_eq_true', Bool.not_eq_false', beq_iff_eq, beq_eq_false_iff_ne, bne_iff_ne, bne_eq_false_iff_eq, ne_eq] at hc
  · have hw8 : IntKind.u64.wrap (8 * (i : Int)) = 8 * (i : Int) := by simp [IntKind.wrap, IntKind.signed, IntKind.bits]; omega
    have hl : (putL s n i).length + 1 ≤ 9223372036854775807 := by rw [putL_len]; omega
    simp (config := { maxSteps := 2000000 }) (implicitDefEqProofs := false) (disch := first | omega | assumption | (simp only []; done) | fail) only [go_sem, V.splice, V.mk, ↓reduceIte, Nat.reduceLT, Nat.reduceLeDiff, Nat.reduceBEq, Int.reduceLT, Int.reduceBEq, hw8, conv_bts btsF, vcso_one]
    refine ⟨⟨i + 1, by omega⟩, by show k - (i + 1) < k - i; omega, ?_⟩
    rw [putL_succ]
    refine gc_of (keep := []) rfl rfl rfl (by decide) trivial ?_
    refine ⟨⟨rfl, rfl⟩, ⟨rfl, rfl⟩, ⟨rfl, rfl⟩, ⟨rfl, rfl⟩, trivial⟩
  · simp (config := { maxSteps := 2000000 }) (implicitDefEqProofs := false) (disch := first | omega | assumption | (simp only []; done) | fail) only [go_sem, ↓reduceIte, Nat.reduceLT, Nat.reduceBEq, Int.reduceLT, Int.reduceBEq]
    have hik : i = k := by omega
    rw [hik]
end Go.Proofs.Ytnilcppifcekmaa
namespace Go.Proofs.Ytnilcppifcekmaa
open Go.V Go
def cb (c : C) : Blk := ⟨59, true, cc c⟩
abbrev CX (R : DV → Prop) : DV → Heap → Prop := fun r h' => ∃ B', h' = [B'] ∧ B'.live = true ∧ DV.nums.go (fun _ => false) B'.cells = true ∧ r.nums (fun _ => false) = true ∧ (R r ∧ ∃ c', B' = cb c')
theorem vc_cx {g : FuncId} {args : List DV} {hp : Heap} {k : Nat} {c : C} {R : DV → Prop} {K : DV → Heap → Prop} (h : VCalls Try.prog g (args.map (DV.ren fun _ => 0)) [cb c] (CX R)) (hk : hp[k]? = some (cb c))
    (ha : DV.nums.go (fun i => i == k) args = true) (hK : ∀ r c', R r → K r (hp.set k (cb c'))) : VCalls Try.prog g args hp K :=
  (VCalls.ptr1 (R := fun r B' => R r ∧ ∃ c', B' = cb c') hk rfl (cc_nums c) h ha).mono fun r h' ⟨B', e1, _, _, e2, e3⟩ => by subst e1; obtain ⟨c', rfl⟩ := e3; exact hK r c' e2
abbrev Nx (n : Nat) : DV → Prop := fun r => ∃ x : Nat, r = .int .i64 x ∧ x < n
theorem next0_v (c : C) (n : Nat) (h1 : 1 ≤ n) (hn : n ≤ 256) : VCalls Try.prog 7 [.ptr 0 0, .int .i64 n] [cb c] (CX (Nx n)) := by
  refine dd Try.func7 ?_
  have ha := c.ha
  have hl := c.hl
  simp (config := { maxSteps := 2000000 }) (implicitDefEqProofs := false) (disch := first | omega | assumption | (simp only []; done) | fail) only [go_sem, Nat.reduceAdd, Int.reduceAdd, Try.f7, cb, cc]
  refine vdraw (by kernel_rfl) (by kernel_rfl) ?_
  by_cases a : c.at_ < c.l.length
  · simp (config := { maxSteps := 2000000 }) (implicitDefEqProofs := false) (disch := first | omega | assumption | (simp only []; done) | fail) only [go_sem, ↓reduceIte, reduceCtorEq, Nat.reduceAdd, Nat.reduceBEq, Int.reduceAdd, Int.reduceBEq]
    refine vdraw (by kernel_rfl) (by kernel_rfl) ?_
    have hg := fzU_get c.l c.at_ a
    have hh : (c.l.getD c.at_ 0).toNat < 256 := UInt8.toNat_lt _
    simp (config := { maxSteps := 2000000 }) (implicitDefEqProofs := false) (disch := first | omega | assumption | (simp only [List.length_cons, List.length_nil, Nat.zero_add]; done) | fail) only [go_sem, ↓reduceIte, reduceCtorEq, Nat.reduceAdd, Nat.reduceLT, Nat.reduceBEq, Int.reduceLT, Int.reduceAdd, Int.reduceBEq, hg]
    obtain ⟨y, hy, hlt⟩ := tmod_lt' (c.l.getD c.at_ 0).toNat n h1
    refine ⟨_, rfl, rfl, rfl, rfl, ⟨y, by rw [hy], hlt⟩, ⟨c.l, c.at_ + 1, a, hl⟩, rfl⟩
  · simp (config := { maxSteps := 2000000 }) (implicitDefEqProofs := false) (disch := first | omega | assumption | (simp only []; done) | fail) only [go_sem, ↓reduceIte, reduceCtorEq, Nat.reduceAdd, Nat.reduceBEq, Int.reduceAdd, Int.reduceBEq]
    exact ⟨_, rfl, rfl, rfl, rfl, ⟨0, rfl, h1⟩, c, rfl⟩
theorem next_v (c : C) (n : Nat) (h1 : 1 ≤ n) (hn : n ≤ 1000000000) : VCalls Try.prog 7 [.ptr 0 0, .int .i64 n] [cb c] (CX (Nx n)) := by
  by_cases hs : n ≤ 256
  · exact next0_v c n h1 hs
  refine dd Try.func7 ?_
  have ha := c.ha
  have hl := c.hl
  simp (config := { maxSteps := 2000000 }) (implicitDefEqProofs := false) (disch := first | omega | assumption | (simp only []; done) | fail) only [go_sem, Nat.reduceAdd, Int.reduceAdd, Try.f7, cb, cc]
  refine vdraw (by kernel_rfl) (by kernel_rfl) ?_
  by_cases a : c.at_ < c.l.length
  · simp (config := { maxSteps := 2000000 }) (implicitDefEqProofs := false) (disch := first | omega | assumption | (simp only []; done) | fail) only [go_sem, ↓reduceIte, reduceCtorEq, Nat.reduceAdd, Nat.reduceBEq, Int.reduceAdd, Int.reduceBEq]
    refine vdraw (by kernel_rfl) (by kernel_rfl) ?_
    have hg := fzU_get c.l c.at_ a
    have hh : (c.l.getD c.at_ 0).toNat < 256 := UInt8.toNat_lt _
    generalize hx : (c.l.getD c.at_ 0).toNat = x at hg hh
    simp (config := { maxSteps := 2000000 }) (implicitDefEqProofs := false) (disch := first | omega | assumption | (simp only [List.length_cons, List.length_nil, Nat.zero_add]; done) | fail) only [go_sem, ↓reduceIte, reduceCtorEq, Nat.reduceAdd, Nat.reduceLT, Nat.reduceBEq, Int.reduceLT, Int.reduceAdd, Int.reduceBEq, hg]
    refine vc_cx (k := 0) (c := ⟨c.l, c.at_ + 1, a, hl⟩) (next0_v _ 256 (by omega) (by omega)) rfl rfl ?_
    rintro r c' ⟨z, rfl, hz⟩
    simp (config := { maxSteps := 2000000 }) (implicitDefEqProofs := false) (disch := first | omega | assumption | (simp only []; done) | fail) only [go_sem, Nat.reduceBEq, Int.reduceBEq, cb, cc]
    obtain ⟨y, hy, hlt⟩ := tmod_lt' (256 * x + z) n h1
    have e : (256 * (x : Int) + (z : Int)) = ((256 * x + z : Nat) : Int) := by omega
    refine ⟨_, rfl, rfl, rfl, rfl, ⟨y, by rw [e, hy], hlt⟩, c', rfl⟩
  · simp (config := { maxSteps := 2000000 }) (implicitDefEqProofs := false) (disch := first | omega | assumption | (simp only []; done) | fail) only [go_sem, ↓reduceIte, reduceCtorEq, Nat.reduceAdd, Nat.reduceBEq, Int.reduceAdd, Int.reduceBEq]
    exact ⟨_, rfl, rfl, rfl, rfl, ⟨0, rfl, h1⟩, c, rfl⟩
theorem next_i (c : C) (m : Int) (h1 : 1 ≤ m) (hn : m ≤ 1000000000) : VCalls Try.prog 7 [.ptr 0 0, .int .i64 m] [cb c] (CX (Nx m.toNat)) := by
  have h := next_v c m.toNat (by omega) (by omega)
  rwa [show ((m.toNat : Nat) : Int) = m by omega] at h
theorem draw_v (l : List UInt8) (most : Nat) (hm : 1 ≤ most) (h : most ≤ 1000000) (hl : l.length ≤ 9223372036854775807) : VCalls Try.prog 5 [.pv (.sl (fz encU l)), .int .i64 most] [] fun r h' => ∃ B, h' = [B] ∧ r = .ptr 0 0 ∧ B.live = true ∧ DV.nums.go (fun _ => false) B.cells = true ∧ ∃ c, B = cb c := by
  refine vcalls_keep (fn := Try.f5) Try.func5 rfl (by kernel_rfl) (by simp [Try.f5]) ?_
  simp (config := { maxSteps := 2000000 }) (implicitDefEqProofs := false) (disch := first | omega | assumption | (simp only []; done) | fail) only [go_sem, Nat.reduceAdd, Nat.reduceBEq, Int.reduceAdd, Int.reduceBEq, Try.f5]
  refine vbr_split (fun hc => ?_) (fun hc => ?_) <;> simp only [decide_eq_true_eq, decide_eq_false_iff_not, Bool.or_eq_true, Bool.and_eq_true, Bool.or_eq_false_iff, Bool.and_eq_false_imp, Bool.not_eq_true', Bool.not_eq_false', beq_iff_eq, beq_eq_false_iff_ne, bne_iff_ne, bne_eq_false_iff_eq, ne_eq] at hc
  · have hx : (fz encU l)[0]?.map List.length = some 1 := fz_has encU l (by omega)
    have ht : (fz encU l).take most = fz encU (l.take most) := fz_take encU l most
    have hh : most ≤ (fz encU l).length := by rw [fz_len]; omega
    have h0 : (0 : Nat) ≤ most := by omega
    simp (config := { maxSteps := 2000000 }) (implicitDefEqProofs := false) (disch := first | omega | assumption | (simp only []; done) | fail) only [go_sem, V.splice, ↓reduceIte, Nat.reduceAdd, Nat.reduceLT, Nat.reduceLeDiff, Nat.reduceBEq, Int.reduceLT, Int.reduceAdd, Int.reduceBEq, ht]
    exact ⟨_, rfl, rfl, rfl, ⟨l.take most, 0, by omega, by rw [List.length_take]; omega⟩, rfl⟩
  · simp (config := { maxSteps := 2000000 }) (implicitDefEqProofs := false) (disch := first | omega | assumption | (simp only []; done) | fail) only [go_sem, V.splice, ↓reduceIte, Nat.reduceAdd, Nat.reduceLT, Nat.reduceLeDiff, Nat.reduceBEq, Int.reduceLT, Int.reduceAdd, Int.reduceBEq]
    exact ⟨_, rfl, rfl, rfl, ⟨l, 0, by omega, by omega⟩, rfl⟩
theorem vc_draw {l : List UInt8} {most : Nat} {hp : Heap} {K : DV → Heap → Prop} (hm : 1 ≤ most) (h : most ≤ 1000000) (hl : l.length ≤ 9223372036854775807) (hK : ∀ c, K (.ptr hp.length 0) (hp ++ [cb c])) : VCalls Try.prog 5 [.pv (.sl (fz encU l)), .int .i64 most] hp K :=
  (VCalls.new (draw_v l most hm h hl) rfl).mono fun r h' ⟨B, e1, e2, _, _, c, e3⟩ => by subst e1 e2 e3; exact hK c
theorem btsC : bts Try.prog 22 9 = true := by kernel_rfl
abbrev Sx (n : Nat) : DV → Prop := fun r => ∃ t : List UInt8, r = .pv (.str t) ∧ t.length ≤ n + 1
theorem spoilt_v (c : C) (s : List UInt8) (hs : s.length ≤ 900000000) : VCalls Try.prog 11 [.ptr 0 0, .pv (.str s)] [cb c] (CX (Sx s.length)) := by
  refine dd Try.func11 ?_
  simp (config := { maxSteps := 2000000 }) (implicitDefEqProofs := false) (disch := first | omega | assumption | (simp only []; done) | fail) only [go_sem, Nat.reduceAdd, Nat.reduceBEq, Int.reduceAdd, Int.reduceBEq, Try.f11]
  refine vbr_split (fun h0 => ?_) (fun h0 => ?_) <;> simp only [decide_eq_true_eq, decide_eq_false_iff_not, Bool.or_eq_true, Bool.and_eq_true, Bool.or_eq_false_iff, Bool.and_eq_false_imp, Bool.not_eq_true', Bool.not_eq_false', beq_iff_eq, beq_eq_false_iff_ne, bne_iff_ne, bne_eq_false_iff_eq, ne_eq] at h0
  · simp (config := { maxSteps := 2000000 }) (implicitDefEqProofs := false) (disch := first | omega | assumption | (simp only []; done) | fail) only [go_sem, Nat.reduceBEq, Int.reduceBEq]
    refine vc_cx (k := 0) (c := c) (next_v c 256 (by omega) (by omega)) rfl rfl ?_
    rintro r c' ⟨z, rfl, hz⟩
    simp (config := { maxSteps := 2000000 }) (implicitDefEqProofs := false) (disch := first | omega | assumption | (simp only []; done) | fail) only [go_sem, V.splice, V.mk, ↓reduceIte, Nat.reduceLT, Nat.reduceLeDiff, Int.reduceLT, cb, conv_bts btsC, vcso_one]
    exact ⟨_, rfl, rfl, rfl, rfl, ⟨_, rfl, by (try simp only [List.length_append, List.length_drop, List.length_take, List.length_cons, List.length_nil]); omega⟩, c', rfl⟩
  · have hs1 : 1 ≤ s.length := by omega
    simp (config := { maxSteps := 2000000 }) (implicitDefEqProofs := false) (disch := first | omega | assumption | (simp only []; done) | fail) only [go_sem, Nat.reduceBEq, Int.reduceBEq]
    refine vc_cx (k := 0) (c := c) (next_v c s.length hs1 (by omega)) rfl rfl ?_
    rintro r c1 ⟨k, rfl, hk⟩
    simp (config := { maxSteps := 2000000 }) (implicitDefEqProofs := false) (disch := first | omega | assumption | (simp only []; done) | fail) only [go_sem, Nat.reduceBEq, Int.reduceBEq]
    refine vc_cx (k := 0) (c := c1) (next_v c1 4 (by omega) (by omega)) rfl rfl ?_
    rintro r c2 ⟨z, rfl, hz⟩
    simp (config := { maxSteps := 2000000 }) (implicitDefEqProofs := false) (disch := first | omega | assumption | (simp only []; done) | fail) only [go_sem]
    have hk1 : ((k : Int) + 1).toNat = k + 1 := by omega
    refine vbr_split (fun hz0 => ?_) (fun hz0 => ?_) <;> simp only [decide_eq_true_eq, decide_eq_false_iff_not, Bool.or_eq_true, Bool.and_eq_true, Bool.or_eq_false_iff, Bool.and_eq_false_imp, Bool.not_eq_true', Bool.not_eq_false', beq_iff_eq, beq_eq_false_iff_ne, bne_iff_ne, bne_eq_false_iff_eq, ne_eq] at hz0
    · simp (config := { maxSteps := 2000000 }) (implicitDefEqProofs := false) (disch := first | omega | assumption) only [go_sem]
      refine vdraw (by kernel_rfl) (by kernel_rfl) ?_
      have q1 : k ≤ s.length := by omega
      have q2 : k + 1 ≤ s.length := by omega
      have q3 : (0 : Int) ≤ (k : Int) + 1 := by omega
      simp (config := { maxSteps := 2000000 }) (implicitDefEqProofs := false) (disch := first | omega | assumption | (simp only []; done) | (simp only [List.length_take, List.length_drop] <;> omega) | fail) only [go_sem, Nat.reduceAdd, Nat.reduceBEq, Int.reduceAdd, Int.reduceBEq, hk1]
      refine ⟨_, rfl, rfl, rfl, rfl, ⟨_, rfl, ?_⟩, c2, rfl⟩
      (try simp only [List.length_append, List.length_drop, List.length_take, List.length_cons, List.length_nil])
      omega
    · simp (config := { maxSteps := 2000000 }) (implicitDefEqProofs := false) (disch := first | omega | assumption | (simp only []; done) | fail) only [go_sem, Nat.reduceBEq, Int.reduceBEq]
      refine vbr_split (fun hz1 => ?_) (fun hz1 => ?_) <;> simp only [decide_eq_true_eq, decide_eq_false_iff_not, Bool.or_eq_true, Bool.and_eq_true, Bool.or_eq_false_iff, Bool.and_eq_false_imp, Bool.not_eq_true', Bool.not_eq_false', beq_iff_eq, beq_eq_false_iff_ne, bne_iff_ne, bne_eq_false_iff_eq, ne_eq] at hz1
      · simp (config := { maxSteps := 2000000 }) (implicitDefEqProofs := false) (disch := first | omega | assumption | (simp only []; done) | fail) only [go_sem, Nat.reduceBEq, Int.reduceBEq]
        refine vc_cx (k := 0) (c := c2) (next_v c2 256 (by omega) (by omega)) rfl rfl ?_
        rintro r c3 ⟨z, rfl, hz⟩
        simp (config := { maxSteps := 2000000 }) (implicitDefEqProofs := false) (disch := first | omega | assumption | (simp only []; done) | (simp only [List.length_cons, List.length_nil] <;> omega) | fail) only [go_sem, V.splice, V.mk, ↓reduceIte, Nat.reduceLT, Nat.reduceLeDiff, Nat.reduceBEq, Int.reduceLT, Int.reduceBEq, cb, conv_bts btsC, vcso_one]
        refine ⟨_, rfl, rfl, rfl, rfl, ⟨_, rfl, ?_⟩, c3, rfl⟩
        (try simp only [List.length_append, List.length_drop, List.length_take, List.length_cons, List.length_nil])
        omega
      · simp (config := { maxSteps := 2000000 }) (implicitDefEqProofs := false) (disch := first | omega | assumption) only [go_sem]
        refine vspineT (id := 9) [[], [], [0, 1], [], [], [3, 4], [], [6], [6, 7], [6, 7, 8], [3, 4, 5, 6, 7, 8, 9], [3, 4, 5, 6, 7, 8, 9, 10], [3, 4, 5, 6, 7, 8, 9, 10, 11], [0, 1, 2, 3, 4, 5, 6, 7, 8, 9, 10, 11, 12], [], [], [15], [14, 15, 16], [0, 1, 2, 3, 4, 5, 6, 7, 8, 9, 10, 11, 12, 13, 14, 15, 16, 17], [0, 1, 2, 3, 4, 5, 6, 7, 8, 9, 10, 11, 12, 13, 14, 15, 16, 17, 18]] [0, 1, 2, 3, 4, 5, 6, 14, 15, 16, 17] [⟨[], [], 7, [0, 1, 2, 3, 4, 5, 14, 15, 16, 17], [8, 9, 10]⟩, ⟨[], [], 11, [0, 1, 2, 14, 15, 16, 17], [12, 13, 18]⟩, ⟨[], [], 19, [], []⟩] (by kernel_rfl) (by kernel_rfl) (by kernel_rfl) ?_
        have q1 : k ≤ s.length := by omega
        have q2 : k + 1 ≤ s.length := by omega
        have q3 : (0 : Int) ≤ (k : Int) + 1 := by omega
        have hg : s[k]? = some (s.getD k 0) := by rw [List.getD_eq_getElem?_getD, List.getElem?_eq_getElem hk]; rfl
        simp (config := { maxSteps := 2000000 }) (implicitDefEqProofs := false) (disch := first | omega | assumption | (simp only []; done) | fail) only [go_sem, Nat.reduceBEq, Int.reduceBEq, hg, hk1]
        refine vc_cx (k := 0) (c := c2) (next_v c2 255 (by omega) (by omega)) rfl rfl ?_
        rintro r c3 ⟨z, rfl, hz⟩
        simp (config := { maxSteps := 2000000 }) (implicitDefEqProofs := false) (disch := first | omega | assumption | (simp only []; done) | (simp only [List.length_append, List.length_cons, List.length_nil, List.length_take, List.length_drop] <;> omega) | fail) only [go_sem, V.splice, V.mk, ↓reduceIte, Nat.reduceLT, Nat.reduceLeDiff, Nat.reduceBEq, Int.reduceLT, Int.reduceBEq, cb, cc, conv_bts btsC, vcso_one]
        refine ⟨_, rfl, rfl, rfl, rfl, ⟨_, rfl, ?_⟩, c3, rfl⟩
        (try simp only [List.length_append, List.length_drop, List.length_take, List.length_cons, List.length_nil])
        omega
end Go.Proofs.Ytnilcppifcekmaa
namespace Go.Proofs.Ytnilcppifcekmaa
open Go.V Go
abbrev noKQ : Nat → Bool := fun _ => false
structure Pass {α : Type} (l : List α) (p : α → Prop) where
  i : Nat
  hi : i ≤ l.length
  no : ∀ x ∈ l.take i, ¬ p x
def Pass.start {α : Type} (l : List α) (p : α → Prop) : Pass l p := ⟨0, Nat.zero_le _, by simp⟩
def Pass.next {α : Type} {l : List α} {p : α → Prop} (s : Pass l p) (h : s.i < l.length) (hp : ¬ p l[s.i]) : Pass l p :=
  ⟨s.i + 1, h, fun x hx => by
    rw [List.take_succ_eq_append_getElem h, List.mem_append] at hx
    rcases hx with hx | hx
    · exact s.no x hx
    · simp at hx; subst hx; exact hp⟩
theorem Pass.all {α : Type} {l : List α} {p : α → Prop} (s : Pass l p) (h : ¬ s.i < l.length) : ∀ x ∈ l, ¬ p x := by
  have := s.no
  rwa [List.take_of_length_le (by omega)] at this
def idxP {α : Type} (l : List α) (p : α → Bool) : Int := if l.any p = true then (l.findIdx p : Int) else -1
theorem idxP_at {α : Type} (l : List α) (p : α → Bool) (i : Nat) (h : i < l.length) (hx : p l[i] = true) (no : ∀ x ∈ l.take i, ¬ p x = true) : idxP l p = i := by
  rw [idxP, if_pos (List.any_eq_true.2 ⟨l[i], List.getElem_mem h, hx⟩)]
  congr 1
  rw [List.findIdx_eq h]
  refine ⟨hx, fun j hj => ?_⟩
  have := no l[j] (List.mem_take_iff_getElem.2 ⟨j, by omega, rfl⟩)
  simpa using this
theorem cells_all {α : Type} (e : Enc α) (l : List α) (n : Nat) (h : n = l.length * e.sz) : (cells e l).take n = cells e l := by rw [List.take_of_length_le]; rw [cells_len]; omega
theorem fz_at {α : Type} (e : Enc α) (l : List α) (i : Nat) (h : i < l.length) : (fz e l)[i]? = some (e.enc l[i]) := fz_get e l i h
structure Pl where
  pg : Int
  ad : Int
def encP : Enc Pl := ⟨2, fun p => [.lit (.int .i64 p.pg), .lit (.int .i64 p.ad)], by omega, fun _ => rfl⟩
theorem cloneI_v (l : List Int) (hl : l.length ≤ 1000000) : VCalls Try.prog 36 [.pv (.sl (fz encI l))] [] (NewSl noKQ [] 1 l.length 3 (cells encI l)) := by
  refine VCalls.newSl ?_
  by_cases hz : l = []
  · subst hz
    refine VCalls.open0 fun ad cap hs => ?_
    refine vcalls_keep (fn := Try.f36) Try.func36 rfl (by kernel_rfl) (by simp [Try.f36]) ?_
    simp (config := { maxSteps := 2000000 }) (implicitDefEqProofs := false) (disch := first | omega | assumption | (simp only []; done) | fail) only [vop_move, vcallee_move, vop_assign, vcallee_assign, vop_binOp, vcallee_binOp, bin2_nil, vnilT_sl, vnilc_eql, isNil_lit, strip_pv, optV_none, ev_tmp, ev_const, ofConst_slice, put_some, at_mk, fits_some, ↓look_cons, ↓vlook_t, ↓vlook_f, guard_none, ↓vrun_nil, ↓code_region, ↓code_seq, ↓onNormal_normal, enum_nil, enum_cons, evG_eq, ↓vrun_cons, ↓run1_some, ↓runG_true, ↓run2_none, ↓run3_some, ↓code_cond, ↓vtest_bool, at_hp, List.toList_toArray, List.length_nil, Option.map_some, Nat.reduceLT, Nat.reduceBEq, Int.reduceLT, Int.reduceBEq, Nat.zero_add, true_and, Bool.true_and, beq_self_eq_true, dec_t, Try.f36, Try.underlying32]
    refine vbr_split (fun h => ?_) (fun h => ?_)
    · simp (config := { maxSteps := 2000000 }) (implicitDefEqProofs := false) (disch := first | omega | assumption | (simp only []; done) | fail) only [vop_assign, vcallee_assign, strip_pv, optV_none, ev_const, ofConst_slice, put_some, at_mk, fits_some, ↓look_cons, ↓vlook_t, guard_none, ↓vrun_nil, ↓code_region, ↓code_seq, ↓code_ret, ↓onNormal_normal, ↓onNormal_ret, res_one, vres_tmp, evG_eq, ↓vrun_cons, ↓run1_some, ↓runG_true, ↓run2_none, ↓run3_some, ↓keep_ret, vfinK_some, at_hp, Nat.reduceLT, Int.reduceLT, true_and, Bool.true_and, beq_self_eq_true, dec_t]
      exact ⟨by simp, .inl ⟨rfl, rfl, rfl⟩⟩
    · simp (config := { maxSteps := 2000000 }) (implicitDefEqProofs := false) (disch := first | omega | assumption | (simp only []; done) | fail) only [vop_move, vcallee_move, vop_assign, vcallee_assign, vop_buildSlice, vcallee_buildSlice, vop_builtin, vcallee_builtin, strip_pv, strip_own, optV_none, ev_tmp, put_some, at_mk, fits_some, ↓look_cons, ↓vlook_t, ↓vlook_f, guard_none, ↓vrun_nil, ↓code_skip, ↓code_region, ↓code_seq, ↓code_ret, ↓onNormal_normal, res_one, vres_tmp, allOne_nil, allOne_cons, one_pv, bi_append, ap2_own, parts_nil, evG_eq, ↓vrun_cons, ↓run1_some, ↓runG_true, ↓run2_none, ↓run3_some, ↓keep_ret, vfinK_some, at_hp, List.map_nil, vfill, vbuildSlice, V.mk, vsrc, vbase, vappend, V.kill, List.getElem?_cons_zero, List.length_cons, List.length_nil, List.map_cons, List.map_nil, List.cons_append, List.nil_append, List.append_nil, List.take_nil, List.set_cons_zero, Option.map_some, ↓reduceIte, Nat.reduceLT, Nat.reduceLeDiff, Nat.reduceBEq, Int.reduceLT, Int.reduceBEq, Nat.zero_add, Nat.add_zero, Nat.zero_mul, Nat.mul_one, true_and, and_self, Bool.true_and, Bool.and_self, beq_self_eq_true, Nat.le_refl, Try.vzero3, Try.bytes3, Try.velem32, Try.notInt32, dec_t]
      exact ⟨by simp, .inr ⟨_, .inl rfl, by simp, rfl, rfl⟩⟩
  · have hp : 0 < l.length := List.length_pos_iff.2 hz
    refine vcalls_keep (fn := Try.f36) Try.func36 rfl (by kernel_rfl) (by simp [Try.f36]) ?_
    have h0 := isNil_fz encI l hp
    have hx : (fz encI l)[0]?.map List.length = some 1 := fz_has encI l hp
    have hb : l.length * 8 ≤ 140737488355328 := by omega
    have hfl : pvs (fz encI l) = cells encI l := fz_flat encI l
    simp (config := { maxSteps := 2000000 }) (implicitDefEqProofs := false) (disch := first | omega | assumption | (simp only []; done) | fail) only [vop_move, vcallee_move, vop_assign, vcallee_assign, vop_buildSlice, vcallee_buildSlice, vop_binOp, vcallee_binOp, vop_builtin, vcallee_builtin, bin2_nil, vnilT_sl, vnilc_eql, strip_pv, strip_own, optV_none, ev_tmp, ev_const, ofConst_slice, put_some, at_mk, fits_some, ↓look_cons, ↓vlook_t, ↓vlook_f, guard_none, ↓vrun_nil, ↓code_skip, ↓code_region, ↓code_seq, ↓code_ret, ↓onNormal_normal, res_one, vres_tmp, allOne_nil, allOne_cons, one_pv, bi_append, ap2_own, parts_nil, enum_nil, enum_cons, evG_eq, ↓vrun_cons, ↓run1_some, ↓runG_true, ↓run2_none, ↓run3_some, ↓code_cond, ↓vtest_bool, ↓vbr_false, ↓keep_ret, vfinK_some, at_hp, pvs, List.map_nil, vfill, vbuildSlice, V.mk, slOf, vsrc, vbase, vappend, V.kill, List.toList_toArray, List.getElem?_cons_zero, List.length_cons, List.length_nil, List.map_cons, List.map_nil, List.cons_append, List.nil_append, List.take_nil, List.set_cons_zero, Option.map_some, ↓reduceIte, Nat.reduceLT, Nat.reduceLeDiff, Nat.reduceBEq, Int.reduceLT, Int.reduceBEq, Nat.zero_add, Nat.mul_one, true_and, and_self, or_true, Bool.or_true, Bool.true_and, Bool.and_self, beq_self_eq_true, Nat.le_refl, fz_len, fz_flat, Try.vzero3, Try.bytes3, Try.velem32, Try.notInt32, dec_t, Try.f36, Try.underlying32, h0, hx, hb]
    exact ⟨by simp, .inr ⟨_, .inl rfl, by simp, rfl, cells_nums _ _ _⟩⟩
theorem cloneP_v (l : List Pl) (hl : l.length ≤ 1000000) : VCalls Try.prog 39 [.pv (.sl (fz encP l))] [] (NewSl noKQ [] 2 l.length 61 (cells encP l)) := by
  refine VCalls.newSl ?_
  by_cases hz : l = []
  · subst hz
    refine VCalls.open0 fun ad cap hs => ?_
    refine vcalls_keep (fn := Try.f39) Try.func39 rfl (by kernel_rfl) (by simp [Try.f39]) ?_
    simp (config := { maxSteps := 2000000 }) (implicitDefEqProofs := false) (disch := first | omega | assumption | (simp only []; done) | fail) only [vop_move, vcallee_move, vop_assign, vcallee_assign, vop_binOp, vcallee_binOp, bin2_nil, vnilT_sl, vnilc_eql, isNil_lit, strip_pv, optV_none, ev_tmp, ev_const, ofConst_slice, put_some, at_mk, fits_some, ↓look_cons, ↓vlook_t, ↓vlook_f, guard_none, ↓vrun_nil, ↓code_region, ↓code_seq, ↓onNormal_normal, enum_nil, enum_cons, evG_eq, ↓vrun_cons, ↓run1_some, ↓runG_true, ↓run2_none, ↓run3_some, ↓code_cond, ↓vtest_bool, at_hp, List.toList_toArray, List.length_nil, Option.map_some, Nat.reduceLT, Nat.reduceBEq, Int.reduceLT, Int.reduceBEq, Nat.zero_add, true_and, Bool.true_and, beq_self_eq_true, dec_t, Try.f39, Try.underlying31]
    refine vbr_split (fun h => ?_) (fun h => ?_)
    · simp (config := { maxSteps := 2000000 }) (implicitDefEqProofs := false) (disch := first | omega | assumption | (simp only []; done) | fail) only [vop_assign, vcallee_assign, strip_pv, optV_none, ev_const, ofConst_slice, put_some, at_mk, fits_some, ↓look_cons, ↓vlook_t, guard_none, ↓vrun_nil, ↓code_region, ↓code_seq, ↓code_ret, ↓onNormal_normal, ↓onNormal_ret, res_one, vres_tmp, evG_eq, ↓vrun_cons, ↓run1_some, ↓runG_true, ↓run2_none, ↓run3_some, ↓keep_ret, vfinK_some, at_hp, Nat.reduceLT, Int.reduceLT, true_and, Bool.true_and, beq_self_eq_true, dec_t]
      exact ⟨by simp, .inl ⟨rfl, rfl, rfl⟩⟩
    · simp (config := { maxSteps := 2000000 }) (implicitDefEqProofs := false) (disch := first | omega | assumption | (simp only []; done) | fail) only [vop_move, vcallee_move, vop_assign, vcallee_assign, vop_buildSlice, vcallee_buildSlice, vop_builtin, vcallee_builtin, strip_pv, strip_own, optV_none, ev_tmp, put_some, at_mk, fits_some, ↓look_cons, ↓vlook_t, ↓vlook_f, guard_none, ↓vrun_nil, ↓code_skip, ↓code_region, ↓code_seq, ↓code_ret, ↓onNormal_normal, res_one, vres_tmp, allOne_nil, allOne_cons, one_pv, bi_append, ap2_own, parts_nil, evG_eq, ↓vrun_cons, ↓run1_some, ↓runG_true, ↓run2_none, ↓run3_some, ↓keep_ret, vfinK_some, at_hp, List.map_nil, vfill, vbuildSlice, V.mk, vsrc, vbase, vappend, V.kill, List.getElem?_cons_zero, List.length_cons, List.length_nil, List.map_cons, List.map_nil, List.cons_append, List.nil_append, List.append_nil, List.take_nil, List.set_cons_zero, Option.map_some, ↓reduceIte, Nat.reduceAdd, Nat.reduceLT, Nat.reduceLeDiff, Nat.reduceBEq, Int.reduceLT, Int.reduceAdd, Int.reduceBEq, Nat.zero_add, Nat.add_zero, Nat.zero_mul, true_and, and_self, Bool.true_and, Bool.and_self, beq_self_eq_true, Nat.le_refl, Try.velem31, Try.notInt31, Try.vzero61, Try.bytes61, dec_t]
      exact ⟨by simp, .inr ⟨_, .inl rfl, by simp, rfl, rfl⟩⟩
  · have hp : 0 < l.length := List.length_pos_iff.2 hz
    refine vcalls_keep (fn := Try.f39) Try.func39 rfl (by kernel_rfl) (by simp [Try.f39]) ?_
    have h0 := isNil_fz encP l hp
    have hx : (fz encP l)[0]?.map List.length = some 2 := fz_has encP l hp
    have hb : l.length * 16 ≤ 140737488355328 := by omega
    have hfl : pvs (fz encP l) = cells encP l := fz_flat encP l
    simp (config := { maxSteps := 2000000 }) (implicitDefEqProofs := false) (disch := first | omega | assumption | (simp only []; done) | fail) only [vop_move, vcallee_move, vop_assign, vcallee_assign, vop_buildSlice, vcallee_buildSlice, vop_binOp, vcallee_binOp, vop_builtin, vcallee_builtin, bin2_nil, vnilT_sl, vnilc_eql, strip_pv, strip_own, optV_none, ev_tmp, ev_const, ofConst_slice, put_some, at_mk, fits_some, ↓look_cons, ↓vlook_t, ↓vlook_f, guard_none, ↓vrun_nil, ↓code_skip, ↓code_region, ↓code_seq, ↓code_ret, ↓onNormal_normal, res_one, vres_tmp, allOne_nil, allOne_cons, one_pv, bi_append, ap2_own, parts_nil, enum_nil, enum_cons, evG_eq, ↓vrun_cons, ↓run1_some, ↓runG_true, ↓run2_none, ↓run3_some, ↓code_cond, ↓vtest_bool, ↓vbr_false, ↓keep_ret, vfinK_some, at_hp, pvs, List.map_nil, vfill, vbuildSlice, V.mk, slOf, vsrc, vbase, vappend, V.kill, List.toList_toArray, List.getElem?_cons_zero, List.length_cons, List.length_nil, List.map_cons, List.map_nil, List.cons_append, List.nil_append, List.take_nil, List.set_cons_zero, Option.map_some, ↓reduceIte, Nat.reduceAdd, Nat.reduceLT, Nat.reduceLeDiff, Nat.reduceBEq, Int.reduceLT, Int.reduceAdd, Int.reduceBEq, Nat.zero_add, Nat.zero_mul, true_and, and_self, or_true, Bool.or_true, Bool.true_and, Bool.and_self, beq_self_eq_true, Nat.le_refl, fz_len, fz_flat, Try.velem31, Try.notInt31, Try.vzero61, Try.bytes61, dec_t, Try.f39, Try.underlying31, h0, hx, hb]
    exact ⟨by simp, .inr ⟨_, .inl rfl, by simp, rfl, cells_nums _ _ _⟩⟩
theorem indexFP_v (l : List Pl) (hl : l.length ≤ 1000000) (g : FuncId) (caps : List DV) (hc : DV.nums.go (fun _ => false) caps = true) (p : Pl → Bool) (hf : ∀ x ∈ l, VCalls Try.prog g (.agg [.int .i64 x.pg, .int .i64 x.ad] :: caps) [] (Ret (.bool (p x)))) :
    VCalls Try.prog 54 [.pv (.sl (fz encP l)), .fn (.func g) [] caps] [] (Ret (.int .i64 (idxP l p))) := by
  refine dd Try.func54 ?_
  simp (config := { maxSteps := 2000000 }) (implicitDefEqProofs := false) (disch := first | omega | assumption | (simp only []; done) | fail) only [vop_move, vcallee_move, vop_assign, vcallee_assign, vop_builtin, vcallee_builtin, strip_pv, optV_none, ev_tmp, ev_const, ofConst_int, put_some, at_mk, fits_some, ↓look_cons, ↓vlook_t, ↓vlook_f, guard_none, ↓vrun_nil, ↓code_region, ↓code_seq, ↓code_block, ↓code_loop, ↓onNormal_normal, len_sl, vlk_sl, bi_len, enum_nil, enum_cons, evG_eq, ↓vrun_cons, ↓run1_some, ↓runG_true, ↓run2_none, ↓run3_some, at_hp, List.map_nil, List.toList_toArray, List.length_nil, List.map_cons, List.map_nil, Option.map_some, Nat.reduceAdd, Nat.reduceLT, Nat.reduceBEq, Int.reduceLT, Int.reduceNeg, Int.reduceAdd, Int.reduceBEq, Nat.zero_add, true_and, Bool.true_and, beq_self_eq_true, fz_len, Try.vkind31, dec_t, Try.f54]
  refine vloop (fun i : Pass l (fun x => p x = true) => ⟨19, 0, [(8, .int .i64 i.i), (7, .int .i64 l.length), (0, .pv (.sl (fz encP l))), (1, .fn (.func g) [] caps)], []⟩) (fun i => l.length - i.i) (Pass.start l _) (by refine ⟨rfl, rfl, by simp, ?_, ?_, .inl rfl⟩ <;> (repeat' apply And.intro) <;> first | rfl | trivial) ?_
  intro i
  have hi := i.hi
  simp (config := { maxSteps := 2000000 }) (implicitDefEqProofs := false) (disch := first | omega | assumption | (simp only []; done) | fail) only [vop_binOp, vcallee_binOp, bin2_tmp, strip_pv, optV_none, ev_tmp, put_some, at_mk, fits_some, ↓look_cons, ↓vlook_t, ↓vlook_f, guard_none, ↓vrun_nil, ↓code_region, ↓code_seq, ↓onNormal_normal, bin_int, int_lss, evG_eq, ↓vrun_cons, ↓run1_some, ↓runG_true, ↓run2_none, ↓run3_some, ↓code_cond, ↓vtest_bool, Option.map_some, Nat.reduceLT, Nat.reduceBEq, Int.reduceLT, Int.reduceNeg, Int.reduceBEq, true_and, Bool.true_and, beq_self_eq_true, dec_t]
  refine vbr_split (fun hc1 => ?_) (fun hc1 => ?_) <;> simp only [decide_eq_true_eq, decide_eq_false_iff_not, Bool.or_eq_true, Bool.and_eq_true, Bool.or_eq_false_iff, Bool.and_eq_false_imp, Bool.not_eq_true', Bool.not_eq_false', beq_iff_eq, beq_eq_false_iff_ne, bne_iff_ne, bne_eq_false_iff_eq, ne_eq] at hc1
  · have hlt : i.i < l.length := by omega
    have hg : (fz encP l)[i.i]? = some [.lit (.int .i64 l[i.i].pg), .lit (.int .i64 l[i.i].ad)] := fz_at encP l i.i hlt
    have hm := hf l[i.i] (List.getElem_mem hlt)
    simp (config := { maxSteps := 2000000 }) (implicitDefEqProofs := false) (disch := first | omega | assumption | (simp only [List.length_cons, List.length_nil, Nat.zero_add, Nat.reduceAdd]; done) | fail) only [vop_move, vcallee_move, vop_assign, vcallee_assign, vop_load, vcallee_load, vop_indexAddr, vcallee_indexAddr, vcallee_value, vcal_fn, strip_pv, strip_ip, strip_agg, strip_fn, optV_none, ev_tmp, put_some, at_mk, fits_some, ↓look_cons, ↓vlook_t, ↓vlook_f, guard_none, ↓vrun_nil, ↓code_skip, ↓code_region, ↓code_seq, ↓code_block, ↓onNormal_normal, load_ip, vldp_agg, iaddr_sl, vias_some, evG_eq, ↓vrun_cons, ↓run1_some, ↓runG_true, ↓run2_none, ↓run2_some, ↓run3_some, at_hp, List.map_nil, List.length_cons, List.length_nil, List.map_cons, List.map_nil, List.cons_append, List.nil_append, List.take_succ_cons, List.take_nil, Option.map_some, ↓reduceIte, Nat.reduceAdd, Nat.reduceLT, Nat.reduceBEq, Int.reduceLT, Int.reduceNeg, Int.reduceAdd, Int.reduceBEq, Int.toNat_natCast, Nat.zero_add, true_and, Bool.true_and, beq_self_eq_true, Nat.le_refl, Try.velem31, Try.vt61, dec_t, hg]
    refine vc_pure hm (by simpa [DV.nums.go, DV.nums] using hc) ?_
    simp (config := { maxSteps := 2000000 }) (implicitDefEqProofs := false) (disch := first | omega | assumption) only [optV_none, ev_tmp, put_some, at_mk, ↓look_cons, ↓vlook_t, ↓vrun_nil, ↓onNormal_normal, ↓runK_eq, ↓code_cond, ↓vtest_bool, Int.reduceNeg, beq_self_eq_true]
    refine vbr_split (fun hx => ?_) (fun hx => ?_)
    · simp (config := { maxSteps := 2000000 }) (implicitDefEqProofs := false) (disch := first | omega | assumption | (simp only []; done) | fail) only [vop_move, vcallee_move, vop_assign, vcallee_assign, strip_pv, optV_none, ev_tmp, put_some, at_mk, fits_some, ↓look_cons, ↓vlook_t, ↓vlook_f, guard_none, ↓vrun_nil, ↓code_region, ↓code_seq, ↓code_ret, ↓onNormal_normal, ↓onNormal_ret, ↓onBlock_ret, frz_pv, frzHeap_zero, res_one, vres_tmp, evG_eq, ↓vrun_cons, ↓run1_some, ↓runG_true, ↓run2_none, ↓run3_some, ↓vpost_ret, vfin_some, vfin2_some, at_hp, Nat.reduceLT, Nat.reduceBEq, Int.reduceLT, Int.reduceNeg, Int.reduceBEq, true_and, Bool.true_and, beq_self_eq_true, dec_t, Ret, DV.nums]
      rw [idxP_at l p i.i hlt hx i.no]
    · simp (config := { maxSteps := 2000000 }) (implicitDefEqProofs := false) (disch := first | omega | assumption | (simp only []; done) | fail) only [vop_move, vcallee_move, vop_binOp, vcallee_binOp, bin2_int, strip_pv, optV_none, ev_tmp, ev_const, ofConst_int, put_some, at_mk, fits_some, ↓look_cons, ↓vlook_t, ↓vlook_f, guard_none, ↓vrun_nil, ↓code_skip, ↓code_region, ↓onNormal_normal, ↓onBlock_normal, bin_int, int_add, evG_eq, ↓vrun_cons, ↓run1_some, ↓runG_true, ↓run2_none, ↓run3_some, at_hp, Option.map_some, Nat.reduceLT, Nat.reduceBEq, Int.reduceLT, Int.reduceNeg, Int.reduceBEq, true_and, Bool.true_and, beq_self_eq_true, wrap_i64_in, dec_t]
      exact ⟨i.next hlt (by rw [hx]; simp), by show l.length - (i.i + 1) < l.length - i.i; omega, (by refine ⟨rfl, rfl, by simp, ?_, ?_, .inl rfl⟩ <;> (repeat' apply And.intro) <;> first | rfl | trivial)⟩
  · simp (config := { maxSteps := 2000000 }) (implicitDefEqProofs := false) (disch := first | omega | assumption | (simp only []; done) | fail) only [vop_assign, vcallee_assign, strip_pv, optV_none, ev_const, ofConst_int, put_some, at_mk, fits_some, ↓look_cons, ↓vlook_t, guard_none, ↓vrun_nil, ↓code_region, ↓code_seq, ↓code_exit, ↓code_ret, ↓onNormal_normal, ↓onNormal_exit, ↓onBlock_exit, frz_pv, frzHeap_zero, res_one, vres_tmp, evG_eq, ↓vrun_cons, ↓run1_some, ↓runG_true, ↓run2_none, ↓run3_some, ↓vpost_ret, vfin_some, vfin2_some, at_hp, ↓reduceIte, Nat.reduceLT, Int.reduceLT, Int.reduceNeg, true_and, Bool.true_and, beq_self_eq_true, dec_t, dec_f, Ret, DV.nums]
    have := i.all (by omega)
    rw [idxP, if_neg (by simpa using this)]
end Go.Proofs.Ytnilcppifcekmaa
namespace Go.Proofs.Ytnilcppifcekmaa
open Go.V Go
theorem ins_endI (l : List Int) (x : Int) : cells encI l ++ cells encI [x] = cells encI (l.take l.length ++ x :: l.drop l.length) := by
  rw [List.take_length, List.drop_length, ← cells_app]
theorem ins_upI (l : List Int) (i : Nat) (h : i < l.length) : splice (cells encI l) ((i + 1)) (((cells encI l).drop (i)).take ((l.length - i))) = cells encI (l.take (i + 1) ++ l.drop i) := by
  have e1 : (cells encI l).drop (i) = cells encI (l.drop i) := by have := cells_drop encI l i; simpa [encI] using this
  have e2 : (cells encI (l.drop i)).take ((l.length - i)) = cells encI (l.drop i) := cells_all encI _ _ (by rw [List.length_drop]; show _ = (l.length - i) * 1; omega)
  have e3 := splice_cells encI l (l.drop i) (i + 1)
  rw [List.drop_of_length_le (i := i + 1 + (l.drop i).length) (by rw [List.length_drop]; omega), List.append_nil] at e3
  rw [e1, e2, ← e3]; simp [encI]
theorem ins_inI (l : List Int) (x : Int) (i : Nat) (h : i < l.length) : splice (cells encI (l.take (i + 1) ++ l.drop i)) (i) (cells encI [x]) = cells encI (l.take i ++ x :: l.drop i) := by
  have e3 := splice_cells encI (l.take (i + 1) ++ l.drop i) [x] i
  have e1 : (l.take (i + 1) ++ l.drop i).take i = l.take i := by rw [List.take_append_of_le_length (by rw [List.length_take]; omega), List.take_take, Nat.min_eq_left (by omega)]
  have e2 : (l.take (i + 1) ++ l.drop i).drop (i + 1) = l.drop i := by rw [List.drop_append_of_le_length (by rw [List.length_take]; omega), List.drop_of_length_le (by rw [List.length_take]; omega), List.nil_append]
  rw [e1, show i + [x].length = i + 1 from rfl, e2, List.append_assoc] at e3
  simpa [encI] using e3
theorem ins_g1I (l : List Int) (i m : Nat) : (cells encI l).take (i) ++ mk [.pv (.lit (.int .i64 0))] m = cells encI (l.take i ++ List.replicate m 0) := by
  have e1 := cells_take encI l i
  have e2 : mk [.pv (.lit (.int .i64 0))] m = cells encI (List.replicate m 0) := mk_cells encI 0 m
  rw [e2, cells_app, ← e1]; simp [encI]
theorem ins_g1bI (l : List Int) (i m : Nat) : (cells encI l).take (i) ++ cells encI (List.replicate m 0) = cells encI (l.take i ++ List.replicate m 0) := by
  have e1 := ins_g1I l i m
  have e2 : mk [.pv (.lit (.int .i64 0))] m = cells encI (List.replicate m 0) := mk_cells encI 0 m
  rwa [e2] at e1
theorem ins_g2I (l : List Int) (x : Int) (i : Nat) (h : i < l.length) : splice (cells encI (l.take i ++ List.replicate (l.length + 1 - i) 0)) (i) (cells encI [x]) = cells encI (l.take i ++ x :: List.replicate (l.length - i) 0) := by
  have e3 := splice_cells encI (l.take i ++ List.replicate (l.length + 1 - i) 0) [x] i
  have hlt : (l.take i).length = i := by rw [List.length_take]; omega
  have e1 : (l.take i ++ List.replicate (l.length + 1 - i) 0).take i = l.take i := by rw [List.take_append_of_le_length (by omega), List.take_take, Nat.min_self]
  have e2 : (l.take i ++ List.replicate (l.length + 1 - i) 0).drop (i + 1) = List.replicate (l.length - i) 0 := by
    rw [List.drop_append, hlt, List.drop_of_length_le (by omega), List.nil_append, List.drop_replicate]
    congr 1; omega
  rw [e1, show i + [x].length = i + 1 from rfl, e2, List.append_assoc] at e3
  simpa [encI] using e3
theorem ins_g3I (l : List Int) (x : Int) (i : Nat) (h : i < l.length) : splice (cells encI (l.take i ++ x :: List.replicate (l.length - i) 0)) ((i + 1)) (((cells encI l).drop (i)).take ((l.length - i))) = cells encI (l.take i ++ x :: l.drop i) := by
  have e1 : (cells encI l).drop (i) = cells encI (l.drop i) := by have := cells_drop encI l i; simpa [encI] using this
  have e2 : (cells encI (l.drop i)).take ((l.length - i)) = cells encI (l.drop i) := cells_all encI _ _ (by rw [List.length_drop]; show _ = (l.length - i) * 1; omega)
  have e3 := splice_cells encI (l.take i ++ x :: List.replicate (l.length - i) 0) (l.drop i) (i + 1)
  have hlt : (l.take i ++ [x]).length = i + 1 := by rw [List.length_append, List.length_take, List.length_singleton]; omega
  have ea : l.take i ++ x :: List.replicate (l.length - i) 0 = (l.take i ++ [x]) ++ List.replicate (l.length - i) 0 := by simp
  have e4 : (l.take i ++ x :: List.replicate (l.length - i) 0).take (i + 1) = l.take i ++ [x] := by rw [ea, List.take_append_of_le_length (by omega), List.take_of_length_le (by omega)]
  rw [e4, List.drop_of_length_le (i := i + 1 + (l.drop i).length) (by rw [ea, List.length_append, hlt, List.length_replicate, List.length_drop]; omega), List.append_nil] at e3
  have e5 : l.take i ++ x :: l.drop i = l.take i ++ [x] ++ l.drop i := by simp
  rw [e1, e2, e5, ← e3]; simp [encI]
theorem one_lenI (x : Int) : (cells encI [x]).length = 1 := by rw [cells_len]; rfl
theorem insertI_v (l : List Int) (x : Int) (i : Nat) (hi : i ≤ l.length) (hl : l.length ≤ 1000000) :
    VCalls Try.prog 35 [.own 0 1 0 l.length, .int .i64 i, .own 1 1 0 1] [⟨3, true, cells encI l⟩, ⟨3, true, cells encI [x]⟩]
      (NewSl noKQ [⟨3, true, cells encI l⟩, ⟨3, true, cells encI [x]⟩] 1 (l.length + 1) 3 (cells encI (l.take i ++ x :: l.drop i))) := by
  refine VCalls.newSl ?_
  have hcl : (cells encI l).length = l.length := cells_len encI l |>.trans (Nat.mul_one _)
  have hc1 := one_lenI x
  by_cases he : i = l.length
  · subst he
    refine vcalls_keep (fn := Try.f35) Try.func35 rfl (by kernel_rfl) (by simp [Try.f35]) ?_
    have hb : (l.length + 1) * 8 ≤ 140737488355328 := by omega
    have hta : (cells encI l).take (l.length) = cells encI l := cells_all encI l _ (by show _ = l.length * 1; omega)
    have ht1 : (cells encI [x]).take 1 = cells encI [x] := cells_all encI [x] _ rfl
    simp (config := { maxSteps := 2000000 }) (implicitDefEqProofs := false) (disch := first | omega | assumption | (simp only []; done) | fail) only [vop_move, vcallee_move, vop_assign, vcallee_assign, vop_binOp, vcallee_binOp, vop_slice, vcallee_slice, vop_builtin, vcallee_builtin, bin2_tmp, bin2_int, strip_pv, strip_own, optV_none, ev_tmp, ev_const, ofConst_int, ofConst_slice, put_some, at_mk, fits_some, ↓look_cons, ↓vlook_t, ↓vlook_f, guard_none, ↓vrun_nil, ↓code_skip, ↓code_region, ↓code_seq, ↓code_ret, ↓onNormal_normal, ↓onNormal_ret, res_one, vres_tmp, blk_zero, blk_succ, bin_int, int_eql, vlk_sl, len_own, bi_len, bi_append, ap2_own, vslo_end, slice_own_lo, enum_nil, enum_cons, evG_eq, ↓vrun_cons, ↓run1_some, ↓runG_true, ↓run2_none, ↓run3_some, ↓code_cond, ↓vtest_bool, ↓vbr_true, ↓vbr_false, ↓keep_ret, vfinK_some, at_hp, slice_own, List.map_nil, vsrc, vbase, vappend, V.kill, List.toList_toArray, List.getElem?_cons_zero, List.length_cons, List.length_nil, List.map_cons, List.map_nil, List.cons_append, List.nil_append, List.drop_zero, List.set_cons_zero, Option.map_some, Option.map_none, ↓reduceIte, Nat.reduceAdd, Nat.reduceLT, Nat.reduceBEq, Int.reduceLT, Int.reduceAdd, Int.reduceBEq, Int.toNat_natCast, Nat.zero_add, Nat.mul_one, true_and, and_self, Bool.true_and, Bool.and_self, beq_self_eq_true, Nat.le_refl, Try.vzero3, Try.bytes3, Try.velem32, Try.notInt32, Try.vkind32, dec_t, int_beq_f, Try.f35, hcl, hc1, hta, ht1, hb]
    exact ⟨by simp, .inr ⟨_, .inl rfl, by simp, by rw [← ins_endI]; rfl, cells_nums _ _ _⟩⟩
  · have hlt : i < l.length := by omega
    refine VCalls.room (by omega) fun cap hcap => ?_
    by_cases hr : l.length + 1 ≤ cap
    · have hr1 : ¬ (cap : Int) < (l.length : Int) + 1 := by omega
      have hi1 : i + 1 ≤ l.length + 1 := by omega
      have hic : i + 1 ≤ cap := by omega
      have hne : ¬ (i : Int) = l.length := by omega
      have ei : ((i : Int) + 1).toNat = i + 1 := by omega
      have el : ((l.length : Int) + 1).toNat = l.length + 1 := by omega
      refine vcalls_keep (fn := Try.f35) Try.func35 rfl (by kernel_rfl) (by simp [Try.f35]) ?_
      simp (config := { maxSteps := 2000000 }) (implicitDefEqProofs := false) (disch := first | omega | assumption | (simp only []; done) | fail) only [vop_move, vcallee_move, vop_assign, vcallee_assign, vop_binOp, vcallee_binOp, vop_slice, vcallee_slice, vop_builtin, vcallee_builtin, vcallee_value, vcal_fn, bin2_tmp, bin2_int, strip_pv, strip_own, strip_fn, optV_none, ev_tmp, ev_const, ev_func, ofConst_int, ofConst_slice, put_some, at_mk, fits_some, ↓look_cons, ↓vlook_t, ↓vlook_f, guard_none, ↓vrun_nil, ↓code_skip, ↓code_region, ↓code_seq, ↓onNormal_normal, strip_ownc, bin_int, int_add, int_eql, int_gtr, vlk_sl, len_own, bi_len, bi_cap, cap_ownc, vck_sl, len_ownc, slice_ownc, slice_ownc_hi, slice_ownc_lo, vslc0_some, vslc_some, enum_nil, enum_cons, evG_eq, ↓vrun_cons, ↓run1_some, ↓runG_true, ↓run2_none, ↓run2_some, ↓run3_some, ↓code_cond, ↓vtest_bool, ↓vbr_false, at_hp, List.map_nil, List.toList_toArray, List.length_cons, List.length_nil, List.map_cons, List.map_nil, List.nil_append, List.append_nil, Option.map_some, Option.map_none, Nat.reduceAdd, Nat.reduceLT, Nat.reduceBEq, Int.reduceLT, Int.reduceAdd, Int.reduceBEq, Int.toNat_natCast, Nat.zero_add, Nat.mul_one, decide_false, true_and, Bool.true_and, beq_self_eq_true, Try.velem32, Try.vkind32, wrap_i64_in, dec_t, int_beq_f, Try.f35, hr1, Int.natCast_one, ei, el]
      refine (vcalls_apart (k := 1) (k2 := 0) (fn := Try.f58) (tS := 32) (tR := 4) (e := 3) (n := 1) Try.func58 (by kernel_rfl) rfl (by kernel_rfl) (by kernel_rfl) (by kernel_rfl) rfl rfl rfl rfl (by decide) (by omega) (by show 0 < (cells encI l).length; omega)).mono ?_
      rintro r h' ⟨rfl, rfl⟩
      simp (config := { maxSteps := 2000000 }) (implicitDefEqProofs := false) (disch := first | omega | assumption | (simp only []; done) | fail) only [vop_unOp, vcallee_unOp, strip_pv, optV_none, ev_tmp, put_some, at_mk, fits_some, ↓look_cons, ↓vlook_t, guard_none, ↓vrun_nil, ↓code_draw, ↓code_seq, ↓onNormal_normal, un_not, evG_eq, ↓vrun_cons, ↓run1_some, ↓runG_true, ↓run2_none, ↓run3_some, ↓runK_eq, ↓code_cond, ↓vtest_bool, ↓vbr_true, at_hp, Option.map_some, Nat.reduceLT, Int.reduceLT, true_and, Bool.not_false, Bool.true_and, beq_self_eq_true, dec_t]
      refine vspine (id := 15) [0, 1, 2, 3, 4, 5, 6, 7] [⟨[], [], 8, [0, 1, 2, 3, 5, 6], []⟩] (by kernel_rfl) (by kernel_rfl) ?_
      have hmin : min (l.length + 1 - i) (l.length + 1 - (i + 1)) = l.length - i := by omega
      have hmin2 : min 1 (l.length + 1 - i) = 1 := by omega
      have hof : (i + 1) ≤ l.length := by omega
      have hle : (l.length - i) ≤ l.length - i := by omega
      have hup := ins_upI l i hlt
      have hin := ins_inI l x i hlt
      have hl2 : (cells encI (l.take (i + 1) ++ l.drop i)).length = (l.length + 1) := by rw [cells_len, List.length_append, List.length_take, List.length_drop]; show _ * 1 = _; omega
      have hof2 : i ≤ (l.length + 1) := by omega
      have ht1 : (cells encI [x]).take 1 = cells encI [x] := cells_all encI [x] _ rfl
      simp (config := { maxSteps := 2000000 }) (implicitDefEqProofs := false) (disch := first | omega | assumption | (simp only []; done) | fail) only [vop_move, vcallee_move, foot_move, vop_assign, vcallee_assign, vop_binOp, vcallee_binOp, foot_binOp, vop_slice, vcallee_slice, vop_builtin, vcallee_builtin, bin2_tmp, strip_pv, strip_own, optV_none, ev_tmp, put_some, at_mk, fits_some, ↓look_cons, ↓vlook_t, ↓vlook_f, guard_none, ↓vrun_nil, ↓code_region, ↓code_seq, ↓code_ret, ↓onNormal_normal, ↓onNormal_ret, strip_ownc, res_one, vres_tmp, blk_zero, blk_succ, set_zero, bin_int, int_add, cp2_co, cp2_cc, slice_ownc, slice_ownc_lo, vslc_some, bi_copy, evG_eq, ↓vrun_cons, ↓run1_some, ↓runG_true, ↓run2_none, ↓run3_some, ↓keep_ret, vfinK_some, at_hp, List.map_nil, vsrc, vcopyC, srcL, dstC, List.getElem?_cons_zero, List.getElem?_cons_succ, List.map_cons, List.map_nil, List.nil_append, List.drop_zero, Option.map_some, Option.map_none, ↓reduceIte, Nat.reduceLT, Nat.reduceBEq, Int.reduceLT, Int.reduceBEq, Int.toNat_natCast, Nat.zero_add, Nat.mul_one, true_and, and_self, Bool.true_and, Bool.and_self, beq_self_eq_true, Nat.le_refl, ↓vsp_nil, ↓vsp_cons, ↓vspK_eq, vspC_true, vspR_eq, pick_nil, pick_cons, pickO_some, creas_nil, agree_nil, agree_cons, agree1_some, sameAt_nil, Try.velem32, wrap_i64_in, dec_t, hcl, hc1, Int.natCast_one, ei, hmin, hmin2, hof, hle, List.length_drop, hup, hin, hl2, hof2, ht1]
      exact ⟨by simp, .inr ⟨0, .inr ⟨cap, by omega, rfl⟩, by simp, rfl, cells_nums _ _ _⟩⟩
    · have hr1 : (cap : Int) < (l.length : Int) + 1 := by omega
      have hne : ¬ (i : Int) = l.length := by omega
      have ei : ((i : Int) + 1).toNat = i + 1 := by omega
      have eL : ((l.length : Int) + 1 - i).toNat = l.length + 1 - i := by omega
      have eS : i + (l.length + 1 - i) = l.length + 1 := by omega
      have hb : (l.length + 1) * 8 ≤ 140737488355328 := by omega
      have hcz : cap < l.length + 1 := by omega
      have hl0 : (0 : Int) < (l.length : Int) + 1 - i := by omega
      have hlz : (l.length : Int) + 1 - i ≤ 1000000000 := by omega
      have hoi : i ≤ l.length := by omega
      have hic : i ≤ cap := by omega
      have hg1 := ins_g1I l i (l.length + 1 - i)
      have hg1b := ins_g1bI l i (l.length + 1 - i)
      have hg2 := ins_g2I l x i hlt
      have hg3 := ins_g3I l x i hlt
      have hmin : min 1 (l.length + 1 - i) = 1 := by omega
      have hmin2 : min (l.length - i) (l.length + 1 - (i + 1)) = l.length - i := by omega
      have hl1 : (cells encI (l.take i ++ List.replicate (l.length + 1 - i) 0)).length = (l.length + 1) := by rw [cells_len, List.length_append, List.length_take, List.length_replicate]; show _ * 1 = _; omega
      have hl2 : (cells encI (l.take i ++ x :: List.replicate (l.length - i) 0)).length = (l.length + 1) := by rw [cells_len, List.length_append, List.length_take, List.length_cons, List.length_replicate]; show _ * 1 = _; omega
      have ht1 : (cells encI [x]).take 1 = cells encI [x] := cells_all encI [x] _ rfl
      have hf1 : i + (l.length + 1 - i) ≤ (l.length + 1) := by omega
      have hf2 : (i + 1) ≤ (l.length + 1) := by omega
      have hle : (l.length - i) ≤ l.length - i := by omega
      refine vcalls_keep (fn := Try.f35) Try.func35 rfl (by kernel_rfl) (by simp [Try.f35]) ?_
      simp (config := { maxSteps := 2000000 }) (implicitDefEqProofs := false) (disch := first | omega | assumption | (simp only []; done) | fail) only [vop_move, vcallee_move, vop_assign, vcallee_assign, vop_binOp, vcallee_binOp, vop_slice, vcallee_slice, vop_builtin, vcallee_builtin, bin2_tmp, bin2_int, strip_pv, strip_own, optV_none, ev_tmp, ev_const, ofConst_int, ofConst_slice, put_some, at_mk, fits_some, ↓look_cons, ↓vlook_t, ↓vlook_f, guard_none, ↓vrun_nil, ↓code_skip, ↓code_region, ↓code_draw, ↓code_seq, ↓onNormal_normal, strip_ownc, blk_zero, blk_succ, set_zero, set_succ, allOne_nil, allOne_cons, one_pv, bin_int, int_add, int_sub, int_eql, int_gtr, vlk_sl, len_own, bi_len, bi_append, ap2_cz, vapz1_some, bi_cap, cap_ownc, vck_sl, cp2_oo, len_ownc, slice_ownc, slice_own_lo, slice_ownc_hi, slice_ownc_lo, vslo_some, vslc0_some, vslc_some, bi_copy, enum_nil, enum_cons, evG_eq, ↓vrun_cons, ↓run1_some, ↓runG_true, ↓run2_none, ↓run3_some, ↓code_cond, ↓vtest_bool, ↓vbr_true, ↓vbr_false, at_hp, slice_own, List.map_nil, vsrc, vcopy, vapz2, List.toList_toArray, List.getElem?_cons_zero, List.length_cons, List.length_nil, List.map_cons, List.map_nil, List.cons_append, List.nil_append, List.drop_zero, Option.map_some, Option.map_none, ↓reduceIte, Nat.reduceAdd, Nat.reduceLT, Nat.reduceBEq, Int.reduceLT, Int.reduceAdd, Int.reduceBEq, Int.toNat_natCast, Nat.zero_add, Nat.mul_one, true_and, and_self, Bool.true_and, Bool.and_self, beq_self_eq_true, Nat.le_refl, mkI, Try.vkind3, Try.vzero3, Try.bytes3, Try.velem32, Try.vkind32, wrap_i64_in, dec_t, int_beq_f, Try.f35, hcl, hc1, hr1, Int.natCast_one, eL, eS, hb, hcz, hl0, hlz, hoi, hg1b, hg2, hmin, hl1, ht1]
      refine vspine (id := 11) [0, 1, 2, 3, 4, 5, 6, 7] [⟨[], [], 8, [0, 1, 2, 3, 5, 6], []⟩] (by kernel_rfl) (by kernel_rfl) ?_
      simp (config := { maxSteps := 2000000 }) (implicitDefEqProofs := false) (disch := first | omega | assumption | (simp only []; done) | fail) only [vop_move, vcallee_move, foot_move, vop_assign, vcallee_assign, vop_binOp, vcallee_binOp, foot_binOp, vop_slice, vcallee_slice, vop_builtin, vcallee_builtin, bin2_tmp, strip_pv, strip_own, optV_none, ev_tmp, put_some, at_mk, fits_some, ↓look_cons, ↓vlook_t, ↓vlook_f, guard_none, ↓vrun_nil, ↓code_region, ↓code_seq, ↓code_ret, ↓onNormal_normal, ↓onNormal_ret, strip_ownc, res_one, vres_tmp, blk_zero, blk_succ, set_zero, set_succ, bin_int, int_add, cp2_oc, slice_ownc, slice_own_lo, slice_ownc_lo, vslo_some, vslc_some, bi_copy, evG_eq, ↓vrun_cons, ↓run1_some, ↓runG_true, ↓run2_none, ↓run3_some, ↓keep_ret, vfinK_some, at_hp, slice_own, List.map_nil, vcopyC, srcL, dstC, List.getElem?_cons_zero, List.getElem?_cons_succ, List.map_cons, List.map_nil, List.nil_append, Option.map_some, Option.map_none, ↓reduceIte, Nat.reduceLT, Nat.reduceBEq, Int.reduceLT, Int.reduceBEq, Int.toNat_natCast, Nat.zero_add, Nat.mul_one, true_and, and_self, Bool.true_and, Bool.and_self, beq_self_eq_true, ↓vsp_nil, ↓vsp_cons, ↓vspK_eq, vspC_true, vspR_eq, pick_nil, pick_cons, pickO_some, creas_nil, agree_nil, agree_cons, agree1_some, sameAt_nil, Try.velem32, wrap_i64_in, dec_t, hcl, ei, hg3, hmin2, hl2, hf2, hle, List.length_drop]
      exact ⟨by simp, .inr ⟨2, .inl rfl, by simp, rfl, cells_nums _ _ _⟩⟩
theorem ins_endP (l : List Pl) (x : Pl) : cells encP l ++ cells encP [x] = cells encP (l.take l.length ++ x :: l.drop l.length) := by
  rw [List.take_length, List.drop_length, ← cells_app]
theorem ins_upP (l : List Pl) (i : Nat) (h : i < l.length) : splice (cells encP l) ((i + 1) * 2) (((cells encP l).drop (i * 2)).take ((l.length - i) * 2)) = cells encP (l.take (i + 1) ++ l.drop i) := by
  have e1 : (cells encP l).drop (i * 2) = cells encP (l.drop i) := by have := cells_drop encP l i; simpa [encP] using this
  have e2 : (cells encP (l.drop i)).take ((l.length - i) * 2) = cells encP (l.drop i) := cells_all encP _ _ (by rw [List.length_drop]; show _ = (l.length - i) * 2; omega)
  have e3 := splice_cells encP l (l.drop i) (i + 1)
  rw [List.drop_of_length_le (i := i + 1 + (l.drop i).length) (by rw [List.length_drop]; omega), List.append_nil] at e3
  rw [e1, e2, ← e3]
  rfl
theorem ins_inP (l : List Pl) (x : Pl) (i : Nat) (h : i < l.length) : splice (cells encP (l.take (i + 1) ++ l.drop i)) (i * 2) (cells encP [x]) = cells encP (l.take i ++ x :: l.drop i) := by
  have e3 := splice_cells encP (l.take (i + 1) ++ l.drop i) [x] i
  have e1 : (l.take (i + 1) ++ l.drop i).take i = l.take i := by rw [List.take_append_of_le_length (by rw [List.length_take]; omega), List.take_take, Nat.min_eq_left (by omega)]
  have e2 : (l.take (i + 1) ++ l.drop i).drop (i + 1) = l.drop i := by rw [List.drop_append_of_le_length (by rw [List.length_take]; omega), List.drop_of_length_le (by rw [List.length_take]; omega), List.nil_append]
  rw [e1, show i + [x].length = i + 1 from rfl, e2, List.append_assoc] at e3
  exact e3
theorem ins_g1P (l : List Pl) (i m : Nat) : (cells encP l).take (i * 2) ++ mk [.pv (.lit (.int .i64 0)), .pv (.lit (.int .i64 0))] m = cells encP (l.take i ++ List.replicate m (⟨0, 0⟩ : Pl)) := by
  have e1 := cells_take encP l i
  have e2 : mk [.pv (.lit (.int .i64 0)), .pv (.lit (.int .i64 0))] m = cells encP (List.replicate m (⟨0, 0⟩ : Pl)) := mk_cells encP (⟨0, 0⟩ : Pl) m
  rw [e2, cells_app, ← e1]
  rfl
theorem ins_g1bP (l : List Pl) (i m : Nat) : (cells encP l).take (i * 2) ++ cells encP (List.replicate m (⟨0, 0⟩ : Pl)) = cells encP (l.take i ++ List.replicate m (⟨0, 0⟩ : Pl)) := by
  have e1 := ins_g1P l i m
  have e2 : mk [.pv (.lit (.int .i64 0)), .pv (.lit (.int .i64 0))] m = cells encP (List.replicate m (⟨0, 0⟩ : Pl)) := mk_cells encP (⟨0, 0⟩ : Pl) m
  rwa [e2] at e1
theorem ins_g2P (l : List Pl) (x : Pl) (i : Nat) (h : i < l.length) : splice (cells encP (l.take i ++ List.replicate (l.length + 1 - i) (⟨0, 0⟩ : Pl))) (i * 2) (cells encP [x]) = cells encP (l.take i ++ x :: List.replicate (l.length - i) (⟨0, 0⟩ : Pl)) := by
  have e3 := splice_cells encP (l.take i ++ List.replicate (l.length + 1 - i) (⟨0, 0⟩ : Pl)) [x] i
  have hlt : (l.take i).length = i := by rw [List.length_take]; omega
  have e1 : (l.take i ++ List.replicate (l.length + 1 - i) (⟨0, 0⟩ : Pl)).take i = l.take i := by rw [List.take_append_of_le_length (by omega), List.take_take, Nat.min_self]
  have e2 : (l.take i ++ List.replicate (l.length + 1 - i) (⟨0, 0⟩ : Pl)).drop (i + 1) = List.replicate (l.length - i) (⟨0, 0⟩ : Pl) := by
    rw [List.drop_append, hlt, List.drop_of_length_le (by omega), List.nil_append, List.drop_replicate]
    congr 1; omega
  rw [e1, show i + [x].length = i + 1 from rfl, e2, List.append_assoc] at e3
  exact e3
theorem ins_g3P (l : List Pl) (x : Pl) (i : Nat) (h : i < l.length) : splice (cells encP (l.take i ++ x :: List.replicate (l.length - i) (⟨0, 0⟩ : Pl))) ((i + 1) * 2) (((cells encP l).drop (i * 2)).take ((l.length - i) * 2)) = cells encP (l.take i ++ x :: l.drop i) := by
  have e1 : (cells encP l).drop (i * 2) = cells encP (l.drop i) := by have := cells_drop encP l i; simpa [encP] using this
  have e2 : (cells encP (l.drop i)).take ((l.length - i) * 2) = cells encP (l.drop i) := cells_all encP _ _ (by rw [List.length_drop]; show _ = (l.length - i) * 2; omega)
  have e3 := splice_cells encP (l.take i ++ x :: List.replicate (l.length - i) (⟨0, 0⟩ : Pl)) (l.drop i) (i + 1)
  have hlt : (l.take i ++ [x]).length = i + 1 := by rw [List.length_append, List.length_take, List.length_singleton]; omega
  have ea : l.take i ++ x :: List.replicate (l.length - i) (⟨0, 0⟩ : Pl) = (l.take i ++ [x]) ++ List.replicate (l.length - i) (⟨0, 0⟩ : Pl) := by simp
  have e4 : (l.take i ++ x :: List.replicate (l.length - i) (⟨0, 0⟩ : Pl)).take (i + 1) = l.take i ++ [x] := by rw [ea, List.take_append_of_le_length (by omega), List.take_of_length_le (by omega)]
  rw [e4, List.drop_of_length_le (i := i + 1 + (l.drop i).length) (by rw [ea, List.length_append, hlt, List.length_replicate, List.length_drop]; omega), List.append_nil] at e3
  have e5 : l.take i ++ x :: l.drop i = l.take i ++ [x] ++ l.drop i := by simp
  rw [e1, e2, e5, ← e3]
  rfl
theorem one_lenP (x : Pl) : (cells encP [x]).length = 2 := by rw [cells_len]; rfl
theorem insertP_v (l : List Pl) (x : Pl) (i : Nat) (hi : i ≤ l.length) (hl : l.length ≤ 1000000) :
    VCalls Try.prog 40 [.own 0 2 0 l.length, .int .i64 i, .own 1 2 0 1] [⟨61, true, cells encP l⟩, ⟨61, true, cells encP [x]⟩]
      (NewSl noKQ [⟨61, true, cells encP l⟩, ⟨61, true, cells encP [x]⟩] 2 (l.length + 1) 61 (cells encP (l.take i ++ x :: l.drop i))) := by
  refine VCalls.newSl ?_
  have hcl : (cells encP l).length = l.length * 2 := cells_len encP l
  have hc1 := one_lenP x
  by_cases he : i = l.length
  · subst he
    refine vcalls_keep (fn := Try.f40) Try.func40 rfl (by kernel_rfl) (by simp [Try.f40]) ?_
    have hb : (l.length + 1) * 16 ≤ 140737488355328 := by omega
    have hta : (cells encP l).take (l.length * 2) = cells encP l := cells_all encP l _ (by show _ = l.length * 2; omega)
    have ht1 : (cells encP [x]).take 2 = cells encP [x] := cells_all encP [x] _ rfl
    simp (config := { maxSteps := 2000000 }) (implicitDefEqProofs := false) (disch := first | omega | assumption | (simp only []; done) | fail) only [vop_move, vcallee_move, vop_assign, vcallee_assign, vop_binOp, vcallee_binOp, vop_slice, vcallee_slice, vop_builtin, vcallee_builtin, bin2_tmp, bin2_int, strip_pv, strip_own, optV_none, ev_tmp, ev_const, ofConst_int, ofConst_slice, put_some, at_mk, fits_some, ↓look_cons, ↓vlook_t, ↓vlook_f, guard_none, ↓vrun_nil, ↓code_skip, ↓code_region, ↓code_seq, ↓code_ret, ↓onNormal_normal, ↓onNormal_ret, res_one, vres_tmp, blk_zero, blk_succ, bin_int, int_eql, vlk_sl, len_own, bi_len, bi_append, ap2_own, vslo_end, slice_own_lo, enum_nil, enum_cons, evG_eq, ↓vrun_cons, ↓run1_some, ↓runG_true, ↓run2_none, ↓run3_some, ↓code_cond, ↓vtest_bool, ↓vbr_true, ↓vbr_false, ↓keep_ret, vfinK_some, at_hp, slice_own, List.map_nil, vsrc, vbase, vappend, V.kill, List.toList_toArray, List.getElem?_cons_zero, List.length_cons, List.length_nil, List.map_cons, List.map_nil, List.cons_append, List.nil_append, List.drop_zero, List.set_cons_zero, Option.map_some, Option.map_none, ↓reduceIte, Nat.reduceAdd, Nat.reduceLT, Nat.reduceBEq, Int.reduceLT, Int.reduceAdd, Int.reduceBEq, Int.toNat_natCast, Nat.zero_add, Nat.one_mul, true_and, and_self, Bool.true_and, Bool.and_self, beq_self_eq_true, Nat.le_refl, Try.velem31, Try.notInt31, Try.vkind31, Try.vzero61, Try.bytes61, dec_t, int_beq_f, Try.f40, hcl, hc1, hta, ht1, hb]
    exact ⟨by simp, .inr ⟨_, .inl rfl, by simp, by rw [← ins_endP]; rfl, cells_nums _ _ _⟩⟩
  · have hlt : i < l.length := by omega
    refine VCalls.room (by omega) fun cap hcap => ?_
    by_cases hr : l.length + 1 ≤ cap
    · have hr1 : ¬ (cap : Int) < (l.length : Int) + 1 := by omega
      have hi1 : i + 1 ≤ l.length + 1 := by omega
      have hic : i + 1 ≤ cap := by omega
      have hne : ¬ (i : Int) = l.length := by omega
      have ei : ((i : Int) + 1).toNat = i + 1 := by omega
      have el : ((l.length : Int) + 1).toNat = l.length + 1 := by omega
      refine vcalls_keep (fn := Try.f40) Try.func40 rfl (by kernel_rfl) (by simp [Try.f40]) ?_
      simp (config := { maxSteps := 2000000 }) (implicitDefEqProofs := false) (disch := first | omega | assumption | (simp only []; done) | fail) only [vop_move, vcallee_move, vop_assign, vcallee_assign, vop_binOp, vcallee_binOp, vop_slice, vcallee_slice, vop_builtin, vcallee_builtin, vcallee_value, vcal_fn, bin2_tmp, bin2_int, strip_pv, strip_own, strip_fn, optV_none, ev_tmp, ev_const, ev_func, ofConst_int, ofConst_slice, put_some, at_mk, fits_some, ↓look_cons, ↓vlook_t, ↓vlook_f, guard_none, ↓vrun_nil, ↓code_skip, ↓code_region, ↓code_seq, ↓onNormal_normal, strip_ownc, bin_int, int_add, int_eql, int_gtr, vlk_sl, len_own, bi_len, bi_cap, cap_ownc, vck_sl, len_ownc, slice_ownc, slice_ownc_hi, slice_ownc_lo, vslc0_some, vslc_some, enum_nil, enum_cons, evG_eq, ↓vrun_cons, ↓run1_some, ↓runG_true, ↓run2_none, ↓run2_some, ↓run3_some, ↓code_cond, ↓vtest_bool, ↓vbr_false, at_hp, List.map_nil, List.toList_toArray, List.length_cons, List.length_nil, List.map_cons, List.map_nil, List.nil_append, List.append_nil, Option.map_some, Option.map_none, Nat.reduceAdd, Nat.reduceLT, Nat.reduceBEq, Int.reduceLT, Int.reduceAdd, Int.reduceBEq, Int.toNat_natCast, Nat.zero_add, decide_false, true_and, Bool.true_and, beq_self_eq_true, Try.velem31, Try.vkind31, wrap_i64_in, dec_t, int_beq_f, Try.f40, hr1, Int.natCast_one, ei, el]
      refine (vcalls_apart (k := 1) (k2 := 0) (fn := Try.f62) (tS := 31) (tR := 4) (e := 61) (n := 2) Try.func62 (by kernel_rfl) rfl (by kernel_rfl) (by kernel_rfl) (by kernel_rfl) rfl rfl rfl rfl (by decide) (by omega) (by show 0 < (cells encP l).length; omega)).mono ?_
      rintro r h' ⟨rfl, rfl⟩
      simp (config := { maxSteps := 2000000 }) (implicitDefEqProofs := false) (disch := first | omega | assumption | (simp only []; done) | fail) only [vop_unOp, vcallee_unOp, strip_pv, optV_none, ev_tmp, put_some, at_mk, fits_some, ↓look_cons, ↓vlook_t, guard_none, ↓vrun_nil, ↓code_draw, ↓code_seq, ↓onNormal_normal, un_not, evG_eq, ↓vrun_cons, ↓run1_some, ↓runG_true, ↓run2_none, ↓run3_some, ↓runK_eq, ↓code_cond, ↓vtest_bool, ↓vbr_true, at_hp, Option.map_some, Nat.reduceLT, Int.reduceLT, true_and, Bool.not_false, Bool.true_and, beq_self_eq_true, dec_t]
      refine vspine (id := 15) [0, 1, 2, 3, 4, 5, 6, 7] [⟨[], [], 8, [0, 1, 2, 3, 5, 6], []⟩] (by kernel_rfl) (by kernel_rfl) ?_
      have hmin : min (l.length + 1 - i) (l.length + 1 - (i + 1)) = l.length - i := by omega
      have hmin2 : min 1 (l.length + 1 - i) = 1 := by omega
      have hof : (i + 1) * 2 ≤ l.length * 2 := by omega
      have hle : (l.length - i) * 2 ≤ l.length * 2 - i * 2 := by omega
      have hup := ins_upP l i hlt
      have hin := ins_inP l x i hlt
      have hl2 : (cells encP (l.take (i + 1) ++ l.drop i)).length = (l.length + 1) * 2 := by rw [cells_len, List.length_append, List.length_take, List.length_drop]; show _ * 2 = _; omega
      have hof2 : i * 2 ≤ (l.length + 1) * 2 := by omega
      have ht1 : (cells encP [x]).take 2 = cells encP [x] := cells_all encP [x] _ rfl
      simp (config := { maxSteps := 2000000 }) (implicitDefEqProofs := false) (disch := first | omega | assumption | (simp only []; done) | fail) only [vop_move, vcallee_move, foot_move, vop_assign, vcallee_assign, vop_binOp, vcallee_binOp, foot_binOp, vop_slice, vcallee_slice, vop_builtin, vcallee_builtin, bin2_tmp, strip_pv, strip_own, optV_none, ev_tmp, put_some, at_mk, fits_some, ↓look_cons, ↓vlook_t, ↓vlook_f, guard_none, ↓vrun_nil, ↓code_region, ↓code_seq, ↓code_ret, ↓onNormal_normal, ↓onNormal_ret, strip_ownc, res_one, vres_tmp, blk_zero, blk_succ, set_zero, bin_int, int_add, cp2_co, cp2_cc, slice_ownc, slice_ownc_lo, vslc_some, bi_copy, evG_eq, ↓vrun_cons, ↓run1_some, ↓runG_true, ↓run2_none, ↓run3_some, ↓keep_ret, vfinK_some, at_hp, List.map_nil, vsrc, vcopyC, srcL, dstC, List.getElem?_cons_zero, List.getElem?_cons_succ, List.map_cons, List.map_nil, List.nil_append, List.drop_zero, Option.map_some, Option.map_none, ↓reduceIte, Nat.reduceLT, Nat.reduceBEq, Int.reduceLT, Int.reduceBEq, Int.toNat_natCast, Nat.zero_add, Nat.one_mul, true_and, and_self, Bool.true_and, Bool.and_self, beq_self_eq_true, Nat.le_refl, ↓vsp_nil, ↓vsp_cons, ↓vspK_eq, vspC_true, vspR_eq, pick_nil, pick_cons, pickO_some, creas_nil, agree_nil, agree_cons, agree1_some, sameAt_nil, Try.velem31, wrap_i64_in, dec_t, hcl, hc1, Int.natCast_one, ei, hmin, hmin2, hof, hle, List.length_drop, hup, hin, hl2, hof2, ht1]
      exact ⟨by simp, .inr ⟨0, .inr ⟨cap, by omega, rfl⟩, by simp, rfl, cells_nums _ _ _⟩⟩
    · have hr1 : (cap : Int) < (l.length : Int) + 1 := by omega
      have hne : ¬ (i : Int) = l.length := by omega
      have ei : ((i : Int) + 1).toNat = i + 1 := by omega
      have eL : ((l.length : Int) + 1 - i).toNat = l.length + 1 - i := by omega
      have eS : i + (l.length + 1 - i) = l.length + 1 := by omega
      have hb : (l.length + 1) * 16 ≤ 140737488355328 := by omega
      have hcz : cap < l.length + 1 := by omega
      have hl0 : (0 : Int) < (l.length : Int) + 1 - i := by omega
      have hlz : (l.length : Int) + 1 - i ≤ 1000000000 := by omega
      have hoi : i * 2 ≤ l.length * 2 := by omega
      have hic : i ≤ cap := by omega
      have hg1 := ins_g1P l i (l.length + 1 - i)
      have hg1b := ins_g1bP l i (l.length + 1 - i)
      have hg2 := ins_g2P l x i hlt
      have hg3 := ins_g3P l x i hlt
      have hmin : min 1 (l.length + 1 - i) = 1 := by omega
      have hmin2 : min (l.length - i) (l.length + 1 - (i + 1)) = l.length - i := by omega
      have hl1 : (cells encP (l.take i ++ List.replicate (l.length + 1 - i) (⟨0, 0⟩ : Pl))).length = (l.length + 1) * 2 := by rw [cells_len, List.length_append, List.length_take, List.length_replicate]; show _ * 2 = _; omega
      have hl2 : (cells encP (l.take i ++ x :: List.replicate (l.length - i) (⟨0, 0⟩ : Pl))).length = (l.length + 1) * 2 := by rw [cells_len, List.length_append, List.length_take, List.length_cons, List.length_replicate]; show _ * 2 = _; omega
      have ht1 : (cells encP [x]).take 2 = cells encP [x] := cells_all encP [x] _ rfl
      have hf1 : i * 2 + (l.length + 1 - i) * 2 ≤ (l.length + 1) * 2 := by omega
      have hf2 : (i + 1) * 2 ≤ (l.length + 1) * 2 := by omega
      have hle : (l.length - i) * 2 ≤ l.length * 2 - i * 2 := by omega
      refine vcalls_keep (fn := Try.f40) Try.func40 rfl (by kernel_rfl) (by simp [Try.f40]) ?_
      simp (config := { maxSteps := 2000000 }) (implicitDefEqProofs := false) (disch := first | omega | assumption | (simp only []; done) | fail) only [vop_move, vcallee_move, vop_assign, vcallee_assign, vop_binOp, vcallee_binOp, vop_slice, vcallee_slice, vop_builtin, vcallee_builtin, bin2_tmp, bin2_int, strip_pv, strip_own, optV_none, ev_tmp, ev_const, ofConst_int, ofConst_slice, put_some, at_mk, fits_some, ↓look_cons, ↓vlook_t, ↓vlook_f, guard_none, ↓vrun_nil, ↓code_skip, ↓code_region, ↓code_draw, ↓code_seq, ↓onNormal_normal, strip_ownc, blk_zero, blk_succ, set_zero, set_succ, allOne_nil, allOne_cons, one_pv, bin_int, int_add, int_sub, int_eql, int_gtr, vlk_sl, len_own, bi_len, bi_append, ap2_cz, vapz1_some, bi_cap, cap_ownc, vck_sl, cp2_oo, len_ownc, slice_ownc, slice_own_lo, slice_ownc_hi, slice_ownc_lo, vslo_some, vslc0_some, vslc_some, bi_copy, enum_nil, enum_cons, evG_eq, ↓vrun_cons, ↓run1_some, ↓runG_true, ↓run2_none, ↓run3_some, ↓code_cond, ↓vtest_bool, ↓vbr_true, ↓vbr_false, at_hp, slice_own, List.map_nil, vsrc, vcopy, vapz2, List.toList_toArray, List.getElem?_cons_zero, List.length_cons, List.length_nil, List.map_cons, List.map_nil, List.cons_append, List.nil_append, List.drop_zero, Option.map_some, Option.map_none, ↓reduceIte, Nat.reduceAdd, Nat.reduceLT, Nat.reduceBEq, Int.reduceLT, Int.reduceAdd, Int.reduceBEq, Int.toNat_natCast, Nat.zero_add, Nat.one_mul, true_and, and_self, Bool.true_and, Bool.and_self, beq_self_eq_true, Nat.le_refl, Try.vkind3, Try.velem31, Try.vkind31, Try.vzero61, Try.bytes61, wrap_i64_in, dec_t, int_beq_f, Try.f40, hcl, hc1, hr1, Int.natCast_one, eL, eS, hb, hcz, hl0, hlz, hoi, hg1, hg2, hmin, hl1, ht1, hf1]
      refine vspine (id := 11) [0, 1, 2, 3, 4, 5, 6, 7] [⟨[], [], 8, [0, 1, 2, 3, 5, 6], []⟩] (by kernel_rfl) (by kernel_rfl) ?_
      simp (config := { maxSteps := 2000000 }) (implicitDefEqProofs := false) (disch := first | omega | assumption | (simp only []; done) | fail) only [vop_move, vcallee_move, foot_move, vop_assign, vcallee_assign, vop_binOp, vcallee_binOp, foot_binOp, vop_slice, vcallee_slice, vop_builtin, vcallee_builtin, bin2_tmp, strip_pv, strip_own, optV_none, ev_tmp, put_some, at_mk, fits_some, ↓look_cons, ↓vlook_t, ↓vlook_f, guard_none, ↓vrun_nil, ↓code_region, ↓code_seq, ↓code_ret, ↓onNormal_normal, ↓onNormal_ret, strip_ownc, res_one, vres_tmp, blk_zero, blk_succ, set_zero, set_succ, bin_int, int_add, cp2_oc, slice_ownc, slice_own_lo, slice_ownc_lo, vslo_some, vslc_some, bi_copy, evG_eq, ↓vrun_cons, ↓run1_some, ↓runG_true, ↓run2_none, ↓run3_some, ↓keep_ret, vfinK_some, at_hp, slice_own, List.map_nil, vcopyC, srcL, dstC, List.getElem?_cons_zero, List.getElem?_cons_succ, List.map_cons, List.map_nil, List.nil_append, Option.map_some, Option.map_none, ↓reduceIte, Nat.reduceLT, Nat.reduceBEq, Int.reduceLT, Int.reduceBEq, Int.toNat_natCast, Nat.zero_add, true_and, and_self, Bool.true_and, Bool.and_self, beq_self_eq_true, ↓vsp_nil, ↓vsp_cons, ↓vspK_eq, vspC_true, vspR_eq, pick_nil, pick_cons, pickO_some, creas_nil, agree_nil, agree_cons, agree1_some, sameAt_nil, Try.velem31, wrap_i64_in, dec_t, hcl, ei, hg3, hmin2, hl2, hf2, hle, List.length_drop]
      exact ⟨by simp, .inr ⟨2, .inl rfl, by simp, rfl, cells_nums _ _ _⟩⟩
end Go.Proofs.Ytnilcppifcekmaa
namespace Go.Proofs.Ytnilcppifcekmaa
open Go.V Go
def lo {α : Type} (l : List α) (f : α → Bool) : Nat := (l.takeWhile f).length
def Fore {α : Type} (l : List α) (f : α → Bool) : Prop := ∀ i j : Nat, ∀ hi : i < l.length, ∀ hj : j < l.length, i < j → f l[j] = true → f l[i] = true
theorem lo_le {α : Type} (l : List α) (f : α → Bool) : lo l f ≤ l.length := (List.takeWhile_sublist _).length_le
theorem lo_eq {α : Type} (l : List α) (f : α → Bool) (i : Nat) (hi : i ≤ l.length) (h1 : ∀ k, ∀ hk : k < l.length, k < i → f l[k] = true) (h2 : ∀ hi : i < l.length, f l[i] = false) : lo l f = i := by
  unfold lo
  induction l generalizing i with
  | nil => simp at hi; subst hi; rfl
  | cons a r ih =>
    cases i with
    | zero =>
      have := h2 (by simp)
      simp only [List.getElem_cons_zero] at this
      rw [List.takeWhile_cons, this]; rfl
    | succ i =>
      have h0 := h1 0 (by simp) (by omega)
      simp only [List.getElem_cons_zero] at h0
      rw [List.takeWhile_cons, h0]
      simp only [if_true, List.length_cons]
      rw [ih i (by simpa using hi) (fun k hk hki => h1 (k + 1) (by simpa using hk) (by omega)) (fun hi => h2 (by simpa using hi))]
structure BS {α : Type} (l : List α) (f : α → Bool) where
  i : Nat
  j : Nat
  hij : i ≤ j
  hj : j ≤ l.length
  h1 : ∀ k, ∀ hk : k < l.length, k < i → f l[k] = true
  h2 : ∀ hj : j < l.length, f l[j] = false
def BS.start {α : Type} (l : List α) (f : α → Bool) : BS l f := ⟨0, l.length, Nat.zero_le _, Nat.le_refl _, fun k hk h => by omega, fun h => by omega⟩
def BS.up {α : Type} {l : List α} {f : α → Bool} (s : BS l f) (hf : Fore l f) (h : Nat) (h1 : s.i ≤ h) (h2 : h < s.j) (hx : f (l[h]'(Nat.lt_of_lt_of_le h2 s.hj)) = true) : BS l f :=
  ⟨h + 1, s.j, h2, s.hj, fun k hk hki => by
    rcases Nat.lt_or_ge k h with hlt | hge
    · exact hf k h hk (Nat.lt_of_lt_of_le h2 s.hj) hlt hx
    · obtain rfl : k = h := by omega
      exact hx, s.h2⟩
def BS.down {α : Type} {l : List α} {f : α → Bool} (s : BS l f) (h : Nat) (h1 : s.i ≤ h) (h2 : h < s.j) (hx : f (l[h]'(Nat.lt_of_lt_of_le h2 s.hj)) = false) : BS l f :=
  ⟨s.i, h, h1, Nat.le_of_lt (Nat.lt_of_lt_of_le h2 s.hj), s.h1, fun _ => hx⟩
theorem BS.fin {α : Type} {l : List α} {f : α → Bool} (s : BS l f) (h : ¬ s.i < s.j) : lo l f = s.i := by
  have e : s.i = s.j := by have := s.hij; omega
  exact lo_eq l f s.i (by have := s.hj; omega) s.h1 (fun hi => by
    have := s.h2 (e ▸ hi)
    simpa only [e] using this)
theorem half (i j : Nat) (h : j ≤ 1000000) (hij : i ≤ j) : IntKind.i64.wrap ((IntKind.u64.wrap ((i : Int) + j)).fdiv (2 ^ min 1 IntKind.u64.bits)) = ((i + j) / 2 : Nat) := by
  have e0 : ((2 : Int) ^ min 1 IntKind.u64.bits) = 2 := by decide
  rw [e0]
  have e1 : IntKind.u64.wrap ((i : Int) + j) = (i : Int) + j := by
    simp [IntKind.wrap, IntKind.signed, IntKind.bits]; omega
  rw [e1, Int.fdiv_eq_ediv_of_nonneg _ (by omega), IntKind.wrap_i64]
  omega
theorem bsearchFP_v (l : List Pl) (hl : l.length ≤ 1000000) (y : Int) (g : FuncId) (cmp : Pl → Int) (hf : ∀ x ∈ l, VCalls Try.prog g [.agg [.int .i64 x.pg, .int .i64 x.ad], .int .i64 y] [] (Ret (.int .i64 (cmp x)))) (hF : Fore l (fun x => decide (cmp x < 0))) :
    VCalls Try.prog 60 [.pv (.sl (fz encP l)), .int .i64 y, .fn (.func g) [] []] [] (Ret (.tup [.int .i64 (lo l (fun x => decide (cmp x < 0))), .bool ((l[lo l (fun x => decide (cmp x < 0))]?.map fun x => cmp x == 0).getD false)])) := by
  refine dd Try.func60 ?_
  simp (config := { maxSteps := 2000000 }) (implicitDefEqProofs := false) (disch := first | omega | assumption | (simp only []; done) | fail) only [vop_move, vcallee_move, vop_assign, vcallee_assign, vop_builtin, vcallee_builtin, strip_pv, optV_none, ev_tmp, ev_const, ofConst_int, ofConst_bool, put_some, at_mk, fits_some, ↓look_cons, ↓vlook_t, ↓vlook_f, guard_none, ↓vrun_nil, ↓code_region, ↓code_seq, ↓code_block, ↓code_loop, ↓onNormal_normal, len_sl, vlk_sl, bi_len, enum_nil, enum_cons, evG_eq, ↓vrun_cons, ↓run1_some, ↓runG_true, ↓run2_none, ↓run3_some, at_hp, List.map_nil, List.toList_toArray, List.length_nil, List.map_cons, List.map_nil, Option.map_some, Nat.reduceAdd, Nat.reduceLT, Nat.reduceBEq, Int.reduceLT, Int.reduceAdd, Int.reduceBEq, Nat.zero_add, true_and, Bool.true_and, beq_self_eq_true, fz_len, Try.vkind31, dec_t, Try.f60]
  refine vloop (fun s : BS l (fun x => decide (cmp x < 0)) => ⟨49, 0, [(10, .int .i64 s.j), (9, .int .i64 s.i), (8, .int .i64 l.length), (0, .pv (.sl (fz encP l))), (1, .int .i64 y), (2, .fn (.func g) [] [])], []⟩) (fun s => s.j - s.i) (BS.start l _) (by refine ⟨rfl, rfl, by simp, ?_, ?_, .inl rfl⟩ <;> (repeat' apply And.intro) <;> first | rfl | trivial) ?_
  intro s
  have hij := s.hij
  have hj := s.hj
  have hh := half s.i s.j (by omega) hij
  simp (config := { maxSteps := 2000000 }) (implicitDefEqProofs := false) (disch := first | omega | assumption | (simp only []; done) | fail) only [vop_move, vcallee_move, vop_binOp, vcallee_binOp, bin2_tmp, strip_pv, optV_none, ev_tmp, put_some, at_mk, fits_some, ↓look_cons, ↓vlook_t, ↓vlook_f, guard_none, ↓vrun_nil, ↓code_region, ↓code_seq, ↓onNormal_normal, bin_int, int_lss, evG_eq, ↓vrun_cons, ↓run1_some, ↓runG_true, ↓run2_none, ↓run3_some, ↓code_cond, ↓vtest_bool, at_hp, Option.map_some, Nat.reduceLT, Nat.reduceBEq, Int.reduceLT, Int.reduceBEq, true_and, Bool.true_and, beq_self_eq_true, dec_t]
  refine vbr_split (fun hc1 => ?_) (fun hc1 => ?_) <;> simp only [decide_eq_true_eq, decide_eq_false_iff_not, Bool.or_eq_true, Bool.and_eq_true, Bool.or_eq_false_iff, Bool.and_eq_false_imp, Bool.not_eq_true', Bool.not_eq_false', beq_iff_eq, beq_eq_false_iff_ne, bne_iff_ne, bne_eq_false_iff_eq, ne_eq] at hc1
  · have hlt : (s.i + s.j) / 2 < l.length := by omega
    have hg : (fz encP l)[(s.i + s.j) / 2]? = some [.lit (.int .i64 l[(s.i + s.j) / 2].pg), .lit (.int .i64 l[(s.i + s.j) / 2].ad)] := fz_at encP l _ hlt
    have hm := hf l[(s.i + s.j) / 2] (List.getElem_mem hlt)
    simp (config := { maxSteps := 2000000 }) (implicitDefEqProofs := false) (disch := first | omega | assumption | (simp only [List.length_cons, List.length_nil, Nat.zero_add, Nat.reduceAdd]; done) | fail) only [vop_move, vcallee_move, vop_assign, vcallee_assign, vop_load, vcallee_load, vop_binOp, vcallee_binOp, vop_convert, vcallee_convert, vop_indexAddr, vcallee_indexAddr, vcallee_value, vcal_fn, conv_pv, bin2_tmp, bin2_int, strip_pv, strip_ip, strip_agg, strip_fn, optV_none, ev_tmp, ev_const, ofConst_int, put_some, at_mk, fits_some, ↓look_cons, ↓vlook_t, ↓vlook_f, guard_none, ↓vrun_nil, ↓code_skip, ↓code_region, ↓code_seq, ↓code_block, ↓onNormal_normal, load_ip, vldp_agg, iaddr_sl, vias_some, bin_int, int_add, int_shr, conv_int, vci_int, evG_eq, ↓vrun_cons, ↓run1_some, ↓runG_true, ↓run2_none, ↓run2_some, ↓run3_some, at_hp, List.map_nil, List.length_cons, List.length_nil, List.map_cons, List.map_nil, List.nil_append, List.append_nil, List.take_succ_cons, List.take_nil, Option.map_some, ↓reduceIte, Nat.reduceAdd, Nat.reduceLT, Nat.reduceBEq, Int.reduceToNat, Int.reduceLT, Int.reduceAdd, Int.reduceBEq, Int.toNat_natCast, Nat.zero_add, true_and, Bool.true_and, beq_self_eq_true, Nat.le_refl, Try.vkind3, Try.velem31, Try.vt61, Try.vkind93, wrap_i64_in, dec_t, hh, hg]
    refine vc_pure hm rfl ?_
    simp (config := { maxSteps := 2000000 }) (implicitDefEqProofs := false) (disch := first | omega | assumption | (simp only []; done) | fail) only [vop_binOp, vcallee_binOp, bin2_int, strip_pv, optV_none, ev_tmp, ev_const, ofConst_int, put_some, at_mk, fits_some, ↓look_cons, ↓vlook_t, guard_none, ↓vrun_nil, ↓onNormal_normal, bin_int, int_lss, evG_eq, ↓vrun_cons, ↓run1_some, ↓runG_true, ↓run2_none, ↓run3_some, ↓runK_eq, ↓code_cond, ↓vtest_bool, at_hp, Option.map_some, Nat.reduceLT, Int.reduceLT, true_and, Bool.true_and, beq_self_eq_true, dec_t]
    refine vbr_split (fun hx => ?_) (fun hx => ?_) <;> simp only [decide_eq_true_eq, decide_eq_false_iff_not, Bool.or_eq_true, Bool.and_eq_true, Bool.or_eq_false_iff, Bool.and_eq_false_imp, Bool.not_eq_true', Bool.not_eq_false', beq_iff_eq, beq_eq_false_iff_ne, bne_iff_ne, bne_eq_false_iff_eq, ne_eq] at hx
    · simp (config := { maxSteps := 2000000 }) (implicitDefEqProofs := false) (disch := first | omega | assumption | (simp only []; done) | fail) only [vop_move, vcallee_move, vop_assign, vcallee_assign, vop_binOp, vcallee_binOp, bin2_int, strip_pv, optV_none, ev_tmp, ev_const, ofConst_int, put_some, at_mk, fits_some, ↓look_cons, ↓vlook_t, ↓vlook_f, guard_none, ↓vrun_nil, ↓code_region, ↓onNormal_normal, ↓onBlock_normal, bin_int, int_add, evG_eq, ↓vrun_cons, ↓run1_some, ↓runG_true, ↓run2_none, ↓run3_some, at_hp, Option.map_some, Nat.reduceLT, Nat.reduceBEq, Int.reduceLT, Int.reduceBEq, true_and, Bool.true_and, beq_self_eq_true, wrap_i64_in, dec_t]
      exact ⟨s.up hF _ (by omega) (by omega) (decide_eq_true hx), by show s.j - ((s.i + s.j) / 2 + 1) < s.j - s.i; omega, (by refine ⟨rfl, rfl, by simp, ?_, ?_, .inl rfl⟩ <;> (repeat' apply And.intro) <;> first | rfl | trivial)⟩
    · simp (config := { maxSteps := 2000000 }) (implicitDefEqProofs := false) (disch := first | omega | assumption | (simp only []; done) | fail) only [vop_move, vcallee_move, vop_assign, vcallee_assign, strip_pv, optV_none, ev_tmp, put_some, at_mk, fits_some, ↓look_cons, ↓vlook_t, ↓vlook_f, guard_none, ↓vrun_nil, ↓code_region, ↓onNormal_normal, ↓onBlock_normal, evG_eq, ↓vrun_cons, ↓run1_some, ↓runG_true, ↓run2_none, ↓run3_some, at_hp, Nat.reduceLT, Nat.reduceBEq, Int.reduceLT, Int.reduceBEq, true_and, Bool.true_and, beq_self_eq_true, dec_t, dec_f]
      exact ⟨s.down ((s.i + s.j) / 2) (by omega) (by omega) (decide_eq_false hx), by show (s.i + s.j) / 2 - s.i < s.j - s.i; omega, (by refine ⟨rfl, rfl, by simp, ?_, ?_, .inl rfl⟩ <;> (repeat' apply And.intro) <;> first | rfl | trivial)⟩
  · have hlo := s.fin (by omega)
    rw [hlo]
    by_cases hin : s.i < l.length
    · have hg : (fz encP l)[s.i]? = some [.lit (.int .i64 l[s.i].pg), .lit (.int .i64 l[s.i].ad)] := fz_at encP l _ hin
      have hm := hf l[s.i] (List.getElem_mem hin)
      have hin' : (s.i : Int) < l.length := by omega
      have e : (l[s.i]?.map fun x => cmp x == 0).getD false = (cmp l[s.i] == 0) := by rw [List.getElem?_eq_getElem hin]; rfl
      rw [e]
      simp (config := { maxSteps := 2000000 }) (implicitDefEqProofs := false) (disch := first | omega | assumption | (simp only [List.length_cons, List.length_nil, Nat.zero_add, Nat.reduceAdd]; done) | fail) only [vop_move, vcallee_move, vop_load, vcallee_load, vop_binOp, vcallee_binOp, vop_indexAddr, vcallee_indexAddr, vcallee_value, vcal_fn, bin2_tmp, strip_pv, strip_fn, strip_opt, vstr_true, optV_none, optV_some, ev_tmp, put_some, at_mk, fits_some, ↓look_cons, ↓vlook_t, ↓vlook_f, guard_none, guard_some, vgof_bool, ↓code_region, ↓code_seq, ↓code_exit, ↓onNormal_normal, ↓onNormal_exit, ↓onBlock_exit, load_ip, vldp_agg, iaddr_sl, vias_some, bin_int, int_lss, evG_eq, ↓vrun_cons, ↓run1_some, ↓runG_true, ↓run2_none, ↓run2_some, ↓run3_some, at_hp, List.map_nil, List.getElem?_cons_zero, List.getElem?_cons_succ, List.length_cons, List.length_nil, List.map_cons, List.map_nil, List.nil_append, List.append_nil, List.take_succ_cons, List.take_nil, Option.map_some, Option.bind_some, ↓reduceIte, Nat.reduceAdd, Nat.reduceLT, Nat.reduceBEq, Int.reduceLT, Int.reduceAdd, Int.reduceBEq, Int.toNat_natCast, Nat.zero_add, true_and, or_true, Bool.not_true, Bool.or_true, Bool.true_and, beq_self_eq_true, Nat.le_refl, Try.velem31, Try.vt61, dec_t, dec_f, hin', hg]
      refine vc_pure (hm) rfl ?_
      simp (config := { maxSteps := 2000000 }) (implicitDefEqProofs := false) (disch := first | omega | assumption | (simp only []; done) | fail) only [vop_assign, vcallee_assign, vop_pick, vcallee_pick, vop_binOp, vcallee_binOp, bin2_int, vpick_bool, strip_pv, strip_opt, vstr_true, optV_none, optV_some, pickV_bool, ev_tmp, ev_const, ofConst_int, ofConst_bool, put_some, at_mk, fits_some, ↓look_cons, ↓vlook_t, ↓vlook_f, guard_none, guard_some, vgof_bool, ↓vrun_nil, ↓code_ret, ↓onNormal_normal, frz_tup, frzT_pv, allSome_nil, allSome_cons, frzHeap_zero, res_two, vres_tmp, bin_int, int_eql, evG_eq, ↓vrun_cons, ↓run1_some, ↓runG_true, ↓run2_none, ↓run3_some, ↓runK_eq, ↓vpost_ret, vfin_some, vfin2_some, at_hp, List.map_nil, List.getElem?_cons_zero, List.getElem?_cons_succ, List.map_cons, List.map_nil, Option.map_some, Option.bind_some, Nat.reduceLT, Nat.reduceBEq, Int.reduceLT, Int.reduceBEq, and_self, or_true, Bool.not_true, Bool.or_true, Bool.and_self, cond_true, beq_self_eq_true, DV.wk.go, dec_t, Ret, DV.nums, DV.nums.go]
    · have hin' : ¬ (s.i : Int) < l.length := by omega
      have e : (l[s.i]?.map fun x => cmp x == 0).getD false = false := by rw [List.getElem?_eq_none (by omega)]; rfl
      have hg : (fz encP l)[s.i]? = none := by rw [List.getElem?_eq_none_iff, fz_len]; omega
      rw [e]
      simp (config := { maxSteps := 2000000 }) (implicitDefEqProofs := false) (disch := first | omega | assumption | (simp only []; done) | fail) only [vop_move, vcallee_move, vop_assign, vcallee_assign, vop_pick, vcallee_pick, vop_binOp, vcallee_binOp, bin2_tmp, vpick_bool, strip_pv, strip_tup, optV_none, ev_tmp, ev_const, ofConst_bool, put_some, at_mk, fits_some, ↓look_cons, ↓vlook_t, ↓vlook_f, guard_none, guard_some, vgof_bool, ↓vrun_nil, ↓code_region, ↓code_seq, ↓code_exit, ↓code_ret, ↓onNormal_normal, ↓onNormal_exit, ↓onBlock_exit, frz_tup, frzT_pv, allSome_nil, allSome_cons, frzHeap_zero, res_two, vres_tmp, bin_int, int_lss, evG_eq, ↓vrun_cons, ↓run1_some, ↓runG_true, ↓runG_false, ↓run2_none, ↓run3_some, ↓vpost_ret, vfin_some, vfin2_some, at_hp, pickV_f, List.map_nil, List.getElem?_cons_zero, List.getElem?_cons_succ, List.map_cons, List.map_nil, Option.map_some, Option.bind_some, ↓reduceIte, Nat.reduceLT, Nat.reduceBEq, Int.reduceLT, Int.reduceBEq, decide_false, and_self, Bool.not_false, Bool.and_self, b_beq_t, beq_self_eq_true, DV.wk.go, dec_t, dec_f, Ret, DV.nums, DV.nums.go, hin']
      try simp only []
theorem cnan_v (x : Int) : VCalls Try.prog 69 [.int .i64 x] [] (Ret (.bool false)) := by
  refine dd Try.func69 ?_
  simp (config := { maxSteps := 2000000 }) (implicitDefEqProofs := false) (disch := first | omega | assumption | (simp only []; done) | fail) only [vop_move, vcallee_move, vop_assign, vcallee_assign, vop_binOp, vcallee_binOp, bin2_tmp, strip_pv, optV_none, ev_tmp, ev_const, ofConst_bool, put_some, at_mk, fits_some, ↓look_cons, ↓vlook_t, ↓vlook_f, guard_none, ↓vrun_nil, ↓code_region, ↓code_seq, ↓code_ret, ↓onNormal_normal, frz_pv, frzHeap_zero, res_one, vres_tmp, bin_int, int_neq, enum_nil, enum_cons, evG_eq, ↓vrun_cons, ↓run1_some, ↓runG_true, ↓run2_none, ↓run3_some, ↓vpost_ret, vfin_some, vfin2_some, at_hp, List.toList_toArray, List.length_nil, Option.map_some, Nat.reduceLT, Nat.reduceBEq, Int.reduceLT, Int.reduceBEq, Nat.zero_add, and_self, Bool.and_self, beq_self_eq_true, dec_t, int_bne_f, Ret, DV.nums, Try.f69]
theorem snan_v (x : Int) : VCalls Try.prog 57 [.int .i64 x] [] (Ret (.bool false)) := by
  refine dd Try.func57 ?_
  simp (config := { maxSteps := 2000000 }) (implicitDefEqProofs := false) (disch := first | omega | assumption | (simp only []; done) | fail) only [vop_move, vcallee_move, vop_assign, vcallee_assign, vop_binOp, vcallee_binOp, bin2_tmp, strip_pv, optV_none, ev_tmp, ev_const, ofConst_bool, put_some, at_mk, fits_some, ↓look_cons, ↓vlook_t, ↓vlook_f, guard_none, ↓vrun_nil, ↓code_region, ↓code_seq, ↓code_ret, ↓onNormal_normal, frz_pv, frzHeap_zero, res_one, vres_tmp, bin_int, int_neq, enum_nil, enum_cons, evG_eq, ↓vrun_cons, ↓run1_some, ↓runG_true, ↓run2_none, ↓run3_some, ↓vpost_ret, vfin_some, vfin2_some, at_hp, List.toList_toArray, List.length_nil, Option.map_some, Nat.reduceLT, Nat.reduceBEq, Int.reduceLT, Int.reduceBEq, Nat.zero_add, and_self, Bool.and_self, beq_self_eq_true, dec_t, int_bne_f, Ret, DV.nums, Try.f57]
theorem less_v (x y : Int) : VCalls Try.prog 56 [.int .i64 x, .int .i64 y] [] (Ret (.bool (decide (x < y)))) := by
  refine dd Try.func56 ?_
  simp (config := { maxSteps := 2000000 }) (implicitDefEqProofs := false) (disch := first | omega | assumption | (simp only []; done) | fail) only [vop_move, vcallee_move, vop_assign, vcallee_assign, vcallee_value, vcal_fn, strip_pv, strip_fn, optV_none, ev_tmp, ev_const, ev_func, ofConst_bool, put_some, at_mk, fits_some, ↓look_cons, ↓vlook_t, ↓vlook_f, guard_none, ↓vrun_nil, ↓code_region, ↓code_seq, ↓onNormal_normal, enum_nil, enum_cons, evG_eq, ↓vrun_cons, ↓run1_some, ↓runG_true, ↓run2_none, ↓run2_some, ↓run3_some, at_hp, List.map_nil, List.toList_toArray, List.length_nil, List.map_cons, List.map_nil, List.nil_append, List.append_nil, Nat.reduceAdd, Nat.reduceLT, Nat.reduceBEq, Int.reduceLT, Int.reduceAdd, Int.reduceBEq, Nat.zero_add, true_and, Bool.true_and, beq_self_eq_true, dec_t, Try.f56]
  refine vc_pure (cnan_v x) rfl ?_
  simp (config := { maxSteps := 2000000 }) (implicitDefEqProofs := false) (disch := first | omega | assumption | (simp only []; done) | fail) only [vop_move, vcallee_move, vop_assign, vcallee_assign, vop_pick, vcallee_pick, vop_binOp, vcallee_binOp, bin2_tmp, vpick_bool, strip_pv, strip_tup, strip_opt, vstr_true, optV_none, optV_some, pickV_bool, ev_tmp, ev_const, ofConst_bool, put_some, at_mk, fits_some, ↓look_cons, ↓vlook_t, ↓vlook_f, guard_none, guard_some, vgof_bool, ↓vrun_nil, ↓code_ret, ↓onNormal_normal, frz_pv, frzHeap_zero, res_one, vres_tmp, bin_int, int_lss, evG_eq, ↓vrun_cons, ↓run1_some, ↓runG_true, ↓runG_false, ↓run2_none, ↓run3_some, ↓runK_eq, ↓vpost_ret, vfin_some, vfin2_some, at_hp, pickV_f, List.getElem?_cons_zero, List.getElem?_cons_succ, Option.map_some, Option.bind_some, Nat.reduceLT, Nat.reduceBEq, Int.reduceLT, Int.reduceBEq, and_self, or_true, Bool.not_true, Bool.not_false, Bool.or_true, Bool.and_self, b_beq_t, cond_false, beq_self_eq_true, dec_t, Ret, DV.nums]
  try simp only []
theorem bsearchI_v (l : List Int) (hl : l.length ≤ 1000000) (y : Int) (hF : Fore l (fun x => decide (x < y))) :
    VCalls Try.prog 34 [.pv (.sl (fz encI l)), .int .i64 y] [] (Ret (.tup [.int .i64 (lo l (fun x => decide (x < y))), .bool ((l[lo l (fun x => decide (x < y))]?.map fun x => x == y).getD false)])) := by
  refine dd Try.func34 ?_
  simp (config := { maxSteps := 2000000 }) (implicitDefEqProofs := false) (disch := first | omega | assumption | (simp only []; done) | fail) only [vop_move, vcallee_move, vop_assign, vcallee_assign, vop_builtin, vcallee_builtin, strip_pv, optV_none, ev_tmp, ev_const, ofConst_int, ofConst_bool, put_some, at_mk, fits_some, ↓look_cons, ↓vlook_t, ↓vlook_f, guard_none, ↓vrun_nil, ↓code_region, ↓code_seq, ↓code_block, ↓code_loop, ↓onNormal_normal, len_sl, vlk_sl, bi_len, enum_nil, enum_cons, evG_eq, ↓vrun_cons, ↓run1_some, ↓runG_true, ↓run2_none, ↓run3_some, at_hp, List.map_nil, List.toList_toArray, List.length_nil, List.map_cons, List.map_nil, Option.map_some, Nat.reduceAdd, Nat.reduceLT, Nat.reduceBEq, Int.reduceLT, Int.reduceAdd, Int.reduceBEq, Nat.zero_add, true_and, Bool.true_and, beq_self_eq_true, fz_len, Try.vkind32, dec_t, Try.f34]
  refine vloop (fun s : BS l (fun x => decide (x < y)) => ⟨54, 0, [(8, .int .i64 s.j), (7, .int .i64 s.i), (6, .int .i64 l.length), (0, .pv (.sl (fz encI l))), (1, .int .i64 y)], []⟩) (fun s => s.j - s.i) (BS.start l _) (by refine ⟨rfl, rfl, by simp, ?_, ?_, .inl rfl⟩ <;> (repeat' apply And.intro) <;> first | rfl | trivial) ?_
  intro s
  have hij := s.hij
  have hj := s.hj
  have hh := half s.i s.j (by omega) hij
  simp (config := { maxSteps := 2000000 }) (implicitDefEqProofs := false) (disch := first | omega | assumption | (simp only []; done) | fail) only [vop_move, vcallee_move, vop_binOp, vcallee_binOp, bin2_tmp, strip_pv, optV_none, ev_tmp, put_some, at_mk, fits_some, ↓look_cons, ↓vlook_t, ↓vlook_f, guard_none, ↓vrun_nil, ↓code_region, ↓code_seq, ↓onNormal_normal, bin_int, int_lss, evG_eq, ↓vrun_cons, ↓run1_some, ↓runG_true, ↓run2_none, ↓run3_some, ↓code_cond, ↓vtest_bool, at_hp, Option.map_some, Nat.reduceLT, Nat.reduceBEq, Int.reduceLT, Int.reduceBEq, true_and, Bool.true_and, beq_self_eq_true, dec_t]
  refine vbr_split (fun hc1 => ?_) (fun hc1 => ?_) <;> simp only [decide_eq_true_eq, decide_eq_false_iff_not, Bool.or_eq_true, Bool.and_eq_true, Bool.or_eq_false_iff, Bool.and_eq_false_imp, Bool.not_eq_true', Bool.not_eq_false', beq_iff_eq, beq_eq_false_iff_ne, bne_iff_ne, bne_eq_false_iff_eq, ne_eq] at hc1
  · have hlt : (s.i + s.j) / 2 < l.length := by omega
    have hg : (fz encI l)[(s.i + s.j) / 2]? = some [.lit (.int .i64 l[(s.i + s.j) / 2])] := fz_at encI l _ hlt
    simp (config := { maxSteps := 2000000 }) (implicitDefEqProofs := false) (disch := first | omega | assumption | (simp only [List.length_cons, List.length_nil, Nat.zero_add]; done) | fail) only [vop_move, vcallee_move, vop_assign, vcallee_assign, vop_load, vcallee_load, vop_binOp, vcallee_binOp, vop_convert, vcallee_convert, vop_indexAddr, vcallee_indexAddr, vcallee_value, vcal_fn, conv_pv, bin2_tmp, bin2_int, strip_pv, strip_ip, strip_fn, optV_none, ev_tmp, ev_const, ev_func, ofConst_int, put_some, at_mk, fits_some, ↓look_cons, ↓vlook_t, ↓vlook_f, guard_none, ↓vrun_nil, ↓code_skip, ↓code_region, ↓code_seq, ↓code_block, ↓onNormal_normal, load_ip, vldp_one, iaddr_sl, vias_some, bin_int, int_add, int_shr, conv_int, vci_int, evG_eq, ↓vrun_cons, ↓run1_some, ↓runG_true, ↓run2_none, ↓run2_some, ↓run3_some, at_hp, List.map_nil, List.getElem?_cons_zero, List.map_cons, List.map_nil, List.nil_append, List.append_nil, Option.map_some, Nat.reduceLT, Nat.reduceBEq, Int.reduceToNat, Int.reduceLT, Int.reduceBEq, Int.toNat_natCast, true_and, Bool.true_and, beq_self_eq_true, Try.vt3, Try.vkind3, Try.velem32, Try.vkind93, wrap_i64_in, dec_t, hh, hg]
    refine vc_pure (less_v l[(s.i + s.j) / 2] y) rfl ?_
    simp (config := { maxSteps := 2000000 }) (implicitDefEqProofs := false) (disch := first | omega | assumption) only [optV_none, ev_tmp, put_some, at_mk, ↓look_cons, ↓vlook_t, ↓vrun_nil, ↓onNormal_normal, ↓runK_eq, ↓code_cond, ↓vtest_bool, beq_self_eq_true]
    refine vbr_split (fun hx => ?_) (fun hx => ?_) <;> simp only [decide_eq_true_eq, decide_eq_false_iff_not, Bool.or_eq_true, Bool.and_eq_true, Bool.or_eq_false_iff, Bool.and_eq_false_imp, Bool.not_eq_true', Bool.not_eq_false', beq_iff_eq, beq_eq_false_iff_ne, bne_iff_ne, bne_eq_false_iff_eq, ne_eq] at hx
    · simp (config := { maxSteps := 2000000 }) (implicitDefEqProofs := false) (disch := first | omega | assumption | (simp only []; done) | fail) only [vop_move, vcallee_move, vop_assign, vcallee_assign, vop_binOp, vcallee_binOp, bin2_int, strip_pv, optV_none, ev_tmp, ev_const, ofConst_int, put_some, at_mk, fits_some, ↓look_cons, ↓vlook_t, ↓vlook_f, guard_none, ↓vrun_nil, ↓code_region, ↓onNormal_normal, ↓onBlock_normal, bin_int, int_add, evG_eq, ↓vrun_cons, ↓run1_some, ↓runG_true, ↓run2_none, ↓run3_some, at_hp, Option.map_some, Nat.reduceLT, Nat.reduceBEq, Int.reduceLT, Int.reduceBEq, true_and, Bool.true_and, beq_self_eq_true, wrap_i64_in, dec_t]
      exact ⟨s.up hF _ (by omega) (by omega) (decide_eq_true hx), by show s.j - ((s.i + s.j) / 2 + 1) < s.j - s.i; omega, (by refine ⟨rfl, rfl, by simp, ?_, ?_, .inl rfl⟩ <;> (repeat' apply And.intro) <;> first | rfl | trivial)⟩
    · simp (config := { maxSteps := 2000000 }) (implicitDefEqProofs := false) (disch := first | omega | assumption | (simp only []; done) | fail) only [vop_move, vcallee_move, vop_assign, vcallee_assign, strip_pv, optV_none, ev_tmp, put_some, at_mk, fits_some, ↓look_cons, ↓vlook_t, ↓vlook_f, guard_none, ↓vrun_nil, ↓code_region, ↓onNormal_normal, ↓onBlock_normal, evG_eq, ↓vrun_cons, ↓run1_some, ↓runG_true, ↓run2_none, ↓run3_some, at_hp, Nat.reduceLT, Nat.reduceBEq, Int.reduceLT, Int.reduceBEq, true_and, Bool.true_and, beq_self_eq_true, dec_t, dec_f]
      exact ⟨s.down ((s.i + s.j) / 2) (by omega) (by omega) (decide_eq_false hx), by show (s.i + s.j) / 2 - s.i < s.j - s.i; omega, (by refine ⟨rfl, rfl, by simp, ?_, ?_, .inl rfl⟩ <;> (repeat' apply And.intro) <;> first | rfl | trivial)⟩
  · have hlo := s.fin (by omega)
    rw [hlo]
    by_cases hin : s.i < l.length
    · have hg : (fz encI l)[s.i]? = some [.lit (.int .i64 l[s.i])] := fz_at encI l _ hin
      have hin' : (s.i : Int) < l.length := by omega
      have e : (l[s.i]?.map fun x => x == y).getD false = (l[s.i] == y) := by rw [List.getElem?_eq_getElem hin]; rfl
      rw [e]
      by_cases he : l[s.i] = y
      · simp (config := { maxSteps := 2000000 }) (implicitDefEqProofs := false) (disch := first | omega | assumption | (simp only [List.length_cons, List.length_nil, Nat.zero_add]; done) | fail) only [vop_move, vcallee_move, vop_assign, vcallee_assign, vop_pick, vcallee_pick, vop_load, vcallee_load, vop_binOp, vcallee_binOp, vop_indexAddr, vcallee_indexAddr, bin2_tmp, vpick_bool, strip_pv, strip_tup, strip_opt, vstr_true, optV_none, optV_some, pickV_bool, ev_tmp, ev_const, ofConst_bool, put_some, at_mk, fits_some, ↓look_cons, ↓vlook_t, ↓vlook_f, guard_none, guard_some, vgof_bool, vgof_opt, vgof_skip, ↓vrun_nil, ↓code_region, ↓code_seq, ↓code_exit, ↓code_ret, ↓onNormal_normal, ↓onNormal_exit, ↓onBlock_exit, frz_tup, frzT_pv, allSome_nil, allSome_cons, frzHeap_zero, res_two, vres_tmp, load_ip, vldp_one, iaddr_sl, vias_some, bin_int, int_eql, int_lss, evG_eq, ↓vrun_cons, ↓run1_some, ↓runG_true, ↓runG_false, ↓run2_none, ↓run3_some, ↓vpost_ret, vfin_some, vfin2_some, at_hp, pickV_t, List.map_nil, List.getElem?_cons_zero, List.getElem?_cons_succ, List.map_cons, List.map_nil, Option.map_some, Option.bind_some, ↓reduceIte, Nat.reduceLT, Nat.reduceBEq, Int.reduceLT, Int.reduceBEq, Int.toNat_natCast, and_self, and_false, or_true, Bool.not_true, Bool.or_true, Bool.and_false, Bool.and_self, b_beq_f, cond_true, beq_self_eq_true, DV.wk.go, Try.vt3, Try.velem32, dec_t, dec_f, Ret, DV.nums, DV.nums.go, hin', hg, he]
      · simp (config := { maxSteps := 2000000 }) (implicitDefEqProofs := false) (disch := first | omega | assumption | (simp only [List.length_cons, List.length_nil, Nat.zero_add]; done) | fail) only [vop_move, vcallee_move, vop_load, vcallee_load, vop_binOp, vcallee_binOp, vop_indexAddr, vcallee_indexAddr, vcallee_value, vcal_fn, bin2_tmp, strip_pv, strip_fn, strip_opt, vstr_true, optV_none, optV_some, ev_tmp, ev_func, put_some, at_mk, fits_some, ↓look_cons, ↓vlook_t, ↓vlook_f, guard_none, guard_some, vgof_bool, vgof_opt, ↓code_region, ↓code_seq, ↓code_exit, ↓onNormal_normal, ↓onNormal_exit, ↓onBlock_exit, load_ip, vldp_one, iaddr_sl, vias_some, bin_int, int_eql, int_lss, evG_eq, ↓vrun_cons, ↓run1_some, ↓runG_true, ↓run2_none, ↓run2_some, ↓run3_some, at_hp, List.map_nil, List.getElem?_cons_zero, List.getElem?_cons_succ, List.map_cons, List.map_nil, List.nil_append, List.append_nil, Option.map_some, Option.bind_some, ↓reduceIte, Nat.reduceLT, Nat.reduceBEq, Int.reduceLT, Int.reduceBEq, Int.toNat_natCast, true_and, and_self, or_true, Bool.not_true, Bool.or_true, Bool.true_and, Bool.and_self, beq_self_eq_true, Try.vt3, Try.velem32, dec_t, dec_f, int_beq_f, hin', hg]
        refine vc_pure (snan_v _) rfl ?_
        simp (config := { maxSteps := 2000000 }) (implicitDefEqProofs := false) (disch := first | omega | assumption | (simp only []; done) | fail) only [vop_move, vcallee_move, vop_assign, vcallee_assign, vop_pick, vcallee_pick, vpick_bool, strip_pv, strip_tup, strip_opt, vstr_true, optV_none, optV_some, pickV_bool, ev_tmp, ev_const, ofConst_bool, put_some, at_mk, fits_some, ↓look_cons, ↓vlook_t, ↓vlook_f, guard_none, guard_some, vgof_bool, vgof_opt, ↓vrun_nil, ↓code_ret, ↓onNormal_normal, frz_tup, frzT_pv, allSome_nil, allSome_cons, frzHeap_zero, res_two, vres_tmp, evG_eq, ↓vrun_cons, ↓run1_some, ↓runG_true, ↓runG_false, ↓run2_none, ↓run3_some, ↓runK_eq, ↓vpost_ret, vfin_some, vfin2_some, at_hp, pickV_f, List.map_nil, List.getElem?_cons_zero, List.getElem?_cons_succ, List.map_cons, List.map_nil, Option.map_some, Option.bind_some, Nat.reduceLT, Nat.reduceBEq, Int.reduceLT, Int.reduceBEq, and_self, and_false, or_true, Bool.not_true, Bool.not_false, Bool.or_true, Bool.and_false, Bool.and_self, b_beq_t, cond_false, Bool.cond_self, beq_self_eq_true, DV.wk.go, dec_t, Ret, DV.nums, DV.nums.go]
        try simp only []
    · have hin' : ¬ (s.i : Int) < l.length := by omega
      have e : (l[s.i]?.map fun x => x == y).getD false = false := by rw [List.getElem?_eq_none (by omega)]; rfl
      have hg : (fz encI l)[s.i]? = none := by rw [List.getElem?_eq_none_iff, fz_len]; omega
      rw [e]
      simp (config := { maxSteps := 2000000 }) (implicitDefEqProofs := false) (disch := first | omega | assumption | (simp only []; done) | fail) only [vop_move, vcallee_move, vop_assign, vcallee_assign, vop_pick, vcallee_pick, vop_binOp, vcallee_binOp, bin2_tmp, vpick_bool, strip_pv, strip_tup, optV_none, ev_tmp, ev_const, ofConst_bool, put_some, at_mk, fits_some, ↓look_cons, ↓vlook_t, ↓vlook_f, guard_none, guard_some, vgof_bool, vgof_skip, ↓vrun_nil, ↓code_region, ↓code_seq, ↓code_exit, ↓code_ret, ↓onNormal_normal, ↓onNormal_exit, ↓onBlock_exit, frz_tup, frzT_pv, allSome_nil, allSome_cons, frzHeap_zero, res_two, vres_tmp, bin_int, int_lss, evG_eq, ↓vrun_cons, ↓run1_some, ↓runG_true, ↓runG_false, ↓run2_none, ↓run3_some, ↓vpost_ret, vfin_some, vfin2_some, at_hp, pickV_f, List.map_nil, List.getElem?_cons_zero, List.getElem?_cons_succ, List.map_cons, List.map_nil, Option.map_some, Option.bind_some, ↓reduceIte, Nat.reduceLT, Nat.reduceBEq, Int.reduceLT, Int.reduceBEq, decide_false, and_self, Bool.not_false, Bool.and_self, b_beq_t, beq_self_eq_true, DV.wk.go, dec_t, dec_f, Ret, DV.nums, DV.nums.go, hin']
      try simp only []
      try simp only []
end Go.Proofs.Ytnilcppifcekmaa
namespace Go.Proofs.Ytnilcppifcekmaa
open Go.V Go
structure Rm where
  pages : Int
  spares : Int
  places : List Pl
  bad : List Int
def Rm.d (r : Rm) : List DV := [.int .i64 r.pages, .int .i64 r.spares, .pv (.sl (fz encP r.places)), .pv (.sl (fz encI r.bad))]
def Rm.sm (r : Rm) : Prop := r.places.length ≤ 1000 ∧ r.bad.length ≤ 1000
def P0 : Pl := ⟨0, 0⟩
def Rm.headB (r : Rm) : Bool := decide (1 ≤ r.pages) && decide (r.pages ≤ 64) && decide (0 ≤ r.spares) && decide (r.spares ≤ 16) && decide (r.pages + r.spares ≤ 64)
def Rm.chkB (r : Rm) (i : Nat) : Bool := decide (0 ≤ r.bad.getD i 0) && decide (r.bad.getD i 0 < r.pages + r.spares) && (decide (i = 0) || decide (r.bad.getD (i - 1) 0 < r.bad.getD i 0))
def Rm.chkP (r : Rm) (i : Nat) : Bool :=
  decide (0 ≤ (r.places.getD i P0).pg) && decide ((r.places.getD i P0).pg < r.pages) && (decide (i = 0) || decide ((r.places.getD (i - 1) P0).pg < (r.places.getD i P0).pg)) &&
  decide ((r.places.getD i P0).pg ∈ r.bad) && decide (r.pages ≤ (r.places.getD i P0).ad) && decide ((r.places.getD i P0).ad < r.pages + r.spares) && !decide ((r.places.getD i P0).ad ∈ r.bad) &&
  !decide ((r.places.getD i P0).ad ∈ (r.places.take i).map (·.ad))
def Rm.own (r : Rm) (i : Nat) : Nat := ((r.bad.take i).filter fun x => decide (x < r.pages)).length
def Rm.okB (r : Rm) : Bool := r.headB && (List.range r.bad.length).all r.chkB && (List.range r.places.length).all r.chkP && (r.own r.bad.length == r.places.length)
structure OkayQ (n : Nat) (c : Nat → Bool) where
  i : Nat
  hi : i ≤ n
  ok : ∀ k, k < i → c k = true
def OkayQ.start (n : Nat) (c : Nat → Bool) : OkayQ n c := ⟨0, Nat.zero_le _, fun k h => by omega⟩
def OkayQ.next {n : Nat} {c : Nat → Bool} (s : OkayQ n c) (h : s.i < n) (hc : c s.i = true) : OkayQ n c := ⟨s.i + 1, h, fun k hk => by
  rcases Nat.lt_or_ge k s.i with hlt | hge
  · exact s.ok k hlt
  · obtain rfl : k = s.i := by omega
    exact hc⟩
theorem OkayQ.all {n : Nat} {c : Nat → Bool} (s : OkayQ n c) (h : ¬ s.i < n) : (List.range n).all c = true := by
  rw [List.all_eq_true]
  intro k hk
  rw [List.mem_range] at hk
  exact s.ok k (by omega)
theorem all_notQ {n : Nat} {c : Nat → Bool} {i : Nat} (h : i < n) (hc : c i = false) : (List.range n).all c = false := by
  rw [List.all_eq_false]
  exact ⟨i, by rwa [List.mem_range], by rw [hc]; simp⟩
theorem fore_of (l : List Int) (h : ∀ i, i < l.length → i = 0 ∨ l.getD (i - 1) 0 < l.getD i 0) : l.Pairwise (· < ·) := by
  rw [List.pairwise_iff_getElem]
  intro i j hi hj hij
  induction j with
  | zero => omega
  | succ j ih =>
    have h1 := h (j + 1) hj
    rw [List.getD_eq_getElem?_getD, List.getD_eq_getElem?_getD, List.getElem?_eq_getElem hj, List.getElem?_eq_getElem (show j + 1 - 1 < l.length by omega)] at h1
    have h2 : l[j] < l[j + 1] := by
      rcases h1 with h1 | h1
      · omega
      · exact h1
    rcases Nat.lt_or_ge i j with hlt | hge
    · have := ih (by omega) hlt; omega
    · obtain rfl : i = j := by omega
      exact h2
theorem asc_fore (l : List Int) (h : l.Pairwise (· < ·)) (y : Int) : Fore l (fun x => decide (x < y)) := fun i j hi hj hij hx => by
  have := List.pairwise_iff_getElem.mp h i j hi hj hij
  simp only [decide_eq_true_eq] at hx ⊢
  omega
theorem lo_before {α : Type} (l : List α) (f : α → Bool) (k : Nat) (hk : k < lo l f) (hl : k < l.length) : f l[k] = true := by
  induction l generalizing k with
  | nil => simp at hl
  | cons a r ih =>
    cases ha : f a with
    | false =>
      have e : lo (a :: r) f = 0 := by simp [lo, List.takeWhile_cons, ha]
      omega
    | true =>
      have e : lo (a :: r) f = lo r f + 1 := by simp [lo, List.takeWhile_cons, ha]
      cases k with
      | zero => exact ha
      | succ k => exact ih k (by omega) (by simpa using hl)
theorem lo_at {α : Type} (l : List α) (f : α → Bool) (h : lo l f < l.length) : f l[lo l f] = false := by
  induction l with
  | nil => simp at h
  | cons a r ih =>
    cases ha : f a with
    | false =>
      have e : lo (a :: r) f = 0 := by simp [lo, List.takeWhile_cons, ha]
      simp only [e, List.getElem_cons_zero]; exact ha
    | true =>
      have e : lo (a :: r) f = lo r f + 1 := by simp [lo, List.takeWhile_cons, ha]
      have h' : lo r f < r.length := by rw [e] at h; simpa using h
      have := ih h'
      simp only [e, List.getElem_cons_succ]; exact this
theorem found_mem (l : List Int) (h : l.Pairwise (· < ·)) (y : Int) : ((l[lo l (fun x => decide (x < y))]?.map fun x => x == y).getD false) = decide (y ∈ l) := by
  by_cases hm : y ∈ l
  · obtain ⟨k, hk, e⟩ := List.getElem_of_mem hm
    have hlo : lo l (fun x => decide (x < y)) = k := by
      refine lo_eq l _ k (by omega) (fun j hj hjk => ?_) (fun hk => ?_)
      · have := List.pairwise_iff_getElem.mp h j k hj hk hjk
        rw [decide_eq_true_eq]; omega
      · rw [decide_eq_false_iff_not]; omega
    rw [hlo, List.getElem?_eq_getElem hk, decide_eq_true hm]
    simp [e]
  · rw [decide_eq_false hm]
    cases hx : l[lo l (fun x => decide (x < y))]? with
    | none => rfl
    | some x =>
      have : x ∈ l := List.mem_of_getElem? hx
      have hne : ¬ x = y := fun e => hm (e ▸ this)
      simpa using hne
theorem bad_asc (r : Rm) (h : (List.range r.bad.length).all r.chkB = true) : r.bad.Pairwise (· < ·) := by
  refine fore_of _ fun i hi => ?_
  rw [List.all_eq_true] at h
  have := h i (by rwa [List.mem_range])
  simp only [Rm.chkB, Bool.and_eq_true, Bool.or_eq_true, decide_eq_true_eq] at this
  exact this.2
theorem bad_v (r : Rm) (hb : r.bad.length ≤ 1000) (ha : r.bad.Pairwise (· < ·)) (x : Int) : VCalls Try.prog 32 [.agg r.d, .int .i64 x] [] (Ret (.bool (decide (x ∈ r.bad)))) := by
  refine dd Try.func32 ?_
  have h := bsearchI_v r.bad (by omega) x (asc_fore r.bad ha x)
  rw [found_mem r.bad ha x] at h
  simp (config := { maxSteps := 2000000 }) (implicitDefEqProofs := false) (disch := first | omega | assumption | (simp only []; done) | fail) only [vop_move, vcallee_move, vop_assign, vcallee_assign, vop_box, vcallee_box, vop_load, vcallee_load, vop_fieldAddr, vcallee_fieldAddr, vcallee_value, vcal_fn, strip_pv, strip_ptr, strip_agg, strip_fn, optV_none, ev_tmp, ev_const, ev_func, ofConst_bool, put_some, at_mk, fits_some, ↓look_cons, ↓vlook_t, ↓vlook_f, guard_none, ↓vrun_nil, ↓code_region, ↓code_seq, ↓onNormal_normal, load_ptr, vld_one, blk_zero, box_eq, allOne_nil, allOne_cons, one_pv, faddr_ptr, vfap_some, enum_nil, enum_cons, evG_eq, ↓vrun_cons, ↓run1_some, ↓runG_true, ↓run2_none, ↓run2_some, ↓run3_some, at_hp, List.map_nil, dcells, List.toList_toArray, List.getElem?_cons_zero, List.getElem?_cons_succ, List.length_nil, List.map_cons, List.map_nil, List.nil_append, List.append_nil, Option.map_some, ↓reduceIte, reduceCtorEq, Nat.reduceAdd, Nat.reduceLT, Nat.reduceBEq, Int.reduceLT, Int.reduceAdd, Int.reduceBEq, Nat.zero_add, true_and, and_self, Bool.true_and, Bool.and_self, beq_self_eq_true, Try.vt32, Try.vfield34x3, dec_t, Try.f32, Rm.d]
  refine vc_pure h rfl ?_
  simp (config := { maxSteps := 2000000 }) (implicitDefEqProofs := false) (disch := first | omega | assumption | (simp only []; done) | fail) only [vop_move, vcallee_move, vop_assign, vcallee_assign, vop_extract, vcallee_extract, strip_pv, strip_tup, optV_none, ev_tmp, put_some, at_mk, fits_some, ↓look_cons, ↓vlook_t, ↓vlook_f, guard_none, ↓vrun_nil, ↓code_region, ↓code_seq, ↓code_ret, ↓onNormal_normal, frz_pv, frzHeap_zero, res_one, vres_tmp, ext_tup, evG_eq, ↓vrun_cons, ↓run1_some, ↓runG_true, ↓run2_none, ↓run3_some, ↓runK_eq, ↓vpost_ret, vfin_some, vfin2_some, at_hp, List.getElem?_cons_zero, List.getElem?_cons_succ, Option.map_some, Nat.reduceLT, Nat.reduceBEq, Int.reduceLT, Int.reduceBEq, and_self, Bool.and_self, beq_self_eq_true, dec_t, Ret, DV.nums]
end Go.Proofs.Ytnilcppifcekmaa
namespace Go.Proofs.Ytnilcppifcekmaa
open Go.V Go
structure Ce where
  set : Bool
  data : List UInt8
structure Ch where
  pg : Int
  sl : Int
  b : Ce
  a : Ce
structure E where
  lsn : Int
  kind : Int
  tx : Int
  ptx : Int
  ppg : Int
  ref : Int
  c : Ch
  blob : List UInt8
def Ce.d (x : Ce) : List DV := [.bool x.set, .pv (.str x.data)]
def Ch.d (x : Ch) : List DV := [.int .i64 x.pg, .int .i64 x.sl, .bool x.b.set, .pv (.str x.b.data), .bool x.a.set, .pv (.str x.a.data)]
def E.d (x : E) : List DV := [.int .i64 x.lsn, .int .i64 x.kind, .int .i64 x.tx, .int .i64 x.ptx, .int .i64 x.ppg, .int .i64 x.ref, .int .i64 x.c.pg, .int .i64 x.c.sl, .bool x.c.b.set, .pv (.str x.c.b.data), .bool x.c.a.set, .pv (.str x.c.a.data), .pv (.str x.blob)]
def Ce0 : Ce := ⟨false, []⟩
def Ch0 : Ch := ⟨0, 0, Ce0, Ce0⟩
def E0 : E := ⟨0, 0, 0, 0, 0, 0, Ch0, []⟩
def Ce.okB (x : Ce) : Bool := decide (x.data.length ≤ 12) && (x.set || x.data == [])
def Ch.okB (x : Ch) : Bool := decide (0 ≤ x.pg) && decide (x.pg < 64) && decide (0 ≤ x.sl) && decide (x.sl < 16) && x.b.okB && x.a.okB
def Ce.no (x : Ce) : Bool := !x.set && x.data == []
def Ch.no (x : Ch) : Bool := x.pg == 0 && x.sl == 0 && x.b.no && x.a.no
def bef (n l : Int) : Bool := decide (0 ≤ n) && decide (n < l)
attribute [local go_sem] Ce.d Ch.d E.d allEq leafEq
theorem cellok_v (x : Ce) : VCalls Try.prog 82 [.agg x.d] [] (Ret (.bool x.okB)) := by
  refine dd Try.func82 ?_
  (unfold Try.f82; refine rn trivial ?_)
  have F := trivial
  refine rn F ?_
  repeat' (first
    | with_reducible exact True.intro
    | (refine sG F ?_ ?_ <;> intro hZ))
  all_goals (first | rfl | (congr 3; rw [Bool.eq_iff_iff]; (try simp only [Ce.okB, decide_eq_true_eq, Bool.and_eq_true, Bool.or_eq_true, Bool.not_eq_true', Bool.not_eq_false', decide_eq_false_iff_not, beq_iff_eq, bne_iff_ne, ne_eq, Bool.false_eq_true, Bool.true_eq_false, iff_true, true_iff, iff_false, false_iff]); first | done | omega | grind))
theorem rcellok_v (x : Ce) : VCalls Try.prog 73 [.agg x.d] [] (Ret (.bool x.okB)) := by
  refine dd Try.func73 ?_
  (unfold Try.f73; refine rn trivial ?_)
  have F := trivial
  refine rn F ?_
  repeat' (first
    | with_reducible exact True.intro
    | (refine sG F ?_ ?_ <;> intro hZ))
  all_goals (first | rfl | (congr 3; rw [Bool.eq_iff_iff]; (try simp only [Ce.okB, decide_eq_true_eq, Bool.and_eq_true, Bool.or_eq_true, Bool.not_eq_true', Bool.not_eq_false', decide_eq_false_iff_not, beq_iff_eq, bne_iff_ne, ne_eq, Bool.false_eq_true, Bool.true_eq_false, iff_true, true_iff, iff_false, false_iff]); first | done | omega | grind))
theorem none_v (x : Ch) : VCalls Try.prog 75 [.agg x.d] [] (Ret (.bool x.no)) := by
  refine dd Try.func75 ?_
  (unfold Try.f75; refine rn trivial ?_)
  simp only [Ch.no, Ce.no, Bool.and_assoc]
theorem before_v (n : Int) (x : E) : VCalls Try.prog 67 [.int .i64 n, .agg x.d] [] (Ret (.bool (bef n x.lsn))) := by
  refine dd Try.func67 ?_
  (unfold Try.f67; refine rn trivial ?_)
  have F := trivial
  refine rn F ?_
  repeat' (first
    | with_reducible exact True.intro
    | (refine sG F ?_ ?_ <;> intro hZ))
  all_goals (first | rfl | (congr 3; rw [Bool.eq_iff_iff]; (try simp only [bef, decide_eq_true_eq, Bool.and_eq_true, Bool.or_eq_true, Bool.not_eq_true', Bool.not_eq_false', decide_eq_false_iff_not, beq_iff_eq, bne_iff_ne, ne_eq, Bool.false_eq_true, Bool.true_eq_false, iff_true, true_iff, iff_false, false_iff]); first | done | omega | grind))
theorem rbefore_v (n l : Int) : VCalls Try.prog 49 [.int .i64 n, .int .i64 l] [] (Ret (.bool (bef n l))) := by
  refine dd Try.func49 ?_
  (unfold Try.f49; refine rn trivial ?_)
  have F := trivial
  refine rn F ?_
  repeat' (first
    | with_reducible exact True.intro
    | (refine sG F ?_ ?_ <;> intro hZ))
  all_goals (first | rfl | (congr 3; rw [Bool.eq_iff_iff]; (try simp only [bef, decide_eq_true_eq, Bool.and_eq_true, Bool.or_eq_true, Bool.not_eq_true', Bool.not_eq_false', decide_eq_false_iff_not, beq_iff_eq, bne_iff_ne, ne_eq, Bool.false_eq_true, Bool.true_eq_false, iff_true, true_iff, iff_false, false_iff]); first | done | omega | grind))
theorem paged_v (n : Int) : VCalls Try.prog 81 [.int .i64 n] [] (Ret (.bool (decide (0 ≤ n) && decide (n < 64)))) := by
  refine dd Try.func81 ?_
  (unfold Try.f81; refine rn trivial ?_)
  have F := trivial
  refine rn F ?_
  repeat' (first
    | with_reducible exact True.intro
    | (refine sG F ?_ ?_ <;> intro hZ))
  all_goals (first | rfl | (congr 3; rw [Bool.eq_iff_iff]; (try simp only [decide_eq_true_eq, Bool.and_eq_true, Bool.or_eq_true, Bool.not_eq_true', Bool.not_eq_false', decide_eq_false_iff_not, beq_iff_eq, bne_iff_ne, ne_eq, Bool.false_eq_true, Bool.true_eq_false, iff_true, true_iff, iff_false, false_iff]); first | done | omega | grind))
theorem anyref_v (x : E) : VCalls Try.prog 74 [.agg x.d] [] (Ret (.bool true)) := by
  refine dd Try.func74 ?_
  (unfold Try.f74; refine rn trivial ?_; try with_reducible exact True.intro)
theorem undoref_v (x : E) : VCalls Try.prog 77 [.agg x.d] [] (Ret (.bool (decide (1 ≤ x.ref) && decide (x.ref ≤ x.ptx)))) := by
  refine dd Try.func77 ?_
  (unfold Try.f77; refine rn trivial ?_)
  have F := trivial
  refine rn F ?_
  repeat' (first
    | with_reducible exact True.intro
    | (refine sG F ?_ ?_ <;> intro hZ))
  all_goals (first | rfl | (congr 3; rw [Bool.eq_iff_iff]; (try simp only [decide_eq_true_eq, Bool.and_eq_true, Bool.or_eq_true, Bool.not_eq_true', Bool.not_eq_false', decide_eq_false_iff_not, beq_iff_eq, bne_iff_ne, ne_eq, Bool.false_eq_true, Bool.true_eq_false, iff_true, true_iff, iff_false, false_iff]); first | done | omega | grind))
def Ch.ix (x : Ch) : Bool := x.sl == 0 && x.b.no && x.a.no && decide (0 ≤ x.pg) && decide (x.pg < 64)
theorem index_v (x : Ch) : VCalls Try.prog 78 [.agg x.d] [] (Ret (.bool x.ix)) := by
  refine dd Try.func78 ?_
  (unfold Try.f78; refine rn trivial ?_)
  have F := trivial
  refine rn F ?_
  repeat' (first
    | with_reducible exact True.intro
    | (refine sG F ?_ ?_ <;> intro hZ))
  all_goals (first | rfl | (congr 3; rw [Bool.eq_iff_iff]; (try simp only [Ch.ix, Ce.no, decide_eq_true_eq, Bool.and_eq_true, Bool.or_eq_true, Bool.not_eq_true', Bool.not_eq_false', decide_eq_false_iff_not, beq_iff_eq, bne_iff_ne, ne_eq, Bool.false_eq_true, Bool.true_eq_false, iff_true, true_iff, iff_false, false_iff]); first | done | omega | grind))
theorem chok_v (x : Ch) : VCalls Try.prog 76 [.agg x.d] [] (Ret (.bool x.okB)) := by
  refine dd Try.func76 ?_
  (unfold Try.f76; refine rn trivial ?_)
  have F := trivial
  refine rn F ?_
  repeat' (first
    | with_reducible exact True.intro
    | (refine sG F ?_ ?_ <;> intro hZ)
    | refine vp F (paged_v x.pg) ?_
    | refine vp F (cellok_v x.b) ?_
    | refine vp F (cellok_v x.a) ?_)
  all_goals (first | rfl | (congr 3; rw [Bool.eq_iff_iff]; (try simp only [Ch.okB, decide_eq_true_eq, Bool.and_eq_true, Bool.or_eq_true, Bool.not_eq_true', Bool.not_eq_false', decide_eq_false_iff_not, beq_iff_eq, bne_iff_ne, ne_eq, Bool.false_eq_true, Bool.true_eq_false, iff_true, true_iff, iff_false, false_iff]); first | done | omega | grind))
theorem rchok_v (x : Ch) : VCalls Try.prog 66 [.agg x.d] [] (Ret (.bool x.okB)) := by
  refine dd Try.func66 ?_
  (unfold Try.f66; refine rn trivial ?_)
  have F := trivial
  refine rn F ?_
  repeat' (first
    | with_reducible exact True.intro
    | (refine sG F ?_ ?_ <;> intro hZ)
    | refine vp F (rcellok_v x.b) ?_
    | refine vp F (rcellok_v x.a) ?_)
  all_goals (first | rfl | (congr 3; rw [Bool.eq_iff_iff]; (try simp only [Ch.okB, decide_eq_true_eq, Bool.and_eq_true, Bool.or_eq_true, Bool.not_eq_true', Bool.not_eq_false', decide_eq_false_iff_not, beq_iff_eq, bne_iff_ne, ne_eq, Bool.false_eq_true, Bool.true_eq_false, iff_true, true_iff, iff_false, false_iff]); first | done | omega | grind))
def rl (tx ch pg rf bl : Bool) (f g : Nat) : List DV := [.bool tx, .bool ch, .bool pg, .bool rf, .bool bl, .fn (.func f) [] [], .fn (.func g) [] []]
def rl0 : List DV := [.bool false, .bool false, .bool false, .bool false, .bool false, .pv (.lit .nilFunc), .pv (.lit .nilFunc)]
def rlEnd : List DV := rl true true false false false 74 75
def rlNote : List DV := rl false false false false true 74 75
def rlAll : List DV := rl0 ++ rl true false true false false 74 76 ++ rl true true true true false 77 76 ++ rlEnd ++ rlEnd ++ rlEnd ++ rlNote ++ rl false false false true false 74 78 ++ rlNote
theorem rules_v : VCalls Try.prog 68 [] [] (Ret (.agg rlAll)) := by
  refine dd Try.func68 ?_
  (unfold Try.f68; refine rn trivial ?_)
  rfl
end Go.Proofs.Ytnilcppifcekmaa
namespace Go.Proofs.Ytnilcppifcekmaa
open Go.V Go
attribute [local go_sem] rlAll rl0 rl rlEnd rlNote
def txB (n : Int) : Bool := decide (1 ≤ n) && decide (n ≤ 1073741824)
def E.kindB (e : E) : Bool :=
  if e.kind = 1 then txB e.tx && e.ref == 0 && e.blob == [] && e.c.okB
  else if e.kind = 2 then txB e.tx && e.ptx != 0 && e.blob == [] && decide (1 ≤ e.ref) && decide (e.ref ≤ e.ptx) && e.c.okB
  else if e.kind = 3 ∨ e.kind = 4 ∨ e.kind = 5 then txB e.tx && e.ptx != 0 && e.ppg == 0 && e.ref == 0 && e.blob == [] && e.c.no
  else if e.kind = 6 ∨ e.kind = 8 then e.tx == 0 && e.ptx == 0 && e.ppg == 0 && e.ref == 0 && decide (e.blob.length ≤ 8192) && e.c.no
  else if e.kind = 7 then e.tx == 0 && e.ptx == 0 && e.ppg == 0 && e.blob == [] && e.c.ix
  else false
def E.okB (e : E) : Bool := decide (1 ≤ e.lsn) && decide (e.lsn ≤ 1099511627776) && bef e.ptx e.lsn && bef e.ppg e.lsn && bef e.ref e.lsn && e.kindB
theorem kindB_eq (lsn kind tx ptx ppg ref : Int) (c : Ch) (blob : List UInt8) : (⟨lsn, kind, tx, ptx, ppg, ref, c, blob⟩ : E).kindB =
  if kind = 1 then txB tx && ref == 0 && blob == [] && c.okB
  else if kind = 2 then txB tx && ptx != 0 && blob == [] && decide (1 ≤ ref) && decide (ref ≤ ptx) && c.okB
  else if kind = 3 ∨ kind = 4 ∨ kind = 5 then txB tx && ptx != 0 && ppg == 0 && ref == 0 && blob == [] && c.no
  else if kind = 6 ∨ kind = 8 then tx == 0 && ptx == 0 && ppg == 0 && ref == 0 && decide (blob.length ≤ 8192) && c.no
  else if kind = 7 then tx == 0 && ptx == 0 && ppg == 0 && blob == [] && c.ix
  else false := rfl
theorem kindB_no {e : E} (h : e.kind < 1 ∨ 8 < e.kind) : e.kindB = false := by
  unfold E.kindB; rw [if_neg (by omega), if_neg (by omega), if_neg (by omega), if_neg (by omega), if_neg (by omega)]
theorem kind_cases (k : Int) : (k < 1 ∨ 8 < k) ∨ k = 1 ∨ k = 2 ∨ k = 3 ∨ k = 4 ∨ k = 5 ∨ k = 6 ∨ k = 7 ∨ k = 8 := by omega
theorem valid_v (e : E) : VCalls Try.prog 51 [.agg e.d] [] (Ret (.bool e.okB)) := by
  refine dd Try.func51 ?_
  obtain ⟨lsn, kind, tx, ptx, ppg, ref, c, blob⟩ := e
  have r1 := before_v ptx ⟨lsn, kind, tx, ptx, ppg, ref, c, blob⟩
  have r2 := before_v ppg ⟨lsn, kind, tx, ptx, ppg, ref, c, blob⟩
  have r3 := before_v ref ⟨lsn, kind, tx, ptx, ppg, ref, c, blob⟩
  have r4 := anyref_v ⟨lsn, kind, tx, ptx, ppg, ref, c, blob⟩
  have r5 := undoref_v ⟨lsn, kind, tx, ptx, ppg, ref, c, blob⟩
  have q1 := none_v c
  have q2 := chok_v c
  have q3 := index_v c
  have e1 : (⟨lsn, kind, tx, ptx, ppg, ref, c, blob⟩ : E).okB = (decide (1 ≤ lsn) && decide (lsn ≤ 1099511627776) && bef ptx lsn && bef ppg lsn && bef ref lsn && (⟨lsn, kind, tx, ptx, ppg, ref, c, blob⟩ : E).kindB) := rfl
  dsimp only [E.d] at *
  generalize bef ptx lsn = B1 at *
  generalize bef ppg lsn = B2 at *
  generalize bef ref lsn = B3 at *
  have e2 := kindB_eq lsn kind tx ptx ppg ref c blob
  dsimp only [Ch.d] at q1 q2 q3
  generalize c.no = N at *
  generalize c.okB = K at *
  generalize c.ix = X at *
  have e3 := @kindB_no ⟨lsn, kind, tx, ptx, ppg, ref, c, blob⟩
  dsimp only at e3
  generalize (⟨lsn, kind, tx, ptx, ppg, ref, c, blob⟩ : E).kindB = Q at *
  generalize (⟨lsn, kind, tx, ptx, ppg, ref, c, blob⟩ : E).okB = R at *
  (unfold Try.f51; refine rn trivial ?_)
  have F := trivial
  refine rn F ?_
  repeat' (first
    | with_reducible exact True.intro
    | (refine sG F ?_ ?_ <;> intro hZ)
    | (refine sB F ?_ ?_ <;> intro hZ)
    | refine vp F (r1) ?_
    | refine vp F (r2) ?_
    | refine vp F (r3) ?_
    | (refine vspine (id := 3) [1, 2] [⟨[4], [], 0, [1, 2], [3]⟩, ⟨[4], [4], 5, [], []⟩] (by kernel_rfl) (by kernel_rfl) ?_; refine rn F ?_))
  all_goals first
    | (congr 3; rw [Bool.eq_iff_iff, e1]; simp only [Bool.and_eq_true, decide_eq_true_eq, Bool.false_eq_true, false_iff]; first | omega | (intro h; simp_all; done) | (intro h; rw [e3 (by omega)] at h; simp at h; done))
    | skip
  all_goals
    have hT : R = Q := by rw [e1]; simp_all
    rcases kind_cases kind with hk | rfl | rfl | rfl | rfl | rfl | rfl | rfl | rfl
    · omega
  all_goals
    have F := trivial
    refine rn F ?_
    repeat' (first
      | with_reducible exact True.intro
      | (refine sG F ?_ ?_ <;> intro hZ)
      | (refine sB F ?_ ?_ <;> intro hZ)
      | refine vp F (rules_v) ?_
      | refine vp F (r4) ?_
      | refine vp F (r5) ?_
      | refine vp F (q1) ?_
      | refine vp F (q2) ?_
      | refine vp F (q3) ?_)
  all_goals (try (congr 3; rw [hT, Bool.eq_iff_iff, e2]; clear hT e1 e2 e3 r1 r2 r3 r4 r5 q1 q2 q3; simp [txB]; first | omega | grind))
  all_goals skip
end Go.Proofs.Ytnilcppifcekmaa
namespace Go.Proofs.Ytnilcppifcekmaa
open Go.V Go
def encE : Enc E := ⟨13, fun x => [.lit (.int .i64 x.lsn), .lit (.int .i64 x.kind), .lit (.int .i64 x.tx), .lit (.int .i64 x.ptx), .lit (.int .i64 x.ppg), .lit (.int .i64 x.ref), .lit (.int .i64 x.c.pg), .lit (.int .i64 x.c.sl), .lit (.bool x.c.b.set), .str x.c.b.data, .lit (.bool x.c.a.set), .str x.c.a.data, .str x.blob], by decide, fun _ => rfl⟩
theorem lenE (l : List E) : (cells encE l).length = l.length * 13 := cells_len encE l
theorem allE (l : List E) (n : Nat) (h : l.length * 13 ≤ n) : (cells encE l).take n = cells encE l := by rw [List.take_of_length_le]; rw [lenE]; exact h
theorem appE (l m : List E) : cells encE l ++ cells encE m = cells encE (l ++ m) := (cells_app encE l m).symm
theorem slkE (l : List E) (T : TypeId) (a b : Nat) (h : a ≤ b ∧ b ≤ l.length) : vslk (some (none, T, 13)) (fz encE l) a b = some (.pv (.sl (fz encE ((l.take b).drop a)))) := vslk_fz encE l T a b h
theorem srcE (l : List E) : (fz encE l = [] ∨ (fz encE l)[0]?.map List.length = some 13) = True := fz_src encE l
theorem frzE {n : Nat} {hp : Heap} {len : Nat} {l : List E} (h : l.length = len) : frzC n hp 0 13 len (some (cells encE l)) = some (.sl (fz encE l)) := frzC_cells encE h
theorem app_E (l : List E) (e : E) : cells encE l ++ [.pv (.lit (.int .i64 e.lsn)), .pv (.lit (.int .i64 e.kind)), .pv (.lit (.int .i64 e.tx)), .pv (.lit (.int .i64 e.ptx)), .pv (.lit (.int .i64 e.ppg)), .pv (.lit (.int .i64 e.ref)), .pv (.lit (.int .i64 e.c.pg)), .pv (.lit (.int .i64 e.c.sl)), .pv (.lit (.bool e.c.b.set)), .pv (.str e.c.b.data), .pv (.lit (.bool e.c.a.set)), .pv (.str e.c.a.data), .pv (.str e.blob)] = cells encE (l ++ [e]) := by rw [cells_app]; rfl
theorem getD_eq {α : Type} (l : List α) (i : Nat) (h : i < l.length) (d : α) : l.getD i d = l[i] := by rw [List.getD_eq_getElem?_getD, List.getElem?_eq_getElem h]; rfl
structure To (n : Nat) where
  i : Nat
  hi : i ≤ n
structure Okay (n : Nat) (c : Nat → Bool) where
  i : Nat
  hi : i ≤ n
  ok : ∀ k, k < i → c k = true
def Okay.start (n : Nat) (c : Nat → Bool) : Okay n c := ⟨0, Nat.zero_le _, fun k h => by omega⟩
def Okay.next {n : Nat} {c : Nat → Bool} (s : Okay n c) (h : s.i < n) (hc : c s.i = true) : Okay n c := ⟨s.i + 1, h, fun k hk => by
  rcases Nat.lt_or_ge k s.i with hlt | hge
  · exact s.ok k hlt
  · obtain rfl : k = s.i := by omega
    exact hc⟩
theorem Okay.all {n : Nat} {c : Nat → Bool} (s : Okay n c) (h : ¬ s.i < n) : (List.range n).all c = true := by
  rw [List.all_eq_true]
  intro k hk
  rw [List.mem_range] at hk
  exact s.ok k (by omega)
theorem all_not {n : Nat} {c : Nat → Bool} {i : Nat} (h : i < n) (hc : c i = false) : (List.range n).all c = false := by
  rw [List.all_eq_false]
  exact ⟨i, List.mem_range.2 h, by rw [hc]; decide⟩
theorem fzE_d (l : List E) (i : Nat) (h : i < l.length) : (fz encE l)[i]? = some [.lit (.int .i64 (l.getD i E0).lsn), .lit (.int .i64 (l.getD i E0).kind), .lit (.int .i64 (l.getD i E0).tx), .lit (.int .i64 (l.getD i E0).ptx), .lit (.int .i64 (l.getD i E0).ppg), .lit (.int .i64 (l.getD i E0).ref), .lit (.int .i64 (l.getD i E0).c.pg), .lit (.int .i64 (l.getD i E0).c.sl), .lit (.bool (l.getD i E0).c.b.set), .str (l.getD i E0).c.b.data, .lit (.bool (l.getD i E0).c.a.set), .str (l.getD i E0).c.a.data, .str (l.getD i E0).blob] := by rw [getD_eq l i h]; exact fz_get encE l i h
structure Lg where
  f : Int
  es : List E
  d : Int
def Lg.c (x : Lg) : List DV := [.int .i64 x.f, .pv (.sl (fz encE x.es)), .int .i64 x.d]
attribute [local go_sem] Lg.c
def Lg0 : Lg := ⟨0, [], 0⟩
def Lg.hd (x : Lg) : Prop := 1 ≤ x.f ∧ x.f ≤ 1099511627776 ∧ x.es.length ≤ 4096 ∧ x.f - 1 ≤ x.d ∧ x.d ≤ x.f + x.es.length - 1
instance (x : Lg) : Decidable x.hd := by unfold Lg.hd; infer_instance
def lgC (x : Lg) (i : Nat) : Bool := decide ((x.es.getD i E0).lsn = x.f + i) && (x.es.getD i E0).okB
def lgB (x : Lg) : Bool := decide x.hd && (List.range x.es.length).all (lgC x)
def Lg.end_ (x : Lg) : Int := x.f + x.es.length - 1
theorem lgB_hd {x : Lg} (h : lgB x = true) : x.hd := by unfold lgB at h; simp at h; exact h.1
theorem jend_v (x : Lg) (h1 : -1099511627776 ≤ x.f ∧ x.f ≤ 1099511627776) (h2 : x.es.length ≤ 1000000) : VCalls Try.prog 50 [.agg x.c] [] (Ret (.int .i64 x.end_)) := by
  refine dd Try.func50 ?_
  obtain ⟨f, es, d⟩ := x
  dsimp only at h1 h2
  (unfold Try.f50; refine rn trivial ?_)
  have F := trivial
  (refine rn F ?_; try with_reducible exact True.intro)
  all_goals rfl
theorem jvalid_v (x : Lg) (hx : x.es.length ≤ 9223372036854775807) : VCalls Try.prog 28 [.agg x.c] [] (Ret (.bool (lgB x))) := by
  refine dd Try.func28 ?_
  obtain ⟨f, es, d⟩ := x
  dsimp only at hx
  have hr := fun (i : Nat) => valid_v (es.getD i E0)
  have c1 := jend_v ⟨f, es, d⟩
  have hlg : ∀ i, lgC ⟨f, es, d⟩ i = true ↔ (es.getD i E0).lsn = f + i ∧ (es.getD i E0).okB = true := fun i => by simp [lgC]
  have hB : lgB ⟨f, es, d⟩ = (decide (Lg.hd ⟨f, es, d⟩) && (List.range es.length).all (lgC ⟨f, es, d⟩)) := rfl
  have hH : Lg.hd ⟨f, es, d⟩ = (1 ≤ f ∧ f ≤ 1099511627776 ∧ es.length ≤ 4096 ∧ f - 1 ≤ d ∧ d ≤ f + es.length - 1) := rfl
  have no : ¬ Lg.hd ⟨f, es, d⟩ → lgB ⟨f, es, d⟩ = false := fun h => by rw [hB, decide_eq_false h]; rfl
  unfold Lg.c at c1 ⊢
  unfold Lg.end_ at c1
  unfold E.d at hr
  dsimp only at c1 ⊢
  generalize lgC ⟨f, es, d⟩ = lc at *
  generalize lgB ⟨f, es, d⟩ = b at *
  (unfold Try.f28; refine rn trivial ?_)
  have F := trivial
  refine rn F ?_
  repeat' (first
    | with_reducible exact True.intro
    | (refine sG F ?_ ?_ <;> intro hZ)
    | (refine sB F ?_ ?_ <;> intro hZ)
    | refine vp F (c1 (by omega) (by omega)) ?_
    | (refine vspine (id := 1) [0, 1, 2, 3, 4, 5, 6, 7, 8, 9, 10, 11, 12, 13, 14, 15, 16, 17, 18, 19, 20, 21, 22, 23, 24, 25] [⟨[], [], 26, [0, 1, 2, 3, 4, 5, 6, 7, 8, 9, 10, 11, 12, 13, 14, 15, 16, 17, 18, 19, 20, 21, 23, 24], [27, 28]⟩] (by kernel_rfl) (by kernel_rfl) ?_; refine rn F ?_))
  all_goals first | (rw [no (by rw [hH]; omega)]) | skip
  refine vloopW (fun s : Okay es.length lc => ⟨55, 0, [(37, .int .i64 s.i), (36, .int .i64 es.length), (35, .pv (.sl (fz encE es))), (1, .ptr 0 0)], [⟨28, true, [.int .i64 f, .pv (.sl (fz encE es)), .int .i64 d]⟩]⟩) (fun s => es.length - s.i) (Okay.start _ _) (gc [0]) ?_
  intro s
  have hsi := s.hi
  have hg := fun h : s.i < es.length => fzE_d es s.i h
  have F := @hg
  refine rn F ?_
  repeat' (first
    | with_reducible exact True.intro
    | (refine sG F ?_ ?_ <;> intro hZ)
    | (refine sB F ?_ ?_ <;> intro hZ)
    | refine vp F (hr s.i) ?_)
  all_goals first
    | (rw [hB, all_not (i := s.i) (by omega) (Bool.eq_false_iff.2 fun h => by rw [hlg] at h; omega), Bool.and_false])
    | (rw [hB, all_not (i := s.i) (by omega) (Bool.eq_false_iff.2 fun h => by rw [hlg] at h; exact absurd h.2 (by simp_all)), Bool.and_false])
    | (rw [hB, s.all (by omega), decide_eq_true (by rw [hH]; omega)]; rfl)
    | (exact ⟨s.next (by omega) ((hlg _).2 ⟨by omega, by assumption⟩), by show es.length - (s.i + 1) < es.length - s.i; omega, (gc [0])⟩)
    | skip
end Go.Proofs.Ytnilcppifcekmaa
namespace Go.Proofs.Ytnilcppifcekmaa
open Go.V Go
attribute [local go_sem] lenE allE appE slkE srcE frzE app_E Try.underlying26
def appS (x : Lg) (e : E) : Lg × Int × Int := if lgB x = false then (Lg0, 0, 26) else if x.es.length = 4096 ∨ 1099511627776 < x.end_ + 1 then (Lg0, 0, 21)
  else if ({ e with lsn := x.end_ + 1 } : E).okB = false then (Lg0, 0, 12) else (⟨x.f, x.es ++ [{ e with lsn := x.end_ + 1 }], x.d⟩, x.end_ + 1, 0)
def appD (r : Lg × Int × Int) : DV := .tup [.agg r.1.c, .int .i64 r.2.1, .int .i64 r.2.2]
end Go.Proofs.Ytnilcppifcekmaa
namespace Go.Proofs.Ytnilcppifcekmaa
open Go.V Go
attribute [local go_sem] lenE allE appE slkE srcE frzE app_E
end Go.Proofs.Ytnilcppifcekmaa
namespace Go.Proofs.Ytnilcppifcekmaa
open Go.V Go
attribute [local go_sem] E.d Ch0 Ce0
theorem len8192 (l : List UInt8) : decide ((l.length : Int) ≤ 8192) = decide (l.length ≤ 8192) := by
  apply decide_eq_decide.2; omega
def E.shp (e : E) : E :=
  if e.kind = 1 then ⟨e.lsn, e.kind, e.tx, e.ptx, e.ppg, 0, e.c, []⟩
  else if e.kind = 2 then ⟨e.lsn, e.kind, e.tx, e.ptx, e.ppg, e.ref, e.c, []⟩
  else if e.kind = 3 ∨ e.kind = 4 ∨ e.kind = 5 then ⟨e.lsn, e.kind, e.tx, e.ptx, 0, 0, Ch0, []⟩
  else if e.kind = 6 ∨ e.kind = 8 then ⟨e.lsn, e.kind, 0, 0, 0, 0, Ch0, e.blob⟩
  else if e.kind = 7 then ⟨e.lsn, e.kind, 0, 0, 0, e.ref, ⟨e.c.pg, 0, Ce0, Ce0⟩, []⟩
  else ⟨e.lsn, e.kind, 0, 0, 0, 0, Ch0, []⟩
def E.shok (e : E) : Bool :=
  if e.kind = 1 then e.c.okB && decide (1 ≤ e.tx) && decide (e.tx ≤ 1073741824)
  else if e.kind = 2 then e.c.okB && decide (0 < e.ptx) && decide (1 ≤ e.ref) && decide (e.ref ≤ e.ptx) && decide (1 ≤ e.tx) && decide (e.tx ≤ 1073741824)
  else if e.kind = 3 ∨ e.kind = 4 ∨ e.kind = 5 then decide (1 ≤ e.tx) && decide (e.tx ≤ 1073741824) && decide (0 < e.ptx)
  else if e.kind = 6 ∨ e.kind = 8 then decide (e.blob.length ≤ 8192)
  else if e.kind = 7 then decide (0 ≤ e.c.pg) && decide (e.c.pg < 64)
  else false
def shD (e : E) : DV := .tup [.agg e.shp.d, .bool e.shok]
theorem shp_eq (lsn kind tx ptx ppg ref : Int) (c : Ch) (blob : List UInt8) : (⟨lsn, kind, tx, ptx, ppg, ref, c, blob⟩ : E).shp =
  if kind = 1 then ⟨lsn, kind, tx, ptx, ppg, 0, c, []⟩
  else if kind = 2 then ⟨lsn, kind, tx, ptx, ppg, ref, c, []⟩
  else if kind = 3 ∨ kind = 4 ∨ kind = 5 then ⟨lsn, kind, tx, ptx, 0, 0, Ch0, []⟩
  else if kind = 6 ∨ kind = 8 then ⟨lsn, kind, 0, 0, 0, 0, Ch0, blob⟩
  else if kind = 7 then ⟨lsn, kind, 0, 0, 0, ref, ⟨c.pg, 0, Ce0, Ce0⟩, []⟩
  else ⟨lsn, kind, 0, 0, 0, 0, Ch0, []⟩ := rfl
theorem shok_eq (lsn kind tx ptx ppg ref : Int) (c : Ch) (blob : List UInt8) : (⟨lsn, kind, tx, ptx, ppg, ref, c, blob⟩ : E).shok =
  if kind = 1 then c.okB && decide (1 ≤ tx) && decide (tx ≤ 1073741824)
  else if kind = 2 then c.okB && decide (0 < ptx) && decide (1 ≤ ref) && decide (ref ≤ ptx) && decide (1 ≤ tx) && decide (tx ≤ 1073741824)
  else if kind = 3 ∨ kind = 4 ∨ kind = 5 then decide (1 ≤ tx) && decide (tx ≤ 1073741824) && decide (0 < ptx)
  else if kind = 6 ∨ kind = 8 then decide (blob.length ≤ 8192)
  else if kind = 7 then decide (0 ≤ c.pg) && decide (c.pg < 64)
  else false := rfl
theorem shape_v (e : E) : VCalls Try.prog 48 [.agg e.d] [] (Ret (shD e)) := by
  refine dd Try.func48 ?_
  unfold shD
  obtain ⟨lsn, kind, tx, ptx, ppg, ref, c, blob⟩ := e
  have q1 := rchok_v c
  dsimp only [Ch.d] at q1
  rw [shp_eq, shok_eq]
  generalize c.okB = K at *
  rcases kind_cases kind with hk | rfl | rfl | rfl | rfl | rfl | rfl | rfl | rfl
  · rw [if_neg (by omega), if_neg (by omega), if_neg (by omega), if_neg (by omega), if_neg (by omega), if_neg (by omega), if_neg (by omega), if_neg (by omega), if_neg (by omega), if_neg (by omega)]
    have k1 : (kind == 1) = false := by simp; omega
    have k2 : (kind == 2) = false := by simp; omega
    have k3 : (kind == 3) = false := by simp; omega
    have k4 : (kind == 4) = false := by simp; omega
    have k5 : (kind == 5) = false := by simp; omega
    have k6 : (kind == 6) = false := by simp; omega
    have k7 : (kind == 7) = false := by simp; omega
    have k8 : (kind == 8) = false := by simp; omega
    (unfold Try.f48; refine rn (And.intro @k1 (And.intro @k2 (And.intro @k3 (And.intro @k4 (And.intro @k5 (And.intro @k6 (And.intro @k7 @k8))))))) ?_; try with_reducible exact True.intro)
  all_goals
    (unfold Try.f48; refine rn trivial ?_)
    have F := trivial
    refine rn F ?_
    repeat' (first
      | with_reducible exact True.intro
      | (refine sG F ?_ ?_ <;> intro hZ)
      | refine vp F (q1) ?_
      | (refine vspine (id := 5) [0, 1, 2, 3, 4, 5, 6, 7, 8] [⟨[], [], 9, [2, 3, 4, 5, 6, 7], [10]⟩, ⟨[], [], 11, [4, 5, 6, 7], [12]⟩, ⟨[], [], 13, [6, 7], [14]⟩, ⟨[], [], 15, [], []⟩] (by kernel_rfl) (by kernel_rfl) ?_; refine rn F ?_)
      | (refine vspine (id := 10) [0, 1, 2, 3, 4, 5, 6, 7, 8, 9, 10, 11] [⟨[], [], 12, [1, 2, 3, 4, 5, 6, 8, 9, 10, 11], []⟩, ⟨[], [], 13, [], []⟩] (by kernel_rfl) (by kernel_rfl) ?_; refine rn F ?_)
      | (refine vspine (id := 14) [0, 1, 2, 3, 4] [⟨[], [], 5, [2, 3], [6]⟩, ⟨[], [], 7, [], []⟩] (by kernel_rfl) (by kernel_rfl) ?_; refine rn F ?_)
      | (refine vspine (id := 15) [0, 1, 2, 3, 4, 5, 6, 7, 8, 9, 10, 11, 12, 13] [⟨[], [], 14, [1, 2, 3, 4, 5, 6, 7, 8, 10, 11, 12, 13], []⟩, ⟨[], [], 15, [], []⟩] (by kernel_rfl) (by kernel_rfl) ?_; refine rn F ?_)
      | (refine vspine (id := 19) [0, 1, 2, 3, 4] [⟨[], [], 5, [1, 2, 3, 4], []⟩, ⟨[], [], 6, [], []⟩] (by kernel_rfl) (by kernel_rfl) ?_; refine rn F ?_)
      | (refine vspine (id := 21) [0, 1, 2, 3, 4, 5] [⟨[], [], 6, [2, 3, 4], [7, 8]⟩, ⟨[], [], 9, [7], []⟩] (by kernel_rfl) (by kernel_rfl) ?_; refine rn F ?_)
      | (refine vspine (id := 22) [0, 1, 2, 3, 4, 5, 6, 7, 8, 9, 10] [⟨[], [], 11, [1, 2, 3, 4, 6, 7, 8, 9, 10], []⟩, ⟨[], [], 12, [], []⟩] (by kernel_rfl) (by kernel_rfl) ?_; refine rn F ?_))
  all_goals first | rfl | (simp [Ch0, Ce0, len8192]; done)
def eqE (x y : E) : Bool := x.lsn == y.lsn && (x.kind == y.kind && (x.tx == y.tx && (x.ptx == y.ptx && (x.ppg == y.ppg && (x.ref == y.ref && (x.c.pg == y.c.pg && (x.c.sl == y.c.sl && (x.c.b.set == y.c.b.set && (x.c.b.data == y.c.b.data && (x.c.a.set == y.c.a.set && (x.c.a.data == y.c.a.data && x.blob == y.blob)))))))))))
theorem allEqE (x y : E) : allEq x.d y.d [(0, 1), (1, 1), (2, 1), (3, 1), (4, 1), (5, 1), (6, 1), (7, 1), (8, 0), (9, 2), (10, 0), (11, 2), (12, 2)] = some (eqE x y) := by
  simp [allEq, leafEq, E.d, eqE]
def E.okR (e : E) : Bool := e.shok && eqE e.shp e && decide (1 ≤ e.lsn) && decide (e.lsn ≤ 1099511627776) && bef e.ptx e.lsn && bef e.ppg e.lsn && bef e.ref e.lsn
theorem rvalidR_v (e : E) : VCalls Try.prog 27 [.agg e.d] [] (Ret (.bool e.okR)) := by
  refine dd Try.func27 ?_
  have hq := allEqE e.shp e
  have hs := shape_v e
  unfold shD at hs
  simp only [E.d] at hq hs
  have b1 := rbefore_v e.ptx e.lsn
  have b2 := rbefore_v e.ppg e.lsn
  have b3 := rbefore_v e.ref e.lsn
  have e1 : e.okR = (e.shok && eqE e.shp e && decide (1 ≤ e.lsn) && decide (e.lsn ≤ 1099511627776) && bef e.ptx e.lsn && bef e.ppg e.lsn && bef e.ref e.lsn) := rfl
  generalize e.okR = R at *
  generalize bef e.ptx e.lsn = B1 at *
  generalize bef e.ppg e.lsn = B2 at *
  generalize bef e.ref e.lsn = B3 at *
  generalize e.shp = s at *
  generalize e.shok = ok at *
  generalize eqE s e = q at *
  (unfold Try.f27; refine rn trivial ?_)
  have F := @hq
  refine rn F ?_
  repeat' (first
    | with_reducible exact True.intro
    | (refine sG F ?_ ?_ <;> intro hZ)
    | refine vp F (hs) ?_
    | refine vp F (b1) ?_
    | refine vp F (b2) ?_
    | refine vp F (b3) ?_)
  all_goals (congr 3; rw [e1, Bool.eq_iff_iff]; clear e1 b1 b2 b3 hs hq; simp; first | omega | grind)
theorem okR_ok (e : E) : e.okR = e.okB := by
  obtain ⟨lsn, kind, tx, ptx, ppg, ref, ⟨pg, sl, ⟨b1, b2⟩, ⟨a1, a2⟩⟩, blob⟩ := e
  rw [Bool.eq_iff_iff]
  by_cases h : kind < 1 ∨ 8 < kind
  · have e1 : E.shok ⟨lsn, kind, tx, ptx, ppg, ref, ⟨pg, sl, ⟨b1, b2⟩, ⟨a1, a2⟩⟩, blob⟩ = false := by unfold E.shok; rw [if_neg (by dsimp only; omega), if_neg (by dsimp only; omega), if_neg (by dsimp only; omega), if_neg (by dsimp only; omega), if_neg (by dsimp only; omega)]
    have e2 : E.kindB ⟨lsn, kind, tx, ptx, ppg, ref, ⟨pg, sl, ⟨b1, b2⟩, ⟨a1, a2⟩⟩, blob⟩ = false := by unfold E.kindB; rw [if_neg (by dsimp only; omega), if_neg (by dsimp only; omega), if_neg (by dsimp only; omega), if_neg (by dsimp only; omega), if_neg (by dsimp only; omega)]
    simp [E.okR, E.okB, e1, e2]
  · have hk : kind = 1 ∨ kind = 2 ∨ kind = 3 ∨ kind = 4 ∨ kind = 5 ∨ kind = 6 ∨ kind = 7 ∨ kind = 8 := by omega
    rcases hk with hk | hk | hk | hk | hk | hk | hk | hk <;> subst hk
    all_goals
      simp only [E.okR, E.okB, E.shok, E.shp, E.kindB, eqE, bef, txB, Ch.no, Ce.no, Ch.ix, Ch0, Ce0, Bool.and_eq_true, decide_eq_true_eq, beq_iff_eq, bne_iff_ne, Bool.not_eq_true', reduceIte, Int.reduceEq, or_self, or_false, false_or, or_true, true_or]
      grind
theorem rvalid_v (e : E) : VCalls Try.prog 27 [.agg e.d] [] (Ret (.bool e.okB)) := by
  rw [← okR_ok]; exact rvalidR_v e
end Go.Proofs.Ytnilcppifcekmaa
namespace Go.Proofs.Ytnilcppifcekmaa
open Go.V Go
attribute [go_sem] Ce.d Ch.d E.d Lg.c mem_ok List.length_append List.length_take List.length_drop List.take_length
attribute [go_sem] lenE allE srcE frzE
theorem fz_getD {α : Type} (e : Enc α) (l : List α) (d : α) (i : Nat) (h : i < l.length) : (fz e l)[i]? = some (e.enc (l.getD i d)) := by rw [getD_eq l i h d]; exact fz_get e l i h
theorem Okay.no {n : Nat} {c : Nat → Bool} (s : Okay n c) {B : Bool} (h : s.i < n) (hB : B = (List.range n).all c) (hc : c s.i = false) : B = false := by rw [hB, all_not h hc]
theorem Okay.yes {n : Nat} {c : Nat → Bool} (s : Okay n c) {B : Bool} (h : ¬ s.i < n) (hB : B = (List.range n).all c) : B = true := by rw [hB, s.all h]
theorem Okay.dec {n : Nat} {c : Nat → Bool} (s : Okay n c) (h : s.i < n) : n - (s.i + 1) < n - s.i := by omega
theorem fzE_g (l : List E) (i : Nat) (h : i < l.length) : (fz encE l)[i]? = some [.lit (.int .i64 (l.getD i E0).lsn), .lit (.int .i64 (l.getD i E0).kind), .lit (.int .i64 (l.getD i E0).tx), .lit (.int .i64 (l.getD i E0).ptx), .lit (.int .i64 (l.getD i E0).ppg), .lit (.int .i64 (l.getD i E0).ref), .lit (.int .i64 (l.getD i E0).c.pg), .lit (.int .i64 (l.getD i E0).c.sl), .lit (.bool (l.getD i E0).c.b.set), .str (l.getD i E0).c.b.data, .lit (.bool (l.getD i E0).c.a.set), .str (l.getD i E0).c.a.data, .str (l.getD i E0).blob] := fz_getD encE l E0 i h
theorem wk_E (l : List E) : DV.wk.go (cells encE l) = cells encE l := wk_cells encE l fun a p hp => by
  simp [encE] at hp
  rcases hp with h | h | h | h | h | h | h | h | h | h | h | h | h <;> subst h <;> rfl
attribute [go_sem] wk_E
theorem rlast_v (x : Lg) (h1 : -1099511627776 ≤ x.f ∧ x.f ≤ 1099511627776) (h2 : x.es.length ≤ 1000000) : VCalls Try.prog 26 [.agg x.c] [] (Ret (.int .i64 x.end_)) := by
  refine dd Try.func26 ?_
  unfold Lg.end_
  (unfold Try.f26; refine rn trivial ?_; try with_reducible exact True.intro)
theorem lgB_end {x : Lg} (h : lgB x = true) : x.end_ ≤ 1099511627776 := by
  have hd := lgB_hd h
  unfold Lg.hd at hd
  unfold Lg.end_
  unfold lgB at h
  simp only [Bool.and_eq_true, List.all_eq_true] at h
  by_cases h0 : x.es.length = 0
  · omega
  · have := h.2 (x.es.length - 1) (List.mem_range.2 (by omega))
    unfold lgC at this
    simp only [Bool.and_eq_true, decide_eq_true_eq] at this
    obtain ⟨h3, h4⟩ := this
    generalize x.es.getD (x.es.length - 1) E0 = e at *
    unfold E.okB at h4
    simp only [Bool.and_eq_true, decide_eq_true_eq] at h4
    omega
theorem rlvalid_v (x : Lg) (hx : x.es.length ≤ 9223372036854775807) : VCalls Try.prog 25 [.agg x.c] [] (Ret (.bool (lgB x))) := by
  refine dd Try.func25 ?_
  obtain ⟨f, es, d⟩ := x
  dsimp only at hx
  have c1 := rlast_v ⟨f, es, d⟩
  unfold Lg.end_ at c1
  dsimp only at c1
  have hB : lgB ⟨f, es, d⟩ = (decide (Lg.hd ⟨f, es, d⟩) && (List.range es.length).all (lgC ⟨f, es, d⟩)) := rfl
  have hH : Lg.hd ⟨f, es, d⟩ = (1 ≤ f ∧ f ≤ 1099511627776 ∧ es.length ≤ 4096 ∧ f - 1 ≤ d ∧ d ≤ f + es.length - 1) := rfl
  have hB' : Lg.hd ⟨f, es, d⟩ → lgB ⟨f, es, d⟩ = (List.range es.length).all (lgC ⟨f, es, d⟩) := fun h => by rw [hB, decide_eq_true h, Bool.true_and]
  have no : ¬ Lg.hd ⟨f, es, d⟩ → lgB ⟨f, es, d⟩ = false := fun h => by rw [hB, decide_eq_false h]; rfl
  have hlc : ∀ i, lgC ⟨f, es, d⟩ i = (decide ((es.getD i E0).lsn = f + i) && (es.getD i E0).okB) := fun _ => rfl
  generalize lgB ⟨f, es, d⟩ = b at *
  generalize lgC ⟨f, es, d⟩ = lc at *
  (unfold Try.f25; refine rn trivial ?_)
  have F := trivial
  refine rn F ?_
  repeat' (first
    | with_reducible exact True.intro
    | (refine sG F ?_ ?_ <;> intro hZ)
    | (refine sB F ?_ ?_ <;> intro hZ)
    | refine vp F (c1 (by omega) (by omega)) ?_
    | (refine vspine (id := 1) [0, 1, 2, 3, 4, 5, 6, 7, 8, 9, 10, 11, 12, 13, 14, 15, 16, 17, 18, 19, 20, 21, 22, 23, 24, 25] [⟨[], [], 26, [0, 1, 2, 3, 4, 5, 6, 7, 8, 9, 10, 11, 12, 13, 14, 15, 16, 17, 18, 19, 20, 21, 23, 24], [27, 28]⟩] (by kernel_rfl) (by kernel_rfl) ?_; refine rn F ?_))
  all_goals first | (rw [no (by rw [hH]; omega)]) | skip
  refine vloopW (fun s : Okay es.length lc => ⟨60, 0, [(3, .int .i64 s.i), (1, .ptr 0 0)], [⟨28, true, Lg.c ⟨f, es, d⟩⟩]⟩) (fun s => es.length - s.i) (Okay.start _ _) (gc [0]) ?_
  intro s
  have hsi := s.hi
  have hg := fun h : s.i < es.length => fzE_g es s.i h
  have c2 := rvalid_v (es.getD s.i E0)
  have e := hlc s.i
  generalize (es.getD s.i E0).okB = ok at *
  have F := @hg
  refine rn F ?_
  repeat' (first
    | with_reducible exact True.intro
    | (refine sG F ?_ ?_ <;> intro hZ)
    | (refine sB F ?_ ?_ <;> intro hZ)
    | refine vp F (c2) ?_
    | (refine vspine (id := 6) [0, 1, 2, 3, 4, 5, 6, 7, 8, 9, 10, 11, 12, 13, 14, 15, 16] [⟨[], [], 17, [0, 1, 2, 3, 4, 5, 6, 7, 8, 9, 10, 12, 13, 14, 15], [18, 19]⟩] (by kernel_rfl) (by kernel_rfl) ?_; refine rn F ?_))
  all_goals first
    | (exact congrArg DV.bool (s.no (by omega) (hB' (by rw [hH]; omega)) (by rw [e]; first | (rw [decide_eq_false (by omega)]; rfl) | simp_all)).symm)
    | (exact congrArg DV.bool (s.yes (by omega) (hB' (by rw [hH]; omega))).symm)
    | (exact ⟨s.next (by omega) (by rw [e]; simp_all), s.dec (by omega), (gc [0])⟩)
    | skip
theorem rappend_v (x : Lg) (hx : x.es.length ≤ 9223372036854775807) (e : E) : VCalls Try.prog 12 [.agg x.c, .agg e.d] [] (Ret (appD (appS x e))) := by
  refine dk Try.func12 ?_
  have c1 := rlvalid_v x hx
  have c2 := rlast_v x
  have c3 := rvalid_v { e with lsn := x.end_ + 1 }
  have hh := @lgB_hd x
  have he := @lgB_end x
  simp only [Lg.hd] at hh
  have e0 : appS x e = if lgB x = false then (Lg0, 0, 26) else if x.es.length = 4096 ∨ 1099511627776 < x.end_ + 1 then (Lg0, 0, 21)
    else if ({ e with lsn := x.end_ + 1 } : E).okB = false then (Lg0, 0, 12) else (⟨x.f, x.es ++ [{ e with lsn := x.end_ + 1 }], x.d⟩, x.end_ + 1, 0) := rfl
  unfold appD
  generalize appS x e = r at *
  generalize lgB x = b at *
  obtain ⟨lsn, kind, tx, ptx, ppg, ref, c, blob⟩ := e
  dsimp only at c3 e0 ⊢
  cases b
  · (unfold Try.f12; refine rn trivial ?_; try with_reducible exact True.intro)
    have F := trivial
    refine rn F ?_
    repeat' (first
      | with_reducible exact True.intro
      | refine vp F (c1) ?_)
    all_goals (first | (rw [e0]; simp (disch := first | assumption | omega | exact rfl | exact nf (by assumption) | exact nt (by assumption) | decide | fail) only [if_pos, if_neg]; first | done | rfl) | (rw [e0]; simp (disch := first | assumption | omega | exact rfl | exact nf (by assumption) | exact nt (by assumption) | decide | (simp_all; done) | fail) only [if_pos, if_neg]; first | done | rfl))
  · replace hh := hh rfl
    replace he := he rfl
    have hdef : x.end_ = x.f + x.es.length - 1 := rfl
    have hl := app_E x.es ⟨x.end_ + 1, kind, tx, ptx, ppg, ref, c, blob⟩
    dsimp only at hl
    have hb : (x.es.length + 1) * 128 ≤ 140737488355328 := by omega
    generalize (⟨x.end_ + 1, kind, tx, ptx, ppg, ref, c, blob⟩ : E).okB = ok at *
    generalize x.end_ = en at *
    (unfold Try.f12; refine rn trivial ?_)
    have F := (And.intro @hb @hl)
    refine rn F ?_
    repeat' (first
      | with_reducible exact True.intro
      | (refine sG F ?_ ?_ <;> intro hZ)
      | (refine sB F ?_ ?_ <;> intro hZ)
      | refine vp F (c1) ?_
      | refine vp F (c2 (by omega) (by omega)) ?_
      | refine vp F (c3) ?_
      | (refine vspine (id := 8) [0, 1, 3] [⟨[4], [], 2, [0, 3], []⟩, ⟨[4], [4], 5, [0, 1, 3], [6]⟩, ⟨[], [], 7, [], []⟩] (by kernel_rfl) (by kernel_rfl) ?_; refine rn F ?_)
      | (refine vspine (id := 9) [0, 1, 2] [⟨[], [], 3, [1, 2], []⟩, ⟨[], [], 4, [], []⟩, ⟨[], [], 5, [], []⟩] (by kernel_rfl) (by kernel_rfl) ?_; refine rn F ?_))
    all_goals first | (first | (rw [e0]; simp (disch := first | assumption | omega | exact rfl | exact nf (by assumption) | exact nt (by assumption) | decide | fail) only [if_pos, if_neg]; first | done | rfl) | (rw [e0]; simp (disch := first | assumption | omega | exact rfl | exact nf (by assumption) | exact nt (by assumption) | decide | (simp_all; done) | fail) only [if_pos, if_neg]; first | done | rfl)) | skip
def Lg1 : Lg := ⟨1, [], 0⟩
theorem Lg1_ok : lgB Lg1 = true := by decide
theorem rlnew_v : VCalls Try.prog 6 [] [] (Ret (.agg Lg1.c)) := by
  refine dk Try.func6 ?_
  (unfold Try.f6; refine rn trivial ?_)
  rfl
end Go.Proofs.Ytnilcppifcekmaa
namespace Go.Proofs.Ytnilcppifcekmaa
open Go.V Go
def nb (t : List UInt8) (k : Nat) : Nat := (t.getD k 0).toNat
def rdN (t : List UInt8) : Nat := nb t 2
def rdM (t : List UInt8) : Nat := nb t (3 + 2 * rdN t)
def rdP (t : List UInt8) (n : Nat) : List Pl := (List.range n).map fun i => ⟨nb t (3 + 2 * i), nb t (4 + 2 * i)⟩
def rdB (t : List UInt8) (n m : Nat) : List Int := (List.range m).map fun j => (nb t (4 + 2 * n + j) : Int)
def rdQ (t : List UInt8) : Rm := ⟨nb t 0, nb t 1, rdP t (rdN t), rdB t (rdN t) (rdM t)⟩
def rdOk (t : List UInt8) : Bool := decide (t.length = 4 + 2 * rdN t + rdM t) && (rdQ t).okB
def blobB (s : List UInt8) : Bool := decide (s.take 2 = [81, 77]) && rdOk (s.drop 2)
def hitE (e : E) : Bool := decide (e.kind = 8) && blobB e.blob
def flatP (l : List Pl) : List Int := l.flatMap fun p => [p.pg, p.ad]
def numsR (r : Rm) : List Int := [r.pages, r.spares, (r.places.length : Int)] ++ flatP r.places ++ [(r.bad.length : Int)] ++ r.bad
def blobR (r : Rm) : List UInt8 := [81, 77] ++ (numsR r).map fun n => byteI n 0
def noteE (r : Rm) : E := ⟨0, 8, 0, 0, 0, 0, Ch0, blobR r⟩
end Go.Proofs.Ytnilcppifcekmaa
namespace Go.Proofs.Ytnilcppifcekmaa
open Go.V Go
@[go_sem] def Rm.c (r : Rm) : List DV := [.int .i64 r.pages, .int .i64 r.spares, .pv (.sl (fz encP r.places)), .pv (.sl (fz encI r.bad))]
theorem lenI (l : List Int) : (cells encI l).length = l.length * 1 := cells_len encI l
theorem allI (l : List Int) (n : Nat) (h : l.length * 1 ≤ n) : (cells encI l).take n = cells encI l := by rw [List.take_of_length_le]; rw [lenI]; exact h
theorem appI (l m : List Int) : cells encI l ++ cells encI m = cells encI (l ++ m) := (cells_app encI l m).symm
theorem srcI (l : List Int) : (fz encI l = [] ∨ (fz encI l)[0]?.map List.length = some 1) = True := fz_src encI l
theorem app_I (l : List Int) (a : Int) : cells encI l ++ [.pv (.lit (.int .i64 a))] = cells encI (l ++ [a]) := by rw [cells_app]; rfl
theorem app_I2 (l : List Int) (a b : Int) : cells encI l ++ [.pv (.lit (.int .i64 a)), .pv (.lit (.int .i64 b))] = cells encI (l ++ [a, b]) := by rw [cells_app]; rfl
attribute [go_sem] allI appI srcI app_I app_I2
abbrev eZ : List DV := [.int .i64 0, .int .i64 0, .int .i64 0, .int .i64 0, .int .i64 0, .int .i64 0, .int .i64 0, .int .i64 0, .bool false, .pv (.str []), .bool false, .pv (.str []), .pv (.str [])]
theorem flatP_succ (l : List Pl) (i : Nat) (h : i < l.length) : flatP (l.take (i + 1)) = flatP (l.take i) ++ [(l.getD i P0).pg, (l.getD i P0).ad] := by
  unfold flatP
  rw [List.take_succ_eq_append_getElem h, List.flatMap_append, List.getD_eq_getElem?_getD, List.getElem?_eq_getElem h]
  simp
theorem flatP_len' (l : List Pl) : (flatP l).length = 2 * l.length := by
  induction l with
  | nil => rfl
  | cons p r ih => simp only [flatP, List.flatMap_cons, List.length_append, List.length_cons, List.length_nil] at ih ⊢; omega
def blobN (l : List Int) (i : Nat) : List UInt8 := [81, 77] ++ (l.take i).map fun n => byteI n 0
theorem blobN_len (l : List Int) (i : Nat) (h : i ≤ l.length) : (blobN l i).length = 2 + i := by
  simp [blobN]; omega
theorem blobN_succ (l : List Int) (i : Nat) (h : i < l.length) : putL (blobN l i) (l.getD i 0) 1 = blobN l (i + 1) := by
  unfold blobN putL
  rw [List.take_succ_eq_append_getElem h, List.map_append, List.getD_eq_getElem?_getD, List.getElem?_eq_getElem h]
  simp
theorem fzP_g (l : List Pl) (i : Nat) (h : i < l.length) : (fz encP l)[i]? = some [.lit (.int .i64 (l.getD i P0).pg), .lit (.int .i64 (l.getD i P0).ad)] := fz_getD encP l P0 i h
structure N1 (r : Rm) where
  i : Nat
  l : List Int
  hi : i ≤ r.places.length
  hl : l = [r.pages, r.spares, (r.places.length : Int)] ++ flatP (r.places.take i)
theorem N1.len {r : Rm} (s : N1 r) : s.l.length = 3 + 2 * s.i := by
  rw [s.hl, List.length_append, flatP_len', List.length_take, Nat.min_eq_left s.hi]; simp only [List.length_cons, List.length_nil]
theorem note_v (r : Rm) (hs : r.sm) : VCalls Try.prog 9 [.agg r.c] [] (Ret (.agg (noteE r).d)) := by
  refine dk Try.func9 ?_
  obtain ⟨h1, h2⟩ := hs
  (unfold Try.f9; refine rn trivial ?_)
  refine vloopW (fun s : N1 r => ⟨53, 0, [(20, .int .i64 s.i), (19, .int .i64 r.places.length), (18, .pv (.sl (fz encP r.places))), (3, .own 2 1 0 s.l.length), (2, .ptr 1 0), (1, .ptr 0 0)], [⟨34, true, r.c⟩, ⟨41, true, eZ⟩, ⟨3, true, cells encI s.l⟩]⟩) (fun s => r.places.length - s.i) ⟨0, _, Nat.zero_le _, rfl⟩ (gc [0, 1, 2]) ?_
  intro s
  have hl := s.len
  obtain ⟨i, l, hi, he⟩ := s
  dsimp only at hl ⊢
  have hg := fun h : i < r.places.length => fzP_g r.places i h
  have hb : (l.length + 2) * 8 ≤ 140737488355328 := by omega
  have F := (And.intro @hg @hb)
  refine rn F ?_
  repeat' (first
    | with_reducible exact True.intro
    | (refine sB F ?_ ?_ <;> intro hZ)
    | (refine vspine (id := 7) [0, 1, 2, 3, 6, 7] [⟨[4], [4], 5, [1, 2, 3, 6, 7], []⟩, ⟨[], [], 8, [0, 1, 2, 3, 6], []⟩, ⟨[], [], 9, [], []⟩] (by kernel_rfl) (by kernel_rfl) ?_; refine rn F ?_))
  · refine ⟨⟨i + 1, l ++ [(r.places.getD i P0).pg, (r.places.getD i P0).ad], by omega, by rw [flatP_succ _ _ (by omega), he, List.append_assoc]⟩, by dsimp only; omega, ?_⟩
    dsimp only
    rw [List.length_append]
    exact (gc [0, 1, 5])
  obtain rfl : i = r.places.length := by omega
  have hL : l ++ [(r.bad.length : Int)] ++ r.bad = numsR r := by rw [he, List.take_length]; rfl
  have hn : l.length + 1 + r.bad.length = (numsR r).length := by rw [← hL]; simp; omega
  rw [hL, hn]
  have hnl : (numsR r).length ≤ 4000 := by rw [← hn]; omega
  generalize hN : numsR r = L at *
  refine vloopW (fun s : To L.length => ⟨53, 0, [(43, .int .i64 s.i), (42, .int .i64 L.length), (41, .own 1 1 0 L.length), (6, .pv (.str (blobN L s.i))), (2, .ptr 0 0)], [⟨41, true, eZ⟩, ⟨3, true, cells encI L⟩]⟩) (fun s => L.length - s.i) ⟨0, Nat.zero_le _⟩ (gc [1, 5]) ?_
  rintro ⟨i, hi⟩
  dsimp only
  have hlb := blobN_len L i hi
  by_cases hil : i < L.length
  · have hg := cellsI_get L i hil
    have c1 := put_v (blobN L i) (by omega) (L.getD i 0) 1 (by decide) (by decide)
    rw [blobN_succ L i hil] at c1
    have F := @hg
    refine rn F ?_
    repeat' (first
      | with_reducible exact True.intro
      | refine vp F (c1) ?_)
    exact ⟨⟨i + 1, hil⟩, by dsimp only; omega, (gc [0, 1])⟩
  · obtain rfl : i = L.length := by omega
    have hbl : blobN L L.length = (noteE r).blob := by rw [← hN]; unfold blobN; rw [List.take_length]; rfl
    have F := trivial
    refine rn F ?_
    rw [hbl]; rfl
theorem rnote_v (r : Rm) (hs : r.sm) : VCalls Try.prog 10 [.agg r.c] [] (Ret (.agg (noteE r).d)) := by
  refine dk Try.func10 ?_
  obtain ⟨h1, h2⟩ := hs
  (unfold Try.f10; refine rn trivial ?_)
  refine vloopW (fun s : N1 r => ⟨60, 0, [(5, .int .i64 s.i), (4, .own 2 1 0 s.l.length), (3, .pv (.str [81, 77])), (2, .ptr 1 0), (1, .ptr 0 0)], [⟨34, true, r.c⟩, ⟨41, true, eZ⟩, ⟨3, true, cells encI s.l⟩]⟩) (fun s => r.places.length - s.i) ⟨0, _, Nat.zero_le _, rfl⟩ (gc [0, 1, 2]) ?_
  intro s
  have hl := s.len
  obtain ⟨i, l, hi, he⟩ := s
  dsimp only at hl ⊢
  have hg := fun h : i < r.places.length => fzP_g r.places i h
  have hb : (l.length + 2) * 8 ≤ 140737488355328 := by omega
  have F := (And.intro @hg @hb)
  refine rn F ?_
  repeat' (first
    | with_reducible exact True.intro
    | (refine sB F ?_ ?_ <;> intro hZ)
    | (refine vspine (id := 6) [0, 1, 2, 3, 4, 5, 6, 7, 8, 9, 10, 11, 12] [⟨[13], [13], 14, [1, 2, 3, 4, 5, 6, 7, 8, 9, 10, 11, 12], []⟩, ⟨[], [], 15, [], []⟩] (by kernel_rfl) (by kernel_rfl) ?_; refine rn F ?_)
    | (refine vspine (id := 7) [0, 1, 2, 3, 6, 7] [⟨[4], [4], 5, [1, 2, 3, 6, 7], []⟩, ⟨[], [], 8, [0, 1, 2, 3, 6], []⟩, ⟨[], [], 9, [], []⟩] (by kernel_rfl) (by kernel_rfl) ?_; refine rn F ?_))
  · refine ⟨⟨i + 1, l ++ [(r.places.getD i P0).pg, (r.places.getD i P0).ad], by omega, by rw [flatP_succ _ _ (by omega), he, List.append_assoc]⟩, by dsimp only; omega, ?_⟩
    dsimp only
    rw [List.length_append]
    exact (gc [0, 1, 4])
  obtain rfl : i = r.places.length := by omega
  have hL : l ++ [(r.bad.length : Int)] ++ r.bad = numsR r := by rw [he, List.take_length]; rfl
  have hn : l.length + 1 + r.bad.length = (numsR r).length := by rw [← hL]; simp; omega
  rw [hL, hn]
  have hnl : (numsR r).length ≤ 4000 := by rw [← hn]; omega
  generalize hN : numsR r = L at *
  refine vloopW (fun s : To L.length => ⟨60, 0, [(6, .int .i64 s.i), (4, .own 1 1 0 L.length), (3, .pv (.str (blobN L s.i))), (2, .ptr 0 0)], [⟨41, true, eZ⟩, ⟨3, true, cells encI L⟩]⟩) (fun s => L.length - s.i) ⟨0, Nat.zero_le _⟩ (gc [1, 5]) ?_
  rintro ⟨i, hi⟩
  dsimp only
  have hlb := blobN_len L i hi
  by_cases hil : i < L.length
  · have hg := cellsI_get L i hil
    have c1 := rput_v (blobN L i) (by omega) (L.getD i 0) 1 (by decide) (by decide)
    rw [blobN_succ L i hil] at c1
    have F := @hg
    refine rn F ?_
    repeat' (first
      | with_reducible exact True.intro
      | refine vp F (c1) ?_)
    exact ⟨⟨i + 1, hil⟩, by dsimp only; omega, (gc [0, 1])⟩
  · obtain rfl : i = L.length := by omega
    have hbl : blobN L L.length = (noteE r).blob := by rw [← hN]; unfold blobN; rw [List.take_length]; rfl
    have F := trivial
    refine rn F ?_
    rw [hbl]; rfl
end Go.Proofs.Ytnilcppifcekmaa
