/-
  Contracts of functions and plain laws. No condition.
-/
import Derived.Test.YtipnkkooklhfgaaGreatProg
import Derived.Test.YtipnkkooklhfgaaGreatV3
import Derived.KernelRfl
set_option linter.unusedSimpArgs false
set_option linter.unusedVariables false
set_option maxRecDepth 100000
set_option maxHeartbeats 8000000
namespace Go.Proofs.YtipnkkooklhfgaaGreat
open Go.V Go
open Tryz (prog)
theorem F : True := trivial
end Go.Proofs.YtipnkkooklhfgaaGreat
namespace Go.Proofs
open Go.V
theorem Tryz.vt3 : vt prog 3 = some none := by kernel_rfl
theorem Tryz.vkind3 : vkind prog 3 = .int .i64 := by kernel_rfl
theorem Tryz.vzero3 : vzero prog 3 = some [.pv (.lit (.int .i64 0))] := by kernel_rfl
theorem Tryz.bytes3 : bytesT prog 3 = some 8 := by kernel_rfl
theorem Tryz.vt4 : vt prog 4 = some none := by kernel_rfl
theorem Tryz.vkind4 : vkind prog 4 = .bool := by kernel_rfl
theorem Tryz.vt5 : vt prog 5 = some none := by kernel_rfl
theorem Tryz.vkind5 : vkind prog 5 = .int .u8 := by kernel_rfl
theorem Tryz.vzero5 : vzero prog 5 = some [.pv (.lit (.int .u8 0))] := by kernel_rfl
theorem Tryz.bytes5 : bytesT prog 5 = some 1 := by kernel_rfl
theorem Tryz.vt9 : vt prog 9 = some none := by kernel_rfl
theorem Tryz.notInt9 : notInt prog 9 = true := by kernel_rfl
theorem Tryz.vkind9 : vkind prog 9 = .str := by kernel_rfl
theorem Tryz.vzero9 : vzero prog 9 = some [.pv (.str [])] := by kernel_rfl
theorem Tryz.bytes9 : bytesT prog 9 = some 16 := by kernel_rfl
theorem Tryz.vt22 : vt prog 22 = some none := by kernel_rfl
theorem Tryz.velem22 : velem prog 22 = some (none, 5, 1) := by kernel_rfl
theorem Tryz.notInt22 : notInt prog 22 = true := by kernel_rfl
theorem Tryz.vkind22 : vkind prog 22 = .sl 5 := by kernel_rfl
theorem Tryz.vt23 : vt prog 23 = some none := by kernel_rfl
theorem Tryz.velem23 : velem prog 23 = some (none, 31, 13) := by kernel_rfl
theorem Tryz.notInt23 : notInt prog 23 = true := by kernel_rfl
theorem Tryz.vkind23 : vkind prog 23 = .sl 31 := by kernel_rfl
theorem Tryz.vt25 : vt prog 25 = some (some 3) := by kernel_rfl
theorem Tryz.vfield25x0 : vfield prog 25 0 = some (3, 0, 1) := by kernel_rfl
theorem Tryz.vfield25x1 : vfield prog 25 1 = some (23, 1, 1) := by kernel_rfl
theorem Tryz.vfield25x2 : vfield prog 25 2 = some (3, 2, 1) := by kernel_rfl
theorem Tryz.vplaces25 : vplaces prog 25 = some fun j => ([(0, 1), (1, 1), (2, 1)] : List (Nat × Nat))[j]? := by kernel_rfl
theorem Tryz.vzero25 : vzero prog 25 = some [.pv (.lit (.int .i64 0)), .pv (.slc []), .pv (.lit (.int .i64 0))] := by kernel_rfl
theorem Tryz.vt27 : vt prog 27 = some (some 2) := by kernel_rfl
theorem Tryz.vfield27x0 : vfield prog 27 0 = some (4, 0, 1) := by kernel_rfl
theorem Tryz.vfield27x1 : vfield prog 27 1 = some (9, 1, 1) := by kernel_rfl
theorem Tryz.vplaces27 : vplaces prog 27 = some fun j => ([(0, 1), (1, 1)] : List (Nat × Nat))[j]? := by kernel_rfl
theorem Tryz.vzero27 : vzero prog 27 = some [.pv (.lit (.bool false)), .pv (.str [])] := by kernel_rfl
theorem Tryz.leaves27 : leaves prog 8 27 = some [(0, 0), (1, 2)] := by kernel_rfl
theorem Tryz.eqg27 : prog.eqGuardType prog.depth 27 = false := by kernel_rfl
theorem Tryz.vt29 : vt prog 29 = some (some 6) := by kernel_rfl
theorem Tryz.vfield29x0 : vfield prog 29 0 = some (3, 0, 1) := by kernel_rfl
theorem Tryz.vfield29x1 : vfield prog 29 1 = some (3, 1, 1) := by kernel_rfl
theorem Tryz.vfield29x2 : vfield prog 29 2 = some (27, 2, 2) := by kernel_rfl
theorem Tryz.vfield29x3 : vfield prog 29 3 = some (27, 4, 2) := by kernel_rfl
theorem Tryz.vplaces29 : vplaces prog 29 = some fun j => ([(0, 1), (1, 1), (2, 2), (4, 2)] : List (Nat × Nat))[j]? := by kernel_rfl
theorem Tryz.vzero29 : vzero prog 29 = some [.pv (.lit (.int .i64 0)), .pv (.lit (.int .i64 0)), .pv (.lit (.bool false)), .pv (.str []), .pv (.lit (.bool false)), .pv (.str [])] := by kernel_rfl
theorem Tryz.leaves29 : leaves prog 8 29 = some [(0, 1), (1, 1), (2, 0), (3, 2), (4, 0), (5, 2)] := by kernel_rfl
theorem Tryz.eqg29 : prog.eqGuardType prog.depth 29 = false := by kernel_rfl
theorem Tryz.vt31 : vt prog 31 = some (some 13) := by kernel_rfl
theorem Tryz.vfield31x0 : vfield prog 31 0 = some (3, 0, 1) := by kernel_rfl
theorem Tryz.vfield31x1 : vfield prog 31 1 = some (3, 1, 1) := by kernel_rfl
theorem Tryz.vfield31x2 : vfield prog 31 2 = some (3, 2, 1) := by kernel_rfl
theorem Tryz.vfield31x3 : vfield prog 31 3 = some (3, 3, 1) := by kernel_rfl
theorem Tryz.vfield31x4 : vfield prog 31 4 = some (3, 4, 1) := by kernel_rfl
theorem Tryz.vfield31x5 : vfield prog 31 5 = some (3, 5, 1) := by kernel_rfl
theorem Tryz.vfield31x6 : vfield prog 31 6 = some (29, 6, 6) := by kernel_rfl
theorem Tryz.vfield31x7 : vfield prog 31 7 = some (9, 12, 1) := by kernel_rfl
theorem Tryz.vplaces31 : vplaces prog 31 = some fun j => ([(0, 1), (1, 1), (2, 1), (3, 1), (4, 1), (5, 1), (6, 6), (12, 1)] : List (Nat × Nat))[j]? := by kernel_rfl
theorem Tryz.vzero31 : vzero prog 31 = some [.pv (.lit (.int .i64 0)), .pv (.lit (.int .i64 0)), .pv (.lit (.int .i64 0)), .pv (.lit (.int .i64 0)), .pv (.lit (.int .i64 0)), .pv (.lit (.int .i64 0)), .pv (.lit (.int .i64 0)), .pv (.lit (.int .i64 0)), .pv (.lit (.bool false)), .pv (.str []), .pv (.lit (.bool false)), .pv (.str []), .pv (.str [])] := by kernel_rfl
theorem Tryz.bytes31 : bytesT prog 31 = some 128 := by kernel_rfl
theorem Tryz.leaves31 : leaves prog 8 31 = some [(0, 1), (1, 1), (2, 1), (3, 1), (4, 1), (5, 1), (6, 1), (7, 1), (8, 0), (9, 2), (10, 0), (11, 2), (12, 2)] := by kernel_rfl
theorem Tryz.eqg31 : prog.eqGuardType prog.depth 31 = false := by kernel_rfl
theorem Tryz.vt41 : vt prog 41 = some none := by kernel_rfl
theorem Tryz.vt46 : vt prog 46 = some none := by kernel_rfl
theorem Tryz.velem46 : velem prog 46 = some (none, 3, 1) := by kernel_rfl
theorem Tryz.notInt46 : notInt prog 46 = true := by kernel_rfl
theorem Tryz.vkind46 : vkind prog 46 = .sl 3 := by kernel_rfl
theorem Tryz.vt56 : vt prog 56 = some none := by kernel_rfl
theorem Tryz.velem56 : velem prog 56 = some (none, 9, 1) := by kernel_rfl
theorem Tryz.notInt56 : notInt prog 56 = true := by kernel_rfl
theorem Tryz.vkind56 : vkind prog 56 = .sl 9 := by kernel_rfl
theorem Tryz.vkind59 : vkind prog 59 = .int .u16 := by kernel_rfl
theorem Tryz.vt60 : vt prog 60 = some none := by kernel_rfl
theorem Tryz.velem60 : velem prog 60 = some (none, 192, 37) := by kernel_rfl
theorem Tryz.notInt60 : notInt prog 60 = true := by kernel_rfl
theorem Tryz.vkind60 : vkind prog 60 = .sl 192 := by kernel_rfl
theorem Tryz.vt62 : vt prog 62 = some (some 3) := by kernel_rfl
theorem Tryz.vfield62x0 : vfield prog 62 0 = some (3, 0, 1) := by kernel_rfl
theorem Tryz.vfield62x1 : vfield prog 62 1 = some (60, 1, 1) := by kernel_rfl
theorem Tryz.vfield62x2 : vfield prog 62 2 = some (3, 2, 1) := by kernel_rfl
theorem Tryz.vplaces62 : vplaces prog 62 = some fun j => ([(0, 1), (1, 1), (2, 1)] : List (Nat × Nat))[j]? := by kernel_rfl
theorem Tryz.vzero62 : vzero prog 62 = some [.pv (.lit (.int .i64 0)), .pv (.slc []), .pv (.lit (.int .i64 0))] := by kernel_rfl
theorem Tryz.vt63 : vt prog 63 = some none := by kernel_rfl
theorem Tryz.velem63 : velem prog 63 = some (none, 230, 4) := by kernel_rfl
theorem Tryz.notInt63 : notInt prog 63 = true := by kernel_rfl
theorem Tryz.vkind63 : vkind prog 63 = .sl 230 := by kernel_rfl
theorem Tryz.vt65 : vt prog 65 = some (some 2) := by kernel_rfl
theorem Tryz.vfield65x0 : vfield prog 65 0 = some (63, 0, 1) := by kernel_rfl
theorem Tryz.vfield65x1 : vfield prog 65 1 = some (63, 1, 1) := by kernel_rfl
theorem Tryz.vplaces65 : vplaces prog 65 = some fun j => ([(0, 1), (1, 1)] : List (Nat × Nat))[j]? := by kernel_rfl
theorem Tryz.vzero65 : vzero prog 65 = some [.pv (.slc []), .pv (.slc [])] := by kernel_rfl
theorem Tryz.vt66 : vt prog 66 = some none := by kernel_rfl
theorem Tryz.velem66 : velem prog 66 = some (none, 226, 6) := by kernel_rfl
theorem Tryz.notInt66 : notInt prog 66 = true := by kernel_rfl
theorem Tryz.vkind66 : vkind prog 66 = .sl 226 := by kernel_rfl
theorem Tryz.vt67 : vt prog 67 = some none := by kernel_rfl
theorem Tryz.velem67 : velem prog 67 = some (none, 280, 3) := by kernel_rfl
theorem Tryz.notInt67 : notInt prog 67 = true := by kernel_rfl
theorem Tryz.vkind67 : vkind prog 67 = .sl 280 := by kernel_rfl
theorem Tryz.vt69 : vt prog 69 = some (some 1) := by kernel_rfl
theorem Tryz.vfield69x0 : vfield prog 69 0 = some (67, 0, 1) := by kernel_rfl
theorem Tryz.vplaces69 : vplaces prog 69 = some fun j => ([(0, 1)] : List (Nat × Nat))[j]? := by kernel_rfl
theorem Tryz.vzero69 : vzero prog 69 = some [.pv (.slc [])] := by kernel_rfl
theorem Tryz.vt70 : vt prog 70 = some none := by kernel_rfl
theorem Tryz.velem70 : velem prog 70 = some (none, 200, 3) := by kernel_rfl
theorem Tryz.notInt70 : notInt prog 70 = true := by kernel_rfl
theorem Tryz.vkind70 : vkind prog 70 = .sl 200 := by kernel_rfl
theorem Tryz.vt72 : vt prog 72 = some (some 13) := by kernel_rfl
theorem Tryz.vfield72x0 : vfield prog 72 0 = some (3, 0, 1) := by kernel_rfl
theorem Tryz.vfield72x1 : vfield prog 72 1 = some (3, 1, 1) := by kernel_rfl
theorem Tryz.vfield72x2 : vfield prog 72 2 = some (25, 2, 3) := by kernel_rfl
theorem Tryz.vfield72x3 : vfield prog 72 3 = some (62, 5, 3) := by kernel_rfl
theorem Tryz.vfield72x4 : vfield prog 72 4 = some (65, 8, 2) := by kernel_rfl
theorem Tryz.vfield72x5 : vfield prog 72 5 = some (66, 10, 1) := by kernel_rfl
theorem Tryz.vfield72x6 : vfield prog 72 6 = some (69, 11, 1) := by kernel_rfl
theorem Tryz.vfield72x7 : vfield prog 72 7 = some (70, 12, 1) := by kernel_rfl
theorem Tryz.vplaces72 : vplaces prog 72 = some fun j => ([(0, 1), (1, 1), (2, 3), (5, 3), (8, 2), (10, 1), (11, 1), (12, 1)] : List (Nat × Nat))[j]? := by kernel_rfl
theorem Tryz.vzero72 : vzero prog 72 = some [.pv (.lit (.int .i64 0)), .pv (.lit (.int .i64 0)), .pv (.lit (.int .i64 0)), .pv (.slc []), .pv (.lit (.int .i64 0)), .pv (.lit (.int .i64 0)), .pv (.slc []), .pv (.lit (.int .i64 0)), .pv (.slc []), .pv (.slc []), .pv (.slc []), .pv (.slc []), .pv (.slc [])] := by kernel_rfl
theorem Tryz.vfield80x0 : vfield prog 80 0 = some (22, 0, 1) := by kernel_rfl
theorem Tryz.vfield80x1 : vfield prog 80 1 = some (3, 1, 1) := by kernel_rfl
theorem Tryz.vplaces80 : vplaces prog 80 = some fun j => ([(0, 1), (1, 1)] : List (Nat × Nat))[j]? := by kernel_rfl
theorem Tryz.vzero80 : vzero prog 80 = some [.pv (.slc []), .pv (.lit (.int .i64 0))] := by kernel_rfl
theorem Tryz.vt83 : vt prog 83 = some none := by kernel_rfl
theorem Tryz.vt98 : vt prog 98 = some none := by kernel_rfl
theorem Tryz.velem98 : velem prog 98 = some (none, 258, 6) := by kernel_rfl
theorem Tryz.notInt98 : notInt prog 98 = true := by kernel_rfl
theorem Tryz.vkind98 : vkind prog 98 = .sl 258 := by kernel_rfl
theorem Tryz.vt100 : vt prog 100 = some (some 5) := by kernel_rfl
theorem Tryz.vfield100x0 : vfield prog 100 0 = some (56, 0, 1) := by kernel_rfl
theorem Tryz.vfield100x1 : vfield prog 100 1 = some (3, 1, 1) := by kernel_rfl
theorem Tryz.vfield100x2 : vfield prog 100 2 = some (46, 2, 1) := by kernel_rfl
theorem Tryz.vfield100x3 : vfield prog 100 3 = some (4, 3, 1) := by kernel_rfl
theorem Tryz.vfield100x4 : vfield prog 100 4 = some (98, 4, 1) := by kernel_rfl
theorem Tryz.vplaces100 : vplaces prog 100 = some fun j => ([(0, 1), (1, 1), (2, 1), (3, 1), (4, 1)] : List (Nat × Nat))[j]? := by kernel_rfl
theorem Tryz.vzero100 : vzero prog 100 = some [.pv (.slc []), .pv (.lit (.int .i64 0)), .pv (.slc []), .pv (.lit (.bool false)), .pv (.slc [])] := by kernel_rfl
theorem Tryz.vt102 : vt prog 102 = some (some 18) := by kernel_rfl
theorem Tryz.vfield102x0 : vfield prog 102 0 = some (72, 0, 13) := by kernel_rfl
theorem Tryz.vfield102x1 : vfield prog 102 1 = some (100, 13, 5) := by kernel_rfl
theorem Tryz.vplaces102 : vplaces prog 102 = some fun j => ([(0, 13), (13, 5)] : List (Nat × Nat))[j]? := by kernel_rfl
theorem Tryz.vzero102 : vzero prog 102 = some [.pv (.lit (.int .i64 0)), .pv (.lit (.int .i64 0)), .pv (.lit (.int .i64 0)), .pv (.slc []), .pv (.lit (.int .i64 0)), .pv (.lit (.int .i64 0)), .pv (.slc []), .pv (.lit (.int .i64 0)), .pv (.slc []), .pv (.slc []), .pv (.slc []), .pv (.slc []), .pv (.slc []), .pv (.slc []), .pv (.lit (.int .i64 0)), .pv (.slc []), .pv (.lit (.bool false)), .pv (.slc [])] := by kernel_rfl
theorem Tryz.vt106 : vt prog 106 = some none := by kernel_rfl
theorem Tryz.vt108 : vt prog 108 = some (some 7) := by kernel_rfl
theorem Tryz.vfield108x0 : vfield prog 108 0 = some (4, 0, 1) := by kernel_rfl
theorem Tryz.vfield108x1 : vfield prog 108 1 = some (4, 1, 1) := by kernel_rfl
theorem Tryz.vfield108x2 : vfield prog 108 2 = some (4, 2, 1) := by kernel_rfl
theorem Tryz.vfield108x3 : vfield prog 108 3 = some (4, 3, 1) := by kernel_rfl
theorem Tryz.vfield108x4 : vfield prog 108 4 = some (4, 4, 1) := by kernel_rfl
theorem Tryz.vfield108x5 : vfield prog 108 5 = some (83, 5, 1) := by kernel_rfl
theorem Tryz.vfield108x6 : vfield prog 108 6 = some (106, 6, 1) := by kernel_rfl
theorem Tryz.vplaces108 : vplaces prog 108 = some fun j => ([(0, 1), (1, 1), (2, 1), (3, 1), (4, 1), (5, 1), (6, 1)] : List (Nat × Nat))[j]? := by kernel_rfl
theorem Tryz.vzero108 : vzero prog 108 = some [.pv (.lit (.bool false)), .pv (.lit (.bool false)), .pv (.lit (.bool false)), .pv (.lit (.bool false)), .pv (.lit (.bool false)), .pv (.lit .nilFunc), .pv (.lit .nilFunc)] := by kernel_rfl
theorem Tryz.vt109 : vt prog 109 = some (some 63) := by kernel_rfl
theorem Tryz.velem109 : velem prog 109 = some (some 9, 108, 7) := by kernel_rfl
theorem Tryz.vplaces109 : vplaces prog 109 = some fun j => some (j * 7, 7) := by kernel_rfl
theorem Tryz.vzero109 : vzero prog 109 = some [.pv (.lit (.bool false)), .pv (.lit (.bool false)), .pv (.lit (.bool false)), .pv (.lit (.bool false)), .pv (.lit (.bool false)), .pv (.lit .nilFunc), .pv (.lit .nilFunc), .pv (.lit (.bool false)), .pv (.lit (.bool false)), .pv (.lit (.bool false)), .pv (.lit (.bool false)), .pv (.lit (.bool false)), .pv (.lit .nilFunc), .pv (.lit .nilFunc), .pv (.lit (.bool false)), .pv (.lit (.bool false)), .pv (.lit (.bool false)), .pv (.lit (.bool false)), .pv (.lit (.bool false)), .pv (.lit .nilFunc), .pv (.lit .nilFunc), .pv (.lit (.bool false)), .pv (.lit (.bool false)), .pv (.lit (.bool false)), .pv (.lit (.bool false)), .pv (.lit (.bool false)), .pv (.lit .nilFunc), .pv (.lit .nilFunc), .pv (.lit (.bool false)), .pv (.lit (.bool false)), .pv (.lit (.bool false)), .pv (.lit (.bool false)), .pv (.lit (.bool false)), .pv (.lit .nilFunc), .pv (.lit .nilFunc), .pv (.lit (.bool false)), .pv (.lit (.bool false)), .pv (.lit (.bool false)), .pv (.lit (.bool false)), .pv (.lit (.bool false)), .pv (.lit .nilFunc), .pv (.lit .nilFunc), .pv (.lit (.bool false)), .pv (.lit (.bool false)), .pv (.lit (.bool false)), .pv (.lit (.bool false)), .pv (.lit (.bool false)), .pv (.lit .nilFunc), .pv (.lit .nilFunc), .pv (.lit (.bool false)), .pv (.lit (.bool false)), .pv (.lit (.bool false)), .pv (.lit (.bool false)), .pv (.lit (.bool false)), .pv (.lit .nilFunc), .pv (.lit .nilFunc), .pv (.lit (.bool false)), .pv (.lit (.bool false)), .pv (.lit (.bool false)), .pv (.lit (.bool false)), .pv (.lit (.bool false)), .pv (.lit .nilFunc), .pv (.lit .nilFunc)] := by kernel_rfl
theorem Tryz.vt118 : vt prog 118 = some none := by kernel_rfl
theorem Tryz.vfield120x0 : vfield prog 120 0 = some (118, 0, 1) := by kernel_rfl
theorem Tryz.vfield120x1 : vfield prog 120 1 = some (22, 1, 1) := by kernel_rfl
theorem Tryz.vzero120 : vzero prog 120 = some [.pv (.lit (.pointer none)), .pv (.lit (.slice none 0 0))] := by kernel_rfl
theorem Tryz.vt125 : vt prog 125 = some none := by kernel_rfl
theorem Tryz.vkind125 : vkind prog 125 = .int .u32 := by kernel_rfl
theorem Tryz.vkind127 : vkind prog 127 = .int .u64 := by kernel_rfl
theorem Tryz.vfield130x0 : vfield prog 130 0 = some (9, 0, 1) := by kernel_rfl
theorem Tryz.vfield130x1 : vfield prog 130 1 = some (3, 1, 1) := by kernel_rfl
theorem Tryz.vfield130x2 : vfield prog 130 2 = some (41, 2, 1) := by kernel_rfl
theorem Tryz.vplaces130 : vplaces prog 130 = some fun j => ([(0, 1), (1, 1), (2, 1)] : List (Nat × Nat))[j]? := by kernel_rfl
theorem Tryz.vzero130 : vzero prog 130 = some [.pv (.str []), .pv (.lit (.int .i64 0)), .pv (.lit (.int .i64 0))] := by kernel_rfl
theorem Tryz.vkind131 : vkind prog 131 = .int .u64 := by kernel_rfl
theorem Tryz.vfield134x0 : vfield prog 134 0 = some (9, 0, 1) := by kernel_rfl
theorem Tryz.vfield134x1 : vfield prog 134 1 = some (3, 1, 1) := by kernel_rfl
theorem Tryz.vfield134x2 : vfield prog 134 2 = some (41, 2, 1) := by kernel_rfl
theorem Tryz.vplaces134 : vplaces prog 134 = some fun j => ([(0, 1), (1, 1), (2, 1)] : List (Nat × Nat))[j]? := by kernel_rfl
theorem Tryz.vzero134 : vzero prog 134 = some [.pv (.str []), .pv (.lit (.int .i64 0)), .pv (.lit (.int .i64 0))] := by kernel_rfl
theorem Tryz.velem137 : velem prog 137 = some (none, 156, 6) := by kernel_rfl
theorem Tryz.notInt137 : notInt prog 137 = true := by kernel_rfl
theorem Tryz.vt138 : vt prog 138 = some none := by kernel_rfl
theorem Tryz.velem138 : velem prog 138 = some (none, 185, 6) := by kernel_rfl
theorem Tryz.notInt138 : notInt prog 138 = true := by kernel_rfl
theorem Tryz.velem141 : velem prog 141 = some (none, 161, 9) := by kernel_rfl
theorem Tryz.notInt141 : notInt prog 141 = true := by kernel_rfl
theorem Tryz.vkind141 : vkind prog 141 = .sl 161 := by kernel_rfl
theorem Tryz.vt146 : vt prog 146 = some (some 16) := by kernel_rfl
theorem Tryz.velem146 : velem prog 146 = some (some 16, 125, 1) := by kernel_rfl
theorem Tryz.vzero146 : vzero prog 146 = some [.pv (.lit (.int .u32 0)), .pv (.lit (.int .u32 0)), .pv (.lit (.int .u32 0)), .pv (.lit (.int .u32 0)), .pv (.lit (.int .u32 0)), .pv (.lit (.int .u32 0)), .pv (.lit (.int .u32 0)), .pv (.lit (.int .u32 0)), .pv (.lit (.int .u32 0)), .pv (.lit (.int .u32 0)), .pv (.lit (.int .u32 0)), .pv (.lit (.int .u32 0)), .pv (.lit (.int .u32 0)), .pv (.lit (.int .u32 0)), .pv (.lit (.int .u32 0)), .pv (.lit (.int .u32 0))] := by kernel_rfl
theorem Tryz.vfield154x0 : vfield prog 154 0 = some (102, 0, 18) := by kernel_rfl
theorem Tryz.vfield154x1 : vfield prog 154 1 = some (46, 18, 1) := by kernel_rfl
theorem Tryz.vfield154x2 : vfield prog 154 2 = some (138, 19, 1) := by kernel_rfl
theorem Tryz.vfield154x3 : vfield prog 154 3 = some (4, 20, 1) := by kernel_rfl
theorem Tryz.vplaces154 : vplaces prog 154 = some fun j => ([(0, 18), (18, 1), (19, 1), (20, 1)] : List (Nat × Nat))[j]? := by kernel_rfl
theorem Tryz.vzero154 : vzero prog 154 = some [.pv (.lit (.int .i64 0)), .pv (.lit (.int .i64 0)), .pv (.lit (.int .i64 0)), .pv (.slc []), .pv (.lit (.int .i64 0)), .pv (.lit (.int .i64 0)), .pv (.slc []), .pv (.lit (.int .i64 0)), .pv (.slc []), .pv (.slc []), .pv (.slc []), .pv (.slc []), .pv (.slc []), .pv (.slc []), .pv (.lit (.int .i64 0)), .pv (.slc []), .pv (.lit (.bool false)), .pv (.slc []), .pv (.slc []), .pv (.slc []), .pv (.lit (.bool false))] := by kernel_rfl
theorem Tryz.vt156 : vt prog 156 = some (some 6) := by kernel_rfl
theorem Tryz.vfield156x0 : vfield prog 156 0 = some (3, 0, 1) := by kernel_rfl
theorem Tryz.vfield156x1 : vfield prog 156 1 = some (3, 1, 1) := by kernel_rfl
theorem Tryz.vfield156x2 : vfield prog 156 2 = some (3, 2, 1) := by kernel_rfl
theorem Tryz.vfield156x3 : vfield prog 156 3 = some (27, 3, 2) := by kernel_rfl
theorem Tryz.vfield156x4 : vfield prog 156 4 = some (41, 5, 1) := by kernel_rfl
theorem Tryz.vplaces156 : vplaces prog 156 = some fun j => ([(0, 1), (1, 1), (2, 1), (3, 2), (5, 1)] : List (Nat × Nat))[j]? := by kernel_rfl
theorem Tryz.vzero156 : vzero prog 156 = some [.pv (.lit (.int .i64 0)), .pv (.lit (.int .i64 0)), .pv (.lit (.int .i64 0)), .pv (.lit (.bool false)), .pv (.str []), .pv (.lit (.int .i64 0))] := by kernel_rfl
theorem Tryz.bytes156 : bytesT prog 156 = some 56 := by kernel_rfl
theorem Tryz.vt159 : vt prog 159 = some (some 4) := by kernel_rfl
theorem Tryz.vfield159x0 : vfield prog 159 0 = some (3, 0, 1) := by kernel_rfl
theorem Tryz.vfield159x1 : vfield prog 159 1 = some (3, 1, 1) := by kernel_rfl
theorem Tryz.vfield159x2 : vfield prog 159 2 = some (3, 2, 1) := by kernel_rfl
theorem Tryz.vfield159x3 : vfield prog 159 3 = some (9, 3, 1) := by kernel_rfl
theorem Tryz.vplaces159 : vplaces prog 159 = some fun j => ([(0, 1), (1, 1), (2, 1), (3, 1)] : List (Nat × Nat))[j]? := by kernel_rfl
theorem Tryz.vzero159 : vzero prog 159 = some [.pv (.lit (.int .i64 0)), .pv (.lit (.int .i64 0)), .pv (.lit (.int .i64 0)), .pv (.str [])] := by kernel_rfl
theorem Tryz.leaves159 : leaves prog 8 159 = some [(0, 1), (1, 1), (2, 1), (3, 2)] := by kernel_rfl
theorem Tryz.eqg159 : prog.eqGuardType prog.depth 159 = false := by kernel_rfl
theorem Tryz.vt161 : vt prog 161 = some (some 9) := by kernel_rfl
theorem Tryz.vfield161x0 : vfield prog 161 0 = some (3, 0, 1) := by kernel_rfl
theorem Tryz.vfield161x1 : vfield prog 161 1 = some (3, 1, 1) := by kernel_rfl
theorem Tryz.vfield161x2 : vfield prog 161 2 = some (3, 2, 1) := by kernel_rfl
theorem Tryz.vfield161x5 : vfield prog 161 5 = some (159, 5, 4) := by kernel_rfl
theorem Tryz.vplaces161 : vplaces prog 161 = some fun j => ([(0, 1), (1, 1), (2, 1), (3, 1), (4, 1), (5, 4)] : List (Nat × Nat))[j]? := by kernel_rfl
theorem Tryz.vzero161 : vzero prog 161 = some [.pv (.lit (.int .i64 0)), .pv (.lit (.int .i64 0)), .pv (.lit (.int .i64 0)), .pv (.lit (.int .i64 0)), .pv (.lit (.int .i64 0)), .pv (.lit (.int .i64 0)), .pv (.lit (.int .i64 0)), .pv (.lit (.int .i64 0)), .pv (.str [])] := by kernel_rfl
theorem Tryz.bytes161 : bytesT prog 161 = some 80 := by kernel_rfl
theorem Tryz.vplaces185 : vplaces prog 185 = some fun j => ([(0, 1), (1, 1), (2, 1), (3, 1), (4, 2)] : List (Nat × Nat))[j]? := by kernel_rfl
theorem Tryz.vzero185 : vzero prog 185 = some [.pv (.lit (.int .i64 0)), .pv (.lit (.int .i64 0)), .pv (.lit (.int .i64 0)), .pv (.lit (.int .i64 0)), .pv (.lit (.bool false)), .pv (.str [])] := by kernel_rfl
theorem Tryz.bytes185 : bytesT prog 185 = some 56 := by kernel_rfl
theorem Tryz.velem186 : velem prog 186 = some (some 16, 27, 2) := by kernel_rfl
theorem Tryz.vt188 : vt prog 188 = some (some 34) := by kernel_rfl
theorem Tryz.vfield188x0 : vfield prog 188 0 = some (3, 0, 1) := by kernel_rfl
theorem Tryz.vfield188x1 : vfield prog 188 1 = some (3, 1, 1) := by kernel_rfl
theorem Tryz.vfield188x2 : vfield prog 188 2 = some (186, 2, 32) := by kernel_rfl
theorem Tryz.vplaces188 : vplaces prog 188 = some fun j => ([(0, 1), (1, 1), (2, 32)] : List (Nat × Nat))[j]? := by kernel_rfl
theorem Tryz.vzero188 : vzero prog 188 = some [.pv (.lit (.int .i64 0)), .pv (.lit (.int .i64 0)), .pv (.lit (.bool false)), .pv (.str []), .pv (.lit (.bool false)), .pv (.str []), .pv (.lit (.bool false)), .pv (.str []), .pv (.lit (.bool false)), .pv (.str []), .pv (.lit (.bool false)), .pv (.str []), .pv (.lit (.bool false)), .pv (.str []), .pv (.lit (.bool false)), .pv (.str []), .pv (.lit (.bool false)), .pv (.str []), .pv (.lit (.bool false)), .pv (.str []), .pv (.lit (.bool false)), .pv (.str []), .pv (.lit (.bool false)), .pv (.str []), .pv (.lit (.bool false)), .pv (.str []), .pv (.lit (.bool false)), .pv (.str []), .pv (.lit (.bool false)), .pv (.str []), .pv (.lit (.bool false)), .pv (.str []), .pv (.lit (.bool false)), .pv (.str [])] := by kernel_rfl
theorem Tryz.vt192 : vt prog 192 = some (some 37) := by kernel_rfl
theorem Tryz.vfield192x0 : vfield prog 192 0 = some (188, 0, 34) := by kernel_rfl
theorem Tryz.vfield192x1 : vfield prog 192 1 = some (4, 34, 1) := by kernel_rfl
theorem Tryz.vfield192x2 : vfield prog 192 2 = some (3, 35, 1) := by kernel_rfl
theorem Tryz.vfield192x3 : vfield prog 192 3 = some (4, 36, 1) := by kernel_rfl
theorem Tryz.vplaces192 : vplaces prog 192 = some fun j => ([(0, 34), (34, 1), (35, 1), (36, 1)] : List (Nat × Nat))[j]? := by kernel_rfl
theorem Tryz.vzero192 : vzero prog 192 = some [.pv (.lit (.int .i64 0)), .pv (.lit (.int .i64 0)), .pv (.lit (.bool false)), .pv (.str []), .pv (.lit (.bool false)), .pv (.str []), .pv (.lit (.bool false)), .pv (.str []), .pv (.lit (.bool false)), .pv (.str []), .pv (.lit (.bool false)), .pv (.str []), .pv (.lit (.bool false)), .pv (.str []), .pv (.lit (.bool false)), .pv (.str []), .pv (.lit (.bool false)), .pv (.str []), .pv (.lit (.bool false)), .pv (.str []), .pv (.lit (.bool false)), .pv (.str []), .pv (.lit (.bool false)), .pv (.str []), .pv (.lit (.bool false)), .pv (.str []), .pv (.lit (.bool false)), .pv (.str []), .pv (.lit (.bool false)), .pv (.str []), .pv (.lit (.bool false)), .pv (.str []), .pv (.lit (.bool false)), .pv (.str []), .pv (.lit (.bool false)), .pv (.lit (.int .i64 0)), .pv (.lit (.bool false))] := by kernel_rfl
theorem Tryz.bytes192 : bytesT prog 192 = some 424 := by kernel_rfl
theorem Tryz.vt200 : vt prog 200 = some (some 3) := by kernel_rfl
theorem Tryz.vfield200x0 : vfield prog 200 0 = some (3, 0, 1) := by kernel_rfl
theorem Tryz.vfield200x1 : vfield prog 200 1 = some (3, 1, 1) := by kernel_rfl
theorem Tryz.vfield200x2 : vfield prog 200 2 = some (3, 2, 1) := by kernel_rfl
theorem Tryz.vplaces200 : vplaces prog 200 = some fun j => ([(0, 1), (1, 1), (2, 1)] : List (Nat × Nat))[j]? := by kernel_rfl
theorem Tryz.vzero200 : vzero prog 200 = some [.pv (.lit (.int .i64 0)), .pv (.lit (.int .i64 0)), .pv (.lit (.int .i64 0))] := by kernel_rfl
theorem Tryz.bytes200 : bytesT prog 200 = some 24 := by kernel_rfl
theorem Tryz.vt207 : vt prog 207 = some (some 2) := by kernel_rfl
theorem Tryz.vfield207x0 : vfield prog 207 0 = some (3, 0, 1) := by kernel_rfl
theorem Tryz.vfield207x1 : vfield prog 207 1 = some (3, 1, 1) := by kernel_rfl
theorem Tryz.vplaces207 : vplaces prog 207 = some fun j => ([(0, 1), (1, 1)] : List (Nat × Nat))[j]? := by kernel_rfl
theorem Tryz.vzero207 : vzero prog 207 = some [.pv (.lit (.int .i64 0)), .pv (.lit (.int .i64 0))] := by kernel_rfl
theorem Tryz.leaves207 : leaves prog 8 207 = some [(0, 1), (1, 1)] := by kernel_rfl
theorem Tryz.eqg207 : prog.eqGuardType prog.depth 207 = false := by kernel_rfl
theorem Tryz.vt219 : vt prog 219 = some (some 5) := by kernel_rfl
theorem Tryz.vfield219x0 : vfield prog 219 0 = some (3, 0, 1) := by kernel_rfl
theorem Tryz.vfield219x1 : vfield prog 219 1 = some (3, 1, 1) := by kernel_rfl
theorem Tryz.vfield219x2 : vfield prog 219 2 = some (66, 2, 1) := by kernel_rfl
theorem Tryz.vfield219x3 : vfield prog 219 3 = some (70, 3, 1) := by kernel_rfl
theorem Tryz.vfield219x4 : vfield prog 219 4 = some (69, 4, 1) := by kernel_rfl
theorem Tryz.vplaces219 : vplaces prog 219 = some fun j => ([(0, 1), (1, 1), (2, 1), (3, 1), (4, 1)] : List (Nat × Nat))[j]? := by kernel_rfl
theorem Tryz.vzero219 : vzero prog 219 = some [.pv (.lit (.int .i64 0)), .pv (.lit (.int .i64 0)), .pv (.slc []), .pv (.slc []), .pv (.slc [])] := by kernel_rfl
theorem Tryz.vt226 : vt prog 226 = some (some 6) := by kernel_rfl
theorem Tryz.vfield226x0 : vfield prog 226 0 = some (3, 0, 1) := by kernel_rfl
theorem Tryz.vfield226x1 : vfield prog 226 1 = some (3, 1, 1) := by kernel_rfl
theorem Tryz.vfield226x2 : vfield prog 226 2 = some (3, 2, 1) := by kernel_rfl
theorem Tryz.vfield226x3 : vfield prog 226 3 = some (3, 3, 1) := by kernel_rfl
theorem Tryz.vfield226x4 : vfield prog 226 4 = some (46, 4, 1) := by kernel_rfl
theorem Tryz.vfield226x5 : vfield prog 226 5 = some (46, 5, 1) := by kernel_rfl
theorem Tryz.vplaces226 : vplaces prog 226 = some fun j => ([(0, 1), (1, 1), (2, 1), (3, 1), (4, 1), (5, 1)] : List (Nat × Nat))[j]? := by kernel_rfl
theorem Tryz.vzero226 : vzero prog 226 = some [.pv (.lit (.int .i64 0)), .pv (.lit (.int .i64 0)), .pv (.lit (.int .i64 0)), .pv (.lit (.int .i64 0)), .pv (.slc []), .pv (.slc [])] := by kernel_rfl
theorem Tryz.bytes226 : bytesT prog 226 = some 80 := by kernel_rfl
theorem Tryz.vt230 : vt prog 230 = some (some 4) := by kernel_rfl
theorem Tryz.vfield230x0 : vfield prog 230 0 = some (3, 0, 1) := by kernel_rfl
theorem Tryz.vfield230x1 : vfield prog 230 1 = some (207, 1, 2) := by kernel_rfl
theorem Tryz.vfield230x2 : vfield prog 230 2 = some (3, 3, 1) := by kernel_rfl
theorem Tryz.vplaces230 : vplaces prog 230 = some fun j => ([(0, 1), (1, 2), (3, 1)] : List (Nat × Nat))[j]? := by kernel_rfl
theorem Tryz.vzero230 : vzero prog 230 = some [.pv (.lit (.int .i64 0)), .pv (.lit (.int .i64 0)), .pv (.lit (.int .i64 0)), .pv (.lit (.int .i64 0))] := by kernel_rfl
theorem Tryz.bytes230 : bytesT prog 230 = some 32 := by kernel_rfl
theorem Tryz.leaves230 : leaves prog 8 230 = some [(0, 1), (1, 1), (2, 1), (3, 1)] := by kernel_rfl
theorem Tryz.eqg230 : prog.eqGuardType prog.depth 230 = false := by kernel_rfl
theorem Tryz.vzero258 : vzero prog 258 = some [.pv (.lit (.int .i64 0)), .pv (.lit (.int .i64 0)), .pv (.lit (.int .i64 0)), .pv (.lit (.int .i64 0)), .pv (.lit (.int .i64 0)), .pv (.lit (.int .u8 0))] := by kernel_rfl
theorem Tryz.bytes258 : bytesT prog 258 = some 48 := by kernel_rfl
theorem Tryz.vt280 : vt prog 280 = some (some 3) := by kernel_rfl
theorem Tryz.vfield280x0 : vfield prog 280 0 = some (3, 0, 1) := by kernel_rfl
theorem Tryz.vfield280x1 : vfield prog 280 1 = some (3, 1, 1) := by kernel_rfl
theorem Tryz.vfield280x2 : vfield prog 280 2 = some (3, 2, 1) := by kernel_rfl
theorem Tryz.vzero280 : vzero prog 280 = some [.pv (.lit (.int .i64 0)), .pv (.lit (.int .i64 0)), .pv (.lit (.int .i64 0))] := by kernel_rfl
theorem Tryz.bytes280 : bytesT prog 280 = some 24 := by kernel_rfl
attribute [go_sem] Tryz.vt3 Tryz.vkind3 Tryz.vzero3 Tryz.bytes3 Tryz.vt4 Tryz.vkind4 Tryz.vt5 Tryz.vkind5 Tryz.vzero5 Tryz.bytes5 Tryz.vt9 Tryz.notInt9 Tryz.vkind9 Tryz.vzero9 Tryz.bytes9 Tryz.vt22 Tryz.velem22 Tryz.notInt22 Tryz.vkind22 Tryz.vt23 Tryz.velem23 Tryz.notInt23 Tryz.vkind23 Tryz.vt25 Tryz.vfield25x0 Tryz.vfield25x1 Tryz.vfield25x2 Tryz.vplaces25 Tryz.vzero25 Tryz.vt27 Tryz.vfield27x0 Tryz.vfield27x1 Tryz.vplaces27 Tryz.vzero27 Tryz.leaves27 Tryz.eqg27 Tryz.vt29 Tryz.vfield29x0 Tryz.vfield29x1 Tryz.vfield29x2 Tryz.vfield29x3 Tryz.vplaces29 Tryz.vzero29 Tryz.leaves29 Tryz.eqg29 Tryz.vt31 Tryz.vfield31x0 Tryz.vfield31x1 Tryz.vfield31x2 Tryz.vfield31x3 Tryz.vfield31x4 Tryz.vfield31x5 Tryz.vfield31x6 Tryz.vfield31x7 Tryz.vplaces31 Tryz.vzero31 Tryz.bytes31 Tryz.leaves31 Tryz.eqg31 Tryz.vt41 Tryz.vt46 Tryz.velem46 Tryz.notInt46 Tryz.vkind46 Tryz.vt56 Tryz.velem56 Tryz.notInt56 Tryz.vkind56 Tryz.vkind59 Tryz.vt60 Tryz.velem60 Tryz.notInt60 Tryz.vkind60 Tryz.vt62 Tryz.vfield62x0 Tryz.vfield62x1 Tryz.vfield62x2 Tryz.vplaces62 Tryz.vzero62 Tryz.vt63 Tryz.velem63 Tryz.notInt63 Tryz.vkind63 Tryz.vt65 Tryz.vfield65x0 Tryz.vfield65x1 Tryz.vplaces65 Tryz.vzero65 Tryz.vt66 Tryz.velem66 Tryz.notInt66 Tryz.vkind66 Tryz.vt67 Tryz.velem67 Tryz.notInt67 Tryz.vkind67 Tryz.vt69 Tryz.vfield69x0 Tryz.vplaces69 Tryz.vzero69 Tryz.vt70 Tryz.velem70 Tryz.notInt70 Tryz.vkind70 Tryz.vt72 Tryz.vfield72x0 Tryz.vfield72x1 Tryz.vfield72x2 Tryz.vfield72x3 Tryz.vfield72x4 Tryz.vfield72x5 Tryz.vfield72x6 Tryz.vfield72x7 Tryz.vplaces72 Tryz.vzero72 Tryz.vfield80x0 Tryz.vfield80x1 Tryz.vplaces80 Tryz.vzero80 Tryz.vt83 Tryz.vt98 Tryz.velem98 Tryz.notInt98 Tryz.vkind98 Tryz.vt100 Tryz.vfield100x0 Tryz.vfield100x1 Tryz.vfield100x2 Tryz.vfield100x3 Tryz.vfield100x4 Tryz.vplaces100 Tryz.vzero100 Tryz.vt102 Tryz.vfield102x0 Tryz.vfield102x1 Tryz.vplaces102 Tryz.vzero102 Tryz.vt106 Tryz.vt108 Tryz.vfield108x0 Tryz.vfield108x1 Tryz.vfield108x2 Tryz.vfield108x3 Tryz.vfield108x4 Tryz.vfield108x5 Tryz.vfield108x6 Tryz.vplaces108 Tryz.vzero108 Tryz.vt109 Tryz.velem109 Tryz.vplaces109 Tryz.vzero109 Tryz.vt118 Tryz.vfield120x0 Tryz.vfield120x1 Tryz.vzero120 Tryz.vt125 Tryz.vkind125 Tryz.vkind127 Tryz.vfield130x0 Tryz.vfield130x1 Tryz.vfield130x2 Tryz.vplaces130 Tryz.vzero130 Tryz.vkind131 Tryz.vfield134x0 Tryz.vfield134x1 Tryz.vfield134x2 Tryz.vplaces134 Tryz.vzero134 Tryz.velem137 Tryz.notInt137 Tryz.vt138 Tryz.velem138 Tryz.notInt138 Tryz.velem141 Tryz.notInt141 Tryz.vkind141 Tryz.vt146 Tryz.velem146 Tryz.vzero146 Tryz.vfield154x0 Tryz.vfield154x1 Tryz.vfield154x2 Tryz.vfield154x3 Tryz.vplaces154 Tryz.vzero154 Tryz.vt156 Tryz.vfield156x0 Tryz.vfield156x1 Tryz.vfield156x2 Tryz.vfield156x3 Tryz.vfield156x4 Tryz.vplaces156 Tryz.vzero156 Tryz.bytes156 Tryz.vt159 Tryz.vfield159x0 Tryz.vfield159x1 Tryz.vfield159x2 Tryz.vfield159x3 Tryz.vplaces159 Tryz.vzero159 Tryz.leaves159 Tryz.eqg159 Tryz.vt161 Tryz.vfield161x0 Tryz.vfield161x1 Tryz.vfield161x2 Tryz.vfield161x5 Tryz.vplaces161 Tryz.vzero161 Tryz.bytes161 Tryz.vplaces185 Tryz.vzero185 Tryz.bytes185 Tryz.velem186 Tryz.vt188 Tryz.vfield188x0 Tryz.vfield188x1 Tryz.vfield188x2 Tryz.vplaces188 Tryz.vzero188 Tryz.vt192 Tryz.vfield192x0 Tryz.vfield192x1 Tryz.vfield192x2 Tryz.vfield192x3 Tryz.vplaces192 Tryz.vzero192 Tryz.bytes192 Tryz.vt200 Tryz.vfield200x0 Tryz.vfield200x1 Tryz.vfield200x2 Tryz.vplaces200 Tryz.vzero200 Tryz.bytes200 Tryz.vt207 Tryz.vfield207x0 Tryz.vfield207x1 Tryz.vplaces207 Tryz.vzero207 Tryz.leaves207 Tryz.eqg207 Tryz.vt219 Tryz.vfield219x0 Tryz.vfield219x1 Tryz.vfield219x2 Tryz.vfield219x3 Tryz.vfield219x4 Tryz.vplaces219 Tryz.vzero219 Tryz.vt226 Tryz.vfield226x0 Tryz.vfield226x1 Tryz.vfield226x2 Tryz.vfield226x3 Tryz.vfield226x4 Tryz.vfield226x5 Tryz.vplaces226 Tryz.vzero226 Tryz.bytes226 Tryz.vt230 Tryz.vfield230x0 Tryz.vfield230x1 Tryz.vfield230x2 Tryz.vplaces230 Tryz.vzero230 Tryz.bytes230 Tryz.leaves230 Tryz.eqg230 Tryz.vzero258 Tryz.bytes258 Tryz.vt280 Tryz.vfield280x0 Tryz.vfield280x1 Tryz.vfield280x2 Tryz.vzero280 Tryz.bytes280
end Go.Proofs
namespace Go.Proofs.YtipnkkooklhfgaaGreat
open Go.V Go
open Tryz (prog)
theorem pe : isPtr prog 118 = true := by kernel_rfl
theorem cto : toU prog 118 165 = true := by kernel_rfl
theorem cfr : frU prog 165 118 120 = true := by kernel_rfl
theorem cob : prog.cellsOf 120 = 2 := by kernel_rfl
theorem uok : ustrOk prog 145 5 = true := by kernel_rfl
theorem noEscape_v (x : DV) (hp : Heap) : VCalls prog 107 [x] hp fun r h' => r = x ∧ h' = hp :=
  vcalls_same Tryz.func107 (by kernel_rfl) (by kernel_rfl) rfl rfl
def nilP : DV := .pv (.lit (.pointer none))
def bld (a b : DV) : Blk := ⟨120, true, [a, b]⟩
def bE : DV := .pv (.lit (.slice none 0 0))
theorem check0 : VCalls prog 98 [.ptr 0 0] [bld nilP bE] (fun r h' => r = .tup [] ∧ h' = [bld (.ptr 0 0) bE]) := by
  refine vcalls_keep (fn := Tryz.f98) Tryz.func98 rfl (by kernel_rfl) (by simp [Tryz.f98]) ?_
  simp (config := { maxSteps := 2000000 }) (implicitDefEqProofs := false) (disch := first | omega | assumption | (simp only []; done) | fail) only [go_sem, ↓reduceIte, reduceCtorEq, Nat.reduceAdd, Nat.reduceBEq, Int.reduceAdd, Int.reduceBEq, Tryz.f98, bld, nilP, bE, ptrEq_eql pe, ptrEq_neq pe, convPtr_to cto, convPtr_from cfr, ofConst_ptr]
  refine (noEscape_v _ _).mono ?_
  rintro r h' ⟨rfl, rfl⟩
  simp (config := { maxSteps := 2000000 }) (implicitDefEqProofs := false) (disch := first | omega | assumption | (simp only []; done) | fail) only [go_sem, ↓reduceIte, reduceCtorEq, Nat.reduceAdd, Nat.reduceBEq, Int.reduceAdd, Int.reduceBEq, ptrEq_eql pe, ptrEq_neq pe, convPtr_to cto, convPtr_from cfr, cob, results_nil]
def bufB (l : List UInt8) : Blk := ⟨5, true, cells encU l⟩
theorem check2 (l : List UInt8) : VCalls prog 98 [.ptr 0 0] [bld (.ptr 0 0) (.own 1 1 0 l.length), bufB l] (fun r h' => r = .tup [] ∧ h' = [bld (.ptr 0 0) (.own 1 1 0 l.length), bufB l]) := by
  refine vcalls_keep (fn := Tryz.f98) Tryz.func98 rfl (by kernel_rfl) (by simp [Tryz.f98]) ?_
  simp (config := { maxSteps := 2000000 }) (implicitDefEqProofs := false) (disch := first | omega | assumption | (simp only []; done) | fail) only [go_sem, ↓reduceIte, reduceCtorEq, Nat.reduceAdd, Nat.reduceLT, Nat.reduceBEq, Int.reduceLT, Int.reduceAdd, Int.reduceBEq, Tryz.f98, bld, bufB, ptrEq_eql pe, ptrEq_neq pe, convPtr_to cto, convPtr_from cfr, ofConst_ptr, results_nil]
theorem ws0 (s : List UInt8) (hs : s.length ≤ 1100000000) : VCalls prog 75 [.ptr 0 0, .pv (.str s)] [bld nilP bE] (fun r h' => r = .tup [.int .i64 s.length, .pv (.lit .nilIface)] ∧ h' = [bld (.ptr 0 0) (.own 1 1 0 s.length), bufB s]) := by
  refine vcalls_keep (fn := Tryz.f75) Tryz.func75 rfl (by kernel_rfl) (by simp [Tryz.f75]) ?_
  simp (config := { maxSteps := 2000000 }) (implicitDefEqProofs := false) (disch := first | omega | assumption | (simp only []; done) | fail) only [go_sem, Nat.reduceAdd, Nat.reduceBEq, Int.reduceAdd, Int.reduceBEq, Tryz.f75, bld, nilP, bE, ptrEq_eql pe, ptrEq_neq pe, convPtr_to cto, convPtr_from cfr, ofConst_nilIface]
  refine check0.mono ?_
  rintro r h' ⟨rfl, rfl⟩
  have hs2 : s.length ≤ 140737488355328 := by omega
  simp (config := { maxSteps := 2000000 }) (implicitDefEqProofs := false) (disch := first | omega | assumption | (simp only []; done) | fail) only [go_sem, ↓reduceIte, reduceCtorEq, Nat.reduceAdd, Nat.reduceLT, Nat.reduceBEq, Int.reduceLT, Int.reduceAdd, Int.reduceBEq, bld, bE, ptrEq_eql pe, ptrEq_neq pe, convPtr_to cto, convPtr_from cfr, ofConst_nilIface, hs2, bufB, cellsU]
theorem wb_v (l : List UInt8) (b : UInt8) (hl : l.length ≤ 1100000000) : VCalls prog 96 [.ptr 0 0, .int .u8 b.toNat] [bld (.ptr 0 0) (.own 1 1 0 l.length), bufB l] (fun r h' => r = .pv (.lit .nilIface) ∧ h' = [bld (.ptr 0 0) (.own 3 1 0 (l ++ [b]).length), ⟨5, false, []⟩, bufB [b], bufB (l ++ [b])]) := by
  refine vcalls_keep (fn := Tryz.f96) Tryz.func96 rfl (by kernel_rfl) (by simp [Tryz.f96]) ?_
  simp (config := { maxSteps := 2000000 }) (implicitDefEqProofs := false) (disch := first | omega | assumption | (simp only []; done) | fail) only [go_sem, Nat.reduceAdd, Nat.reduceBEq, Int.reduceAdd, Int.reduceBEq, Tryz.f96, bld, bufB, ptrEq_eql pe, ptrEq_neq pe, convPtr_to cto, convPtr_from cfr, ofConst_nilIface]
  refine (check2 l).mono ?_
  rintro r h' ⟨rfl, rfl⟩
  have hs2 : l.length + 1 ≤ 140737488355328 := by omega
  simp (config := { maxSteps := 2000000 }) (implicitDefEqProofs := false) (disch := first | omega | assumption | (simp only []; done) | fail) only [go_sem, V.splice, V.mk, ↓reduceIte, reduceCtorEq, Nat.reduceAdd, Nat.reduceLT, Nat.reduceLeDiff, Nat.reduceBEq, Int.reduceLT, Int.reduceAdd, Int.reduceBEq, bld, bufB, ptrEq_eql pe, ptrEq_neq pe, convPtr_to cto, convPtr_from cfr, ofConst_nilIface, hs2]
  have e1 : (cells encU l).take l.length = cells encU l := by rw [List.take_of_length_le]; rw [cellsU_len]; exact Nat.le_refl _
  rw [e1, cells_app, List.length_append]
  rfl
theorem str_v (l : List UInt8) (hl : l.length ≤ 1100000000) (h0 : 0 < l.length) : VCalls prog 76 [.ptr 0 0] [bld (.ptr 0 0) (.own 1 1 0 l.length), bufB l] (fun r h' => r = .pv (.str l) ∧ h' = [bld (.ptr 0 0) (.own 1 1 0 l.length), ⟨5, false, []⟩]) := by
  refine vcalls_keep (fn := Tryz.f76) Tryz.func76 rfl (by kernel_rfl) (by simp [Tryz.f76]) ?_
  simp (config := { maxSteps := 2000000 }) (implicitDefEqProofs := false) (disch := first | omega | assumption | (simp only []; done) | fail) only [go_sem, Nat.reduceAdd, Int.reduceAdd, Tryz.f76, bld, bufB, ptrEq_eql pe, ptrEq_neq pe, convPtr_to cto, convPtr_from cfr]
  refine vspine (id := 1) [0, 1, 2, 3, 5, 6, 7, 8, 9] [⟨[], [], 4, [0, 1, 2, 5, 6, 7, 8, 9], []⟩, ⟨[], [], 10, [0, 1, 2, 3, 5, 6, 7, 8], []⟩, ⟨[], [], 11, [], []⟩] (by kernel_rfl) (by kernel_rfl) ?_
  have hu := ustr_eq (P := prog) (hp := [bld (.ptr 0 0) (.own 1 1 0 l.length), bufB l]) (k := 1) (n := l.length) uok rfl rfl h0 (by omega)
  simp only [bld, bufB] at hu
  simp (config := { maxSteps := 2000000 }) (implicitDefEqProofs := false) (disch := first | omega | assumption | (simp only []; done) | fail) only [go_sem, ↓reduceIte, reduceCtorEq, Nat.reduceLT, Nat.reduceBEq, Int.reduceLT, Int.reduceBEq, ptrEq_eql pe, ptrEq_neq pe, convPtr_to cto, convPtr_from cfr, sdata_own h0, hu]
theorem str0_v : VCalls prog 76 [.ptr 0 0] [bld nilP bE] (fun r h' => r = .pv (.str []) ∧ h' = [bld nilP bE]) := by
  refine vcalls_keep (fn := Tryz.f76) Tryz.func76 rfl (by kernel_rfl) (by simp [Tryz.f76]) ?_
  simp (config := { maxSteps := 2000000 }) (implicitDefEqProofs := false) (disch := first | omega | assumption | (simp only []; done) | fail) only [go_sem, Tryz.f76, bld, nilP, bE, ptrEq_eql pe, ptrEq_neq pe, convPtr_to cto, convPtr_from cfr]
  refine vspine (id := 1) [0, 1, 2, 3, 5, 6, 7, 8, 9] [⟨[], [], 4, [0, 1, 2, 5, 6, 7, 8, 9], []⟩, ⟨[], [], 10, [0, 1, 2, 3, 5, 6, 7, 8], []⟩, ⟨[], [], 11, [], []⟩] (by kernel_rfl) (by kernel_rfl) ?_
  simp (config := { maxSteps := 2000000 }) (implicitDefEqProofs := false) (disch := first | omega | assumption | (simp only []; done) | fail) only [go_sem, ↓reduceIte, reduceCtorEq, Nat.reduceLT, Nat.reduceBEq, Int.reduceLT, Int.reduceBEq, ptrEq_eql pe, ptrEq_neq pe, convPtr_to cto, convPtr_from cfr]
def byteX (n : Int) (i : Nat) : Int := IntKind.u8.wrap ((IntKind.u64.wrap n).fdiv (2 ^ min (8 * (i : Int)).toNat 64))
def byteI (n : Int) (i : Nat) : UInt8 := UInt8.ofNat (byteX n i).toNat
theorem wrap_u8_eq (x : Int) : IntKind.u8.wrap x = x % 256 := by
  simp [IntKind.wrap, IntKind.signed, IntKind.bits]
theorem byteI_eq (n : Int) (i : Nat) : byteX n i = ((byteI n i).toNat : Int) := by
  unfold byteI byteX
  rw [wrap_u8_eq]
  generalize (IntKind.u64.wrap n).fdiv (2 ^ min (8 * (i : Int)).toNat 64) = y
  simp only [UInt8.toNat_ofNat']
  omega
def putL (s : List UInt8) (n : Int) (k : Nat) : List UInt8 := s ++ (List.range k).map (byteI n)
theorem putL_len (s : List UInt8) (n : Int) (k : Nat) : (putL s n k).length = s.length + k := by simp [putL]
theorem putL_succ (s : List UInt8) (n : Int) (k : Nat) : putL s n (k + 1) = putL s n k ++ [byteI n k] := by simp [putL, List.range_succ]
theorem put_v (s : List UInt8) (hs : s.length ≤ 1000000000) (n : Int) (k : Nat) (h1 : 1 ≤ k) (h8 : k ≤ 8) : VCalls prog 73 [.pv (.str s), .int .i64 n, .int .i64 k] [] (Ret (.pv (.str (putL s n k)))) := by
  refine dd Tryz.func73 ?_
  simp (config := { maxSteps := 2000000 }) (implicitDefEqProofs := false) (disch := first | omega | assumption | (simp only []; done) | fail) only [go_sem, ↓reduceIte, Nat.reduceAdd, Nat.reduceBEq, Int.reduceAdd, Int.reduceBEq, Tryz.f73]
  refine (ws0 s (by omega)).mono ?_
  rintro r h' ⟨rfl, rfl⟩
  simp (config := { maxSteps := 2000000 }) (implicitDefEqProofs := false) (disch := first | omega | assumption | (simp only []; done) | fail) only [go_sem, Nat.reduceBEq, Int.reduceBEq, bld]
  refine vloopW (fun i : {i : Nat // i ≤ k} => ⟨31, 0, [(19, .int .i64 i.1), (18, .int .i64 k), (7, .ptr 0 0), (1, .int .i64 n)], [bld (.ptr 0 0) (.own 1 1 0 (putL s n i.1).length), bufB (putL s n i.1)]⟩) (fun i => k - i.1) ⟨0, by omega⟩ (.inl (by simpa only [putL, List.range_zero, List.map_nil, List.append_nil] using (by refine ⟨rfl, rfl, by simp, ?_, ?_, .inr ⟨?_, ?_⟩⟩ <;> (repeat' apply And.intro) <;> first | rfl | trivial | (intro _; first | rfl | apply cells_refs)))) ?_
  intro i
  obtain ⟨i, hi⟩ := i
  dsimp only
  simp (config := { maxSteps := 2000000 }) (implicitDefEqProofs := false) (disch := first | omega | assumption | (simp only []; done) | fail) only [go_sem, Nat.reduceBEq, Int.reduceBEq, bld, bufB]
  refine vbr_split (fun hc => ?_) (fun hc => ?_) <;> simp only [decide_eq_true_eq, decide_eq_false_iff_not, Bool.or_eq_true, Bool.and_eq_true, Bool.or_eq_false_iff, Bool.and_eq_false_imp, Bool.not_eq_true', Bool.not_eq_false', beq_iff_eq, beq_eq_false_iff_ne, bne_iff_ne, bne_eq_false_iff_eq, ne_eq] at hc
  · simp (config := { maxSteps := 2000000 }) (implicitDefEqProofs := false) (disch := first | omega | assumption | (simp only []; done) | fail) only [go_sem, Nat.reduceBEq, Int.reduceBEq]
    have hw := wb_v (putL s n i) (byteI n i) (by rw [putL_len]; omega)
    rw [← byteI_eq] at hw
    refine hw.mono ?_
    rintro r h' ⟨rfl, rfl⟩
    simp (config := { maxSteps := 2000000 }) (implicitDefEqProofs := false) (disch := first | omega | assumption | (simp only []; done) | fail) only [go_sem, Nat.reduceBEq, Int.reduceBEq, bld, bufB]
    refine ⟨⟨i + 1, by omega⟩, by show k - (i + 1) < k - i; omega, ?_⟩
    rw [putL_succ]
    refine gc_of (keep := [0, 3]) rfl rfl rfl (by decide) ⟨⟨_, rfl, rfl, rfl, .inr ⟨rfl, rfl⟩⟩, ⟨_, rfl, rfl, rfl, .inl ⟨?_, rfl⟩⟩, trivial⟩ ?_
    · show DV.nums.go _ (cells encU _) = true
      exact cells_nums _ _ _
    · refine ⟨⟨rfl, rfl⟩, ⟨rfl, rfl⟩, ⟨rfl, rfl⟩, ⟨rfl, rfl⟩, trivial⟩
  · simp (config := { maxSteps := 2000000 }) (implicitDefEqProofs := false) (disch := first | omega | assumption | (simp only []; done) | fail) only [go_sem, ↓reduceIte, Nat.reduceLT, Nat.reduceBEq, Int.reduceLT, Int.reduceBEq]
    have hik : i = k := by omega
    subst hik
    refine (str_v (putL s n i) (by rw [putL_len]; omega) (by rw [putL_len]; omega)).mono ?_
    rintro r h' ⟨rfl, rfl⟩
    simp (config := { maxSteps := 2000000 }) (implicitDefEqProofs := false) (disch := first | omega | assumption | (simp only []; done) | fail) only [go_sem]
theorem btsF : bts prog 22 9 = true := by kernel_rfl
theorem rput_v (s : List UInt8) (hs : s.length ≤ 1000000000) (n : Int) (k : Nat) (h1 : 1 ≤ k) (h8 : k ≤ 8) : VCalls prog 70 [.pv (.str s), .int .i64 n, .int .i64 k] [] (Ret (.pv (.str (putL s n k)))) := by
  refine dd Tryz.func70 ?_
  simp (config := { maxSteps := 2000000 }) (implicitDefEqProofs := false) (disch := first | omega | assumption | (simp only []; done) | fail) only [go_sem, Nat.reduceAdd, Nat.reduceBEq, Int.reduceAdd, Int.reduceBEq, Tryz.f70]
  refine vloopW (fun i : {i : Nat // i ≤ k} => ⟨32, 0, [(7, .int .i64 i.1), (2, .int .i64 k), (0, .pv (.str (putL s n i.1))), (1, .int .i64 n)], []⟩) (fun i => k - i.1) ⟨0, by omega⟩ (.inl (by simpa only [putL, List.range_zero, List.map_nil, List.append_nil] using (by refine ⟨rfl, rfl, by simp, ?_, ?_, .inr ⟨?_, ?_⟩⟩ <;> (repeat' apply And.intro) <;> first | rfl | trivial | (intro _; first | rfl | apply cells_refs)))) ?_
  intro i
  obtain ⟨i, hi⟩ := i
  dsimp only
  simp (config := { maxSteps := 2000000 }) (implicitDefEqProofs := false) (disch := first | omega | assumption | (simp only []; done) | fail) only [go_sem, Nat.reduceBEq, Int.reduceBEq]
  refine vbr_split (fun hc => ?_) (fun hc => ?_) <;> simp only [decide_eq_true_eq, decide_eq_false_iff_not, Bool.or_eq_true, Bool.and_eq_true, Bool.or_eq_false_iff, Bool.and_eq_false_imp, Bool.not_eq_true', Bool.not_eq_false', beq_iff_eq, beq_eq_false_iff_ne, bne_iff_ne, bne_eq_false_iff_eq, ne_eq] at hc
  · have hw8 : IntKind.u64.wrap (8 * (i : Int)) = 8 * (i : Int) := by simp [IntKind.wrap, IntKind.signed, IntKind.bits]; omega
    have hl : (putL s n i).length + 1 ≤ 9223372036854775807 := by rw [putL_len]; omega
    simp (config := { maxSteps := 2000000 }) (implicitDefEqProofs := false) (disch := first | omega | assumption | (simp only []; done) | fail) only [go_sem, V.splice, V.mk, ↓reduceIte, Nat.reduceLT, Nat.reduceLeDiff, Nat.reduceBEq, Int.reduceLT, Int.reduceBEq, hw8, conv_bts btsF, vcso_one]
    refine ⟨⟨i + 1, by omega⟩, by show k - (i + 1) < k - i; omega, ?_⟩
    rw [putL_succ]
    refine gc_of (keep := []) rfl rfl rfl (by decide) trivial ?_
    refine ⟨⟨rfl, rfl⟩, ⟨rfl, rfl⟩, ⟨rfl, rfl⟩, ⟨rfl, rfl⟩, trivial⟩
  · simp (config := { maxSteps := 2000000 }) (implicitDefEqProofs := false) (disch := first | omega | assumption | (simp only []; done) | fail) only [go_sem, ↓reduceIte, Nat.reduceLT, Nat.reduceBEq, Int.reduceLT, Int.reduceBEq]
    have hik : i = k := by omega
    rw [hik]
def accX (s : List UInt8) (a : Nat) : Nat → Int
  | 0 => 0
  | i + 1 => bits BinOp.or .u64 (accX s a i) (IntKind.u64.wrap (IntKind.u64.wrap (s.getD (a + i) 0).toNat * 2 ^ min (8 * (i : Int)).toNat 64))
theorem str_get (s : List UInt8) (a i : Nat) (h : a + i < s.length) : s[((a : Int) + (i : Int)).toNat]? = some (s.getD (a + i) 0) := by
  have e : ((a : Int) + (i : Int)).toNat = a + i := by omega
  rw [e, List.getD_eq_getElem?_getD, List.getElem?_eq_getElem h]; rfl
theorem get_short (s : List UInt8) (a k : Int) (h : 1 ≤ k ∧ k ≤ 8) (h0 : 0 ≤ a) (hh : ¬ a + k ≤ s.length) : VCalls prog 57 [.pv (.str s), .int .i64 a, .int .i64 k] [] (Ret (.tup [.int .i64 0, .int .i64 5])) := by
  refine dd Tryz.func57 ?_
  have h1 : ¬ k < 1 := by omega
  have h2 : ¬ 8 < k := by omega
  have h3 : ¬ a < 0 := by omega
  by_cases h4 : (s.length : Int) < a
  · simp (config := { maxSteps := 2000000 }) (implicitDefEqProofs := false) (disch := first | omega | assumption | (simp only []; done) | fail) only [go_sem, Nat.reduceAdd, Nat.reduceBEq, Int.reduceAdd, Int.reduceBEq, Tryz.f57, h1, h2, h3, h4]
  · have h5 : (s.length : Int) - a < k := by omega
    simp (config := { maxSteps := 2000000 }) (implicitDefEqProofs := false) (disch := first | omega | assumption | (simp only []; done) | fail) only [go_sem, Nat.reduceAdd, Nat.reduceBEq, Int.reduceAdd, Int.reduceBEq, Tryz.f57, h1, h2, h3, h4, h5]
theorem get_v (s : List UInt8) (hs : s.length ≤ 1000000000) (a k : Nat) (h : 1 ≤ k ∧ k ≤ 8) (hh : a + k ≤ s.length) : VCalls prog 57 [.pv (.str s), .int .i64 a, .int .i64 k] [] (Ret (.tup [.int .i64 (IntKind.i64.wrap (accX s a k)), .int .i64 0])) := by
  refine dd Tryz.func57 ?_
  have h1 : ¬ (k : Int) < 1 := by omega
  have h2 : ¬ 8 < (k : Int) := by omega
  have h3 : ¬ (a : Int) < 0 := by omega
  have h4 : ¬ (s.length : Int) < a := by omega
  have h5 : ¬ (s.length : Int) - a < k := by omega
  simp (config := { maxSteps := 2000000 }) (implicitDefEqProofs := false) (disch := first | omega | assumption | (simp only []; done) | fail) only [go_sem, Nat.reduceAdd, Nat.reduceBEq, Int.reduceAdd, Int.reduceBEq, Tryz.f57, h1, h2, h3, h4, h5]
  refine vloop (fun i : {i : Nat // i ≤ k} => ⟨52, 0, [(35, .int .i64 i.1), (34, .int .i64 k), (8, .int .u64 (accX s a i.1)), (0, .pv (.str s)), (1, .int .i64 a)], []⟩) (fun i => k - i.1) ⟨0, by omega⟩ (by refine ⟨rfl, rfl, by simp, ?_, ?_, .inl rfl⟩ <;> (repeat' apply And.intro) <;> first | rfl | trivial) ?_
  intro i
  obtain ⟨i, hi⟩ := i
  dsimp only
  simp (config := { maxSteps := 2000000 }) (implicitDefEqProofs := false) (disch := first | omega | assumption | (simp only []; done) | fail) only [go_sem, Nat.reduceBEq, Int.reduceBEq]
  refine vbr_split (fun hc => ?_) (fun hc => ?_) <;> simp only [decide_eq_true_eq, decide_eq_false_iff_not, Bool.or_eq_true, Bool.and_eq_true, Bool.or_eq_false_iff, Bool.and_eq_false_imp, Bool.not_eq_true', Bool.not_eq_false', beq_iff_eq, beq_eq_false_iff_ne, bne_iff_ne, bne_eq_false_iff_eq, ne_eq] at hc
  · have hg : s[((a : Int) + (i : Int)).toNat]? = some (s.getD (a + i) 0) := str_get s a i (by omega)
    have h0 : 0 ≤ (a : Int) + (i : Int) := by omega
    simp (config := { maxSteps := 2000000 }) (implicitDefEqProofs := false) (disch := first | omega | assumption | (simp only []; done) | fail) only [go_sem, Nat.reduceBEq, Int.reduceBEq, hg]
    exact ⟨⟨i + 1, by omega⟩, by show k - (i + 1) < k - i; omega, (by refine ⟨rfl, rfl, by simp, ?_, ?_, .inl rfl⟩ <;> (repeat' apply And.intro) <;> first | rfl | trivial)⟩
  · simp (config := { maxSteps := 2000000 }) (implicitDefEqProofs := false) (disch := first | omega | assumption | (simp only []; done) | fail) only [go_sem, ↓reduceIte, Nat.reduceLT, Nat.reduceBEq, Int.reduceLT, Int.reduceBEq]
    have hik : i = k := by omega
    rw [hik]
theorem rget_v (s : List UInt8) (hs : s.length ≤ 1000000000) (a k : Nat) (h : 1 ≤ k ∧ k ≤ 8) (hh : a + k ≤ s.length) : VCalls prog 60 [.pv (.str s), .int .i64 a, .int .i64 k] [] (Ret (.tup [.int .i64 (IntKind.i64.wrap (accX s a k)), .int .i64 0])) := by
  refine dd Tryz.func60 ?_
  have h1 : ¬ (k : Int) < 1 := by omega
  have h2 : ¬ 8 < (k : Int) := by omega
  have h3 : ¬ (a : Int) < 0 := by omega
  have h4 : ¬ (s.length : Int) < a := by omega
  have h5 : ¬ (s.length : Int) - a < k := by omega
  simp (config := { maxSteps := 2000000 }) (implicitDefEqProofs := false) (disch := first | omega | assumption | (simp only []; done) | fail) only [go_sem, Nat.reduceAdd, Nat.reduceBEq, Int.reduceAdd, Int.reduceBEq, Tryz.f60, h1, h2, h3, h4, h5]
  refine vloop (fun i : {i : Nat // i ≤ k} => ⟨51, 0, [(9, .int .i64 i.1), (2, .int .i64 k), (8, .int .u64 (accX s a i.1)), (0, .pv (.str s)), (1, .int .i64 a)], []⟩) (fun i => k - i.1) ⟨0, by omega⟩ (by refine ⟨rfl, rfl, by simp, ?_, ?_, .inl rfl⟩ <;> (repeat' apply And.intro) <;> first | rfl | trivial) ?_
  intro i
  obtain ⟨i, hi⟩ := i
  dsimp only
  simp (config := { maxSteps := 2000000 }) (implicitDefEqProofs := false) (disch := first | omega | assumption | (simp only []; done) | fail) only [go_sem, Nat.reduceBEq, Int.reduceBEq]
  refine vbr_split (fun hc => ?_) (fun hc => ?_) <;> simp only [decide_eq_true_eq, decide_eq_false_iff_not, Bool.or_eq_true, Bool.and_eq_true, Bool.or_eq_false_iff, Bool.and_eq_false_imp, Bool.not_eq_true', Bool.not_eq_false', beq_iff_eq, beq_eq_false_iff_ne, bne_iff_ne, bne_eq_false_iff_eq, ne_eq] at hc
  · have hg : s[((a : Int) + (i : Int)).toNat]? = some (s.getD (a + i) 0) := str_get s a i (by omega)
    have h0 : 0 ≤ (a : Int) + (i : Int) := by omega
    have hw8 : IntKind.u64.wrap (8 * (i : Int)) = 8 * (i : Int) := by simp [IntKind.wrap, IntKind.signed, IntKind.bits]; omega
    simp (config := { maxSteps := 2000000 }) (implicitDefEqProofs := false) (disch := first | omega | assumption | (simp only []; done) | fail) only [go_sem, Nat.reduceBEq, Int.reduceBEq, hg, hw8]
    exact ⟨⟨i + 1, by omega⟩, by show k - (i + 1) < k - i; omega, (by refine ⟨rfl, rfl, by simp, ?_, ?_, .inl rfl⟩ <;> (repeat' apply And.intro) <;> first | rfl | trivial)⟩
  · simp (config := { maxSteps := 2000000 }) (implicitDefEqProofs := false) (disch := first | omega | assumption | (simp only []; done) | fail) only [go_sem, ↓reduceIte, Nat.reduceLT, Nat.reduceBEq, Int.reduceLT, Int.reduceBEq]
    have hik : i = k := by omega
    rw [hik]
def u64N (n : Int) : Nat := (n % 18446744073709551616).toNat
theorem u64N_lt (n : Int) : u64N n < 2 ^ 64 := by unfold u64N; omega
theorem wrap64 (n : Int) : IntKind.u64.wrap n = (u64N n : Int) := by
  unfold u64N
  simp [IntKind.wrap, IntKind.signed, IntKind.bits]; omega
theorem min_bits (i : Nat) (h : i < 8) : min (8 * (i : Int)).toNat 64 = 8 * i := by
  have e : (8 * (i : Int)).toNat = 8 * i := by omega
  rw [e]; omega
theorem byteI_val (n : Int) (i : Nat) (h : i < 8) : (byteI n i).toNat = u64N n / 2 ^ (8 * i) % 256 := by
  have hx := byteI_eq n i
  unfold byteX at hx
  rw [wrap_u8_eq, wrap64, min_bits i h] at hx
  have e : ((u64N n : Int).fdiv (2 ^ (8 * i))) = ((u64N n / 2 ^ (8 * i) : Nat) : Int) := by
    have e2 : ((2 : Int) ^ (8 * i)) = ((2 ^ (8 * i) : Nat) : Int) := by rw [Int.natCast_pow]; rfl
    rw [e2, Int.fdiv_eq_ediv_of_nonneg _ (Int.natCast_nonneg _)]
    rfl
  rw [e] at hx
  generalize u64N n / 2 ^ (8 * i) = q at hx ⊢
  omega
theorem or_val (x y : Nat) (hx : x < 2 ^ 64) (hy : y < 2 ^ 64) : bits .or .u64 (x : Int) (y : Int) = ((x ||| y : Nat) : Int) := by
  have e : bits .or .u64 (x : Int) (y : Int) = IntKind.u64.wrap ((BitVec.ofInt 64 (x : Int) ||| BitVec.ofInt 64 (y : Int)).toNat : Int) := rfl
  rw [e, BitVec.toNat_or]
  have h1 : (BitVec.ofInt 64 (x : Int)).toNat = x := by simp; omega
  have h2 : (BitVec.ofInt 64 (y : Int)).toNat = y := by simp; omega
  rw [h1, h2, wrap64]
  have h3 : x ||| y < 2 ^ 64 := Nat.or_lt_two_pow hx hy
  unfold u64N; omega
theorem step_val (N i : Nat) : (N % 2 ^ (8 * i)) ||| (N / 2 ^ (8 * i) % 256 * 2 ^ (8 * i)) = N % 2 ^ (8 * (i + 1)) := by
  have h : N % 2 ^ (8 * i) < 2 ^ (8 * i) := Nat.mod_lt _ (Nat.two_pow_pos _)
  rw [Nat.or_comm, Nat.mul_comm, ← Nat.two_pow_add_eq_or_of_lt h]
  have e : 2 ^ (8 * (i + 1)) = 2 ^ (8 * i) * 256 := by rw [Nat.mul_add, Nat.pow_add]
  rw [e, Nat.mod_mul]; omega
theorem putL_get (s t : List UInt8) (n : Int) (k i : Nat) (hi : i < k) : (putL s n k ++ t).getD (s.length + i) 0 = byteI n i := by
  rw [List.getD_eq_getElem?_getD, putL, List.append_assoc, List.getElem?_append_right (by omega), List.getElem?_append_left (by simp; omega)]
  simp [hi]
theorem acc_val (s t : List UInt8) (n : Int) (k : Nat) (hk : k ≤ 8) : ∀ i, i ≤ k → accX (putL s n k ++ t) s.length i = ((u64N n % 2 ^ (8 * i) : Nat) : Int)
  | 0, _ => by simp [accX, Nat.mod_one]
  | i + 1, hi => by
    have ih := acc_val s t n k hk i (by omega)
    have h8 : i < 8 := by omega
    unfold accX
    rw [ih, putL_get s t n k i (by omega), byteI_val n i h8, min_bits i h8]
    have hb : u64N n / 2 ^ (8 * i) % 256 < 256 := Nat.mod_lt _ (by omega)
    have hw : IntKind.u64.wrap ((u64N n / 2 ^ (8 * i) % 256 : Nat) : Int) = ((u64N n / 2 ^ (8 * i) % 256 : Nat) : Int) := by rw [wrap64]; unfold u64N at *; omega
    rw [hw]
    have hp : (2 : Nat) ^ (8 * i) ≤ 2 ^ 56 := Nat.pow_le_pow_right (by omega) (by omega)
    have hlt : u64N n / 2 ^ (8 * i) % 256 * 2 ^ (8 * i) < 2 ^ 64 := by
      have : u64N n / 2 ^ (8 * i) % 256 * 2 ^ (8 * i) ≤ 255 * 2 ^ 56 := Nat.mul_le_mul (by omega) hp
      omega
    have e2 : ((u64N n / 2 ^ (8 * i) % 256 : Nat) : Int) * 2 ^ (8 * i) = ((u64N n / 2 ^ (8 * i) % 256 * 2 ^ (8 * i) : Nat) : Int) := by
      rw [Int.natCast_mul, Int.natCast_pow]; rfl
    rw [e2]
    have hw2 : IntKind.u64.wrap ((u64N n / 2 ^ (8 * i) % 256 * 2 ^ (8 * i) : Nat) : Int) = ((u64N n / 2 ^ (8 * i) % 256 * 2 ^ (8 * i) : Nat) : Int) := by
      generalize u64N n / 2 ^ (8 * i) % 256 * 2 ^ (8 * i) = z at hlt
      rw [wrap64]; unfold u64N; omega
    rw [hw2, or_val _ _ (Nat.lt_of_le_of_lt (Nat.mod_le _ _) (u64N_lt n)) hlt, step_val]
def tc (l : List Int) : List DV := l.map (DV.int .u32)
theorem tc_len (l : List Int) : (tc l).length = l.length := by simp [tc]
theorem tc_get (l : List Int) (i : Nat) (h : i < l.length) : (tc l)[i]? = some (.int .u32 (l.getD i 0)) := by
  rw [tc, List.getElem?_map, List.getD_eq_getElem?_getD, List.getElem?_eq_getElem h]; rfl
theorem tc_set (l : List Int) (i : Nat) (n : Int) : (tc l).set i (.pv (.lit (.int .u32 n))) = tc (l.set i n) := by rw [tc, tc, List.map_set]
theorem tc_nums (p : Nat → Bool) (l : List Int) : DV.nums.go p (tc l) = true := by
  induction l with
  | nil => rfl
  | cons a l ih => simpa [tc, DV.nums.go, DV.nums] using ih
theorem tc_refs (n : Nat) (l : List Int) : DV.refs.go n (tc l) = true := by
  induction l with
  | nil => rfl
  | cons a l ih => simpa [tc, DV.refs.go, DV.refs] using ih
theorem tc_one (l : List Int) : allOne (tc l) = true := by
  induction l with
  | nil => rfl
  | cons a l ih => simpa [tc, allOne, DV.one] using ih
theorem tc_frz (n : Nat) (hp : Heap) (l : List Int) : allSome ((tc l).map (frz1 n hp)) = some (tc l) := by
  have e : tc l = (l.map fun n => PV.lit (.int .u32 n)).map DV.pv := by rw [tc, List.map_map]; rfl
  rw [e]; exact pvs_frz n hp _
def rnd (r : Int) : Int := if bits .and .u32 r 1 = 1 then bits .xor .u32 (r.fdiv 2) 2197175160 else r.fdiv 2
def rndN : Nat → Int → Int
  | 0, r => r
  | n + 1, r => rnd (rndN n r)
def rem16 (i : Nat) : Int := rndN 4 i
def tabN (i : Nat) : List Int := (List.range 16).map fun j => if j < i then rem16 j else 0
theorem tabN_len (i : Nat) : (tabN i).length = 16 := by simp [tabN]
theorem tabN_succ (i : Nat) (h : i < 16) : (tabN i).set i (rem16 i) = tabN (i + 1) := by
  apply List.ext_getElem?
  intro j
  rw [List.getElem?_set]
  by_cases hij : i = j
  · subst hij
    rw [if_pos rfl, if_pos (by rw [tabN_len]; exact h)]
    simp [tabN, h]
  · rw [if_neg hij]
    simp only [tabN, List.getElem?_map]
    by_cases hj : j < 16
    · rw [List.getElem?_range hj]
      simp only [Option.map_some]
      by_cases h1 : j < i
      · rw [if_pos h1, if_pos (by omega)]
      · rw [if_neg h1, if_neg (by omega)]
    · rw [List.getElem?_eq_none (by simp; omega)]
      rfl
theorem remainders_v : VCalls prog 99 [] [] (Ret (.agg (tc (tabN 16)))) := by
  refine dd Tryz.func99 ?_
  simp (config := { maxSteps := 2000000 }) (implicitDefEqProofs := false) (disch := first | omega | assumption | (simp only []; done) | fail) only [go_sem, ↓reduceIte, Tryz.f99]
  refine vloop (fun i : {i : Nat // i ≤ 16} => ⟨25, 0, [(4, .int .i64 i.1), (1, .ptr 1 0), (0, .ptr 0 0)], [⟨146, true, tc (tabN 0)⟩, ⟨146, true, tc (tabN i.1)⟩]⟩) (fun i => 16 - i.1) ⟨0, by omega⟩ (by refine ⟨rfl, rfl, by simp, ?_, ?_, .inl rfl⟩ <;> (repeat' apply And.intro) <;> first | rfl | trivial) ?_
  intro i
  obtain ⟨i, hi⟩ := i
  dsimp only
  simp (config := { maxSteps := 2000000 }) (implicitDefEqProofs := false) (disch := first | omega | assumption | (simp only []; done) | fail) only [go_sem]
  refine vbr_split (fun hc => ?_) (fun hc => ?_) <;> simp only [decide_eq_true_eq, decide_eq_false_iff_not, Bool.or_eq_true, Bool.and_eq_true, Bool.or_eq_false_iff, Bool.and_eq_false_imp, Bool.not_eq_true', Bool.not_eq_false', beq_iff_eq, beq_eq_false_iff_ne, bne_iff_ne, bne_eq_false_iff_eq, ne_eq] at hc
  · have hw : IntKind.u32.wrap (i : Int) = (i : Int) := by simp [IntKind.wrap, IntKind.signed, IntKind.bits]; omega
    simp (config := { maxSteps := 2000000 }) (implicitDefEqProofs := false) (disch := first | omega | assumption | (simp only []; done) | fail) only [go_sem, Nat.reduceBEq, Int.reduceBEq, hw]
    refine vloop (fun j : {j : Nat // j ≤ 4} => ⟨25, 0, [(9, .int .i64 j.1), (2, .int .i64 i), (3, .int .u32 (rndN j.1 i)), (4, .int .i64 i), (1, .ptr 1 0), (0, .ptr 0 0)], [⟨146, true, tc (tabN 0)⟩, ⟨146, true, tc (tabN i)⟩]⟩) (fun j => 4 - j.1) ⟨0, by omega⟩ (by refine ⟨rfl, rfl, by simp, ?_, ?_, .inl rfl⟩ <;> (repeat' apply And.intro) <;> first | rfl | trivial) ?_
    intro j
    obtain ⟨j, hj⟩ := j
    dsimp only
    simp (config := { maxSteps := 2000000 }) (implicitDefEqProofs := false) (disch := first | omega | assumption | (simp only []; done) | fail) only [go_sem]
    refine vbr_split (fun hcj => ?_) (fun hcj => ?_) <;> simp only [decide_eq_true_eq, decide_eq_false_iff_not, Bool.or_eq_true, Bool.and_eq_true, Bool.or_eq_false_iff, Bool.and_eq_false_imp, Bool.not_eq_true', Bool.not_eq_false', beq_iff_eq, beq_eq_false_iff_ne, bne_iff_ne, bne_eq_false_iff_eq, ne_eq] at hcj
    · simp (config := { maxSteps := 2000000 }) (implicitDefEqProofs := false) (disch := first | omega | assumption | (simp only []; done) | fail) only [go_sem, Nat.reduceBEq, Int.reduceBEq]
      refine vbr_split (fun hb => ?_) (fun hb => ?_) <;> simp only [decide_eq_true_eq, decide_eq_false_iff_not, Bool.or_eq_true, Bool.and_eq_true, Bool.or_eq_false_iff, Bool.and_eq_false_imp, Bool.not_eq_true', Bool.not_eq_false', beq_iff_eq, beq_eq_false_iff_ne, bne_iff_ne, bne_eq_false_iff_eq, ne_eq] at hb
      · simp (config := { maxSteps := 2000000 }) (implicitDefEqProofs := false) (disch := first | omega | assumption | (simp only []; done) | fail) only [go_sem, Nat.reduceBEq, Int.reduceToNat, Int.reduceBEq]
        refine ⟨⟨j + 1, by omega⟩, by show 4 - (j + 1) < 4 - j; omega, ?_⟩
        have e : rndN (j + 1) i = bits .xor .u32 ((rndN j i).fdiv 2) 2197175160 := by rw [rndN, rnd, if_pos hb]
        rw [e]
        exact (by refine ⟨rfl, rfl, by simp, ?_, ?_, .inr ⟨?_, ?_⟩⟩ <;> (repeat' apply And.intro) <;> first | rfl | trivial | (intro _; first | rfl | apply cells_refs | apply tc_refs))
      · simp (config := { maxSteps := 2000000 }) (implicitDefEqProofs := false) (disch := first | omega | assumption | (simp only []; done) | fail) only [go_sem, Nat.reduceBEq, Int.reduceToNat, Int.reduceBEq]
        refine ⟨⟨j + 1, by omega⟩, by show 4 - (j + 1) < 4 - j; omega, ?_⟩
        have e : rndN (j + 1) i = (rndN j i).fdiv 2 := by rw [rndN, rnd, if_neg hb]
        rw [e]
        exact (by refine ⟨rfl, rfl, by simp, ?_, ?_, .inr ⟨?_, ?_⟩⟩ <;> (repeat' apply And.intro) <;> first | rfl | trivial | (intro _; first | rfl | apply cells_refs | apply tc_refs))
    · have hj4 : j = 4 := by omega
      subst hj4
      have hl : i < (tc (tabN i)).length := by rw [tc_len, tabN_len]; omega
      have hs : (tc (tabN i)).set i (.pv (.lit (.int .u32 (rndN 4 i)))) = tc (tabN (i + 1)) := by rw [tc_set, ← tabN_succ i (by omega)]; rfl
      simp (config := { maxSteps := 2000000 }) (implicitDefEqProofs := false) (disch := first | omega | assumption | (simp only []; done) | fail) only [go_sem, ↓reduceIte, Nat.reduceBEq, Int.reduceBEq, hl, hs]
      exact ⟨⟨i + 1, by omega⟩, by show 16 - (i + 1) < 16 - i; omega, (by refine ⟨rfl, rfl, by simp, ?_, ?_, .inr ⟨?_, ?_⟩⟩ <;> (repeat' apply And.intro) <;> first | rfl | trivial | (intro _; first | rfl | apply cells_refs | apply tc_refs))⟩
  · have hi16 : i = 16 := by omega
    subst hi16
    have ht : (tc (tabN 16)).take 16 = tc (tabN 16) := List.take_of_length_le (by rw [tc_len, tabN_len]; omega)
    have hd : (tc (tabN 0)).drop 16 = [] := List.drop_of_length_le (by rw [tc_len, tabN_len]; omega)
    simp (config := { maxSteps := 2000000 }) (implicitDefEqProofs := false) (disch := first | omega | assumption | (simp only []; done) | fail) only [go_sem, V.splice, ↓reduceIte, Nat.reduceLT, Nat.reduceBEq, Int.reduceLT, Int.reduceBEq, tc_len, tabN_len, tc_nums, ht, hd, tc_one, tc_frz]
def half (r : Int) : Int := bits .xor .u32 (r.fdiv (2 ^ min 4 32)) ((tabN 16).getD (bits .and .u32 r 15).toNat 0)
theorem and15 (r : Int) : 0 ≤ bits .and .u32 r 15 ∧ bits .and .u32 r 15 < 16 := by
  have h : bits .and .u32 r 15 = ((BitVec.ofInt 32 r &&& 15#32).toNat : Int) := by
    show IntKind.u32.wrap ((BitVec.ofInt 32 r &&& BitVec.ofInt 32 15).toNat) = _
    have hw : ∀ b : BitVec 32, IntKind.u32.wrap (b.toNat : Int) = (b.toNat : Int) := fun b => by
      have := b.isLt
      simp [IntKind.wrap, IntKind.signed, IntKind.bits]; omega
    exact hw _
  rw [h]
  have : (BitVec.ofInt 32 r &&& 15#32).toNat ≤ 15 := by rw [BitVec.toNat_and]; exact Nat.and_le_right
  omega
def byte1 (r : Int) (b : UInt8) : Int := half (half (bits .xor .u32 r (IntKind.u32.wrap b.toNat)))
def sumR (s : List UInt8) : Int := s.foldl byte1 4294967295
def sumX (s : List UInt8) : Int := bits .xor .u32 4294967295 (sumR s)
theorem sumR_succ (s : List UInt8) (i : Nat) (h : i < s.length) : sumR (s.take (i + 1)) = byte1 (sumR (s.take i)) (s.getD i 0) := by
  rw [sumR, List.take_succ_eq_append_getElem h, List.foldl_append]
  rw [List.getD_eq_getElem?_getD, List.getElem?_eq_getElem h]; rfl
theorem sum_v (s : List UInt8) (hs : s.length ≤ 100000000) : VCalls prog 77 [.pv (.str s)] [] (Ret (.int .u32 (sumX s))) := by
  refine dd Tryz.func77 ?_
  simp (config := { maxSteps := 2000000 }) (implicitDefEqProofs := false) (disch := first | omega | assumption | (simp only []; done) | fail) only [go_sem, Tryz.f77]
  refine vc_pure remainders_v rfl ?_
  simp (config := { maxSteps := 2000000 }) (implicitDefEqProofs := false) (disch := first | omega | assumption | (simp only []; done) | fail) only [go_sem, V.splice, ↓reduceIte, Nat.reduceAdd, Nat.reduceBEq, Int.reduceAdd, Int.reduceBEq, tc_len, tabN_len, tc_one]
  refine vloop (fun i : {i : Nat // i ≤ s.length} => ⟨35, 0, [(9, .int .i64 i.1), (8, .int .i64 s.length), (4, .int .u32 (sumR (s.take i.1))), (3, .ptr 0 0), (0, .pv (.str s))], [⟨146, true, tc (tabN 16)⟩]⟩) (fun i => s.length - i.1) ⟨0, by omega⟩ (by refine ⟨rfl, rfl, by simp, ?_, ?_, .inl rfl⟩ <;> (repeat' apply And.intro) <;> first | rfl | trivial) ?_
  intro i
  obtain ⟨i, hi⟩ := i
  dsimp only
  simp (config := { maxSteps := 2000000 }) (implicitDefEqProofs := false) (disch := first | omega | assumption | (simp only []; done) | fail) only [go_sem, Nat.reduceBEq, Int.reduceBEq]
  refine vbr_split (fun hc => ?_) (fun hc => ?_) <;> simp only [decide_eq_true_eq, decide_eq_false_iff_not, Bool.or_eq_true, Bool.and_eq_true, Bool.or_eq_false_iff, Bool.and_eq_false_imp, Bool.not_eq_true', Bool.not_eq_false', beq_iff_eq, beq_eq_false_iff_ne, bne_iff_ne, bne_eq_false_iff_eq, ne_eq] at hc
  · have hlt : i < s.length := by omega
    have hg : s[i]? = some (s.getD i 0) := by rw [List.getD_eq_getElem?_getD, List.getElem?_eq_getElem hlt]; rfl
    have a1 := and15 (bits .xor .u32 (sumR (s.take i)) (IntKind.u32.wrap (s.getD i 0).toNat))
    have a2 := and15 (half (bits .xor .u32 (sumR (s.take i)) (IntKind.u32.wrap (s.getD i 0).toNat)))
    have t1 := tc_get (tabN 16) (bits .and .u32 (bits .xor .u32 (sumR (s.take i)) (IntKind.u32.wrap (s.getD i 0).toNat)) 15).toNat (by rw [tabN_len]; omega)
    have t2 := tc_get (tabN 16) (bits .and .u32 (half (bits .xor .u32 (sumR (s.take i)) (IntKind.u32.wrap (s.getD i 0).toNat))) 15).toNat (by rw [tabN_len]; omega)
    have hh : ∀ r, bits .xor .u32 (r.fdiv (2 ^ min 4 32)) ((tabN 16).getD (bits .and .u32 r 15).toNat 0) = half r := fun _ => rfl
    simp (config := { maxSteps := 2000000 }) (implicitDefEqProofs := false) (disch := first | omega | assumption | (simp only []; done) | fail) only [go_sem, Nat.reduceBEq, Int.reduceToNat, Int.reduceBEq, hg, t1, t2, hh]
    refine ⟨⟨i + 1, hlt⟩, by show s.length - (i + 1) < s.length - i; omega, ?_⟩
    rw [sumR_succ s i hlt]
    exact (by refine ⟨rfl, rfl, by simp, ?_, ?_, .inr ⟨?_, ?_⟩⟩ <;> (repeat' apply And.intro) <;> first | rfl | trivial | (intro _; first | rfl | apply cells_refs | apply tc_refs))
  · simp (config := { maxSteps := 2000000 }) (implicitDefEqProofs := false) (disch := first | omega | assumption | (simp only []; done) | fail) only [go_sem, ↓reduceIte, Nat.reduceLT, Nat.reduceBEq, Int.reduceLT, Int.reduceBEq]
    rw [List.take_of_length_le (by omega)]
    rfl
theorem rnd_b (x : BitVec 32) : rnd (x.toNat : Int) = ((rb x).toNat : Int) := by
  have h1 : bits .and .u32 (x.toNat : Int) 1 = ((x &&& 1#32).toNat : Int) := and32 x 1#32
  have h2 : (x.toNat : Int).fdiv 2 = ((x >>> 1).toNat : Int) := shr32 x 1
  have h3 : (x &&& 1#32).toNat = x.toNat % 2 := by rw [BitVec.toNat_and]; exact Nat.and_one_is_mod _
  have h4 : x.getLsbD 0 = decide (x.toNat % 2 = 1) := by simp [BitVec.getLsbD, Nat.testBit_zero]
  unfold rnd rb
  rw [h1, h2, h3, h4]
  by_cases h : x.toNat % 2 = 1
  · rw [if_pos (by omega), if_pos (by simpa using h)]
    exact xor32 _ polyB
  · rw [if_neg (by omega), if_neg (by simpa using h)]; simp
theorem rndN_b (n : Nat) (x : BitVec 32) : rndN n (x.toNat : Int) = ((rbN n x).toNat : Int) := by
  induction n with
  | zero => rfl
  | succ n ih => rw [rndN, ih, rnd_b]; rfl
theorem half_b (x : BitVec 32) : half (x.toNat : Int) = ((rbN 4 x).toNat : Int) := by
  have h1 : bits .and .u32 (x.toNat : Int) 15 = ((x &&& 15#32).toNat : Int) := and32 x 15#32
  have h15 : (x &&& 15#32).toNat < 16 := by rw [BitVec.toNat_and]; exact Nat.lt_succ_of_le Nat.and_le_right
  have h2 : (tabN 16).getD (x &&& 15#32).toNat 0 = ((rbN 4 (x &&& 15#32)).toNat : Int) := by
    rw [← rndN_b]
    simp only [tabN, List.getD_eq_getElem?_getD, List.getElem?_map, List.getElem?_range h15, Option.map_some, Option.getD_some, rem16]
    rw [if_pos h15]
  have h3 : (x.toNat : Int).fdiv (2 ^ min 4 32) = ((x >>> 4).toNat : Int) := shr32 x 4
  have e1 : x = (x &&& 15#32) ^^^ ((x >>> 4) <<< 4) := by
    apply BitVec.eq_of_getLsbD_eq
    intro i hi
    rw [BitVec.getLsbD_xor, BitVec.getLsbD_and, BitVec.getLsbD_shiftLeft, BitVec.getLsbD_ushiftRight]
    by_cases h : i < 4
    · have h15 : (15#32).getLsbD i = true := by
        rcases i with _ | _ | _ | _ | i <;> first | rfl | omega
      simp [h15, h]
    · have h15 : (15#32).getLsbD i = false := by
        have : (15#32).getLsbD i = (15 : Nat).testBit i := by simp [BitVec.getLsbD]
        rw [this]; apply Nat.testBit_lt_two_pow
        exact Nat.lt_of_lt_of_le (show 15 < 2 ^ 4 by omega) (Nat.pow_le_pow_right (by omega) (by omega))
      rw [h15]; simp [h, hi, show 4 + (i - 4) = i by omega]
  have e2 : rbN 4 x = rbN 4 (x &&& 15#32) ^^^ (x >>> 4) := by
    have hs : rbN 4 ((x >>> 4) <<< 4) = x >>> 4 := shl_low _ _ (fun i hi => by rw [BitVec.getLsbD_ushiftRight]; exact BitVec.getLsbD_of_ge _ _ (by omega)) (by omega)
    conv => lhs; rw [e1]
    rw [rbN_xor, hs]
  unfold half
  rw [h1, h3, Int.toNat_natCast, h2, xor32, e2, BitVec.xor_comm]
theorem byte1_b (x : BitVec 32) (b : UInt8) : byte1 (x.toNat : Int) b = ((cb x b).toNat : Int) := by
  unfold byte1
  rw [b32_nat, xor32, half_b, half_b, ← rbN_add]; rfl
theorem fold_b : ∀ (s : List UInt8) (x : BitVec 32), s.foldl byte1 (x.toNat : Int) = ((s.foldl cb x).toNat : Int)
  | [], _ => rfl
  | b :: s, x => by rw [List.foldl_cons, byte1_b, fold_b s, List.foldl_cons]
theorem sumR_b (s : List UInt8) : sumR s = ((s.foldl cb 4294967295#32).toNat : Int) := fold_b s 4294967295#32
theorem sumX_b (s : List UInt8) : sumX s = ((4294967295#32 ^^^ s.foldl cb 4294967295#32).toNat : Int) := by
  rw [sumX, sumR_b]; exact xor32 4294967295#32 _
theorem sumX_in (s : List UInt8) : 0 ≤ sumX s ∧ sumX s < 4294967296 := by
  rw [sumX_b]
  have := (4294967295#32 ^^^ s.foldl cb 4294967295#32).isLt
  omega
theorem sumX_inj {p a b q : List UInt8} (hl : a.length = b.length) (h4 : a.length ≤ 4) (h : sumX (p ++ a ++ q) = sumX (p ++ b ++ q)) : a = b := by
  rw [sumX_b, sumX_b] at h
  have h1 : (4294967295#32 ^^^ (p ++ a ++ q).foldl cb 4294967295#32) = (4294967295#32 ^^^ (p ++ b ++ q).foldl cb 4294967295#32) := BitVec.eq_of_toNat_eq (by omega)
  have h2 := congrArg (4294967295#32 ^^^ ·) h1
  simp only [← BitVec.xor_assoc, BitVec.xor_self, BitVec.zero_xor] at h2
  exact crc_window hl h4 h2
def rstep (r : Int) (b : UInt8) : Int := rndN 8 (bits .xor .u32 r (IntKind.u32.wrap b.toNat))
theorem rstep_eq (x : BitVec 32) (b : UInt8) : rstep (x.toNat : Int) b = byte1 (x.toNat : Int) b := by
  rw [byte1_b, rstep, b32_nat, xor32, rndN_b]; rfl
theorem sumR_succ2 (s : List UInt8) (i : Nat) (h : i < s.length) : sumR (s.take (i + 1)) = rstep (sumR (s.take i)) (s.getD i 0) := by
  rw [sumR_succ s i h, sumR_b (s.take i), rstep_eq]
theorem rsum_v (s : List UInt8) (hs : s.length ≤ 100000000) : VCalls prog 82 [.pv (.str s)] [] (Ret (.int .u32 (sumX s))) := by
  refine dd Tryz.func82 ?_
  simp (config := { maxSteps := 2000000 }) (implicitDefEqProofs := false) (disch := first | omega | assumption | (simp only []; done) | fail) only [go_sem, Tryz.f82]
  refine vloop (fun i : {i : Nat // i ≤ s.length} => ⟨32, 0, [(4, .int .i64 i.1), (3, .int .u32 (sumR (s.take i.1))), (0, .pv (.str s))], []⟩) (fun i => s.length - i.1) ⟨0, by omega⟩ (by refine ⟨rfl, rfl, by simp, ?_, ?_, .inl rfl⟩ <;> (repeat' apply And.intro) <;> first | rfl | trivial) ?_
  intro i
  obtain ⟨i, hi⟩ := i
  dsimp only
  simp (config := { maxSteps := 2000000 }) (implicitDefEqProofs := false) (disch := first | omega | assumption | (simp only []; done) | fail) only [go_sem, Nat.reduceBEq, Int.reduceBEq]
  refine vbr_split (fun hc => ?_) (fun hc => ?_) <;> simp only [decide_eq_true_eq, decide_eq_false_iff_not, Bool.or_eq_true, Bool.and_eq_true, Bool.or_eq_false_iff, Bool.and_eq_false_imp, Bool.not_eq_true', Bool.not_eq_false', beq_iff_eq, beq_eq_false_iff_ne, bne_iff_ne, bne_eq_false_iff_eq, ne_eq] at hc
  · have hlt : i < s.length := by omega
    have hg : s[i]? = some (s.getD i 0) := by rw [List.getD_eq_getElem?_getD, List.getElem?_eq_getElem hlt]; rfl
    simp (config := { maxSteps := 2000000 }) (implicitDefEqProofs := false) (disch := first | omega | assumption | (simp only []; done) | fail) only [go_sem, Nat.reduceBEq, Int.reduceBEq, hg]
    refine vloop (fun j : {j : Nat // j ≤ 8} => ⟨32, 0, [(5, .int .i64 j.1), (4, .int .i64 i), (3, .int .u32 (rndN j.1 (bits .xor .u32 (sumR (s.take i)) (IntKind.u32.wrap (s.getD i 0).toNat)))), (0, .pv (.str s))], []⟩) (fun j => 8 - j.1) ⟨0, by omega⟩ (by refine ⟨rfl, rfl, by simp, ?_, ?_, .inl rfl⟩ <;> (repeat' apply And.intro) <;> first | rfl | trivial) ?_
    intro j
    obtain ⟨j, hj⟩ := j
    dsimp only
    simp (config := { maxSteps := 2000000 }) (implicitDefEqProofs := false) (disch := first | omega | assumption | (simp only []; done) | fail) only [go_sem]
    refine vbr_split (fun hcj => ?_) (fun hcj => ?_) <;> simp only [decide_eq_true_eq, decide_eq_false_iff_not, Bool.or_eq_true, Bool.and_eq_true, Bool.or_eq_false_iff, Bool.and_eq_false_imp, Bool.not_eq_true', Bool.not_eq_false', beq_iff_eq, beq_eq_false_iff_ne, bne_iff_ne, bne_eq_false_iff_eq, ne_eq] at hcj
    · simp (config := { maxSteps := 2000000 }) (implicitDefEqProofs := false) (disch := first | omega | assumption | (simp only []; done) | fail) only [go_sem, Nat.reduceBEq, Int.reduceBEq]
      refine vbr_split (fun hb => ?_) (fun hb => ?_) <;> simp only [decide_eq_true_eq, decide_eq_false_iff_not, Bool.or_eq_true, Bool.and_eq_true, Bool.or_eq_false_iff, Bool.and_eq_false_imp, Bool.not_eq_true', Bool.not_eq_false', beq_iff_eq, beq_eq_false_iff_ne, bne_iff_ne, bne_eq_false_iff_eq, ne_eq] at hb
      · simp (config := { maxSteps := 2000000 }) (implicitDefEqProofs := false) (disch := first | omega | assumption | (simp only []; done) | fail) only [go_sem, Nat.reduceBEq, Int.reduceToNat, Int.reduceBEq]
        refine ⟨⟨j + 1, by omega⟩, by show 8 - (j + 1) < 8 - j; omega, ?_⟩
        have e : rndN (j + 1) (bits .xor .u32 (sumR (s.take i)) (IntKind.u32.wrap (s.getD i 0).toNat)) = bits .xor .u32 ((rndN j (bits .xor .u32 (sumR (s.take i)) (IntKind.u32.wrap (s.getD i 0).toNat))).fdiv 2) 2197175160 := by rw [rndN, rnd, if_pos hb]
        rw [e]
        exact (by refine ⟨rfl, rfl, by simp, ?_, ?_, .inl rfl⟩ <;> (repeat' apply And.intro) <;> first | rfl | trivial)
      · simp (config := { maxSteps := 2000000 }) (implicitDefEqProofs := false) (disch := first | omega | assumption | (simp only []; done) | fail) only [go_sem, Nat.reduceBEq, Int.reduceToNat, Int.reduceBEq]
        refine ⟨⟨j + 1, by omega⟩, by show 8 - (j + 1) < 8 - j; omega, ?_⟩
        have e : rndN (j + 1) (bits .xor .u32 (sumR (s.take i)) (IntKind.u32.wrap (s.getD i 0).toNat)) = (rndN j (bits .xor .u32 (sumR (s.take i)) (IntKind.u32.wrap (s.getD i 0).toNat))).fdiv 2 := by rw [rndN, rnd, if_neg hb]
        rw [e]
        exact (by refine ⟨rfl, rfl, by simp, ?_, ?_, .inl rfl⟩ <;> (repeat' apply And.intro) <;> first | rfl | trivial)
    · have hj8 : j = 8 := by omega
      subst hj8
      simp (config := { maxSteps := 2000000 }) (implicitDefEqProofs := false) (disch := first | omega | assumption | (simp only []; done) | fail) only [go_sem, ↓reduceIte, Nat.reduceBEq, Int.reduceBEq]
      refine ⟨⟨i + 1, hlt⟩, by show s.length - (i + 1) < s.length - i; omega, ?_⟩
      have e : sumR (s.take (i + 1)) = rndN 8 (bits .xor .u32 (sumR (s.take i)) (IntKind.u32.wrap (s.getD i 0).toNat)) := sumR_succ2 s i hlt
      rw [e]
      exact (by refine ⟨rfl, rfl, by simp, ?_, ?_, .inl rfl⟩ <;> (repeat' apply And.intro) <;> first | rfl | trivial)
  · simp (config := { maxSteps := 2000000 }) (implicitDefEqProofs := false) (disch := first | omega | assumption | (simp only []; done) | fail) only [go_sem, ↓reduceIte, Nat.reduceLT, Nat.reduceBEq, Int.reduceLT, Int.reduceBEq]
    rw [List.take_of_length_le (by omega)]
    rfl
def frm (s : List UInt8) : List UInt8 := if s.length ≤ 8392 then putL (putL [] s.length 4 ++ s) (sumX (putL [] s.length 4 ++ s)) 4 else []
theorem frame_v (s : List UInt8) (hs : s.length ≤ 90000000) : VCalls prog 72 [.pv (.str s)] [] (Ret (.pv (.str (frm s)))) := by
  refine dd Tryz.func72 ?_
  by_cases h : s.length ≤ 8392
  · have h1 : ¬ 8392 < (s.length : Int) := by omega
    have hl := putL_len [] s.length 4
    simp only [List.length_nil, Nat.zero_add] at hl
    have hl2 : (putL [] s.length 4 ++ s).length ≤ 10000 := by rw [List.length_append, hl]; omega
    simp (config := { maxSteps := 2000000 }) (implicitDefEqProofs := false) (disch := first | omega | assumption | (simp only []; done) | fail) only [go_sem, Nat.reduceBEq, Int.reduceBEq, Tryz.f72, h1]
    refine vc_pure (put_v [] (by simp) s.length 4 (by omega) (by omega)) rfl ?_
    simp (config := { maxSteps := 2000000 }) (implicitDefEqProofs := false) (disch := first | omega | assumption | (simp only []; done) | fail) only [go_sem, Nat.reduceBEq, Int.reduceBEq]
    refine vc_pure (sum_v _ (by omega)) rfl ?_
    have hx := sumX_in (putL [] s.length 4 ++ s)
    simp (config := { maxSteps := 2000000 }) (implicitDefEqProofs := false) (disch := first | omega | assumption | (simp only []; done) | fail) only [go_sem, Nat.reduceLT, Nat.reduceBEq, Int.reduceLT, Int.reduceBEq]
    refine vc_pure (put_v (putL [] s.length 4 ++ s) (by omega) _ 4 (by omega) (by omega)) rfl ?_
    simp (config := { maxSteps := 2000000 }) (implicitDefEqProofs := false) (disch := first | omega | assumption | (simp only []; done) | fail) only [go_sem, ↓reduceIte, frm, h]
  · have h1 : 8392 < (s.length : Int) := by omega
    simp (config := { maxSteps := 2000000 }) (implicitDefEqProofs := false) (disch := first | omega | assumption | (simp only []; done) | fail) only [go_sem, ↓reduceIte, Nat.reduceBEq, Int.reduceBEq, Tryz.f72, h1, frm, h]
theorem rframe_v (s : List UInt8) (hs : s.length ≤ 90000000) : VCalls prog 69 [.pv (.str s)] [] (Ret (.pv (.str (frm s)))) := by
  refine dd Tryz.func69 ?_
  by_cases h : s.length ≤ 8392
  · have h1 : ¬ 8392 < (s.length : Int) := by omega
    have hl := putL_len [] s.length 4
    simp only [List.length_nil, Nat.zero_add] at hl
    have hl2 : (putL [] s.length 4 ++ s).length ≤ 10000 := by rw [List.length_append, hl]; omega
    simp (config := { maxSteps := 2000000 }) (implicitDefEqProofs := false) (disch := first | omega | assumption | (simp only []; done) | fail) only [go_sem, Nat.reduceBEq, Int.reduceBEq, Tryz.f69, h1]
    refine vc_pure (rput_v [] (by simp) s.length 4 (by omega) (by omega)) rfl ?_
    simp (config := { maxSteps := 2000000 }) (implicitDefEqProofs := false) (disch := first | omega | assumption | (simp only []; done) | fail) only [go_sem, Nat.reduceBEq, Int.reduceBEq]
    refine vc_pure (rsum_v _ (by omega)) rfl ?_
    have hx := sumX_in (putL [] s.length 4 ++ s)
    simp (config := { maxSteps := 2000000 }) (implicitDefEqProofs := false) (disch := first | omega | assumption | (simp only []; done) | fail) only [go_sem, Nat.reduceLT, Nat.reduceBEq, Int.reduceLT, Int.reduceBEq]
    refine vc_pure (rput_v (putL [] s.length 4 ++ s) (by omega) _ 4 (by omega) (by omega)) rfl ?_
    simp (config := { maxSteps := 2000000 }) (implicitDefEqProofs := false) (disch := first | omega | assumption | (simp only []; done) | fail) only [go_sem, ↓reduceIte, frm, h]
  · have h1 : 8392 < (s.length : Int) := by omega
    simp (config := { maxSteps := 2000000 }) (implicitDefEqProofs := false) (disch := first | omega | assumption | (simp only []; done) | fail) only [go_sem, ↓reduceIte, Nat.reduceBEq, Int.reduceBEq, Tryz.f69, h1, frm, h]
def leN (s : List UInt8) (a : Nat) : Nat → Nat
  | 0 => 0
  | i + 1 => leN s a i + (s.getD (a + i) 0).toNat * 2 ^ (8 * i)
theorem leN_lt (s : List UInt8) (a : Nat) : ∀ i, leN s a i < 2 ^ (8 * i)
  | 0 => by simp [leN]
  | i + 1 => by
    have ih := leN_lt s a i
    have hb := (s.getD (a + i) 0).toNat_lt
    rw [leN, Nat.mul_add, Nat.pow_add]
    have : (s.getD (a + i) 0).toNat * 2 ^ (8 * i) ≤ 255 * 2 ^ (8 * i) := Nat.mul_le_mul_right _ (by omega)
    omega
theorem accX_leN (s : List UInt8) (a : Nat) : ∀ i, i ≤ 8 → accX s a i = (leN s a i : Int)
  | 0, _ => rfl
  | i + 1, hi => by
    have ih := accX_leN s a i (by omega)
    have hlt := leN_lt s a i
    have hb := (s.getD (a + i) 0).toNat_lt
    unfold accX
    rw [ih, min_bits i (by omega)]
    have hw : IntKind.u64.wrap ((s.getD (a + i) 0).toNat : Int) = ((s.getD (a + i) 0).toNat : Int) := by rw [wrap64]; unfold u64N; omega
    have hp : (2 : Nat) ^ (8 * i) ≤ 2 ^ 56 := Nat.pow_le_pow_right (by omega) (by omega)
    have hm : (s.getD (a + i) 0).toNat * 2 ^ (8 * i) ≤ 255 * 2 ^ 56 := Nat.mul_le_mul (by omega) hp
    have e2 : ((s.getD (a + i) 0).toNat : Int) * 2 ^ (8 * i) = (((s.getD (a + i) 0).toNat * 2 ^ (8 * i) : Nat) : Int) := by
      rw [Int.natCast_mul, Int.natCast_pow]; rfl
    rw [hw, e2]
    have hw2 : IntKind.u64.wrap (((s.getD (a + i) 0).toNat * 2 ^ (8 * i) : Nat) : Int) = (((s.getD (a + i) 0).toNat * 2 ^ (8 * i) : Nat) : Int) := by
      generalize (s.getD (a + i) 0).toNat * 2 ^ (8 * i) = z at hm
      rw [wrap64]; unfold u64N; omega
    have h64 : leN s a i < 2 ^ 64 := Nat.lt_of_lt_of_le hlt (Nat.pow_le_pow_right (by omega) (by omega))
    rw [hw2, or_val _ _ h64 (by omega), leN]
    congr 1
    rw [Nat.or_comm, Nat.mul_comm _ (2 ^ (8 * i)), ← Nat.two_pow_add_eq_or_of_lt hlt, Nat.add_comm]
def n4 (s : List UInt8) (a : Nat) : Nat := leN s a 4
theorem n4_lt (s : List UInt8) (a : Nat) : n4 s a < 4294967296 := leN_lt s a 4
theorem wrap_n4 (s : List UInt8) (a : Nat) : IntKind.i64.wrap (accX s a 4) = (n4 s a : Int) := by
  rw [accX_leN s a 4 (by omega)]
  have := n4_lt s a
  unfold n4 at this ⊢
  rw [IntKind.wrap_i64]; omega
theorem get4 (s : List UInt8) (hs : s.length ≤ 100000000) (a : Nat) (hh : a + 4 ≤ s.length) : VCalls prog 57 [.pv (.str s), .int .i64 a, .int .i64 4] [] (Ret (.tup [.int .i64 (n4 s a), .int .i64 0])) := by
  have h := get_v s (by omega) a 4 (by omega) hh
  rwa [wrap_n4] at h
def unf (s : List UInt8) (a : Int) : List UInt8 × Int × Int :=
  if a < 0 ∨ (s.length : Int) < a then ([], 0, 1)
  else if ¬ a.toNat + 4 ≤ s.length then ([], 0, 5)
  else if 8392 < n4 s a.toNat then ([], 0, 2)
  else if ¬ a.toNat + 4 + n4 s a.toNat + 4 ≤ s.length then ([], 0, 5)
  else if ¬ (n4 s (a.toNat + 4 + n4 s a.toNat) : Int) = sumX ((s.take (a.toNat + 4 + n4 s a.toNat)).drop a.toNat) then ([], 0, 3)
  else ((s.take (a.toNat + 4 + n4 s a.toNat)).drop (a.toNat + 4), (a.toNat + 4 + n4 s a.toNat + 4 : Nat), 0)
theorem unf_le (s : List UInt8) (a : Int) : (unf s a).1.length ≤ s.length ∧ ((unf s a).2.2 = 0 → 0 ≤ a ∧ 0 ≤ (unf s a).2.1 ∧ (unf s a).2.1 ≤ s.length) := by
  unfold unf
  split
  · exact ⟨Nat.zero_le _, fun h => by simp at h⟩
  rename_i h1
  split
  · exact ⟨Nat.zero_le _, fun h => by simp at h⟩
  split
  · exact ⟨Nat.zero_le _, fun h => by simp at h⟩
  split
  · exact ⟨Nat.zero_le _, fun h => by simp at h⟩
  rename_i h2
  split
  · exact ⟨Nat.zero_le _, fun h => by simp at h⟩
  · refine ⟨by dsimp only; rw [List.length_drop, List.length_take]; omega, fun _ => ⟨by omega, by dsimp only; omega, by dsimp only; omega⟩⟩
def unfR (s : List UInt8) (a : Int) : DV := .tup [.pv (.str (unf s a).1), .int .i64 (unf s a).2.1, .int .i64 (unf s a).2.2]
theorem unframe_v (s : List UInt8) (hs : s.length ≤ 100000000) (a : Int) : VCalls prog 55 [.pv (.str s), .int .i64 a] [] (Ret (unfR s a)) := by
  refine dd Tryz.func55 ?_
  unfold unfR unf
  by_cases h1 : a < 0
  · rw [if_pos (.inl h1)]
    (unfold Tryz.f55; refine rn @h1 ?_; try with_reducible exact ⟨⟩)
  · by_cases h2 : (s.length : Int) < a
    · rw [if_pos (.inr h2)]
      (unfold Tryz.f55; refine rn (And.intro @h1 @h2) ?_; try with_reducible exact ⟨⟩)
    · rw [if_neg (by omega)]
      obtain ⟨k, rfl⟩ : ∃ k : Nat, a = k := ⟨a.toNat, by omega⟩
      rw [Int.toNat_natCast]
      by_cases h3 : k + 4 ≤ s.length
      · rw [if_neg (by omega)]
        have hn := n4_lt s k
        (unfold Tryz.f55; refine rn (And.intro @h1 @h2) ?_)
        refine vc_pure (get4 s (by omega) k h3) rfl ?_
        by_cases h4 : 8392 < n4 s k
        · rw [if_pos h4]
          have h4' : 8392 < (n4 s k : Int) := by omega
          (refine rn @h4' ?_; try with_reducible exact ⟨⟩)
        · rw [if_neg h4]
          have h4' : ¬ 8392 < (n4 s k : Int) := by omega
          refine rn @h4' ?_
          by_cases h5 : k + 4 + n4 s k + 4 ≤ s.length
          · rw [if_neg (by omega)]
            have hg := get4 s (by omega) (k + 4 + n4 s k) h5
            have e : (((k + 4 + n4 s k : Nat)) : Int) = (k : Int) + 4 + (n4 s k : Int) := by omega
            rw [e] at hg
            refine vc_pure hg rfl ?_
            have ht : ((k : Int) + 4 + (n4 s k : Int)).toNat = k + 4 + n4 s k := by omega
            have q1 : (0 : Int) ≤ (k : Int) + 4 + (n4 s k : Int) := by omega
            have q2 : k ≤ k + 4 + n4 s k := by omega
            have q3 : k + 4 + n4 s k ≤ s.length := by omega
            have hx := sumX_in ((s.take (k + 4 + n4 s k)).drop k)
            refine rn (And.intro @ht (And.intro @q1 (And.intro @q2 @q3))) ?_
            refine vc_pure (sum_v _ (by rw [List.length_drop, List.length_take]; omega)) rfl ?_
            by_cases h6 : (n4 s (k + 4 + n4 s k) : Int) = sumX ((s.take (k + 4 + n4 s k)).drop k)
            · rw [if_neg (by omega)]
              have q4 : ((k : Int) + 4).toNat = k + 4 := by omega
              have q5 : k + 4 ≤ k + 4 + n4 s k := by omega
              have q6 : (0 : Int) ≤ (k : Int) + 4 := by omega
              have e8 : (((k + 4 + n4 s k + 4 : Nat)) : Int) = (k : Int) + 4 + (n4 s k : Int) + 4 := by omega
              refine rn (And.intro @h6 (And.intro @ht (And.intro @q1 (And.intro @q2 (And.intro @q3 (And.intro @q4 (And.intro @q5 @q6))))))) ?_
              rw [e8]
            · rw [if_pos h6]
              (refine rn @h6 ?_; try with_reducible exact ⟨⟩)
          · rw [if_pos (by omega)]
            have hg := get_short s ((k : Int) + 4 + (n4 s k : Int)) 4 (by omega) (by omega) (by omega)
            refine vc_pure hg rfl ?_
            (refine rn trivial ?_; try with_reducible exact ⟨⟩)
      · rw [if_pos h3]
        (unfold Tryz.f55; refine rn (And.intro @h1 @h2) ?_)
        refine vc_pure (get_short s k 4 (by omega) (by omega) (by omega)) rfl ?_
        (refine rn trivial ?_; try with_reducible exact ⟨⟩)
section
structure Ce where
  set : Bool
  data : List UInt8
structure Ch where
  pg : Int
  sl : Int
  b : Ce
  a : Ce
structure E where
  lsn : Int
  kind : Int
  tx : Int
  ptx : Int
  ppg : Int
  ref : Int
  c : Ch
  blob : List UInt8
def Ce.d (x : Ce) : List DV := [.bool x.set, .pv (.str x.data)]
def Ch.d (x : Ch) : List DV := [.int .i64 x.pg, .int .i64 x.sl, .bool x.b.set, .pv (.str x.b.data), .bool x.a.set, .pv (.str x.a.data)]
def E.d (x : E) : List DV := [.int .i64 x.lsn, .int .i64 x.kind, .int .i64 x.tx, .int .i64 x.ptx, .int .i64 x.ppg, .int .i64 x.ref, .int .i64 x.c.pg, .int .i64 x.c.sl, .bool x.c.b.set, .pv (.str x.c.b.data), .bool x.c.a.set, .pv (.str x.c.a.data), .pv (.str x.blob)]
def Ce0 : Ce := ⟨false, []⟩
def Ch0 : Ch := ⟨0, 0, Ce0, Ce0⟩
def E0 : E := ⟨0, 0, 0, 0, 0, 0, Ch0, []⟩
def Ce.okB (x : Ce) : Bool := decide (x.data.length ≤ 12) && (x.set || x.data == [])
def Ch.okB (x : Ch) : Bool := decide (0 ≤ x.pg) && decide (x.pg < 64) && decide (0 ≤ x.sl) && decide (x.sl < 16) && x.b.okB && x.a.okB
def Ce.no (x : Ce) : Bool := !x.set && x.data == []
def Ch.no (x : Ch) : Bool := x.pg == 0 && x.sl == 0 && x.b.no && x.a.no
def bef (n l : Int) : Bool := decide (0 ≤ n) && decide (n < l)
attribute [local go_sem] Ce.d Ch.d E.d allEq leafEq
theorem cellok_v (x : Ce) : VCalls prog 105 [.agg x.d] [] (Ret (.bool x.okB)) := by
  refine dd Tryz.func105 ?_
  (unfold Tryz.f105; refine rn trivial ?_)
  refine rn F ?_
  repeat' (first
    | with_reducible exact ⟨⟩
    | (refine sG F ?_ ?_ <;> intro hZ))
  all_goals (first | rfl | (congr 3; rw [Bool.eq_iff_iff]; (try simp only [Ce.okB, decide_eq_true_eq, Bool.and_eq_true, Bool.or_eq_true, Bool.not_eq_true', Bool.not_eq_false', decide_eq_false_iff_not, beq_iff_eq, bne_iff_ne, ne_eq, Bool.false_eq_true, Bool.true_eq_false, iff_true, true_iff, iff_false, false_iff]); first | done | omega | grind))
theorem rcellok_v (x : Ce) : VCalls prog 106 [.agg x.d] [] (Ret (.bool x.okB)) := by
  refine dd Tryz.func106 ?_
  (unfold Tryz.f106; refine rn trivial ?_)
  refine rn F ?_
  repeat' (first
    | with_reducible exact ⟨⟩
    | (refine sG F ?_ ?_ <;> intro hZ))
  all_goals (first | rfl | (congr 3; rw [Bool.eq_iff_iff]; (try simp only [Ce.okB, decide_eq_true_eq, Bool.and_eq_true, Bool.or_eq_true, Bool.not_eq_true', Bool.not_eq_false', decide_eq_false_iff_not, beq_iff_eq, bne_iff_ne, ne_eq, Bool.false_eq_true, Bool.true_eq_false, iff_true, true_iff, iff_false, false_iff]); first | done | omega | grind))
theorem none_v (x : Ch) : VCalls prog 90 [.agg x.d] [] (Ret (.bool x.no)) := by
  refine dd Tryz.func90 ?_
  (unfold Tryz.f90; refine rn trivial ?_)
  simp only [Ch.no, Ce.no, Bool.and_assoc]
theorem before_v (n : Int) (x : E) : VCalls prog 64 [.int .i64 n, .agg x.d] [] (Ret (.bool (bef n x.lsn))) := by
  refine dd Tryz.func64 ?_
  (unfold Tryz.f64; refine rn trivial ?_)
  refine rn F ?_
  repeat' (first
    | with_reducible exact ⟨⟩
    | (refine sG F ?_ ?_ <;> intro hZ))
  all_goals (first | rfl | (congr 3; rw [Bool.eq_iff_iff]; (try simp only [bef, decide_eq_true_eq, Bool.and_eq_true, Bool.or_eq_true, Bool.not_eq_true', Bool.not_eq_false', decide_eq_false_iff_not, beq_iff_eq, bne_iff_ne, ne_eq, Bool.false_eq_true, Bool.true_eq_false, iff_true, true_iff, iff_false, false_iff]); first | done | omega | grind))
theorem rbefore_v (n l : Int) : VCalls prog 67 [.int .i64 n, .int .i64 l] [] (Ret (.bool (bef n l))) := by
  refine dd Tryz.func67 ?_
  (unfold Tryz.f67; refine rn trivial ?_)
  refine rn F ?_
  repeat' (first
    | with_reducible exact ⟨⟩
    | (refine sG F ?_ ?_ <;> intro hZ))
  all_goals (first | rfl | (congr 3; rw [Bool.eq_iff_iff]; (try simp only [bef, decide_eq_true_eq, Bool.and_eq_true, Bool.or_eq_true, Bool.not_eq_true', Bool.not_eq_false', decide_eq_false_iff_not, beq_iff_eq, bne_iff_ne, ne_eq, Bool.false_eq_true, Bool.true_eq_false, iff_true, true_iff, iff_false, false_iff]); first | done | omega | grind))
theorem paged_v (n : Int) : VCalls prog 104 [.int .i64 n] [] (Ret (.bool (decide (0 ≤ n) && decide (n < 64)))) := by
  refine dd Tryz.func104 ?_
  (unfold Tryz.f104; refine rn trivial ?_)
  refine rn F ?_
  repeat' (first
    | with_reducible exact ⟨⟩
    | (refine sG F ?_ ?_ <;> intro hZ))
  all_goals (first | rfl | (congr 3; rw [Bool.eq_iff_iff]; (try simp only [decide_eq_true_eq, Bool.and_eq_true, Bool.or_eq_true, Bool.not_eq_true', Bool.not_eq_false', decide_eq_false_iff_not, beq_iff_eq, bne_iff_ne, ne_eq, Bool.false_eq_true, Bool.true_eq_false, iff_true, true_iff, iff_false, false_iff]); first | done | omega | grind))
theorem anyref_v (x : E) : VCalls prog 89 [.agg x.d] [] (Ret (.bool true)) := by
  refine dd Tryz.func89 ?_
  (unfold Tryz.f89; refine rn trivial ?_; try with_reducible exact ⟨⟩)
theorem undoref_v (x : E) : VCalls prog 92 [.agg x.d] [] (Ret (.bool (decide (1 ≤ x.ref) && decide (x.ref ≤ x.ptx)))) := by
  refine dd Tryz.func92 ?_
  (unfold Tryz.f92; refine rn trivial ?_)
  refine rn F ?_
  repeat' (first
    | with_reducible exact ⟨⟩
    | (refine sG F ?_ ?_ <;> intro hZ))
  all_goals (first | rfl | (congr 3; rw [Bool.eq_iff_iff]; (try simp only [decide_eq_true_eq, Bool.and_eq_true, Bool.or_eq_true, Bool.not_eq_true', Bool.not_eq_false', decide_eq_false_iff_not, beq_iff_eq, bne_iff_ne, ne_eq, Bool.false_eq_true, Bool.true_eq_false, iff_true, true_iff, iff_false, false_iff]); first | done | omega | grind))
def Ch.ix (x : Ch) : Bool := x.sl == 0 && x.b.no && x.a.no && decide (0 ≤ x.pg) && decide (x.pg < 64)
theorem index_v (x : Ch) : VCalls prog 93 [.agg x.d] [] (Ret (.bool x.ix)) := by
  refine dd Tryz.func93 ?_
  (unfold Tryz.f93; refine rn trivial ?_)
  refine rn F ?_
  repeat' (first
    | with_reducible exact ⟨⟩
    | (refine sG F ?_ ?_ <;> intro hZ))
  all_goals (first | rfl | (congr 3; rw [Bool.eq_iff_iff]; (try simp only [Ch.ix, Ce.no, decide_eq_true_eq, Bool.and_eq_true, Bool.or_eq_true, Bool.not_eq_true', Bool.not_eq_false', decide_eq_false_iff_not, beq_iff_eq, bne_iff_ne, ne_eq, Bool.false_eq_true, Bool.true_eq_false, iff_true, true_iff, iff_false, false_iff]); first | done | omega | grind))
theorem rchanges_v (x : E) : VCalls prog 183 [.agg x.d] [] (Ret (.bool (x.kind == 1 || x.kind == 2))) := by
  refine dd Tryz.func183 ?_
  (unfold Tryz.f183; refine rn trivial ?_)
  refine rn F ?_
  repeat' (first
    | with_reducible exact ⟨⟩
    | (refine sG F ?_ ?_ <;> intro hZ))
  all_goals (first | rfl | (congr 3; rw [Bool.eq_iff_iff]; (try simp only [decide_eq_true_eq, Bool.and_eq_true, Bool.or_eq_true, Bool.not_eq_true', Bool.not_eq_false', decide_eq_false_iff_not, beq_iff_eq, bne_iff_ne, ne_eq, Bool.false_eq_true, Bool.true_eq_false, iff_true, true_iff, iff_false, false_iff]); first | done | omega | grind))
theorem chok_v (x : Ch) : VCalls prog 91 [.agg x.d] [] (Ret (.bool x.okB)) := by
  refine dd Tryz.func91 ?_
  (unfold Tryz.f91; refine rn trivial ?_)
  refine rn F ?_
  repeat' (first
    | with_reducible exact ⟨⟩
    | (refine sG F ?_ ?_ <;> intro hZ)
    | refine vp F (paged_v x.pg) ?_
    | refine vp F (cellok_v x.b) ?_
    | refine vp F (cellok_v x.a) ?_)
  all_goals (first | rfl | (congr 3; rw [Bool.eq_iff_iff]; (try simp only [Ch.okB, decide_eq_true_eq, Bool.and_eq_true, Bool.or_eq_true, Bool.not_eq_true', Bool.not_eq_false', decide_eq_false_iff_not, beq_iff_eq, bne_iff_ne, ne_eq, Bool.false_eq_true, Bool.true_eq_false, iff_true, true_iff, iff_false, false_iff]); first | done | omega | grind))
theorem rchok_v (x : Ch) : VCalls prog 94 [.agg x.d] [] (Ret (.bool x.okB)) := by
  refine dd Tryz.func94 ?_
  (unfold Tryz.f94; refine rn trivial ?_)
  refine rn F ?_
  repeat' (first
    | with_reducible exact ⟨⟩
    | (refine sG F ?_ ?_ <;> intro hZ)
    | refine vp F (rcellok_v x.b) ?_
    | refine vp F (rcellok_v x.a) ?_)
  all_goals (first | rfl | (congr 3; rw [Bool.eq_iff_iff]; (try simp only [Ch.okB, decide_eq_true_eq, Bool.and_eq_true, Bool.or_eq_true, Bool.not_eq_true', Bool.not_eq_false', decide_eq_false_iff_not, beq_iff_eq, bne_iff_ne, ne_eq, Bool.false_eq_true, Bool.true_eq_false, iff_true, true_iff, iff_false, false_iff]); first | done | omega | grind))
def rl (tx ch pg rf bl : Bool) (f g : Nat) : List DV := [.bool tx, .bool ch, .bool pg, .bool rf, .bool bl, .fn (.func f) [] [], .fn (.func g) [] []]
def rl0 : List DV := [.bool false, .bool false, .bool false, .bool false, .bool false, .pv (.lit .nilFunc), .pv (.lit .nilFunc)]
def rlEnd : List DV := rl true true false false false 89 90
def rlNote : List DV := rl false false false false true 89 90
def rlAll : List DV := rl0 ++ rl true false true false false 89 91 ++ rl true true true true false 92 91 ++ rlEnd ++ rlEnd ++ rlEnd ++ rlNote ++ rl false false false true false 89 93 ++ rlNote
theorem rules_v : VCalls prog 65 [] [] (Ret (.agg rlAll)) := by
  refine dd Tryz.func65 ?_
  (unfold Tryz.f65; refine rn trivial ?_)
  rfl
end
section
attribute [local go_sem] rlAll rl0 rl rlEnd rlNote
def txB (n : Int) : Bool := decide (1 ≤ n) && decide (n ≤ 1073741824)
def E.kindB (e : E) : Bool :=
  if e.kind = 1 then txB e.tx && e.ref == 0 && e.blob == [] && e.c.okB
  else if e.kind = 2 then txB e.tx && e.ptx != 0 && e.blob == [] && decide (1 ≤ e.ref) && decide (e.ref ≤ e.ptx) && e.c.okB
  else if e.kind = 3 ∨ e.kind = 4 ∨ e.kind = 5 then txB e.tx && e.ptx != 0 && e.ppg == 0 && e.ref == 0 && e.blob == [] && e.c.no
  else if e.kind = 6 ∨ e.kind = 8 then e.tx == 0 && e.ptx == 0 && e.ppg == 0 && e.ref == 0 && decide (e.blob.length ≤ 8192) && e.c.no
  else if e.kind = 7 then e.tx == 0 && e.ptx == 0 && e.ppg == 0 && e.blob == [] && e.c.ix
  else false
def E.okB (e : E) : Bool := decide (1 ≤ e.lsn) && decide (e.lsn ≤ 1099511627776) && bef e.ptx e.lsn && bef e.ppg e.lsn && bef e.ref e.lsn && e.kindB
theorem kindB_eq (lsn kind tx ptx ppg ref : Int) (c : Ch) (blob : List UInt8) : (⟨lsn, kind, tx, ptx, ppg, ref, c, blob⟩ : E).kindB =
  if kind = 1 then txB tx && ref == 0 && blob == [] && c.okB
  else if kind = 2 then txB tx && ptx != 0 && blob == [] && decide (1 ≤ ref) && decide (ref ≤ ptx) && c.okB
  else if kind = 3 ∨ kind = 4 ∨ kind = 5 then txB tx && ptx != 0 && ppg == 0 && ref == 0 && blob == [] && c.no
  else if kind = 6 ∨ kind = 8 then tx == 0 && ptx == 0 && ppg == 0 && ref == 0 && decide (blob.length ≤ 8192) && c.no
  else if kind = 7 then tx == 0 && ptx == 0 && ppg == 0 && blob == [] && c.ix
  else false := rfl
theorem kindB_no {e : E} (h : e.kind < 1 ∨ 8 < e.kind) : e.kindB = false := by
  unfold E.kindB; rw [if_neg (by omega), if_neg (by omega), if_neg (by omega), if_neg (by omega), if_neg (by omega)]
theorem kind_cases (k : Int) : (k < 1 ∨ 8 < k) ∨ k = 1 ∨ k = 2 ∨ k = 3 ∨ k = 4 ∨ k = 5 ∨ k = 6 ∨ k = 7 ∨ k = 8 := by omega
theorem valid_v (e : E) : VCalls prog 43 [.agg e.d] [] (Ret (.bool e.okB)) := by
  refine dd Tryz.func43 ?_
  obtain ⟨lsn, kind, tx, ptx, ppg, ref, c, blob⟩ := e
  have r1 := before_v ptx ⟨lsn, kind, tx, ptx, ppg, ref, c, blob⟩
  have r2 := before_v ppg ⟨lsn, kind, tx, ptx, ppg, ref, c, blob⟩
  have r3 := before_v ref ⟨lsn, kind, tx, ptx, ppg, ref, c, blob⟩
  have r4 := anyref_v ⟨lsn, kind, tx, ptx, ppg, ref, c, blob⟩
  have r5 := undoref_v ⟨lsn, kind, tx, ptx, ppg, ref, c, blob⟩
  have q1 := none_v c
  have q2 := chok_v c
  have q3 := index_v c
  have e1 : (⟨lsn, kind, tx, ptx, ppg, ref, c, blob⟩ : E).okB = (decide (1 ≤ lsn) && decide (lsn ≤ 1099511627776) && bef ptx lsn && bef ppg lsn && bef ref lsn && (⟨lsn, kind, tx, ptx, ppg, ref, c, blob⟩ : E).kindB) := rfl
  dsimp only [E.d] at *
  generalize bef ptx lsn = B1 at *
  generalize bef ppg lsn = B2 at *
  generalize bef ref lsn = B3 at *
  have e2 := kindB_eq lsn kind tx ptx ppg ref c blob
  dsimp only [Ch.d] at q1 q2 q3
  generalize c.no = N at *
  generalize c.okB = K at *
  generalize c.ix = X at *
  have e3 := @kindB_no ⟨lsn, kind, tx, ptx, ppg, ref, c, blob⟩
  dsimp only at e3
  generalize (⟨lsn, kind, tx, ptx, ppg, ref, c, blob⟩ : E).kindB = Q at *
  generalize (⟨lsn, kind, tx, ptx, ppg, ref, c, blob⟩ : E).okB = R at *
  (unfold Tryz.f43; refine rn trivial ?_)
  refine rn F ?_
  repeat' (first
    | with_reducible exact ⟨⟩
    | (refine sG F ?_ ?_ <;> intro hZ)
    | (refine sB F ?_ ?_ <;> intro hZ)
    | refine vp F (r1) ?_
    | refine vp F (r2) ?_
    | refine vp F (r3) ?_
    | (refine vspine (id := 3) [1, 2] [⟨[4], [], 0, [1, 2], [3]⟩, ⟨[4], [4], 5, [], []⟩] (by kernel_rfl) (by kernel_rfl) ?_; refine rn F ?_))
  all_goals first
    | (congr 3; rw [Bool.eq_iff_iff, e1]; simp only [Bool.and_eq_true, decide_eq_true_eq, Bool.false_eq_true, false_iff]; first | omega | (intro h; simp_all; done) | (intro h; rw [e3 (by omega)] at h; simp at h; done))
    | skip
  all_goals
    have hT : R = Q := by rw [e1]; simp_all
    rcases kind_cases kind with hk | rfl | rfl | rfl | rfl | rfl | rfl | rfl | rfl
    · omega
  all_goals
    refine rn F ?_
    repeat' (first
      | with_reducible exact ⟨⟩
      | (refine sG F ?_ ?_ <;> intro hZ)
      | (refine sB F ?_ ?_ <;> intro hZ)
      | refine vp F (rules_v) ?_
      | refine vp F (r4) ?_
      | refine vp F (r5) ?_
      | refine vp F (q1) ?_
      | refine vp F (q2) ?_
      | refine vp F (q3) ?_)
  all_goals (try (congr 3; rw [hT, Bool.eq_iff_iff, e2]; clear hT e1 e2 e3 r1 r2 r3 r4 r5 q1 q2 q3; simp [txB]; first | omega | grind))
  all_goals skip
end
section
structure RS (s : List UInt8) where
  at_ : Int
  e : Int
  h : 0 ≤ at_ ∧ at_ ≤ s.length
def numV (s : List UInt8) (a k : Nat) : Int := IntKind.i64.wrap (accX s a k)
def numR (s : List UInt8) (r : RS s) (k : Nat) : Int × RS s :=
  if r.e = 0 then if h : r.at_ + k ≤ s.length then (numV s r.at_.toNat k, ⟨r.at_ + k, 0, by have := r.h; omega⟩) else (0, ⟨r.at_, 5, r.h⟩) else (0, r)
def textR (s : List UInt8) (r : RS s) (n : Int) : List UInt8 × RS s :=
  if r.e = 0 then if h : 0 ≤ n ∧ r.at_ + n ≤ s.length then ((s.take (r.at_ + n).toNat).drop r.at_.toNat, ⟨r.at_ + n, 0, by have := r.h; omega⟩) else ([], ⟨r.at_, 5, r.h⟩) else ([], r)
def cellK (s : List UInt8) (p : Int × RS s) : Ce × RS s :=
  if p.2.e = 0 ∧ ¬ p.1 = 255 then
    if 12 < p.1 then (Ce0, ⟨p.2.at_, 4, p.2.h⟩) else (⟨true, (textR s p.2 p.1).1⟩, (textR s p.2 p.1).2)
  else (Ce0, p.2)
def cellR (s : List UInt8) (r : RS s) : Ce × RS s := cellK s (numR s r 1)
theorem numV_in (s : List UInt8) (a k : Nat) (h : k ≤ 7) : 0 ≤ numV s a k ∧ numV s a k < 2 ^ (8 * k) := by
  have h1 := accX_leN s a k (by omega)
  have h2 := leN_lt s a k
  have h3 : (2 : Nat) ^ (8 * k) ≤ 2 ^ 56 := Nat.pow_le_pow_right (by omega) (by omega)
  have h4 : ((2 : Int) ^ (8 * k)) = ((2 ^ (8 * k) : Nat) : Int) := by rw [Int.natCast_pow]; rfl
  unfold numV
  rw [h1, IntKind.wrap_i64, h4]
  omega
theorem numR_in (s : List UInt8) (r : RS s) (k : Nat) (h : k ≤ 7) : 0 ≤ (numR s r k).1 := by
  unfold numR
  split
  · split
    · exact (numV_in s _ k h).1
    · exact Int.le_refl _
  · exact Int.le_refl _
abbrev RC (B : Blk) (d : DV) : DV → Heap → Prop := fun r h' => ∃ B', h' = [B'] ∧ B'.live = true ∧ DV.nums.go (fun _ => false) B'.cells = true ∧ r.nums (fun _ => false) = true ∧ (r = d ∧ B' = B)
def rdB (T : TypeId) (s : List UInt8) (r : RS s) : Blk := ⟨T, true, [.pv (.str s), .int .i64 r.at_, .int .i64 r.e]⟩
attribute [go_sem] rdB
attribute [local go_sem] Ce.d
theorem vc_rd {g : FuncId} {args : List DV} {hp : Heap} {k : Nat} {T : TypeId} {s : List UInt8} {r0 r1 : RS s} {d : DV} {K : DV → Heap → Prop} (h : VCalls prog g (args.map (DV.ren fun _ => 0)) [rdB T s r0] (RC (rdB T s r1) d)) (hk : hp[k]? = some (rdB T s r0))
    (ha : DV.nums.go (fun i => i == k) args = true) (hK : K d (hp.set k (rdB T s r1))) : VCalls prog g args hp K :=
  (VCalls.ptr1 (R := fun r B' => r = d ∧ B' = rdB T s r1) hk rfl rfl h ha).mono fun r h' ⟨B', e1, _, _, e2, e3⟩ => by subst e1 e2 e3; exact hK
theorem jnum_v (s : List UInt8) (hs : s.length ≤ 100000000) (r : RS s) (k : Nat) (hk : 1 ≤ k ∧ k ≤ 8) : VCalls prog 79 [.ptr 0 0, .int .i64 k] [rdB 130 s r] (RC (rdB 130 s (numR s r k).2) (.int .i64 (numR s r k).1)) := by
  refine dd Tryz.func79 ?_
  obtain ⟨a, e, ha⟩ := r
  obtain ⟨n, rfl⟩ : ∃ n : Nat, a = n := ⟨a.toNat, by omega⟩
  unfold numR
  dsimp only
  by_cases he : e = 0
  · subst he
    rw [if_pos rfl]
    by_cases h : (n : Int) + k ≤ s.length
    · rw [dif_pos h]
      have hg := get_v s (by omega) n k hk (by omega)
      (unfold Tryz.f79; refine rn trivial ?_)
      refine vspine (id := 3) [0, 1, 2, 3, 4, 5, 6, 7, 8] [⟨[], [], 9, [0, 1, 2, 4, 5, 6], [10, 11, 12]⟩, ⟨[], [], 13, [12], []⟩, ⟨[], [], 14, [], []⟩] (by kernel_rfl) (by kernel_rfl) ?_
      refine rn trivial ?_
      refine vc_pure hg rfl ?_
      refine rn trivial ?_
      exact ⟨_, rfl, rfl, rfl, rfl, rfl, rfl⟩
    · rw [dif_neg h]
      have hg := get_short s n k (by omega) (by omega) h
      (unfold Tryz.f79; refine rn trivial ?_)
      refine vspine (id := 3) [0, 1, 2, 3, 4, 5, 6, 7, 8] [⟨[], [], 9, [0, 1, 2, 4, 5, 6], [10, 11, 12]⟩, ⟨[], [], 13, [12], []⟩, ⟨[], [], 14, [], []⟩] (by kernel_rfl) (by kernel_rfl) ?_
      refine rn trivial ?_
      refine vc_pure hg rfl ?_
      refine rn trivial ?_
      exact ⟨_, rfl, rfl, rfl, rfl, rfl, rfl⟩
  · rw [if_neg he]
    (unfold Tryz.f79; refine rn @he ?_)
    exact ⟨_, rfl, rfl, rfl, rfl, rfl, rfl⟩
theorem jtext_v (s : List UInt8) (hs : s.length ≤ 100000000) (r : RS s) (n : Int) (hn : 0 ≤ n ∧ n ≤ 4294967296) : VCalls prog 81 [.ptr 0 0, .int .i64 n] [rdB 130 s r] (RC (rdB 130 s (textR s r n).2) (.pv (.str (textR s r n).1))) := by
  refine dd Tryz.func81 ?_
  obtain ⟨a, e, ha⟩ := r
  obtain ⟨n, rfl⟩ : ∃ m : Nat, n = m := ⟨n.toNat, by omega⟩
  obtain ⟨a, rfl⟩ : ∃ m : Nat, a = m := ⟨a.toNat, by omega⟩
  unfold textR
  dsimp only
  by_cases he : e = 0
  · subst he
    rw [if_pos rfl]
    by_cases h : 0 ≤ (n : Int) ∧ (a : Int) + n ≤ s.length
    · rw [dif_pos h]
      have q1 : ¬ (s.length : Int) - a < n := by omega
      have q2 : ¬ (s.length : Int) - a < n := by omega
      have q3 : ¬ (s.length : Int) - (a : Int) < (n : Int) := by omega
      have q4 : ((a : Int) + n).toNat = a + n := by omega
      have q5 : (a : Int) + n - n = a := by omega
      have q6 : a ≤ a + n := by omega
      have q7 : a + n ≤ s.length := by omega
      have q8 : 0 ≤ (a : Int) + n := by omega
      have q9 : (a : Int).toNat = a := by omega
      have q10 : ¬ (n : Int) > (s.length : Int) - a := by omega
      (unfold Tryz.f81; refine rn @q3 ?_)
      refine vdraw (by kernel_rfl) (by kernel_rfl) ?_
      refine rn (And.intro @q3 @q10) ?_
      refine vdraw (by kernel_rfl) (by kernel_rfl) ?_
      refine rn (And.intro @q4 (And.intro @q5 (And.intro @q6 (And.intro @q7 @q8)))) ?_
      exact ⟨_, rfl, rfl, rfl, rfl, rfl, rfl⟩
    · rw [dif_neg h]
      have q3 : (s.length : Int) - (a : Int) < (n : Int) := by omega
      (unfold Tryz.f81; refine rn @q3 ?_)
      refine vdraw (by kernel_rfl) (by kernel_rfl) ?_
      refine rn @q3 ?_
      exact ⟨_, rfl, rfl, rfl, rfl, rfl, rfl⟩
  · rw [if_neg he]
    (unfold Tryz.f81; refine rn @he ?_)
    refine vdraw (by kernel_rfl) (by kernel_rfl) ?_
    refine rn @he ?_
    exact ⟨_, rfl, rfl, rfl, rfl, rfl, rfl⟩
theorem jcellr_v (s : List UInt8) (hs : s.length ≤ 100000000) (r : RS s) : VCalls prog 80 [.ptr 0 0] [rdB 130 s r] (RC (rdB 130 s (cellR s r).2) (.agg (cellR s r).1.d)) := by
  refine dd Tryz.func80 ?_
  have hn := jnum_v s hs r 1 (by omega)
  have h0 := numR_in s r 1 (by omega)
  have h1 : (numR s r 1).1 ≤ 255 := by
    unfold numR
    split
    · split
      · have := (numV_in s r.at_.toNat 1 (by omega)).2; dsimp only; omega
      · simp
    · simp
  unfold cellR
  generalize numR s r 1 = p at hn h0 h1 ⊢
  obtain ⟨n, r1⟩ := p
  unfold cellK
  dsimp only at hn h0 h1 ⊢
  (unfold Tryz.f80; refine rn trivial ?_)
  refine vc_rd (k := 0) hn rfl rfl ?_
  by_cases he : r1.e = 0
  · by_cases h2 : n = 255
    · subst h2
      rw [if_neg (by simp)]
      refine rn @he ?_
      exact ⟨_, rfl, rfl, rfl, rfl, rfl, by rw [← he]⟩
    · rw [if_pos ⟨he, h2⟩]
      by_cases h3 : 12 < n
      · rw [if_pos h3]
        refine rn (And.intro @he (And.intro @h2 @h3)) ?_
        exact ⟨_, rfl, rfl, rfl, rfl, rfl, rfl⟩
      · rw [if_neg h3]
        have ht := jtext_v s hs r1 n (by omega)
        refine rn (And.intro @he (And.intro @h2 @h3)) ?_
        have e9 : (⟨130, true, [.pv (.str s), .int .i64 r1.at_, .int .i64 0]⟩ : Blk) = rdB 130 s r1 := by rw [rdB, he]
        rw [e9]
        refine vc_rd (k := 0) ht rfl rfl ?_
        refine rn trivial ?_
        exact ⟨_, rfl, rfl, rfl, rfl, rfl, rfl⟩
  · rw [if_neg (fun h => he h.1)]
    refine rn @he ?_
    exact ⟨_, rfl, rfl, rfl, rfl, rfl, rfl⟩
end
section
attribute [local go_sem] E.d Ch0 Ce0
theorem len8192 (l : List UInt8) : decide ((l.length : Int) ≤ 8192) = decide (l.length ≤ 8192) := by
  apply decide_eq_decide.2; omega
def E.shp (e : E) : E :=
  if e.kind = 1 then ⟨e.lsn, e.kind, e.tx, e.ptx, e.ppg, 0, e.c, []⟩
  else if e.kind = 2 then ⟨e.lsn, e.kind, e.tx, e.ptx, e.ppg, e.ref, e.c, []⟩
  else if e.kind = 3 ∨ e.kind = 4 ∨ e.kind = 5 then ⟨e.lsn, e.kind, e.tx, e.ptx, 0, 0, Ch0, []⟩
  else if e.kind = 6 ∨ e.kind = 8 then ⟨e.lsn, e.kind, 0, 0, 0, 0, Ch0, e.blob⟩
  else if e.kind = 7 then ⟨e.lsn, e.kind, 0, 0, 0, e.ref, ⟨e.c.pg, 0, Ce0, Ce0⟩, []⟩
  else ⟨e.lsn, e.kind, 0, 0, 0, 0, Ch0, []⟩
def E.shok (e : E) : Bool :=
  if e.kind = 1 then e.c.okB && decide (1 ≤ e.tx) && decide (e.tx ≤ 1073741824)
  else if e.kind = 2 then e.c.okB && decide (0 < e.ptx) && decide (1 ≤ e.ref) && decide (e.ref ≤ e.ptx) && decide (1 ≤ e.tx) && decide (e.tx ≤ 1073741824)
  else if e.kind = 3 ∨ e.kind = 4 ∨ e.kind = 5 then decide (1 ≤ e.tx) && decide (e.tx ≤ 1073741824) && decide (0 < e.ptx)
  else if e.kind = 6 ∨ e.kind = 8 then decide (e.blob.length ≤ 8192)
  else if e.kind = 7 then decide (0 ≤ e.c.pg) && decide (e.c.pg < 64)
  else false
def shD (e : E) : DV := .tup [.agg e.shp.d, .bool e.shok]
theorem shp_eq (lsn kind tx ptx ppg ref : Int) (c : Ch) (blob : List UInt8) : (⟨lsn, kind, tx, ptx, ppg, ref, c, blob⟩ : E).shp =
  if kind = 1 then ⟨lsn, kind, tx, ptx, ppg, 0, c, []⟩
  else if kind = 2 then ⟨lsn, kind, tx, ptx, ppg, ref, c, []⟩
  else if kind = 3 ∨ kind = 4 ∨ kind = 5 then ⟨lsn, kind, tx, ptx, 0, 0, Ch0, []⟩
  else if kind = 6 ∨ kind = 8 then ⟨lsn, kind, 0, 0, 0, 0, Ch0, blob⟩
  else if kind = 7 then ⟨lsn, kind, 0, 0, 0, ref, ⟨c.pg, 0, Ce0, Ce0⟩, []⟩
  else ⟨lsn, kind, 0, 0, 0, 0, Ch0, []⟩ := rfl
theorem shok_eq (lsn kind tx ptx ppg ref : Int) (c : Ch) (blob : List UInt8) : (⟨lsn, kind, tx, ptx, ppg, ref, c, blob⟩ : E).shok =
  if kind = 1 then c.okB && decide (1 ≤ tx) && decide (tx ≤ 1073741824)
  else if kind = 2 then c.okB && decide (0 < ptx) && decide (1 ≤ ref) && decide (ref ≤ ptx) && decide (1 ≤ tx) && decide (tx ≤ 1073741824)
  else if kind = 3 ∨ kind = 4 ∨ kind = 5 then decide (1 ≤ tx) && decide (tx ≤ 1073741824) && decide (0 < ptx)
  else if kind = 6 ∨ kind = 8 then decide (blob.length ≤ 8192)
  else if kind = 7 then decide (0 ≤ c.pg) && decide (c.pg < 64)
  else false := rfl
theorem shape_v (e : E) : VCalls prog 66 [.agg e.d] [] (Ret (shD e)) := by
  refine dd Tryz.func66 ?_
  unfold shD
  obtain ⟨lsn, kind, tx, ptx, ppg, ref, c, blob⟩ := e
  have q1 := rchok_v c
  dsimp only [Ch.d] at q1
  rw [shp_eq, shok_eq]
  generalize c.okB = K at *
  rcases kind_cases kind with hk | rfl | rfl | rfl | rfl | rfl | rfl | rfl | rfl
  · rw [if_neg (by omega), if_neg (by omega), if_neg (by omega), if_neg (by omega), if_neg (by omega), if_neg (by omega), if_neg (by omega), if_neg (by omega), if_neg (by omega), if_neg (by omega)]
    have k1 : (kind == 1) = false := by simp; omega
    have k2 : (kind == 2) = false := by simp; omega
    have k3 : (kind == 3) = false := by simp; omega
    have k4 : (kind == 4) = false := by simp; omega
    have k5 : (kind == 5) = false := by simp; omega
    have k6 : (kind == 6) = false := by simp; omega
    have k7 : (kind == 7) = false := by simp; omega
    have k8 : (kind == 8) = false := by simp; omega
    (unfold Tryz.f66; refine rn (And.intro @k1 (And.intro @k2 (And.intro @k3 (And.intro @k4 (And.intro @k5 (And.intro @k6 (And.intro @k7 @k8))))))) ?_; try with_reducible exact ⟨⟩)
  all_goals
    (unfold Tryz.f66; refine rn trivial ?_)
    refine rn F ?_
    repeat' (first
      | with_reducible exact ⟨⟩
      | (refine sG F ?_ ?_ <;> intro hZ)
      | refine vp F (q1) ?_
      | (refine vspine (id := 5) [0, 1, 2, 3, 4, 5, 6, 7, 8] [⟨[], [], 9, [2, 3, 4, 5, 6, 7], [10]⟩, ⟨[], [], 11, [4, 5, 6, 7], [12]⟩, ⟨[], [], 13, [6, 7], [14]⟩, ⟨[], [], 15, [], []⟩] (by kernel_rfl) (by kernel_rfl) ?_; refine rn F ?_)
      | (refine vspine (id := 10) [0, 1, 2, 3, 4, 5, 6, 7, 8, 9, 10, 11] [⟨[], [], 12, [1, 2, 3, 4, 5, 6, 8, 9, 10, 11], []⟩, ⟨[], [], 13, [], []⟩] (by kernel_rfl) (by kernel_rfl) ?_; refine rn F ?_)
      | (refine vspine (id := 14) [0, 1, 2, 3, 4] [⟨[], [], 5, [2, 3], [6]⟩, ⟨[], [], 7, [], []⟩] (by kernel_rfl) (by kernel_rfl) ?_; refine rn F ?_)
      | (refine vspine (id := 15) [0, 1, 2, 3, 4, 5, 6, 7, 8, 9, 10, 11, 12, 13] [⟨[], [], 14, [1, 2, 3, 4, 5, 6, 7, 8, 10, 11, 12, 13], []⟩, ⟨[], [], 15, [], []⟩] (by kernel_rfl) (by kernel_rfl) ?_; refine rn F ?_)
      | (refine vspine (id := 19) [0, 1, 2, 3, 4] [⟨[], [], 5, [1, 2, 3, 4], []⟩, ⟨[], [], 6, [], []⟩] (by kernel_rfl) (by kernel_rfl) ?_; refine rn F ?_)
      | (refine vspine (id := 21) [0, 1, 2, 3, 4, 5] [⟨[], [], 6, [2, 3, 4], [7, 8]⟩, ⟨[], [], 9, [7], []⟩] (by kernel_rfl) (by kernel_rfl) ?_; refine rn F ?_)
      | (refine vspine (id := 22) [0, 1, 2, 3, 4, 5, 6, 7, 8, 9, 10] [⟨[], [], 11, [1, 2, 3, 4, 6, 7, 8, 9, 10], []⟩, ⟨[], [], 12, [], []⟩] (by kernel_rfl) (by kernel_rfl) ?_; refine rn F ?_))
  all_goals first | rfl | (simp [Ch0, Ce0, len8192]; done)
def eqE (x y : E) : Bool := x.lsn == y.lsn && (x.kind == y.kind && (x.tx == y.tx && (x.ptx == y.ptx && (x.ppg == y.ppg && (x.ref == y.ref && (x.c.pg == y.c.pg && (x.c.sl == y.c.sl && (x.c.b.set == y.c.b.set && (x.c.b.data == y.c.b.data && (x.c.a.set == y.c.a.set && (x.c.a.data == y.c.a.data && x.blob == y.blob)))))))))))
theorem allEqE (x y : E) : allEq x.d y.d [(0, 1), (1, 1), (2, 1), (3, 1), (4, 1), (5, 1), (6, 1), (7, 1), (8, 0), (9, 2), (10, 0), (11, 2), (12, 2)] = some (eqE x y) := by
  simp [allEq, leafEq, E.d, eqE]
def E.okR (e : E) : Bool := e.shok && eqE e.shp e && decide (1 ≤ e.lsn) && decide (e.lsn ≤ 1099511627776) && bef e.ptx e.lsn && bef e.ppg e.lsn && bef e.ref e.lsn
theorem rvalidR_v (e : E) : VCalls prog 45 [.agg e.d] [] (Ret (.bool e.okR)) := by
  refine dd Tryz.func45 ?_
  have hq := allEqE e.shp e
  have hs := shape_v e
  unfold shD at hs
  simp only [E.d] at hq hs
  have b1 := rbefore_v e.ptx e.lsn
  have b2 := rbefore_v e.ppg e.lsn
  have b3 := rbefore_v e.ref e.lsn
  have e1 : e.okR = (e.shok && eqE e.shp e && decide (1 ≤ e.lsn) && decide (e.lsn ≤ 1099511627776) && bef e.ptx e.lsn && bef e.ppg e.lsn && bef e.ref e.lsn) := rfl
  generalize e.okR = R at *
  generalize bef e.ptx e.lsn = B1 at *
  generalize bef e.ppg e.lsn = B2 at *
  generalize bef e.ref e.lsn = B3 at *
  generalize e.shp = s at *
  generalize e.shok = ok at *
  generalize eqE s e = q at *
  (unfold Tryz.f45; refine rn trivial ?_)
  have F := @hq
  refine rn F ?_
  repeat' (first
    | with_reducible exact ⟨⟩
    | (refine sG F ?_ ?_ <;> intro hZ)
    | refine vp F (hs) ?_
    | refine vp F (b1) ?_
    | refine vp F (b2) ?_
    | refine vp F (b3) ?_)
  all_goals (congr 3; rw [e1, Bool.eq_iff_iff]; clear e1 b1 b2 b3 hs hq; simp; first | omega | grind)
theorem okR_ok (e : E) : e.okR = e.okB := by
  obtain ⟨lsn, kind, tx, ptx, ppg, ref, ⟨pg, sl, ⟨b1, b2⟩, ⟨a1, a2⟩⟩, blob⟩ := e
  rw [Bool.eq_iff_iff]
  by_cases h : kind < 1 ∨ 8 < kind
  · have e1 : E.shok ⟨lsn, kind, tx, ptx, ppg, ref, ⟨pg, sl, ⟨b1, b2⟩, ⟨a1, a2⟩⟩, blob⟩ = false := by unfold E.shok; rw [if_neg (by dsimp only; omega), if_neg (by dsimp only; omega), if_neg (by dsimp only; omega), if_neg (by dsimp only; omega), if_neg (by dsimp only; omega)]
    have e2 : E.kindB ⟨lsn, kind, tx, ptx, ppg, ref, ⟨pg, sl, ⟨b1, b2⟩, ⟨a1, a2⟩⟩, blob⟩ = false := by unfold E.kindB; rw [if_neg (by dsimp only; omega), if_neg (by dsimp only; omega), if_neg (by dsimp only; omega), if_neg (by dsimp only; omega), if_neg (by dsimp only; omega)]
    simp [E.okR, E.okB, e1, e2]
  · have hk : kind = 1 ∨ kind = 2 ∨ kind = 3 ∨ kind = 4 ∨ kind = 5 ∨ kind = 6 ∨ kind = 7 ∨ kind = 8 := by omega
    rcases hk with hk | hk | hk | hk | hk | hk | hk | hk <;> subst hk
    all_goals
      simp only [E.okR, E.okB, E.shok, E.shp, E.kindB, eqE, bef, txB, Ch.no, Ce.no, Ch.ix, Ch0, Ce0, Bool.and_eq_true, decide_eq_true_eq, beq_iff_eq, bne_iff_ne, Bool.not_eq_true', reduceIte, Int.reduceEq, or_self, or_false, false_or, or_true, true_or]
      grind
theorem rvalid_v (e : E) : VCalls prog 45 [.agg e.d] [] (Ret (.bool e.okB)) := by
  rw [← okR_ok]; exact rvalidR_v e
end
section
attribute [local go_sem] Ce.d
def rs0 (s : List UInt8) : RS s := ⟨0, 0, by omega⟩
theorem numR_le4 (s : List UInt8) (r : RS s) : (numR s r 4).1 ≤ 4294967296 := by
  unfold numR
  split
  · split
    · have := (numV_in s r.at_.toNat 4 (by omega)).2; dsimp only; omega
    · simp
  · simp
def decS (s : List UInt8) : E × RS s :=
  let p1 := numR s (rs0 s) 8
  let p2 := numR s p1.2 1
  let p3 := numR s p2.2 4
  let p4 := numR s p3.2 8
  let p5 := numR s p4.2 8
  let p6 := numR s p5.2 8
  let p7 := numR s p6.2 4
  let p8 := numR s p7.2 1
  let c1 := cellR s p8.2
  let c2 := cellR s c1.2
  let p9 := numR s c2.2 4
  let t := textR s p9.2 p9.1
  (⟨p1.1, p2.1, p3.1, p4.1, p5.1, p6.1, ⟨p7.1, p8.1, c1.1, c2.1⟩, t.1⟩, t.2)
def decE (s : List UInt8) : E × Int :=
  if (decS s).2.e = 0 then if (decS s).2.at_ = s.length then if (decS s).1.okB = true then ((decS s).1, 0) else (E0, 12) else (E0, 4) else (E0, (decS s).2.e)
theorem jdecode_v (s : List UInt8) (hs : s.length ≤ 100000000) : VCalls prog 58 [.pv (.str s)] [] (Ret (.tup [.agg (decE s).1.d, .int .i64 (decE s).2])) := by
  have hp1 := jnum_v s hs (rs0 s) 8 (by omega)
  generalize hqp1 : numR s (rs0 s) 8 = p1 at hp1
  have hp2 := jnum_v s hs p1.2 1 (by omega)
  generalize hqp2 : numR s p1.2 1 = p2 at hp2
  have hp3 := jnum_v s hs p2.2 4 (by omega)
  generalize hqp3 : numR s p2.2 4 = p3 at hp3
  have hp4 := jnum_v s hs p3.2 8 (by omega)
  generalize hqp4 : numR s p3.2 8 = p4 at hp4
  have hp5 := jnum_v s hs p4.2 8 (by omega)
  generalize hqp5 : numR s p4.2 8 = p5 at hp5
  have hp6 := jnum_v s hs p5.2 8 (by omega)
  generalize hqp6 : numR s p5.2 8 = p6 at hp6
  have hp7 := jnum_v s hs p6.2 4 (by omega)
  generalize hqp7 : numR s p6.2 4 = p7 at hp7
  have hp8 := jnum_v s hs p7.2 1 (by omega)
  generalize hqp8 : numR s p7.2 1 = p8 at hp8
  have hc1 := jcellr_v s hs p8.2
  generalize hqc1 : cellR s p8.2  = c1 at hc1
  have hc2 := jcellr_v s hs c1.2
  generalize hqc2 : cellR s c1.2  = c2 at hc2
  have hp9 := jnum_v s hs c2.2 4 (by omega)
  generalize hqp9 : numR s c2.2 4 = p9 at hp9
  have ht := jtext_v s hs p9.2 p9.1 ⟨by rw [← hqp9]; exact numR_in s _ 4 (by omega), by rw [← hqp9]; exact numR_le4 s _⟩
  generalize hqt : textR s p9.2 p9.1 = t at ht
  have hd : decS s = (⟨p1.1, p2.1, p3.1, p4.1, p5.1, p6.1, ⟨p7.1, p8.1, c1.1, c2.1⟩, t.1⟩, t.2) := by
    unfold decS
    simp only [hqp1, hqp2, hqp3, hqp4, hqp5, hqp6, hqp7, hqp8, hqc1, hqc2, hqp9, hqt]
  have hv := valid_v ⟨p1.1, p2.1, p3.1, p4.1, p5.1, p6.1, ⟨p7.1, p8.1, c1.1, c2.1⟩, t.1⟩
  unfold decE
  rw [hd]
  clear hqt hqp9 hqc2 hqc1 hqp8 hqp7 hqp6 hqp5 hqp4 hqp3 hqp2 hqp1 hd
  obtain ⟨n1, r1⟩ := p1
  obtain ⟨n2, r2⟩ := p2
  obtain ⟨n3, r3⟩ := p3
  obtain ⟨n4, r4⟩ := p4
  obtain ⟨n5, r5⟩ := p5
  obtain ⟨n6, r6⟩ := p6
  obtain ⟨n7, r7⟩ := p7
  obtain ⟨n8, r8⟩ := p8
  obtain ⟨x1, r9⟩ := c1
  obtain ⟨x2, r10⟩ := c2
  obtain ⟨n9, r11⟩ := p9
  obtain ⟨tt, r12⟩ := t
  dsimp only at *
  refine dd Tryz.func58 ?_
  (unfold Tryz.f58; refine rn trivial ?_)
  have e0 : (⟨130, true, [.pv (.str s), .int .i64 0, .int .i64 0]⟩ : Blk) = rdB 130 s (rs0 s) := rfl
  rw [e0]
  refine vc_rd (k := 1) hp1 rfl rfl ?_
  refine rn trivial ?_
  refine vc_rd (k := 1) hp2 rfl rfl ?_
  refine rn trivial ?_
  refine vc_rd (k := 1) hp3 rfl rfl ?_
  refine rn trivial ?_
  refine vc_rd (k := 1) hp4 rfl rfl ?_
  refine rn trivial ?_
  refine vc_rd (k := 1) hp5 rfl rfl ?_
  refine rn trivial ?_
  refine vc_rd (k := 1) hp6 rfl rfl ?_
  refine rn trivial ?_
  refine vc_rd (k := 1) hp7 rfl rfl ?_
  refine rn trivial ?_
  refine vc_rd (k := 1) hp8 rfl rfl ?_
  refine rn trivial ?_
  refine vc_rd (k := 1) hc1 rfl rfl ?_
  refine rn trivial ?_
  refine vc_rd (k := 1) hc2 rfl rfl ?_
  refine rn trivial ?_
  refine vc_rd (k := 1) hp9 rfl rfl ?_
  refine rn trivial ?_
  refine vc_rd (k := 1) ht rfl rfl ?_
  refine rn trivial ?_
  by_cases he : r12.e = 0
  · rw [if_pos he]
    by_cases ha : r12.at_ = s.length
    · rw [if_pos ha]
      refine rn (And.intro @he @ha) ?_
      by_cases hb : E.okB ⟨n1, n2, n3, n4, n5, n6, ⟨n7, n8, x1, x2⟩, tt⟩ = true
      · rw [if_pos hb]
        rw [hb] at hv
        refine vc_pure hv rfl ?_
        refine rn trivial ?_
        rfl
      · rw [if_neg hb]
        have hb : E.okB ⟨n1, n2, n3, n4, n5, n6, ⟨n7, n8, x1, x2⟩, tt⟩ = false := by simpa using hb
        rw [hb] at hv
        refine vc_pure hv rfl ?_
        refine rn trivial ?_
        rfl
    · rw [if_neg ha]
      refine rn (And.intro @he @ha) ?_
      rfl
  · rw [if_neg he]
    refine rn @he ?_
    refine vdraw (by kernel_rfl) (by kernel_rfl) ?_
    refine rn trivial ?_
    rfl
end
section
def encE : Enc E := ⟨13, fun x => [.lit (.int .i64 x.lsn), .lit (.int .i64 x.kind), .lit (.int .i64 x.tx), .lit (.int .i64 x.ptx), .lit (.int .i64 x.ppg), .lit (.int .i64 x.ref), .lit (.int .i64 x.c.pg), .lit (.int .i64 x.c.sl), .lit (.bool x.c.b.set), .str x.c.b.data, .lit (.bool x.c.a.set), .str x.c.a.data, .str x.blob], by decide, fun _ => rfl⟩
theorem lenE (l : List E) : (cells encE l).length = l.length * 13 := cells_len encE l
theorem allE (l : List E) (n : Nat) (h : l.length * 13 ≤ n) : (cells encE l).take n = cells encE l := by rw [List.take_of_length_le]; rw [lenE]; exact h
theorem appE (l m : List E) : cells encE l ++ cells encE m = cells encE (l ++ m) := (cells_app encE l m).symm
theorem slkE (l : List E) (T : TypeId) (a b : Nat) (h : a ≤ b ∧ b ≤ l.length) : vslk (some (none, T, 13)) (fz encE l) a b = some (.pv (.sl (fz encE ((l.take b).drop a)))) := vslk_fz encE l T a b h
theorem srcE (l : List E) : (fz encE l = [] ∨ (fz encE l)[0]?.map List.length = some 13) = True := fz_src encE l
theorem frzE {n : Nat} {hp : Heap} {len : Nat} {l : List E} (h : l.length = len) : frzC n hp 0 13 len (some (cells encE l)) = some (.sl (fz encE l)) := frzC_cells encE h
theorem app_E (l : List E) (e : E) : cells encE l ++ [.pv (.lit (.int .i64 e.lsn)), .pv (.lit (.int .i64 e.kind)), .pv (.lit (.int .i64 e.tx)), .pv (.lit (.int .i64 e.ptx)), .pv (.lit (.int .i64 e.ppg)), .pv (.lit (.int .i64 e.ref)), .pv (.lit (.int .i64 e.c.pg)), .pv (.lit (.int .i64 e.c.sl)), .pv (.lit (.bool e.c.b.set)), .pv (.str e.c.b.data), .pv (.lit (.bool e.c.a.set)), .pv (.str e.c.a.data), .pv (.str e.blob)] = cells encE (l ++ [e]) := by rw [cells_app]; rfl
theorem getD_eq {α : Type} (l : List α) (i : Nat) (h : i < l.length) (d : α) : l.getD i d = l[i] := by rw [List.getD_eq_getElem?_getD, List.getElem?_eq_getElem h]; rfl
structure To (n : Nat) where
  i : Nat
  hi : i ≤ n
structure Okay (n : Nat) (c : Nat → Bool) where
  i : Nat
  hi : i ≤ n
  ok : ∀ k, k < i → c k = true
def Okay.start (n : Nat) (c : Nat → Bool) : Okay n c := ⟨0, Nat.zero_le _, fun k h => by omega⟩
def Okay.next {n : Nat} {c : Nat → Bool} (s : Okay n c) (h : s.i < n) (hc : c s.i = true) : Okay n c := ⟨s.i + 1, h, fun k hk => by
  rcases Nat.lt_or_ge k s.i with hlt | hge
  · exact s.ok k hlt
  · obtain rfl : k = s.i := by omega
    exact hc⟩
theorem Okay.all {n : Nat} {c : Nat → Bool} (s : Okay n c) (h : ¬ s.i < n) : (List.range n).all c = true := by
  rw [List.all_eq_true]
  intro k hk
  rw [List.mem_range] at hk
  exact s.ok k (by omega)
theorem all_not {n : Nat} {c : Nat → Bool} {i : Nat} (h : i < n) (hc : c i = false) : (List.range n).all c = false := by
  rw [List.all_eq_false]
  exact ⟨i, List.mem_range.2 h, by rw [hc]; decide⟩
theorem fzE_d (l : List E) (i : Nat) (h : i < l.length) : (fz encE l)[i]? = some [.lit (.int .i64 (l.getD i E0).lsn), .lit (.int .i64 (l.getD i E0).kind), .lit (.int .i64 (l.getD i E0).tx), .lit (.int .i64 (l.getD i E0).ptx), .lit (.int .i64 (l.getD i E0).ppg), .lit (.int .i64 (l.getD i E0).ref), .lit (.int .i64 (l.getD i E0).c.pg), .lit (.int .i64 (l.getD i E0).c.sl), .lit (.bool (l.getD i E0).c.b.set), .str (l.getD i E0).c.b.data, .lit (.bool (l.getD i E0).c.a.set), .str (l.getD i E0).c.a.data, .str (l.getD i E0).blob] := by rw [getD_eq l i h]; exact fz_get encE l i h
structure Lg where
  f : Int
  es : List E
  d : Int
def Lg.c (x : Lg) : List DV := [.int .i64 x.f, .pv (.sl (fz encE x.es)), .int .i64 x.d]
attribute [local go_sem] Lg.c
def Lg0 : Lg := ⟨0, [], 0⟩
def Lg.hd (x : Lg) : Prop := 1 ≤ x.f ∧ x.f ≤ 1099511627776 ∧ x.es.length ≤ 4096 ∧ x.f - 1 ≤ x.d ∧ x.d ≤ x.f + x.es.length - 1
instance (x : Lg) : Decidable x.hd := by unfold Lg.hd; infer_instance
def lgC (x : Lg) (i : Nat) : Bool := decide ((x.es.getD i E0).lsn = x.f + i) && (x.es.getD i E0).okB
def lgB (x : Lg) : Bool := decide x.hd && (List.range x.es.length).all (lgC x)
def Lg.end_ (x : Lg) : Int := x.f + x.es.length - 1
theorem lgB_hd {x : Lg} (h : lgB x = true) : x.hd := by unfold lgB at h; simp at h; exact h.1
theorem jend_v (x : Lg) (h1 : -1099511627776 ≤ x.f ∧ x.f ≤ 1099511627776) (h2 : x.es.length ≤ 1000000) : VCalls prog 42 [.agg x.c] [] (Ret (.int .i64 x.end_)) := by
  refine dd Tryz.func42 ?_
  obtain ⟨f, es, d⟩ := x
  dsimp only at h1 h2
  (unfold Tryz.f42; refine rn trivial ?_)
  refine rn F ?_
  all_goals rfl
theorem jvalid_v (x : Lg) (hx : x.es.length ≤ 9223372036854775807) : VCalls prog 14 [.agg x.c] [] (Ret (.bool (lgB x))) := by
  refine dd Tryz.func14 ?_
  obtain ⟨f, es, d⟩ := x
  dsimp only at hx
  have hr := fun (i : Nat) => valid_v (es.getD i E0)
  have c1 := jend_v ⟨f, es, d⟩
  have hlg : ∀ i, lgC ⟨f, es, d⟩ i = true ↔ (es.getD i E0).lsn = f + i ∧ (es.getD i E0).okB = true := fun i => by simp [lgC]
  have hB : lgB ⟨f, es, d⟩ = (decide (Lg.hd ⟨f, es, d⟩) && (List.range es.length).all (lgC ⟨f, es, d⟩)) := rfl
  have hH : Lg.hd ⟨f, es, d⟩ = (1 ≤ f ∧ f ≤ 1099511627776 ∧ es.length ≤ 4096 ∧ f - 1 ≤ d ∧ d ≤ f + es.length - 1) := rfl
  have no : ¬ Lg.hd ⟨f, es, d⟩ → lgB ⟨f, es, d⟩ = false := fun h => by rw [hB, decide_eq_false h]; rfl
  unfold Lg.c at c1 ⊢
  unfold Lg.end_ at c1
  unfold E.d at hr
  dsimp only at c1 ⊢
  generalize lgC ⟨f, es, d⟩ = lc at *
  generalize lgB ⟨f, es, d⟩ = b at *
  (unfold Tryz.f14; refine rn trivial ?_)
  refine rn F ?_
  repeat' (first
    | with_reducible exact ⟨⟩
    | (refine sG F ?_ ?_ <;> intro hZ)
    | (refine sB F ?_ ?_ <;> intro hZ)
    | refine vp F (c1 (by omega) (by omega)) ?_
    | (refine vspine (id := 1) [0, 1, 2, 3, 4, 5, 6, 7, 8, 9, 10, 11, 12, 13, 14, 15, 16, 17, 18, 19, 20, 21, 22, 23, 24, 25] [⟨[], [], 26, [0, 1, 2, 3, 4, 5, 6, 7, 8, 9, 10, 11, 12, 13, 14, 15, 16, 17, 18, 19, 20, 21, 23, 24], [27, 28]⟩] (by kernel_rfl) (by kernel_rfl) ?_; refine rn F ?_))
  all_goals first | (rw [no (by rw [hH]; omega)]) | skip
  refine vloopW (fun s : Okay es.length lc => ⟨55, 0, [(37, .int .i64 s.i), (36, .int .i64 es.length), (35, .pv (.sl (fz encE es))), (1, .ptr 0 0)], [⟨25, true, [.int .i64 f, .pv (.sl (fz encE es)), .int .i64 d]⟩]⟩) (fun s => es.length - s.i) (Okay.start _ _) (gc [0]) ?_
  intro s
  have hsi := s.hi
  have hg := fun h : s.i < es.length => fzE_d es s.i h
  have F := @hg
  refine rn F ?_
  repeat' (first
    | with_reducible exact ⟨⟩
    | (refine sG F ?_ ?_ <;> intro hZ)
    | (refine sB F ?_ ?_ <;> intro hZ)
    | refine vp F (hr s.i) ?_)
  all_goals first
    | (rw [hB, all_not (i := s.i) (by omega) (Bool.eq_false_iff.2 fun h => by rw [hlg] at h; omega), Bool.and_false])
    | (rw [hB, all_not (i := s.i) (by omega) (Bool.eq_false_iff.2 fun h => by rw [hlg] at h; exact absurd h.2 (by simp_all)), Bool.and_false])
    | (rw [hB, s.all (by omega), decide_eq_true (by rw [hH]; omega)]; rfl)
    | (exact ⟨s.next (by omega) ((hlg _).2 ⟨by omega, by assumption⟩), by show es.length - (s.i + 1) < es.length - s.i; omega, (gc [0])⟩)
    | skip
end
section
attribute [local go_sem] lenE allE appE slkE srcE frzE app_E Tryz.underlying23
abbrev noK : Nat → Bool := fun _ => false
theorem cloneE_v (l : List E) (hl : l.length ≤ 1000000) : VCalls prog 49 [.pv (.sl (fz encE l))] [] (NewSl noK [] 13 l.length 31 (cells encE l)) := by
  refine VCalls.newSl ?_
  by_cases hz : l = []
  · subst hz
    refine VCalls.open0 fun ad cap hs => ?_
    refine vcalls_keep (fn := Tryz.f49) Tryz.func49 rfl (by kernel_rfl) (by simp [Tryz.f49]) ?_
    (unfold Tryz.f49; refine rn trivial ?_)
    refine vbr_split (fun h => ?_) (fun h => ?_)
    · (refine rn trivial ?_; try with_reducible exact ⟨⟩)
      exact ⟨by simp, .inl ⟨rfl, rfl, rfl⟩⟩
    · (refine rn trivial ?_; try with_reducible exact ⟨⟩)
      exact ⟨by simp, .inr ⟨_, .inl rfl, by simp, rfl, rfl⟩⟩
  · have hp : 0 < l.length := List.length_pos_iff.2 hz
    refine vcalls_keep (fn := Tryz.f49) Tryz.func49 rfl (by kernel_rfl) (by simp [Tryz.f49]) ?_
    have h0 := isNil_fz encE l hp
    have hx : (fz encE l)[0]?.map List.length = some 13 := fz_has encE l hp
    have hb : l.length * 128 ≤ 140737488355328 := by omega
    have hfl : pvs (fz encE l) = cells encE l := fz_flat encE l
    (unfold Tryz.f49; refine rn (And.intro @h0 (And.intro @hx (And.intro @hb @hfl))) ?_)
    exact ⟨by simp, .inr ⟨_, .inl rfl, by simp, rfl, cells_nums _ _ _⟩⟩
theorem clipE_v (l : List E) : VCalls prog 48 [.pv (.sl (fz encE l))] [] (Ret (.pv (.slc (fz encE l)))) := by
  refine dd Tryz.func48 ?_
  have h3 : vslk3 (some (none, 31, 13)) (fz encE l) 0 l.length l.length = some (.pv (.slc (fz encE l))) := vslk3_fz encE l _
  (unfold Tryz.f48; refine rn @h3 ?_; try with_reducible exact ⟨⟩)
def appS (x : Lg) (e : E) : Lg × Int × Int := if lgB x = false then (Lg0, 0, 26) else if x.es.length = 4096 ∨ 1099511627776 < x.end_ + 1 then (Lg0, 0, 21)
  else if ({ e with lsn := x.end_ + 1 } : E).okB = false then (Lg0, 0, 12) else (⟨x.f, x.es ++ [{ e with lsn := x.end_ + 1 }], x.d⟩, x.end_ + 1, 0)
def appD (r : Lg × Int × Int) : DV := .tup [.agg r.1.c, .int .i64 r.2.1, .int .i64 r.2.2]
theorem append_v (x : Lg) (hx : x.es.length ≤ 9223372036854775807) (e : E) : VCalls prog 19 [.agg x.c, .agg e.d] [] (Ret (appD (appS x e))) := by
  refine VCalls.unwk ?_
  refine dd Tryz.func19 ?_
  obtain ⟨f, es, d⟩ := x
  dsimp only at hx
  have c1 := jvalid_v ⟨f, es, d⟩ hx
  have c2 := jend_v ⟨f, es, d⟩
  have hh := @lgB_hd ⟨f, es, d⟩
  have c3 := valid_v { e with lsn := f + es.length - 1 + 1 }
  have e0 : appS ⟨f, es, d⟩ e = if lgB ⟨f, es, d⟩ = false then (Lg0, 0, 26) else if es.length = 4096 ∨ 1099511627776 < f + es.length - 1 + 1 then (Lg0, 0, 21)
    else if ({ e with lsn := f + es.length - 1 + 1 } : E).okB = false then (Lg0, 0, 12) else (⟨f, es ++ [{ e with lsn := f + es.length - 1 + 1 }], d⟩, f + es.length - 1 + 1, 0) := rfl
  unfold Lg.hd at hh
  unfold Lg.end_ at c2
  unfold Lg.c at c1 c2 ⊢
  unfold E.d at c3 ⊢
  obtain ⟨lsn, kind, tx, ptx, ppg, ref, c, blob⟩ := e
  dsimp only at *
  have c4 := clipE_v es
  rw [e0]
  have hl := app_E es ⟨f + es.length - 1 + 1, kind, tx, ptx, ppg, ref, c, blob⟩
  dsimp only at hl
  cases hv : lgB ⟨f, es, d⟩
  · rw [hv] at c1
    (unfold Tryz.f19; refine rn trivial ?_)
    refine rn F ?_
    repeat' (first
      | with_reducible exact ⟨⟩
      | refine vp F (c1) ?_)
    all_goals first | rfl | contradiction
  rw [hv] at c1
  rw [if_neg (by decide)]
  replace hh := hh hv
  have hb : (es.length + 1) * 128 ≤ 140737488355328 := by omega
  by_cases h1 : es.length = 4096 ∨ 1099511627776 < f + (es.length : Int) - 1 + 1
  · rw [if_pos h1]
    (unfold Tryz.f19; refine rn trivial ?_)
    refine rn F ?_
    repeat' (first
      | with_reducible exact ⟨⟩
      | (refine sG F ?_ ?_ <;> intro hZ)
      | refine vp F (c1) ?_
      | refine vp F (c2 (by omega) (by omega)) ?_)
    all_goals first | rfl | contradiction | omega
  rw [if_neg h1]
  generalize (⟨f + es.length - 1 + 1, kind, tx, ptx, ppg, ref, c, blob⟩ : E).okB = ok at *
  cases ok
  · rw [if_pos rfl]
    (unfold Tryz.f19; refine rn trivial ?_)
    refine rn F ?_
    repeat' (first
      | with_reducible exact ⟨⟩
      | refine vp F (c1) ?_
      | refine vp F (c2 (by omega) (by omega)) ?_
      | refine vp F (c3) ?_)
    all_goals first | rfl | contradiction | omega
  · rw [if_neg (by decide)]
    (unfold Tryz.f19; refine rn trivial ?_)
    have F := (And.intro @hl @hb)
    refine rn F ?_
    repeat' (first
      | with_reducible exact ⟨⟩
      | refine vp F (c1) ?_
      | refine vp F (c2 (by omega) (by omega)) ?_
      | refine vp F (c3) ?_
      | refine vp F (c4) ?_
      | (refine vspine (id := 8) [0, 1, 3] [⟨[4], [], 2, [0, 3], []⟩, ⟨[4], [4], 5, [0, 1, 3], [6]⟩, ⟨[], [], 7, [], []⟩] (by kernel_rfl) (by kernel_rfl) ?_; refine rn F ?_)
      | (refine vspine (id := 9) [0, 1, 2] [⟨[], [], 3, [1, 2], []⟩, ⟨[], [], 4, [], []⟩, ⟨[], [], 5, [], []⟩] (by kernel_rfl) (by kernel_rfl) ?_; refine rn F ?_))
    all_goals first | rfl | contradiction | omega | skip
end
section
attribute [local go_sem] lenE allE appE slkE srcE frzE app_E
def forceS (x : Lg) (n : Int) : Lg × Int := if lgB x = false then (Lg0, 26) else if x.end_ < n then (Lg0, 14) else (⟨x.f, x.es, if n > x.d then n else x.d⟩, 0)
def cutS (x : Lg) (n : Int) : Lg × Int := if lgB x = false then (Lg0, 26) else if n < x.f ∨ x.end_ + 1 < n ∨ 1099511627776 < n then (Lg0, 1) else if x.d < n - 1 then (Lg0, 15) else (⟨n, x.es.drop (n - x.f).toNat, x.d⟩, 0)
def lgD (r : Lg × Int) : DV := .tup [.agg r.1.c, .int .i64 r.2]
theorem force_v (x : Lg) (hx : x.es.length ≤ 9223372036854775807) (n : Int) : VCalls prog 23 [.agg x.c, .int .i64 n] [] (Ret (lgD (forceS x n))) := by
  refine VCalls.unwk ?_
  refine dd Tryz.func23 ?_
  obtain ⟨f, es, d⟩ := x
  dsimp only at hx
  have c1 := jvalid_v ⟨f, es, d⟩ hx
  have c2 := jend_v ⟨f, es, d⟩
  have hh := @lgB_hd ⟨f, es, d⟩
  have e0 : forceS ⟨f, es, d⟩ n = if lgB ⟨f, es, d⟩ = false then (Lg0, 26) else if f + es.length - 1 < n then (Lg0, 14) else (⟨f, es, if n > d then n else d⟩, 0) := rfl
  unfold Lg.hd at hh
  unfold Lg.end_ at c2
  unfold Lg.c at c1 c2 ⊢
  dsimp only at *
  rw [e0]
  cases hv : lgB ⟨f, es, d⟩
  · rw [hv] at c1
    (unfold Tryz.f23; refine rn trivial ?_)
    refine rn F ?_
    repeat' (first
      | with_reducible exact ⟨⟩
      | refine vp F (c1) ?_)
    all_goals first | rfl | contradiction
  rw [hv] at c1
  rw [if_neg (by decide)]
  replace hh := hh hv
  by_cases h1 : f + (es.length : Int) - 1 < n
  · rw [if_pos h1]
    (unfold Tryz.f23; refine rn trivial ?_)
    refine rn F ?_
    repeat' (first
      | with_reducible exact ⟨⟩
      | refine vp F (c1) ?_
      | refine vp F (c2 (by omega) (by omega)) ?_)
    all_goals first | rfl | contradiction | omega
  · rw [if_neg h1]
    (unfold Tryz.f23; refine rn trivial ?_)
    refine rn F ?_
    repeat' (first
      | with_reducible exact ⟨⟩
      | refine vp F (c1) ?_
      | refine vp F (c2 (by omega) (by omega)) ?_)
    all_goals first | rfl | contradiction | omega
theorem cut_v (x : Lg) (hx : x.es.length ≤ 9223372036854775807) (n : Int) : VCalls prog 25 [.agg x.c, .int .i64 n] [] (Ret (lgD (cutS x n))) := by
  refine VCalls.unwk ?_
  refine dd Tryz.func25 ?_
  obtain ⟨f, es, d⟩ := x
  dsimp only at hx
  have c1 := jvalid_v ⟨f, es, d⟩ hx
  have c2 := jend_v ⟨f, es, d⟩
  have hh := @lgB_hd ⟨f, es, d⟩
  have e0 : cutS ⟨f, es, d⟩ n = if lgB ⟨f, es, d⟩ = false then (Lg0, 26) else if n < f ∨ f + es.length - 1 + 1 < n ∨ 1099511627776 < n then (Lg0, 1) else if d < n - 1 then (Lg0, 15) else (⟨n, es.drop (n - f).toNat, d⟩, 0) := rfl
  unfold Lg.hd at hh
  unfold Lg.end_ at c2
  unfold Lg.c at c1 c2 ⊢
  dsimp only at *
  rw [e0]
  cases hv : lgB ⟨f, es, d⟩
  · rw [hv] at c1
    (unfold Tryz.f25; refine rn trivial ?_)
    refine rn F ?_
    repeat' (first
      | with_reducible exact ⟨⟩
      | refine vp F (c1) ?_)
    all_goals first | rfl | contradiction
  rw [hv] at c1
  rw [if_neg (by decide)]
  replace hh := hh hv
  by_cases h1 : n < f ∨ f + (es.length : Int) - 1 + 1 < n ∨ 1099511627776 < n
  · rw [if_pos h1]
    (unfold Tryz.f25; refine rn trivial ?_)
    refine rn F ?_
    repeat' (first
      | with_reducible exact ⟨⟩
      | (refine sG F ?_ ?_ <;> intro hZ)
      | refine vp F (c1) ?_
      | refine vp F (c2 (by omega) (by omega)) ?_)
    all_goals first | rfl | contradiction | omega
  rw [if_neg h1]
  by_cases h2 : d < n - 1
  · rw [if_pos h2]
    (unfold Tryz.f25; refine rn trivial ?_)
    refine rn F ?_
    repeat' (first
      | with_reducible exact ⟨⟩
      | refine vp F (c1) ?_
      | refine vp F (c2 (by omega) (by omega)) ?_)
    all_goals first | rfl | contradiction | omega
  rw [if_neg h2]
  obtain ⟨k, hk⟩ : ∃ k : Nat, n = f + k := ⟨(n - f).toNat, by omega⟩
  subst hk
  rw [show (f + (k : Int) - f).toNat = k by omega]
  have c4 := cloneE_v (es.drop k) (by rw [List.length_drop]; omega)
  have hkl : k ≤ es.length := by omega
  have e1 : (f + (k : Int) - f) = k := by omega
  have hsl := slkE es 31 k es.length ⟨hkl, Nat.le_refl _⟩
  rw [List.take_length] at hsl
  (unfold Tryz.f25; refine rn trivial ?_)
  have F := (And.intro @e1 (And.intro @hsl (@List.length_drop E)))
  refine rn F ?_
  repeat' (first
    | with_reducible exact ⟨⟩
    | refine vp F (c1) ?_
    | refine vp F (c2 (by omega) (by omega)) ?_
    | (refine vc_new0 (c4) rfl (cells_nums _ _ _) ?_; refine rn F ?_))
  all_goals first | rfl | contradiction | omega
end
section
structure Tx where
  id : Int
  st : Int
  n : Int
  b : Int
  l : List Int
  s : List Int
def encT : Enc Tx := ⟨6, fun t => [.lit (.int .i64 t.id), .lit (.int .i64 t.st), .lit (.int .i64 t.n), .lit (.int .i64 t.b), .sl (fz encI t.l), .sl (fz encI t.s)], by decide, fun _ => rfl⟩
def Tx.d (t : Tx) : List DV := [.int .i64 t.id, .int .i64 t.st, .int .i64 t.n, .int .i64 t.b, .pv (.sl (fz encI t.l)), .pv (.sl (fz encI t.s))]
def ascC (l : List Int) (lo hi d : Int) (i : Nat) : Bool := decide (lo ≤ l.getD i 0) && decide (l.getD i 0 ≤ hi) && (decide (i = 0) || decide (l.getD (i - 1) 0 + d ≤ l.getD i 0))
def ascB (l : List Int) (lo hi d : Int) : Bool := (List.range l.length).all (ascC l lo hi d)
theorem ascC_iff (l : List Int) (lo hi d : Int) (i : Nat) : ascC l lo hi d i = true ↔ lo ≤ l.getD i 0 ∧ l.getD i 0 ≤ hi ∧ (i = 0 ∨ l.getD (i - 1) 0 + d ≤ l.getD i 0) := by
  simp only [ascC, Bool.and_eq_true, Bool.or_eq_true, decide_eq_true_eq, and_assoc]
def Tx.sm (t : Tx) : Prop := t.l.length ≤ 9223372036854775807 ∧ t.s.length ≤ 9223372036854775807
def Tx.hdB (t : Tx) : Bool := decide (1 ≤ t.id) && decide (t.id ≤ 1073741824) && decide (1 ≤ t.st) && decide (t.st ≤ 3) && decide (0 ≤ t.n) && decide (t.n ≤ 1099511627776) && (decide (t.b = 0) || (decide (t.st = 2) && decide (0 < t.b) && decide (t.b ≤ t.n))) && decide (t.l.length ≤ 4096) && decide (t.s.length ≤ 8)
def Tx.okB (t : Tx) : Bool := t.hdB && ascB t.l 1 t.n 1 && ascB t.s 0 t.n 0
def Tx0 : Tx := ⟨0, 0, 0, 0, [], []⟩
def tC (l : List Tx) (i : Nat) : Bool := (l.getD i Tx0).okB && (decide (i = 0) || decide ((l.getD (i - 1) Tx0).id < (l.getD i Tx0).id))
theorem tC_iff (l : List Tx) (i : Nat) : tC l i = true ↔ (l.getD i Tx0).okB = true ∧ (i = 0 ∨ (l.getD (i - 1) Tx0).id < (l.getD i Tx0).id) := by
  simp only [tC, Bool.and_eq_true, Bool.or_eq_true, decide_eq_true_eq]
def tblB (l : List Tx) : Bool := decide (l.length ≤ 64) && (List.range l.length).all (tC l)
def smL (l : List Tx) : Prop := l.length ≤ 1000000 ∧ ∀ t ∈ l, t.sm
theorem fzT_at (l : List Tx) (i : Nat) (h : i < l.length) : (fz encT l)[i]? = some [.lit (.int .i64 l[i].id), .lit (.int .i64 l[i].st), .lit (.int .i64 l[i].n), .lit (.int .i64 l[i].b), .sl (fz encI l[i].l), .sl (fz encI l[i].s)] := fz_get encT l i h
structure Pass {α : Type} (l : List α) (p : α → Prop) where
  i : Nat
  hi : i ≤ l.length
  no : ∀ x ∈ l.take i, ¬ p x
def Pass.start {α : Type} (l : List α) (p : α → Prop) : Pass l p := ⟨0, Nat.zero_le _, by simp⟩
def Pass.next {α : Type} {l : List α} {p : α → Prop} (s : Pass l p) (h : s.i < l.length) (hp : ¬ p l[s.i]) : Pass l p :=
  ⟨s.i + 1, h, fun x hx => by
    rw [List.take_succ_eq_append_getElem h, List.mem_append] at hx
    rcases hx with hx | hx
    · exact s.no x hx
    · simp at hx; subst hx; exact hp⟩
theorem Pass.all {α : Type} {l : List α} {p : α → Prop} (s : Pass l p) (h : ¬ s.i < l.length) : ∀ x ∈ l, ¬ p x := by
  have := s.no
  rwa [List.take_of_length_le (by omega)] at this
def idxP {α : Type} (l : List α) (p : α → Bool) : Int := if l.any p = true then (l.findIdx p : Int) else -1
theorem idxP_at {α : Type} (l : List α) (p : α → Bool) (i : Nat) (h : i < l.length) (hx : p l[i] = true) (no : ∀ x ∈ l.take i, ¬ p x = true) : idxP l p = i := by
  rw [idxP, if_pos (List.any_eq_true.2 ⟨l[i], List.getElem_mem h, hx⟩)]
  congr 1
  rw [List.findIdx_eq h]
  refine ⟨hx, fun j hj => ?_⟩
  have := no l[j] (List.mem_take_iff_getElem.2 ⟨j, by omega, rfl⟩)
  simpa using this
theorem idxP_find {α : Type} (l : List α) (p : α → Bool) : (idxP l p = -1 ∧ l.find? p = none) ∨ ∃ i, ∃ h : i < l.length, idxP l p = i ∧ l.find? p = some l[i] := by
  by_cases ha : l.any p = true
  · obtain ⟨x, hm, hp⟩ := List.any_eq_true.1 ha
    have hlt := List.findIdx_lt_length_of_exists ⟨x, hm, hp⟩
    refine .inr ⟨l.findIdx p, hlt, by rw [idxP, if_pos ha], ?_⟩
    rw [List.find?_eq_some_iff_getElem]
    refine ⟨List.findIdx_getElem (w := hlt), _, hlt, rfl, fun j hj => ?_⟩
    have := List.not_of_lt_findIdx hj
    simpa using this
  · refine .inl ⟨by rw [idxP, if_neg ha], ?_⟩
    rw [List.find?_eq_none]
    intro x hx hp
    exact ha (List.any_eq_true.2 ⟨x, hx, hp⟩)
def lo {α : Type} (l : List α) (f : α → Bool) : Nat := (l.takeWhile f).length
def Fore {α : Type} (l : List α) (f : α → Bool) : Prop := ∀ i j : Nat, ∀ hi : i < l.length, ∀ hj : j < l.length, i < j → f l[j] = true → f l[i] = true
theorem lo_le {α : Type} (l : List α) (f : α → Bool) : lo l f ≤ l.length := (List.takeWhile_sublist _).length_le
theorem lo_eq {α : Type} (l : List α) (f : α → Bool) (i : Nat) (hi : i ≤ l.length) (h1 : ∀ k, ∀ hk : k < l.length, k < i → f l[k] = true) (h2 : ∀ hi : i < l.length, f l[i] = false) : lo l f = i := by
  unfold lo
  induction l generalizing i with
  | nil => simp at hi; subst hi; rfl
  | cons a r ih =>
    cases i with
    | zero =>
      have := h2 (by simp)
      simp only [List.getElem_cons_zero] at this
      rw [List.takeWhile_cons, this]; rfl
    | succ i =>
      have h0 := h1 0 (by simp) (by omega)
      simp only [List.getElem_cons_zero] at h0
      rw [List.takeWhile_cons, h0]
      simp only [if_true, List.length_cons]
      rw [ih i (by simpa using hi) (fun k hk hki => h1 (k + 1) (by simpa using hk) (by omega)) (fun hi => h2 (by simpa using hi))]
structure BS {α : Type} (l : List α) (f : α → Bool) where
  i : Nat
  j : Nat
  hij : i ≤ j
  hj : j ≤ l.length
  h1 : ∀ k, ∀ hk : k < l.length, k < i → f l[k] = true
  h2 : ∀ hj : j < l.length, f l[j] = false
def BS.start {α : Type} (l : List α) (f : α → Bool) : BS l f := ⟨0, l.length, Nat.zero_le _, Nat.le_refl _, fun k hk h => by omega, fun h => by omega⟩
def BS.up {α : Type} {l : List α} {f : α → Bool} (s : BS l f) (hf : Fore l f) (h : Nat) (h1 : s.i ≤ h) (h2 : h < s.j) (hx : f (l[h]'(Nat.lt_of_lt_of_le h2 s.hj)) = true) : BS l f :=
  ⟨h + 1, s.j, h2, s.hj, fun k hk hki => by
    rcases Nat.lt_or_ge k h with hlt | hge
    · exact hf k h hk (Nat.lt_of_lt_of_le h2 s.hj) hlt hx
    · obtain rfl : k = h := by omega
      exact hx, s.h2⟩
theorem BS.fin {α : Type} {l : List α} {f : α → Bool} (s : BS l f) (h : ¬ s.i < s.j) : lo l f = s.i := by
  have e : s.i = s.j := by have := s.hij; omega
  exact lo_eq l f s.i (by have := s.hj; omega) s.h1 (fun hi => by
    have := s.h2 (e ▸ hi)
    simpa only [e] using this)
theorem fzT_d (l : List Tx) (i : Nat) (h : i < l.length) : (fz encT l)[i]? = some [.lit (.int .i64 (l.getD i Tx0).id), .lit (.int .i64 (l.getD i Tx0).st), .lit (.int .i64 (l.getD i Tx0).n), .lit (.int .i64 (l.getD i Tx0).b), .sl (fz encI (l.getD i Tx0).l), .sl (fz encI (l.getD i Tx0).s)] := by rw [getD_eq l i h]; exact fzT_at l i h
attribute [local go_sem] Tx.d mem_ok List.length_append List.length_take List.length_drop List.take_length toNat_succ toNat_pred toNat_add toNat_sub
theorem rright_v (t : Tx) (hs : t.sm) : VCalls prog 203 [.agg t.d] [] (Ret (.bool t.okB)) := by
  refine dd Tryz.func203 ?_
  obtain ⟨id, st, n, b, l, s⟩ := t
  obtain ⟨hs1, hs2⟩ := hs
  dsimp only at hs1 hs2
  have e : (⟨id, st, n, b, l, s⟩ : Tx).okB = ((⟨id, st, n, b, l, s⟩ : Tx).hdB && ascB l 1 n 1 && ascB s 0 n 0) := rfl
  have eh : (⟨id, st, n, b, l, s⟩ : Tx).hdB = (decide (1 ≤ id) && decide (id ≤ 1073741824) && decide (1 ≤ st) && decide (st ≤ 3) && decide (0 ≤ n) && decide (n ≤ 1099511627776) && (decide (b = 0) || (decide (st = 2) && decide (0 < b) && decide (b ≤ n))) && decide (l.length ≤ 4096) && decide (s.length ≤ 8)) := rfl
  generalize (⟨id, st, n, b, l, s⟩ : Tx).hdB = H at *
  generalize (⟨id, st, n, b, l, s⟩ : Tx).okB = K at *
  unfold Tx.d
  (unfold Tryz.f203; refine rn trivial ?_)
  refine rn F ?_
  repeat' (first
    | with_reducible exact ⟨⟩
    | (refine sG F ?_ ?_ <;> intro hZ)
    | (refine sB F ?_ ?_ <;> intro hZ))
  all_goals first
    | (rw [e, Bool.eq_false_iff.2 (show ¬ H = true from fun h => by rw [eh] at h; simp only [Bool.and_eq_true, Bool.or_eq_true, decide_eq_true_eq] at h; omega)]; rfl)
    | skip
  all_goals
    have hh : H = true := by rw [eh]; simp only [Bool.and_eq_true, Bool.or_eq_true, decide_eq_true_eq]; omega
    refine vloopW (fun q : Okay l.length (ascC l 1 n 1) => ⟨147, 0, [(3, .int .i64 q.i), (1, .ptr 0 0)], [⟨226, true, [.int .i64 id, .int .i64 st, .int .i64 n, .int .i64 b, .pv (.sl (fz encI l)), .pv (.sl (fz encI s))]⟩]⟩) (fun q => l.length - q.i) (Okay.start _ _) (by exact (gc [0])) ?_
    intro q
    have hqi := q.hi
    have hg := fun h : q.i < l.length => fzI_get l q.i h
    have hgp : 0 < (q.i : Int) → (q.i : Int) < l.length → (fz encI l)[q.i - 1]? = some [.lit (.int .i64 (l.getD (q.i - 1) 0))] := fun h h2 => by
      exact fzI_get l (q.i - 1) (by omega)
    have F := (And.intro @hg @hgp)
    refine rn F ?_
    repeat' (first
      | with_reducible exact ⟨⟩
      | (refine sG F ?_ ?_ <;> intro hZ)
      | (refine sB F ?_ ?_ <;> intro hZ)
      | (refine vspine (id := 8) [0, 1, 2, 3, 4, 5, 6, 7, 8, 9, 10, 11, 12, 13, 14, 15, 16, 17, 18, 19, 20, 21, 22, 23, 24, 25, 26, 27, 28, 29, 30, 31, 32, 33] [] (by kernel_rfl) (by kernel_rfl) ?_; refine rn F ?_))
    all_goals first
      | (rw [e, ascB, ascB, all_not (n := l.length) (c := ascC l 1 n 1) (i := q.i) (by omega) (Bool.eq_false_iff.2 fun h => by rw [ascC_iff] at h; omega)]; simp)
      | (exact ⟨q.next (by omega) ((ascC_iff _ _ _ _ _).2 (by omega)), by show l.length - (q.i + 1) < l.length - q.i; omega, (gc [0])⟩)
      | skip
    have hL : ascB l 1 n 1 = true := q.all (by omega)
    clear hg hgp hqi
    refine vloopW (fun q : Okay s.length (ascC s 0 n 0) => ⟨147, 0, [(4, .int .i64 q.i), (1, .ptr 0 0)], [⟨226, true, [.int .i64 id, .int .i64 st, .int .i64 n, .int .i64 b, .pv (.sl (fz encI l)), .pv (.sl (fz encI s))]⟩]⟩) (fun q => s.length - q.i) (Okay.start _ _) (by exact (gc [0])) ?_
    intro q
    have hqi := q.hi
    have hg := fun h : q.i < s.length => fzI_get s q.i h
    have hgp : 0 < (q.i : Int) → (q.i : Int) < s.length → (fz encI s)[q.i - 1]? = some [.lit (.int .i64 (s.getD (q.i - 1) 0))] := fun h h2 => by
      exact fzI_get s (q.i - 1) (by omega)
    have F := (And.intro @hg @hgp)
    refine rn F ?_
    repeat' (first
      | with_reducible exact ⟨⟩
      | (refine sG F ?_ ?_ <;> intro hZ)
      | (refine sB F ?_ ?_ <;> intro hZ)
      | (refine vspine (id := 13) [0, 1, 2, 3, 4, 5, 6, 7, 8, 9, 10, 11, 12, 13, 14, 15, 16, 17, 18, 19, 20, 21, 22, 23, 24, 25, 26, 27, 28, 29, 30, 31, 32, 33] [] (by kernel_rfl) (by kernel_rfl) ?_; refine rn F ?_))
    all_goals first
      | (rw [e, ascB, ascB, all_not (n := s.length) (c := ascC s 0 n 0) (i := q.i) (by omega) (Bool.eq_false_iff.2 fun h => by rw [ascC_iff] at h; omega)]; simp)
      | (exact ⟨q.next (by omega) ((ascC_iff _ _ _ _ _).2 (by omega)), by show s.length - (q.i + 1) < s.length - q.i; omega, (gc [0])⟩)
      | skip
    rw [e, hh, hL, show ascB s 0 n 0 = true from q.all (by omega)]
    rfl
theorem rtvalid_v (l : List Tx) (hl : smL l) : VCalls prog 162 [.pv (.sl (fz encT l))] [] (Ret (.bool (tblB l))) := by
  refine dd Tryz.func162 ?_
  obtain ⟨hl, hm⟩ := hl
  have hr := fun (i : Nat) (h : i < l.length) => rright_v (l.getD i Tx0) (by rw [getD_eq l i h]; exact hm _ (List.getElem_mem h))
  unfold Tx.d at hr
  (unfold Tryz.f162; refine rn trivial ?_)
  refine rn F ?_
  repeat' (first
    | with_reducible exact ⟨⟩
    | (refine sB F ?_ ?_ <;> intro hZ))
  · rw [tblB, decide_eq_false (by omega)]; rfl
  refine vloopW (fun s : Okay l.length (tC l) => ⟨37, 0, [(3, .int .i64 s.i), (0, .pv (.sl (fz encT l)))], []⟩) (fun s => l.length - s.i) (Okay.start _ _) (gc []) ?_
  intro s
  have hsi := s.hi
  have hg := fun h : s.i < l.length => fzT_d l s.i h
  have hgp : 0 < (s.i : Int) → (s.i : Int) < l.length → (fz encT l)[s.i - 1]? = some [.lit (.int .i64 (l.getD (s.i - 1) Tx0).id), .lit (.int .i64 (l.getD (s.i - 1) Tx0).st), .lit (.int .i64 (l.getD (s.i - 1) Tx0).n), .lit (.int .i64 (l.getD (s.i - 1) Tx0).b), .sl (fz encI (l.getD (s.i - 1) Tx0).l), .sl (fz encI (l.getD (s.i - 1) Tx0).s)] := fun h h2 => by
    exact fzT_d l (s.i - 1) (by omega)
  have F := (And.intro @hg @hgp)
  refine rn F ?_
  repeat' (first
    | with_reducible exact ⟨⟩
    | (refine sG F ?_ ?_ <;> intro hZ)
    | (refine sB F ?_ ?_ <;> intro hZ)
    | refine vp F (hr s.i (by omega)) ?_
    | (refine vspine (id := 6) [0, 1, 2, 3] [⟨[], [], 4, [0, 1, 2], [5, 6, 7, 8, 9, 10, 11, 12, 13, 14, 15, 16, 17, 18, 19, 20, 21, 22, 23]⟩] (by kernel_rfl) (by kernel_rfl) ?_; refine rn F ?_))
  all_goals first
    | (rw [tblB, all_not (i := s.i) (by omega) (Bool.eq_false_iff.2 fun h => by rw [tC_iff] at h; omega), Bool.and_false])
    | (rw [tblB, all_not (i := s.i) (by omega) (Bool.eq_false_iff.2 fun h => by rw [tC_iff] at h; first | exact absurd h.1 (by assumption) | (have h1 := h.1; simp_all)), Bool.and_false])
    | (rw [tblB, s.all (by omega), decide_eq_true (by omega)]; rfl)
    | (exact ⟨s.next (by omega) ((tC_iff _ _).2 ⟨by assumption, by omega⟩), by show l.length - (s.i + 1) < l.length - s.i; omega, (gc [])⟩)
    | skip
def keepL {α : Type} (l : List α) (p : α → Bool) : List α := l.filter fun x => !p x
structure DF {α : Type} (l : List α) (p : α → Bool) where
  j : Nat
  hj : j ≤ l.length
  cur : List α
  hl : cur.length = l.length
  h1 : cur.take (keepL (l.take j) p).length = keepL (l.take j) p
  h2 : cur.drop j = l.drop j
  h3 : (keepL (l.take j) p).length < j
def DF.i {α : Type} {l : List α} {p : α → Bool} (s : DF l p) : Nat := (keepL (l.take s.j) p).length
theorem keepL_take_succ {α : Type} (l : List α) (p : α → Bool) (j : Nat) (h : j < l.length) : keepL (l.take (j + 1)) p = keepL (l.take j) p ++ (if p l[j] = true then [] else [l[j]]) := by
  rw [List.take_succ_eq_append_getElem h, keepL, List.filter_append]
  cases hp : p l[j] <;> simp [keepL, hp]
theorem keepL_none {α : Type} (l : List α) (p : α → Bool) (h : ∀ x ∈ l, ¬ p x = true) : keepL l p = l := by
  rw [keepL, List.filter_eq_self]; intro x hx; simpa using h x hx
def DF.start {α : Type} (l : List α) (p : α → Bool) (i : Nat) (h : i < l.length) (hp : p l[i] = true) (no : ∀ x ∈ l.take i, ¬ p x = true) : DF l p :=
  have e : keepL (l.take (i + 1)) p = l.take i := by rw [keepL_take_succ l p i h, if_pos hp, List.append_nil, keepL_none _ p no]
  have el : (l.take i).length = i := by rw [List.length_take]; omega
  ⟨i + 1, h, l, rfl, by rw [e, el], rfl, by rw [e, el]; omega⟩
theorem DF.get {α : Type} {l : List α} {p : α → Bool} (s : DF l p) (h : s.j < l.length) (d : α) : s.cur.getD s.j d = l[s.j] := by
  have := congrArg (fun x => x[0]?) s.h2
  simp only [List.getElem?_drop, Nat.add_zero] at this
  rw [List.getD_eq_getElem?_getD, this, List.getElem?_eq_getElem h]; rfl
def DF.out {α : Type} {l : List α} {p : α → Bool} (s : DF l p) (h : s.j < l.length) (hp : p l[s.j] = true) : DF l p :=
  have e : keepL (l.take (s.j + 1)) p = keepL (l.take s.j) p := by rw [keepL_take_succ l p s.j h, if_pos hp, List.append_nil]
  ⟨s.j + 1, h, s.cur, s.hl, by rw [e]; exact s.h1, by
    have := congrArg (List.drop 1) s.h2
    rwa [List.drop_drop, List.drop_drop] at this, by rw [e]; have := s.h3; omega⟩
def DF.stay {α : Type} {l : List α} {p : α → Bool} (s : DF l p) (h : s.j < l.length) (hp : ¬ p l[s.j] = true) : DF l p :=
  have e : keepL (l.take (s.j + 1)) p = keepL (l.take s.j) p ++ [l[s.j]] := by rw [keepL_take_succ l p s.j h, if_neg hp]
  have hi : s.i < s.j := s.h3
  have hil : s.i < s.cur.length := by rw [s.hl]; have := s.hj; omega
  ⟨s.j + 1, h, s.cur.set s.i l[s.j], by rw [List.length_set]; exact s.hl, by
    rw [e, List.length_append, List.length_singleton]
    show (s.cur.set s.i l[s.j]).take (s.i + 1) = _
    rw [List.take_succ_eq_append_getElem (by rw [List.length_set]; exact hil), List.getElem_set_self, List.take_set_of_le (Nat.le_refl _)]
    congr 1
    exact s.h1, by
    rw [List.drop_set_of_lt (by omega)]
    have := congrArg (List.drop 1) s.h2
    rwa [List.drop_drop, List.drop_drop] at this, by
    rw [e, List.length_append, List.length_singleton]
    have : (keepL (l.take s.j) p).length = s.i := rfl
    omega⟩
theorem keepL_le {α : Type} (l : List α) (p : α → Bool) : (keepL l p).length ≤ l.length := List.length_filter_le _ _
theorem lenT (l : List Tx) : (cells encT l).length = l.length * 6 := cells_len encT l
theorem allT (l : List Tx) (n : Nat) (h : l.length * 6 ≤ n) : (cells encT l).take n = cells encT l := by rw [List.take_of_length_le]; rw [lenT]; exact h
theorem appT (l m : List Tx) : cells encT l ++ cells encT m = cells encT (l ++ m) := (cells_app encT l m).symm
theorem slkT (l : List Tx) (T : TypeId) (a b : Nat) (h : a ≤ b ∧ b ≤ l.length) : vslk (some (none, T, 6)) (fz encT l) a b = some (.pv (.sl (fz encT ((l.take b).drop a)))) := vslk_fz encT l T a b h
theorem srcT (l : List Tx) : (fz encT l = [] ∨ (fz encT l)[0]?.map List.length = some 6) = True := fz_src encT l
theorem frzT {n : Nat} {hp : Heap} {len : Nat} {l : List Tx} (h : l.length = len) : frzC n hp 0 6 len (some (cells encT l)) = some (.sl (fz encT l)) := frzC_cells encT h
theorem wk_T (l : List Tx) : DV.wk.go (cells encT l) = cells encT l := wk_cells encT l fun a p hp => by
  simp [encT] at hp; rcases hp with rfl | rfl | rfl | rfl | rfl | rfl <;> rfl
def tblD (r : List Tx × Int) : DV := .tup [.pv (.sl (fz encT r.1)), .int .i64 r.2]
def idT (l : List Tx) (a : Int) : Int := idxP l fun t => t.id == a
def posT (l : List Tx) (a : Int) : Nat := lo l fun t => decide (t.id < a)
def insT (l : List Tx) (t : Tx) : List Tx := l.take (posT l t.id) ++ t :: l.drop (posT l t.id)
def beginS (l : List Tx) (a : Int) : List Tx × Int :=
  if tblB l = false then ([], 15) else if a < 1 ∨ 1073741824 < a then ([], 1) else if 0 ≤ idT l a then ([], 25) else if l.length = 64 then ([], 21) else (insT l ⟨a, 1, 0, 0, [], []⟩, 0)
theorem tblB_len {l : List Tx} (h : tblB l = true) : l.length ≤ 64 := by
  simp [tblB] at h; exact h.1
def remS (l : List Tx) (a : Int) : List Tx := keepL l fun t => t.id == a
def leftB (t : Tx) (a : Int) : Bool := decide (0 < t.l.length) && decide (a < t.l.getD (t.l.length - 1) 0)
theorem lastI (l : List Int) (h : 0 < l.length) : (fz encI l)[((l.length : Int) - 1).toNat]? = some [.lit (.int .i64 (l.getD (l.length - 1) 0))] := by
  rw [show ((l.length : Int) - 1).toNat = l.length - 1 by omega]; exact fzI_get l (l.length - 1) (by omega)
theorem idT_cases (l : List Tx) (a : Int) : idT l a = -1 ∨ ∃ i, ∃ h : i < l.length, idT l a = i ∧ l[i].id = a := by
  unfold idT idxP
  split
  · rename_i h
    obtain ⟨x, hm, hp⟩ := List.any_eq_true.1 h
    have hlt := List.findIdx_lt_length_of_exists (p := fun t : Tx => t.id == a) ⟨x, hm, hp⟩
    have := List.findIdx_getElem (w := hlt)
    exact .inr ⟨_, hlt, rfl, by simpa using this⟩
  · exact .inl rfl
def activeS (l : List Tx) (a : Int) : Tx × Int :=
  if tblB l = false then (Tx0, 15) else if idT l a < 0 then (Tx0, 16) else if (l.getD (idT l a).toNat Tx0).st ≠ 1 then (Tx0, 15) else (l.getD (idT l a).toNat Tx0, 0)
theorem activeS_ok {l : List Tx} {a : Int} (h : (activeS l a).2 = 0) : tblB l = true ∧ ∃ i, ∃ hi : i < l.length, idT l a = i ∧ l[i].id = a ∧ (activeS l a).1 = l[i] := by
  unfold activeS at h ⊢
  split at h
  · simp at h
  rename_i h1
  split at h
  · simp at h
  rename_i h2
  split at h
  · simp at h
  rename_i h3
  refine ⟨by simpa using h1, ?_⟩
  rcases idT_cases l a with h4 | ⟨i, hi, h4, h5⟩
  · omega
  · rw [if_neg h1, if_neg h2, if_neg h3]
    exact ⟨i, hi, h4, h5, by rw [h4, Int.toNat_natCast, getD_eq l i hi]⟩
theorem app_I (l : List Int) (x : Int) : cells encI l ++ [.pv (.lit (.int .i64 x))] = cells encI (l ++ [x]) := by rw [cells_app]; rfl
theorem lenI (l : List Int) : (cells encI l).length = l.length * 1 := cells_len encI l
theorem allI (l : List Int) (n : Nat) (h : l.length * 1 ≤ n) : (cells encI l).take n = cells encI l := by rw [List.take_of_length_le]; rw [lenI]; exact h
theorem appI (l m : List Int) : cells encI l ++ cells encI m = cells encI (l ++ m) := (cells_app encI l m).symm
theorem slkI (l : List Int) (T : TypeId) (a b : Nat) (h : a ≤ b ∧ b ≤ l.length) : vslk (some (none, T, 1)) (fz encI l) a b = some (.pv (.sl (fz encI ((l.take b).drop a)))) := vslk_fz encI l T a b h
theorem srcI (l : List Int) : (fz encI l = [] ∨ (fz encI l)[0]?.map List.length = some 1) = True := fz_src encI l
theorem frzI {n : Nat} {hp : Heap} {len : Nat} {l : List Int} (h : l.length = len) : frzC n hp 0 1 len (some (cells encI l)) = some (.sl (fz encI l)) := frzC_cells encI h
theorem tblB_at {l : List Tx} (h : tblB l = true) {i : Nat} (hi : i < l.length) : l[i].okB = true := by
  simp only [tblB, Bool.and_eq_true, List.all_eq_true, List.mem_range, decide_eq_true_eq] at h
  have := ((tC_iff l i).1 (h.2 i hi)).1
  rwa [getD_eq l i hi] at this
def saveS (l : List Tx) (a : Int) : List Tx × Int :=
  if (activeS l a).2 ≠ 0 then ([], (activeS l a).2) else if (activeS l a).1.s.length = 8 then ([], 21) else (l.set (idT l a).toNat { (activeS l a).1 with s := (activeS l a).1.s ++ [(activeS l a).1.n] }, 0)
def backS (l : List Tx) (a sv : Int) : List Tx × Int :=
  if (activeS l a).2 ≠ 0 then ([], (activeS l a).2)
  else if sv < 0 ∨ ((activeS l a).1.s.length : Int) ≤ sv then ([], 19)
  else if leftB (activeS l a).1 ((activeS l a).1.s.getD sv.toNat 0) = true then (l.set (idT l a).toNat { (activeS l a).1 with s := (activeS l a).1.s.take (sv.toNat + 1), st := 2, b := (activeS l a).1.s.getD sv.toNat 0 }, 0)
  else (l.set (idT l a).toNat { (activeS l a).1 with s := (activeS l a).1.s.take (sv.toNat + 1) }, 0)
theorem asc_pairwise {l : List Int} {lo hi : Int} (h : ascB l lo hi 1 = true) : l.Pairwise (· < ·) := by
  simp only [ascB, List.all_eq_true, List.mem_range] at h
  rw [List.pairwise_iff_getElem]
  have step : ∀ i, ∀ h2 : i + 1 < l.length, l[i] < l[i + 1] := fun i h2 => by
    have := (ascC_iff _ _ _ _ _).1 (h (i + 1) h2)
    rw [getD_eq l (i + 1) h2, Nat.add_sub_cancel, getD_eq l i (by omega)] at this
    omega
  have all : ∀ d i, ∀ h2 : i + d + 1 < l.length, l[i] < l[i + d + 1] := fun d => by
    induction d with
    | zero => exact step
    | succ d ih => intro i h2; exact Int.lt_trans (ih i (by omega)) (step (i + d + 1) h2)
  intro i j hi hj hij
  have := all (j - i - 1) i (by omega)
  simpa only [show i + (j - i - 1) + 1 = j by omega] using this
theorem okB_asc {t : Tx} (h : t.okB = true) : t.l.Pairwise (· < ·) := by
  simp only [Tx.okB, Bool.and_eq_true] at h
  exact asc_pairwise h.1.2
theorem okB_len {t : Tx} (h : t.okB = true) : t.l.length ≤ 4096 ∧ t.s.length ≤ 8 := by
  simp only [Tx.okB, Tx.hdB, Bool.and_eq_true, decide_eq_true_eq] at h
  omega
def settleS (t : Tx) : Tx := if t.st = 2 ∧ leftB t t.b = false then { t with st := 1, b := 0 } else t
def noteT (t : Tx) (e : E) : Tx :=
  if e.kind = 1 then { t with n := e.lsn, l := t.l ++ [e.lsn] }
  else if e.kind = 2 then { t with n := e.lsn, l := t.l.filter fun x => decide (x ≠ e.ref) }
  else { t with n := e.lsn, st := 3, b := 0, s := [] }
def noteA (l : List Tx) (i : Nat) (t : Tx) (e : E) : List Tx × Int :=
  if e.ptx ≠ t.n ∨ (e.kind = 2 ∧ e.ref ∉ t.l) then ([], 13)
  else if e.kind = 3 ∨ e.kind = 5 then (remS l e.tx, 0)
  else (l.set i (settleS (noteT t e)), 0)
def noteS (l : List Tx) (e : E) : List Tx × Int :=
  if tblB l = false then ([], 15) else if e.okB = false then ([], 12) else if e.tx = 0 then (l, 0) else if idT l e.tx < 0 then ([], 16)
  else noteA l (idT l e.tx).toNat (l.getD (idT l e.tx).toNat Tx0) e
theorem okB_kind {e : E} (h : e.okB = true) (ht : e.tx ≠ 0) : e.kind = 1 ∨ e.kind = 2 ∨ e.kind = 3 ∨ e.kind = 4 ∨ e.kind = 5 := by
  obtain ⟨lsn, kind, tx, ptx, ppg, ref, c, blob⟩ := e
  simp only [E.okB, Bool.and_eq_true] at h
  have h := h.2
  rw [kindB_eq] at h
  dsimp only at ht ⊢
  rcases kind_cases kind with hk | rfl | rfl | rfl | rfl | rfl | rfl | rfl | rfl
  · rw [if_neg (by omega), if_neg (by omega), if_neg (by omega), if_neg (by omega), if_neg (by omega)] at h; cases h
  all_goals first | omega | (simp at h; omega)
theorem noteS_at {l : List Tx} {e : E} (h1 : tblB l = true) (h2 : e.okB = true) (h3 : e.tx ≠ 0) {i : Nat} (hi : i < l.length) (h4 : idT l e.tx = i) : noteS l e = noteA l i l[i] e := by
  unfold noteS
  rw [if_neg (by rw [h1]; decide), if_neg (by rw [h2]; decide), if_neg h3, h4, if_neg (by omega), Int.toNat_natCast, getD_eq l i hi]
def w0 : List Tx := [⟨1, 1, 0, 0, [], []⟩]
def w1 : List Tx := [⟨1, 1, 1, 0, [1], []⟩]
def w2 : List Tx := [⟨1, 1, 1, 0, [1], [1]⟩]
def w3 : List Tx := [⟨1, 1, 2, 0, [1, 2], [1]⟩]
def w4 : List Tx := [⟨1, 1, 3, 0, [1, 2, 3], [1]⟩]
def w5 : List Tx := [⟨1, 2, 3, 1, [1, 2, 3], [1]⟩]
end
section
attribute [local go_sem] Tx.d lenT allT appT slkT srcT frzT lenI allI appI slkI srcI frzI mem_ok List.length_append List.length_take List.length_drop List.take_length toNat_succ toNat_pred toNat_add toNat_sub
theorem rfind0_v (l : List Tx) (hl : l.length ≤ 1000000) (a : Int) : VCalls prog 163 [.pv (.sl (fz encT l)), .int .i64 a] [] (Ret (.int .i64 (idT l a))) := by
  refine dd Tryz.func163 ?_
  (unfold Tryz.f163; refine rn trivial ?_)
  refine vloopW (fun i : Pass l (fun x => (x.id == a) = true) => ⟨20, 0, [(5, .int .i64 i.i), (0, .pv (.sl (fz encT l))), (1, .int .i64 a)], []⟩) (fun i => l.length - i.i) (Pass.start l _) (gc []) ?_
  intro i
  have hi := i.hi
  have hg := fun h : i.i < l.length => fzT_d l i.i h
  have F := @hg
  refine rn F ?_
  repeat' (first
    | with_reducible exact ⟨⟩
    | (refine sB F ?_ ?_ <;> intro hZ))
  · have := idxP_at l (fun x => x.id == a) i.i (by omega) (by rw [← getD_eq l i.i (by omega) Tx0]; simpa using (by assumption : (l.getD i.i Tx0).id = a)) i.no
    rw [idT, this]
  · exact ⟨i.next (by omega) (by rw [← getD_eq l i.i (by omega) Tx0]; simpa using (by assumption : ¬ (l.getD i.i Tx0).id = a)), by show l.length - (i.i + 1) < l.length - i.i; omega, (gc [])⟩
  · have := i.all (by omega)
    rw [idT, idxP, if_neg (by simpa using this)]
theorem rfind_v (l : List Tx) (hl : l.length ≤ 1000000) (a : Int) : VCalls prog 182 [.pv (.sl (fz encT l)), .int .i64 a] [] (Ret (.int .i64 (idT l a))) := by
  refine dd Tryz.func182 ?_
  have h := rfind0_v l hl a
  (unfold Tryz.f182; refine rn trivial ?_)
  refine rn F ?_
  repeat' (first
    | with_reducible exact ⟨⟩
    | refine vp F (h) ?_)
theorem rset_v (l : List Tx) (hl : l.length ≤ 1000000) (i : Nat) (hi : i < l.length) (t : Tx) : VCalls prog 223 [.pv (.sl (fz encT l)), .int .i64 i, .agg t.d] [] (Ret (.pv (.sl (fz encT (l.set i t))))) := by
  refine dd Tryz.func223 ?_
  have hb : i * 6 + 6 ≤ l.length * 6 := by omega
  have hse : (cells encT l).take (i * 6) ++ [.pv (.lit (.int .i64 t.id)), .pv (.lit (.int .i64 t.st)), .pv (.lit (.int .i64 t.n)), .pv (.lit (.int .i64 t.b)), .pv (.sl (fz encI t.l)), .pv (.sl (fz encI t.s))] ++ (cells encT l).drop (i * 6 + 6) = cells encT (l.set i t) := set_in encT l i t hi
  have hle : (l.set i t).length = l.length := List.length_set
  (unfold Tryz.f223; refine rn trivial ?_)
  have F := (And.intro @hb (And.intro @hse @hle))
  (refine rn F ?_; try with_reducible exact ⟨⟩)
theorem rsettle_v (t : Tx) (hs : t.sm) : VCalls prog 224 [.agg t.d] [] (Ret (.agg (settleS t).d)) := by
  refine dd Tryz.func224 ?_
  have hg := fun h : 0 < t.l.length => lastI t.l h
  simp only [toNat_pred] at hg
  obtain ⟨id, st, n, b, l, s⟩ := t
  obtain ⟨h1, h2⟩ := hs
  dsimp only at h1 h2 hg
  have eS : settleS ⟨id, st, n, b, l, s⟩ = if st = 2 ∧ leftB ⟨id, st, n, b, l, s⟩ b = false then ⟨id, 1, n, 0, l, s⟩ else ⟨id, st, n, b, l, s⟩ := rfl
  have eL : leftB ⟨id, st, n, b, l, s⟩ b = (decide (0 < l.length) && decide (b < l.getD (l.length - 1) 0)) := rfl
  generalize settleS ⟨id, st, n, b, l, s⟩ = u at *
  generalize leftB ⟨id, st, n, b, l, s⟩ b = B at *
  (unfold Tryz.f224; refine rn trivial ?_)
  have F := @hg
  refine rn F ?_
  repeat' (first
    | with_reducible exact ⟨⟩
    | (refine sG F ?_ ?_ <;> intro hZ)
    | (refine sB F ?_ ?_ <;> intro hZ)
    | (refine vspine (id := 1) [0, 1, 2, 3, 4, 5, 6, 7, 8, 9, 10, 11, 12, 13, 14, 15, 16, 17, 18, 19, 20, 21] [] (by kernel_rfl) (by kernel_rfl) ?_; refine rn F ?_))
  all_goals first
    | (rw [eS, if_pos ⟨by assumption, by rw [eL, decide_eq_false (show ¬ b < l.getD (l.length - 1) 0 by omega), Bool.and_false]⟩])
    | (rw [eS, if_pos ⟨by assumption, by rw [eL, decide_eq_false (show ¬ 0 < l.length by omega), Bool.false_and]⟩])
    | (rw [eS, if_neg (by rintro ⟨h, _⟩; omega)])
    | (rw [eS, if_neg (by rintro ⟨_, h⟩; rw [eL, decide_eq_true (show b < l.getD (l.length - 1) 0 by omega), decide_eq_true (show 0 < l.length by omega)] at h; cases h)])
theorem app_T (l : List Tx) (t : Tx) : cells encT l ++ [.pv (.lit (.int .i64 t.id)), .pv (.lit (.int .i64 t.st)), .pv (.lit (.int .i64 t.n)), .pv (.lit (.int .i64 t.b)), .pv (.sl (fz encI t.l)), .pv (.sl (fz encI t.s))] = cells encT (l ++ [t]) := by rw [cells_app]; rfl
theorem remS_le (l : List Tx) (a : Int) : (remS l a).length ≤ l.length := keepL_le _ _
theorem remS_succ (l : List Tx) (a : Int) (i : Nat) (h : i < l.length) : remS (l.take (i + 1)) a = if (l.getD i Tx0).id = a then remS (l.take i) a else remS (l.take i) a ++ [l.getD i Tx0] := by
  rw [getD_eq l i h]
  unfold remS
  rw [keepL_take_succ l _ i h]
  by_cases hx : l[i].id = a <;> simp [hx]
theorem rremove_v (l : List Tx) (hl : l.length ≤ 1000000) (a : Int) : VCalls prog 222 [.pv (.sl (fz encT l)), .int .i64 a] [] (Ret (.pv (.sl (fz encT (remS l a))))) := by
  refine dd Tryz.func222 ?_
  (unfold Tryz.f222; refine rn trivial ?_)
  refine VLoop.nilOwn 5 226 6 rfl ?_
  refine vloopW (fun s : To l.length => ⟨28, 0, [(6, .int .i64 s.i), (5, .own 0 6 0 (remS (l.take s.i) a).length), (0, .pv (.sl (fz encT l))), (1, .int .i64 a)], [⟨226, true, cells encT (remS (l.take s.i) a)⟩]⟩) (fun s => l.length - s.i) ⟨0, Nat.zero_le _⟩ (gc [0]) ?_
  intro s
  have hi := s.hi
  have hg := fun h : s.i < l.length => fzT_d l s.i h
  have hle := remS_le (l.take s.i) a
  rw [List.length_take] at hle
  have hb : ((remS (l.take s.i) a).length + 1) * 80 ≤ 140737488355328 := by omega
  have hs := remS_succ l a s.i
  have F := (And.intro @hg (And.intro @hb @app_T))
  refine rn F ?_
  repeat' (first
    | with_reducible exact ⟨⟩
    | (refine sB F ?_ ?_ <;> intro hZ))
  · replace hs := hs (by omega)
    rw [if_neg (by assumption)] at hs
    refine ⟨⟨s.i + 1, by omega⟩, by show l.length - (s.i + 1) < l.length - s.i; omega, ?_⟩
    rw [hs, List.length_append]
    exact (gc [2])
  · replace hs := hs (by omega)
    rw [if_pos (by assumption)] at hs
    refine ⟨⟨s.i + 1, by omega⟩, by show l.length - (s.i + 1) < l.length - s.i; omega, ?_⟩
    rw [hs]
    exact (gc [0])
  · rw [List.take_of_length_le (by omega)]
def ractS (l : List Tx) (a : Int) : Int × Int :=
  if tblB l = false then (0, 15) else if idT l a < 0 then (0, 16) else if (l.getD (idT l a).toNat Tx0).st ≠ 1 then (0, 15) else (idT l a, 0)
theorem ractS_two (l : List Tx) (a : Int) : (ractS l a).2 = (activeS l a).2 := by
  unfold ractS activeS
  split
  · rfl
  · split
    · rfl
    · split <;> rfl
theorem ractS_one {l : List Tx} {a : Int} (h : (activeS l a).2 = 0) : (ractS l a).1 = idT l a := by
  unfold ractS
  unfold activeS at h
  split at h
  · simp at h
  · rename_i h1
    split at h
    · simp at h
    · rename_i h2
      split at h
      · simp at h
      · rename_i h3
        rw [if_neg h1, if_neg h2, if_neg h3]
theorem ractive_v (l : List Tx) (hs : smL l) (a : Int) : VCalls prog 246 [.pv (.sl (fz encT l)), .int .i64 a] [] (Ret (.tup [.int .i64 (ractS l a).1, .int .i64 (ractS l a).2])) := by
  refine dd Tryz.func246 ?_
  have c1 := rtvalid_v l hs
  have c2 := rfind0_v l hs.1 a
  unfold ractS
  rcases idT_cases l a with h | ⟨i, hi, h, hid⟩
  · rw [h] at c2 ⊢
    (unfold Tryz.f246; refine rn trivial ?_)
    refine rn F ?_
    repeat' (first
      | with_reducible exact ⟨⟩
      | (refine sB F ?_ ?_ <;> intro hZ)
      | refine vp F (c1) ?_
      | refine vp F (c2) ?_)
    all_goals rfl
  · rw [h] at c2 ⊢
    have hg := fzT_d l i hi
    rw [Int.toNat_natCast, if_neg (show ¬ (i : Int) < 0 by omega)]
    (unfold Tryz.f246; refine rn trivial ?_)
    have F := @hg
    refine rn F ?_
    repeat' (first
      | with_reducible exact ⟨⟩
      | (refine sB F ?_ ?_ <;> intro hZ)
      | refine vp F (c1) ?_
      | refine vp F (c2) ?_)
    all_goals first | rfl | (rw [if_pos (by assumption)]) | (rw [if_neg (by omega)])
theorem rsave_v (l : List Tx) (hs : smL l) (a : Int) : VCalls prog 207 [.pv (.sl (fz encT l)), .int .i64 a] [] (Ret (tblD (saveS l a))) := by
  refine VCalls.unwk ?_
  refine dd Tryz.func207 ?_
  have c1 := ractive_v l hs a
  have hok := @activeS_ok l a
  rw [ractS_two] at c1
  unfold saveS
  by_cases hz : (activeS l a).2 = 0
  · obtain ⟨hv, i, hi, h1, h2, h3⟩ := hok hz
    rw [ractS_one hz, h1, hz] at c1
    have hts := okB_len (tblB_at hv hi)
    have hg := fzT_at l i hi
    have hw := rset_v l hs.1 i hi ⟨l[i].id, l[i].st, l[i].n, l[i].b, l[i].l, l[i].s ++ [l[i].n]⟩
    rw [if_neg (by rw [hz]; simp), h3, h1, Int.toNat_natCast]
    generalize l[i] = t at *
    obtain ⟨id, st, n, b, q, s⟩ := t
    dsimp only at hts hg hw
    (unfold Tryz.f207; refine rn trivial ?_)
    have F := (And.intro @hg @app_I)
    refine rn F ?_
    repeat' (first
      | with_reducible exact ⟨⟩
      | (refine sB F ?_ ?_ <;> intro hZ)
      | refine vp F (c1) ?_
      | (refine vc_giveA [3] _ _ (hw) rfl ⟨⟨by simp, cells_nums _ _ _⟩, trivial⟩ (by decide) rfl (by simp [DV.nums.go, DV.nums]) ?_ ?_; (focus (refine rd F)); refine rn F ?_)
      | (refine vspine (id := 7) [0, 1, 3, 4] [⟨[5], [], 2, [0, 3, 4], []⟩, ⟨[5], [5], 6, [0, 1, 3, 4], [7]⟩, ⟨[], [], 8, [], []⟩] (by kernel_rfl) (by kernel_rfl) ?_; refine rn F ?_))
    all_goals first | rfl | (rw [if_pos (by omega)]; rfl) | (rw [if_neg (by omega)]; rfl) | skip
  · generalize activeS l a = r at *
    generalize (ractS l a).1 = j at *
    rw [if_pos hz]
    (unfold Tryz.f207; refine rn trivial ?_)
    have F := trivial
    refine rn F ?_
    repeat' (first
      | with_reducible exact ⟨⟩
      | refine vp F (c1) ?_)
    all_goals first | rfl | contradiction | skip
theorem activeS_st {l : List Tx} {a : Int} (h : (activeS l a).2 = 0) : (activeS l a).1.st = 1 ∧ (activeS l a).1.b = 0 := by
  obtain ⟨hv, i, hi, h1, h2, h3⟩ := activeS_ok h
  have hst : (activeS l a).1.st = 1 := by
    unfold activeS at h ⊢
    split at h
    · simp at h
    · rename_i q1
      split at h
      · simp at h
      · rename_i q2
        split at h
        · simp at h
        · rename_i q3
          rw [if_neg q1, if_neg q2, if_neg q3]
          simpa using q3
  refine ⟨hst, ?_⟩
  have ho := tblB_at hv hi
  rw [h3] at hst ⊢
  simp only [Tx.okB, Tx.hdB, Bool.and_eq_true, Bool.or_eq_true, decide_eq_true_eq] at ho
  omega
theorem rback_v (l : List Tx) (hs : smL l) (a sv : Int) : VCalls prog 208 [.pv (.sl (fz encT l)), .int .i64 a, .int .i64 sv] [] (Ret (tblD (backS l a sv))) := by
  refine VCalls.unwk ?_
  refine dd Tryz.func208 ?_
  have c1 := ractive_v l hs a
  have hok := @activeS_ok l a
  have hab := @activeS_st l a
  rw [ractS_two] at c1
  unfold backS
  by_cases hz : (activeS l a).2 = 0
  · obtain ⟨hv, i, hi, h1, h2, h3⟩ := hok hz
    obtain ⟨hst, hb0⟩ := hab hz
    rw [ractS_one hz, h1, hz] at c1
    have hts := okB_len (tblB_at hv hi)
    have hg := fzT_at l i hi
    rw [if_neg (by rw [hz]; simp), h3, h1, Int.toNat_natCast]
    rw [h3] at hst hb0
    have hw := rset_v l hs.1 i hi
    by_cases hr : sv < 0 ∨ ((l[i].s.length : Int) ≤ sv)
    · generalize l[i] = t at *
      obtain ⟨id, st, n, b, q, s⟩ := t
      dsimp only at hr hg ⊢
      rw [if_pos hr]
      (unfold Tryz.f208; refine rn trivial ?_)
      have F := @hg
      refine rn F ?_
      repeat' (first
        | with_reducible exact ⟨⟩
        | (refine sG F ?_ ?_ <;> intro hZ)
        | refine vp F (c1) ?_)
      all_goals first | rfl | (exfalso; omega)
    obtain ⟨k, rfl⟩ : ∃ k : Nat, sv = k := ⟨sv.toNat, by omega⟩
    have hk : k < l[i].s.length := by omega
    rw [if_neg (by omega), Int.toNat_natCast]
    have hw2 := hw (settleS ⟨l[i].id, 2, l[i].n, l[i].s.getD k 0, l[i].l, l[i].s.take (k + 1)⟩)
    generalize l[i] = t at *
    obtain ⟨id, st, n, b, q, s⟩ := t
    dsimp only at hts hg hk hst hb0 hw2 ⊢
    subst hst hb0
    have hse := rsettle_v ⟨id, 2, n, s.getD k 0, q, s.take (k + 1)⟩ ⟨by show q.length ≤ _; omega, by show (s.take (k + 1)).length ≤ _; rw [List.length_take]; omega⟩
    have eS : settleS ⟨id, 2, n, s.getD k 0, q, s.take (k + 1)⟩ = if leftB ⟨id, 1, n, 0, q, s⟩ (s.getD k 0) = true then ⟨id, 2, n, s.getD k 0, q, s.take (k + 1)⟩ else ⟨id, 1, n, 0, q, s.take (k + 1)⟩ := by
      unfold settleS
      have e : leftB ⟨id, 2, n, s.getD k 0, q, s.take (k + 1)⟩ (s.getD k 0) = leftB ⟨id, 1, n, 0, q, s⟩ (s.getD k 0) := rfl
      cases hB : leftB ⟨id, 1, n, 0, q, s⟩ (s.getD k 0)
      · rw [if_pos ⟨rfl, by rw [← hB]; exact e⟩]; rfl
      · rw [if_neg (by rintro ⟨_, h⟩; rw [show leftB ⟨id, 2, n, s.getD k 0, q, s.take (k + 1)⟩ (s.getD k 0) = true from e.trans hB] at h; cases h)]; rfl
    have hgc : ((cells encI (s.take (k + 1))).drop k).take 1 = [.int .i64 (s.getD k 0)] := by
      have hgc : (cells encI (s.take (k + 1)))[k]? = some (.int .i64 (s.getD k 0)) := by
        rw [cellsI_get _ _ (by rw [List.length_take]; omega)]
        simp [List.getD_eq_getElem?_getD, List.getElem?_take]
      obtain ⟨h, e⟩ := List.getElem?_eq_some_iff.1 hgc
      rw [List.drop_eq_getElem_cons h, e]; rfl
    have hgd : (cells encI (s.take (k + 1)))[k]? = some (.int .i64 (s.getD k 0)) := by
      rw [cellsI_get _ _ (by rw [List.length_take]; omega)]
      simp [List.getD_eq_getElem?_getD, List.getElem?_take]
    have hl1 : (s.take (k + 1)).length = k + 1 := by rw [List.length_take]; omega
    have ek : ((k : Int) + 1).toNat = k + 1 := by omega
    have fin : (if leftB ⟨id, 1, n, 0, q, s⟩ (s.getD k 0) = true then (l.set i ⟨id, 2, n, s.getD k 0, q, s.take (k + 1)⟩, (0 : Int)) else (l.set i ⟨id, 1, n, 0, q, s.take (k + 1)⟩, 0)) = (l.set i (settleS ⟨id, 2, n, s.getD k 0, q, s.take (k + 1)⟩), 0) := by
      rw [eS]; split <;> rfl
    rw [fin]
    clear fin eS
    generalize hT : settleS ⟨id, 2, n, s.getD k 0, q, s.take (k + 1)⟩ = T at *
    (unfold Tryz.f208; refine rn trivial ?_)
    have F := (And.intro @hg (And.intro @hl1 (And.intro @ek (And.intro @hgc @hgd))))
    refine rn F ?_
    repeat' (first
      | with_reducible exact ⟨⟩
      | refine vp F (c1) ?_
      | (refine vc_giveA [1] _ _ (hse) rfl ⟨⟨by simp, cells_nums _ _ _⟩, trivial⟩ (by decide) rfl (by simp [DV.nums.go, DV.nums]) ?_ ?_; (focus (refine rd F)); refine rn F ?_)
      | refine vp F (hw2) ?_
      | (refine vspine (id := 8) [0, 1, 2, 3, 4, 5] [⟨[], [], 6, [2, 3, 4], [7]⟩, ⟨[], [], 8, [], []⟩] (by kernel_rfl) (by kernel_rfl) ?_; refine rn F ?_))
    all_goals first | rfl | skip
  · generalize activeS l a = r at *
    generalize (ractS l a).1 = j at *
    rw [if_pos hz]
    (unfold Tryz.f208; refine rn trivial ?_)
    have F := trivial
    refine rn F ?_
    repeat' (first
      | with_reducible exact ⟨⟩
      | refine vp F (c1) ?_)
    all_goals first | rfl | contradiction | skip
end
section
attribute [local go_sem] Tx.d lenT allT appT slkT srcT frzT lenI allI appI slkI srcI frzI mem_ok List.length_append List.length_take List.length_drop List.take_length toNat_succ toNat_pred toNat_add toNat_sub bodyc headc_seq headc_zero restc_seq restc_zero tmwk_nil tmwk_cons hpwk_nil hpwk_cons wk_go_nil wk_go_cons wk_T
structure Fr (l : List Tx) (a : Int) where
  j : Nat
  hj : j ≤ l.length
  lt : ∀ k, ∀ h : k < l.length, k < j → l[k].id < a
theorem Fr.fin {l : List Tx} {a : Int} (s : Fr l a) (h : ∀ h : s.j < l.length, ¬ l[s.j].id < a) : posT l a = s.j :=
  lo_eq l _ s.j s.hj (fun k hk hkj => decide_eq_true (s.lt k hk hkj)) (fun hj => decide_eq_false (h hj))
theorem take_len {l : List Tx} {j : Nat} (h : j ≤ l.length) : (l.take j).length = j := by rw [List.length_take]; omega
theorem take_succ_T (l : List Tx) (j : Nat) (h : j < l.length) : cells encT (l.take j) ++ [.pv (.lit (.int .i64 (l.getD j Tx0).id)), .pv (.lit (.int .i64 (l.getD j Tx0).st)), .pv (.lit (.int .i64 (l.getD j Tx0).n)), .pv (.lit (.int .i64 (l.getD j Tx0).b)), .pv (.sl (fz encI (l.getD j Tx0).l)), .pv (.sl (fz encI (l.getD j Tx0).s))] = cells encT (l.take (j + 1)) := by
  rw [app_T, List.take_succ_eq_append_getElem h, getD_eq l j h]
theorem rbegin_v (l : List Tx) (hs : smL l) (a : Int) : VCalls prog 133 [.pv (.sl (fz encT l)), .int .i64 a] [] (Ret (tblD (beginS l a))) := by
  refine VCalls.unwk ?_
  have hl := hs.1
  have c1 := rtvalid_v l hs
  have c2 := rfind0_v l hl a
  have eS : beginS l a = if tblB l = false then ([], 15) else if a < 1 ∨ 1073741824 < a then ([], 1) else if 0 ≤ idT l a then ([], 25) else if l.length = 64 then ([], 21) else (l.take (posT l a) ++ ⟨a, 1, 0, 0, [], []⟩ :: l.drop (posT l a), 0) := rfl
  have hfin := @Fr.fin l a
  have hp : posT l a ≤ l.length := lo_le _ _
  have hsm := @tblB_len l
  generalize idT l a = d at *
  generalize beginS l a = res at *
  generalize tblB l = T at *
  refine vcalls_dropW (fn := Tryz.f133) (c := bodyc Tryz.f133) Tryz.func133 rfl (by kernel_rfl) (by simp [Tryz.f133]) ?_
  refine vcut 5 ?_
  generalize hrest : restc 5 (bodyc Tryz.f133) = rest
  (unfold Tryz.f133; refine rn trivial ?_)
  have F := trivial
  refine rn F ?_
  repeat' (first
    | (refine sG F ?_ ?_ <;> intro hZ <;> try with_reducible exact ⟨⟩)
    | (refine sB F ?_ ?_ <;> intro hZ <;> try with_reducible exact ⟨⟩)
    | (refine sD F ?_ ?_ <;> intro hZ <;> try with_reducible exact ⟨⟩)
    | (refine vp F (c1) ?_; try with_reducible exact ⟨⟩)
    | (refine vd F (c1) ?_; try with_reducible exact ⟨⟩)
    | (refine vl F (c1) ?_; try with_reducible exact ⟨⟩)
    | (refine vp F (c2) ?_; try with_reducible exact ⟨⟩)
    | (refine vd F (c2) ?_; try with_reducible exact ⟨⟩)
    | (refine vl F (c2) ?_; try with_reducible exact ⟨⟩)
    | (refine vspine (id := 14) [0, 1, 2, 5, 6, 7, 8] [⟨[3], [3], 4, [1, 2, 5, 6, 7, 8], []⟩, ⟨[], [], 9, [0, 1, 2, 5, 6, 7], []⟩, ⟨[], [], 10, [], []⟩, ⟨[], [], 11, [], []⟩] (by kernel_rfl) (by kernel_rfl) ?_; refine rn F ?_; try with_reducible exact ⟨⟩)
    | (refine vdraw (by kernel_rfl) (by kernel_rfl) ?_; refine rn F ?_; try with_reducible exact ⟨⟩))
  all_goals first
    | (rw [eS]; repeat (first | rw [if_pos (by first | assumption | omega)] | rw [if_neg (by first | assumption | omega | (rw [show T = true by assumption]; decide))])
       rfl)
    | skip
  rw [eS]
  repeat (first | rw [if_pos (by first | assumption | omega)] | rw [if_neg (by first | assumption | omega | (rw [show T = true by assumption]; decide))])
  have hsm := hsm (by assumption)
  refine VLoop.nilOwn 6 226 6 rfl ?_
  refine vloopW (fun s : Fr l a => ⟨60, 0, [(7, .int .i64 s.j), (6, .own 0 6 0 s.j), (0, .pv (.sl (fz encT l))), (1, .int .i64 a)], [⟨226, true, cells encT (l.take s.j)⟩]⟩) (fun s => l.length - s.j) ⟨0, Nat.zero_le _, fun k _ h => by omega⟩ (gc [0]) ?_
  intro s
  have hj := s.hj
  have hlt := s.lt
  have hf := hfin s
  have htl := take_len s.hj
  have hg := fun h : s.j < l.length => fzT_d l s.j h
  have hts := fun h : s.j < l.length => take_succ_T l s.j h
  have hcl : (cells encT (l.take s.j)).length = s.j * 6 := by rw [lenT, htl]
  have hta : (cells encT (l.take s.j)).take (s.j * 6) = cells encT (l.take s.j) := allT _ _ (by rw [htl]; exact Nat.le_refl _)
  have hb : (s.j + 1) * 80 ≤ 140737488355328 := by omega
  have htx : (cells encT (l.take s.j) ++ ([.pv (.lit (.int .i64 a)), .pv (.lit (.int .i64 1)), .pv (.lit (.int .i64 0)), .pv (.lit (.int .i64 0)), .pv (.slc []), .pv (.slc [])] : List DV)).take ((s.j + 1) * 6) = cells encT (l.take s.j) ++ [.pv (.lit (.int .i64 a)), .pv (.lit (.int .i64 1)), .pv (.lit (.int .i64 0)), .pv (.lit (.int .i64 0)), .pv (.slc []), .pv (.slc [])] := by
    rw [List.take_of_length_le]; rw [List.length_append, hcl]; simp; omega
  have hb2 : (s.j + 1 + (l.length - s.j)) * 80 ≤ 140737488355328 := by omega
  have hb3 : (s.j + 1) * 6 ≤ s.j * 6 + 6 := by omega
  have hw : DV.wk.go (cells encT (l.take s.j) ++ [.pv (.lit (.int .i64 a)), .pv (.lit (.int .i64 1)), .pv (.lit (.int .i64 0)), .pv (.lit (.int .i64 0)), .pv (.slc []), .pv (.slc [])] ++ cells encT (l.drop s.j)) = cells encT (l.take s.j ++ ⟨a, 1, 0, 0, [], []⟩ :: l.drop s.j) := by
    rw [wk_goA, wk_goA, wk_T, wk_T, cells_app, List.append_assoc]
    rfl
  have hfl : (l.take s.j ++ (⟨a, 1, 0, 0, [], []⟩ : Tx) :: l.drop s.j).length = s.j + 1 + (l.length - s.j) := by
    rw [List.length_append, List.length_cons, List.length_drop, htl]; omega
  have F := (And.intro @hg (And.intro @hts (And.intro @hcl (And.intro @hta (And.intro @hb (And.intro @htx (And.intro @hb2 @hb3)))))))
  refine rn F ?_
  repeat' (first
    | (refine sG F ?_ ?_ <;> intro hZ <;> try with_reducible exact ⟨⟩)
    | (refine sB F ?_ ?_ <;> intro hZ <;> try with_reducible exact ⟨⟩)
    | (refine sD F ?_ ?_ <;> intro hZ <;> try with_reducible exact ⟨⟩)
    | (refine vspine (id := 14) [0, 1, 2, 5, 6, 7, 8] [⟨[3], [3], 4, [1, 2, 5, 6, 7, 8], []⟩, ⟨[], [], 9, [0, 1, 2, 5, 6, 7], []⟩, ⟨[], [], 10, [], []⟩, ⟨[], [], 11, [], []⟩] (by kernel_rfl) (by kernel_rfl) ?_; refine rn F ?_; try with_reducible exact ⟨⟩)
    | (refine vdraw (by kernel_rfl) (by kernel_rfl) ?_; refine rn F ?_; try with_reducible exact ⟨⟩))
  all_goals first
    | (refine ⟨⟨s.j + 1, by omega, fun k h' hkj => ?_⟩, by show l.length - (s.j + 1) < l.length - s.j; omega, (gc [2])⟩
       rcases Nat.lt_or_ge k s.j with h | h
       · exact hlt k h' h
       · obtain rfl : k = s.j := by omega
         rw [← getD_eq l s.j h' Tx0]
         assumption)
    | (rw [hf (fun h => by first | (rw [← getD_eq l s.j h Tx0]; exact Int.not_lt.2 (by assumption)) | (clear F hg hts hf hlt htx hw; omega))]
       refine vcut_wk ?_
       subst hrest
       simp (config := { maxSteps := 2000000 }) (implicitDefEqProofs := false) (disch := first | omega | assumption) only [go_sem, ↓reduceIte, Nat.reduceLT, Nat.reduceBEq, Int.reduceLT, Int.reduceBEq, Tryz.f133, hw, frzT hfl]
       rfl)
end
section
attribute [local go_sem] Tx.d lenT allT appT slkT srcT frzT lenI allI appI slkI srcI frzI mem_ok List.length_append List.length_take List.length_drop List.take_length toNat_succ toNat_pred toNat_add toNat_sub
theorem filt_succ (q : List Int) (r : Int) (i : Nat) (h : i < q.length) : (q.take (i + 1)).filter (fun x => decide (x ≠ r)) = (q.take i).filter (fun x => decide (x ≠ r)) ++ (if q.getD i 0 = r then [] else [q.getD i 0]) := by
  rw [List.take_succ_eq_append_getElem h, List.filter_append, getD_eq q i h]
  by_cases hx : q[i] = r <;> simp [hx]
theorem filt_le (q : List Int) (r : Int) (i : Nat) : ((q.take i).filter fun x => decide (x ≠ r)).length ≤ i := by
  refine Nat.le_trans (List.length_filter_le _ _) ?_
  rw [List.length_take]; omega
theorem filt_eq (q : List Int) (r : Int) : (q.filter fun x => decide (x ≠ r)).length = q.length ↔ r ∉ q := by
  rw [List.length_filter_eq_length_iff]
  constructor
  · intro h hm; simpa using h r hm
  · intro h x hx; exact decide_eq_true fun e => h (e ▸ hx)
theorem rnote_v (l : List Tx) (hs : smL l) (e : E) : VCalls prog 184 [.pv (.sl (fz encT l)), .agg e.d] [] (Ret (tblD (noteS l e))) := by
  refine VCalls.unwk ?_
  have c1 := rtvalid_v l hs
  have c2 := rvalid_v e
  have c3 := rfind0_v l hs.1 e.tx
  have c4 := rremove_v l hs.1 e.tx
  have hw := fun (i : Nat) (hi : i < l.length) (t : Tx) => rset_v l hs.1 i hi t
  have hok := @okB_kind e
  have hat := @noteS_at l e
  have e0 : noteS l e = if tblB l = false then ([], 15) else if e.okB = false then ([], 12) else if e.tx = 0 then (l, 0) else if idT l e.tx < 0 then ([], 16)
    else noteA l (idT l e.tx).toNat (l.getD (idT l e.tx).toNat Tx0) e := rfl
  by_cases hv : tblB l = true
  rotate_left
  · have hv' : tblB l = false := by simpa using hv
    rw [e0, if_pos hv']
    rw [hv'] at c1
    refine dd Tryz.func184 ?_
    unfold E.d
    (unfold Tryz.f184; refine rn trivial ?_)
    refine rn F ?_
    repeat' (first
      | with_reducible exact ⟨⟩
      | refine vp F (c1) ?_)
    rfl
  by_cases hk : e.okB = true
  rotate_left
  · have hk' : e.okB = false := by simpa using hk
    rw [e0, if_neg (by rw [hv]; decide), if_pos hk']
    rw [hv] at c1
    rw [hk'] at c2
    unfold E.d at c2 ⊢
    refine dd Tryz.func184 ?_
    (unfold Tryz.f184; refine rn trivial ?_)
    refine rn F ?_
    repeat' (first
      | with_reducible exact ⟨⟩
      | refine vp F (c1) ?_
      | refine vp F (c2) ?_)
    rfl
  by_cases ht : e.tx = 0
  · rw [e0, if_neg (by rw [hv]; decide), if_neg (by rw [hk]; decide), if_pos ht]
    rw [hv] at c1
    rw [hk] at c2
    unfold E.d at c2 ⊢
    refine dd Tryz.func184 ?_
    (unfold Tryz.f184; refine rn trivial ?_)
    have F := @ht
    refine rn F ?_
    repeat' (first
      | with_reducible exact ⟨⟩
      | refine vp F (c1) ?_
      | refine vl F (c2) ?_)
    rfl
  rw [hv] at c1
  rw [hk] at c2
  rcases idT_cases l e.tx with h | ⟨i, hi, h, hid⟩
  · rw [e0, if_neg (by rw [hv]; decide), if_neg (by rw [hk]; decide), if_neg ht, h, if_pos (by decide)]
    rw [h] at c3
    unfold E.d at c2 ⊢
    refine dd Tryz.func184 ?_
    (unfold Tryz.f184; refine rn trivial ?_)
    have F := @ht
    refine rn F ?_
    repeat' (first
      | with_reducible exact ⟨⟩
      | refine vp F (c1) ?_
      | refine vp F (c2) ?_
      | refine vp F (c3) ?_)
    all_goals first | rfl | contradiction
  rw [hat hv hk ht hi h]
  have hkk := hok hk ht
  rw [h] at c3
  have hg := fzT_at l i hi
  have hto := tblB_at hv hi
  have hso := okB_asc hto
  have hle := okB_len hto
  clear hat e0 hok
  generalize hT : l[i] = t at *
  obtain ⟨id, st, n, b, q, s⟩ := t
  dsimp only at hid hso hle hg
  obtain ⟨lsn, kind, tx, ptx, ppg, ref, c, blob⟩ := e
  dsimp only at hid c4 c3 h hkk ht
  unfold E.d at c2 ⊢
  dsimp only at c2 ⊢
  unfold noteA
  dsimp only
  by_cases hp : ptx = n
  rotate_left
  · rw [if_pos (.inl hp)]
    refine dd Tryz.func184 ?_
    (unfold Tryz.f184; refine rn trivial ?_)
    have F := (And.intro @ht @hg)
    refine rn F ?_
    repeat' (first
      | with_reducible exact ⟨⟩
      | refine vp F (c1) ?_
      | refine vp F (c2) ?_
      | refine vp F (c3) ?_)
    all_goals first | rfl | contradiction | omega
  subst hp
  rcases hkk with rfl | rfl | rfl | rfl | rfl
  · rw [if_neg (by rintro (h | h); exact h rfl; omega), if_neg (by omega)]
    have hwA := hw i hi (settleS (noteT ⟨id, st, ptx, b, q, s⟩ ⟨lsn, 1, tx, ptx, ppg, ref, c, blob⟩))
    have hse := rsettle_v (noteT ⟨id, st, ptx, b, q, s⟩ ⟨lsn, 1, tx, ptx, ppg, ref, c, blob⟩)
    have eN : noteT ⟨id, st, ptx, b, q, s⟩ ⟨lsn, 1, tx, ptx, ppg, ref, c, blob⟩ = ⟨id, st, lsn, b, q ++ [lsn], s⟩ := rfl
    rw [eN] at hwA hse ⊢
    replace hse := hse ⟨by simp; omega, by show s.length ≤ _; omega⟩
    generalize settleS ⟨id, st, lsn, b, q ++ [lsn], s⟩ = u at *
    refine dd Tryz.func184 ?_
    (unfold Tryz.f184; refine rn trivial ?_)
    have F := (And.intro @ht (And.intro @hg @app_I))
    refine rn F ?_
    repeat' (first
      | with_reducible exact ⟨⟩
      | refine vp F (c1) ?_
      | refine vp F (c2) ?_
      | refine vp F (c3) ?_
      | (refine vc_giveA [4] _ _ (hse) rfl ⟨⟨by simp, cells_nums _ _ _⟩, trivial⟩ (by decide) rfl (by simp [DV.nums.go, DV.nums]) ?_ ?_; (focus (refine rd F)); refine rn F ?_)
      | refine vp F (hwA) ?_
      | (refine vspine (id := 17) [0, 1, 3, 4] [⟨[5], [], 2, [0, 3, 4], []⟩, ⟨[5], [5], 6, [0, 1, 3, 4], [7]⟩, ⟨[], [], 8, [], []⟩] (by kernel_rfl) (by kernel_rfl) ?_; refine rn F ?_))
    all_goals first | rfl | skip
  · refine dd Tryz.func184 ?_
    (unfold Tryz.f184; refine rn trivial ?_)
    have F := (And.intro @ht @hg)
    refine rn F ?_
    repeat' (first
      | with_reducible exact ⟨⟩
      | refine vp F (c1) ?_
      | refine vp F (c2) ?_
      | refine vp F (c3) ?_)
    rotate_left
    all_goals first | contradiction | skip
    refine VLoop.nilOwn 8 3 1 rfl ?_
    refine vloopW (fun s0 : To q.length => ⟨100, 0, [(9, .int .i64 s0.i), (8, .own 2 1 0 ((q.take s0.i).filter fun x => decide (x ≠ ref)).length), (7, .ptr 1 0), (6, .int .i64 i), (3, .ptr 0 0), (0, .pv (.sl (fz encT l)))],
      [⟨31, true, [.int .i64 lsn, .int .i64 2, .int .i64 tx, .int .i64 ptx, .int .i64 ppg, .int .i64 ref, .int .i64 c.pg, .int .i64 c.sl, .bool c.b.set, .pv (.str c.b.data), .bool c.a.set, .pv (.str c.a.data), .pv (.str blob)]⟩,
       ⟨226, true, [.int .i64 id, .int .i64 st, .int .i64 lsn, .int .i64 b, .pv (.sl (fz encI q)), .pv (.sl (fz encI s))]⟩,
       ⟨3, true, cells encI ((q.take s0.i).filter fun x => decide (x ≠ ref))⟩]⟩) (fun s0 => q.length - s0.i) ⟨0, Nat.zero_le _⟩ (gc [0, 1, 2]) ?_
    intro s0
    have hi0 := s0.hi
    have hgq := fun h : s0.i < q.length => fzI_get q s0.i h
    have hfl := filt_le q ref s0.i
    have hfs := filt_succ q ref s0.i
    have hwA := hw i hi (settleS (noteT ⟨id, st, ptx, b, q, s⟩ ⟨lsn, 2, tx, ptx, ppg, ref, c, blob⟩))
    have hse := rsettle_v (noteT ⟨id, st, ptx, b, q, s⟩ ⟨lsn, 2, tx, ptx, ppg, ref, c, blob⟩)
    have eN : noteT ⟨id, st, ptx, b, q, s⟩ ⟨lsn, 2, tx, ptx, ppg, ref, c, blob⟩ = ⟨id, st, lsn, b, q.filter fun x => decide (x ≠ ref), s⟩ := rfl
    have hfq := filt_eq q ref
    rw [eN] at hwA hse ⊢
    have hfl2 : (q.filter fun x => decide (x ≠ ref)).length ≤ q.length := List.length_filter_le _ _
    replace hse := hse ⟨by show (q.filter fun x => decide (x ≠ ref)).length ≤ _; omega, by show s.length ≤ _; omega⟩
    by_cases hc : s0.i < q.length
    · replace hfs := hfs hc
      generalize ((q.take s0.i).filter fun x => decide (x ≠ ref)) = out at *
      have hb : (out.length + 1) * 8 ≤ 140737488355328 := by omega
      have F := (And.intro @hgq (And.intro @app_I @hb))
      refine rn F ?_
      repeat' (first
        | with_reducible exact ⟨⟩
        | (refine sB F ?_ ?_ <;> intro hZ)
        | (refine vspine (id := 23) [0, 1, 2, 3, 4, 5, 6, 7] [] (by kernel_rfl) (by kernel_rfl) ?_; refine rn F ?_))
      · have hf2 : (q.take (s0.i + 1)).filter (fun x => decide ¬x = ref) = out ++ [q.getD s0.i 0] := by rw [if_neg (by assumption)] at hfs; exact hfs
        refine ⟨⟨s0.i + 1, by omega⟩, by show q.length - (s0.i + 1) < q.length - s0.i; omega, ?_⟩
        dsimp only
        rw [hf2, List.length_append]
        exact (gc [0, 1, 4])
      · have hf2 : (q.take (s0.i + 1)).filter (fun x => decide ¬x = ref) = out := by rw [if_pos (by assumption), List.append_nil] at hfs; exact hfs
        refine ⟨⟨s0.i + 1, by omega⟩, by show q.length - (s0.i + 1) < q.length - s0.i; omega, ?_⟩
        dsimp only
        rw [hf2]
        exact (gc [0, 1, 2])
    · rw [List.take_of_length_le (by omega)] at *
      generalize (q.filter fun x => decide (x ≠ ref)) = out at *
      generalize settleS ⟨id, st, lsn, b, out, s⟩ = u at *
      have F := trivial
      refine rn F ?_
      repeat' (first
        | with_reducible exact ⟨⟩
        | (refine sB F ?_ ?_ <;> intro hZ)
        | (refine vc_giveA [2] _ _ (hse) rfl ⟨⟨by simp, cells_nums _ _ _⟩, trivial⟩ (by decide) rfl (by simp [DV.nums.go, DV.nums]) ?_ ?_; (focus (refine rd F)); refine rn F ?_)
        | refine vp F (hwA) ?_)
      all_goals first | (rw [if_pos (hfq.1 (by omega))]; rfl) | (rw [if_neg (fun h => absurd (hfq.2 h) (by omega))]; rfl) | skip
  · rw [if_neg (by rintro (h | h); exact h rfl; omega), if_pos (by omega)]
    refine dd Tryz.func184 ?_
    (unfold Tryz.f184; refine rn trivial ?_)
    have F := (And.intro @ht @hg)
    refine rn F ?_
    repeat' (first
      | with_reducible exact ⟨⟩
      | refine vp F (c1) ?_
      | refine vp F (c2) ?_
      | refine vp F (c3) ?_
      | refine vp F (c4) ?_)
    all_goals rfl
  · rw [if_neg (by rintro (h | h); exact h rfl; omega), if_neg (by omega)]
    have hwA := hw i hi (settleS (noteT ⟨id, st, ptx, b, q, s⟩ ⟨lsn, 4, tx, ptx, ppg, ref, c, blob⟩))
    have hse := rsettle_v (noteT ⟨id, st, ptx, b, q, s⟩ ⟨lsn, 4, tx, ptx, ppg, ref, c, blob⟩)
    have eN : noteT ⟨id, st, ptx, b, q, s⟩ ⟨lsn, 4, tx, ptx, ppg, ref, c, blob⟩ = ⟨id, 3, lsn, 0, q, []⟩ := rfl
    rw [eN] at hwA hse ⊢
    replace hse := hse ⟨by show q.length ≤ _; omega, by simp⟩
    have hse2 : VCalls prog 224 [.agg [.int .i64 id, .int .i64 3, .int .i64 lsn, .int .i64 0, .pv (.sl (fz encI q)), .pv (.slc [])]] [] (Ret (.agg (settleS ⟨id, 3, lsn, 0, q, []⟩).d)) := VCalls.wkA hse
    generalize settleS ⟨id, 3, lsn, 0, q, []⟩ = u at *
    refine dd Tryz.func184 ?_
    (unfold Tryz.f184; refine rn trivial ?_)
    have F := (And.intro @ht @hg)
    refine rn F ?_
    repeat' (first
      | with_reducible exact ⟨⟩
      | refine vp F (c1) ?_
      | refine vp F (c2) ?_
      | refine vp F (c3) ?_
      | refine vp F (hse2) ?_
      | refine vp F (hwA) ?_)
    all_goals rfl
  · rw [if_neg (by rintro (h | h); exact h rfl; omega), if_pos (by omega)]
    refine dd Tryz.func184 ?_
    (unfold Tryz.f184; refine rn trivial ?_)
    have F := (And.intro @ht @hg)
    refine rn F ?_
    repeat' (first
      | with_reducible exact ⟨⟩
      | refine vp F (c1) ?_
      | refine vp F (c2) ?_
      | refine vp F (c3) ?_
      | refine vp F (c4) ?_)
    all_goals rfl
end
attribute [go_sem] Ce.d Ch.d E.d Lg.c mem_ok List.length_append List.length_take List.length_drop List.take_length toNat_succ toNat_pred
attribute [go_sem] lenE allE slkE srcE frzE app_E
theorem Okay.no {n : Nat} {c : Nat → Bool} (s : Okay n c) {B : Bool} (h : s.i < n) (hB : B = (List.range n).all c) (hc : c s.i = false) : B = false := by rw [hB, all_not h hc]
theorem Okay.yes {n : Nat} {c : Nat → Bool} (s : Okay n c) {B : Bool} (h : ¬ s.i < n) (hB : B = (List.range n).all c) : B = true := by rw [hB, s.all h]
theorem Okay.dec {n : Nat} {c : Nat → Bool} (s : Okay n c) (h : s.i < n) : n - (s.i + 1) < n - s.i := by omega
structure Pg where
  id : Int
  lsn : Int
  cel : Nat → Ce
def celP (c : Nat → Ce) : List PV := (List.range 16).flatMap fun i => [.lit (.bool (c i).set), .str (c i).data]
def Pg.p (x : Pg) : List PV := .lit (.int .i64 x.id) :: .lit (.int .i64 x.lsn) :: celP x.cel
def Pg.d (x : Pg) : List DV := x.p.map .pv
def Pg0 : Pg := ⟨0, 0, fun _ => Ce0⟩
structure Fm where
  pg : Pg
  dirty : Bool
  rc : Int
  used : Bool
def Fm.p (f : Fm) : List PV := f.pg.p ++ [.lit (.bool f.dirty), .lit (.int .i64 f.rc), .lit (.bool f.used)]
def Fm.d (f : Fm) : List DV := f.p.map .pv
def Fm0 : Fm := ⟨Pg0, false, 0, false⟩
def encF : Enc Fm := ⟨37, Fm.p, by decide, fun _ => rfl⟩
theorem lenF (l : List Fm) : (cells encF l).length = l.length * 37 := cells_len encF l
theorem allF (l : List Fm) (n : Nat) (h : l.length * 37 ≤ n) : (cells encF l).take n = cells encF l := by rw [List.take_of_length_le]; rw [lenF]; exact h
theorem appF (l m : List Fm) : cells encF l ++ cells encF m = cells encF (l ++ m) := (cells_app encF l m).symm
theorem slkF (l : List Fm) (T : TypeId) (a b : Nat) (h : a ≤ b ∧ b ≤ l.length) : vslk (some (none, T, 37)) (fz encF l) a b = some (.pv (.sl (fz encF ((l.take b).drop a)))) := vslk_fz encF l T a b h
theorem srcF (l : List Fm) : (fz encF l = [] ∨ (fz encF l)[0]?.map List.length = some 37) = True := fz_src encF l
theorem frzF {n : Nat} {hp : Heap} {len : Nat} {l : List Fm} (h : l.length = len) : frzC n hp 0 37 len (some (cells encF l)) = some (.sl (fz encF l)) := frzC_cells encF h
theorem fz_getD {α : Type} (e : Enc α) (l : List α) (d : α) (i : Nat) (h : i < l.length) : (fz e l)[i]? = some (e.enc (l.getD i d)) := by rw [getD_eq l i h d]; exact fz_get e l i h
theorem fzF_at (l : List Fm) (i : Nat) (h : i < l.length) : (fz encF l)[i]? = some (l.getD i Fm0).p := fz_getD encF l Fm0 i h
theorem app_F (l : List Fm) (f : Fm) : cells encF l ++ f.d = cells encF (l ++ [f]) := by rw [cells_app]; simp [cells, encF, Fm.d]
@[go_sem] theorem viasF (x : Fm) {T : TypeId} {i : Int} (h0 : 0 ≤ i) : vias (some (none, T, 37)) (some x.p) i = some (.ip x.p) := vias_some h0 rfl (by decide)
@[go_sem] theorem Pg.p_len (x : Pg) : x.p.length = 34 := rfl
@[go_sem] theorem Pg.d_len (x : Pg) : x.d.length = 34 := rfl
@[go_sem] theorem Fm.p_len (x : Fm) : x.p.length = 37 := rfl
@[go_sem] theorem Fm.d_len (x : Fm) : x.d.length = 37 := rfl
@[go_sem] theorem Pg.p_map (x : Pg) : x.p.map DV.pv = x.d := (rfl)
@[go_sem] theorem Fm.p_map (x : Fm) : x.p.map DV.pv = x.d := (rfl)
@[go_sem] theorem Fm.p_take (x : Fm) : x.p.take 37 = x.p := (rfl)
@[go_sem] theorem Fm.d_take (x : Fm) : x.d.take 37 = x.d := (rfl)
@[go_sem] theorem Pg.p_take (x : Pg) : x.p.take 34 = x.p := (rfl)
@[go_sem] theorem Pg.d_take (x : Pg) : x.d.take 34 = x.d := (rfl)
@[go_sem] theorem Fm.p_pg (x : Fm) : x.p.take 34 = x.pg.p := (rfl)
@[go_sem] theorem Fm.d_pg (x : Fm) : x.d.take 34 = x.pg.d := (rfl)
@[go_sem] theorem Fm.p0 (x : Fm) : x.p[0]? = some (.lit (.int .i64 x.pg.id)) := (rfl)
theorem Fm.p1 (x : Fm) : x.p[1]? = some (.lit (.int .i64 x.pg.lsn)) := (rfl)
@[go_sem] theorem Fm.pd1 (x : Fm) : (x.p.drop 1)[0]? = some (.lit (.int .i64 x.pg.lsn)) := (rfl)
@[go_sem] theorem Fm.pd34 (x : Fm) : (x.p.drop 34)[0]? = some (.lit (.bool x.dirty)) := (rfl)
@[go_sem] theorem Fm.pd35 (x : Fm) : (x.p.drop 35)[0]? = some (.lit (.int .i64 x.rc)) := (rfl)
@[go_sem] theorem Fm.pd36 (x : Fm) : (x.p.drop 36)[0]? = some (.lit (.bool x.used)) := (rfl)
@[go_sem] theorem Fm.d0 (x : Fm) : x.d[0]? = some (.pv (.lit (.int .i64 x.pg.id))) := (rfl)
@[go_sem] theorem Fm.d1 (x : Fm) : x.d[1]? = some (.pv (.lit (.int .i64 x.pg.lsn))) := (rfl)
@[go_sem] theorem Fm.d34 (x : Fm) : x.d[34]? = some (.pv (.lit (.bool x.dirty))) := (rfl)
@[go_sem] theorem Fm.d35 (x : Fm) : x.d[35]? = some (.pv (.lit (.int .i64 x.rc))) := (rfl)
@[go_sem] theorem Pg.p0 (x : Pg) : x.p[0]? = some (.lit (.int .i64 x.id)) := (rfl)
theorem Pg.p1 (x : Pg) : x.p[1]? = some (.lit (.int .i64 x.lsn)) := (rfl)
@[go_sem] theorem Pg.d0 (x : Pg) : x.d[0]? = some (.pv (.lit (.int .i64 x.id))) := (rfl)
@[go_sem] theorem Pg.d1 (x : Pg) : x.d[1]? = some (.pv (.lit (.int .i64 x.lsn))) := (rfl)
@[go_sem] theorem Pg.d_one (x : Pg) : allOne x.d = true := (rfl)
@[go_sem] theorem Fm.d_one (x : Fm) : allOne x.d = true := (rfl)
@[go_sem] theorem Pg.d_nums (x : Pg) (k : Nat → Bool) : DV.nums.go k x.d = true := (rfl)
@[go_sem] theorem Fm.d_nums (x : Fm) (k : Nat → Bool) : DV.nums.go k x.d = true := (rfl)
@[go_sem] theorem Fm.set34 (x : Fm) (b : Bool) : x.d.set 34 (.pv (.lit (.bool b))) = Fm.d ⟨x.pg, b, x.rc, x.used⟩ := (rfl)
@[go_sem] theorem Fm.set35 (x : Fm) (b : Int) : x.d.set 35 (.pv (.lit (.int .i64 b))) = Fm.d ⟨x.pg, x.dirty, b, x.used⟩ := (rfl)
@[go_sem] theorem Fm.set36 (x : Fm) (b : Bool) : x.d.set 36 (.pv (.lit (.bool b))) = Fm.d ⟨x.pg, x.dirty, x.rc, b⟩ := (rfl)
@[go_sem] theorem Fm.setpg (x : Fm) (p : Pg) : p.d ++ x.d.drop 34 = Fm.d ⟨p, x.dirty, x.rc, x.used⟩ := (rfl)
@[go_sem] theorem Fm.mk36 (x : Pg) (a c u : Bool) (b : Int) : (x.d ++ ([.pv (.lit (.bool a)), .pv (.lit (.int .i64 b)), .pv (.lit (.bool c))] : List DV)).take 36 ++ [.pv (.lit (.bool u))] ++ (x.d ++ ([.pv (.lit (.bool a)), .pv (.lit (.int .i64 b)), .pv (.lit (.bool c))] : List DV)).drop 37 = Fm.d ⟨x, a, b, u⟩ := (rfl)
@[go_sem] theorem Pg.set1 (x : Pg) (b : Int) : x.d.set 1 (.pv (.lit (.int .i64 b))) = Pg.d ⟨x.id, b, x.cel⟩ := (rfl)
@[go_sem] theorem Pg.d_drop (x : Pg) : x.d.drop 34 = [] := (rfl)
@[go_sem] theorem Fm.d_drop (x : Fm) : x.d.drop 37 = [] := (rfl)
theorem pvs_frz1 (n : Nat) (hp : Heap) : ∀ l : List PV, allSome ((l.map DV.pv).map (frz1 n hp)) = some (l.map DV.pv)
  | [] => rfl
  | p :: l => by show allSome (some (.pv p) :: (l.map DV.pv).map (frz1 n hp)) = _; rw [allSome_cons, pvs_frz1 n hp l]; rfl
@[go_sem] theorem Pg.d_frz1 (x : Pg) (n : Nat) (hp : Heap) : allSome (x.d.map (frz1 n hp)) = some x.d := pvs_frz1 n hp x.p
@[go_sem] theorem Fm.d_frz1 (x : Fm) (n : Nat) (hp : Heap) : allSome (x.d.map (frz1 n hp)) = some x.d := pvs_frz1 n hp x.p
@[go_sem] theorem Pg.d_wk (x : Pg) : DV.wk.go x.d = x.d := (rfl)
@[go_sem] theorem Fm.d_wk (x : Fm) : DV.wk.go x.d = x.d := (rfl)
theorem cel_at (x : Pg) (i : Nat) (h : i < 16) : (x.d.drop (2 + i * 2)).take 2 = [.pv (.lit (.bool (x.cel i).set)), .pv (.str (x.cel i).data)] := by
  have : i = 0 ∨ i = 1 ∨ i = 2 ∨ i = 3 ∨ i = 4 ∨ i = 5 ∨ i = 6 ∨ i = 7 ∨ i = 8 ∨ i = 9 ∨ i = 10 ∨ i = 11 ∨ i = 12 ∨ i = 13 ∨ i = 14 ∨ i = 15 := by omega
  rcases this with h | h | h | h | h | h | h | h | h | h | h | h | h | h | h | h <;> subst h <;> rfl
theorem cel_at0 (x : Pg) (i : Nat) (h : i < 16) : x.d[2 + i * 2]? = some (.pv (.lit (.bool (x.cel i).set))) := by
  have : i = 0 ∨ i = 1 ∨ i = 2 ∨ i = 3 ∨ i = 4 ∨ i = 5 ∨ i = 6 ∨ i = 7 ∨ i = 8 ∨ i = 9 ∨ i = 10 ∨ i = 11 ∨ i = 12 ∨ i = 13 ∨ i = 14 ∨ i = 15 := by omega
  rcases this with h | h | h | h | h | h | h | h | h | h | h | h | h | h | h | h <;> subst h <;> rfl
def Pg.setc (x : Pg) (i : Nat) (c : Ce) : Pg := ⟨x.id, x.lsn, fun k => if k = i then c else x.cel k⟩
theorem cel_set (x : Pg) (i : Nat) (h : i < 16) (c : Ce) : splice x.d (2 + i * 2) [.pv (.lit (.bool c.set)), .pv (.str c.data)] = (x.setc i c).d := by
  have : i = 0 ∨ i = 1 ∨ i = 2 ∨ i = 3 ∨ i = 4 ∨ i = 5 ∨ i = 6 ∨ i = 7 ∨ i = 8 ∨ i = 9 ∨ i = 10 ∨ i = 11 ∨ i = 12 ∨ i = 13 ∨ i = 14 ∨ i = 15 := by omega
  rcases this with h | h | h | h | h | h | h | h | h | h | h | h | h | h | h | h <;> subst h <;> rfl
structure Rw where
  lsn : Int
  im : Int
  at_ : Int
def encR : Enc Rw := ⟨3, fun r => [.lit (.int .i64 r.lsn), .lit (.int .i64 r.im), .lit (.int .i64 r.at_)], by decide, fun _ => rfl⟩
@[go_sem] def Rw.d (r : Rw) : List DV := [.int .i64 r.lsn, .int .i64 r.im, .int .i64 r.at_]
theorem lenR (l : List Rw) : (cells encR l).length = l.length * 3 := cells_len encR l
theorem srcR (l : List Rw) : (fz encR l = [] ∨ (fz encR l)[0]?.map List.length = some 3) = True := fz_src encR l
theorem frzR {n : Nat} {hp : Heap} {len : Nat} {l : List Rw} (h : l.length = len) : frzC n hp 0 3 len (some (cells encR l)) = some (.sl (fz encR l)) := frzC_cells encR h
def Rw0 : Rw := ⟨0, 0, 0⟩
theorem fzR_at (l : List Rw) (i : Nat) (h : i < l.length) : (fz encR l)[i]? = some [.lit (.int .i64 (l.getD i Rw0).lsn), .lit (.int .i64 (l.getD i Rw0).im), .lit (.int .i64 (l.getD i Rw0).at_)] := fz_getD encR l Rw0 i h
structure Dt where
  pg : Int
  rc : Int
  last : Int
def encY : Enc Dt := ⟨3, fun r => [.lit (.int .i64 r.pg), .lit (.int .i64 r.rc), .lit (.int .i64 r.last)], by decide, fun _ => rfl⟩
@[go_sem] def Dt.d (r : Dt) : List DV := [.int .i64 r.pg, .int .i64 r.rc, .int .i64 r.last]
theorem lenY (l : List Dt) : (cells encY l).length = l.length * 3 := cells_len encY l
theorem allY (l : List Dt) (n : Nat) (h : l.length * 3 ≤ n) : (cells encY l).take n = cells encY l := by rw [List.take_of_length_le]; rw [lenY]; exact h
theorem frzY {n : Nat} {hp : Heap} {len : Nat} {l : List Dt} (h : l.length = len) : frzC n hp 0 3 len (some (cells encY l)) = some (.sl (fz encY l)) := frzC_cells encY h
def Dt0 : Dt := ⟨0, 0, 0⟩
theorem fzY_at (l : List Dt) (i : Nat) (h : i < l.length) : (fz encY l)[i]? = some [.lit (.int .i64 (l.getD i Dt0).pg), .lit (.int .i64 (l.getD i Dt0).rc), .lit (.int .i64 (l.getD i Dt0).last)] := fz_getD encY l Dt0 i h
theorem app_Y (l : List Dt) (a b c : Int) : cells encY l ++ [.pv (.lit (.int .i64 a)), .pv (.lit (.int .i64 b)), .pv (.lit (.int .i64 c))] = cells encY (l ++ [⟨a, b, c⟩]) := by rw [cells_app]; rfl
structure Gr where
  tx : Int
  pg : Int
  sl : Int
  md : Int
def Gr0 : Gr := ⟨0, 0, 0, 0⟩
def encG : Enc Gr := ⟨4, fun g => [.lit (.int .i64 g.tx), .lit (.int .i64 g.pg), .lit (.int .i64 g.sl), .lit (.int .i64 g.md)], by decide, fun _ => rfl⟩
@[go_sem] def Gr.d (g : Gr) : List DV := [.int .i64 g.tx, .int .i64 g.pg, .int .i64 g.sl, .int .i64 g.md]
theorem lenG (l : List Gr) : (cells encG l).length = l.length * 4 := cells_len encG l
theorem allG (l : List Gr) (n : Nat) (h : l.length * 4 ≤ n) : (cells encG l).take n = cells encG l := by rw [List.take_of_length_le]; rw [lenG]; exact h
theorem appG (l m : List Gr) : cells encG l ++ cells encG m = cells encG (l ++ m) := (cells_app encG l m).symm
theorem slkG (l : List Gr) (T : TypeId) (a b : Nat) (h : a ≤ b ∧ b ≤ l.length) : vslk (some (none, T, 4)) (fz encG l) a b = some (.pv (.sl (fz encG ((l.take b).drop a)))) := vslk_fz encG l T a b h
theorem srcG (l : List Gr) : (fz encG l = [] ∨ (fz encG l)[0]?.map List.length = some 4) = True := fz_src encG l
theorem frzG {n : Nat} {hp : Heap} {len : Nat} {l : List Gr} (h : l.length = len) : frzC n hp 0 4 len (some (cells encG l)) = some (.sl (fz encG l)) := frzC_cells encG h
theorem fzG_at (l : List Gr) (i : Nat) (h : i < l.length) : (fz encG l)[i]? = some [.lit (.int .i64 (l.getD i Gr0).tx), .lit (.int .i64 (l.getD i Gr0).pg), .lit (.int .i64 (l.getD i Gr0).sl), .lit (.int .i64 (l.getD i Gr0).md)] := fz_getD encG l Gr0 i h
theorem app_G (l : List Gr) (a b c d : Int) : cells encG l ++ [.pv (.lit (.int .i64 a)), .pv (.lit (.int .i64 b)), .pv (.lit (.int .i64 c)), .pv (.lit (.int .i64 d))] = cells encG (l ++ [⟨a, b, c, d⟩]) := by rw [cells_app]; rfl
theorem fzE_g (l : List E) (i : Nat) (h : i < l.length) : (fz encE l)[i]? = some [.lit (.int .i64 (l.getD i E0).lsn), .lit (.int .i64 (l.getD i E0).kind), .lit (.int .i64 (l.getD i E0).tx), .lit (.int .i64 (l.getD i E0).ptx), .lit (.int .i64 (l.getD i E0).ppg), .lit (.int .i64 (l.getD i E0).ref), .lit (.int .i64 (l.getD i E0).c.pg), .lit (.int .i64 (l.getD i E0).c.sl), .lit (.bool (l.getD i E0).c.b.set), .str (l.getD i E0).c.b.data, .lit (.bool (l.getD i E0).c.a.set), .str (l.getD i E0).c.a.data, .str (l.getD i E0).blob] := fz_getD encE l E0 i h
theorem fzT_g (l : List Tx) (i : Nat) (h : i < l.length) : (fz encT l)[i]? = some [.lit (.int .i64 (l.getD i Tx0).id), .lit (.int .i64 (l.getD i Tx0).st), .lit (.int .i64 (l.getD i Tx0).n), .lit (.int .i64 (l.getD i Tx0).b), .sl (fz encI (l.getD i Tx0).l), .sl (fz encI (l.getD i Tx0).s)] := fz_getD encT l Tx0 i h
theorem wk_E (l : List E) : DV.wk.go (cells encE l) = cells encE l := wk_cells encE l fun a p hp => by
  simp [encE] at hp
  rcases hp with h | h | h | h | h | h | h | h | h | h | h | h | h <;> subst h <;> rfl
theorem wk_R (l : List Rw) : DV.wk.go (cells encR l) = cells encR l := wk_cells encR l fun a p hp => by
  simp [encR] at hp
  rcases hp with h | h | h <;> subst h <;> rfl
theorem wk_Y (l : List Dt) : DV.wk.go (cells encY l) = cells encY l := wk_cells encY l fun a p hp => by
  simp [encY] at hp
  rcases hp with h | h | h <;> subst h <;> rfl
theorem wk_F (l : List Fm) : DV.wk.go (cells encF l) = cells encF l := wk_cells encF l fun a p hp => by
  have hm : a.p.map PV.wk = a.p := rfl
  have hp : p ∈ a.p := hp
  obtain ⟨i, hi, rfl⟩ := List.getElem_of_mem hp
  have := congrArg (fun l => l[i]?) hm
  simpa [hi] using this
attribute [go_sem] wk_E wk_R wk_Y wk_F
attribute [go_sem] lenF allF appF slkF srcF frzF app_F lenR srcR frzR lenY allY frzY app_Y lenG allG appG slkG srcG frzG app_G
structure Pl where
  size : Int
  fs : List Fm
  hand : Int
@[go_sem] def Pl.d (p : Pl) : List DV := [.int .i64 p.size, .pv (.sl (fz encF p.fs)), .int .i64 p.hand]
def Pl0 : Pl := ⟨0, [], 0⟩
structure Lk where
  held : List Gr
  wait : List Gr
@[go_sem] def Lk.d (t : Lk) : List DV := [.pv (.sl (fz encG t.held)), .pv (.sl (fz encG t.wait))]
section
attribute [local go_sem] iteLe
def Pg.numB (p : Pg) : Bool := decide (0 ≤ p.id) && decide (p.id < 64) && decide (0 ≤ p.lsn) && decide (p.lsn ≤ 1099511627776)
def Pg.celC (p : Pg) (i : Nat) : Bool := (p.cel i).okB && !(decide (p.lsn = 0) && (p.cel i).set)
def Pg.celB (p : Pg) : Bool := (List.range 16).all p.celC
def Pg.okB (p : Pg) : Bool := p.numB && p.celB
def checkS (p : Pg) : Int := if p.numB = false then 1 else if p.celB = false then 22 else 0
theorem rnum_v (p : Pg) : VCalls prog 216 [.agg p.d] [] (Ret (.bool p.numB)) := by
  refine dd Tryz.func216 ?_
  (unfold Tryz.f216; refine rn trivial ?_)
  refine rn F ?_
  repeat' (first
    | with_reducible exact ⟨⟩
    | (refine sG F ?_ ?_ <;> intro hZ))
  all_goals (first | rfl | (congr 3; rw [Bool.eq_iff_iff]; (try simp only [Pg.numB, decide_eq_true_eq, Bool.and_eq_true, Bool.or_eq_true, Bool.not_eq_true', Bool.not_eq_false', decide_eq_false_iff_not, beq_iff_eq, bne_iff_ne, ne_eq, Bool.false_eq_true, Bool.true_eq_false, iff_true, true_iff, iff_false, false_iff]); first | done | omega | grind))
theorem rcells_v (p : Pg) : VCalls prog 217 [.agg p.d] [] (Ret (.bool p.celB)) := by
  refine dd Tryz.func217 ?_
  (unfold Tryz.f217; refine rn trivial ?_)
  refine vloopW (fun s : Okay 16 p.celC => ⟨26, 0, [(3, .int .i64 s.i), (1, .ptr 0 0)], [⟨188, true, p.d⟩]⟩) (fun s => 16 - s.i) (Okay.start _ _) (gc [0]) ?_
  intro s
  have hsi := s.hi
  have hg := fun h : s.i < 16 => cel_at p s.i h
  have hg0 := fun h : s.i < 16 => cel_at0 p s.i h
  have e : p.celC s.i = ((p.cel s.i).okB && !(decide (p.lsn = 0) && (p.cel s.i).set)) := rfl
  have c := rcellok_v (p.cel s.i)
  generalize (p.cel s.i).okB = ok at *
  have F := (And.intro @hg @hg0)
  refine rn F ?_
  repeat' (first
    | with_reducible exact ⟨⟩
    | (refine sG F ?_ ?_ <;> intro hZ)
    | (refine sB F ?_ ?_ <;> intro hZ)
    | refine vp F (c) ?_)
  all_goals first | (exact congrArg DV.bool (s.no (by omega) rfl (by rw [e]; simp_all )).symm) | (exact congrArg DV.bool (s.yes (by omega) rfl).symm) | (exact ⟨s.next (by omega) (by rw [e]; simp_all ), s.dec (by omega), (gc [ 0])⟩) | skip
theorem rpvalid_v (p : Pg) : VCalls prog 170 [.agg p.d] [] (Ret (.bool p.okB)) := by
  refine dd Tryz.func170 ?_
  have c1 := rnum_v p
  have c2 := rcells_v p
  have e : p.okB = (p.numB && p.celB) := rfl
  generalize p.numB = a at *
  generalize p.celB = b at *
  (unfold Tryz.f170; refine rn trivial ?_)
  refine rn F ?_
  repeat' (first
    | with_reducible exact ⟨⟩
    | (refine sG F ?_ ?_ <;> intro hZ)
    | refine vp F (c1) ?_
    | refine vp F (c2) ?_)
  all_goals (rw [e]; simp_all)
theorem rcheck_v (p : Pg) : VCalls prog 171 [.agg p.d] [] (Ret (.int .i64 (checkS p))) := by
  refine dd Tryz.func171 ?_
  have c1 := rnum_v p
  have c2 := rcells_v p
  have e : checkS p = if p.numB = false then 1 else if p.celB = false then 22 else 0 := rfl
  generalize p.numB = a at *
  generalize p.celB = b at *
  (unfold Tryz.f171; refine rn trivial ?_)
  refine rn F ?_
  repeat' (first
    | with_reducible exact ⟨⟩
    | (refine sB F ?_ ?_ <;> intro hZ)
    | refine vp F (c1) ?_
    | refine vp F (c2) ?_)
  all_goals (rw [e]; simp_all)
theorem checkS_ok {p : Pg} (h : checkS p = 0) : p.okB = true := by
  unfold checkS at h
  unfold Pg.okB
  split at h
  · simp at h
  split at h
  · simp at h
  · simp_all
end
section
attribute [local go_sem] iteLe
def idF (l : List Fm) (a : Int) : Int := idxP l fun f => f.pg.id == a
theorem rffind_v (p : Pl) (hl : p.fs.length ≤ 1000000) (a : Int) : VCalls prog 140 [.agg p.d, .int .i64 a] [] (Ret (.int .i64 (idF p.fs a))) := by
  refine dd Tryz.func140 ?_
  obtain ⟨z, l, h⟩ := p
  (unfold Tryz.f140; refine rn trivial ?_)
  refine vloopW (fun i : Pass l (fun x => (x.pg.id == a) = true) => ⟨23, 0, [(5, .int .i64 i.i), (2, .ptr 0 0), (1, .int .i64 a)], [⟨62, true, Pl.d ⟨z, l, h⟩⟩]⟩) (fun i => l.length - i.i) (Pass.start l _) (gc [0]) ?_
  intro i
  have hi := i.hi
  dsimp only at hl
  have hg := fun h : i.i < l.length => fzF_at l i.i h
  have F := @hg
  refine rn F ?_
  repeat' (first
    | with_reducible exact ⟨⟩
    | (refine sB F ?_ ?_ <;> intro hZ))
  · have hq : (l.getD i.i Fm0).pg.id = a := by assumption
    rw [getD_eq l i.i (by omega)] at hq
    have := idxP_at l (fun x => x.pg.id == a) i.i (by omega) (by simpa using hq) i.no
    rw [idF, this]
  · have hq : ¬ (l.getD i.i Fm0).pg.id = a := by assumption
    rw [getD_eq l i.i (by omega)] at hq
    exact ⟨i.next (by omega) (by simpa using hq), by show l.length - (i.i + 1) < l.length - i.i; omega, (gc [0])⟩
  · have := i.all (by omega)
    rw [idF, idxP, if_neg (by simpa using this)]
def dupC (l : List Fm) (i k : Nat) : Bool := !decide ((l.getD k Fm0).pg.id = (l.getD i Fm0).pg.id)
def frC (l : List Fm) (i : Nat) : Bool := (l.getD i Fm0).pg.okB && !((l.getD i Fm0).dirty && (decide ((l.getD i Fm0).rc < 1) || decide ((l.getD i Fm0).pg.lsn < (l.getD i Fm0).rc))) && !(!(l.getD i Fm0).dirty && !decide ((l.getD i Fm0).rc = 0)) && (List.range i).all (dupC l i)
def Pl.hd (p : Pl) : Prop := 1 ≤ p.size ∧ p.size ≤ 64 ∧ p.fs.length ≤ p.size ∧ 0 ≤ p.hand ∧ p.hand ≤ max 0 ((p.fs.length : Int) - 1)
instance (p : Pl) : Decidable p.hd := by unfold Pl.hd; infer_instance
def plB (p : Pl) : Bool := decide p.hd && (List.range p.fs.length).all (frC p.fs)
theorem plB_hd {p : Pl} (h : plB p = true) : p.hd := by unfold plB at h; simp at h; exact h.1
theorem rplvalid_v (p : Pl) (hl : p.fs.length ≤ 1000000) : VCalls prog 139 [.agg p.d] [] (Ret (.bool (plB p))) := by
  refine dd Tryz.func139 ?_
  obtain ⟨z, l, hn⟩ := p
  dsimp only at hl
  have hB : plB ⟨z, l, hn⟩ = (decide (Pl.hd ⟨z, l, hn⟩) && (List.range l.length).all (frC l)) := rfl
  have hH : Pl.hd ⟨z, l, hn⟩ = (1 ≤ z ∧ z ≤ 64 ∧ l.length ≤ z ∧ 0 ≤ hn ∧ hn ≤ max 0 ((l.length : Int) - 1)) := rfl
  have hB' : Pl.hd ⟨z, l, hn⟩ → plB ⟨z, l, hn⟩ = (List.range l.length).all (frC l) := fun h => by rw [hB, decide_eq_true h, Bool.true_and]
  have no : ¬ Pl.hd ⟨z, l, hn⟩ → plB ⟨z, l, hn⟩ = false := fun h => by rw [hB, decide_eq_false h]; rfl
  generalize plB ⟨z, l, hn⟩ = b at *
  (unfold Tryz.f139; refine rn trivial ?_)
  refine rn F ?_
  repeat' (first
    | with_reducible exact ⟨⟩
    | (refine sG F ?_ ?_ <;> intro hZ)
    | (refine sB F ?_ ?_ <;> intro hZ))
  all_goals first | (rw [no (by rw [hH]; omega)]) | skip
  refine vloopW (fun s : Okay l.length (frC l) => ⟨94, 0, [(4, .int .i64 s.i), (3, .int .i64 l.length), (1, .ptr 0 0)], [⟨62, true, Pl.d ⟨z, l, hn⟩⟩]⟩) (fun s => l.length - s.i) (Okay.start _ _) (gc [0]) ?_
  intro s
  have hsi := s.hi
  have hg := fun h : s.i < l.length => fzF_at l s.i h
  have c1 := rpvalid_v (l.getD s.i Fm0).pg
  have e : frC l s.i = ((l.getD s.i Fm0).pg.okB && !((l.getD s.i Fm0).dirty && (decide ((l.getD s.i Fm0).rc < 1) || decide ((l.getD s.i Fm0).pg.lsn < (l.getD s.i Fm0).rc))) && !(!(l.getD s.i Fm0).dirty && !decide ((l.getD s.i Fm0).rc = 0)) && (List.range s.i).all (dupC l s.i)) := rfl
  generalize (l.getD s.i Fm0).pg.okB = ok at *
  have F := @hg
  refine rn F ?_
  repeat' (first
    | with_reducible exact ⟨⟩
    | (refine sG F ?_ ?_ <;> intro hZ)
    | (refine sB F ?_ ?_ <;> intro hZ)
    | refine vp F (c1) ?_)
  all_goals first
    | (exact congrArg DV.bool (s.no (by omega) (hB' (by rw [hH]; omega)) (by rw [e]; simp_all)).symm)
    | (exact congrArg DV.bool (s.yes (by omega) (hB' (by rw [hH]; omega))).symm)
    | skip
  all_goals
    refine vloopW (fun r : Okay s.i (dupC l s.i) => ⟨94, 0, [(6, .int .i64 r.i), (5, .ptr 1 0), (4, .int .i64 s.i), (3, .int .i64 l.length), (1, .ptr 0 0)], [⟨62, true, Pl.d ⟨z, l, hn⟩⟩, ⟨192, true, (l.getD s.i Fm0).d⟩]⟩) (fun r => s.i - r.i) (Okay.start _ _) (gc [0, 1]) ?_
    intro r
    have hri := r.hi
    have hk := fun h : r.i < l.length => fzF_at l r.i h
    have e2 : dupC l s.i r.i = !decide ((l.getD r.i Fm0).pg.id = (l.getD s.i Fm0).pg.id) := rfl
    have F := @hk
    refine rn F ?_
    repeat' (first
      | with_reducible exact ⟨⟩
      | (refine sB F ?_ ?_ <;> intro hZ)
      | (refine vspine (id := 13) [0, 1, 2, 3, 4, 5, 6, 7, 8, 9, 10] [] (by kernel_rfl) (by kernel_rfl) ?_; refine rn F ?_))
  all_goals first
    | (exact congrArg DV.bool (s.no (by omega) (hB' (by rw [hH]; omega)) (by rw [e, all_not (i := r.i) (by omega) (by rw [e2]; simp_all), Bool.and_false])).symm)
    | (exact ⟨r.next (by omega) (by rw [e2]; simp_all), r.dec (by omega), (gc [0, 1])⟩)
    | (exact ⟨s.next (by omega) (by rw [e, r.all (by omega)]; simp_all), s.dec (by omega), (gc [0])⟩)
    | skip
end
section
attribute [local go_sem] iteLe
def findS (p : Pl) (a : Int) : Int := if plB p = true then idF p.fs a else -1
theorem idF_cases (l : List Fm) (a : Int) : idF l a = -1 ∨ ∃ i : Nat, ∃ _ : i < l.length, idF l a = i ∧ (l.getD i Fm0).pg.id = a := by
  rcases idxP_find l (fun f => f.pg.id == a) with ⟨h, _⟩ | ⟨i, hi, h, hf⟩
  · exact .inl h
  · refine .inr ⟨i, hi, h, ?_⟩
    have := List.find?_some hf
    rw [getD_eq l i hi]; simpa using this
theorem findS_cases (p : Pl) (a : Int) : findS p a = -1 ∨ (plB p = true ∧ ∃ i : Nat, ∃ _ : i < p.fs.length, findS p a = i ∧ idF p.fs a = i ∧ (p.fs.getD i Fm0).pg.id = a) := by
  unfold findS
  split
  · rename_i hv
    rcases idF_cases p.fs a with h | ⟨i, hi, h, hx⟩
    · exact .inl h
    · exact .inr ⟨hv, i, hi, h, h, hx⟩
  · exact .inl rfl
def getS (p : Pl) (a : Int) : Pg × Bool := if findS p a < 0 then (Pg0, false) else ((p.fs.getD (findS p a).toNat Fm0).pg, true)
theorem rpfind_v (p : Pl) (hl : p.fs.length ≤ 1000000) (a : Int) : VCalls prog 124 [.agg p.d, .int .i64 a] [] (Ret (.int .i64 (findS p a))) := by
  refine dd Tryz.func124 ?_
  have c1 := rplvalid_v p hl
  have c2 := rffind_v p hl a
  unfold findS
  generalize plB p = b at *
  (unfold Tryz.f124; refine rn trivial ?_)
  refine rn F ?_
  repeat' (first
    | with_reducible exact ⟨⟩
    | (refine sB F ?_ ?_ <;> intro hZ)
    | refine vp F (c1) ?_
    | refine vp F (c2) ?_)
  all_goals (simp_all)
theorem rpget_v (p : Pl) (hl : p.fs.length ≤ 1000000) (a : Int) : VCalls prog 137 [.agg p.d, .int .i64 a] [] (Ret (.tup [.agg (getS p a).1.d, .bool (getS p a).2])) := by
  refine dd Tryz.func137 ?_
  have c1 := rpfind_v p hl a
  unfold getS
  rcases findS_cases p a with h | ⟨_, i, hi, h, _⟩
  · rw [h] at c1 ⊢
    (unfold Tryz.f137; refine rn trivial ?_)
    refine rn F ?_
    repeat' (first
      | with_reducible exact ⟨⟩
      | refine vp F (c1) ?_)
    all_goals rfl
  · rw [h] at c1 ⊢
    rw [if_neg (by omega), Int.toNat_natCast]
    have hg := fzF_at p.fs i hi
    generalize p.fs.getD i Fm0 = f at *
    (unfold Tryz.f137; refine rn trivial ?_)
    have F := @hg
    refine rn F ?_
    repeat' (first
      | with_reducible exact ⟨⟩
      | refine vp F (c1) ?_)
theorem setF_in (l : List Fm) (i : Nat) (f : Fm) (hi : i < l.length) : (cells encF l).take (i * 37) ++ f.d ++ (cells encF l).drop (i * 37 + 37) = cells encF (l.set i f) := set_in encF l i f hi
theorem rpset_v (p : Pl) (hl : p.fs.length ≤ 1000000) (i : Nat) (hi : i < p.fs.length) (f : Fm) : VCalls prog 220 [.agg p.d, .int .i64 i, .agg f.d] [] (Ret (.agg (Pl.d ⟨p.size, p.fs.set i f, p.hand⟩))) := by
  refine dd Tryz.func220 ?_
  obtain ⟨z, l, hn⟩ := p
  dsimp only at hl hi
  have hb : i * 37 + 37 ≤ l.length * 37 := by omega
  have hse := setF_in l i f hi
  have hle : (l.set i f).length = l.length := List.length_set
  (unfold Tryz.f220; refine rn trivial ?_)
  have F := (And.intro @hb (And.intro @hse @hle))
  (refine rn F ?_; try with_reducible exact ⟨⟩)
def useS (p : Pl) (a : Int) : Pl := if findS p a < 0 then p else ⟨p.size, p.fs.set (findS p a).toNat ⟨(p.fs.getD (findS p a).toNat Fm0).pg, (p.fs.getD (findS p a).toNat Fm0).dirty, (p.fs.getD (findS p a).toNat Fm0).rc, true⟩, p.hand⟩
theorem rpuse_v (p : Pl) (hl : p.fs.length ≤ 1000000) (a : Int) : VCalls prog 248 [.agg p.d, .int .i64 a] [] (Ret (.agg (useS p a).d)) := by
  refine dd Tryz.func248 ?_
  have c1 := rpfind_v p hl a
  unfold useS
  rcases findS_cases p a with h | ⟨_, i, hi, h, _⟩
  · rw [h] at c1 ⊢
    (unfold Tryz.f248; refine rn trivial ?_)
    refine rn F ?_
    repeat' (first
      | with_reducible exact ⟨⟩
      | refine vp F (c1) ?_)
    all_goals rfl
  · rw [h] at c1 ⊢
    rw [if_neg (by omega), Int.toNat_natCast]
    have hg := fzF_at p.fs i hi
    have c2 := rpset_v p hl i hi ⟨(p.fs.getD i Fm0).pg, (p.fs.getD i Fm0).dirty, (p.fs.getD i Fm0).rc, true⟩
    generalize p.fs.getD i Fm0 = f at *
    (unfold Tryz.f248; refine rn trivial ?_)
    have F := @hg
    refine rn F ?_
    repeat' (first
      | with_reducible exact ⟨⟩
      | refine vp F (c1) ?_
      | refine vp F (c2) ?_)
def plNew (n : Int) : Pl × Int := if n < 1 ∨ 64 < n then (Pl0, 1) else (⟨n, [], 0⟩, 0)
theorem rpnew_v (n : Int) : VCalls prog 108 [.int .i64 n] [] (Ret (.tup [.agg (plNew n).1.d, .int .i64 (plNew n).2])) := by
  refine dk Tryz.func108 ?_
  unfold plNew
  (unfold Tryz.f108; refine rn trivial ?_)
  refine rn F ?_
  repeat' (first
    | with_reducible exact ⟨⟩
    | (refine sG F ?_ ?_ <;> intro hZ)
    | (refine sB F ?_ ?_ <;> intro hZ))
  all_goals first | (rw [if_pos (by omega)]; rfl) | (rw [if_neg (by omega)]; rfl)
def putS (p : Pl) (x : Pg) : Pl × Int :=
  if plB p = false then (Pl0, 15) else if checkS x ≠ 0 then (Pl0, checkS x) else if 0 ≤ idF p.fs x.id then (Pl0, 25) else if (p.fs.length : Int) = p.size then (Pl0, 21)
  else (⟨p.size, p.fs ++ [⟨x, false, 0, true⟩], p.hand⟩, 0)
theorem rpput_v (p : Pl) (hl : p.fs.length ≤ 100000) (x : Pg) : VCalls prog 195 [.agg p.d, .agg x.d] [] (Ret (.tup [.agg (putS p x).1.d, .int .i64 (putS p x).2])) := by
  refine dk Tryz.func195 ?_
  have c1 := rplvalid_v p (by omega)
  have c2 := rcheck_v x
  have c3 := rffind_v p (by omega) x.id
  have e : putS p x = if plB p = false then (Pl0, 15) else if checkS x ≠ 0 then (Pl0, checkS x) else if 0 ≤ idF p.fs x.id then (Pl0, 25) else if (p.fs.length : Int) = p.size then (Pl0, 21)
    else (⟨p.size, p.fs ++ [⟨x, false, 0, true⟩], p.hand⟩, 0) := rfl
  generalize putS p x = r at *
  generalize plB p = b at *
  generalize checkS x = k at *
  generalize idF p.fs x.id = m at *
  have hb : (p.fs.length + 1) * 304 ≤ 140737488355328 := by omega
  (unfold Tryz.f195; refine rn trivial ?_)
  have F := @hb
  refine rn F ?_
  repeat' (first
    | with_reducible exact ⟨⟩
    | (refine sB F ?_ ?_ <;> intro hZ)
    | refine vp F (c1) ?_
    | refine vp F (c2) ?_
    | refine vp F (c3) ?_
    | (refine vspine (id := 10) [0, 1, 3, 4] [⟨[5], [], 2, [0, 3, 4], []⟩, ⟨[5], [5], 6, [0, 1, 3, 4], [7]⟩, ⟨[], [], 8, [], []⟩] (by kernel_rfl) (by kernel_rfl) ?_; refine rn F ?_))
  all_goals first | (first | (rw [e]; simp (disch := first | assumption | omega | exact rfl | exact nf (by assumption) | exact nt (by assumption) | decide | fail) only [if_pos, if_neg]; first | done | rfl) | (rw [e]; simp (disch := first | assumption | omega | exact rfl | exact nf (by assumption) | exact nt (by assumption) | decide | (simp_all; done) | fail) only [if_pos, if_neg]; first | done | rfl)) | skip
end
section
attribute [local go_sem] iteLe
def updF (f : Fm) (x : Pg) : Fm := ⟨x, true, if f.dirty = true then f.rc else x.lsn, true⟩
def updS (p : Pl) (x : Pg) : Pl × Int :=
  if plB p = false then (Pl0, 15) else if checkS x ≠ 0 then (Pl0, checkS x) else if idF p.fs x.id < 0 then (Pl0, 18)
  else if x.lsn ≤ (p.fs.getD (idF p.fs x.id).toNat Fm0).pg.lsn then (Pl0, 8)
  else (⟨p.size, p.fs.set (idF p.fs x.id).toNat (updF (p.fs.getD (idF p.fs x.id).toNat Fm0) x), p.hand⟩, 0)
theorem rpupd_v (p : Pl) (hl : p.fs.length ≤ 100000) (x : Pg) : VCalls prog 241 [.agg p.d, .agg x.d] [] (Ret (.tup [.agg (updS p x).1.d, .int .i64 (updS p x).2])) := by
  refine dk Tryz.func241 ?_
  have c1 := rplvalid_v p (by omega)
  have c2 := rcheck_v x
  have c3 := rffind_v p (by omega) x.id
  have c4 := rpset_v p (by omega)
  have e : updS p x = if plB p = false then (Pl0, 15) else if checkS x ≠ 0 then (Pl0, checkS x) else if idF p.fs x.id < 0 then (Pl0, 18)
    else if x.lsn ≤ (p.fs.getD (idF p.fs x.id).toNat Fm0).pg.lsn then (Pl0, 8)
    else (⟨p.size, p.fs.set (idF p.fs x.id).toNat (updF (p.fs.getD (idF p.fs x.id).toNat Fm0) x), p.hand⟩, 0) := rfl
  have hi := idF_cases p.fs x.id
  generalize updS p x = r at *
  generalize plB p = b at *
  generalize checkS x = k at *
  rcases hi with h | ⟨i, hi, h, _⟩
  · rw [h] at c3 e
    (unfold Tryz.f241; refine rn trivial ?_)
    refine rn F ?_
    repeat' (first
      | with_reducible exact ⟨⟩
      | (refine sB F ?_ ?_ <;> intro hZ)
      | refine vp F (c1) ?_
      | refine vp F (c2) ?_
      | refine vp F (c3) ?_)
    all_goals first | (first | (rw [e]; simp (disch := first | assumption | omega | exact rfl | exact nf (by assumption) | exact nt (by assumption) | decide | fail) only [if_pos, if_neg]; first | done | rfl) | (rw [e]; simp (disch := first | assumption | omega | exact rfl | exact nf (by assumption) | exact nt (by assumption) | decide | (simp_all; done) | fail) only [if_pos, if_neg]; first | done | rfl)) | skip
  · rw [h] at c3 e
    rw [Int.toNat_natCast] at e
    have hg := fzF_at p.fs i hi
    have e2 : ∀ f : Fm, f.dirty = true → updF f x = ⟨x, true, f.rc, true⟩ := fun f h => by unfold updF; rw [if_pos h]
    have e3 : ∀ f : Fm, ¬ f.dirty = true → updF f x = ⟨x, true, x.lsn, true⟩ := fun f h => by unfold updF; rw [if_neg h]
    have c4 := fun f => c4 i hi f
    generalize p.fs.getD i Fm0 = f at *
    (unfold Tryz.f241; refine rn trivial ?_)
    have F := @hg
    refine rn F ?_
    repeat' (first
      | with_reducible exact ⟨⟩
      | (refine sB F ?_ ?_ <;> intro hZ)
      | refine vp F (c1) ?_
      | refine vp F (c2) ?_
      | refine vp F (c3) ?_
      | refine vp F (c4 ⟨_, _, _, _⟩) ?_)
    all_goals first | (first | (rw [e]; simp (disch := first | assumption | omega | exact rfl | exact nf (by assumption) | exact nt (by assumption) | decide | fail) only [if_pos, if_neg]; first | done | rfl) | (rw [e]; simp (disch := first | assumption | omega | exact rfl | exact nf (by assumption) | exact nt (by assumption) | decide | (simp_all; done) | fail) only [if_pos, if_neg]; first | done | rfl)) | (first | (rw [e, e2 f (by assumption)]; simp (disch := first | assumption | omega | exact rfl | exact nf (by assumption) | exact nt (by assumption) | decide | fail) only [if_pos, if_neg]; first | done | rfl) | (rw [e, e2 f (by assumption)]; simp (disch := first | assumption | omega | exact rfl | exact nf (by assumption) | exact nt (by assumption) | decide | (simp_all; done) | fail) only [if_pos, if_neg]; first | done | rfl)) | (first | (rw [e, e3 f (by simp_all)]; simp (disch := first | assumption | omega | exact rfl | exact nf (by assumption) | exact nt (by assumption) | decide | fail) only [if_pos, if_neg]; first | done | rfl) | (rw [e, e3 f (by simp_all)]; simp (disch := first | assumption | omega | exact rfl | exact nf (by assumption) | exact nt (by assumption) | decide | (simp_all; done) | fail) only [if_pos, if_neg]; first | done | rfl)) | skip
def cleanF (f : Fm) (n : Int) : Fm := if f.pg.lsn = n then ⟨f.pg, false, 0, f.used⟩ else if f.rc ≤ n then ⟨f.pg, f.dirty, n + 1, f.used⟩ else f
def cleanS (p : Pl) (a n : Int) : Pl × Int :=
  if plB p = false then (Pl0, 15) else if idF p.fs a < 0 then (Pl0, 18)
  else if (p.fs.getD (idF p.fs a).toNat Fm0).pg.lsn < n then (Pl0, 9)
  else if (p.fs.getD (idF p.fs a).toNat Fm0).dirty = false then (p, 0)
  else (⟨p.size, p.fs.set (idF p.fs a).toNat (cleanF (p.fs.getD (idF p.fs a).toNat Fm0) n), p.hand⟩, 0)
theorem rpclean_v (p : Pl) (hl : p.fs.length ≤ 100000) (a n : Int) (hn : n ≤ 1099511627776) (hn0 : 0 ≤ n) : VCalls prog 177 [.agg p.d, .int .i64 a, .int .i64 n] [] (Ret (.tup [.agg (cleanS p a n).1.d, .int .i64 (cleanS p a n).2])) := by
  refine dk Tryz.func177 ?_
  have c1 := rplvalid_v p (by omega)
  have c3 := rffind_v p (by omega) a
  have c4 := rpset_v p (by omega)
  have e : cleanS p a n = if plB p = false then (Pl0, 15) else if idF p.fs a < 0 then (Pl0, 18)
    else if (p.fs.getD (idF p.fs a).toNat Fm0).pg.lsn < n then (Pl0, 9)
    else if (p.fs.getD (idF p.fs a).toNat Fm0).dirty = false then (p, 0)
    else (⟨p.size, p.fs.set (idF p.fs a).toNat (cleanF (p.fs.getD (idF p.fs a).toNat Fm0) n), p.hand⟩, 0) := rfl
  have hi := idF_cases p.fs a
  generalize cleanS p a n = r at *
  generalize plB p = b at *
  rcases hi with h | ⟨i, hi, h, _⟩
  · rw [h] at c3 e
    (unfold Tryz.f177; refine rn trivial ?_)
    refine rn F ?_
    repeat' (first
      | with_reducible exact ⟨⟩
      | (refine sB F ?_ ?_ <;> intro hZ)
      | refine vp F (c1) ?_
      | refine vp F (c3) ?_)
    all_goals first | (first | (rw [e]; simp (disch := first | assumption | omega | exact rfl | exact nf (by assumption) | exact nt (by assumption) | decide | fail) only [if_pos, if_neg]; first | done | rfl) | (rw [e]; simp (disch := first | assumption | omega | exact rfl | exact nf (by assumption) | exact nt (by assumption) | decide | (simp_all; done) | fail) only [if_pos, if_neg]; first | done | rfl)) | skip
  · rw [h] at c3 e
    rw [Int.toNat_natCast] at e
    have hg := fzF_at p.fs i hi
    have c4 := fun f => c4 i hi f
    generalize p.fs.getD i Fm0 = f at *
    obtain ⟨pg, dirty, rc, used⟩ := f
    have e1 : pg.lsn = n → cleanF ⟨pg, dirty, rc, used⟩ n = ⟨pg, false, 0, used⟩ := fun h => if_pos h
    have e2 : ¬ pg.lsn = n → rc ≤ n → cleanF ⟨pg, dirty, rc, used⟩ n = ⟨pg, dirty, n + 1, used⟩ := fun h h2 => by unfold cleanF; rw [if_neg h, if_pos h2]
    have e3 : ¬ pg.lsn = n → ¬ rc ≤ n → cleanF ⟨pg, dirty, rc, used⟩ n = ⟨pg, dirty, rc, used⟩ := fun h h2 => by unfold cleanF; rw [if_neg h, if_neg h2]
    cases dirty
    all_goals
      (unfold Tryz.f177; refine rn trivial ?_)
      have F := @hg
      refine rn F ?_
      repeat' (first
        | with_reducible exact ⟨⟩
        | (refine sB F ?_ ?_ <;> intro hZ)
        | refine vp F (c1) ?_
        | refine vp F (c3) ?_
        | refine vp F (c4 ⟨_, _, _, _⟩) ?_)
    all_goals first | (first | (rw [e]; simp (disch := first | assumption | omega | exact rfl | exact nf (by assumption) | exact nt (by assumption) | decide | fail) only [if_pos, if_neg]; first | done | rfl) | (rw [e]; simp (disch := first | assumption | omega | exact rfl | exact nf (by assumption) | exact nt (by assumption) | decide | (simp_all; done) | fail) only [if_pos, if_neg]; first | done | rfl)) | (first | (rw [e, e1 (by omega)]; simp (disch := first | assumption | omega | exact rfl | exact nf (by assumption) | exact nt (by assumption) | decide | fail) only [if_pos, if_neg]; first | done | rfl) | (rw [e, e1 (by omega)]; simp (disch := first | assumption | omega | exact rfl | exact nf (by assumption) | exact nt (by assumption) | decide | (simp_all; done) | fail) only [if_pos, if_neg]; first | done | rfl)) | (first | (rw [e, e2 (by omega) (by omega)]; simp (disch := first | assumption | omega | exact rfl | exact nf (by assumption) | exact nt (by assumption) | decide | fail) only [if_pos, if_neg]; first | done | rfl) | (rw [e, e2 (by omega) (by omega)]; simp (disch := first | assumption | omega | exact rfl | exact nf (by assumption) | exact nt (by assumption) | decide | (simp_all; done) | fail) only [if_pos, if_neg]; first | done | rfl)) | (first | (rw [e, e3 (by omega) (by omega)]; simp (disch := first | assumption | omega | exact rfl | exact nf (by assumption) | exact nt (by assumption) | decide | fail) only [if_pos, if_neg]; first | done | rfl) | (rw [e, e3 (by omega) (by omega)]; simp (disch := first | assumption | omega | exact rfl | exact nf (by assumption) | exact nt (by assumption) | decide | (simp_all; done) | fail) only [if_pos, if_neg]; first | done | rfl)) | skip
def handS (n : Nat) (i h : Int) : Int := if (n : Int) ≤ (if i < h then h - 1 else h) then 0 else (if i < h then h - 1 else h)
def dropS (p : Pl) (a : Int) : Pl × Int :=
  if plB p = false then (Pl0, 15) else if idF p.fs a < 0 then (Pl0, 18)
  else if (p.fs.getD (idF p.fs a).toNat Fm0).dirty = true then (Pl0, 23)
  else (⟨p.size, p.fs.take (idF p.fs a).toNat ++ p.fs.drop ((idF p.fs a).toNat + 1), handS (p.fs.length - 1) (idF p.fs a) p.hand⟩, 0)
theorem rpdrop_v (p : Pl) (hl : p.fs.length ≤ 100000) (a : Int) : VCalls prog 234 [.agg p.d, .int .i64 a] [] (Ret (.tup [.agg (dropS p a).1.d, .int .i64 (dropS p a).2])) := by
  refine dk Tryz.func234 ?_
  have c1 := rplvalid_v p (by omega)
  have c3 := rffind_v p (by omega) a
  have e : dropS p a = if plB p = false then (Pl0, 15) else if idF p.fs a < 0 then (Pl0, 18)
    else if (p.fs.getD (idF p.fs a).toNat Fm0).dirty = true then (Pl0, 23)
    else (⟨p.size, p.fs.take (idF p.fs a).toNat ++ p.fs.drop ((idF p.fs a).toNat + 1), handS (p.fs.length - 1) (idF p.fs a) p.hand⟩, 0) := rfl
  have hi := idF_cases p.fs a
  have hh := @plB_hd p
  generalize dropS p a = r at *
  generalize plB p = b at *
  rcases hi with h | ⟨i, hi, h, _⟩
  · rw [h] at c3 e
    (unfold Tryz.f234; refine rn trivial ?_)
    refine rn F ?_
    repeat' (first
      | with_reducible exact ⟨⟩
      | (refine sB F ?_ ?_ <;> intro hZ)
      | refine vp F (c1) ?_
      | refine vp F (c3) ?_)
    all_goals first | (first | (rw [e]; simp (disch := first | assumption | omega | exact rfl | exact nf (by assumption) | exact nt (by assumption) | decide | fail) only [if_pos, if_neg]; first | done | rfl) | (rw [e]; simp (disch := first | assumption | omega | exact rfl | exact nf (by assumption) | exact nt (by assumption) | decide | (simp_all; done) | fail) only [if_pos, if_neg]; first | done | rfl)) | skip
  · rw [h] at c3 e
    rw [Int.toNat_natCast] at e
    cases b
    · (unfold Tryz.f234; refine rn trivial ?_; try with_reducible exact ⟨⟩)
      refine rn F ?_
      repeat' (first
        | with_reducible exact ⟨⟩
        | refine vp F (c1) ?_)
      all_goals (first | (rw [e]; simp (disch := first | assumption | omega | exact rfl | exact nf (by assumption) | exact nt (by assumption) | decide | fail) only [if_pos, if_neg]; first | done | rfl) | (rw [e]; simp (disch := first | assumption | omega | exact rfl | exact nf (by assumption) | exact nt (by assumption) | decide | (simp_all; done) | fail) only [if_pos, if_neg]; first | done | rfl))
    have hh := hh rfl
    obtain ⟨z, l, hn⟩ := p
    dsimp only at hl e hi
    simp only [Pl.hd] at hh
    have hg := fzF_at l i hi
    have hb : (i + (l.length - (i + 1))) * 304 ≤ 140737488355328 := by omega
    have hb1 : i * 304 ≤ 140737488355328 := by omega
    have hmin : min i l.length = i := by omega
    have e1 : (i : Int) < hn → ¬ ((l.length - 1 : Nat) : Int) ≤ hn - 1 → handS (l.length - 1) i hn = hn - 1 := fun h h2 => by unfold handS; rw [if_pos h, if_neg h2]
    have e2 : ¬ (i : Int) < hn → ¬ ((l.length - 1 : Nat) : Int) ≤ hn → handS (l.length - 1) i hn = hn := fun h h2 => by unfold handS; rw [if_neg h, if_neg h2]
    have e3 : (i : Int) < hn → ((l.length - 1 : Nat) : Int) ≤ hn - 1 → handS (l.length - 1) i hn = 0 := fun h h2 => by unfold handS; rw [if_pos h, if_pos h2]
    have e4 : ¬ (i : Int) < hn → ((l.length - 1 : Nat) : Int) ≤ hn → handS (l.length - 1) i hn = 0 := fun h h2 => by unfold handS; rw [if_neg h, if_pos h2]
    generalize l.getD i Fm0 = f at *
    (unfold Tryz.f234; refine rn trivial ?_)
    have F := (And.intro @hg (And.intro @hb (And.intro @hb1 @hmin)))
    refine rn F ?_
    repeat' (first
      | with_reducible exact ⟨⟩
      | (refine sB F ?_ ?_ <;> intro hZ)
      | refine vp F (c1) ?_
      | refine vp F (c3) ?_
      | (refine vspine (id := 8) [0, 1, 2, 3, 5, 6, 7, 8, 9] [⟨[], [], 4, [0, 1, 2, 5, 6, 7, 8, 9], []⟩, ⟨[], [], 10, [0, 1, 2, 3, 5, 6, 7, 8], [11]⟩, ⟨[], [], 12, [], []⟩] (by kernel_rfl) (by kernel_rfl) ?_; refine rn F ?_))
    all_goals first | (first | (rw [e]; simp (disch := first | assumption | omega | exact rfl | exact nf (by assumption) | exact nt (by assumption) | decide | fail) only [if_pos, if_neg]; first | done | rfl) | (rw [e]; simp (disch := first | assumption | omega | exact rfl | exact nf (by assumption) | exact nt (by assumption) | decide | (simp_all; done) | fail) only [if_pos, if_neg]; first | done | rfl)) | (first | (rw [e, e1 (by omega) (by omega)]; simp (disch := first | assumption | omega | exact rfl | exact nf (by assumption) | exact nt (by assumption) | decide | fail) only [if_pos, if_neg]; first | done | rfl) | (rw [e, e1 (by omega) (by omega)]; simp (disch := first | assumption | omega | exact rfl | exact nf (by assumption) | exact nt (by assumption) | decide | (simp_all; done) | fail) only [if_pos, if_neg]; first | done | rfl)) | (first | (rw [e, e2 (by omega) (by omega)]; simp (disch := first | assumption | omega | exact rfl | exact nf (by assumption) | exact nt (by assumption) | decide | fail) only [if_pos, if_neg]; first | done | rfl) | (rw [e, e2 (by omega) (by omega)]; simp (disch := first | assumption | omega | exact rfl | exact nf (by assumption) | exact nt (by assumption) | decide | (simp_all; done) | fail) only [if_pos, if_neg]; first | done | rfl)) | (first | (rw [e, e3 (by omega) (by omega)]; simp (disch := first | assumption | omega | exact rfl | exact nf (by assumption) | exact nt (by assumption) | decide | fail) only [if_pos, if_neg]; first | done | rfl) | (rw [e, e3 (by omega) (by omega)]; simp (disch := first | assumption | omega | exact rfl | exact nf (by assumption) | exact nt (by assumption) | decide | (simp_all; done) | fail) only [if_pos, if_neg]; first | done | rfl)) | (first | (rw [e, e4 (by omega) (by omega)]; simp (disch := first | assumption | omega | exact rfl | exact nf (by assumption) | exact nt (by assumption) | decide | fail) only [if_pos, if_neg]; first | done | rfl) | (rw [e, e4 (by omega) (by omega)]; simp (disch := first | assumption | omega | exact rfl | exact nf (by assumption) | exact nt (by assumption) | decide | (simp_all; done) | fail) only [if_pos, if_neg]; first | done | rfl)) | skip
end
section
attribute [local go_sem] iteLe
def Fm.clr (f : Fm) : Fm := ⟨f.pg, f.dirty, f.rc, false⟩
def SameF (l m : List Fm) : Prop := m.map Fm.clr = l.map Fm.clr
theorem getD_clr (l : List Fm) (i : Nat) : (l.map Fm.clr).getD i Fm0 = (l.getD i Fm0).clr := by
  rw [List.getD_eq_getElem?_getD, List.getD_eq_getElem?_getD, List.getElem?_map]; cases l[i]? <;> rfl
theorem frC_clr (l : List Fm) (i : Nat) : frC (l.map Fm.clr) i = frC l i := by
  have h : dupC (l.map Fm.clr) i = dupC l i := by funext k; simp only [dupC, getD_clr]; rfl
  simp only [frC, h, getD_clr]; rfl
theorem SameF.len {l m : List Fm} (h : SameF l m) : m.length = l.length := by have := congrArg List.length h; simpa using this
theorem SameF.refl (l : List Fm) : SameF l l := rfl
theorem SameF.trans {a b c : List Fm} (h : SameF a b) (g : SameF b c) : SameF a c := Eq.trans (b := b.map Fm.clr) g h
theorem SameF.at_ {l m : List Fm} (h : SameF l m) (i : Nat) : (m.getD i Fm0).clr = (l.getD i Fm0).clr := by
  rw [← getD_clr, ← getD_clr, show m.map Fm.clr = l.map Fm.clr from h]
theorem SameF.frC {l m : List Fm} (h : SameF l m) : frC m = frC l := by
  funext i; rw [← frC_clr m, ← frC_clr l, show m.map Fm.clr = l.map Fm.clr from h]
theorem SameF.plB {p q : Pl} (h : SameF p.fs q.fs) (hs : q.size = p.size) (hh : 0 ≤ q.hand ∧ q.hand ≤ max 0 ((p.fs.length : Int) - 1)) (hp : plB p = true) : plB q = true := by
  have h1 := plB_hd hp
  simp only [Pl.hd] at h1
  have hl := h.len
  unfold Proofs.YtipnkkooklhfgaaGreat.plB at hp ⊢
  rw [h.frC, hl, decide_eq_true (by simp only [Pl.hd]; omega)]
  simp only [Bool.and_eq_true] at hp
  simpa using hp.2
theorem idF_clr (l : List Fm) (a : Int) : idF (l.map Fm.clr) a = idF l a := by
  unfold idF idxP
  rw [List.any_map, List.findIdx_map]; rfl
theorem SameF.idF {l m : List Fm} (h : SameF l m) (a : Int) : idF m a = idF l a := by
  rw [← idF_clr m, ← idF_clr l, show m.map Fm.clr = l.map Fm.clr from h]
theorem SameF.set (l : List Fm) (i : Nat) (b : Bool) : SameF l (l.set i ⟨(l.getD i Fm0).pg, (l.getD i Fm0).dirty, (l.getD i Fm0).rc, b⟩) := by
  unfold SameF
  rw [List.map_set]
  rcases Nat.lt_or_ge i l.length with h | h
  · have : (⟨(l.getD i Fm0).pg, (l.getD i Fm0).dirty, (l.getD i Fm0).rc, b⟩ : Fm).clr = (l.map Fm.clr)[i]'(by simpa using h) := by
      rw [getD_eq l i h, List.getElem_map]; rfl
    rw [this, List.set_getElem_self]
  · rw [List.set_eq_of_length_le (by simpa using h)]
def usedN (l : List Fm) : Nat := l.countP (·.used)
theorem usedN_set (l : List Fm) (i : Nat) (h : i < l.length) (hu : (l.getD i Fm0).used = true) : usedN (l.set i ⟨(l.getD i Fm0).pg, (l.getD i Fm0).dirty, (l.getD i Fm0).rc, false⟩) < usedN l := by
  unfold usedN
  rw [List.countP_set h]
  rw [getD_eq l i h] at *
  have : 0 < l.countP (·.used) := List.countP_pos_iff.2 ⟨l[i], List.getElem_mem h, hu⟩
  simp only [hu, if_true]
  simp
  omega
structure Vic (p : Pl) where
  q : Pl
  ok : plB q = true
  sm : SameF p.fs q.fs
  sz : q.size = p.size
  ne : 0 < q.fs.length
def vicQ (p : Pl) (a : Pl × Int × Int) : Prop := (a.2.2 = 0 → plB p = true ∧ plB a.1 = true ∧ SameF p.fs a.1.fs ∧ a.1.size = p.size ∧ ∃ i, i < a.1.fs.length ∧ a.2.1 = (a.1.fs.getD i Fm0).pg.id) ∧ (plB p = true → 0 < p.fs.length → a.2.2 = 0) ∧ a.1.fs.length ≤ p.fs.length
def vicD (a : Pl × Int × Int) : DV := .tup [.agg a.1.d, .int .i64 a.2.1, .int .i64 a.2.2]
theorem rpvic_v (p : Pl) (hl : p.fs.length ≤ 100000) : VCalls prog 233 [.agg p.d] [] (RetS vicD (vicQ p)) := by
  refine dk Tryz.func233 ?_
  have c1 := rplvalid_v p (by omega)
  cases hb : plB p
  · rw [hb] at c1
    (unfold Tryz.f233; refine rn trivial ?_)
    refine rn F ?_
    repeat' (first
      | with_reducible exact ⟨⟩
      | refine vp F (c1) ?_)
    all_goals exact ⟨rfl, rfl, (Pl0, 0, 15), rfl, by simp [vicQ, hb, Pl0]⟩
  · rw [hb] at c1
    (unfold Tryz.f233; refine rn trivial ?_)
    refine rn F ?_
    repeat' (first
      | with_reducible exact ⟨⟩
      | (refine sB F ?_ ?_ <;> intro hZ)
      | refine vp F (c1) ?_)
    · exact ⟨rfl, rfl, (Pl0, 0, 18), rfl, fun h => absurd h (by decide), fun _ h => by omega, Nat.zero_le _⟩
    refine vloopW (fun s : Vic p => ⟨51, 0, [(2, .ptr 1 0), (1, .ptr 0 0)], [⟨62, true, s.q.d⟩, ⟨62, true, [.int .i64 0, .pv (.slc []), .int .i64 0]⟩]⟩) (fun s => usedN s.q.fs) ⟨p, hb, SameF.refl _, rfl, by omega⟩ (gc [0, 1]) ?_
    intro s
    obtain ⟨q, ok, sm, sz, ne⟩ := s
    obtain ⟨qz, l, hn⟩ := q
    dsimp only at ok sm sz ne ⊢
    have hh := plB_hd ok
    have hlen := sm.len
    simp only [Pl.hd] at hh
    obtain ⟨i, rfl⟩ : ∃ i : Nat, hn = i := ⟨hn.toNat, by omega⟩
    have hi : i < l.length := by omega
    have hg := fzF_at l i hi
    have c2 := fun f => rpset_v ⟨qz, l, i⟩ (by dsimp only; omega) i hi f
    have hst := SameF.set l i false
    have hus := usedN_set l i hi
    have hmod : ((i : Int) + 1).tmod (l.length : Int) = ((i + 1) % l.length : Nat) := Int.ofNat_tmod (i + 1) l.length
    have hml : (i + 1) % l.length < l.length := Nat.mod_lt _ ne
    have hle : ∀ f, (l.set i f).length = l.length := fun f => List.length_set
    generalize hf : l.getD i Fm0 = f at *
    have F := (And.intro @hg @hle)
    refine rn F ?_
    repeat' (first
      | with_reducible exact ⟨⟩
      | (refine sB F ?_ ?_ <;> intro hZ)
      | refine vp F (c2 ⟨_, _, _, _⟩) ?_
      | (refine vspine (id := 10) [0, 1, 2, 3, 4, 5, 6, 7, 8] [⟨[], [], 9, [1, 2, 3, 4, 5, 6, 7, 8], []⟩, ⟨[], [], 10, [], []⟩, ⟨[], [], 11, [], []⟩] (by kernel_rfl) (by kernel_rfl) ?_; refine rn F ?_))
    · rw [hmod]
      refine ⟨⟨⟨qz, l.set i ⟨f.pg, f.dirty, f.rc, false⟩, ((i + 1) % l.length : Nat)⟩, (sm.trans hst).plB sz ?_ hb, sm.trans hst, sz, ?_⟩, hus (by assumption), (gc [0, 1])⟩
      · dsimp only at hlen ⊢; omega
      · rw [hle]; exact ne
    · exact ⟨rfl, rfl, (⟨qz, l, i⟩, f.pg.id, 0), rfl, fun _ => ⟨hb, ok, sm, sz, i, hi, by rw [hf]⟩, fun _ _ => rfl, by dsimp only at hlen ⊢; omega⟩
theorem rpdirty_v (p : Pl) (hl : p.fs.length ≤ 100000) : VCalls prog 178 [.agg p.d] [] (RetS (fun l : List Dt => .pv (.sl (fz encY l))) fun l => l.length ≤ 64) := by
  refine dk Tryz.func178 ?_
  have c1 := rplvalid_v p (by omega)
  have c2 := rffind_v p (by omega)
  generalize plB p = b at *
  (unfold Tryz.f178; refine rn trivial ?_)
  refine rn F ?_
  repeat' (first
    | with_reducible exact ⟨⟩
    | (refine sB F ?_ ?_ <;> intro hZ)
    | refine vp F (c1) ?_)
  · exact ⟨rfl, rfl, [], rfl, Nat.zero_le _⟩
  refine VLoop.nilOwn 3 200 3 rfl ?_
  refine rn trivial ?_
  refine vloopW (fun s : {s : Nat × List Dt // s.1 ≤ 64 ∧ s.2.length ≤ s.1} => ⟨45, 0, [(4, .int .i64 s.1.1), (3, .own 1 3 0 s.1.2.length), (1, .ptr 0 0)], [⟨62, true, p.d⟩, ⟨200, true, cells encY s.1.2⟩]⟩) (fun s => 64 - s.1.1) ⟨(0, []), by simp⟩ (gc [0, 1]) ?_
  rintro ⟨⟨i, out⟩, hi, ho⟩
  dsimp only at hi ho ⊢
  have c3 := c2 i
  rcases idF_cases p.fs i with h | ⟨j, hj, h, _⟩
  all_goals rw [h] at c3
  · skip
    refine rn F ?_
    repeat' (first
      | with_reducible exact ⟨⟩
      | (refine sB F ?_ ?_ <;> intro hZ)
      | refine vp F (c3) ?_)
    · exact ⟨⟨(i + 1, out), by dsimp only; omega, by dsimp only; omega⟩, by dsimp only; omega, (gc [0, 1])⟩
    · exact ⟨rfl, rfl, out, rfl, by omega⟩
  · have hg := fzF_at p.fs j hj
    have hb : (out.length + 1) * 24 ≤ 140737488355328 := by omega
    generalize p.fs.getD j Fm0 = f at *
    have F := (And.intro @hg @hb)
    refine rn F ?_
    repeat' (first
      | with_reducible exact ⟨⟩
      | (refine sB F ?_ ?_ <;> intro hZ)
      | refine vp F (c3) ?_
      | (refine vspine (id := 9) [0, 1, 2, 3, 4, 5, 6, 7, 8, 9, 10, 11, 12, 13, 14, 15] [⟨[16], [16], 17, [1, 2, 3, 4, 5, 6, 7, 8, 9, 10, 11, 12, 13, 14, 15], []⟩, ⟨[], [], 18, [], []⟩] (by kernel_rfl) (by kernel_rfl) ?_; refine rn F ?_))
    · exact ⟨⟨(i + 1, out ++ [⟨i, f.rc, f.pg.lsn⟩]), by dsimp only; omega, by simp; omega⟩, by dsimp only; omega, by dsimp only; rw [List.length_append]; exact (gc [0, 3])⟩
    · exact ⟨⟨(i + 1, out), by dsimp only; omega, by dsimp only; omega⟩, by dsimp only; omega, (gc [0, 1])⟩
    · exact ⟨rfl, rfl, out, rfl, by omega⟩
end
theorem rlast_v (x : Lg) (h1 : -1099511627776 ≤ x.f ∧ x.f ≤ 1099511627776) (h2 : x.es.length ≤ 1000000) : VCalls prog 44 [.agg x.c] [] (Ret (.int .i64 x.end_)) := by
  refine dd Tryz.func44 ?_
  unfold Lg.end_
  (unfold Tryz.f44; refine rn trivial ?_; try with_reducible exact ⟨⟩)
theorem lgB_end {x : Lg} (h : lgB x = true) : x.end_ ≤ 1099511627776 := by
  have hd := lgB_hd h
  unfold Lg.hd at hd
  unfold Lg.end_
  unfold lgB at h
  simp only [Bool.and_eq_true, List.all_eq_true] at h
  by_cases h0 : x.es.length = 0
  · omega
  · have := h.2 (x.es.length - 1) (List.mem_range.2 (by omega))
    unfold lgC at this
    simp only [Bool.and_eq_true, decide_eq_true_eq] at this
    obtain ⟨h3, h4⟩ := this
    generalize x.es.getD (x.es.length - 1) E0 = e at *
    unfold E.okB at h4
    simp only [Bool.and_eq_true, decide_eq_true_eq] at h4
    omega
theorem rlvalid_v (x : Lg) (hx : x.es.length ≤ 9223372036854775807) : VCalls prog 15 [.agg x.c] [] (Ret (.bool (lgB x))) := by
  refine dd Tryz.func15 ?_
  obtain ⟨f, es, d⟩ := x
  dsimp only at hx
  have c1 := rlast_v ⟨f, es, d⟩
  unfold Lg.end_ at c1
  dsimp only at c1
  have hB : lgB ⟨f, es, d⟩ = (decide (Lg.hd ⟨f, es, d⟩) && (List.range es.length).all (lgC ⟨f, es, d⟩)) := rfl
  have hH : Lg.hd ⟨f, es, d⟩ = (1 ≤ f ∧ f ≤ 1099511627776 ∧ es.length ≤ 4096 ∧ f - 1 ≤ d ∧ d ≤ f + es.length - 1) := rfl
  have hB' : Lg.hd ⟨f, es, d⟩ → lgB ⟨f, es, d⟩ = (List.range es.length).all (lgC ⟨f, es, d⟩) := fun h => by rw [hB, decide_eq_true h, Bool.true_and]
  have no : ¬ Lg.hd ⟨f, es, d⟩ → lgB ⟨f, es, d⟩ = false := fun h => by rw [hB, decide_eq_false h]; rfl
  have hlc : ∀ i, lgC ⟨f, es, d⟩ i = (decide ((es.getD i E0).lsn = f + i) && (es.getD i E0).okB) := fun _ => rfl
  generalize lgB ⟨f, es, d⟩ = b at *
  generalize lgC ⟨f, es, d⟩ = lc at *
  (unfold Tryz.f15; refine rn trivial ?_)
  refine rn F ?_
  repeat' (first
    | with_reducible exact ⟨⟩
    | (refine sG F ?_ ?_ <;> intro hZ)
    | (refine sB F ?_ ?_ <;> intro hZ)
    | refine vp F (c1 (by omega) (by omega)) ?_
    | (refine vspine (id := 1) [0, 1, 2, 3, 4, 5, 6, 7, 8, 9, 10, 11, 12, 13, 14, 15, 16, 17, 18, 19, 20, 21, 22, 23, 24, 25] [⟨[], [], 26, [0, 1, 2, 3, 4, 5, 6, 7, 8, 9, 10, 11, 12, 13, 14, 15, 16, 17, 18, 19, 20, 21, 23, 24], [27, 28]⟩] (by kernel_rfl) (by kernel_rfl) ?_; refine rn F ?_))
  all_goals first | (rw [no (by rw [hH]; omega)]) | skip
  refine vloopW (fun s : Okay es.length lc => ⟨60, 0, [(3, .int .i64 s.i), (1, .ptr 0 0)], [⟨25, true, Lg.c ⟨f, es, d⟩⟩]⟩) (fun s => es.length - s.i) (Okay.start _ _) (gc [0]) ?_
  intro s
  have hsi := s.hi
  have hg := fun h : s.i < es.length => fzE_g es s.i h
  have c2 := rvalid_v (es.getD s.i E0)
  have e := hlc s.i
  generalize (es.getD s.i E0).okB = ok at *
  have F := @hg
  refine rn F ?_
  repeat' (first
    | with_reducible exact ⟨⟩
    | (refine sG F ?_ ?_ <;> intro hZ)
    | (refine sB F ?_ ?_ <;> intro hZ)
    | refine vp F (c2) ?_
    | (refine vspine (id := 6) [0, 1, 2, 3, 4, 5, 6, 7, 8, 9, 10, 11, 12, 13, 14, 15, 16] [⟨[], [], 17, [0, 1, 2, 3, 4, 5, 6, 7, 8, 9, 10, 12, 13, 14, 15], [18, 19]⟩] (by kernel_rfl) (by kernel_rfl) ?_; refine rn F ?_))
  all_goals first
    | (exact congrArg DV.bool (s.no (by omega) (hB' (by rw [hH]; omega)) (by rw [e]; first | (rw [decide_eq_false (by omega)]; rfl) | simp_all)).symm)
    | (exact congrArg DV.bool (s.yes (by omega) (hB' (by rw [hH]; omega))).symm)
    | (exact ⟨s.next (by omega) (by rw [e]; simp_all), s.dec (by omega), (gc [0])⟩)
    | skip
def lastS (x : Lg) : Int := if lgB x = true then x.end_ else 0
theorem rlLast_v (x : Lg) (hx : x.es.length ≤ 9223372036854775807) : VCalls prog 17 [.agg x.c] [] (Ret (.int .i64 (lastS x))) := by
  refine dd Tryz.func17 ?_
  have c1 := rlvalid_v x hx
  have c2 := rlast_v x
  have hh := @lgB_hd x
  simp only [Lg.hd] at hh
  unfold lastS
  generalize lgB x = b at *
  cases b
  · (unfold Tryz.f17; refine rn trivial ?_; try with_reducible exact ⟨⟩)
    refine rn F ?_
    repeat' (first
      | with_reducible exact ⟨⟩
      | refine vp F (c1) ?_)
    all_goals rfl
  · replace hh := hh rfl
    (unfold Tryz.f17; refine rn trivial ?_)
    refine rn F ?_
    repeat' (first
      | with_reducible exact ⟨⟩
      | refine vp F (c1) ?_
      | refine vp F (c2 (by omega) (by omega)) ?_)
    all_goals rfl
theorem rappend_v (x : Lg) (hx : x.es.length ≤ 9223372036854775807) (e : E) : VCalls prog 20 [.agg x.c, .agg e.d] [] (Ret (appD (appS x e))) := by
  refine dk Tryz.func20 ?_
  have c1 := rlvalid_v x hx
  have c2 := rlast_v x
  have c3 := rvalid_v { e with lsn := x.end_ + 1 }
  have hh := @lgB_hd x
  have he := @lgB_end x
  simp only [Lg.hd] at hh
  have e0 : appS x e = if lgB x = false then (Lg0, 0, 26) else if x.es.length = 4096 ∨ 1099511627776 < x.end_ + 1 then (Lg0, 0, 21)
    else if ({ e with lsn := x.end_ + 1 } : E).okB = false then (Lg0, 0, 12) else (⟨x.f, x.es ++ [{ e with lsn := x.end_ + 1 }], x.d⟩, x.end_ + 1, 0) := rfl
  unfold appD
  generalize appS x e = r at *
  generalize lgB x = b at *
  obtain ⟨lsn, kind, tx, ptx, ppg, ref, c, blob⟩ := e
  dsimp only at c3 e0 ⊢
  cases b
  · (unfold Tryz.f20; refine rn trivial ?_; try with_reducible exact ⟨⟩)
    refine rn F ?_
    repeat' (first
      | with_reducible exact ⟨⟩
      | refine vp F (c1) ?_)
    all_goals (first | (rw [e0]; simp (disch := first | assumption | omega | exact rfl | exact nf (by assumption) | exact nt (by assumption) | decide | fail) only [if_pos, if_neg]; first | done | rfl) | (rw [e0]; simp (disch := first | assumption | omega | exact rfl | exact nf (by assumption) | exact nt (by assumption) | decide | (simp_all; done) | fail) only [if_pos, if_neg]; first | done | rfl))
  · replace hh := hh rfl
    replace he := he rfl
    have hdef : x.end_ = x.f + x.es.length - 1 := rfl
    have hl := app_E x.es ⟨x.end_ + 1, kind, tx, ptx, ppg, ref, c, blob⟩
    dsimp only at hl
    have hb : (x.es.length + 1) * 128 ≤ 140737488355328 := by omega
    generalize (⟨x.end_ + 1, kind, tx, ptx, ppg, ref, c, blob⟩ : E).okB = ok at *
    generalize x.end_ = en at *
    (unfold Tryz.f20; refine rn trivial ?_)
    have F := (And.intro @hb @hl)
    refine rn F ?_
    repeat' (first
      | with_reducible exact ⟨⟩
      | (refine sG F ?_ ?_ <;> intro hZ)
      | (refine sB F ?_ ?_ <;> intro hZ)
      | refine vp F (c1) ?_
      | refine vp F (c2 (by omega) (by omega)) ?_
      | refine vp F (c3) ?_
      | (refine vspine (id := 8) [0, 1, 3] [⟨[4], [], 2, [0, 3], []⟩, ⟨[4], [4], 5, [0, 1, 3], [6]⟩, ⟨[], [], 7, [], []⟩] (by kernel_rfl) (by kernel_rfl) ?_; refine rn F ?_)
      | (refine vspine (id := 9) [0, 1, 2] [⟨[], [], 3, [1, 2], []⟩, ⟨[], [], 4, [], []⟩, ⟨[], [], 5, [], []⟩] (by kernel_rfl) (by kernel_rfl) ?_; refine rn F ?_))
    all_goals first | (first | (rw [e0]; simp (disch := first | assumption | omega | exact rfl | exact nf (by assumption) | exact nt (by assumption) | decide | fail) only [if_pos, if_neg]; first | done | rfl) | (rw [e0]; simp (disch := first | assumption | omega | exact rfl | exact nf (by assumption) | exact nt (by assumption) | decide | (simp_all; done) | fail) only [if_pos, if_neg]; first | done | rfl)) | skip
theorem rforce_v (x : Lg) (hx : x.es.length ≤ 9223372036854775807) (n : Int) : VCalls prog 24 [.agg x.c, .int .i64 n] [] (Ret (lgD (forceS x n))) := by
  refine dk Tryz.func24 ?_
  have c1 := rlvalid_v x hx
  have c2 := rlast_v x
  have hh := @lgB_hd x
  simp only [Lg.hd] at hh
  have e0 : forceS x n = if lgB x = false then (Lg0, 26) else if x.end_ < n then (Lg0, 14) else (⟨x.f, x.es, if n > x.d then n else x.d⟩, 0) := rfl
  unfold lgD
  generalize forceS x n = r at *
  generalize lgB x = b at *
  cases b
  · (unfold Tryz.f24; refine rn trivial ?_; try with_reducible exact ⟨⟩)
    refine rn F ?_
    repeat' (first
      | with_reducible exact ⟨⟩
      | refine vp F (c1) ?_)
    all_goals (first | (rw [e0]; simp (disch := first | assumption | omega | exact rfl | exact nf (by assumption) | exact nt (by assumption) | decide | fail) only [if_pos, if_neg]; first | done | rfl) | (rw [e0]; simp (disch := first | assumption | omega | exact rfl | exact nf (by assumption) | exact nt (by assumption) | decide | (simp_all; done) | fail) only [if_pos, if_neg]; first | done | rfl))
  · replace hh := hh rfl
    (unfold Tryz.f24; refine rn trivial ?_)
    refine rn F ?_
    repeat' (first
      | with_reducible exact ⟨⟩
      | (refine sB F ?_ ?_ <;> intro hZ)
      | refine vp F (c1) ?_
      | refine vp F (c2 (by omega) (by omega)) ?_)
    all_goals first | (first | (rw [e0]; simp (disch := first | assumption | omega | exact rfl | exact nf (by assumption) | exact nt (by assumption) | decide | fail) only [if_pos, if_neg]; first | done | rfl) | (rw [e0]; simp (disch := first | assumption | omega | exact rfl | exact nf (by assumption) | exact nt (by assumption) | decide | (simp_all; done) | fail) only [if_pos, if_neg]; first | done | rfl)) | skip
def getE (x : Lg) (n : Int) : E × Int := if lgB x = false then (E0, 26) else if n < x.f ∨ x.end_ < n then (E0, 14) else (x.es.getD (n - x.f).toNat E0, 0)
theorem rget_e (x : Lg) (hx : x.es.length ≤ 9223372036854775807) (n : Int) : VCalls prog 28 [.agg x.c, .int .i64 n] [] (Ret (.tup [.agg (getE x n).1.d, .int .i64 (getE x n).2])) := by
  refine dk Tryz.func28 ?_
  have c1 := rlvalid_v x hx
  have c2 := rlast_v x
  have hh := @lgB_hd x
  simp only [Lg.hd] at hh
  have e0 : getE x n = if lgB x = false then (E0, 26) else if n < x.f ∨ x.end_ < n then (E0, 14) else (x.es.getD (n - x.f).toNat E0, 0) := rfl
  generalize getE x n = r at *
  generalize lgB x = b at *
  cases b
  · (unfold Tryz.f28; refine rn trivial ?_; try with_reducible exact ⟨⟩)
    refine rn F ?_
    repeat' (first
      | with_reducible exact ⟨⟩
      | refine vp F (c1) ?_)
    all_goals (first | (rw [e0]; simp (disch := first | assumption | omega | exact rfl | exact nf (by assumption) | exact nt (by assumption) | decide | fail) only [if_pos, if_neg]; first | done | rfl) | (rw [e0]; simp (disch := first | assumption | omega | exact rfl | exact nf (by assumption) | exact nt (by assumption) | decide | (simp_all; done) | fail) only [if_pos, if_neg]; first | done | rfl))
  · replace hh := hh rfl
    have hdef : x.end_ = x.f + x.es.length - 1 := rfl
    generalize x.end_ = en at *
    have hg := fun h : (n - x.f).toNat < x.es.length => fzE_g x.es (n - x.f).toNat h
    (unfold Tryz.f28; refine rn trivial ?_)
    have F := @hg
    refine rn F ?_
    repeat' (first
      | with_reducible exact ⟨⟩
      | (refine sG F ?_ ?_ <;> intro hZ)
      | (refine sB F ?_ ?_ <;> intro hZ)
      | refine vp F (c1) ?_
      | refine vp F (c2 (by omega) (by omega)) ?_)
    all_goals first | (first | (rw [e0]; simp (disch := first | assumption | omega | exact rfl | exact nf (by assumption) | exact nt (by assumption) | decide | fail) only [if_pos, if_neg]; first | done | rfl) | (rw [e0]; simp (disch := first | assumption | omega | exact rfl | exact nf (by assumption) | exact nt (by assumption) | decide | (simp_all; done) | fail) only [if_pos, if_neg]; first | done | rfl)) | skip
def lsnB (n : Int) : Bool := decide (0 ≤ n) && decide (n ≤ 1099511627776)
theorem rlsn_v (n : Int) : VCalls prog 232 [.int .i64 n] [] (Ret (.bool (lsnB n))) := by
  refine dd Tryz.func232 ?_
  (unfold Tryz.f232; refine rn trivial ?_)
  refine rn F ?_
  repeat' (first
    | with_reducible exact ⟨⟩
    | (refine sG F ?_ ?_ <;> intro hZ))
  all_goals (first | rfl | (congr 3; rw [Bool.eq_iff_iff]; (try simp only [lsnB, decide_eq_true_eq, Bool.and_eq_true, Bool.or_eq_true, Bool.not_eq_true', Bool.not_eq_false', decide_eq_false_iff_not, beq_iff_eq, bne_iff_ne, ne_eq, Bool.false_eq_true, Bool.true_eq_false, iff_true, true_iff, iff_false, false_iff]); first | done | omega | grind))
def rowC (l : List Rw) (i : Nat) : Bool := lsnB (l.getD i Rw0).lsn && lsnB (l.getD i Rw0).im && lsnB (l.getD i Rw0).at_ && !(decide ((l.getD i Rw0).im = 0) && !decide ((l.getD i Rw0).at_ = 0))
def ixB (l : List Rw) : Bool := decide (1 ≤ l.length) && decide (l.length ≤ 64) && (List.range l.length).all (rowC l)
theorem rixvalid_v (l : List Rw) (hl : l.length ≤ 1000000) : VCalls prog 189 [.agg [.pv (.sl (fz encR l))]] [] (Ret (.bool (ixB l))) := by
  refine dd Tryz.func189 ?_
  have hB : ixB l = (decide (1 ≤ l.length) && decide (l.length ≤ 64) && (List.range l.length).all (rowC l)) := rfl
  have hB' : 1 ≤ l.length → l.length ≤ 64 → ixB l = (List.range l.length).all (rowC l) := fun h h2 => by rw [hB, decide_eq_true h, decide_eq_true h2, Bool.true_and, Bool.true_and]
  have no : ¬ (1 ≤ l.length ∧ l.length ≤ 64) → ixB l = false := fun h => by
    rw [hB]
    by_cases h1 : 1 ≤ l.length
    · rw [decide_eq_false (show ¬ l.length ≤ 64 from fun h2 => h ⟨h1, h2⟩)]; simp
    · rw [decide_eq_false h1]; rfl
  generalize ixB l = b at *
  (unfold Tryz.f189; refine rn trivial ?_)
  refine rn F ?_
  repeat' (first
    | with_reducible exact ⟨⟩
    | (refine sG F ?_ ?_ <;> intro hZ)
    | (refine sB F ?_ ?_ <;> intro hZ))
  all_goals first | (rw [no (by omega)]) | skip
  refine vloopW (fun s : Okay l.length (rowC l) => ⟨53, 0, [(3, .int .i64 s.i), (1, .ptr 0 0)], [⟨69, true, [.pv (.sl (fz encR l))]⟩]⟩) (fun s => l.length - s.i) (Okay.start _ _) (gc [0]) ?_
  intro s
  have hsi := s.hi
  have hg := fun h : s.i < l.length => fzR_at l s.i h
  have e : rowC l s.i = (lsnB (l.getD s.i Rw0).lsn && lsnB (l.getD s.i Rw0).im && lsnB (l.getD s.i Rw0).at_ && !(decide ((l.getD s.i Rw0).im = 0) && !decide ((l.getD s.i Rw0).at_ = 0))) := rfl
  have c1 := rlsn_v (l.getD s.i Rw0).lsn
  have c2 := rlsn_v (l.getD s.i Rw0).im
  have c3 := rlsn_v (l.getD s.i Rw0).at_
  generalize lsnB (l.getD s.i Rw0).lsn = b1 at *
  generalize lsnB (l.getD s.i Rw0).im = b2 at *
  generalize lsnB (l.getD s.i Rw0).at_ = b3 at *
  have F := @hg
  refine rn F ?_
  repeat' (first
    | with_reducible exact ⟨⟩
    | (refine sG F ?_ ?_ <;> intro hZ)
    | (refine sB F ?_ ?_ <;> intro hZ)
    | refine vp F (c1) ?_
    | refine vp F (c2) ?_
    | refine vp F (c3) ?_)
  all_goals first
    | (exact congrArg DV.bool (s.no (by omega) (hB' (by omega) (by omega)) (by rw [e]; simp_all)).symm)
    | (exact congrArg DV.bool (s.yes (by omega) (hB' (by omega) (by omega))).symm)
    | (exact ⟨s.next (by omega) (by rw [e]; simp_all), s.dec (by omega), (gc [0])⟩)
    | skip
theorem setR_in (l : List Rw) (i : Nat) (r : Rw) (hi : i < l.length) : (cells encR l).take (i * 3) ++ [.pv (.lit (.int .i64 r.lsn)), .pv (.lit (.int .i64 r.im)), .pv (.lit (.int .i64 r.at_))] ++ (cells encR l).drop (i * 3 + 3) = cells encR (l.set i r) := set_in encR l i r hi
theorem rixset_v (l : List Rw) (hl : l.length ≤ 1000000) (i : Nat) (hi : i < l.length) (r : Rw) : VCalls prog 225 [.agg [.pv (.sl (fz encR l))], .int .i64 i, .agg r.d] [] (Ret (.agg [.pv (.sl (fz encR (l.set i r)))])) := by
  refine dd Tryz.func225 ?_
  have hb : i * 3 + 3 ≤ l.length * 3 := by omega
  have hse := setR_in l i r hi
  have hle : (l.set i r).length = l.length := List.length_set
  (unfold Tryz.f225; refine rn trivial ?_)
  have F := (And.intro @hb (And.intro @hse @hle))
  (refine rn F ?_; try with_reducible exact ⟨⟩)
theorem okB_page {e : E} (h : e.okB = true) (hk : e.kind = 1 ∨ e.kind = 2 ∨ e.kind = 7) : 0 ≤ e.c.pg ∧ e.c.pg < 64 := by
  unfold E.okB at h
  simp only [Bool.and_eq_true] at h
  have h2 := h.2
  unfold E.kindB Ch.okB Ch.ix at h2
  rcases hk with hk | hk | hk <;> rw [hk] at h2 <;> simp at h2 <;> omega
def noteR (l : List Rw) (e : E) : List Rw × Int :=
  if ixB l = false then ([], 28) else if e.okB = false then ([], 12) else if e.kind ≠ 7 then (l, 0) else if (l.length : Int) ≤ e.c.pg then ([], 1)
  else (l.set e.c.pg.toNat ⟨if e.ref > (l.getD e.c.pg.toNat Rw0).lsn then e.ref else (l.getD e.c.pg.toNat Rw0).lsn, (l.getD e.c.pg.toNat Rw0).im, (l.getD e.c.pg.toNat Rw0).at_⟩, 0)
theorem rixnote_v (l : List Rw) (hl : l.length ≤ 1000000) (e : E) : VCalls prog 185 [.agg [.pv (.sl (fz encR l))], .agg e.d] [] (Ret (.tup [.agg [.pv (.sl (fz encR (noteR l e).1))], .int .i64 (noteR l e).2])) := by
  refine dk Tryz.func185 ?_
  have c1 := rixvalid_v l hl
  have c2 := rvalid_v e
  have c3 := fun i hi => rixset_v l hl i hi
  have hp := @okB_page e
  have hp1 := hp
  have e0 : noteR l e = if ixB l = false then ([], 28) else if e.okB = false then ([], 12) else if e.kind ≠ 7 then (l, 0) else if (l.length : Int) ≤ e.c.pg then ([], 1)
    else (l.set e.c.pg.toNat ⟨if e.ref > (l.getD e.c.pg.toNat Rw0).lsn then e.ref else (l.getD e.c.pg.toNat Rw0).lsn, (l.getD e.c.pg.toNat Rw0).im, (l.getD e.c.pg.toNat Rw0).at_⟩, 0) := rfl
  generalize noteR l e = r at *
  generalize ixB l = b at *
  cases hok : e.okB
  · rw [hok] at c2 e0
    (unfold Tryz.f185; refine rn trivial ?_)
    refine rn F ?_
    repeat' (first
      | with_reducible exact ⟨⟩
      | (refine sB F ?_ ?_ <;> intro hZ)
      | refine vp F (c1) ?_
      | refine vp F (c2) ?_)
    all_goals first | (first | (rw [e0]; simp (disch := first | assumption | omega | exact rfl | exact nf (by assumption) | exact nt (by assumption) | decide | fail) only [if_pos, if_neg]; first | done | rfl) | (rw [e0]; simp (disch := first | assumption | omega | exact rfl | exact nf (by assumption) | exact nt (by assumption) | decide | (simp_all; done) | fail) only [if_pos, if_neg]; first | done | rfl)) | skip
  rw [hok] at c2 e0
  by_cases hk : e.kind = 7
  · obtain ⟨i, hi⟩ : ∃ i : Nat, e.c.pg = i := ⟨e.c.pg.toNat, by have := hp hok (.inr (.inr hk)); omega⟩
    rw [hi, Int.toNat_natCast] at e0
    have hg := fun h : i < l.length => fzR_at l i h
    generalize l.getD i Rw0 = w at *
    (unfold Tryz.f185; refine rn trivial ?_)
    have F := (And.intro @hi (And.intro @hg @hk))
    refine rn F ?_
    repeat' (first
      | with_reducible exact ⟨⟩
      | (refine sB F ?_ ?_ <;> intro hZ)
      | refine vp F (c1) ?_
      | refine vl F (c2) ?_
      | refine vp F (c3 i (by omega) ⟨_, _, _⟩) ?_)
    all_goals first | (first | (rw [e0]; simp (disch := first | assumption | omega | exact rfl | exact nf (by assumption) | exact nt (by assumption) | decide | fail) only [if_pos, if_neg]; first | done | rfl) | (rw [e0]; simp (disch := first | assumption | omega | exact rfl | exact nf (by assumption) | exact nt (by assumption) | decide | (simp_all; done) | fail) only [if_pos, if_neg]; first | done | rfl)) | skip
  · (unfold Tryz.f185; refine rn trivial ?_; try with_reducible exact ⟨⟩)
    have F := @hk
    refine rn F ?_
    repeat' (first
      | with_reducible exact ⟨⟩
      | (refine sB F ?_ ?_ <;> intro hZ)
      | refine vp F (c1) ?_
      | refine vp F (c2) ?_)
    all_goals first | (first | (rw [e0]; simp (disch := first | assumption | omega | exact rfl | exact nf (by assumption) | exact nt (by assumption) | decide | fail) only [if_pos, if_neg]; first | done | rfl) | (rw [e0]; simp (disch := first | assumption | omega | exact rfl | exact nf (by assumption) | exact nt (by assumption) | decide | (simp_all; done) | fail) only [if_pos, if_neg]; first | done | rfl)) | skip
theorem ce_no {c : Ce} (h : c.no = true) : c.data.length ≤ 12 := by
  unfold Ce.no at h
  simp only [Bool.and_eq_true, beq_iff_eq] at h
  rw [h.2]; exact Nat.zero_le _
theorem ce_ok {c : Ce} (h : c.okB = true) : c.data.length ≤ 12 := by
  unfold Ce.okB at h
  simp only [Bool.and_eq_true, decide_eq_true_eq] at h
  exact h.1
theorem okB_lens {e : E} (h : e.okB = true) : e.c.b.data.length ≤ 12 ∧ e.c.a.data.length ≤ 12 ∧ e.blob.length ≤ 8192 := by
  unfold E.okB at h
  simp only [Bool.and_eq_true] at h
  have h2 := h.2
  clear h
  unfold E.kindB at h2
  have nb : ∀ {l : List UInt8}, l == [] → l.length ≤ 8192 := fun h => by rw [beq_iff_eq] at h; rw [h]; exact Nat.zero_le _
  split at h2
  · simp only [Bool.and_eq_true, Ch.okB] at h2
    exact ⟨ce_ok h2.2.1.2, ce_ok h2.2.2, nb h2.1.2⟩
  split at h2
  · simp only [Bool.and_eq_true, Ch.okB] at h2
    exact ⟨ce_ok h2.2.1.2, ce_ok h2.2.2, nb h2.1.1.1.2⟩
  split at h2
  · simp only [Bool.and_eq_true, Ch.no] at h2
    exact ⟨ce_no h2.2.1.2, ce_no h2.2.2, nb h2.1.2⟩
  split at h2
  · simp only [Bool.and_eq_true, Ch.no, decide_eq_true_eq] at h2
    exact ⟨ce_no h2.2.1.2, ce_no h2.2.2, h2.1.2⟩
  split at h2
  · simp only [Bool.and_eq_true, Ch.ix] at h2
    exact ⟨ce_no h2.2.1.1.1.2, ce_no h2.2.1.1.2, nb h2.1.2⟩
  · cases h2
def cellBy (s : List UInt8) (c : Ce) : List UInt8 := if c.set = true then putL s c.data.length 1 ++ c.data else putL s 255 1
theorem cellBy_len (s : List UInt8) (c : Ce) : (cellBy s c).length ≤ s.length + 1 + c.data.length := by
  unfold cellBy; split
  · rw [List.length_append, putL_len]; exact Nat.le_refl _
  · rw [putL_len]; omega
theorem rcellby_v (s : List UInt8) (hs : s.length ≤ 100000000) (c : Ce) (hc : c.data.length ≤ 1000000) : VCalls prog 95 [.pv (.str s), .agg c.d] [] (Ret (.pv (.str (cellBy s c)))) := by
  refine dd Tryz.func95 ?_
  have c1 := rput_v s (by omega) 255 1 (by omega) (by omega)
  have c2 := rput_v s (by omega) c.data.length 1 (by omega) (by omega)
  have e : cellBy s c = if c.set = true then putL s c.data.length 1 ++ c.data else putL s 255 1 := rfl
  have hadd := str_add (a := putL s c.data.length 1) (b := c.data) (by rw [putL_len]; omega)
  generalize cellBy s c = r at *
  (unfold Tryz.f95; refine rn trivial ?_)
  have F := @hadd
  refine rn F ?_
  repeat' (first
    | with_reducible exact ⟨⟩
    | (refine sB F ?_ ?_ <;> intro hZ)
    | refine vp F (c1) ?_
    | refine vp F (c2) ?_
    | (refine vspine (id := 3) [0, 1, 2, 3, 5, 6] [⟨[], [], 4, [1, 2, 5, 6], [7]⟩, ⟨[], [], 8, [], []⟩] (by kernel_rfl) (by kernel_rfl) ?_; refine rn F ?_))
  all_goals first | (first | (rw [e]; simp (disch := first | assumption | omega | exact rfl | exact nf (by assumption) | exact nt (by assumption) | decide | fail) only [if_pos, if_neg]; first | done | rfl) | (rw [e]; simp (disch := first | assumption | omega | exact rfl | exact nf (by assumption) | exact nt (by assumption) | decide | (simp_all; done) | fail) only [if_pos, if_neg]; first | done | rfl)) | skip
def headBy (e : E) : List UInt8 := putL (putL (putL (putL (putL (putL (putL (putL [] e.lsn 8) e.kind 1) e.tx 4) e.ptx 8) e.ppg 8) e.ref 8) e.c.pg 4) e.c.sl 1
theorem headBy_len (e : E) : (headBy e).length = 42 := by unfold headBy; simp only [putL_len, List.length_nil]
def encBy (e : E) : List UInt8 := putL (cellBy (cellBy (headBy e) e.c.b) e.c.a) e.blob.length 4 ++ e.blob
def encE5 (e : E) : List UInt8 × Int := if e.okB = true then (encBy e, 0) else ([], 12)
theorem reenc_v (e : E) : VCalls prog 71 [.agg e.d] [] (Ret (.tup [.pv (.str (encE5 e).1), .int .i64 (encE5 e).2])) := by
  refine dd Tryz.func71 ?_
  have c1 := rvalid_v e
  unfold encE5
  cases hv : e.okB
  · rw [hv] at c1
    (unfold Tryz.f71; refine rn trivial ?_)
    refine rn F ?_
    repeat' (first
      | with_reducible exact ⟨⟩
      | refine vp F (c1) ?_)
    all_goals rfl
  rw [hv] at c1
  obtain ⟨l1, l2, l3⟩ := okB_lens hv
  have n1 := cellBy_len (headBy e) e.c.b
  have n2 := cellBy_len (cellBy (headBy e) e.c.b) e.c.a
  rw [headBy_len] at n1
  have p9 := rcellby_v (headBy e) (by rw [headBy_len]; omega) e.c.b (by omega)
  have p10 := rcellby_v (cellBy (headBy e) e.c.b) (by omega) e.c.a (by omega)
  have p11 := rput_v (cellBy (cellBy (headBy e) e.c.b) e.c.a) (by omega) e.blob.length 4 (by omega) (by omega)
  have hadd := str_add (a := putL (cellBy (cellBy (headBy e) e.c.b) e.c.a) e.blob.length 4) (b := e.blob) (by rw [putL_len]; omega)
  have hh : headBy e = putL (putL (putL (putL (putL (putL (putL (putL [] e.lsn 8) e.kind 1) e.tx 4) e.ptx 8) e.ppg 8) e.ref 8) e.c.pg 4) e.c.sl 1 := rfl
  have q := fun (s : List UInt8) (hs : s.length ≤ 1000) (n : Int) (k : Nat) (h1 : 1 ≤ k) (h8 : k ≤ 8) => rput_v s (by omega) n k h1 h8
  (unfold Tryz.f71; refine rn trivial ?_)
  have F := @hh.symm
  refine rn F ?_
  repeat' (first
    | with_reducible exact ⟨⟩
    | refine vp F (c1) ?_
    | refine vp F (q _ (by simp [putL_len]) _ 8 (by omega) (by omega)) ?_
    | refine vp F (q _ (by simp [putL_len]) _ 1 (by omega) (by omega)) ?_
    | refine vp F (q _ (by simp [putL_len]) _ 4 (by omega) (by omega)) ?_
    | (refine vspine (id := 11) [0, 1, 2, 3, 5, 6, 7] [⟨[], [], 4, [1, 2, 5, 6, 7], []⟩, ⟨[], [], 8, [0, 1, 2, 3, 5, 6], []⟩, ⟨[], [], 9, [], []⟩] (by kernel_rfl) (by kernel_rfl) ?_; refine rn F ?_))
  have F := @hadd
  refine rn F ?_
  repeat' (first
    | with_reducible exact ⟨⟩
    | refine vp F (p9) ?_
    | refine vp F (p10) ?_
    | refine vp F (p11) ?_
    | (refine vspine (id := 12) [0, 1, 2, 3, 5, 6] [⟨[], [], 4, [1, 2, 5, 6], [7]⟩, ⟨[], [], 8, [], []⟩, ⟨[], [], 9, [], []⟩] (by kernel_rfl) (by kernel_rfl) ?_; refine rn F ?_))
  all_goals rfl
theorem encE5_len (e : E) : (encE5 e).1.length ≤ 9000 := by
  unfold encE5
  split
  · rename_i hv
    obtain ⟨l1, l2, l3⟩ := okB_lens hv
    have n1 := cellBy_len (headBy e) e.c.b
    have n2 := cellBy_len (cellBy (headBy e) e.c.b) e.c.a
    rw [headBy_len] at n1
    unfold encBy
    dsimp only
    rw [List.length_append, putL_len]
    omega
  · exact Nat.zero_le _
theorem rframeE_v (e : E) : VCalls prog 51 [.agg e.d] [] (Ret (.pv (.str (frm (encE5 e).1)))) := by
  refine dd Tryz.func51 ?_
  have c1 := reenc_v e
  have hl := encE5_len e
  generalize encE5 e = r at *
  have c2 := rframe_v r.1 (by omega)
  (unfold Tryz.f51; refine rn trivial ?_)
  refine rn F ?_
  repeat' (first
    | with_reducible exact ⟨⟩
    | refine vp F (c1) ?_
    | refine vp F (c2) ?_)
  all_goals rfl
def headL (n : Int) : List UInt8 := frm (putL [80, 77, 76, 71] n 8)
theorem rheadL_v (n : Int) : VCalls prog 50 [.int .i64 n] [] (Ret (.pv (.str (headL n)))) := by
  refine dd Tryz.func50 ?_
  have c1 := rput_v [80, 77, 76, 71] (by simp) n 8 (by omega) (by omega)
  have c2 := rframe_v (putL [80, 77, 76, 71] n 8) (by rw [putL_len]; simp)
  (unfold Tryz.f50; refine rn trivial ?_)
  refine rn F ?_
  repeat' (first
    | with_reducible exact ⟨⟩
    | refine vp F (c1) ?_
    | refine vp F (c2) ?_)
  all_goals rfl
def frE (e : E) : List UInt8 := frm (encE5 e).1
theorem frE_len (e : E) : (frE e).length ≤ 9008 := by
  have := encE5_len e
  unfold frE frm
  split
  · rw [putL_len, List.length_append, putL_len, List.length_nil]; omega
  · exact Nat.zero_le _
theorem fr_len (l : List E) : (l.flatMap frE).length ≤ 9008 * l.length := by
  induction l with
  | nil => simp
  | cons a r ih =>
    have := frE_len a
    rw [List.flatMap_cons, List.length_append, List.length_cons]; omega
theorem headL_len (n : Int) : (headL n).length ≤ 9008 := by
  unfold headL frm
  split
  · rw [putL_len, List.length_append, putL_len, putL_len, List.length_nil]; simp
  · exact Nat.zero_le _
end Go.Proofs.YtipnkkooklhfgaaGreat
