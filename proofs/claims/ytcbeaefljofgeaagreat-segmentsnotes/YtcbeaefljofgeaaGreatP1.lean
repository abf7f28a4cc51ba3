/-
  Contracts of functions and plain laws. No condition.
-/
import Derived.Test.YtcbeaefljofgeaaGreatProg
import Derived.Test.YtcbeaefljofgeaaGreatV3
import Derived.KernelRfl
set_option linter.unusedSimpArgs false
set_option linter.unusedVariables false
set_option maxRecDepth 100000
set_option maxHeartbeats 8000000
namespace Go.Proofs.YtcbeaefljofgeaaGreat
open Go.V Go
open Tryz (prog)
theorem F : True := trivial
end Go.Proofs.YtcbeaefljofgeaaGreat
namespace Go.Proofs
open Go.V
theorem Tryz.vt3 : vt prog 3 = some none := by kernel_rfl
theorem Tryz.vkind3 : vkind prog 3 = .int .i64 := by kernel_rfl
theorem Tryz.vzero3 : vzero prog 3 = some [.pv (.lit (.int .i64 0))] := by kernel_rfl
theorem Tryz.bytes3 : bytesT prog 3 = some 8 := by kernel_rfl
theorem Tryz.vt4 : vt prog 4 = some none := by kernel_rfl
theorem Tryz.vkind4 : vkind prog 4 = .bool := by kernel_rfl
theorem Tryz.vzero4 : vzero prog 4 = some [.pv (.lit (.bool false))] := by kernel_rfl
theorem Tryz.bytes4 : bytesT prog 4 = some 1 := by kernel_rfl
theorem Tryz.vt5 : vt prog 5 = some none := by kernel_rfl
theorem Tryz.vkind5 : vkind prog 5 = .int .u8 := by kernel_rfl
theorem Tryz.vzero5 : vzero prog 5 = some [.pv (.lit (.int .u8 0))] := by kernel_rfl
theorem Tryz.bytes5 : bytesT prog 5 = some 1 := by kernel_rfl
theorem Tryz.vt9 : vt prog 9 = some none := by kernel_rfl
theorem Tryz.notInt9 : notInt prog 9 = true := by kernel_rfl
theorem Tryz.vkind9 : vkind prog 9 = .str := by kernel_rfl
theorem Tryz.vzero9 : vzero prog 9 = some [.pv (.str [])] := by kernel_rfl
theorem Tryz.bytes9 : bytesT prog 9 = some 16 := by kernel_rfl
theorem Tryz.vt22 : vt prog 22 = some none := by kernel_rfl
theorem Tryz.velem22 : velem prog 22 = some (none, 5, 1) := by kernel_rfl
theorem Tryz.notInt22 : notInt prog 22 = true := by kernel_rfl
theorem Tryz.vkind22 : vkind prog 22 = .sl 5 := by kernel_rfl
theorem Tryz.vt26 : vt prog 26 = some none := by kernel_rfl
theorem Tryz.velem26 : velem prog 26 = some (none, 41, 13) := by kernel_rfl
theorem Tryz.notInt26 : notInt prog 26 = true := by kernel_rfl
theorem Tryz.vkind26 : vkind prog 26 = .sl 41 := by kernel_rfl
theorem Tryz.vt28 : vt prog 28 = some (some 3) := by kernel_rfl
theorem Tryz.vfield28x0 : vfield prog 28 0 = some (3, 0, 1) := by kernel_rfl
theorem Tryz.vfield28x1 : vfield prog 28 1 = some (26, 1, 1) := by kernel_rfl
theorem Tryz.vfield28x2 : vfield prog 28 2 = some (3, 2, 1) := by kernel_rfl
theorem Tryz.vplaces28 : vplaces prog 28 = some fun j => ([(0, 1), (1, 1), (2, 1)] : List (Nat × Nat))[j]? := by kernel_rfl
theorem Tryz.vzero28 : vzero prog 28 = some [.pv (.lit (.int .i64 0)), .pv (.slc []), .pv (.lit (.int .i64 0))] := by kernel_rfl
theorem Tryz.vt31 : vt prog 31 = some none := by kernel_rfl
theorem Tryz.velem31 : velem prog 31 = some (none, 4, 1) := by kernel_rfl
theorem Tryz.notInt31 : notInt prog 31 = true := by kernel_rfl
theorem Tryz.vkind31 : vkind prog 31 = .sl 4 := by kernel_rfl
theorem Tryz.vt32 : vt prog 32 = some none := by kernel_rfl
theorem Tryz.velem32 : velem prog 32 = some (none, 3, 1) := by kernel_rfl
theorem Tryz.notInt32 : notInt prog 32 = true := by kernel_rfl
theorem Tryz.vkind32 : vkind prog 32 = .sl 3 := by kernel_rfl
theorem Tryz.vt34 : vt prog 34 = some (some 3) := by kernel_rfl
theorem Tryz.vfield34x0 : vfield prog 34 0 = some (4, 0, 1) := by kernel_rfl
theorem Tryz.vfield34x1 : vfield prog 34 1 = some (31, 1, 1) := by kernel_rfl
theorem Tryz.vfield34x2 : vfield prog 34 2 = some (32, 2, 1) := by kernel_rfl
theorem Tryz.vplaces34 : vplaces prog 34 = some fun j => ([(0, 1), (1, 1), (2, 1)] : List (Nat × Nat))[j]? := by kernel_rfl
theorem Tryz.vzero34 : vzero prog 34 = some [.pv (.lit (.bool false)), .pv (.slc []), .pv (.slc [])] := by kernel_rfl
theorem Tryz.vt37 : vt prog 37 = some (some 2) := by kernel_rfl
theorem Tryz.vfield37x0 : vfield prog 37 0 = some (4, 0, 1) := by kernel_rfl
theorem Tryz.vfield37x1 : vfield prog 37 1 = some (9, 1, 1) := by kernel_rfl
theorem Tryz.vplaces37 : vplaces prog 37 = some fun j => ([(0, 1), (1, 1)] : List (Nat × Nat))[j]? := by kernel_rfl
theorem Tryz.vzero37 : vzero prog 37 = some [.pv (.lit (.bool false)), .pv (.str [])] := by kernel_rfl
theorem Tryz.leaves37 : leaves prog 8 37 = some [(0, 0), (1, 2)] := by kernel_rfl
theorem Tryz.eqg37 : prog.eqGuardType prog.depth 37 = false := by kernel_rfl
theorem Tryz.vt39 : vt prog 39 = some (some 6) := by kernel_rfl
theorem Tryz.vfield39x0 : vfield prog 39 0 = some (3, 0, 1) := by kernel_rfl
theorem Tryz.vfield39x1 : vfield prog 39 1 = some (3, 1, 1) := by kernel_rfl
theorem Tryz.vfield39x2 : vfield prog 39 2 = some (37, 2, 2) := by kernel_rfl
theorem Tryz.vfield39x3 : vfield prog 39 3 = some (37, 4, 2) := by kernel_rfl
theorem Tryz.vplaces39 : vplaces prog 39 = some fun j => ([(0, 1), (1, 1), (2, 2), (4, 2)] : List (Nat × Nat))[j]? := by kernel_rfl
theorem Tryz.vzero39 : vzero prog 39 = some [.pv (.lit (.int .i64 0)), .pv (.lit (.int .i64 0)), .pv (.lit (.bool false)), .pv (.str []), .pv (.lit (.bool false)), .pv (.str [])] := by kernel_rfl
theorem Tryz.leaves39 : leaves prog 8 39 = some [(0, 1), (1, 1), (2, 0), (3, 2), (4, 0), (5, 2)] := by kernel_rfl
theorem Tryz.eqg39 : prog.eqGuardType prog.depth 39 = false := by kernel_rfl
theorem Tryz.vt41 : vt prog 41 = some (some 13) := by kernel_rfl
theorem Tryz.vfield41x0 : vfield prog 41 0 = some (3, 0, 1) := by kernel_rfl
theorem Tryz.vfield41x1 : vfield prog 41 1 = some (3, 1, 1) := by kernel_rfl
theorem Tryz.vfield41x2 : vfield prog 41 2 = some (3, 2, 1) := by kernel_rfl
theorem Tryz.vfield41x3 : vfield prog 41 3 = some (3, 3, 1) := by kernel_rfl
theorem Tryz.vfield41x4 : vfield prog 41 4 = some (3, 4, 1) := by kernel_rfl
theorem Tryz.vfield41x5 : vfield prog 41 5 = some (3, 5, 1) := by kernel_rfl
theorem Tryz.vfield41x6 : vfield prog 41 6 = some (39, 6, 6) := by kernel_rfl
theorem Tryz.vfield41x7 : vfield prog 41 7 = some (9, 12, 1) := by kernel_rfl
theorem Tryz.vplaces41 : vplaces prog 41 = some fun j => ([(0, 1), (1, 1), (2, 1), (3, 1), (4, 1), (5, 1), (6, 6), (12, 1)] : List (Nat × Nat))[j]? := by kernel_rfl
theorem Tryz.vzero41 : vzero prog 41 = some [.pv (.lit (.int .i64 0)), .pv (.lit (.int .i64 0)), .pv (.lit (.int .i64 0)), .pv (.lit (.int .i64 0)), .pv (.lit (.int .i64 0)), .pv (.lit (.int .i64 0)), .pv (.lit (.int .i64 0)), .pv (.lit (.int .i64 0)), .pv (.lit (.bool false)), .pv (.str []), .pv (.lit (.bool false)), .pv (.str []), .pv (.str [])] := by kernel_rfl
theorem Tryz.bytes41 : bytesT prog 41 = some 128 := by kernel_rfl
theorem Tryz.leaves41 : leaves prog 8 41 = some [(0, 1), (1, 1), (2, 1), (3, 1), (4, 1), (5, 1), (6, 1), (7, 1), (8, 0), (9, 2), (10, 0), (11, 2), (12, 2)] := by kernel_rfl
theorem Tryz.eqg41 : prog.eqGuardType prog.depth 41 = false := by kernel_rfl
theorem Tryz.vt44 : vt prog 44 = some none := by kernel_rfl
theorem Tryz.vt51 : vt prog 51 = some none := by kernel_rfl
theorem Tryz.vfield60x0 : vfield prog 60 0 = some (22, 0, 1) := by kernel_rfl
theorem Tryz.vfield60x1 : vfield prog 60 1 = some (3, 1, 1) := by kernel_rfl
theorem Tryz.vplaces60 : vplaces prog 60 = some fun j => ([(0, 1), (1, 1)] : List (Nat × Nat))[j]? := by kernel_rfl
theorem Tryz.vzero60 : vzero prog 60 = some [.pv (.slc []), .pv (.lit (.int .i64 0))] := by kernel_rfl
theorem Tryz.vt71 : vt prog 71 = some none := by kernel_rfl
theorem Tryz.velem71 : velem prog 71 = some (none, 172, 37) := by kernel_rfl
theorem Tryz.notInt71 : notInt prog 71 = true := by kernel_rfl
theorem Tryz.vkind71 : vkind prog 71 = .sl 172 := by kernel_rfl
theorem Tryz.vt73 : vt prog 73 = some (some 3) := by kernel_rfl
theorem Tryz.vfield73x0 : vfield prog 73 0 = some (3, 0, 1) := by kernel_rfl
theorem Tryz.vfield73x1 : vfield prog 73 1 = some (71, 1, 1) := by kernel_rfl
theorem Tryz.vfield73x2 : vfield prog 73 2 = some (3, 2, 1) := by kernel_rfl
theorem Tryz.vplaces73 : vplaces prog 73 = some fun j => ([(0, 1), (1, 1), (2, 1)] : List (Nat × Nat))[j]? := by kernel_rfl
theorem Tryz.vzero73 : vzero prog 73 = some [.pv (.lit (.int .i64 0)), .pv (.slc []), .pv (.lit (.int .i64 0))] := by kernel_rfl
theorem Tryz.vt74 : vt prog 74 = some none := by kernel_rfl
theorem Tryz.velem74 : velem prog 74 = some (none, 213, 4) := by kernel_rfl
theorem Tryz.notInt74 : notInt prog 74 = true := by kernel_rfl
theorem Tryz.vkind74 : vkind prog 74 = .sl 213 := by kernel_rfl
theorem Tryz.vt76 : vt prog 76 = some (some 2) := by kernel_rfl
theorem Tryz.vfield76x0 : vfield prog 76 0 = some (74, 0, 1) := by kernel_rfl
theorem Tryz.vfield76x1 : vfield prog 76 1 = some (74, 1, 1) := by kernel_rfl
theorem Tryz.vplaces76 : vplaces prog 76 = some fun j => ([(0, 1), (1, 1)] : List (Nat × Nat))[j]? := by kernel_rfl
theorem Tryz.vzero76 : vzero prog 76 = some [.pv (.slc []), .pv (.slc [])] := by kernel_rfl
theorem Tryz.vt77 : vt prog 77 = some none := by kernel_rfl
theorem Tryz.velem77 : velem prog 77 = some (none, 209, 6) := by kernel_rfl
theorem Tryz.notInt77 : notInt prog 77 = true := by kernel_rfl
theorem Tryz.vkind77 : vkind prog 77 = .sl 209 := by kernel_rfl
theorem Tryz.vt78 : vt prog 78 = some none := by kernel_rfl
theorem Tryz.velem78 : velem prog 78 = some (none, 269, 3) := by kernel_rfl
theorem Tryz.notInt78 : notInt prog 78 = true := by kernel_rfl
theorem Tryz.vkind78 : vkind prog 78 = .sl 269 := by kernel_rfl
theorem Tryz.vt80 : vt prog 80 = some (some 1) := by kernel_rfl
theorem Tryz.vfield80x0 : vfield prog 80 0 = some (78, 0, 1) := by kernel_rfl
theorem Tryz.vplaces80 : vplaces prog 80 = some fun j => ([(0, 1)] : List (Nat × Nat))[j]? := by kernel_rfl
theorem Tryz.vzero80 : vzero prog 80 = some [.pv (.slc [])] := by kernel_rfl
theorem Tryz.vt81 : vt prog 81 = some none := by kernel_rfl
theorem Tryz.velem81 : velem prog 81 = some (none, 180, 3) := by kernel_rfl
theorem Tryz.notInt81 : notInt prog 81 = true := by kernel_rfl
theorem Tryz.vkind81 : vkind prog 81 = .sl 180 := by kernel_rfl
theorem Tryz.vt83 : vt prog 83 = some (some 13) := by kernel_rfl
theorem Tryz.vfield83x0 : vfield prog 83 0 = some (3, 0, 1) := by kernel_rfl
theorem Tryz.vfield83x1 : vfield prog 83 1 = some (3, 1, 1) := by kernel_rfl
theorem Tryz.vfield83x2 : vfield prog 83 2 = some (28, 2, 3) := by kernel_rfl
theorem Tryz.vfield83x3 : vfield prog 83 3 = some (73, 5, 3) := by kernel_rfl
theorem Tryz.vfield83x4 : vfield prog 83 4 = some (76, 8, 2) := by kernel_rfl
theorem Tryz.vfield83x5 : vfield prog 83 5 = some (77, 10, 1) := by kernel_rfl
theorem Tryz.vfield83x6 : vfield prog 83 6 = some (80, 11, 1) := by kernel_rfl
theorem Tryz.vfield83x7 : vfield prog 83 7 = some (81, 12, 1) := by kernel_rfl
theorem Tryz.vplaces83 : vplaces prog 83 = some fun j => ([(0, 1), (1, 1), (2, 3), (5, 3), (8, 2), (10, 1), (11, 1), (12, 1)] : List (Nat × Nat))[j]? := by kernel_rfl
theorem Tryz.vzero83 : vzero prog 83 = some [.pv (.lit (.int .i64 0)), .pv (.lit (.int .i64 0)), .pv (.lit (.int .i64 0)), .pv (.slc []), .pv (.lit (.int .i64 0)), .pv (.lit (.int .i64 0)), .pv (.slc []), .pv (.lit (.int .i64 0)), .pv (.slc []), .pv (.slc []), .pv (.slc []), .pv (.slc []), .pv (.slc [])] := by kernel_rfl
theorem Tryz.vt94 : vt prog 94 = some none := by kernel_rfl
theorem Tryz.vfield96x0 : vfield prog 96 0 = some (94, 0, 1) := by kernel_rfl
theorem Tryz.vfield96x1 : vfield prog 96 1 = some (22, 1, 1) := by kernel_rfl
theorem Tryz.vzero96 : vzero prog 96 = some [.pv (.lit (.pointer none)), .pv (.lit (.slice none 0 0))] := by kernel_rfl
theorem Tryz.vkind102 : vkind prog 102 = .int .u64 := by kernel_rfl
theorem Tryz.vkind104 : vkind prog 104 = .int .u64 := by kernel_rfl
theorem Tryz.vt106 : vt prog 106 = some none := by kernel_rfl
theorem Tryz.velem106 : velem prog 106 = some (none, 9, 1) := by kernel_rfl
theorem Tryz.notInt106 : notInt prog 106 = true := by kernel_rfl
theorem Tryz.vkind106 : vkind prog 106 = .sl 9 := by kernel_rfl
theorem Tryz.vt107 : vt prog 107 = some none := by kernel_rfl
theorem Tryz.velem107 : velem prog 107 = some (none, 244, 6) := by kernel_rfl
theorem Tryz.notInt107 : notInt prog 107 = true := by kernel_rfl
theorem Tryz.vkind107 : vkind prog 107 = .sl 244 := by kernel_rfl
theorem Tryz.vt109 : vt prog 109 = some (some 5) := by kernel_rfl
theorem Tryz.vfield109x0 : vfield prog 109 0 = some (106, 0, 1) := by kernel_rfl
theorem Tryz.vfield109x1 : vfield prog 109 1 = some (3, 1, 1) := by kernel_rfl
theorem Tryz.vfield109x2 : vfield prog 109 2 = some (32, 2, 1) := by kernel_rfl
theorem Tryz.vfield109x3 : vfield prog 109 3 = some (4, 3, 1) := by kernel_rfl
theorem Tryz.vfield109x4 : vfield prog 109 4 = some (107, 4, 1) := by kernel_rfl
theorem Tryz.vplaces109 : vplaces prog 109 = some fun j => ([(0, 1), (1, 1), (2, 1), (3, 1), (4, 1)] : List (Nat × Nat))[j]? := by kernel_rfl
theorem Tryz.vzero109 : vzero prog 109 = some [.pv (.slc []), .pv (.lit (.int .i64 0)), .pv (.slc []), .pv (.lit (.bool false)), .pv (.slc [])] := by kernel_rfl
theorem Tryz.vt111 : vt prog 111 = some (some 18) := by kernel_rfl
theorem Tryz.vfield111x0 : vfield prog 111 0 = some (83, 0, 13) := by kernel_rfl
theorem Tryz.vfield111x1 : vfield prog 111 1 = some (109, 13, 5) := by kernel_rfl
theorem Tryz.vplaces111 : vplaces prog 111 = some fun j => ([(0, 13), (13, 5)] : List (Nat × Nat))[j]? := by kernel_rfl
theorem Tryz.vzero111 : vzero prog 111 = some [.pv (.lit (.int .i64 0)), .pv (.lit (.int .i64 0)), .pv (.lit (.int .i64 0)), .pv (.slc []), .pv (.lit (.int .i64 0)), .pv (.lit (.int .i64 0)), .pv (.slc []), .pv (.lit (.int .i64 0)), .pv (.slc []), .pv (.slc []), .pv (.slc []), .pv (.slc []), .pv (.slc []), .pv (.slc []), .pv (.lit (.int .i64 0)), .pv (.slc []), .pv (.lit (.bool false)), .pv (.slc [])] := by kernel_rfl
theorem Tryz.vt113 : vt prog 113 = some none := by kernel_rfl
theorem Tryz.vt117 : vt prog 117 = some (some 7) := by kernel_rfl
theorem Tryz.vfield117x0 : vfield prog 117 0 = some (4, 0, 1) := by kernel_rfl
theorem Tryz.vfield117x1 : vfield prog 117 1 = some (4, 1, 1) := by kernel_rfl
theorem Tryz.vfield117x2 : vfield prog 117 2 = some (4, 2, 1) := by kernel_rfl
theorem Tryz.vfield117x3 : vfield prog 117 3 = some (4, 3, 1) := by kernel_rfl
theorem Tryz.vfield117x4 : vfield prog 117 4 = some (4, 4, 1) := by kernel_rfl
theorem Tryz.vfield117x5 : vfield prog 117 5 = some (51, 5, 1) := by kernel_rfl
theorem Tryz.vfield117x6 : vfield prog 117 6 = some (113, 6, 1) := by kernel_rfl
theorem Tryz.vplaces117 : vplaces prog 117 = some fun j => ([(0, 1), (1, 1), (2, 1), (3, 1), (4, 1), (5, 1), (6, 1)] : List (Nat × Nat))[j]? := by kernel_rfl
theorem Tryz.vzero117 : vzero prog 117 = some [.pv (.lit (.bool false)), .pv (.lit (.bool false)), .pv (.lit (.bool false)), .pv (.lit (.bool false)), .pv (.lit (.bool false)), .pv (.lit .nilFunc), .pv (.lit .nilFunc)] := by kernel_rfl
theorem Tryz.vt118 : vt prog 118 = some (some 63) := by kernel_rfl
theorem Tryz.velem118 : velem prog 118 = some (some 9, 117, 7) := by kernel_rfl
theorem Tryz.vplaces118 : vplaces prog 118 = some fun j => some (j * 7, 7) := by kernel_rfl
theorem Tryz.vzero118 : vzero prog 118 = some [.pv (.lit (.bool false)), .pv (.lit (.bool false)), .pv (.lit (.bool false)), .pv (.lit (.bool false)), .pv (.lit (.bool false)), .pv (.lit .nilFunc), .pv (.lit .nilFunc), .pv (.lit (.bool false)), .pv (.lit (.bool false)), .pv (.lit (.bool false)), .pv (.lit (.bool false)), .pv (.lit (.bool false)), .pv (.lit .nilFunc), .pv (.lit .nilFunc), .pv (.lit (.bool false)), .pv (.lit (.bool false)), .pv (.lit (.bool false)), .pv (.lit (.bool false)), .pv (.lit (.bool false)), .pv (.lit .nilFunc), .pv (.lit .nilFunc), .pv (.lit (.bool false)), .pv (.lit (.bool false)), .pv (.lit (.bool false)), .pv (.lit (.bool false)), .pv (.lit (.bool false)), .pv (.lit .nilFunc), .pv (.lit .nilFunc), .pv (.lit (.bool false)), .pv (.lit (.bool false)), .pv (.lit (.bool false)), .pv (.lit (.bool false)), .pv (.lit (.bool false)), .pv (.lit .nilFunc), .pv (.lit .nilFunc), .pv (.lit (.bool false)), .pv (.lit (.bool false)), .pv (.lit (.bool false)), .pv (.lit (.bool false)), .pv (.lit (.bool false)), .pv (.lit .nilFunc), .pv (.lit .nilFunc), .pv (.lit (.bool false)), .pv (.lit (.bool false)), .pv (.lit (.bool false)), .pv (.lit (.bool false)), .pv (.lit (.bool false)), .pv (.lit .nilFunc), .pv (.lit .nilFunc), .pv (.lit (.bool false)), .pv (.lit (.bool false)), .pv (.lit (.bool false)), .pv (.lit (.bool false)), .pv (.lit (.bool false)), .pv (.lit .nilFunc), .pv (.lit .nilFunc), .pv (.lit (.bool false)), .pv (.lit (.bool false)), .pv (.lit (.bool false)), .pv (.lit (.bool false)), .pv (.lit (.bool false)), .pv (.lit .nilFunc), .pv (.lit .nilFunc)] := by kernel_rfl
theorem Tryz.velem122 : velem prog 122 = some (none, 139, 6) := by kernel_rfl
theorem Tryz.notInt122 : notInt prog 122 = true := by kernel_rfl
theorem Tryz.vt123 : vt prog 123 = some none := by kernel_rfl
theorem Tryz.velem123 : velem prog 123 = some (none, 165, 6) := by kernel_rfl
theorem Tryz.notInt123 : notInt prog 123 = true := by kernel_rfl
theorem Tryz.velem126 : velem prog 126 = some (none, 144, 9) := by kernel_rfl
theorem Tryz.notInt126 : notInt prog 126 = true := by kernel_rfl
theorem Tryz.vkind126 : vkind prog 126 = .sl 144 := by kernel_rfl
theorem Tryz.vfield137x0 : vfield prog 137 0 = some (111, 0, 18) := by kernel_rfl
theorem Tryz.vfield137x1 : vfield prog 137 1 = some (32, 18, 1) := by kernel_rfl
theorem Tryz.vfield137x2 : vfield prog 137 2 = some (123, 19, 1) := by kernel_rfl
theorem Tryz.vfield137x3 : vfield prog 137 3 = some (4, 20, 1) := by kernel_rfl
theorem Tryz.vplaces137 : vplaces prog 137 = some fun j => ([(0, 18), (18, 1), (19, 1), (20, 1)] : List (Nat × Nat))[j]? := by kernel_rfl
theorem Tryz.vzero137 : vzero prog 137 = some [.pv (.lit (.int .i64 0)), .pv (.lit (.int .i64 0)), .pv (.lit (.int .i64 0)), .pv (.slc []), .pv (.lit (.int .i64 0)), .pv (.lit (.int .i64 0)), .pv (.slc []), .pv (.lit (.int .i64 0)), .pv (.slc []), .pv (.slc []), .pv (.slc []), .pv (.slc []), .pv (.slc []), .pv (.slc []), .pv (.lit (.int .i64 0)), .pv (.slc []), .pv (.lit (.bool false)), .pv (.slc []), .pv (.slc []), .pv (.slc []), .pv (.lit (.bool false))] := by kernel_rfl
theorem Tryz.vt139 : vt prog 139 = some (some 6) := by kernel_rfl
theorem Tryz.vfield139x0 : vfield prog 139 0 = some (3, 0, 1) := by kernel_rfl
theorem Tryz.vfield139x1 : vfield prog 139 1 = some (3, 1, 1) := by kernel_rfl
theorem Tryz.vfield139x2 : vfield prog 139 2 = some (3, 2, 1) := by kernel_rfl
theorem Tryz.vfield139x3 : vfield prog 139 3 = some (37, 3, 2) := by kernel_rfl
theorem Tryz.vfield139x4 : vfield prog 139 4 = some (44, 5, 1) := by kernel_rfl
theorem Tryz.vplaces139 : vplaces prog 139 = some fun j => ([(0, 1), (1, 1), (2, 1), (3, 2), (5, 1)] : List (Nat × Nat))[j]? := by kernel_rfl
theorem Tryz.vzero139 : vzero prog 139 = some [.pv (.lit (.int .i64 0)), .pv (.lit (.int .i64 0)), .pv (.lit (.int .i64 0)), .pv (.lit (.bool false)), .pv (.str []), .pv (.lit (.int .i64 0))] := by kernel_rfl
theorem Tryz.bytes139 : bytesT prog 139 = some 56 := by kernel_rfl
theorem Tryz.vt142 : vt prog 142 = some (some 4) := by kernel_rfl
theorem Tryz.vfield142x0 : vfield prog 142 0 = some (3, 0, 1) := by kernel_rfl
theorem Tryz.vfield142x1 : vfield prog 142 1 = some (3, 1, 1) := by kernel_rfl
theorem Tryz.vfield142x2 : vfield prog 142 2 = some (3, 2, 1) := by kernel_rfl
theorem Tryz.vfield142x3 : vfield prog 142 3 = some (9, 3, 1) := by kernel_rfl
theorem Tryz.vplaces142 : vplaces prog 142 = some fun j => ([(0, 1), (1, 1), (2, 1), (3, 1)] : List (Nat × Nat))[j]? := by kernel_rfl
theorem Tryz.vzero142 : vzero prog 142 = some [.pv (.lit (.int .i64 0)), .pv (.lit (.int .i64 0)), .pv (.lit (.int .i64 0)), .pv (.str [])] := by kernel_rfl
theorem Tryz.leaves142 : leaves prog 8 142 = some [(0, 1), (1, 1), (2, 1), (3, 2)] := by kernel_rfl
theorem Tryz.eqg142 : prog.eqGuardType prog.depth 142 = false := by kernel_rfl
theorem Tryz.vt144 : vt prog 144 = some (some 9) := by kernel_rfl
theorem Tryz.vfield144x0 : vfield prog 144 0 = some (3, 0, 1) := by kernel_rfl
theorem Tryz.vfield144x1 : vfield prog 144 1 = some (3, 1, 1) := by kernel_rfl
theorem Tryz.vfield144x2 : vfield prog 144 2 = some (3, 2, 1) := by kernel_rfl
theorem Tryz.vfield144x3 : vfield prog 144 3 = some (3, 3, 1) := by kernel_rfl
theorem Tryz.vfield144x4 : vfield prog 144 4 = some (3, 4, 1) := by kernel_rfl
theorem Tryz.vfield144x5 : vfield prog 144 5 = some (142, 5, 4) := by kernel_rfl
theorem Tryz.vplaces144 : vplaces prog 144 = some fun j => ([(0, 1), (1, 1), (2, 1), (3, 1), (4, 1), (5, 4)] : List (Nat × Nat))[j]? := by kernel_rfl
theorem Tryz.vzero144 : vzero prog 144 = some [.pv (.lit (.int .i64 0)), .pv (.lit (.int .i64 0)), .pv (.lit (.int .i64 0)), .pv (.lit (.int .i64 0)), .pv (.lit (.int .i64 0)), .pv (.lit (.int .i64 0)), .pv (.lit (.int .i64 0)), .pv (.lit (.int .i64 0)), .pv (.str [])] := by kernel_rfl
theorem Tryz.bytes144 : bytesT prog 144 = some 80 := by kernel_rfl
theorem Tryz.vplaces165 : vplaces prog 165 = some fun j => ([(0, 1), (1, 1), (2, 1), (3, 1), (4, 2)] : List (Nat × Nat))[j]? := by kernel_rfl
theorem Tryz.vzero165 : vzero prog 165 = some [.pv (.lit (.int .i64 0)), .pv (.lit (.int .i64 0)), .pv (.lit (.int .i64 0)), .pv (.lit (.int .i64 0)), .pv (.lit (.bool false)), .pv (.str [])] := by kernel_rfl
theorem Tryz.bytes165 : bytesT prog 165 = some 56 := by kernel_rfl
theorem Tryz.velem166 : velem prog 166 = some (some 16, 37, 2) := by kernel_rfl
theorem Tryz.vt168 : vt prog 168 = some (some 34) := by kernel_rfl
theorem Tryz.vfield168x0 : vfield prog 168 0 = some (3, 0, 1) := by kernel_rfl
theorem Tryz.vfield168x1 : vfield prog 168 1 = some (3, 1, 1) := by kernel_rfl
theorem Tryz.vfield168x2 : vfield prog 168 2 = some (166, 2, 32) := by kernel_rfl
theorem Tryz.vplaces168 : vplaces prog 168 = some fun j => ([(0, 1), (1, 1), (2, 32)] : List (Nat × Nat))[j]? := by kernel_rfl
theorem Tryz.vzero168 : vzero prog 168 = some [.pv (.lit (.int .i64 0)), .pv (.lit (.int .i64 0)), .pv (.lit (.bool false)), .pv (.str []), .pv (.lit (.bool false)), .pv (.str []), .pv (.lit (.bool false)), .pv (.str []), .pv (.lit (.bool false)), .pv (.str []), .pv (.lit (.bool false)), .pv (.str []), .pv (.lit (.bool false)), .pv (.str []), .pv (.lit (.bool false)), .pv (.str []), .pv (.lit (.bool false)), .pv (.str []), .pv (.lit (.bool false)), .pv (.str []), .pv (.lit (.bool false)), .pv (.str []), .pv (.lit (.bool false)), .pv (.str []), .pv (.lit (.bool false)), .pv (.str []), .pv (.lit (.bool false)), .pv (.str []), .pv (.lit (.bool false)), .pv (.str []), .pv (.lit (.bool false)), .pv (.str []), .pv (.lit (.bool false)), .pv (.str [])] := by kernel_rfl
theorem Tryz.vt172 : vt prog 172 = some (some 37) := by kernel_rfl
theorem Tryz.vfield172x0 : vfield prog 172 0 = some (168, 0, 34) := by kernel_rfl
theorem Tryz.vfield172x1 : vfield prog 172 1 = some (4, 34, 1) := by kernel_rfl
theorem Tryz.vfield172x2 : vfield prog 172 2 = some (3, 35, 1) := by kernel_rfl
theorem Tryz.vfield172x3 : vfield prog 172 3 = some (4, 36, 1) := by kernel_rfl
theorem Tryz.vplaces172 : vplaces prog 172 = some fun j => ([(0, 34), (34, 1), (35, 1), (36, 1)] : List (Nat × Nat))[j]? := by kernel_rfl
theorem Tryz.vzero172 : vzero prog 172 = some [.pv (.lit (.int .i64 0)), .pv (.lit (.int .i64 0)), .pv (.lit (.bool false)), .pv (.str []), .pv (.lit (.bool false)), .pv (.str []), .pv (.lit (.bool false)), .pv (.str []), .pv (.lit (.bool false)), .pv (.str []), .pv (.lit (.bool false)), .pv (.str []), .pv (.lit (.bool false)), .pv (.str []), .pv (.lit (.bool false)), .pv (.str []), .pv (.lit (.bool false)), .pv (.str []), .pv (.lit (.bool false)), .pv (.str []), .pv (.lit (.bool false)), .pv (.str []), .pv (.lit (.bool false)), .pv (.str []), .pv (.lit (.bool false)), .pv (.str []), .pv (.lit (.bool false)), .pv (.str []), .pv (.lit (.bool false)), .pv (.str []), .pv (.lit (.bool false)), .pv (.str []), .pv (.lit (.bool false)), .pv (.str []), .pv (.lit (.bool false)), .pv (.lit (.int .i64 0)), .pv (.lit (.bool false))] := by kernel_rfl
theorem Tryz.bytes172 : bytesT prog 172 = some 424 := by kernel_rfl
theorem Tryz.vt180 : vt prog 180 = some (some 3) := by kernel_rfl
theorem Tryz.vfield180x0 : vfield prog 180 0 = some (3, 0, 1) := by kernel_rfl
theorem Tryz.vfield180x1 : vfield prog 180 1 = some (3, 1, 1) := by kernel_rfl
theorem Tryz.vfield180x2 : vfield prog 180 2 = some (3, 2, 1) := by kernel_rfl
theorem Tryz.vplaces180 : vplaces prog 180 = some fun j => ([(0, 1), (1, 1), (2, 1)] : List (Nat × Nat))[j]? := by kernel_rfl
theorem Tryz.vzero180 : vzero prog 180 = some [.pv (.lit (.int .i64 0)), .pv (.lit (.int .i64 0)), .pv (.lit (.int .i64 0))] := by kernel_rfl
theorem Tryz.bytes180 : bytesT prog 180 = some 24 := by kernel_rfl
theorem Tryz.vt188 : vt prog 188 = some (some 2) := by kernel_rfl
theorem Tryz.vfield188x0 : vfield prog 188 0 = some (3, 0, 1) := by kernel_rfl
theorem Tryz.vfield188x1 : vfield prog 188 1 = some (3, 1, 1) := by kernel_rfl
theorem Tryz.vplaces188 : vplaces prog 188 = some fun j => ([(0, 1), (1, 1)] : List (Nat × Nat))[j]? := by kernel_rfl
theorem Tryz.vzero188 : vzero prog 188 = some [.pv (.lit (.int .i64 0)), .pv (.lit (.int .i64 0))] := by kernel_rfl
theorem Tryz.leaves188 : leaves prog 8 188 = some [(0, 1), (1, 1)] := by kernel_rfl
theorem Tryz.eqg188 : prog.eqGuardType prog.depth 188 = false := by kernel_rfl
theorem Tryz.vt201 : vt prog 201 = some (some 5) := by kernel_rfl
theorem Tryz.vfield201x0 : vfield prog 201 0 = some (3, 0, 1) := by kernel_rfl
theorem Tryz.vfield201x1 : vfield prog 201 1 = some (3, 1, 1) := by kernel_rfl
theorem Tryz.vfield201x2 : vfield prog 201 2 = some (77, 2, 1) := by kernel_rfl
theorem Tryz.vfield201x3 : vfield prog 201 3 = some (81, 3, 1) := by kernel_rfl
theorem Tryz.vfield201x4 : vfield prog 201 4 = some (80, 4, 1) := by kernel_rfl
theorem Tryz.vplaces201 : vplaces prog 201 = some fun j => ([(0, 1), (1, 1), (2, 1), (3, 1), (4, 1)] : List (Nat × Nat))[j]? := by kernel_rfl
theorem Tryz.vzero201 : vzero prog 201 = some [.pv (.lit (.int .i64 0)), .pv (.lit (.int .i64 0)), .pv (.slc []), .pv (.slc []), .pv (.slc [])] := by kernel_rfl
theorem Tryz.vt209 : vt prog 209 = some (some 6) := by kernel_rfl
theorem Tryz.vfield209x0 : vfield prog 209 0 = some (3, 0, 1) := by kernel_rfl
theorem Tryz.vfield209x1 : vfield prog 209 1 = some (3, 1, 1) := by kernel_rfl
theorem Tryz.vfield209x2 : vfield prog 209 2 = some (3, 2, 1) := by kernel_rfl
theorem Tryz.vfield209x3 : vfield prog 209 3 = some (3, 3, 1) := by kernel_rfl
theorem Tryz.vfield209x4 : vfield prog 209 4 = some (32, 4, 1) := by kernel_rfl
theorem Tryz.vfield209x5 : vfield prog 209 5 = some (32, 5, 1) := by kernel_rfl
theorem Tryz.vplaces209 : vplaces prog 209 = some fun j => ([(0, 1), (1, 1), (2, 1), (3, 1), (4, 1), (5, 1)] : List (Nat × Nat))[j]? := by kernel_rfl
theorem Tryz.vzero209 : vzero prog 209 = some [.pv (.lit (.int .i64 0)), .pv (.lit (.int .i64 0)), .pv (.lit (.int .i64 0)), .pv (.lit (.int .i64 0)), .pv (.slc []), .pv (.slc [])] := by kernel_rfl
theorem Tryz.bytes209 : bytesT prog 209 = some 80 := by kernel_rfl
theorem Tryz.vt213 : vt prog 213 = some (some 4) := by kernel_rfl
theorem Tryz.vfield213x0 : vfield prog 213 0 = some (3, 0, 1) := by kernel_rfl
theorem Tryz.vfield213x1 : vfield prog 213 1 = some (188, 1, 2) := by kernel_rfl
theorem Tryz.vfield213x2 : vfield prog 213 2 = some (3, 3, 1) := by kernel_rfl
theorem Tryz.vplaces213 : vplaces prog 213 = some fun j => ([(0, 1), (1, 2), (3, 1)] : List (Nat × Nat))[j]? := by kernel_rfl
theorem Tryz.vzero213 : vzero prog 213 = some [.pv (.lit (.int .i64 0)), .pv (.lit (.int .i64 0)), .pv (.lit (.int .i64 0)), .pv (.lit (.int .i64 0))] := by kernel_rfl
theorem Tryz.bytes213 : bytesT prog 213 = some 32 := by kernel_rfl
theorem Tryz.leaves213 : leaves prog 8 213 = some [(0, 1), (1, 1), (2, 1), (3, 1)] := by kernel_rfl
theorem Tryz.eqg213 : prog.eqGuardType prog.depth 213 = false := by kernel_rfl
theorem Tryz.vkind239 : vkind prog 239 = .int .u32 := by kernel_rfl
theorem Tryz.vzero244 : vzero prog 244 = some [.pv (.lit (.int .i64 0)), .pv (.lit (.int .i64 0)), .pv (.lit (.int .i64 0)), .pv (.lit (.int .i64 0)), .pv (.lit (.int .i64 0)), .pv (.lit (.int .u8 0))] := by kernel_rfl
theorem Tryz.bytes244 : bytesT prog 244 = some 48 := by kernel_rfl
theorem Tryz.vt258 : vt prog 258 = some (some 7) := by kernel_rfl
theorem Tryz.vfield258x0 : vfield prog 258 0 = some (3, 0, 1) := by kernel_rfl
theorem Tryz.vfield258x1 : vfield prog 258 1 = some (3, 1, 1) := by kernel_rfl
theorem Tryz.vfield258x2 : vfield prog 258 2 = some (3, 2, 1) := by kernel_rfl
theorem Tryz.vfield258x3 : vfield prog 258 3 = some (77, 3, 1) := by kernel_rfl
theorem Tryz.vfield258x4 : vfield prog 258 4 = some (74, 4, 1) := by kernel_rfl
theorem Tryz.vfield258x5 : vfield prog 258 5 = some (81, 5, 1) := by kernel_rfl
theorem Tryz.vfield258x6 : vfield prog 258 6 = some (80, 6, 1) := by kernel_rfl
theorem Tryz.vplaces258 : vplaces prog 258 = some fun j => ([(0, 1), (1, 1), (2, 1), (3, 1), (4, 1), (5, 1), (6, 1)] : List (Nat × Nat))[j]? := by kernel_rfl
theorem Tryz.vzero258 : vzero prog 258 = some [.pv (.lit (.int .i64 0)), .pv (.lit (.int .i64 0)), .pv (.lit (.int .i64 0)), .pv (.slc []), .pv (.slc []), .pv (.slc []), .pv (.slc [])] := by kernel_rfl
theorem Tryz.vt269 : vt prog 269 = some (some 3) := by kernel_rfl
theorem Tryz.vfield269x0 : vfield prog 269 0 = some (3, 0, 1) := by kernel_rfl
theorem Tryz.vfield269x1 : vfield prog 269 1 = some (3, 1, 1) := by kernel_rfl
theorem Tryz.vfield269x2 : vfield prog 269 2 = some (3, 2, 1) := by kernel_rfl
theorem Tryz.vzero269 : vzero prog 269 = some [.pv (.lit (.int .i64 0)), .pv (.lit (.int .i64 0)), .pv (.lit (.int .i64 0))] := by kernel_rfl
theorem Tryz.bytes269 : bytesT prog 269 = some 24 := by kernel_rfl
theorem Tryz.vfield330x0 : vfield prog 330 0 = some (9, 0, 1) := by kernel_rfl
theorem Tryz.vfield330x1 : vfield prog 330 1 = some (3, 1, 1) := by kernel_rfl
theorem Tryz.vfield330x2 : vfield prog 330 2 = some (44, 2, 1) := by kernel_rfl
theorem Tryz.vplaces330 : vplaces prog 330 = some fun j => ([(0, 1), (1, 1), (2, 1)] : List (Nat × Nat))[j]? := by kernel_rfl
theorem Tryz.vzero330 : vzero prog 330 = some [.pv (.str []), .pv (.lit (.int .i64 0)), .pv (.lit (.int .i64 0))] := by kernel_rfl
theorem Tryz.vfield342x0 : vfield prog 342 0 = some (9, 0, 1) := by kernel_rfl
theorem Tryz.vfield342x1 : vfield prog 342 1 = some (3, 1, 1) := by kernel_rfl
theorem Tryz.vfield342x2 : vfield prog 342 2 = some (4, 2, 1) := by kernel_rfl
theorem Tryz.vplaces342 : vplaces prog 342 = some fun j => ([(0, 1), (1, 1), (2, 1)] : List (Nat × Nat))[j]? := by kernel_rfl
theorem Tryz.vzero342 : vzero prog 342 = some [.pv (.str []), .pv (.lit (.int .i64 0)), .pv (.lit (.bool false))] := by kernel_rfl
attribute [go_sem] Tryz.vt3 Tryz.vkind3 Tryz.vzero3 Tryz.bytes3 Tryz.vt4 Tryz.vkind4 Tryz.vzero4 Tryz.bytes4 Tryz.vt5 Tryz.vkind5 Tryz.vzero5 Tryz.bytes5 Tryz.vt9 Tryz.notInt9 Tryz.vkind9 Tryz.vzero9 Tryz.bytes9 Tryz.vt22 Tryz.velem22 Tryz.notInt22 Tryz.vkind22 Tryz.vt26 Tryz.velem26 Tryz.notInt26 Tryz.vkind26 Tryz.vt28 Tryz.vfield28x0 Tryz.vfield28x1 Tryz.vfield28x2 Tryz.vplaces28 Tryz.vzero28 Tryz.vt31 Tryz.velem31 Tryz.notInt31 Tryz.vkind31 Tryz.vt32 Tryz.velem32 Tryz.notInt32 Tryz.vkind32 Tryz.vt34 Tryz.vfield34x0 Tryz.vfield34x1 Tryz.vfield34x2 Tryz.vplaces34 Tryz.vzero34 Tryz.vt37 Tryz.vfield37x0 Tryz.vfield37x1 Tryz.vplaces37 Tryz.vzero37 Tryz.leaves37 Tryz.eqg37 Tryz.vt39 Tryz.vfield39x0 Tryz.vfield39x1 Tryz.vfield39x2 Tryz.vfield39x3 Tryz.vplaces39 Tryz.vzero39 Tryz.leaves39 Tryz.eqg39 Tryz.vt41 Tryz.vfield41x0 Tryz.vfield41x1 Tryz.vfield41x2 Tryz.vfield41x3 Tryz.vfield41x4 Tryz.vfield41x5 Tryz.vfield41x6 Tryz.vfield41x7 Tryz.vplaces41 Tryz.vzero41 Tryz.bytes41 Tryz.leaves41 Tryz.eqg41 Tryz.vt44 Tryz.vt51 Tryz.vfield60x0 Tryz.vfield60x1 Tryz.vplaces60 Tryz.vzero60 Tryz.vt71 Tryz.velem71 Tryz.notInt71 Tryz.vkind71 Tryz.vt73 Tryz.vfield73x0 Tryz.vfield73x1 Tryz.vfield73x2 Tryz.vplaces73 Tryz.vzero73 Tryz.vt74 Tryz.velem74 Tryz.notInt74 Tryz.vkind74 Tryz.vt76 Tryz.vfield76x0 Tryz.vfield76x1 Tryz.vplaces76 Tryz.vzero76 Tryz.vt77 Tryz.velem77 Tryz.notInt77 Tryz.vkind77 Tryz.vt78 Tryz.velem78 Tryz.notInt78 Tryz.vkind78 Tryz.vt80 Tryz.vfield80x0 Tryz.vplaces80 Tryz.vzero80 Tryz.vt81 Tryz.velem81 Tryz.notInt81 Tryz.vkind81 Tryz.vt83 Tryz.vfield83x0 Tryz.vfield83x1 Tryz.vfield83x2 Tryz.vfield83x3 Tryz.vfield83x4 Tryz.vfield83x5 Tryz.vfield83x6 Tryz.vfield83x7 Tryz.vplaces83 Tryz.vzero83 Tryz.vt94 Tryz.vfield96x0 Tryz.vfield96x1 Tryz.vzero96 Tryz.vkind102 Tryz.vkind104 Tryz.vt106 Tryz.velem106 Tryz.notInt106 Tryz.vkind106 Tryz.vt107 Tryz.velem107 Tryz.notInt107 Tryz.vkind107 Tryz.vt109 Tryz.vfield109x0 Tryz.vfield109x1 Tryz.vfield109x2 Tryz.vfield109x3 Tryz.vfield109x4 Tryz.vplaces109 Tryz.vzero109 Tryz.vt111 Tryz.vfield111x0 Tryz.vfield111x1 Tryz.vplaces111 Tryz.vzero111 Tryz.vt113 Tryz.vt117 Tryz.vfield117x0 Tryz.vfield117x1 Tryz.vfield117x2 Tryz.vfield117x3 Tryz.vfield117x4 Tryz.vfield117x5 Tryz.vfield117x6 Tryz.vplaces117 Tryz.vzero117 Tryz.vt118 Tryz.velem118 Tryz.vplaces118 Tryz.vzero118 Tryz.velem122 Tryz.notInt122 Tryz.vt123 Tryz.velem123 Tryz.notInt123 Tryz.velem126 Tryz.notInt126 Tryz.vkind126 Tryz.vfield137x0 Tryz.vfield137x1 Tryz.vfield137x2 Tryz.vfield137x3 Tryz.vplaces137 Tryz.vzero137 Tryz.vt139 Tryz.vfield139x0 Tryz.vfield139x1 Tryz.vfield139x2 Tryz.vfield139x3 Tryz.vfield139x4 Tryz.vplaces139 Tryz.vzero139 Tryz.bytes139 Tryz.vt142 Tryz.vfield142x0 Tryz.vfield142x1 Tryz.vfield142x2 Tryz.vfield142x3 Tryz.vplaces142 Tryz.vzero142 Tryz.leaves142 Tryz.eqg142 Tryz.vt144 Tryz.vfield144x0 Tryz.vfield144x1 Tryz.vfield144x2 Tryz.vfield144x3 Tryz.vfield144x4 Tryz.vfield144x5 Tryz.vplaces144 Tryz.vzero144 Tryz.bytes144 Tryz.vplaces165 Tryz.vzero165 Tryz.bytes165 Tryz.velem166 Tryz.vt168 Tryz.vfield168x0 Tryz.vfield168x1 Tryz.vfield168x2 Tryz.vplaces168 Tryz.vzero168 Tryz.vt172 Tryz.vfield172x0 Tryz.vfield172x1 Tryz.vfield172x2 Tryz.vfield172x3 Tryz.vplaces172 Tryz.vzero172 Tryz.bytes172 Tryz.vt180 Tryz.vfield180x0 Tryz.vfield180x1 Tryz.vfield180x2 Tryz.vplaces180 Tryz.vzero180 Tryz.bytes180 Tryz.vt188 Tryz.vfield188x0 Tryz.vfield188x1 Tryz.vplaces188 Tryz.vzero188 Tryz.leaves188 Tryz.eqg188 Tryz.vt201 Tryz.vfield201x0 Tryz.vfield201x1 Tryz.vfield201x2 Tryz.vfield201x3 Tryz.vfield201x4 Tryz.vplaces201 Tryz.vzero201 Tryz.vt209 Tryz.vfield209x0 Tryz.vfield209x1 Tryz.vfield209x2 Tryz.vfield209x3 Tryz.vfield209x4 Tryz.vfield209x5 Tryz.vplaces209 Tryz.vzero209 Tryz.bytes209 Tryz.vt213 Tryz.vfield213x0 Tryz.vfield213x1 Tryz.vfield213x2 Tryz.vplaces213 Tryz.vzero213 Tryz.bytes213 Tryz.leaves213 Tryz.eqg213 Tryz.vkind239 Tryz.vzero244 Tryz.bytes244 Tryz.vt258 Tryz.vfield258x0 Tryz.vfield258x1 Tryz.vfield258x2 Tryz.vfield258x3 Tryz.vfield258x4 Tryz.vfield258x5 Tryz.vfield258x6 Tryz.vplaces258 Tryz.vzero258 Tryz.vt269 Tryz.vfield269x0 Tryz.vfield269x1 Tryz.vfield269x2 Tryz.vzero269 Tryz.bytes269 Tryz.vfield330x0 Tryz.vfield330x1 Tryz.vfield330x2 Tryz.vplaces330 Tryz.vzero330 Tryz.vfield342x0 Tryz.vfield342x1 Tryz.vfield342x2 Tryz.vplaces342 Tryz.vzero342
end Go.Proofs
namespace Go.Proofs.YtcbeaefljofgeaaGreat
open Go.V Go
open Tryz (prog)
theorem pe : isPtr prog 94 = true := by kernel_rfl
theorem cto : toU prog 94 129 = true := by kernel_rfl
theorem cfr : frU prog 129 94 96 = true := by kernel_rfl
theorem cob : prog.cellsOf 96 = 2 := by kernel_rfl
theorem uok : ustrOk prog 115 5 = true := by kernel_rfl
theorem noEscape_v (x : DV) (hp : Heap) : VCalls prog 64 [x] hp fun r h' => r = x ∧ h' = hp :=
  vcalls_same Tryz.func64 (by kernel_rfl) (by kernel_rfl) rfl rfl
def nilP : DV := .pv (.lit (.pointer none))
def bld (a b : DV) : Blk := ⟨96, true, [a, b]⟩
def bE : DV := .pv (.lit (.slice none 0 0))
theorem check0 : VCalls prog 57 [.ptr 0 0] [bld nilP bE] (fun r h' => r = .tup [] ∧ h' = [bld (.ptr 0 0) bE]) := by
  refine vcalls_keep (fn := Tryz.f57) Tryz.func57 rfl (by kernel_rfl) (by simp [Tryz.f57]) ?_
  simp (config := { maxSteps := 2000000 }) (implicitDefEqProofs := false) (disch := first | omega | assumption | (simp only []; done) | fail) only [go_sem, ↓reduceIte, reduceCtorEq, Nat.reduceAdd, Nat.reduceBEq, Int.reduceAdd, Int.reduceBEq, Tryz.f57, bld, nilP, bE, ptrEq_eql pe, ptrEq_neq pe, convPtr_to cto, convPtr_from cfr, ofConst_ptr]
  refine (noEscape_v _ _).mono ?_
  rintro r h' ⟨rfl, rfl⟩
  simp (config := { maxSteps := 2000000 }) (implicitDefEqProofs := false) (disch := first | omega | assumption | (simp only []; done) | fail) only [go_sem, ↓reduceIte, reduceCtorEq, Nat.reduceAdd, Nat.reduceBEq, Int.reduceAdd, Int.reduceBEq, ptrEq_eql pe, ptrEq_neq pe, convPtr_to cto, convPtr_from cfr, cob, results_nil]
def bufB (l : List UInt8) : Blk := ⟨5, true, cells encU l⟩
theorem check2 (l : List UInt8) : VCalls prog 57 [.ptr 0 0] [bld (.ptr 0 0) (.own 1 1 0 l.length), bufB l] (fun r h' => r = .tup [] ∧ h' = [bld (.ptr 0 0) (.own 1 1 0 l.length), bufB l]) := by
  refine vcalls_keep (fn := Tryz.f57) Tryz.func57 rfl (by kernel_rfl) (by simp [Tryz.f57]) ?_
  simp (config := { maxSteps := 2000000 }) (implicitDefEqProofs := false) (disch := first | omega | assumption | (simp only []; done) | fail) only [go_sem, ↓reduceIte, reduceCtorEq, Nat.reduceAdd, Nat.reduceLT, Nat.reduceBEq, Int.reduceLT, Int.reduceAdd, Int.reduceBEq, Tryz.f57, bld, bufB, ptrEq_eql pe, ptrEq_neq pe, convPtr_to cto, convPtr_from cfr, ofConst_ptr, results_nil]
theorem ws0 (s : List UInt8) (hs : s.length ≤ 1100000000) : VCalls prog 47 [.ptr 0 0, .pv (.str s)] [bld nilP bE] (fun r h' => r = .tup [.int .i64 s.length, .pv (.lit .nilIface)] ∧ h' = [bld (.ptr 0 0) (.own 1 1 0 s.length), bufB s]) := by
  refine vcalls_keep (fn := Tryz.f47) Tryz.func47 rfl (by kernel_rfl) (by simp [Tryz.f47]) ?_
  simp (config := { maxSteps := 2000000 }) (implicitDefEqProofs := false) (disch := first | omega | assumption | (simp only []; done) | fail) only [go_sem, Nat.reduceAdd, Nat.reduceBEq, Int.reduceAdd, Int.reduceBEq, Tryz.f47, bld, nilP, bE, ptrEq_eql pe, ptrEq_neq pe, convPtr_to cto, convPtr_from cfr, ofConst_nilIface]
  refine check0.mono ?_
  rintro r h' ⟨rfl, rfl⟩
  have hs2 : s.length ≤ 140737488355328 := by omega
  simp (config := { maxSteps := 2000000 }) (implicitDefEqProofs := false) (disch := first | omega | assumption | (simp only []; done) | fail) only [go_sem, ↓reduceIte, reduceCtorEq, Nat.reduceAdd, Nat.reduceLT, Nat.reduceBEq, Int.reduceLT, Int.reduceAdd, Int.reduceBEq, bld, bE, ptrEq_eql pe, ptrEq_neq pe, convPtr_to cto, convPtr_from cfr, ofConst_nilIface, hs2, bufB, cellsU]
theorem wb_v (l : List UInt8) (b : UInt8) (hl : l.length ≤ 1100000000) : VCalls prog 48 [.ptr 0 0, .int .u8 b.toNat] [bld (.ptr 0 0) (.own 1 1 0 l.length), bufB l] (fun r h' => r = .pv (.lit .nilIface) ∧ h' = [bld (.ptr 0 0) (.own 3 1 0 (l ++ [b]).length), ⟨5, false, []⟩, bufB [b], bufB (l ++ [b])]) := by
  refine vcalls_keep (fn := Tryz.f48) Tryz.func48 rfl (by kernel_rfl) (by simp [Tryz.f48]) ?_
  simp (config := { maxSteps := 2000000 }) (implicitDefEqProofs := false) (disch := first | omega | assumption | (simp only []; done) | fail) only [go_sem, Nat.reduceAdd, Nat.reduceBEq, Int.reduceAdd, Int.reduceBEq, Tryz.f48, bld, bufB, ptrEq_eql pe, ptrEq_neq pe, convPtr_to cto, convPtr_from cfr, ofConst_nilIface]
  refine (check2 l).mono ?_
  rintro r h' ⟨rfl, rfl⟩
  have hs2 : l.length + 1 ≤ 140737488355328 := by omega
  simp (config := { maxSteps := 2000000 }) (implicitDefEqProofs := false) (disch := first | omega | assumption | (simp only []; done) | fail) only [go_sem, V.splice, V.mk, ↓reduceIte, reduceCtorEq, Nat.reduceAdd, Nat.reduceLT, Nat.reduceLeDiff, Nat.reduceBEq, Int.reduceLT, Int.reduceAdd, Int.reduceBEq, bld, bufB, ptrEq_eql pe, ptrEq_neq pe, convPtr_to cto, convPtr_from cfr, ofConst_nilIface, hs2]
  have e1 : (cells encU l).take l.length = cells encU l := by rw [List.take_of_length_le]; rw [cellsU_len]; exact Nat.le_refl _
  rw [e1, cells_app, List.length_append]
  rfl
theorem str_v (l : List UInt8) (hl : l.length ≤ 1100000000) (h0 : 0 < l.length) : VCalls prog 49 [.ptr 0 0] [bld (.ptr 0 0) (.own 1 1 0 l.length), bufB l] (fun r h' => r = .pv (.str l) ∧ h' = [bld (.ptr 0 0) (.own 1 1 0 l.length), ⟨5, false, []⟩]) := by
  refine vcalls_keep (fn := Tryz.f49) Tryz.func49 rfl (by kernel_rfl) (by simp [Tryz.f49]) ?_
  simp (config := { maxSteps := 2000000 }) (implicitDefEqProofs := false) (disch := first | omega | assumption | (simp only []; done) | fail) only [go_sem, Nat.reduceAdd, Int.reduceAdd, Tryz.f49, bld, bufB, ptrEq_eql pe, ptrEq_neq pe, convPtr_to cto, convPtr_from cfr]
  refine vspine (id := 1) [0, 1, 2, 3, 5, 6, 7, 8, 9] [⟨[], [], 4, [0, 1, 2, 5, 6, 7, 8, 9], []⟩, ⟨[], [], 10, [0, 1, 2, 3, 5, 6, 7, 8], []⟩, ⟨[], [], 11, [], []⟩] (by kernel_rfl) (by kernel_rfl) ?_
  have hu := ustr_eq (P := prog) (hp := [bld (.ptr 0 0) (.own 1 1 0 l.length), bufB l]) (k := 1) (n := l.length) uok rfl rfl h0 (by omega)
  simp only [bld, bufB] at hu
  simp (config := { maxSteps := 2000000 }) (implicitDefEqProofs := false) (disch := first | omega | assumption | (simp only []; done) | fail) only [go_sem, ↓reduceIte, reduceCtorEq, Nat.reduceLT, Nat.reduceBEq, Int.reduceLT, Int.reduceBEq, ptrEq_eql pe, ptrEq_neq pe, convPtr_to cto, convPtr_from cfr, sdata_own h0, hu]
def byteX (n : Int) (i : Nat) : Int := IntKind.u8.wrap ((IntKind.u64.wrap n).fdiv (2 ^ min (8 * (i : Int)).toNat 64))
def byteI (n : Int) (i : Nat) : UInt8 := UInt8.ofNat (byteX n i).toNat
theorem wrap_u8_eq (x : Int) : IntKind.u8.wrap x = x % 256 := by
  simp [IntKind.wrap, IntKind.signed, IntKind.bits]
theorem byteI_eq (n : Int) (i : Nat) : byteX n i = ((byteI n i).toNat : Int) := by
  unfold byteI byteX
  rw [wrap_u8_eq]
  generalize (IntKind.u64.wrap n).fdiv (2 ^ min (8 * (i : Int)).toNat 64) = y
  simp only [UInt8.toNat_ofNat']
  omega
def putL (s : List UInt8) (n : Int) (k : Nat) : List UInt8 := s ++ (List.range k).map (byteI n)
theorem putL_len (s : List UInt8) (n : Int) (k : Nat) : (putL s n k).length = s.length + k := by simp [putL]
theorem putL_succ (s : List UInt8) (n : Int) (k : Nat) : putL s n (k + 1) = putL s n k ++ [byteI n k] := by simp [putL, List.range_succ]
theorem put_v (s : List UInt8) (hs : s.length ≤ 1000000000) (n : Int) (k : Nat) (h1 : 1 ≤ k) (h8 : k ≤ 8) : VCalls prog 25 [.pv (.str s), .int .i64 n, .int .i64 k] [] (Ret (.pv (.str (putL s n k)))) := by
  refine dd Tryz.func25 ?_
  simp (config := { maxSteps := 2000000 }) (implicitDefEqProofs := false) (disch := first | omega | assumption | (simp only []; done) | fail) only [go_sem, ↓reduceIte, Nat.reduceAdd, Nat.reduceBEq, Int.reduceAdd, Int.reduceBEq, Tryz.f25]
  refine (ws0 s (by omega)).mono ?_
  rintro r h' ⟨rfl, rfl⟩
  simp (config := { maxSteps := 2000000 }) (implicitDefEqProofs := false) (disch := first | omega | assumption | (simp only []; done) | fail) only [go_sem, Nat.reduceBEq, Int.reduceBEq, bld]
  refine vloopW (fun i : {i : Nat // i ≤ k} => ⟨31, 0, [(19, .int .i64 i.1), (18, .int .i64 k), (7, .ptr 0 0), (1, .int .i64 n)], [bld (.ptr 0 0) (.own 1 1 0 (putL s n i.1).length), bufB (putL s n i.1)]⟩) (fun i => k - i.1) ⟨0, by omega⟩ (.inl (by simpa only [putL, List.range_zero, List.map_nil, List.append_nil] using (by refine ⟨rfl, rfl, by simp, ?_, ?_, .inr ⟨?_, ?_⟩⟩ <;> (repeat' apply And.intro) <;> first | rfl | trivial | (intro _; first | rfl | apply cells_refs)))) ?_
  intro i
  obtain ⟨i, hi⟩ := i
  dsimp only
  simp (config := { maxSteps := 2000000 }) (implicitDefEqProofs := false) (disch := first | omega | assumption | (simp only []; done) | fail) only [go_sem, Nat.reduceBEq, Int.reduceBEq, bld, bufB]
  refine vbr_split (fun hc => ?_) (fun hc => ?_) <;> simp only [decide_eq_true_eq, decide_eq_false_iff_not, Bool.or_eq_true, Bool.and_eq_true, Bool.or_eq_false_iff, Bool.and_eq_false_imp, Bool.not_eq_true', Bool.not_eq_false', beq_iff_eq, beq_eq_false_iff_ne, bne_iff_ne, bne_eq_false_iff_eq, ne_eq] at hc
  · simp (config := { maxSteps := 2000000 }) (implicitDefEqProofs := false) (disch := first | omega | assumption | (simp only []; done) | fail) only [go_sem, Nat.reduceBEq, Int.reduceBEq]
    have hw := wb_v (putL s n i) (byteI n i) (by rw [putL_len]; omega)
    rw [← byteI_eq] at hw
    refine hw.mono ?_
    rintro r h' ⟨rfl, rfl⟩
    simp (config := { maxSteps := 2000000 }) (implicitDefEqProofs := false) (disch := first | omega | assumption | (simp only []; done) | fail) only [go_sem, Nat.reduceBEq, Int.reduceBEq, bld, bufB]
    refine ⟨⟨i + 1, by omega⟩, by show k - (i + 1) < k - i; omega, ?_⟩
    rw [putL_succ]
    refine gc_of (keep := [0, 3]) rfl rfl rfl (by decide) ⟨⟨_, rfl, rfl, rfl, .inr ⟨rfl, rfl⟩⟩, ⟨_, rfl, rfl, rfl, .inl ⟨?_, rfl⟩⟩, trivial⟩ ?_
    · show DV.nums.go _ (cells encU _) = true
      exact cells_nums _ _ _
    · refine ⟨⟨rfl, rfl⟩, ⟨rfl, rfl⟩, ⟨rfl, rfl⟩, ⟨rfl, rfl⟩, trivial⟩
  · simp (config := { maxSteps := 2000000 }) (implicitDefEqProofs := false) (disch := first | omega | assumption | (simp only []; done) | fail) only [go_sem, ↓reduceIte, Nat.reduceLT, Nat.reduceBEq, Int.reduceLT, Int.reduceBEq]
    have hik : i = k := by omega
    subst hik
    refine (str_v (putL s n i) (by rw [putL_len]; omega) (by rw [putL_len]; omega)).mono ?_
    rintro r h' ⟨rfl, rfl⟩
    simp (config := { maxSteps := 2000000 }) (implicitDefEqProofs := false) (disch := first | omega | assumption | (simp only []; done) | fail) only [go_sem]
theorem btsF : bts prog 22 9 = true := by kernel_rfl
theorem rput_v (s : List UInt8) (hs : s.length ≤ 1000000000) (n : Int) (k : Nat) (h1 : 1 ≤ k) (h8 : k ≤ 8) : VCalls prog 27 [.pv (.str s), .int .i64 n, .int .i64 k] [] (Ret (.pv (.str (putL s n k)))) := by
  refine dd Tryz.func27 ?_
  simp (config := { maxSteps := 2000000 }) (implicitDefEqProofs := false) (disch := first | omega | assumption | (simp only []; done) | fail) only [go_sem, Nat.reduceAdd, Nat.reduceBEq, Int.reduceAdd, Int.reduceBEq, Tryz.f27]
  refine vloopW (fun i : {i : Nat // i ≤ k} => ⟨32, 0, [(7, .int .i64 i.1), (2, .int .i64 k), (0, .pv (.str (putL s n i.1))), (1, .int .i64 n)], []⟩) (fun i => k - i.1) ⟨0, by omega⟩ (.inl (by simpa only [putL, List.range_zero, List.map_nil, List.append_nil] using (by refine ⟨rfl, rfl, by simp, ?_, ?_, .inr ⟨?_, ?_⟩⟩ <;> (repeat' apply And.intro) <;> first | rfl | trivial | (intro _; first | rfl | apply cells_refs)))) ?_
  intro i
  obtain ⟨i, hi⟩ := i
  dsimp only
  simp (config := { maxSteps := 2000000 }) (implicitDefEqProofs := false) (disch := first | omega | assumption | (simp only []; done) | fail) only [go_sem, Nat.reduceBEq, Int.reduceBEq]
  refine vbr_split (fun hc => ?_) (fun hc => ?_) <;> simp only [decide_eq_true_eq, decide_eq_false_iff_not, Bool.or_eq_true, Bool.and_eq_true, Bool.or_eq_false_iff, Bool.and_eq_false_imp, Bool.not_eq_true', Bool.not_eq_false', beq_iff_eq, beq_eq_false_iff_ne, bne_iff_ne, bne_eq_false_iff_eq, ne_eq] at hc
  · have hw8 : IntKind.u64.wrap (8 * (i : Int)) = 8 * (i : Int) := by simp [IntKind.wrap, IntKind.signed, IntKind.bits]; omega
    have hl : (putL s n i).length + 1 ≤ 9223372036854775807 := by rw [putL_len]; omega
    simp (config := { maxSteps := 2000000 }) (implicitDefEqProofs := false) (disch := first | omega | assumption | (simp only []; done) | fail) only [go_sem, V.splice, V.mk, ↓reduceIte, Nat.reduceLT, Nat.reduceLeDiff, Nat.reduceBEq, Int.reduceLT, Int.reduceBEq, hw8, conv_bts btsF, vcso_one]
    refine ⟨⟨i + 1, by omega⟩, by show k - (i + 1) < k - i; omega, ?_⟩
    rw [putL_succ]
    refine gc_of (keep := []) rfl rfl rfl (by decide) trivial ?_
    refine ⟨⟨rfl, rfl⟩, ⟨rfl, rfl⟩, ⟨rfl, rfl⟩, ⟨rfl, rfl⟩, trivial⟩
  · simp (config := { maxSteps := 2000000 }) (implicitDefEqProofs := false) (disch := first | omega | assumption | (simp only []; done) | fail) only [go_sem, ↓reduceIte, Nat.reduceLT, Nat.reduceBEq, Int.reduceLT, Int.reduceBEq]
    have hik : i = k := by omega
    rw [hik]
def accX (s : List UInt8) (a : Nat) : Nat → Int
  | 0 => 0
  | i + 1 => bits BinOp.or .u64 (accX s a i) (IntKind.u64.wrap (IntKind.u64.wrap (s.getD (a + i) 0).toNat * 2 ^ min (8 * (i : Int)).toNat 64))
theorem str_get (s : List UInt8) (a i : Nat) (h : a + i < s.length) : s[((a : Int) + (i : Int)).toNat]? = some (s.getD (a + i) 0) := by
  have e : ((a : Int) + (i : Int)).toNat = a + i := by omega
  rw [e, List.getD_eq_getElem?_getD, List.getElem?_eq_getElem h]; rfl
theorem rget_short (s : List UInt8) (a k : Int) (h : 1 ≤ k ∧ k ≤ 8) (h0 : 0 ≤ a) (hh : ¬ a + k ≤ s.length) : VCalls prog 205 [.pv (.str s), .int .i64 a, .int .i64 k] [] (Ret (.tup [.int .i64 0, .int .i64 5])) := by
  refine dd Tryz.func205 ?_
  have h1 : ¬ k < 1 := by omega
  have h2 : ¬ 8 < k := by omega
  have h3 : ¬ a < 0 := by omega
  by_cases h4 : (s.length : Int) < a
  · simp (config := { maxSteps := 2000000 }) (implicitDefEqProofs := false) (disch := first | omega | assumption | (simp only []; done) | fail) only [go_sem, Nat.reduceAdd, Nat.reduceBEq, Int.reduceAdd, Int.reduceBEq, Tryz.f205, h1, h2, h3, h4]
  · have h5 : (s.length : Int) - a < k := by omega
    simp (config := { maxSteps := 2000000 }) (implicitDefEqProofs := false) (disch := first | omega | assumption | (simp only []; done) | fail) only [go_sem, Nat.reduceAdd, Nat.reduceBEq, Int.reduceAdd, Int.reduceBEq, Tryz.f205, h1, h2, h3, h4, h5]
theorem rget_v (s : List UInt8) (hs : s.length ≤ 1000000000) (a k : Nat) (h : 1 ≤ k ∧ k ≤ 8) (hh : a + k ≤ s.length) : VCalls prog 205 [.pv (.str s), .int .i64 a, .int .i64 k] [] (Ret (.tup [.int .i64 (IntKind.i64.wrap (accX s a k)), .int .i64 0])) := by
  refine dd Tryz.func205 ?_
  have h1 : ¬ (k : Int) < 1 := by omega
  have h2 : ¬ 8 < (k : Int) := by omega
  have h3 : ¬ (a : Int) < 0 := by omega
  have h4 : ¬ (s.length : Int) < a := by omega
  have h5 : ¬ (s.length : Int) - a < k := by omega
  simp (config := { maxSteps := 2000000 }) (implicitDefEqProofs := false) (disch := first | omega | assumption | (simp only []; done) | fail) only [go_sem, Nat.reduceAdd, Nat.reduceBEq, Int.reduceAdd, Int.reduceBEq, Tryz.f205, h1, h2, h3, h4, h5]
  refine vloop (fun i : {i : Nat // i ≤ k} => ⟨51, 0, [(9, .int .i64 i.1), (2, .int .i64 k), (8, .int .u64 (accX s a i.1)), (0, .pv (.str s)), (1, .int .i64 a)], []⟩) (fun i => k - i.1) ⟨0, by omega⟩ (by refine ⟨rfl, rfl, by simp, ?_, ?_, .inl rfl⟩ <;> (repeat' apply And.intro) <;> first | rfl | trivial) ?_
  intro i
  obtain ⟨i, hi⟩ := i
  dsimp only
  simp (config := { maxSteps := 2000000 }) (implicitDefEqProofs := false) (disch := first | omega | assumption | (simp only []; done) | fail) only [go_sem, Nat.reduceBEq, Int.reduceBEq]
  refine vbr_split (fun hc => ?_) (fun hc => ?_) <;> simp only [decide_eq_true_eq, decide_eq_false_iff_not, Bool.or_eq_true, Bool.and_eq_true, Bool.or_eq_false_iff, Bool.and_eq_false_imp, Bool.not_eq_true', Bool.not_eq_false', beq_iff_eq, beq_eq_false_iff_ne, bne_iff_ne, bne_eq_false_iff_eq, ne_eq] at hc
  · have hg : s[((a : Int) + (i : Int)).toNat]? = some (s.getD (a + i) 0) := str_get s a i (by omega)
    have h0 : 0 ≤ (a : Int) + (i : Int) := by omega
    have hw8 : IntKind.u64.wrap (8 * (i : Int)) = 8 * (i : Int) := by simp [IntKind.wrap, IntKind.signed, IntKind.bits]; omega
    simp (config := { maxSteps := 2000000 }) (implicitDefEqProofs := false) (disch := first | omega | assumption | (simp only []; done) | fail) only [go_sem, Nat.reduceBEq, Int.reduceBEq, hg, hw8]
    exact ⟨⟨i + 1, by omega⟩, by show k - (i + 1) < k - i; omega, (by refine ⟨rfl, rfl, by simp, ?_, ?_, .inl rfl⟩ <;> (repeat' apply And.intro) <;> first | rfl | trivial)⟩
  · simp (config := { maxSteps := 2000000 }) (implicitDefEqProofs := false) (disch := first | omega | assumption | (simp only []; done) | fail) only [go_sem, ↓reduceIte, Nat.reduceLT, Nat.reduceBEq, Int.reduceLT, Int.reduceBEq]
    have hik : i = k := by omega
    rw [hik]
def u64N (n : Int) : Nat := (n % 18446744073709551616).toNat
theorem u64N_lt (n : Int) : u64N n < 2 ^ 64 := by unfold u64N; omega
theorem wrap64 (n : Int) : IntKind.u64.wrap n = (u64N n : Int) := by
  unfold u64N
  simp [IntKind.wrap, IntKind.signed, IntKind.bits]; omega
theorem min_bits (i : Nat) (h : i < 8) : min (8 * (i : Int)).toNat 64 = 8 * i := by
  have e : (8 * (i : Int)).toNat = 8 * i := by omega
  rw [e]; omega
theorem byteI_val (n : Int) (i : Nat) (h : i < 8) : (byteI n i).toNat = u64N n / 2 ^ (8 * i) % 256 := by
  have hx := byteI_eq n i
  unfold byteX at hx
  rw [wrap_u8_eq, wrap64, min_bits i h] at hx
  have e : ((u64N n : Int).fdiv (2 ^ (8 * i))) = ((u64N n / 2 ^ (8 * i) : Nat) : Int) := by
    have e2 : ((2 : Int) ^ (8 * i)) = ((2 ^ (8 * i) : Nat) : Int) := by rw [Int.natCast_pow]; rfl
    rw [e2, Int.fdiv_eq_ediv_of_nonneg _ (Int.natCast_nonneg _)]
    rfl
  rw [e] at hx
  generalize u64N n / 2 ^ (8 * i) = q at hx ⊢
  omega
theorem or_val (x y : Nat) (hx : x < 2 ^ 64) (hy : y < 2 ^ 64) : bits .or .u64 (x : Int) (y : Int) = ((x ||| y : Nat) : Int) := by
  have e : bits .or .u64 (x : Int) (y : Int) = IntKind.u64.wrap ((BitVec.ofInt 64 (x : Int) ||| BitVec.ofInt 64 (y : Int)).toNat : Int) := rfl
  rw [e, BitVec.toNat_or]
  have h1 : (BitVec.ofInt 64 (x : Int)).toNat = x := by simp; omega
  have h2 : (BitVec.ofInt 64 (y : Int)).toNat = y := by simp; omega
  rw [h1, h2, wrap64]
  have h3 : x ||| y < 2 ^ 64 := Nat.or_lt_two_pow hx hy
  unfold u64N; omega
theorem step_val (N i : Nat) : (N % 2 ^ (8 * i)) ||| (N / 2 ^ (8 * i) % 256 * 2 ^ (8 * i)) = N % 2 ^ (8 * (i + 1)) := by
  have h : N % 2 ^ (8 * i) < 2 ^ (8 * i) := Nat.mod_lt _ (Nat.two_pow_pos _)
  rw [Nat.or_comm, Nat.mul_comm, ← Nat.two_pow_add_eq_or_of_lt h]
  have e : 2 ^ (8 * (i + 1)) = 2 ^ (8 * i) * 256 := by rw [Nat.mul_add, Nat.pow_add]
  rw [e, Nat.mod_mul]; omega
theorem putL_get (s t : List UInt8) (n : Int) (k i : Nat) (hi : i < k) : (putL s n k ++ t).getD (s.length + i) 0 = byteI n i := by
  rw [List.getD_eq_getElem?_getD, putL, List.append_assoc, List.getElem?_append_right (by omega), List.getElem?_append_left (by simp; omega)]
  simp [hi]
theorem acc_val (s t : List UInt8) (n : Int) (k : Nat) (hk : k ≤ 8) : ∀ i, i ≤ k → accX (putL s n k ++ t) s.length i = ((u64N n % 2 ^ (8 * i) : Nat) : Int)
  | 0, _ => by simp [accX, Nat.mod_one]
  | i + 1, hi => by
    have ih := acc_val s t n k hk i (by omega)
    have h8 : i < 8 := by omega
    unfold accX
    rw [ih, putL_get s t n k i (by omega), byteI_val n i h8, min_bits i h8]
    have hb : u64N n / 2 ^ (8 * i) % 256 < 256 := Nat.mod_lt _ (by omega)
    have hw : IntKind.u64.wrap ((u64N n / 2 ^ (8 * i) % 256 : Nat) : Int) = ((u64N n / 2 ^ (8 * i) % 256 : Nat) : Int) := by rw [wrap64]; unfold u64N at *; omega
    rw [hw]
    have hp : (2 : Nat) ^ (8 * i) ≤ 2 ^ 56 := Nat.pow_le_pow_right (by omega) (by omega)
    have hlt : u64N n / 2 ^ (8 * i) % 256 * 2 ^ (8 * i) < 2 ^ 64 := by
      have : u64N n / 2 ^ (8 * i) % 256 * 2 ^ (8 * i) ≤ 255 * 2 ^ 56 := Nat.mul_le_mul (by omega) hp
      omega
    have e2 : ((u64N n / 2 ^ (8 * i) % 256 : Nat) : Int) * 2 ^ (8 * i) = ((u64N n / 2 ^ (8 * i) % 256 * 2 ^ (8 * i) : Nat) : Int) := by
      rw [Int.natCast_mul, Int.natCast_pow]; rfl
    rw [e2]
    have hw2 : IntKind.u64.wrap ((u64N n / 2 ^ (8 * i) % 256 * 2 ^ (8 * i) : Nat) : Int) = ((u64N n / 2 ^ (8 * i) % 256 * 2 ^ (8 * i) : Nat) : Int) := by
      generalize u64N n / 2 ^ (8 * i) % 256 * 2 ^ (8 * i) = z at hlt
      rw [wrap64]; unfold u64N; omega
    rw [hw2, or_val _ _ (Nat.lt_of_le_of_lt (Nat.mod_le _ _) (u64N_lt n)) hlt, step_val]
def rnd (r : Int) : Int := if bits .and .u32 r 1 = 1 then bits .xor .u32 (r.fdiv 2) 2197175160 else r.fdiv 2
def rndN : Nat → Int → Int
  | 0, r => r
  | n + 1, r => rnd (rndN n r)
def rem16 (i : Nat) : Int := rndN 4 i
def tabN (i : Nat) : List Int := (List.range 16).map fun j => if j < i then rem16 j else 0
def half (r : Int) : Int := bits .xor .u32 (r.fdiv (2 ^ min 4 32)) ((tabN 16).getD (bits .and .u32 r 15).toNat 0)
def byte1 (r : Int) (b : UInt8) : Int := half (half (bits .xor .u32 r (IntKind.u32.wrap b.toNat)))
def sumR (s : List UInt8) : Int := s.foldl byte1 4294967295
def sumX (s : List UInt8) : Int := bits .xor .u32 4294967295 (sumR s)
theorem sumR_succ (s : List UInt8) (i : Nat) (h : i < s.length) : sumR (s.take (i + 1)) = byte1 (sumR (s.take i)) (s.getD i 0) := by
  rw [sumR, List.take_succ_eq_append_getElem h, List.foldl_append]
  rw [List.getD_eq_getElem?_getD, List.getElem?_eq_getElem h]; rfl
theorem rnd_b (x : BitVec 32) : rnd (x.toNat : Int) = ((rb x).toNat : Int) := by
  have h1 : bits .and .u32 (x.toNat : Int) 1 = ((x &&& 1#32).toNat : Int) := and32 x 1#32
  have h2 : (x.toNat : Int).fdiv 2 = ((x >>> 1).toNat : Int) := shr32 x 1
  have h3 : (x &&& 1#32).toNat = x.toNat % 2 := by rw [BitVec.toNat_and]; exact Nat.and_one_is_mod _
  have h4 : x.getLsbD 0 = decide (x.toNat % 2 = 1) := by simp [BitVec.getLsbD, Nat.testBit_zero]
  unfold rnd rb
  rw [h1, h2, h3, h4]
  by_cases h : x.toNat % 2 = 1
  · rw [if_pos (by omega), if_pos (by simpa using h)]
    exact xor32 _ polyB
  · rw [if_neg (by omega), if_neg (by simpa using h)]; simp
theorem rndN_b (n : Nat) (x : BitVec 32) : rndN n (x.toNat : Int) = ((rbN n x).toNat : Int) := by
  induction n with
  | zero => rfl
  | succ n ih => rw [rndN, ih, rnd_b]; rfl
theorem half_b (x : BitVec 32) : half (x.toNat : Int) = ((rbN 4 x).toNat : Int) := by
  have h1 : bits .and .u32 (x.toNat : Int) 15 = ((x &&& 15#32).toNat : Int) := and32 x 15#32
  have h15 : (x &&& 15#32).toNat < 16 := by rw [BitVec.toNat_and]; exact Nat.lt_succ_of_le Nat.and_le_right
  have h2 : (tabN 16).getD (x &&& 15#32).toNat 0 = ((rbN 4 (x &&& 15#32)).toNat : Int) := by
    rw [← rndN_b]
    simp only [tabN, List.getD_eq_getElem?_getD, List.getElem?_map, List.getElem?_range h15, Option.map_some, Option.getD_some, rem16]
    rw [if_pos h15]
  have h3 : (x.toNat : Int).fdiv (2 ^ min 4 32) = ((x >>> 4).toNat : Int) := shr32 x 4
  have e1 : x = (x &&& 15#32) ^^^ ((x >>> 4) <<< 4) := by
    apply BitVec.eq_of_getLsbD_eq
    intro i hi
    rw [BitVec.getLsbD_xor, BitVec.getLsbD_and, BitVec.getLsbD_shiftLeft, BitVec.getLsbD_ushiftRight]
    by_cases h : i < 4
    · have h15 : (15#32).getLsbD i = true := by
        rcases i with _ | _ | _ | _ | i <;> first | rfl | omega
      simp [h15, h]
    · have h15 : (15#32).getLsbD i = false := by
        have : (15#32).getLsbD i = (15 : Nat).testBit i := by simp [BitVec.getLsbD]
        rw [this]; apply Nat.testBit_lt_two_pow
        exact Nat.lt_of_lt_of_le (show 15 < 2 ^ 4 by omega) (Nat.pow_le_pow_right (by omega) (by omega))
      rw [h15]; simp [h, hi, show 4 + (i - 4) = i by omega]
  have e2 : rbN 4 x = rbN 4 (x &&& 15#32) ^^^ (x >>> 4) := by
    have hs : rbN 4 ((x >>> 4) <<< 4) = x >>> 4 := shl_low _ _ (fun i hi => by rw [BitVec.getLsbD_ushiftRight]; exact BitVec.getLsbD_of_ge _ _ (by omega)) (by omega)
    conv => lhs; rw [e1]
    rw [rbN_xor, hs]
  unfold half
  rw [h1, h3, Int.toNat_natCast, h2, xor32, e2, BitVec.xor_comm]
theorem byte1_b (x : BitVec 32) (b : UInt8) : byte1 (x.toNat : Int) b = ((cb x b).toNat : Int) := by
  unfold byte1
  rw [b32_nat, xor32, half_b, half_b, ← rbN_add]; rfl
theorem fold_b : ∀ (s : List UInt8) (x : BitVec 32), s.foldl byte1 (x.toNat : Int) = ((s.foldl cb x).toNat : Int)
  | [], _ => rfl
  | b :: s, x => by rw [List.foldl_cons, byte1_b, fold_b s, List.foldl_cons]
theorem sumR_b (s : List UInt8) : sumR s = ((s.foldl cb 4294967295#32).toNat : Int) := fold_b s 4294967295#32
theorem sumX_b (s : List UInt8) : sumX s = ((4294967295#32 ^^^ s.foldl cb 4294967295#32).toNat : Int) := by
  rw [sumX, sumR_b]; exact xor32 4294967295#32 _
theorem sumX_in (s : List UInt8) : 0 ≤ sumX s ∧ sumX s < 4294967296 := by
  rw [sumX_b]
  have := (4294967295#32 ^^^ s.foldl cb 4294967295#32).isLt
  omega
def rstep (r : Int) (b : UInt8) : Int := rndN 8 (bits .xor .u32 r (IntKind.u32.wrap b.toNat))
theorem rstep_eq (x : BitVec 32) (b : UInt8) : rstep (x.toNat : Int) b = byte1 (x.toNat : Int) b := by
  rw [byte1_b, rstep, b32_nat, xor32, rndN_b]; rfl
theorem sumR_succ2 (s : List UInt8) (i : Nat) (h : i < s.length) : sumR (s.take (i + 1)) = rstep (sumR (s.take i)) (s.getD i 0) := by
  rw [sumR_succ s i h, sumR_b (s.take i), rstep_eq]
theorem rsum_v (s : List UInt8) (hs : s.length ≤ 100000000) : VCalls prog 144 [.pv (.str s)] [] (Ret (.int .u32 (sumX s))) := by
  refine dd Tryz.func144 ?_
  simp (config := { maxSteps := 2000000 }) (implicitDefEqProofs := false) (disch := first | omega | assumption | (simp only []; done) | fail) only [go_sem, Tryz.f144]
  refine vloop (fun i : {i : Nat // i ≤ s.length} => ⟨32, 0, [(4, .int .i64 i.1), (3, .int .u32 (sumR (s.take i.1))), (0, .pv (.str s))], []⟩) (fun i => s.length - i.1) ⟨0, by omega⟩ (by refine ⟨rfl, rfl, by simp, ?_, ?_, .inl rfl⟩ <;> (repeat' apply And.intro) <;> first | rfl | trivial) ?_
  intro i
  obtain ⟨i, hi⟩ := i
  dsimp only
  simp (config := { maxSteps := 2000000 }) (implicitDefEqProofs := false) (disch := first | omega | assumption | (simp only []; done) | fail) only [go_sem, Nat.reduceBEq, Int.reduceBEq]
  refine vbr_split (fun hc => ?_) (fun hc => ?_) <;> simp only [decide_eq_true_eq, decide_eq_false_iff_not, Bool.or_eq_true, Bool.and_eq_true, Bool.or_eq_false_iff, Bool.and_eq_false_imp, Bool.not_eq_true', Bool.not_eq_false', beq_iff_eq, beq_eq_false_iff_ne, bne_iff_ne, bne_eq_false_iff_eq, ne_eq] at hc
  · have hlt : i < s.length := by omega
    have hg : s[i]? = some (s.getD i 0) := by rw [List.getD_eq_getElem?_getD, List.getElem?_eq_getElem hlt]; rfl
    simp (config := { maxSteps := 2000000 }) (implicitDefEqProofs := false) (disch := first | omega | assumption | (simp only []; done) | fail) only [go_sem, Nat.reduceBEq, Int.reduceBEq, hg]
    refine vloop (fun j : {j : Nat // j ≤ 8} => ⟨32, 0, [(5, .int .i64 j.1), (4, .int .i64 i), (3, .int .u32 (rndN j.1 (bits .xor .u32 (sumR (s.take i)) (IntKind.u32.wrap (s.getD i 0).toNat)))), (0, .pv (.str s))], []⟩) (fun j => 8 - j.1) ⟨0, by omega⟩ (by refine ⟨rfl, rfl, by simp, ?_, ?_, .inl rfl⟩ <;> (repeat' apply And.intro) <;> first | rfl | trivial) ?_
    intro j
    obtain ⟨j, hj⟩ := j
    dsimp only
    simp (config := { maxSteps := 2000000 }) (implicitDefEqProofs := false) (disch := first | omega | assumption | (simp only []; done) | fail) only [go_sem]
    refine vbr_split (fun hcj => ?_) (fun hcj => ?_) <;> simp only [decide_eq_true_eq, decide_eq_false_iff_not, Bool.or_eq_true, Bool.and_eq_true, Bool.or_eq_false_iff, Bool.and_eq_false_imp, Bool.not_eq_true', Bool.not_eq_false', beq_iff_eq, beq_eq_false_iff_ne, bne_iff_ne, bne_eq_false_iff_eq, ne_eq] at hcj
    · simp (config := { maxSteps := 2000000 }) (implicitDefEqProofs := false) (disch := first | omega | assumption | (simp only []; done) | fail) only [go_sem, Nat.reduceBEq, Int.reduceBEq]
      refine vbr_split (fun hb => ?_) (fun hb => ?_) <;> simp only [decide_eq_true_eq, decide_eq_false_iff_not, Bool.or_eq_true, Bool.and_eq_true, Bool.or_eq_false_iff, Bool.and_eq_false_imp, Bool.not_eq_true', Bool.not_eq_false', beq_iff_eq, beq_eq_false_iff_ne, bne_iff_ne, bne_eq_false_iff_eq, ne_eq] at hb
      · simp (config := { maxSteps := 2000000 }) (implicitDefEqProofs := false) (disch := first | omega | assumption | (simp only []; done) | fail) only [go_sem, Nat.reduceBEq, Int.reduceToNat, Int.reduceBEq]
        refine ⟨⟨j + 1, by omega⟩, by show 8 - (j + 1) < 8 - j; omega, ?_⟩
        have e : rndN (j + 1) (bits .xor .u32 (sumR (s.take i)) (IntKind.u32.wrap (s.getD i 0).toNat)) = bits .xor .u32 ((rndN j (bits .xor .u32 (sumR (s.take i)) (IntKind.u32.wrap (s.getD i 0).toNat))).fdiv 2) 2197175160 := by rw [rndN, rnd, if_pos hb]
        rw [e]
        exact (by refine ⟨rfl, rfl, by simp, ?_, ?_, .inl rfl⟩ <;> (repeat' apply And.intro) <;> first | rfl | trivial)
      · simp (config := { maxSteps := 2000000 }) (implicitDefEqProofs := false) (disch := first | omega | assumption | (simp only []; done) | fail) only [go_sem, Nat.reduceBEq, Int.reduceToNat, Int.reduceBEq]
        refine ⟨⟨j + 1, by omega⟩, by show 8 - (j + 1) < 8 - j; omega, ?_⟩
        have e : rndN (j + 1) (bits .xor .u32 (sumR (s.take i)) (IntKind.u32.wrap (s.getD i 0).toNat)) = (rndN j (bits .xor .u32 (sumR (s.take i)) (IntKind.u32.wrap (s.getD i 0).toNat))).fdiv 2 := by rw [rndN, rnd, if_neg hb]
        rw [e]
        exact (by refine ⟨rfl, rfl, by simp, ?_, ?_, .inl rfl⟩ <;> (repeat' apply And.intro) <;> first | rfl | trivial)
    · have hj8 : j = 8 := by omega
      subst hj8
      simp (config := { maxSteps := 2000000 }) (implicitDefEqProofs := false) (disch := first | omega | assumption | (simp only []; done) | fail) only [go_sem, ↓reduceIte, Nat.reduceBEq, Int.reduceBEq]
      refine ⟨⟨i + 1, hlt⟩, by show s.length - (i + 1) < s.length - i; omega, ?_⟩
      have e : sumR (s.take (i + 1)) = rndN 8 (bits .xor .u32 (sumR (s.take i)) (IntKind.u32.wrap (s.getD i 0).toNat)) := sumR_succ2 s i hlt
      rw [e]
      exact (by refine ⟨rfl, rfl, by simp, ?_, ?_, .inl rfl⟩ <;> (repeat' apply And.intro) <;> first | rfl | trivial)
  · simp (config := { maxSteps := 2000000 }) (implicitDefEqProofs := false) (disch := first | omega | assumption | (simp only []; done) | fail) only [go_sem, ↓reduceIte, Nat.reduceLT, Nat.reduceBEq, Int.reduceLT, Int.reduceBEq]
    rw [List.take_of_length_le (by omega)]
    rfl
def frm (s : List UInt8) : List UInt8 := if s.length ≤ 8392 then putL (putL [] s.length 4 ++ s) (sumX (putL [] s.length 4 ++ s)) 4 else []
theorem rframe_v (s : List UInt8) (hs : s.length ≤ 90000000) : VCalls prog 202 [.pv (.str s)] [] (Ret (.pv (.str (frm s)))) := by
  refine dd Tryz.func202 ?_
  by_cases h : s.length ≤ 8392
  · have h1 : ¬ 8392 < (s.length : Int) := by omega
    have hl := putL_len [] s.length 4
    simp only [List.length_nil, Nat.zero_add] at hl
    have hl2 : (putL [] s.length 4 ++ s).length ≤ 10000 := by rw [List.length_append, hl]; omega
    simp (config := { maxSteps := 2000000 }) (implicitDefEqProofs := false) (disch := first | omega | assumption | (simp only []; done) | fail) only [go_sem, Nat.reduceBEq, Int.reduceBEq, Tryz.f202, h1]
    refine vc_pure (rput_v [] (by simp) s.length 4 (by omega) (by omega)) rfl ?_
    simp (config := { maxSteps := 2000000 }) (implicitDefEqProofs := false) (disch := first | omega | assumption | (simp only []; done) | fail) only [go_sem, Nat.reduceBEq, Int.reduceBEq]
    refine vc_pure (rsum_v _ (by omega)) rfl ?_
    have hx := sumX_in (putL [] s.length 4 ++ s)
    simp (config := { maxSteps := 2000000 }) (implicitDefEqProofs := false) (disch := first | omega | assumption | (simp only []; done) | fail) only [go_sem, Nat.reduceLT, Nat.reduceBEq, Int.reduceLT, Int.reduceBEq]
    refine vc_pure (rput_v (putL [] s.length 4 ++ s) (by omega) _ 4 (by omega) (by omega)) rfl ?_
    simp (config := { maxSteps := 2000000 }) (implicitDefEqProofs := false) (disch := first | omega | assumption | (simp only []; done) | fail) only [go_sem, ↓reduceIte, frm, h]
  · have h1 : 8392 < (s.length : Int) := by omega
    simp (config := { maxSteps := 2000000 }) (implicitDefEqProofs := false) (disch := first | omega | assumption | (simp only []; done) | fail) only [go_sem, ↓reduceIte, Nat.reduceBEq, Int.reduceBEq, Tryz.f202, h1, frm, h]
def leN (s : List UInt8) (a : Nat) : Nat → Nat
  | 0 => 0
  | i + 1 => leN s a i + (s.getD (a + i) 0).toNat * 2 ^ (8 * i)
theorem leN_lt (s : List UInt8) (a : Nat) : ∀ i, leN s a i < 2 ^ (8 * i)
  | 0 => by simp [leN]
  | i + 1 => by
    have ih := leN_lt s a i
    have hb := (s.getD (a + i) 0).toNat_lt
    rw [leN, Nat.mul_add, Nat.pow_add]
    have : (s.getD (a + i) 0).toNat * 2 ^ (8 * i) ≤ 255 * 2 ^ (8 * i) := Nat.mul_le_mul_right _ (by omega)
    omega
theorem accX_leN (s : List UInt8) (a : Nat) : ∀ i, i ≤ 8 → accX s a i = (leN s a i : Int)
  | 0, _ => rfl
  | i + 1, hi => by
    have ih := accX_leN s a i (by omega)
    have hlt := leN_lt s a i
    have hb := (s.getD (a + i) 0).toNat_lt
    unfold accX
    rw [ih, min_bits i (by omega)]
    have hw : IntKind.u64.wrap ((s.getD (a + i) 0).toNat : Int) = ((s.getD (a + i) 0).toNat : Int) := by rw [wrap64]; unfold u64N; omega
    have hp : (2 : Nat) ^ (8 * i) ≤ 2 ^ 56 := Nat.pow_le_pow_right (by omega) (by omega)
    have hm : (s.getD (a + i) 0).toNat * 2 ^ (8 * i) ≤ 255 * 2 ^ 56 := Nat.mul_le_mul (by omega) hp
    have e2 : ((s.getD (a + i) 0).toNat : Int) * 2 ^ (8 * i) = (((s.getD (a + i) 0).toNat * 2 ^ (8 * i) : Nat) : Int) := by
      rw [Int.natCast_mul, Int.natCast_pow]; rfl
    rw [hw, e2]
    have hw2 : IntKind.u64.wrap (((s.getD (a + i) 0).toNat * 2 ^ (8 * i) : Nat) : Int) = (((s.getD (a + i) 0).toNat * 2 ^ (8 * i) : Nat) : Int) := by
      generalize (s.getD (a + i) 0).toNat * 2 ^ (8 * i) = z at hm
      rw [wrap64]; unfold u64N; omega
    have h64 : leN s a i < 2 ^ 64 := Nat.lt_of_lt_of_le hlt (Nat.pow_le_pow_right (by omega) (by omega))
    rw [hw2, or_val _ _ h64 (by omega), leN]
    congr 1
    rw [Nat.or_comm, Nat.mul_comm _ (2 ^ (8 * i)), ← Nat.two_pow_add_eq_or_of_lt hlt, Nat.add_comm]
def n4 (s : List UInt8) (a : Nat) : Nat := leN s a 4
theorem n4_lt (s : List UInt8) (a : Nat) : n4 s a < 4294967296 := leN_lt s a 4
theorem wrap_n4 (s : List UInt8) (a : Nat) : IntKind.i64.wrap (accX s a 4) = (n4 s a : Int) := by
  rw [accX_leN s a 4 (by omega)]
  have := n4_lt s a
  unfold n4 at this ⊢
  rw [IntKind.wrap_i64]; omega
theorem rget4 (s : List UInt8) (hs : s.length ≤ 100000000) (a : Nat) (hh : a + 4 ≤ s.length) : VCalls prog 205 [.pv (.str s), .int .i64 a, .int .i64 4] [] (Ret (.tup [.int .i64 (n4 s a), .int .i64 0])) := by
  have h := rget_v s (by omega) a 4 (by omega) hh
  rwa [wrap_n4] at h
def unf (s : List UInt8) (a : Int) : List UInt8 × Int × Int :=
  if a < 0 ∨ (s.length : Int) < a then ([], 0, 1)
  else if ¬ a.toNat + 4 ≤ s.length then ([], 0, 5)
  else if 8392 < n4 s a.toNat then ([], 0, 2)
  else if ¬ a.toNat + 4 + n4 s a.toNat + 4 ≤ s.length then ([], 0, 5)
  else if ¬ (n4 s (a.toNat + 4 + n4 s a.toNat) : Int) = sumX ((s.take (a.toNat + 4 + n4 s a.toNat)).drop a.toNat) then ([], 0, 3)
  else ((s.take (a.toNat + 4 + n4 s a.toNat)).drop (a.toNat + 4), (a.toNat + 4 + n4 s a.toNat + 4 : Nat), 0)
theorem unf_le (s : List UInt8) (a : Int) : (unf s a).1.length ≤ s.length ∧ ((unf s a).2.2 = 0 → 0 ≤ a ∧ 0 ≤ (unf s a).2.1 ∧ (unf s a).2.1 ≤ s.length) := by
  unfold unf
  split
  · exact ⟨Nat.zero_le _, fun h => by simp at h⟩
  rename_i h1
  split
  · exact ⟨Nat.zero_le _, fun h => by simp at h⟩
  split
  · exact ⟨Nat.zero_le _, fun h => by simp at h⟩
  split
  · exact ⟨Nat.zero_le _, fun h => by simp at h⟩
  rename_i h2
  split
  · exact ⟨Nat.zero_le _, fun h => by simp at h⟩
  · refine ⟨by dsimp only; rw [List.length_drop, List.length_take]; omega, fun _ => ⟨by omega, by dsimp only; omega, by dsimp only; omega⟩⟩
def unfR (s : List UInt8) (a : Int) : DV := .tup [.pv (.str (unf s a).1), .int .i64 (unf s a).2.1, .int .i64 (unf s a).2.2]
theorem runframe_v (s : List UInt8) (hs : s.length ≤ 100000000) (a : Int) : VCalls prog 204 [.pv (.str s), .int .i64 a] [] (Ret (unfR s a)) := by
  refine dd Tryz.func204 ?_
  unfold unfR unf
  by_cases h1 : a < 0
  · rw [if_pos (.inl h1)]
    (unfold Tryz.f204; refine rn @h1 ?_; try with_reducible exact ⟨⟩)
  · by_cases h2 : (s.length : Int) < a
    · rw [if_pos (.inr h2)]
      (unfold Tryz.f204; refine rn (And.intro @h1 @h2) ?_; try with_reducible exact ⟨⟩)
    · rw [if_neg (by omega)]
      obtain ⟨k, rfl⟩ : ∃ k : Nat, a = k := ⟨a.toNat, by omega⟩
      rw [Int.toNat_natCast]
      by_cases h3 : k + 4 ≤ s.length
      · rw [if_neg (by omega)]
        have hn := n4_lt s k
        (unfold Tryz.f204; refine rn (And.intro @h1 @h2) ?_)
        refine vc_pure (rget4 s (by omega) k h3) rfl ?_
        by_cases h4 : 8392 < n4 s k
        · rw [if_pos h4]
          have h4' : 8392 < (n4 s k : Int) := by omega
          (refine rn @h4' ?_; try with_reducible exact ⟨⟩)
        · rw [if_neg h4]
          have h4' : ¬ 8392 < (n4 s k : Int) := by omega
          have hw : IntKind.u32.wrap (n4 s (k + 4 + n4 s k) : Int) = (n4 s (k + 4 + n4 s k) : Int) := by
            have := n4_lt s (k + 4 + n4 s k)
            simp [IntKind.wrap, IntKind.signed, IntKind.bits]; omega
          by_cases h5 : k + 4 + n4 s k + 4 ≤ s.length
          · rw [if_neg (by omega)]
            have hg := rget4 s (by omega) (k + 4 + n4 s k) h5
            have e : (((k + 4 + n4 s k : Nat)) : Int) = (k : Int) + 4 + (n4 s k : Int) := by omega
            rw [e] at hg
            have h5' : ¬ (s.length : Int) - (k : Int) < (n4 s k : Int) + 8 := by omega
            refine rn (And.intro @h4' @h5') ?_
            refine vc_pure hg rfl ?_
            have ht : ((k : Int) + 4 + (n4 s k : Int)).toNat = k + 4 + n4 s k := by omega
            have q1 : (0 : Int) ≤ (k : Int) + 4 + (n4 s k : Int) := by omega
            have q2 : k ≤ k + 4 + n4 s k := by omega
            have q3 : k + 4 + n4 s k ≤ s.length := by omega
            have hx := sumX_in ((s.take (k + 4 + n4 s k)).drop k)
            refine rn (And.intro @ht (And.intro @q1 (And.intro @q2 (And.intro @q3 @hw)))) ?_
            refine vc_pure (rsum_v _ (by rw [List.length_drop, List.length_take]; omega)) rfl ?_
            by_cases h6 : (n4 s (k + 4 + n4 s k) : Int) = sumX ((s.take (k + 4 + n4 s k)).drop k)
            · rw [if_neg (by omega)]
              have q4 : ((k : Int) + 4).toNat = k + 4 := by omega
              have q5 : k + 4 ≤ k + 4 + n4 s k := by omega
              have q6 : (0 : Int) ≤ (k : Int) + 4 := by omega
              have e8 : (((k + 4 + n4 s k + 4 : Nat)) : Int) = (k : Int) + 8 + (n4 s k : Int) := by omega
              refine rn (And.intro @h6 (And.intro @ht (And.intro @q1 (And.intro @q2 (And.intro @q3 (And.intro @q4 (And.intro @q5 @q6))))))) ?_
              rw [e8]
            · rw [if_pos h6]
              (refine rn @h6 ?_; try with_reducible exact ⟨⟩)
          · rw [if_pos (by omega)]
            have h5' : (s.length : Int) - (k : Int) < (n4 s k : Int) + 8 := by omega
            (refine rn (And.intro @h4' @h5') ?_; try with_reducible exact ⟨⟩)
      · rw [if_pos h3]
        (unfold Tryz.f204; refine rn (And.intro @h1 @h2) ?_)
        refine vc_pure (rget_short s k 4 (by omega) (by omega) (by omega)) rfl ?_
        (refine rn trivial ?_; try with_reducible exact ⟨⟩)
section
structure Ce where
  set : Bool
  data : List UInt8
structure Ch where
  pg : Int
  sl : Int
  b : Ce
  a : Ce
structure E where
  lsn : Int
  kind : Int
  tx : Int
  ptx : Int
  ppg : Int
  ref : Int
  c : Ch
  blob : List UInt8
def Ce.d (x : Ce) : List DV := [.bool x.set, .pv (.str x.data)]
def Ch.d (x : Ch) : List DV := [.int .i64 x.pg, .int .i64 x.sl, .bool x.b.set, .pv (.str x.b.data), .bool x.a.set, .pv (.str x.a.data)]
def E.d (x : E) : List DV := [.int .i64 x.lsn, .int .i64 x.kind, .int .i64 x.tx, .int .i64 x.ptx, .int .i64 x.ppg, .int .i64 x.ref, .int .i64 x.c.pg, .int .i64 x.c.sl, .bool x.c.b.set, .pv (.str x.c.b.data), .bool x.c.a.set, .pv (.str x.c.a.data), .pv (.str x.blob)]
def Ce0 : Ce := ⟨false, []⟩
def Ch0 : Ch := ⟨0, 0, Ce0, Ce0⟩
def E0 : E := ⟨0, 0, 0, 0, 0, 0, Ch0, []⟩
def Ce.okB (x : Ce) : Bool := decide (x.data.length ≤ 12) && (x.set || x.data == [])
def Ch.okB (x : Ch) : Bool := decide (0 ≤ x.pg) && decide (x.pg < 64) && decide (0 ≤ x.sl) && decide (x.sl < 16) && x.b.okB && x.a.okB
def Ce.no (x : Ce) : Bool := !x.set && x.data == []
def Ch.no (x : Ch) : Bool := x.pg == 0 && x.sl == 0 && x.b.no && x.a.no
def bef (n l : Int) : Bool := decide (0 ≤ n) && decide (n < l)
attribute [local go_sem] Ce.d Ch.d E.d allEq leafEq
theorem cellok_v (x : Ce) : VCalls prog 75 [.agg x.d] [] (Ret (.bool x.okB)) := by
  refine dd Tryz.func75 ?_
  (unfold Tryz.f75; refine rn trivial ?_)
  refine rn F ?_
  repeat' (first
    | with_reducible exact ⟨⟩
    | (refine sG F ?_ ?_ <;> intro hZ))
  all_goals (first | rfl | (congr 3; rw [Bool.eq_iff_iff]; (try simp only [Ce.okB, decide_eq_true_eq, Bool.and_eq_true, Bool.or_eq_true, Bool.not_eq_true', Bool.not_eq_false', decide_eq_false_iff_not, beq_iff_eq, bne_iff_ne, ne_eq, Bool.false_eq_true, Bool.true_eq_false, iff_true, true_iff, iff_false, false_iff]); first | done | omega | grind))
theorem rcellok_v (x : Ce) : VCalls prog 63 [.agg x.d] [] (Ret (.bool x.okB)) := by
  refine dd Tryz.func63 ?_
  (unfold Tryz.f63; refine rn trivial ?_)
  refine rn F ?_
  repeat' (first
    | with_reducible exact ⟨⟩
    | (refine sG F ?_ ?_ <;> intro hZ))
  all_goals (first | rfl | (congr 3; rw [Bool.eq_iff_iff]; (try simp only [Ce.okB, decide_eq_true_eq, Bool.and_eq_true, Bool.or_eq_true, Bool.not_eq_true', Bool.not_eq_false', decide_eq_false_iff_not, beq_iff_eq, bne_iff_ne, ne_eq, Bool.false_eq_true, Bool.true_eq_false, iff_true, true_iff, iff_false, false_iff]); first | done | omega | grind))
theorem none_v (x : Ch) : VCalls prog 66 [.agg x.d] [] (Ret (.bool x.no)) := by
  refine dd Tryz.func66 ?_
  (unfold Tryz.f66; refine rn trivial ?_)
  simp only [Ch.no, Ce.no, Bool.and_assoc]
theorem before_v (n : Int) (x : E) : VCalls prog 58 [.int .i64 n, .agg x.d] [] (Ret (.bool (bef n x.lsn))) := by
  refine dd Tryz.func58 ?_
  (unfold Tryz.f58; refine rn trivial ?_)
  refine rn F ?_
  repeat' (first
    | with_reducible exact ⟨⟩
    | (refine sG F ?_ ?_ <;> intro hZ))
  all_goals (first | rfl | (congr 3; rw [Bool.eq_iff_iff]; (try simp only [bef, decide_eq_true_eq, Bool.and_eq_true, Bool.or_eq_true, Bool.not_eq_true', Bool.not_eq_false', decide_eq_false_iff_not, beq_iff_eq, bne_iff_ne, ne_eq, Bool.false_eq_true, Bool.true_eq_false, iff_true, true_iff, iff_false, false_iff]); first | done | omega | grind))
theorem rbefore_v (n l : Int) : VCalls prog 40 [.int .i64 n, .int .i64 l] [] (Ret (.bool (bef n l))) := by
  refine dd Tryz.func40 ?_
  (unfold Tryz.f40; refine rn trivial ?_)
  refine rn F ?_
  repeat' (first
    | with_reducible exact ⟨⟩
    | (refine sG F ?_ ?_ <;> intro hZ))
  all_goals (first | rfl | (congr 3; rw [Bool.eq_iff_iff]; (try simp only [bef, decide_eq_true_eq, Bool.and_eq_true, Bool.or_eq_true, Bool.not_eq_true', Bool.not_eq_false', decide_eq_false_iff_not, beq_iff_eq, bne_iff_ne, ne_eq, Bool.false_eq_true, Bool.true_eq_false, iff_true, true_iff, iff_false, false_iff]); first | done | omega | grind))
theorem paged_v (n : Int) : VCalls prog 74 [.int .i64 n] [] (Ret (.bool (decide (0 ≤ n) && decide (n < 64)))) := by
  refine dd Tryz.func74 ?_
  (unfold Tryz.f74; refine rn trivial ?_)
  refine rn F ?_
  repeat' (first
    | with_reducible exact ⟨⟩
    | (refine sG F ?_ ?_ <;> intro hZ))
  all_goals (first | rfl | (congr 3; rw [Bool.eq_iff_iff]; (try simp only [decide_eq_true_eq, Bool.and_eq_true, Bool.or_eq_true, Bool.not_eq_true', Bool.not_eq_false', decide_eq_false_iff_not, beq_iff_eq, bne_iff_ne, ne_eq, Bool.false_eq_true, Bool.true_eq_false, iff_true, true_iff, iff_false, false_iff]); first | done | omega | grind))
theorem anyref_v (x : E) : VCalls prog 65 [.agg x.d] [] (Ret (.bool true)) := by
  refine dd Tryz.func65 ?_
  (unfold Tryz.f65; refine rn trivial ?_; try with_reducible exact ⟨⟩)
theorem undoref_v (x : E) : VCalls prog 68 [.agg x.d] [] (Ret (.bool (decide (1 ≤ x.ref) && decide (x.ref ≤ x.ptx)))) := by
  refine dd Tryz.func68 ?_
  (unfold Tryz.f68; refine rn trivial ?_)
  refine rn F ?_
  repeat' (first
    | with_reducible exact ⟨⟩
    | (refine sG F ?_ ?_ <;> intro hZ))
  all_goals (first | rfl | (congr 3; rw [Bool.eq_iff_iff]; (try simp only [decide_eq_true_eq, Bool.and_eq_true, Bool.or_eq_true, Bool.not_eq_true', Bool.not_eq_false', decide_eq_false_iff_not, beq_iff_eq, bne_iff_ne, ne_eq, Bool.false_eq_true, Bool.true_eq_false, iff_true, true_iff, iff_false, false_iff]); first | done | omega | grind))
def Ch.ix (x : Ch) : Bool := x.sl == 0 && x.b.no && x.a.no && decide (0 ≤ x.pg) && decide (x.pg < 64)
theorem index_v (x : Ch) : VCalls prog 69 [.agg x.d] [] (Ret (.bool x.ix)) := by
  refine dd Tryz.func69 ?_
  (unfold Tryz.f69; refine rn trivial ?_)
  refine rn F ?_
  repeat' (first
    | with_reducible exact ⟨⟩
    | (refine sG F ?_ ?_ <;> intro hZ))
  all_goals (first | rfl | (congr 3; rw [Bool.eq_iff_iff]; (try simp only [Ch.ix, Ce.no, decide_eq_true_eq, Bool.and_eq_true, Bool.or_eq_true, Bool.not_eq_true', Bool.not_eq_false', decide_eq_false_iff_not, beq_iff_eq, bne_iff_ne, ne_eq, Bool.false_eq_true, Bool.true_eq_false, iff_true, true_iff, iff_false, false_iff]); first | done | omega | grind))
theorem rchanges_v (x : E) : VCalls prog 155 [.agg x.d] [] (Ret (.bool (x.kind == 1 || x.kind == 2))) := by
  refine dd Tryz.func155 ?_
  (unfold Tryz.f155; refine rn trivial ?_)
  refine rn F ?_
  repeat' (first
    | with_reducible exact ⟨⟩
    | (refine sG F ?_ ?_ <;> intro hZ))
  all_goals (first | rfl | (congr 3; rw [Bool.eq_iff_iff]; (try simp only [decide_eq_true_eq, Bool.and_eq_true, Bool.or_eq_true, Bool.not_eq_true', Bool.not_eq_false', decide_eq_false_iff_not, beq_iff_eq, bne_iff_ne, ne_eq, Bool.false_eq_true, Bool.true_eq_false, iff_true, true_iff, iff_false, false_iff]); first | done | omega | grind))
theorem chok_v (x : Ch) : VCalls prog 67 [.agg x.d] [] (Ret (.bool x.okB)) := by
  refine dd Tryz.func67 ?_
  (unfold Tryz.f67; refine rn trivial ?_)
  refine rn F ?_
  repeat' (first
    | with_reducible exact ⟨⟩
    | (refine sG F ?_ ?_ <;> intro hZ)
    | refine vp F (paged_v x.pg) ?_
    | refine vp F (cellok_v x.b) ?_
    | refine vp F (cellok_v x.a) ?_)
  all_goals (first | rfl | (congr 3; rw [Bool.eq_iff_iff]; (try simp only [Ch.okB, decide_eq_true_eq, Bool.and_eq_true, Bool.or_eq_true, Bool.not_eq_true', Bool.not_eq_false', decide_eq_false_iff_not, beq_iff_eq, bne_iff_ne, ne_eq, Bool.false_eq_true, Bool.true_eq_false, iff_true, true_iff, iff_false, false_iff]); first | done | omega | grind))
theorem rchok_v (x : Ch) : VCalls prog 55 [.agg x.d] [] (Ret (.bool x.okB)) := by
  refine dd Tryz.func55 ?_
  (unfold Tryz.f55; refine rn trivial ?_)
  refine rn F ?_
  repeat' (first
    | with_reducible exact ⟨⟩
    | (refine sG F ?_ ?_ <;> intro hZ)
    | refine vp F (rcellok_v x.b) ?_
    | refine vp F (rcellok_v x.a) ?_)
  all_goals (first | rfl | (congr 3; rw [Bool.eq_iff_iff]; (try simp only [Ch.okB, decide_eq_true_eq, Bool.and_eq_true, Bool.or_eq_true, Bool.not_eq_true', Bool.not_eq_false', decide_eq_false_iff_not, beq_iff_eq, bne_iff_ne, ne_eq, Bool.false_eq_true, Bool.true_eq_false, iff_true, true_iff, iff_false, false_iff]); first | done | omega | grind))
def rl (tx ch pg rf bl : Bool) (f g : Nat) : List DV := [.bool tx, .bool ch, .bool pg, .bool rf, .bool bl, .fn (.func f) [] [], .fn (.func g) [] []]
def rl0 : List DV := [.bool false, .bool false, .bool false, .bool false, .bool false, .pv (.lit .nilFunc), .pv (.lit .nilFunc)]
def rlEnd : List DV := rl true true false false false 65 66
def rlNote : List DV := rl false false false false true 65 66
def rlAll : List DV := rl0 ++ rl true false true false false 65 67 ++ rl true true true true false 68 67 ++ rlEnd ++ rlEnd ++ rlEnd ++ rlNote ++ rl false false false true false 65 69 ++ rlNote
theorem rules_v : VCalls prog 59 [] [] (Ret (.agg rlAll)) := by
  refine dd Tryz.func59 ?_
  (unfold Tryz.f59; refine rn trivial ?_)
  rfl
end
section
attribute [local go_sem] rlAll rl0 rl rlEnd rlNote
def txB (n : Int) : Bool := decide (1 ≤ n) && decide (n ≤ 1073741824)
def E.kindB (e : E) : Bool :=
  if e.kind = 1 then txB e.tx && e.ref == 0 && e.blob == [] && e.c.okB
  else if e.kind = 2 then txB e.tx && e.ptx != 0 && e.blob == [] && decide (1 ≤ e.ref) && decide (e.ref ≤ e.ptx) && e.c.okB
  else if e.kind = 3 ∨ e.kind = 4 ∨ e.kind = 5 then txB e.tx && e.ptx != 0 && e.ppg == 0 && e.ref == 0 && e.blob == [] && e.c.no
  else if e.kind = 6 ∨ e.kind = 8 then e.tx == 0 && e.ptx == 0 && e.ppg == 0 && e.ref == 0 && decide (e.blob.length ≤ 8192) && e.c.no
  else if e.kind = 7 then e.tx == 0 && e.ptx == 0 && e.ppg == 0 && e.blob == [] && e.c.ix
  else false
def E.okB (e : E) : Bool := decide (1 ≤ e.lsn) && decide (e.lsn ≤ 1099511627776) && bef e.ptx e.lsn && bef e.ppg e.lsn && bef e.ref e.lsn && e.kindB
theorem kindB_eq (lsn kind tx ptx ppg ref : Int) (c : Ch) (blob : List UInt8) : (⟨lsn, kind, tx, ptx, ppg, ref, c, blob⟩ : E).kindB =
  if kind = 1 then txB tx && ref == 0 && blob == [] && c.okB
  else if kind = 2 then txB tx && ptx != 0 && blob == [] && decide (1 ≤ ref) && decide (ref ≤ ptx) && c.okB
  else if kind = 3 ∨ kind = 4 ∨ kind = 5 then txB tx && ptx != 0 && ppg == 0 && ref == 0 && blob == [] && c.no
  else if kind = 6 ∨ kind = 8 then tx == 0 && ptx == 0 && ppg == 0 && ref == 0 && decide (blob.length ≤ 8192) && c.no
  else if kind = 7 then tx == 0 && ptx == 0 && ppg == 0 && blob == [] && c.ix
  else false := rfl
theorem kindB_no {e : E} (h : e.kind < 1 ∨ 8 < e.kind) : e.kindB = false := by
  unfold E.kindB; rw [if_neg (by omega), if_neg (by omega), if_neg (by omega), if_neg (by omega), if_neg (by omega)]
theorem kind_cases (k : Int) : (k < 1 ∨ 8 < k) ∨ k = 1 ∨ k = 2 ∨ k = 3 ∨ k = 4 ∨ k = 5 ∨ k = 6 ∨ k = 7 ∨ k = 8 := by omega
theorem valid_v (e : E) : VCalls prog 51 [.agg e.d] [] (Ret (.bool e.okB)) := by
  refine dd Tryz.func51 ?_
  obtain ⟨lsn, kind, tx, ptx, ppg, ref, c, blob⟩ := e
  have r1 := before_v ptx ⟨lsn, kind, tx, ptx, ppg, ref, c, blob⟩
  have r2 := before_v ppg ⟨lsn, kind, tx, ptx, ppg, ref, c, blob⟩
  have r3 := before_v ref ⟨lsn, kind, tx, ptx, ppg, ref, c, blob⟩
  have r4 := anyref_v ⟨lsn, kind, tx, ptx, ppg, ref, c, blob⟩
  have r5 := undoref_v ⟨lsn, kind, tx, ptx, ppg, ref, c, blob⟩
  have q1 := none_v c
  have q2 := chok_v c
  have q3 := index_v c
  have e1 : (⟨lsn, kind, tx, ptx, ppg, ref, c, blob⟩ : E).okB = (decide (1 ≤ lsn) && decide (lsn ≤ 1099511627776) && bef ptx lsn && bef ppg lsn && bef ref lsn && (⟨lsn, kind, tx, ptx, ppg, ref, c, blob⟩ : E).kindB) := rfl
  dsimp only [E.d] at *
  generalize bef ptx lsn = B1 at *
  generalize bef ppg lsn = B2 at *
  generalize bef ref lsn = B3 at *
  have e2 := kindB_eq lsn kind tx ptx ppg ref c blob
  dsimp only [Ch.d] at q1 q2 q3
  generalize c.no = N at *
  generalize c.okB = K at *
  generalize c.ix = X at *
  have e3 := @kindB_no ⟨lsn, kind, tx, ptx, ppg, ref, c, blob⟩
  dsimp only at e3
  generalize (⟨lsn, kind, tx, ptx, ppg, ref, c, blob⟩ : E).kindB = Q at *
  generalize (⟨lsn, kind, tx, ptx, ppg, ref, c, blob⟩ : E).okB = R at *
  (unfold Tryz.f51; refine rn trivial ?_)
  refine rn F ?_
  repeat' (first
    | with_reducible exact ⟨⟩
    | (refine sG F ?_ ?_ <;> intro hZ)
    | (refine sB F ?_ ?_ <;> intro hZ)
    | refine vp F (r1) ?_
    | refine vp F (r2) ?_
    | refine vp F (r3) ?_
    | (refine vspine (id := 3) [1, 2] [⟨[4], [], 0, [1, 2], [3]⟩, ⟨[4], [4], 5, [], []⟩] (by kernel_rfl) (by kernel_rfl) ?_; refine rn F ?_))
  all_goals first
    | (congr 3; rw [Bool.eq_iff_iff, e1]; simp only [Bool.and_eq_true, decide_eq_true_eq, Bool.false_eq_true, false_iff]; first | omega | (intro h; simp_all; done) | (intro h; rw [e3 (by omega)] at h; simp at h; done))
    | skip
  all_goals
    have hT : R = Q := by rw [e1]; simp_all
    rcases kind_cases kind with hk | rfl | rfl | rfl | rfl | rfl | rfl | rfl | rfl
    · omega
  all_goals
    refine rn F ?_
    repeat' (first
      | with_reducible exact ⟨⟩
      | (refine sG F ?_ ?_ <;> intro hZ)
      | (refine sB F ?_ ?_ <;> intro hZ)
      | refine vp F (rules_v) ?_
      | refine vp F (r4) ?_
      | refine vp F (r5) ?_
      | refine vp F (q1) ?_
      | refine vp F (q2) ?_
      | refine vp F (q3) ?_)
  all_goals (try (congr 3; rw [hT, Bool.eq_iff_iff, e2]; clear hT e1 e2 e3 r1 r2 r3 r4 r5 q1 q2 q3; simp [txB]; first | omega | grind))
  all_goals skip
end
section
structure RS (s : List UInt8) where
  at_ : Int
  e : Int
  h : 0 ≤ at_ ∧ at_ ≤ s.length
def numV (s : List UInt8) (a k : Nat) : Int := IntKind.i64.wrap (accX s a k)
def numR (s : List UInt8) (r : RS s) (k : Nat) : Int × RS s :=
  if r.e = 0 then if h : r.at_ + k ≤ s.length then (numV s r.at_.toNat k, ⟨r.at_ + k, 0, by have := r.h; omega⟩) else (0, ⟨r.at_, 5, r.h⟩) else (0, r)
def textR (s : List UInt8) (r : RS s) (n : Int) : List UInt8 × RS s :=
  if r.e = 0 then if h : 0 ≤ n ∧ r.at_ + n ≤ s.length then ((s.take (r.at_ + n).toNat).drop r.at_.toNat, ⟨r.at_ + n, 0, by have := r.h; omega⟩) else ([], ⟨r.at_, 5, r.h⟩) else ([], r)
def cellK (s : List UInt8) (p : Int × RS s) : Ce × RS s :=
  if p.2.e = 0 ∧ ¬ p.1 = 255 then
    if 12 < p.1 then (Ce0, ⟨p.2.at_, 4, p.2.h⟩) else (⟨true, (textR s p.2 p.1).1⟩, (textR s p.2 p.1).2)
  else (Ce0, p.2)
def cellR (s : List UInt8) (r : RS s) : Ce × RS s := cellK s (numR s r 1)
theorem numV_in (s : List UInt8) (a k : Nat) (h : k ≤ 7) : 0 ≤ numV s a k ∧ numV s a k < 2 ^ (8 * k) := by
  have h1 := accX_leN s a k (by omega)
  have h2 := leN_lt s a k
  have h3 : (2 : Nat) ^ (8 * k) ≤ 2 ^ 56 := Nat.pow_le_pow_right (by omega) (by omega)
  have h4 : ((2 : Int) ^ (8 * k)) = ((2 ^ (8 * k) : Nat) : Int) := by rw [Int.natCast_pow]; rfl
  unfold numV
  rw [h1, IntKind.wrap_i64, h4]
  omega
theorem numR_in (s : List UInt8) (r : RS s) (k : Nat) (h : k ≤ 7) : 0 ≤ (numR s r k).1 := by
  unfold numR
  split
  · split
    · exact (numV_in s _ k h).1
    · exact Int.le_refl _
  · exact Int.le_refl _
abbrev RC (B : Blk) (d : DV) : DV → Heap → Prop := fun r h' => ∃ B', h' = [B'] ∧ B'.live = true ∧ DV.nums.go (fun _ => false) B'.cells = true ∧ r.nums (fun _ => false) = true ∧ (r = d ∧ B' = B)
def rdB (T : TypeId) (s : List UInt8) (r : RS s) : Blk := ⟨T, true, [.pv (.str s), .int .i64 r.at_, .int .i64 r.e]⟩
attribute [go_sem] rdB
attribute [local go_sem] Ce.d
theorem vc_rd {g : FuncId} {args : List DV} {hp : Heap} {k : Nat} {T : TypeId} {s : List UInt8} {r0 r1 : RS s} {d : DV} {K : DV → Heap → Prop} (h : VCalls prog g (args.map (DV.ren fun _ => 0)) [rdB T s r0] (RC (rdB T s r1) d)) (hk : hp[k]? = some (rdB T s r0))
    (ha : DV.nums.go (fun i => i == k) args = true) (hK : K d (hp.set k (rdB T s r1))) : VCalls prog g args hp K :=
  (VCalls.ptr1 (R := fun r B' => r = d ∧ B' = rdB T s r1) hk rfl rfl h ha).mono fun r h' ⟨B', e1, _, _, e2, e3⟩ => by subst e1 e2 e3; exact hK
theorem jrnum_v (s : List UInt8) (hs : s.length ≤ 100000000) (r : RS s) (k : Nat) (hk : 1 ≤ k ∧ k ≤ 8) : VCalls prog 235 [.ptr 0 0, .int .i64 k] [rdB 330 s r] (RC (rdB 330 s (numR s r k).2) (.int .i64 (numR s r k).1)) := by
  refine dd Tryz.func235 ?_
  obtain ⟨a, e, ha⟩ := r
  obtain ⟨n, rfl⟩ : ∃ n : Nat, a = n := ⟨a.toNat, by omega⟩
  unfold numR
  dsimp only
  by_cases he : e = 0
  · subst he
    rw [if_pos rfl]
    by_cases h : (n : Int) + k ≤ s.length
    · rw [dif_pos h]
      have hg := rget_v s (by omega) n k hk (by omega)
      (unfold Tryz.f235; refine rn trivial ?_)
      refine vspine (id := 3) [0, 1, 2, 3, 4, 5, 6, 7, 8] [⟨[], [], 9, [0, 1, 2, 4, 5, 6], [10, 11, 12]⟩, ⟨[], [], 13, [12], []⟩, ⟨[], [], 14, [], []⟩] (by kernel_rfl) (by kernel_rfl) ?_
      refine rn trivial ?_
      refine vc_pure hg rfl ?_
      refine rn trivial ?_
      exact ⟨_, rfl, rfl, rfl, rfl, rfl, rfl⟩
    · rw [dif_neg h]
      have hg := rget_short s n k (by omega) (by omega) h
      (unfold Tryz.f235; refine rn trivial ?_)
      refine vspine (id := 3) [0, 1, 2, 3, 4, 5, 6, 7, 8] [⟨[], [], 9, [0, 1, 2, 4, 5, 6], [10, 11, 12]⟩, ⟨[], [], 13, [12], []⟩, ⟨[], [], 14, [], []⟩] (by kernel_rfl) (by kernel_rfl) ?_
      refine rn trivial ?_
      refine vc_pure hg rfl ?_
      refine rn trivial ?_
      exact ⟨_, rfl, rfl, rfl, rfl, rfl, rfl⟩
  · rw [if_neg he]
    (unfold Tryz.f235; refine rn @he ?_)
    exact ⟨_, rfl, rfl, rfl, rfl, rfl, rfl⟩
theorem jrtext_v (s : List UInt8) (hs : s.length ≤ 100000000) (r : RS s) (n : Int) (hn : 0 ≤ n ∧ n ≤ 4294967296) : VCalls prog 237 [.ptr 0 0, .int .i64 n] [rdB 330 s r] (RC (rdB 330 s (textR s r n).2) (.pv (.str (textR s r n).1))) := by
  refine dd Tryz.func237 ?_
  obtain ⟨a, e, ha⟩ := r
  obtain ⟨n, rfl⟩ : ∃ m : Nat, n = m := ⟨n.toNat, by omega⟩
  obtain ⟨a, rfl⟩ : ∃ m : Nat, a = m := ⟨a.toNat, by omega⟩
  unfold textR
  dsimp only
  by_cases he : e = 0
  · subst he
    rw [if_pos rfl]
    by_cases h : 0 ≤ (n : Int) ∧ (a : Int) + n ≤ s.length
    · rw [dif_pos h]
      have q1 : ¬ (s.length : Int) - a < n := by omega
      have q2 : ¬ (s.length : Int) - a < n := by omega
      have q3 : ¬ (s.length : Int) - (a : Int) < (n : Int) := by omega
      have q4 : ((a : Int) + n).toNat = a + n := by omega
      have q5 : (a : Int) + n - n = a := by omega
      have q6 : a ≤ a + n := by omega
      have q7 : a + n ≤ s.length := by omega
      have q8 : 0 ≤ (a : Int) + n := by omega
      have q9 : (a : Int).toNat = a := by omega
      have q10 : ¬ (n : Int) > (s.length : Int) - a := by omega
      (unfold Tryz.f237; refine rn @q3 ?_)
      refine vdraw (by kernel_rfl) (by kernel_rfl) ?_
      refine rn (And.intro @q3 @q10) ?_
      refine vdraw (by kernel_rfl) (by kernel_rfl) ?_
      refine rn (And.intro @q4 (And.intro @q5 (And.intro @q6 (And.intro @q7 @q8)))) ?_
      exact ⟨_, rfl, rfl, rfl, rfl, rfl, rfl⟩
    · rw [dif_neg h]
      have q3 : (s.length : Int) - (a : Int) < (n : Int) := by omega
      (unfold Tryz.f237; refine rn @q3 ?_)
      refine vdraw (by kernel_rfl) (by kernel_rfl) ?_
      refine rn @q3 ?_
      exact ⟨_, rfl, rfl, rfl, rfl, rfl, rfl⟩
  · rw [if_neg he]
    (unfold Tryz.f237; refine rn @he ?_)
    exact ⟨_, rfl, rfl, rfl, rfl, rfl, rfl⟩
theorem jrcellr_v (s : List UInt8) (hs : s.length ≤ 100000000) (r : RS s) : VCalls prog 236 [.ptr 0 0] [rdB 330 s r] (RC (rdB 330 s (cellR s r).2) (.agg (cellR s r).1.d)) := by
  refine dd Tryz.func236 ?_
  have hn := jrnum_v s hs r 1 (by omega)
  have h0 := numR_in s r 1 (by omega)
  have h1 : (numR s r 1).1 ≤ 255 := by
    unfold numR
    split
    · split
      · have := (numV_in s r.at_.toNat 1 (by omega)).2; dsimp only; omega
      · simp
    · simp
  unfold cellR
  generalize numR s r 1 = p at hn h0 h1 ⊢
  obtain ⟨n, r1⟩ := p
  unfold cellK
  dsimp only at hn h0 h1 ⊢
  (unfold Tryz.f236; refine rn trivial ?_)
  refine vc_rd (k := 0) hn rfl rfl ?_
  by_cases he : r1.e = 0
  · by_cases h2 : n = 255
    · subst h2
      rw [if_neg (by simp)]
      refine rn @he ?_
      exact ⟨_, rfl, rfl, rfl, rfl, rfl, by rw [← he]⟩
    · rw [if_pos ⟨he, h2⟩]
      by_cases h3 : 12 < n
      · rw [if_pos h3]
        refine rn (And.intro @he (And.intro @h2 @h3)) ?_
        exact ⟨_, rfl, rfl, rfl, rfl, rfl, rfl⟩
      · rw [if_neg h3]
        have ht := jrtext_v s hs r1 n (by omega)
        refine rn (And.intro @he (And.intro @h2 @h3)) ?_
        have e9 : (⟨330, true, [.pv (.str s), .int .i64 r1.at_, .int .i64 0]⟩ : Blk) = rdB 330 s r1 := by rw [rdB, he]
        rw [e9]
        refine vc_rd (k := 0) ht rfl rfl ?_
        refine rn trivial ?_
        exact ⟨_, rfl, rfl, rfl, rfl, rfl, rfl⟩
  · rw [if_neg (fun h => he h.1)]
    refine rn @he ?_
    exact ⟨_, rfl, rfl, rfl, rfl, rfl, rfl⟩
end
section
attribute [local go_sem] E.d Ch0 Ce0
theorem len8192 (l : List UInt8) : decide ((l.length : Int) ≤ 8192) = decide (l.length ≤ 8192) := by
  apply decide_eq_decide.2; omega
def E.shp (e : E) : E :=
  if e.kind = 1 then ⟨e.lsn, e.kind, e.tx, e.ptx, e.ppg, 0, e.c, []⟩
  else if e.kind = 2 then ⟨e.lsn, e.kind, e.tx, e.ptx, e.ppg, e.ref, e.c, []⟩
  else if e.kind = 3 ∨ e.kind = 4 ∨ e.kind = 5 then ⟨e.lsn, e.kind, e.tx, e.ptx, 0, 0, Ch0, []⟩
  else if e.kind = 6 ∨ e.kind = 8 then ⟨e.lsn, e.kind, 0, 0, 0, 0, Ch0, e.blob⟩
  else if e.kind = 7 then ⟨e.lsn, e.kind, 0, 0, 0, e.ref, ⟨e.c.pg, 0, Ce0, Ce0⟩, []⟩
  else ⟨e.lsn, e.kind, 0, 0, 0, 0, Ch0, []⟩
def E.shok (e : E) : Bool :=
  if e.kind = 1 then e.c.okB && decide (1 ≤ e.tx) && decide (e.tx ≤ 1073741824)
  else if e.kind = 2 then e.c.okB && decide (0 < e.ptx) && decide (1 ≤ e.ref) && decide (e.ref ≤ e.ptx) && decide (1 ≤ e.tx) && decide (e.tx ≤ 1073741824)
  else if e.kind = 3 ∨ e.kind = 4 ∨ e.kind = 5 then decide (1 ≤ e.tx) && decide (e.tx ≤ 1073741824) && decide (0 < e.ptx)
  else if e.kind = 6 ∨ e.kind = 8 then decide (e.blob.length ≤ 8192)
  else if e.kind = 7 then decide (0 ≤ e.c.pg) && decide (e.c.pg < 64)
  else false
def shD (e : E) : DV := .tup [.agg e.shp.d, .bool e.shok]
theorem shp_eq (lsn kind tx ptx ppg ref : Int) (c : Ch) (blob : List UInt8) : (⟨lsn, kind, tx, ptx, ppg, ref, c, blob⟩ : E).shp =
  if kind = 1 then ⟨lsn, kind, tx, ptx, ppg, 0, c, []⟩
  else if kind = 2 then ⟨lsn, kind, tx, ptx, ppg, ref, c, []⟩
  else if kind = 3 ∨ kind = 4 ∨ kind = 5 then ⟨lsn, kind, tx, ptx, 0, 0, Ch0, []⟩
  else if kind = 6 ∨ kind = 8 then ⟨lsn, kind, 0, 0, 0, 0, Ch0, blob⟩
  else if kind = 7 then ⟨lsn, kind, 0, 0, 0, ref, ⟨c.pg, 0, Ce0, Ce0⟩, []⟩
  else ⟨lsn, kind, 0, 0, 0, 0, Ch0, []⟩ := rfl
theorem shok_eq (lsn kind tx ptx ppg ref : Int) (c : Ch) (blob : List UInt8) : (⟨lsn, kind, tx, ptx, ppg, ref, c, blob⟩ : E).shok =
  if kind = 1 then c.okB && decide (1 ≤ tx) && decide (tx ≤ 1073741824)
  else if kind = 2 then c.okB && decide (0 < ptx) && decide (1 ≤ ref) && decide (ref ≤ ptx) && decide (1 ≤ tx) && decide (tx ≤ 1073741824)
  else if kind = 3 ∨ kind = 4 ∨ kind = 5 then decide (1 ≤ tx) && decide (tx ≤ 1073741824) && decide (0 < ptx)
  else if kind = 6 ∨ kind = 8 then decide (blob.length ≤ 8192)
  else if kind = 7 then decide (0 ≤ c.pg) && decide (c.pg < 64)
  else false := rfl
theorem shape_v (e : E) : VCalls prog 39 [.agg e.d] [] (Ret (shD e)) := by
  refine dd Tryz.func39 ?_
  unfold shD
  obtain ⟨lsn, kind, tx, ptx, ppg, ref, c, blob⟩ := e
  have q1 := rchok_v c
  dsimp only [Ch.d] at q1
  rw [shp_eq, shok_eq]
  generalize c.okB = K at *
  rcases kind_cases kind with hk | rfl | rfl | rfl | rfl | rfl | rfl | rfl | rfl
  · rw [if_neg (by omega), if_neg (by omega), if_neg (by omega), if_neg (by omega), if_neg (by omega), if_neg (by omega), if_neg (by omega), if_neg (by omega), if_neg (by omega), if_neg (by omega)]
    have k1 : (kind == 1) = false := by simp; omega
    have k2 : (kind == 2) = false := by simp; omega
    have k3 : (kind == 3) = false := by simp; omega
    have k4 : (kind == 4) = false := by simp; omega
    have k5 : (kind == 5) = false := by simp; omega
    have k6 : (kind == 6) = false := by simp; omega
    have k7 : (kind == 7) = false := by simp; omega
    have k8 : (kind == 8) = false := by simp; omega
    (unfold Tryz.f39; refine rn (And.intro @k1 (And.intro @k2 (And.intro @k3 (And.intro @k4 (And.intro @k5 (And.intro @k6 (And.intro @k7 @k8))))))) ?_; try with_reducible exact ⟨⟩)
  all_goals
    (unfold Tryz.f39; refine rn trivial ?_)
    refine rn F ?_
    repeat' (first
      | with_reducible exact ⟨⟩
      | (refine sG F ?_ ?_ <;> intro hZ)
      | refine vp F (q1) ?_
      | (refine vspine (id := 5) [0, 1, 2, 3, 4, 5, 6, 7, 8] [⟨[], [], 9, [2, 3, 4, 5, 6, 7], [10]⟩, ⟨[], [], 11, [4, 5, 6, 7], [12]⟩, ⟨[], [], 13, [6, 7], [14]⟩, ⟨[], [], 15, [], []⟩] (by kernel_rfl) (by kernel_rfl) ?_; refine rn F ?_)
      | (refine vspine (id := 10) [0, 1, 2, 3, 4, 5, 6, 7, 8, 9, 10, 11] [⟨[], [], 12, [1, 2, 3, 4, 5, 6, 8, 9, 10, 11], []⟩, ⟨[], [], 13, [], []⟩] (by kernel_rfl) (by kernel_rfl) ?_; refine rn F ?_)
      | (refine vspine (id := 14) [0, 1, 2, 3, 4] [⟨[], [], 5, [2, 3], [6]⟩, ⟨[], [], 7, [], []⟩] (by kernel_rfl) (by kernel_rfl) ?_; refine rn F ?_)
      | (refine vspine (id := 15) [0, 1, 2, 3, 4, 5, 6, 7, 8, 9, 10, 11, 12, 13] [⟨[], [], 14, [1, 2, 3, 4, 5, 6, 7, 8, 10, 11, 12, 13], []⟩, ⟨[], [], 15, [], []⟩] (by kernel_rfl) (by kernel_rfl) ?_; refine rn F ?_)
      | (refine vspine (id := 19) [0, 1, 2, 3, 4] [⟨[], [], 5, [1, 2, 3, 4], []⟩, ⟨[], [], 6, [], []⟩] (by kernel_rfl) (by kernel_rfl) ?_; refine rn F ?_)
      | (refine vspine (id := 21) [0, 1, 2, 3, 4, 5] [⟨[], [], 6, [2, 3, 4], [7, 8]⟩, ⟨[], [], 9, [7], []⟩] (by kernel_rfl) (by kernel_rfl) ?_; refine rn F ?_)
      | (refine vspine (id := 22) [0, 1, 2, 3, 4, 5, 6, 7, 8, 9, 10] [⟨[], [], 11, [1, 2, 3, 4, 6, 7, 8, 9, 10], []⟩, ⟨[], [], 12, [], []⟩] (by kernel_rfl) (by kernel_rfl) ?_; refine rn F ?_))
  all_goals first | rfl | (simp [Ch0, Ce0, len8192]; done)
def eqE (x y : E) : Bool := x.lsn == y.lsn && (x.kind == y.kind && (x.tx == y.tx && (x.ptx == y.ptx && (x.ppg == y.ppg && (x.ref == y.ref && (x.c.pg == y.c.pg && (x.c.sl == y.c.sl && (x.c.b.set == y.c.b.set && (x.c.b.data == y.c.b.data && (x.c.a.set == y.c.a.set && (x.c.a.data == y.c.a.data && x.blob == y.blob)))))))))))
theorem allEqE (x y : E) : allEq x.d y.d [(0, 1), (1, 1), (2, 1), (3, 1), (4, 1), (5, 1), (6, 1), (7, 1), (8, 0), (9, 2), (10, 0), (11, 2), (12, 2)] = some (eqE x y) := by
  simp [allEq, leafEq, E.d, eqE]
def E.okR (e : E) : Bool := e.shok && eqE e.shp e && decide (1 ≤ e.lsn) && decide (e.lsn ≤ 1099511627776) && bef e.ptx e.lsn && bef e.ppg e.lsn && bef e.ref e.lsn
theorem rvalidR_v (e : E) : VCalls prog 18 [.agg e.d] [] (Ret (.bool e.okR)) := by
  refine dd Tryz.func18 ?_
  have hq := allEqE e.shp e
  have hs := shape_v e
  unfold shD at hs
  simp only [E.d] at hq hs
  have b1 := rbefore_v e.ptx e.lsn
  have b2 := rbefore_v e.ppg e.lsn
  have b3 := rbefore_v e.ref e.lsn
  have e1 : e.okR = (e.shok && eqE e.shp e && decide (1 ≤ e.lsn) && decide (e.lsn ≤ 1099511627776) && bef e.ptx e.lsn && bef e.ppg e.lsn && bef e.ref e.lsn) := rfl
  generalize e.okR = R at *
  generalize bef e.ptx e.lsn = B1 at *
  generalize bef e.ppg e.lsn = B2 at *
  generalize bef e.ref e.lsn = B3 at *
  generalize e.shp = s at *
  generalize e.shok = ok at *
  generalize eqE s e = q at *
  (unfold Tryz.f18; refine rn trivial ?_)
  have F := @hq
  refine rn F ?_
  repeat' (first
    | with_reducible exact ⟨⟩
    | (refine sG F ?_ ?_ <;> intro hZ)
    | refine vp F (hs) ?_
    | refine vp F (b1) ?_
    | refine vp F (b2) ?_
    | refine vp F (b3) ?_)
  all_goals (congr 3; rw [e1, Bool.eq_iff_iff]; clear e1 b1 b2 b3 hs hq; simp; first | omega | grind)
theorem okR_ok (e : E) : e.okR = e.okB := by
  obtain ⟨lsn, kind, tx, ptx, ppg, ref, ⟨pg, sl, ⟨b1, b2⟩, ⟨a1, a2⟩⟩, blob⟩ := e
  rw [Bool.eq_iff_iff]
  by_cases h : kind < 1 ∨ 8 < kind
  · have e1 : E.shok ⟨lsn, kind, tx, ptx, ppg, ref, ⟨pg, sl, ⟨b1, b2⟩, ⟨a1, a2⟩⟩, blob⟩ = false := by unfold E.shok; rw [if_neg (by dsimp only; omega), if_neg (by dsimp only; omega), if_neg (by dsimp only; omega), if_neg (by dsimp only; omega), if_neg (by dsimp only; omega)]
    have e2 : E.kindB ⟨lsn, kind, tx, ptx, ppg, ref, ⟨pg, sl, ⟨b1, b2⟩, ⟨a1, a2⟩⟩, blob⟩ = false := by unfold E.kindB; rw [if_neg (by dsimp only; omega), if_neg (by dsimp only; omega), if_neg (by dsimp only; omega), if_neg (by dsimp only; omega), if_neg (by dsimp only; omega)]
    simp [E.okR, E.okB, e1, e2]
  · have hk : kind = 1 ∨ kind = 2 ∨ kind = 3 ∨ kind = 4 ∨ kind = 5 ∨ kind = 6 ∨ kind = 7 ∨ kind = 8 := by omega
    rcases hk with hk | hk | hk | hk | hk | hk | hk | hk <;> subst hk
    all_goals
      simp only [E.okR, E.okB, E.shok, E.shp, E.kindB, eqE, bef, txB, Ch.no, Ce.no, Ch.ix, Ch0, Ce0, Bool.and_eq_true, decide_eq_true_eq, beq_iff_eq, bne_iff_ne, Bool.not_eq_true', reduceIte, Int.reduceEq, or_self, or_false, false_or, or_true, true_or]
      grind
theorem rvalid_v (e : E) : VCalls prog 18 [.agg e.d] [] (Ret (.bool e.okB)) := by
  rw [← okR_ok]; exact rvalidR_v e
end
section
attribute [local go_sem] Ce.d
def rs0 (s : List UInt8) : RS s := ⟨0, 0, by omega⟩
theorem numR_le4 (s : List UInt8) (r : RS s) : (numR s r 4).1 ≤ 4294967296 := by
  unfold numR
  split
  · split
    · have := (numV_in s r.at_.toNat 4 (by omega)).2; dsimp only; omega
    · simp
  · simp
def decS (s : List UInt8) : E × RS s :=
  let p1 := numR s (rs0 s) 8
  let p2 := numR s p1.2 1
  let p3 := numR s p2.2 4
  let p4 := numR s p3.2 8
  let p5 := numR s p4.2 8
  let p6 := numR s p5.2 8
  let p7 := numR s p6.2 4
  let p8 := numR s p7.2 1
  let c1 := cellR s p8.2
  let c2 := cellR s c1.2
  let p9 := numR s c2.2 4
  let t := textR s p9.2 p9.1
  (⟨p1.1, p2.1, p3.1, p4.1, p5.1, p6.1, ⟨p7.1, p8.1, c1.1, c2.1⟩, t.1⟩, t.2)
def decE (s : List UInt8) : E × Int :=
  if (decS s).2.e = 0 then if (decS s).2.at_ = s.length then if (decS s).1.okB = true then ((decS s).1, 0) else (E0, 12) else (E0, 4) else (E0, (decS s).2.e)
theorem jrdecode_v (s : List UInt8) (hs : s.length ≤ 100000000) : VCalls prog 206 [.pv (.str s)] [] (Ret (.tup [.agg (decE s).1.d, .int .i64 (decE s).2])) := by
  have hp1 := jrnum_v s hs (rs0 s) 8 (by omega)
  generalize hqp1 : numR s (rs0 s) 8 = p1 at hp1
  have hp2 := jrnum_v s hs p1.2 1 (by omega)
  generalize hqp2 : numR s p1.2 1 = p2 at hp2
  have hp3 := jrnum_v s hs p2.2 4 (by omega)
  generalize hqp3 : numR s p2.2 4 = p3 at hp3
  have hp4 := jrnum_v s hs p3.2 8 (by omega)
  generalize hqp4 : numR s p3.2 8 = p4 at hp4
  have hp5 := jrnum_v s hs p4.2 8 (by omega)
  generalize hqp5 : numR s p4.2 8 = p5 at hp5
  have hp6 := jrnum_v s hs p5.2 8 (by omega)
  generalize hqp6 : numR s p5.2 8 = p6 at hp6
  have hp7 := jrnum_v s hs p6.2 4 (by omega)
  generalize hqp7 : numR s p6.2 4 = p7 at hp7
  have hp8 := jrnum_v s hs p7.2 1 (by omega)
  generalize hqp8 : numR s p7.2 1 = p8 at hp8
  have hc1 := jrcellr_v s hs p8.2
  generalize hqc1 : cellR s p8.2  = c1 at hc1
  have hc2 := jrcellr_v s hs c1.2
  generalize hqc2 : cellR s c1.2  = c2 at hc2
  have hp9 := jrnum_v s hs c2.2 4 (by omega)
  generalize hqp9 : numR s c2.2 4 = p9 at hp9
  have ht := jrtext_v s hs p9.2 p9.1 ⟨by rw [← hqp9]; exact numR_in s _ 4 (by omega), by rw [← hqp9]; exact numR_le4 s _⟩
  generalize hqt : textR s p9.2 p9.1 = t at ht
  have hd : decS s = (⟨p1.1, p2.1, p3.1, p4.1, p5.1, p6.1, ⟨p7.1, p8.1, c1.1, c2.1⟩, t.1⟩, t.2) := by
    unfold decS
    simp only [hqp1, hqp2, hqp3, hqp4, hqp5, hqp6, hqp7, hqp8, hqc1, hqc2, hqp9, hqt]
  have hv := rvalid_v ⟨p1.1, p2.1, p3.1, p4.1, p5.1, p6.1, ⟨p7.1, p8.1, c1.1, c2.1⟩, t.1⟩
  unfold decE
  rw [hd]
  clear hqt hqp9 hqc2 hqc1 hqp8 hqp7 hqp6 hqp5 hqp4 hqp3 hqp2 hqp1 hd
  obtain ⟨n1, r1⟩ := p1
  obtain ⟨n2, r2⟩ := p2
  obtain ⟨n3, r3⟩ := p3
  obtain ⟨n4, r4⟩ := p4
  obtain ⟨n5, r5⟩ := p5
  obtain ⟨n6, r6⟩ := p6
  obtain ⟨n7, r7⟩ := p7
  obtain ⟨n8, r8⟩ := p8
  obtain ⟨x1, r9⟩ := c1
  obtain ⟨x2, r10⟩ := c2
  obtain ⟨n9, r11⟩ := p9
  obtain ⟨tt, r12⟩ := t
  dsimp only at *
  refine dd Tryz.func206 ?_
  (unfold Tryz.f206; refine rn trivial ?_)
  have e0 : (⟨330, true, [.pv (.str s), .int .i64 0, .int .i64 0]⟩ : Blk) = rdB 330 s (rs0 s) := rfl
  rw [e0]
  refine vc_rd (k := 1) hp1 rfl rfl ?_
  refine rn trivial ?_
  refine vc_rd (k := 1) hp2 rfl rfl ?_
  refine rn trivial ?_
  refine vc_rd (k := 1) hp3 rfl rfl ?_
  refine rn trivial ?_
  refine vc_rd (k := 1) hp4 rfl rfl ?_
  refine rn trivial ?_
  refine vc_rd (k := 1) hp5 rfl rfl ?_
  refine rn trivial ?_
  refine vc_rd (k := 1) hp6 rfl rfl ?_
  refine rn trivial ?_
  refine vc_rd (k := 1) hp7 rfl rfl ?_
  refine rn trivial ?_
  refine vc_rd (k := 1) hp8 rfl rfl ?_
  refine rn trivial ?_
  refine vc_rd (k := 1) hc1 rfl rfl ?_
  refine rn trivial ?_
  refine vc_rd (k := 1) hc2 rfl rfl ?_
  refine rn trivial ?_
  refine vc_rd (k := 1) hp9 rfl rfl ?_
  refine rn trivial ?_
  refine vc_rd (k := 1) ht rfl rfl ?_
  refine rn trivial ?_
  by_cases he : r12.e = 0
  · rw [if_pos he]
    by_cases ha : r12.at_ = s.length
    · rw [if_pos ha]
      refine rn (And.intro @he @ha) ?_
      by_cases hb : E.okB ⟨n1, n2, n3, n4, n5, n6, ⟨n7, n8, x1, x2⟩, tt⟩ = true
      · rw [if_pos hb]
        rw [hb] at hv
        refine vc_pure hv rfl ?_
        refine rn trivial ?_
        rfl
      · rw [if_neg hb]
        have hb : E.okB ⟨n1, n2, n3, n4, n5, n6, ⟨n7, n8, x1, x2⟩, tt⟩ = false := by simpa using hb
        rw [hb] at hv
        refine vc_pure hv rfl ?_
        refine rn trivial ?_
        rfl
    · rw [if_neg ha]
      refine rn (And.intro @he @ha) ?_
      rfl
  · rw [if_neg he]
    refine rn @he ?_
    refine vdraw (by kernel_rfl) (by kernel_rfl) ?_
    refine rn trivial ?_
    rfl
end
section
def encE : Enc E := ⟨13, fun x => [.lit (.int .i64 x.lsn), .lit (.int .i64 x.kind), .lit (.int .i64 x.tx), .lit (.int .i64 x.ptx), .lit (.int .i64 x.ppg), .lit (.int .i64 x.ref), .lit (.int .i64 x.c.pg), .lit (.int .i64 x.c.sl), .lit (.bool x.c.b.set), .str x.c.b.data, .lit (.bool x.c.a.set), .str x.c.a.data, .str x.blob], by decide, fun _ => rfl⟩
theorem lenE (l : List E) : (cells encE l).length = l.length * 13 := cells_len encE l
theorem allE (l : List E) (n : Nat) (h : l.length * 13 ≤ n) : (cells encE l).take n = cells encE l := by rw [List.take_of_length_le]; rw [lenE]; exact h
theorem appE (l m : List E) : cells encE l ++ cells encE m = cells encE (l ++ m) := (cells_app encE l m).symm
theorem slkE (l : List E) (T : TypeId) (a b : Nat) (h : a ≤ b ∧ b ≤ l.length) : vslk (some (none, T, 13)) (fz encE l) a b = some (.pv (.sl (fz encE ((l.take b).drop a)))) := vslk_fz encE l T a b h
theorem srcE (l : List E) : (fz encE l = [] ∨ (fz encE l)[0]?.map List.length = some 13) = True := fz_src encE l
theorem frzE {n : Nat} {hp : Heap} {len : Nat} {l : List E} (h : l.length = len) : frzC n hp 0 13 len (some (cells encE l)) = some (.sl (fz encE l)) := frzC_cells encE h
theorem app_E (l : List E) (e : E) : cells encE l ++ [.pv (.lit (.int .i64 e.lsn)), .pv (.lit (.int .i64 e.kind)), .pv (.lit (.int .i64 e.tx)), .pv (.lit (.int .i64 e.ptx)), .pv (.lit (.int .i64 e.ppg)), .pv (.lit (.int .i64 e.ref)), .pv (.lit (.int .i64 e.c.pg)), .pv (.lit (.int .i64 e.c.sl)), .pv (.lit (.bool e.c.b.set)), .pv (.str e.c.b.data), .pv (.lit (.bool e.c.a.set)), .pv (.str e.c.a.data), .pv (.str e.blob)] = cells encE (l ++ [e]) := by rw [cells_app]; rfl
theorem getD_eq {α : Type} (l : List α) (i : Nat) (h : i < l.length) (d : α) : l.getD i d = l[i] := by rw [List.getD_eq_getElem?_getD, List.getElem?_eq_getElem h]; rfl
structure To (n : Nat) where
  i : Nat
  hi : i ≤ n
structure Okay (n : Nat) (c : Nat → Bool) where
  i : Nat
  hi : i ≤ n
  ok : ∀ k, k < i → c k = true
def Okay.start (n : Nat) (c : Nat → Bool) : Okay n c := ⟨0, Nat.zero_le _, fun k h => by omega⟩
def Okay.next {n : Nat} {c : Nat → Bool} (s : Okay n c) (h : s.i < n) (hc : c s.i = true) : Okay n c := ⟨s.i + 1, h, fun k hk => by
  rcases Nat.lt_or_ge k s.i with hlt | hge
  · exact s.ok k hlt
  · obtain rfl : k = s.i := by omega
    exact hc⟩
theorem Okay.all {n : Nat} {c : Nat → Bool} (s : Okay n c) (h : ¬ s.i < n) : (List.range n).all c = true := by
  rw [List.all_eq_true]
  intro k hk
  rw [List.mem_range] at hk
  exact s.ok k (by omega)
theorem all_not {n : Nat} {c : Nat → Bool} {i : Nat} (h : i < n) (hc : c i = false) : (List.range n).all c = false := by
  rw [List.all_eq_false]
  exact ⟨i, List.mem_range.2 h, by rw [hc]; decide⟩
theorem fzE_d (l : List E) (i : Nat) (h : i < l.length) : (fz encE l)[i]? = some [.lit (.int .i64 (l.getD i E0).lsn), .lit (.int .i64 (l.getD i E0).kind), .lit (.int .i64 (l.getD i E0).tx), .lit (.int .i64 (l.getD i E0).ptx), .lit (.int .i64 (l.getD i E0).ppg), .lit (.int .i64 (l.getD i E0).ref), .lit (.int .i64 (l.getD i E0).c.pg), .lit (.int .i64 (l.getD i E0).c.sl), .lit (.bool (l.getD i E0).c.b.set), .str (l.getD i E0).c.b.data, .lit (.bool (l.getD i E0).c.a.set), .str (l.getD i E0).c.a.data, .str (l.getD i E0).blob] := by rw [getD_eq l i h]; exact fz_get encE l i h
structure Lg where
  f : Int
  es : List E
  d : Int
def Lg.c (x : Lg) : List DV := [.int .i64 x.f, .pv (.sl (fz encE x.es)), .int .i64 x.d]
attribute [local go_sem] Lg.c
def Lg0 : Lg := ⟨0, [], 0⟩
def Lg.hd (x : Lg) : Prop := 1 ≤ x.f ∧ x.f ≤ 1099511627776 ∧ x.es.length ≤ 4096 ∧ x.f - 1 ≤ x.d ∧ x.d ≤ x.f + x.es.length - 1
instance (x : Lg) : Decidable x.hd := by unfold Lg.hd; infer_instance
def lgC (x : Lg) (i : Nat) : Bool := decide ((x.es.getD i E0).lsn = x.f + i) && (x.es.getD i E0).okB
def lgB (x : Lg) : Bool := decide x.hd && (List.range x.es.length).all (lgC x)
def Lg.end_ (x : Lg) : Int := x.f + x.es.length - 1
theorem lgB_hd {x : Lg} (h : lgB x = true) : x.hd := by unfold lgB at h; simp at h; exact h.1
theorem jend_v (x : Lg) (h1 : -1099511627776 ≤ x.f ∧ x.f ≤ 1099511627776) (h2 : x.es.length ≤ 1000000) : VCalls prog 50 [.agg x.c] [] (Ret (.int .i64 x.end_)) := by
  refine dd Tryz.func50 ?_
  obtain ⟨f, es, d⟩ := x
  dsimp only at h1 h2
  (unfold Tryz.f50; refine rn trivial ?_)
  (refine rn F ?_; try with_reducible exact ⟨⟩)
  all_goals rfl
theorem jvalid_v (x : Lg) (hx : x.es.length ≤ 9223372036854775807) : VCalls prog 31 [.agg x.c] [] (Ret (.bool (lgB x))) := by
  refine dd Tryz.func31 ?_
  obtain ⟨f, es, d⟩ := x
  dsimp only at hx
  have hr := fun (i : Nat) => valid_v (es.getD i E0)
  have c1 := jend_v ⟨f, es, d⟩
  have hlg : ∀ i, lgC ⟨f, es, d⟩ i = true ↔ (es.getD i E0).lsn = f + i ∧ (es.getD i E0).okB = true := fun i => by simp [lgC]
  have hB : lgB ⟨f, es, d⟩ = (decide (Lg.hd ⟨f, es, d⟩) && (List.range es.length).all (lgC ⟨f, es, d⟩)) := rfl
  have hH : Lg.hd ⟨f, es, d⟩ = (1 ≤ f ∧ f ≤ 1099511627776 ∧ es.length ≤ 4096 ∧ f - 1 ≤ d ∧ d ≤ f + es.length - 1) := rfl
  have no : ¬ Lg.hd ⟨f, es, d⟩ → lgB ⟨f, es, d⟩ = false := fun h => by rw [hB, decide_eq_false h]; rfl
  unfold Lg.c at c1 ⊢
  unfold Lg.end_ at c1
  unfold E.d at hr
  dsimp only at c1 ⊢
  generalize lgC ⟨f, es, d⟩ = lc at *
  generalize lgB ⟨f, es, d⟩ = b at *
  (unfold Tryz.f31; refine rn trivial ?_)
  refine rn F ?_
  repeat' (first
    | with_reducible exact ⟨⟩
    | (refine sG F ?_ ?_ <;> intro hZ)
    | (refine sB F ?_ ?_ <;> intro hZ)
    | refine vp F (c1 (by omega) (by omega)) ?_
    | (refine vspine (id := 1) [0, 1, 2, 3, 4, 5, 6, 7, 8, 9, 10, 11, 12, 13, 14, 15, 16, 17, 18, 19, 20, 21, 22, 23, 24, 25] [⟨[], [], 26, [0, 1, 2, 3, 4, 5, 6, 7, 8, 9, 10, 11, 12, 13, 14, 15, 16, 17, 18, 19, 20, 21, 23, 24], [27, 28]⟩] (by kernel_rfl) (by kernel_rfl) ?_; refine rn F ?_))
  all_goals first | (rw [no (by rw [hH]; omega)]) | skip
  refine vloopW (fun s : Okay es.length lc => ⟨55, 0, [(37, .int .i64 s.i), (36, .int .i64 es.length), (35, .pv (.sl (fz encE es))), (1, .ptr 0 0)], [⟨28, true, [.int .i64 f, .pv (.sl (fz encE es)), .int .i64 d]⟩]⟩) (fun s => es.length - s.i) (Okay.start _ _) (gc [0]) ?_
  intro s
  have hsi := s.hi
  have hg := fun h : s.i < es.length => fzE_d es s.i h
  have F := @hg
  refine rn F ?_
  repeat' (first
    | with_reducible exact ⟨⟩
    | (refine sG F ?_ ?_ <;> intro hZ)
    | (refine sB F ?_ ?_ <;> intro hZ)
    | refine vp F (hr s.i) ?_)
  all_goals first
    | (rw [hB, all_not (i := s.i) (by omega) (Bool.eq_false_iff.2 fun h => by rw [hlg] at h; omega), Bool.and_false])
    | (rw [hB, all_not (i := s.i) (by omega) (Bool.eq_false_iff.2 fun h => by rw [hlg] at h; exact absurd h.2 (by simp_all)), Bool.and_false])
    | (rw [hB, s.all (by omega), decide_eq_true (by rw [hH]; omega)]; rfl)
    | (exact ⟨s.next (by omega) ((hlg _).2 ⟨by omega, by assumption⟩), by show es.length - (s.i + 1) < es.length - s.i; omega, (gc [0])⟩)
    | skip
end
section
attribute [local go_sem] lenE allE appE slkE srcE frzE app_E Tryz.underlying26
def appS (x : Lg) (e : E) : Lg × Int × Int := if lgB x = false then (Lg0, 0, 26) else if x.es.length = 4096 ∨ 1099511627776 < x.end_ + 1 then (Lg0, 0, 21)
  else if ({ e with lsn := x.end_ + 1 } : E).okB = false then (Lg0, 0, 12) else (⟨x.f, x.es ++ [{ e with lsn := x.end_ + 1 }], x.d⟩, x.end_ + 1, 0)
def appD (r : Lg × Int × Int) : DV := .tup [.agg r.1.c, .int .i64 r.2.1, .int .i64 r.2.2]
end
section
attribute [local go_sem] lenE allE appE slkE srcE frzE app_E
def forceS (x : Lg) (n : Int) : Lg × Int := if lgB x = false then (Lg0, 26) else if x.end_ < n then (Lg0, 14) else (⟨x.f, x.es, if n > x.d then n else x.d⟩, 0)
def cutS (x : Lg) (n : Int) : Lg × Int := if lgB x = false then (Lg0, 26) else if n < x.f ∨ x.end_ + 1 < n ∨ 1099511627776 < n then (Lg0, 1) else if x.d < n - 1 then (Lg0, 15) else (⟨n, x.es.drop (n - x.f).toNat, x.d⟩, 0)
def lgD (r : Lg × Int) : DV := .tup [.agg r.1.c, .int .i64 r.2]
end
section
structure Tx where
  id : Int
  st : Int
  n : Int
  b : Int
  l : List Int
  s : List Int
def encT : Enc Tx := ⟨6, fun t => [.lit (.int .i64 t.id), .lit (.int .i64 t.st), .lit (.int .i64 t.n), .lit (.int .i64 t.b), .sl (fz encI t.l), .sl (fz encI t.s)], by decide, fun _ => rfl⟩
def Tx.d (t : Tx) : List DV := [.int .i64 t.id, .int .i64 t.st, .int .i64 t.n, .int .i64 t.b, .pv (.sl (fz encI t.l)), .pv (.sl (fz encI t.s))]
def ascC (l : List Int) (lo hi d : Int) (i : Nat) : Bool := decide (lo ≤ l.getD i 0) && decide (l.getD i 0 ≤ hi) && (decide (i = 0) || decide (l.getD (i - 1) 0 + d ≤ l.getD i 0))
def ascB (l : List Int) (lo hi d : Int) : Bool := (List.range l.length).all (ascC l lo hi d)
theorem ascC_iff (l : List Int) (lo hi d : Int) (i : Nat) : ascC l lo hi d i = true ↔ lo ≤ l.getD i 0 ∧ l.getD i 0 ≤ hi ∧ (i = 0 ∨ l.getD (i - 1) 0 + d ≤ l.getD i 0) := by
  simp only [ascC, Bool.and_eq_true, Bool.or_eq_true, decide_eq_true_eq, and_assoc]
def Tx.sm (t : Tx) : Prop := t.l.length ≤ 9223372036854775807 ∧ t.s.length ≤ 9223372036854775807
def Tx.hdB (t : Tx) : Bool := decide (1 ≤ t.id) && decide (t.id ≤ 1073741824) && decide (1 ≤ t.st) && decide (t.st ≤ 3) && decide (0 ≤ t.n) && decide (t.n ≤ 1099511627776) && (decide (t.b = 0) || (decide (t.st = 2) && decide (0 < t.b) && decide (t.b ≤ t.n))) && decide (t.l.length ≤ 4096) && decide (t.s.length ≤ 8)
def Tx.okB (t : Tx) : Bool := t.hdB && ascB t.l 1 t.n 1 && ascB t.s 0 t.n 0
def Tx0 : Tx := ⟨0, 0, 0, 0, [], []⟩
def tC (l : List Tx) (i : Nat) : Bool := (l.getD i Tx0).okB && (decide (i = 0) || decide ((l.getD (i - 1) Tx0).id < (l.getD i Tx0).id))
theorem tC_iff (l : List Tx) (i : Nat) : tC l i = true ↔ (l.getD i Tx0).okB = true ∧ (i = 0 ∨ (l.getD (i - 1) Tx0).id < (l.getD i Tx0).id) := by
  simp only [tC, Bool.and_eq_true, Bool.or_eq_true, decide_eq_true_eq]
def tblB (l : List Tx) : Bool := decide (l.length ≤ 64) && (List.range l.length).all (tC l)
def smL (l : List Tx) : Prop := l.length ≤ 1000000 ∧ ∀ t ∈ l, t.sm
theorem fzT_at (l : List Tx) (i : Nat) (h : i < l.length) : (fz encT l)[i]? = some [.lit (.int .i64 l[i].id), .lit (.int .i64 l[i].st), .lit (.int .i64 l[i].n), .lit (.int .i64 l[i].b), .sl (fz encI l[i].l), .sl (fz encI l[i].s)] := fz_get encT l i h
structure Pass {α : Type} (l : List α) (p : α → Prop) where
  i : Nat
  hi : i ≤ l.length
  no : ∀ x ∈ l.take i, ¬ p x
def Pass.start {α : Type} (l : List α) (p : α → Prop) : Pass l p := ⟨0, Nat.zero_le _, by simp⟩
def Pass.next {α : Type} {l : List α} {p : α → Prop} (s : Pass l p) (h : s.i < l.length) (hp : ¬ p l[s.i]) : Pass l p :=
  ⟨s.i + 1, h, fun x hx => by
    rw [List.take_succ_eq_append_getElem h, List.mem_append] at hx
    rcases hx with hx | hx
    · exact s.no x hx
    · simp at hx; subst hx; exact hp⟩
theorem Pass.all {α : Type} {l : List α} {p : α → Prop} (s : Pass l p) (h : ¬ s.i < l.length) : ∀ x ∈ l, ¬ p x := by
  have := s.no
  rwa [List.take_of_length_le (by omega)] at this
def idxP {α : Type} (l : List α) (p : α → Bool) : Int := if l.any p = true then (l.findIdx p : Int) else -1
theorem idxP_at {α : Type} (l : List α) (p : α → Bool) (i : Nat) (h : i < l.length) (hx : p l[i] = true) (no : ∀ x ∈ l.take i, ¬ p x = true) : idxP l p = i := by
  rw [idxP, if_pos (List.any_eq_true.2 ⟨l[i], List.getElem_mem h, hx⟩)]
  congr 1
  rw [List.findIdx_eq h]
  refine ⟨hx, fun j hj => ?_⟩
  have := no l[j] (List.mem_take_iff_getElem.2 ⟨j, by omega, rfl⟩)
  simpa using this
theorem idxP_find {α : Type} (l : List α) (p : α → Bool) : (idxP l p = -1 ∧ l.find? p = none) ∨ ∃ i, ∃ h : i < l.length, idxP l p = i ∧ l.find? p = some l[i] := by
  by_cases ha : l.any p = true
  · obtain ⟨x, hm, hp⟩ := List.any_eq_true.1 ha
    have hlt := List.findIdx_lt_length_of_exists ⟨x, hm, hp⟩
    refine .inr ⟨l.findIdx p, hlt, by rw [idxP, if_pos ha], ?_⟩
    rw [List.find?_eq_some_iff_getElem]
    refine ⟨List.findIdx_getElem (w := hlt), _, hlt, rfl, fun j hj => ?_⟩
    have := List.not_of_lt_findIdx hj
    simpa using this
  · refine .inl ⟨by rw [idxP, if_neg ha], ?_⟩
    rw [List.find?_eq_none]
    intro x hx hp
    exact ha (List.any_eq_true.2 ⟨x, hx, hp⟩)
def lo {α : Type} (l : List α) (f : α → Bool) : Nat := (l.takeWhile f).length
def Fore {α : Type} (l : List α) (f : α → Bool) : Prop := ∀ i j : Nat, ∀ hi : i < l.length, ∀ hj : j < l.length, i < j → f l[j] = true → f l[i] = true
theorem lo_le {α : Type} (l : List α) (f : α → Bool) : lo l f ≤ l.length := (List.takeWhile_sublist _).length_le
theorem lo_eq {α : Type} (l : List α) (f : α → Bool) (i : Nat) (hi : i ≤ l.length) (h1 : ∀ k, ∀ hk : k < l.length, k < i → f l[k] = true) (h2 : ∀ hi : i < l.length, f l[i] = false) : lo l f = i := by
  unfold lo
  induction l generalizing i with
  | nil => simp at hi; subst hi; rfl
  | cons a r ih =>
    cases i with
    | zero =>
      have := h2 (by simp)
      simp only [List.getElem_cons_zero] at this
      rw [List.takeWhile_cons, this]; rfl
    | succ i =>
      have h0 := h1 0 (by simp) (by omega)
      simp only [List.getElem_cons_zero] at h0
      rw [List.takeWhile_cons, h0]
      simp only [if_true, List.length_cons]
      rw [ih i (by simpa using hi) (fun k hk hki => h1 (k + 1) (by simpa using hk) (by omega)) (fun hi => h2 (by simpa using hi))]
structure BS {α : Type} (l : List α) (f : α → Bool) where
  i : Nat
  j : Nat
  hij : i ≤ j
  hj : j ≤ l.length
  h1 : ∀ k, ∀ hk : k < l.length, k < i → f l[k] = true
  h2 : ∀ hj : j < l.length, f l[j] = false
def BS.start {α : Type} (l : List α) (f : α → Bool) : BS l f := ⟨0, l.length, Nat.zero_le _, Nat.le_refl _, fun k hk h => by omega, fun h => by omega⟩
def BS.up {α : Type} {l : List α} {f : α → Bool} (s : BS l f) (hf : Fore l f) (h : Nat) (h1 : s.i ≤ h) (h2 : h < s.j) (hx : f (l[h]'(Nat.lt_of_lt_of_le h2 s.hj)) = true) : BS l f :=
  ⟨h + 1, s.j, h2, s.hj, fun k hk hki => by
    rcases Nat.lt_or_ge k h with hlt | hge
    · exact hf k h hk (Nat.lt_of_lt_of_le h2 s.hj) hlt hx
    · obtain rfl : k = h := by omega
      exact hx, s.h2⟩
def BS.down {α : Type} {l : List α} {f : α → Bool} (s : BS l f) (h : Nat) (h1 : s.i ≤ h) (h2 : h < s.j) (hx : f (l[h]'(Nat.lt_of_lt_of_le h2 s.hj)) = false) : BS l f :=
  ⟨s.i, h, h1, Nat.le_of_lt (Nat.lt_of_lt_of_le h2 s.hj), s.h1, fun _ => hx⟩
theorem BS.fin {α : Type} {l : List α} {f : α → Bool} (s : BS l f) (h : ¬ s.i < s.j) : lo l f = s.i := by
  have e : s.i = s.j := by have := s.hij; omega
  exact lo_eq l f s.i (by have := s.hj; omega) s.h1 (fun hi => by
    have := s.h2 (e ▸ hi)
    simpa only [e] using this)
theorem fzT_d (l : List Tx) (i : Nat) (h : i < l.length) : (fz encT l)[i]? = some [.lit (.int .i64 (l.getD i Tx0).id), .lit (.int .i64 (l.getD i Tx0).st), .lit (.int .i64 (l.getD i Tx0).n), .lit (.int .i64 (l.getD i Tx0).b), .sl (fz encI (l.getD i Tx0).l), .sl (fz encI (l.getD i Tx0).s)] := by rw [getD_eq l i h]; exact fzT_at l i h
attribute [local go_sem] Tx.d mem_ok List.length_append List.length_take List.length_drop List.take_length toNat_succ toNat_pred toNat_add toNat_sub
theorem rright_v (t : Tx) (hs : t.sm) : VCalls prog 179 [.agg t.d] [] (Ret (.bool t.okB)) := by
  refine dd Tryz.func179 ?_
  obtain ⟨id, st, n, b, l, s⟩ := t
  obtain ⟨hs1, hs2⟩ := hs
  dsimp only at hs1 hs2
  have e : (⟨id, st, n, b, l, s⟩ : Tx).okB = ((⟨id, st, n, b, l, s⟩ : Tx).hdB && ascB l 1 n 1 && ascB s 0 n 0) := rfl
  have eh : (⟨id, st, n, b, l, s⟩ : Tx).hdB = (decide (1 ≤ id) && decide (id ≤ 1073741824) && decide (1 ≤ st) && decide (st ≤ 3) && decide (0 ≤ n) && decide (n ≤ 1099511627776) && (decide (b = 0) || (decide (st = 2) && decide (0 < b) && decide (b ≤ n))) && decide (l.length ≤ 4096) && decide (s.length ≤ 8)) := rfl
  generalize (⟨id, st, n, b, l, s⟩ : Tx).hdB = H at *
  generalize (⟨id, st, n, b, l, s⟩ : Tx).okB = K at *
  unfold Tx.d
  (unfold Tryz.f179; refine rn trivial ?_)
  refine rn F ?_
  repeat' (first
    | with_reducible exact ⟨⟩
    | (refine sG F ?_ ?_ <;> intro hZ)
    | (refine sB F ?_ ?_ <;> intro hZ))
  all_goals first
    | (rw [e, Bool.eq_false_iff.2 (show ¬ H = true from fun h => by rw [eh] at h; simp only [Bool.and_eq_true, Bool.or_eq_true, decide_eq_true_eq] at h; omega)]; rfl)
    | skip
  all_goals
    have hh : H = true := by rw [eh]; simp only [Bool.and_eq_true, Bool.or_eq_true, decide_eq_true_eq]; omega
    refine vloopW (fun q : Okay l.length (ascC l 1 n 1) => ⟨147, 0, [(3, .int .i64 q.i), (1, .ptr 0 0)], [⟨209, true, [.int .i64 id, .int .i64 st, .int .i64 n, .int .i64 b, .pv (.sl (fz encI l)), .pv (.sl (fz encI s))]⟩]⟩) (fun q => l.length - q.i) (Okay.start _ _) (by exact (gc [0])) ?_
    intro q
    have hqi := q.hi
    have hg := fun h : q.i < l.length => fzI_get l q.i h
    have hgp : 0 < (q.i : Int) → (q.i : Int) < l.length → (fz encI l)[q.i - 1]? = some [.lit (.int .i64 (l.getD (q.i - 1) 0))] := fun h h2 => by
      exact fzI_get l (q.i - 1) (by omega)
    have F := (And.intro @hg @hgp)
    refine rn F ?_
    repeat' (first
      | with_reducible exact ⟨⟩
      | (refine sG F ?_ ?_ <;> intro hZ)
      | (refine sB F ?_ ?_ <;> intro hZ)
      | (refine vspine (id := 8) [0, 1, 2, 3, 4, 5, 6, 7, 8, 9, 10, 11, 12, 13, 14, 15, 16, 17, 18, 19, 20, 21, 22, 23, 24, 25, 26, 27, 28, 29, 30, 31, 32, 33] [] (by kernel_rfl) (by kernel_rfl) ?_; refine rn F ?_))
    all_goals first
      | (rw [e, ascB, ascB, all_not (n := l.length) (c := ascC l 1 n 1) (i := q.i) (by omega) (Bool.eq_false_iff.2 fun h => by rw [ascC_iff] at h; omega)]; simp)
      | (exact ⟨q.next (by omega) ((ascC_iff _ _ _ _ _).2 (by omega)), by show l.length - (q.i + 1) < l.length - q.i; omega, (gc [0])⟩)
      | skip
    have hL : ascB l 1 n 1 = true := q.all (by omega)
    clear hg hgp hqi
    refine vloopW (fun q : Okay s.length (ascC s 0 n 0) => ⟨147, 0, [(4, .int .i64 q.i), (1, .ptr 0 0)], [⟨209, true, [.int .i64 id, .int .i64 st, .int .i64 n, .int .i64 b, .pv (.sl (fz encI l)), .pv (.sl (fz encI s))]⟩]⟩) (fun q => s.length - q.i) (Okay.start _ _) (by exact (gc [0])) ?_
    intro q
    have hqi := q.hi
    have hg := fun h : q.i < s.length => fzI_get s q.i h
    have hgp : 0 < (q.i : Int) → (q.i : Int) < s.length → (fz encI s)[q.i - 1]? = some [.lit (.int .i64 (s.getD (q.i - 1) 0))] := fun h h2 => by
      exact fzI_get s (q.i - 1) (by omega)
    have F := (And.intro @hg @hgp)
    refine rn F ?_
    repeat' (first
      | with_reducible exact ⟨⟩
      | (refine sG F ?_ ?_ <;> intro hZ)
      | (refine sB F ?_ ?_ <;> intro hZ)
      | (refine vspine (id := 13) [0, 1, 2, 3, 4, 5, 6, 7, 8, 9, 10, 11, 12, 13, 14, 15, 16, 17, 18, 19, 20, 21, 22, 23, 24, 25, 26, 27, 28, 29, 30, 31, 32, 33] [] (by kernel_rfl) (by kernel_rfl) ?_; refine rn F ?_))
    all_goals first
      | (rw [e, ascB, ascB, all_not (n := s.length) (c := ascC s 0 n 0) (i := q.i) (by omega) (Bool.eq_false_iff.2 fun h => by rw [ascC_iff] at h; omega)]; simp)
      | (exact ⟨q.next (by omega) ((ascC_iff _ _ _ _ _).2 (by omega)), by show s.length - (q.i + 1) < s.length - q.i; omega, (gc [0])⟩)
      | skip
    rw [e, hh, hL, show ascB s 0 n 0 = true from q.all (by omega)]
    rfl
theorem rtvalid_v (l : List Tx) (hl : smL l) : VCalls prog 133 [.pv (.sl (fz encT l))] [] (Ret (.bool (tblB l))) := by
  refine dd Tryz.func133 ?_
  obtain ⟨hl, hm⟩ := hl
  have hr := fun (i : Nat) (h : i < l.length) => rright_v (l.getD i Tx0) (by rw [getD_eq l i h]; exact hm _ (List.getElem_mem h))
  unfold Tx.d at hr
  (unfold Tryz.f133; refine rn trivial ?_)
  refine rn F ?_
  repeat' (first
    | with_reducible exact ⟨⟩
    | (refine sB F ?_ ?_ <;> intro hZ))
  · rw [tblB, decide_eq_false (by omega)]; rfl
  refine vloopW (fun s : Okay l.length (tC l) => ⟨37, 0, [(3, .int .i64 s.i), (0, .pv (.sl (fz encT l)))], []⟩) (fun s => l.length - s.i) (Okay.start _ _) (gc []) ?_
  intro s
  have hsi := s.hi
  have hg := fun h : s.i < l.length => fzT_d l s.i h
  have hgp : 0 < (s.i : Int) → (s.i : Int) < l.length → (fz encT l)[s.i - 1]? = some [.lit (.int .i64 (l.getD (s.i - 1) Tx0).id), .lit (.int .i64 (l.getD (s.i - 1) Tx0).st), .lit (.int .i64 (l.getD (s.i - 1) Tx0).n), .lit (.int .i64 (l.getD (s.i - 1) Tx0).b), .sl (fz encI (l.getD (s.i - 1) Tx0).l), .sl (fz encI (l.getD (s.i - 1) Tx0).s)] := fun h h2 => by
    exact fzT_d l (s.i - 1) (by omega)
  have F := (And.intro @hg @hgp)
  refine rn F ?_
  repeat' (first
    | with_reducible exact ⟨⟩
    | (refine sG F ?_ ?_ <;> intro hZ)
    | (refine sB F ?_ ?_ <;> intro hZ)
    | refine vp F (hr s.i (by omega)) ?_
    | (refine vspine (id := 6) [0, 1, 2, 3] [⟨[], [], 4, [0, 1, 2], [5, 6, 7, 8, 9, 10, 11, 12, 13, 14, 15, 16, 17, 18, 19, 20, 21, 22, 23]⟩] (by kernel_rfl) (by kernel_rfl) ?_; refine rn F ?_))
  all_goals first
    | (rw [tblB, all_not (i := s.i) (by omega) (Bool.eq_false_iff.2 fun h => by rw [tC_iff] at h; omega), Bool.and_false])
    | (rw [tblB, all_not (i := s.i) (by omega) (Bool.eq_false_iff.2 fun h => by rw [tC_iff] at h; first | exact absurd h.1 (by assumption) | (have h1 := h.1; simp_all)), Bool.and_false])
    | (rw [tblB, s.all (by omega), decide_eq_true (by omega)]; rfl)
    | (exact ⟨s.next (by omega) ((tC_iff _ _).2 ⟨by assumption, by omega⟩), by show l.length - (s.i + 1) < l.length - s.i; omega, (gc [])⟩)
    | skip
def keepL {α : Type} (l : List α) (p : α → Bool) : List α := l.filter fun x => !p x
structure DF {α : Type} (l : List α) (p : α → Bool) where
  j : Nat
  hj : j ≤ l.length
  cur : List α
  hl : cur.length = l.length
  h1 : cur.take (keepL (l.take j) p).length = keepL (l.take j) p
  h2 : cur.drop j = l.drop j
  h3 : (keepL (l.take j) p).length < j
def DF.i {α : Type} {l : List α} {p : α → Bool} (s : DF l p) : Nat := (keepL (l.take s.j) p).length
theorem keepL_take_succ {α : Type} (l : List α) (p : α → Bool) (j : Nat) (h : j < l.length) : keepL (l.take (j + 1)) p = keepL (l.take j) p ++ (if p l[j] = true then [] else [l[j]]) := by
  rw [List.take_succ_eq_append_getElem h, keepL, List.filter_append]
  cases hp : p l[j] <;> simp [keepL, hp]
theorem keepL_none {α : Type} (l : List α) (p : α → Bool) (h : ∀ x ∈ l, ¬ p x = true) : keepL l p = l := by
  rw [keepL, List.filter_eq_self]; intro x hx; simpa using h x hx
def DF.start {α : Type} (l : List α) (p : α → Bool) (i : Nat) (h : i < l.length) (hp : p l[i] = true) (no : ∀ x ∈ l.take i, ¬ p x = true) : DF l p :=
  have e : keepL (l.take (i + 1)) p = l.take i := by rw [keepL_take_succ l p i h, if_pos hp, List.append_nil, keepL_none _ p no]
  have el : (l.take i).length = i := by rw [List.length_take]; omega
  ⟨i + 1, h, l, rfl, by rw [e, el], rfl, by rw [e, el]; omega⟩
theorem DF.get {α : Type} {l : List α} {p : α → Bool} (s : DF l p) (h : s.j < l.length) (d : α) : s.cur.getD s.j d = l[s.j] := by
  have := congrArg (fun x => x[0]?) s.h2
  simp only [List.getElem?_drop, Nat.add_zero] at this
  rw [List.getD_eq_getElem?_getD, this, List.getElem?_eq_getElem h]; rfl
def DF.out {α : Type} {l : List α} {p : α → Bool} (s : DF l p) (h : s.j < l.length) (hp : p l[s.j] = true) : DF l p :=
  have e : keepL (l.take (s.j + 1)) p = keepL (l.take s.j) p := by rw [keepL_take_succ l p s.j h, if_pos hp, List.append_nil]
  ⟨s.j + 1, h, s.cur, s.hl, by rw [e]; exact s.h1, by
    have := congrArg (List.drop 1) s.h2
    rwa [List.drop_drop, List.drop_drop] at this, by rw [e]; have := s.h3; omega⟩
def DF.stay {α : Type} {l : List α} {p : α → Bool} (s : DF l p) (h : s.j < l.length) (hp : ¬ p l[s.j] = true) : DF l p :=
  have e : keepL (l.take (s.j + 1)) p = keepL (l.take s.j) p ++ [l[s.j]] := by rw [keepL_take_succ l p s.j h, if_neg hp]
  have hi : s.i < s.j := s.h3
  have hil : s.i < s.cur.length := by rw [s.hl]; have := s.hj; omega
  ⟨s.j + 1, h, s.cur.set s.i l[s.j], by rw [List.length_set]; exact s.hl, by
    rw [e, List.length_append, List.length_singleton]
    show (s.cur.set s.i l[s.j]).take (s.i + 1) = _
    rw [List.take_succ_eq_append_getElem (by rw [List.length_set]; exact hil), List.getElem_set_self, List.take_set_of_le (Nat.le_refl _)]
    congr 1
    exact s.h1, by
    rw [List.drop_set_of_lt (by omega)]
    have := congrArg (List.drop 1) s.h2
    rwa [List.drop_drop, List.drop_drop] at this, by
    rw [e, List.length_append, List.length_singleton]
    have : (keepL (l.take s.j) p).length = s.i := rfl
    omega⟩
theorem keepL_le {α : Type} (l : List α) (p : α → Bool) : (keepL l p).length ≤ l.length := List.length_filter_le _ _
theorem lenT (l : List Tx) : (cells encT l).length = l.length * 6 := cells_len encT l
theorem allT (l : List Tx) (n : Nat) (h : l.length * 6 ≤ n) : (cells encT l).take n = cells encT l := by rw [List.take_of_length_le]; rw [lenT]; exact h
theorem appT (l m : List Tx) : cells encT l ++ cells encT m = cells encT (l ++ m) := (cells_app encT l m).symm
theorem slkT (l : List Tx) (T : TypeId) (a b : Nat) (h : a ≤ b ∧ b ≤ l.length) : vslk (some (none, T, 6)) (fz encT l) a b = some (.pv (.sl (fz encT ((l.take b).drop a)))) := vslk_fz encT l T a b h
theorem srcT (l : List Tx) : (fz encT l = [] ∨ (fz encT l)[0]?.map List.length = some 6) = True := fz_src encT l
theorem frzT {n : Nat} {hp : Heap} {len : Nat} {l : List Tx} (h : l.length = len) : frzC n hp 0 6 len (some (cells encT l)) = some (.sl (fz encT l)) := frzC_cells encT h
theorem wk_T (l : List Tx) : DV.wk.go (cells encT l) = cells encT l := wk_cells encT l fun a p hp => by
  simp [encT] at hp; rcases hp with rfl | rfl | rfl | rfl | rfl | rfl <;> rfl
def tblD (r : List Tx × Int) : DV := .tup [.pv (.sl (fz encT r.1)), .int .i64 r.2]
def idT (l : List Tx) (a : Int) : Int := idxP l fun t => t.id == a
def posT (l : List Tx) (a : Int) : Nat := lo l fun t => decide (t.id < a)
def insT (l : List Tx) (t : Tx) : List Tx := l.take (posT l t.id) ++ t :: l.drop (posT l t.id)
def beginS (l : List Tx) (a : Int) : List Tx × Int :=
  if tblB l = false then ([], 15) else if a < 1 ∨ 1073741824 < a then ([], 1) else if 0 ≤ idT l a then ([], 25) else if l.length = 64 then ([], 21) else (insT l ⟨a, 1, 0, 0, [], []⟩, 0)
theorem tblB_len {l : List Tx} (h : tblB l = true) : l.length ≤ 64 := by
  simp [tblB] at h; exact h.1
def remS (l : List Tx) (a : Int) : List Tx := keepL l fun t => t.id == a
def leftB (t : Tx) (a : Int) : Bool := decide (0 < t.l.length) && decide (a < t.l.getD (t.l.length - 1) 0)
theorem lastI (l : List Int) (h : 0 < l.length) : (fz encI l)[((l.length : Int) - 1).toNat]? = some [.lit (.int .i64 (l.getD (l.length - 1) 0))] := by
  rw [show ((l.length : Int) - 1).toNat = l.length - 1 by omega]; exact fzI_get l (l.length - 1) (by omega)
theorem idT_cases (l : List Tx) (a : Int) : idT l a = -1 ∨ ∃ i, ∃ h : i < l.length, idT l a = i ∧ l[i].id = a := by
  unfold idT idxP
  split
  · rename_i h
    obtain ⟨x, hm, hp⟩ := List.any_eq_true.1 h
    have hlt := List.findIdx_lt_length_of_exists (p := fun t : Tx => t.id == a) ⟨x, hm, hp⟩
    have := List.findIdx_getElem (w := hlt)
    exact .inr ⟨_, hlt, rfl, by simpa using this⟩
  · exact .inl rfl
def activeS (l : List Tx) (a : Int) : Tx × Int :=
  if tblB l = false then (Tx0, 15) else if idT l a < 0 then (Tx0, 16) else if (l.getD (idT l a).toNat Tx0).st ≠ 1 then (Tx0, 15) else (l.getD (idT l a).toNat Tx0, 0)
theorem activeS_ok {l : List Tx} {a : Int} (h : (activeS l a).2 = 0) : tblB l = true ∧ ∃ i, ∃ hi : i < l.length, idT l a = i ∧ l[i].id = a ∧ (activeS l a).1 = l[i] := by
  unfold activeS at h ⊢
  split at h
  · simp at h
  rename_i h1
  split at h
  · simp at h
  rename_i h2
  split at h
  · simp at h
  rename_i h3
  refine ⟨by simpa using h1, ?_⟩
  rcases idT_cases l a with h4 | ⟨i, hi, h4, h5⟩
  · omega
  · rw [if_neg h1, if_neg h2, if_neg h3]
    exact ⟨i, hi, h4, h5, by rw [h4, Int.toNat_natCast, getD_eq l i hi]⟩
theorem app_I (l : List Int) (x : Int) : cells encI l ++ [.pv (.lit (.int .i64 x))] = cells encI (l ++ [x]) := by rw [cells_app]; rfl
theorem lenI (l : List Int) : (cells encI l).length = l.length * 1 := cells_len encI l
theorem allI (l : List Int) (n : Nat) (h : l.length * 1 ≤ n) : (cells encI l).take n = cells encI l := by rw [List.take_of_length_le]; rw [lenI]; exact h
theorem appI (l m : List Int) : cells encI l ++ cells encI m = cells encI (l ++ m) := (cells_app encI l m).symm
theorem slkI (l : List Int) (T : TypeId) (a b : Nat) (h : a ≤ b ∧ b ≤ l.length) : vslk (some (none, T, 1)) (fz encI l) a b = some (.pv (.sl (fz encI ((l.take b).drop a)))) := vslk_fz encI l T a b h
theorem srcI (l : List Int) : (fz encI l = [] ∨ (fz encI l)[0]?.map List.length = some 1) = True := fz_src encI l
theorem frzI {n : Nat} {hp : Heap} {len : Nat} {l : List Int} (h : l.length = len) : frzC n hp 0 1 len (some (cells encI l)) = some (.sl (fz encI l)) := frzC_cells encI h
theorem tblB_at {l : List Tx} (h : tblB l = true) {i : Nat} (hi : i < l.length) : l[i].okB = true := by
  simp only [tblB, Bool.and_eq_true, List.all_eq_true, List.mem_range, decide_eq_true_eq] at h
  have := ((tC_iff l i).1 (h.2 i hi)).1
  rwa [getD_eq l i hi] at this
def saveS (l : List Tx) (a : Int) : List Tx × Int :=
  if (activeS l a).2 ≠ 0 then ([], (activeS l a).2) else if (activeS l a).1.s.length = 8 then ([], 21) else (l.set (idT l a).toNat { (activeS l a).1 with s := (activeS l a).1.s ++ [(activeS l a).1.n] }, 0)
def backS (l : List Tx) (a sv : Int) : List Tx × Int :=
  if (activeS l a).2 ≠ 0 then ([], (activeS l a).2)
  else if sv < 0 ∨ ((activeS l a).1.s.length : Int) ≤ sv then ([], 19)
  else if leftB (activeS l a).1 ((activeS l a).1.s.getD sv.toNat 0) = true then (l.set (idT l a).toNat { (activeS l a).1 with s := (activeS l a).1.s.take (sv.toNat + 1), st := 2, b := (activeS l a).1.s.getD sv.toNat 0 }, 0)
  else (l.set (idT l a).toNat { (activeS l a).1 with s := (activeS l a).1.s.take (sv.toNat + 1) }, 0)
theorem asc_pairwise {l : List Int} {lo hi : Int} (h : ascB l lo hi 1 = true) : l.Pairwise (· < ·) := by
  simp only [ascB, List.all_eq_true, List.mem_range] at h
  rw [List.pairwise_iff_getElem]
  have step : ∀ i, ∀ h2 : i + 1 < l.length, l[i] < l[i + 1] := fun i h2 => by
    have := (ascC_iff _ _ _ _ _).1 (h (i + 1) h2)
    rw [getD_eq l (i + 1) h2, Nat.add_sub_cancel, getD_eq l i (by omega)] at this
    omega
  have all : ∀ d i, ∀ h2 : i + d + 1 < l.length, l[i] < l[i + d + 1] := fun d => by
    induction d with
    | zero => exact step
    | succ d ih => intro i h2; exact Int.lt_trans (ih i (by omega)) (step (i + d + 1) h2)
  intro i j hi hj hij
  have := all (j - i - 1) i (by omega)
  simpa only [show i + (j - i - 1) + 1 = j by omega] using this
theorem okB_asc {t : Tx} (h : t.okB = true) : t.l.Pairwise (· < ·) := by
  simp only [Tx.okB, Bool.and_eq_true] at h
  exact asc_pairwise h.1.2
theorem okB_len {t : Tx} (h : t.okB = true) : t.l.length ≤ 4096 ∧ t.s.length ≤ 8 := by
  simp only [Tx.okB, Tx.hdB, Bool.and_eq_true, decide_eq_true_eq] at h
  omega
def settleS (t : Tx) : Tx := if t.st = 2 ∧ leftB t t.b = false then { t with st := 1, b := 0 } else t
def noteT (t : Tx) (e : E) : Tx :=
  if e.kind = 1 then { t with n := e.lsn, l := t.l ++ [e.lsn] }
  else if e.kind = 2 then { t with n := e.lsn, l := t.l.filter fun x => decide (x ≠ e.ref) }
  else { t with n := e.lsn, st := 3, b := 0, s := [] }
def noteA (l : List Tx) (i : Nat) (t : Tx) (e : E) : List Tx × Int :=
  if e.ptx ≠ t.n ∨ (e.kind = 2 ∧ e.ref ∉ t.l) then ([], 13)
  else if e.kind = 3 ∨ e.kind = 5 then (remS l e.tx, 0)
  else (l.set i (settleS (noteT t e)), 0)
def noteS (l : List Tx) (e : E) : List Tx × Int :=
  if tblB l = false then ([], 15) else if e.okB = false then ([], 12) else if e.tx = 0 then (l, 0) else if idT l e.tx < 0 then ([], 16)
  else noteA l (idT l e.tx).toNat (l.getD (idT l e.tx).toNat Tx0) e
theorem okB_kind {e : E} (h : e.okB = true) (ht : e.tx ≠ 0) : e.kind = 1 ∨ e.kind = 2 ∨ e.kind = 3 ∨ e.kind = 4 ∨ e.kind = 5 := by
  obtain ⟨lsn, kind, tx, ptx, ppg, ref, c, blob⟩ := e
  simp only [E.okB, Bool.and_eq_true] at h
  have h := h.2
  rw [kindB_eq] at h
  dsimp only at ht ⊢
  rcases kind_cases kind with hk | rfl | rfl | rfl | rfl | rfl | rfl | rfl | rfl
  · rw [if_neg (by omega), if_neg (by omega), if_neg (by omega), if_neg (by omega), if_neg (by omega)] at h; cases h
  all_goals first | omega | (simp at h; omega)
theorem noteS_at {l : List Tx} {e : E} (h1 : tblB l = true) (h2 : e.okB = true) (h3 : e.tx ≠ 0) {i : Nat} (hi : i < l.length) (h4 : idT l e.tx = i) : noteS l e = noteA l i l[i] e := by
  unfold noteS
  rw [if_neg (by rw [h1]; decide), if_neg (by rw [h2]; decide), if_neg h3, h4, if_neg (by omega), Int.toNat_natCast, getD_eq l i hi]
def w0 : List Tx := [⟨1, 1, 0, 0, [], []⟩]
def w1 : List Tx := [⟨1, 1, 1, 0, [1], []⟩]
def w2 : List Tx := [⟨1, 1, 1, 0, [1], [1]⟩]
def w3 : List Tx := [⟨1, 1, 2, 0, [1, 2], [1]⟩]
def w4 : List Tx := [⟨1, 1, 3, 0, [1, 2, 3], [1]⟩]
def w5 : List Tx := [⟨1, 2, 3, 1, [1, 2, 3], [1]⟩]
end
section
structure Md where
  on : Bool
  done : List Bool
  wait : List Int
theorem lenBo (l : List Bool) : (cells encB l).length = l.length * 1 := cells_len encB l
theorem allBo (l : List Bool) (n : Nat) (h : l.length * 1 ≤ n) : (cells encB l).take n = cells encB l := by rw [List.take_of_length_le]; rw [lenBo]; exact h
theorem appBo (l m : List Bool) : cells encB l ++ cells encB m = cells encB (l ++ m) := (cells_app encB l m).symm
theorem slkBo (l : List Bool) (T : TypeId) (a b : Nat) (h : a ≤ b ∧ b ≤ l.length) : vslk (some (none, T, 1)) (fz encB l) a b = some (.pv (.sl (fz encB ((l.take b).drop a)))) := vslk_fz encB l T a b h
theorem srcBo (l : List Bool) : (fz encB l = [] ∨ (fz encB l)[0]?.map List.length = some 1) = True := fz_src encB l
theorem frzBo {n : Nat} {hp : Heap} {len : Nat} {l : List Bool} (h : l.length = len) : frzC n hp 0 1 len (some (cells encB l)) = some (.sl (fz encB l)) := frzC_cells encB h
theorem app_Bo (l : List Bool) (a : Bool) : cells encB l ++ [.pv (.lit (.bool a))] = cells encB (l ++ [a]) := by rw [cells_app]; rfl
theorem app_In (l : List Int) (a : Int) : cells encI l ++ [.pv (.lit (.int .i64 a))] = cells encI (l ++ [a]) := by rw [cells_app]; rfl
@[go_sem] def Md.c (m : Md) : List DV := [.bool m.on, .pv (.sl (fz encB m.done)), .pv (.sl (fz encI m.wait))]
attribute [local go_sem] lenBo allBo appBo slkBo srcBo frzBo app_Bo app_In
@[go_sem] def mdD (a : Md × Int) : DV := .tup [.agg a.1.c, .int .i64 a.2]
theorem sbit_v (b : Bool) : VCalls prog 26 [.bool b] [] (Ret (.int .i64 (if b = true then 1 else 0))) := by
  refine dk Tryz.func26 ?_
  (unfold Tryz.f26; refine rn trivial ?_)
  cases b <;> (refine rn trivial ?_; try with_reducible exact ⟨⟩)
theorem srbit_v (b : Bool) : VCalls prog 28 [.bool b] [] (Ret (.int .i64 (if b = true then 1 else 0))) := by
  refine dk Tryz.func28 ?_
  (unfold Tryz.f28; refine rn trivial ?_)
  cases b <;> (refine rn trivial ?_; try with_reducible exact ⟨⟩)
theorem scount_v (n : Int) (h0 : 0 ≤ n) (h1 : n ≤ 1000) : VCalls prog 42 [.int .i64 n] [] (RetS (fun k : Nat => .int .i64 k) fun k => (k : Int) = (n + 3) / 4) := by
  refine dk Tryz.func42 ?_
  (unfold Tryz.f42; refine rn trivial ?_)
  refine ⟨rfl, rfl, ((n + 3) / 4).toNat, ?_, by omega⟩
  have e : (n + 4 - 1).tdiv 4 = (n + 3) / 4 := by rw [Int.tdiv_eq_ediv_of_nonneg (by omega)]; congr 1; omega
  rw [e, wrap_i64_in (by omega)]
  show _ = DV.int .i64 (((n + 3) / 4).toNat : Nat)
  rw [Int.toNat_of_nonneg (by omega)]
theorem srcount_v (n : Int) (h0 : 0 ≤ n) (h1 : n ≤ 1000) : VCalls prog 43 [.int .i64 n] [] (RetS (fun k : Nat => .int .i64 k) fun k => (k : Int) = (n + 3) / 4) := by
  refine dk Tryz.func43 ?_
  (unfold Tryz.f43; refine rn trivial ?_)
  refine ⟨rfl, rfl, ((n + 3) / 4).toNat, ?_, by omega⟩
  have e : (n + 4 - 1).tdiv 4 = (n + 3) / 4 := by rw [Int.tdiv_eq_ediv_of_nonneg (by omega)]; congr 1; omega
  rw [e, wrap_i64_in (by omega)]
  show _ = DV.int .i64 (((n + 3) / 4).toNat : Nat)
  rw [Int.toNat_of_nonneg (by omega)]
theorem snew10_v : VCalls prog 20 [.int .i64 10] [] (Ret (mdD (⟨true, [false, false, false], []⟩, 0))) := by
  refine dk Tryz.func20 ?_
  (unfold Tryz.f20; refine rn trivial ?_)
  refine vc_pureR (scount_v 10 (by omega) (by omega)) rfl ?_
  rintro _ ⟨k, rfl, hk⟩
  obtain rfl : k = 3 := by omega
  refine rn trivial ?_
  rfl
theorem srnew_v (n : Int) (h0 : 1 ≤ n) (h1 : n ≤ 64) : VCalls prog 22 [.int .i64 n] [] (RetS mdD fun a => a.1.done.length ≤ 16 ∧ a.1.wait.length = 0) := by
  refine dk Tryz.func22 ?_
  (unfold Tryz.f22; refine rn trivial ?_)
  have n1 : ¬ n < 1 := by omega
  have n2 : ¬ n > 64 := by omega
  refine rn (And.intro @n1 @n2) ?_
  refine vc_pureR (srcount_v n (by omega) (by omega)) rfl ?_
  rintro _ ⟨k, rfl, hk⟩
  have hk2 : k ≤ 16 := by omega
  have hk3 : (k : Int).toNat = k := rfl
  refine rn @hk3 ?_
  exact ⟨rfl, rfl, (⟨true, List.replicate k false, []⟩, 0), rfl, by simp; omega, rfl⟩
theorem srange_v : VCalls prog 21 [.int .i64 10, .int .i64 2] [] (Ret (.tup [.int .i64 8, .int .i64 9, .bool true])) := by
  refine dk Tryz.func21 ?_
  (unfold Tryz.f21; refine rn trivial ?_)
  refine vc_pureR (scount_v 10 (by omega) (by omega)) rfl ?_
  rintro _ ⟨k, rfl, hk⟩
  obtain rfl : k = 3 := by omega
  (refine rn trivial ?_; try with_reducible exact ⟨⟩)
theorem sawake_v : VCalls prog 5 [] [] (Ret (.bool true)) := by
  refine dk Tryz.func5 ?_
  (unfold Tryz.f5; refine rn trivial ?_)
  refine vc_pure snew10_v rfl ?_
  refine rn trivial ?_
  refine vc_pure srange_v rfl ?_
  (refine rn trivial ?_; try with_reducible exact ⟨⟩)
end
section
attribute [local go_sem] lenBo allBo appBo slkBo srcBo frzBo app_Bo lenI allI appI slkI srcI frzI app_In
theorem fz_gD {α : Type} (e : Enc α) (l : List α) (d : α) (i : Nat) (h : i < l.length) : (fz e l)[i]? = some (e.enc (l.getD i d)) := by
  rw [List.getD_eq_getElem?_getD, List.getElem?_eq_getElem h]; exact fz_get e l i h
theorem fzBo_g (l : List Bool) (i : Nat) (h : i < l.length) : (fz encB l)[i]? = some [.lit (.bool (l.getD i false))] := fz_gD encB l false i h
theorem fzIn_g (l : List Int) (i : Nat) (h : i < l.length) : (fz encI l)[i]? = some [.lit (.int .i64 (l.getD i 0))] := fz_gD encI l 0 i h
def allB (l : List Bool) : Bool := (List.range l.length).all fun i => l.getD i false
structure AllTo (l : List Bool) where
  i : Nat
  hi : i ≤ l.length
  ok : ∀ k, k < i → l.getD k false = true
def AllTo.start (l : List Bool) : AllTo l := ⟨0, Nat.zero_le _, fun k h => by omega⟩
def AllTo.next {l : List Bool} (s : AllTo l) (h : s.i < l.length) (hc : l.getD s.i false = true) : AllTo l := ⟨s.i + 1, h, fun k hk => by
  rcases Nat.lt_or_ge k s.i with hlt | hge
  · exact s.ok k hlt
  · obtain rfl : k = s.i := by omega
    exact hc⟩
theorem AllTo.yes {l : List Bool} (s : AllTo l) (h : ¬ s.i < l.length) : allB l = true := by
  unfold allB
  rw [List.all_eq_true]
  intro k hk
  rw [List.mem_range] at hk
  exact s.ok k (by omega)
theorem allB_no {l : List Bool} {i : Nat} (h : i < l.length) (hc : l.getD i false = false) : allB l = false := by
  unfold allB
  rw [List.all_eq_false]
  exact ⟨i, List.mem_range.2 h, by rw [hc]; decide⟩
theorem srall_v (l : List Bool) (hl : l.length ≤ 9223372036854775807) : VCalls prog 46 [.pv (.sl (fz encB l))] [] (Ret (.bool (allB l))) := by
  refine dk Tryz.func46 ?_
  (unfold Tryz.f46; refine rn trivial ?_)
  refine vloopW (fun s : AllTo l => ⟨15, 0, [(3, .int .i64 s.i), (0, .pv (.sl (fz encB l)))], []⟩) (fun s => l.length - s.i) (AllTo.start l) (gc []) ?_
  intro s
  have hsi := s.hi
  by_cases h : s.i < l.length
  · have hg := fzBo_g l s.i h
    cases hb : l.getD s.i false
    · rw [hb] at hg
      have F := @hg
      refine rn F ?_
      rw [allB_no h hb]
    · rw [hb] at hg
      have F := @hg
      refine rn F ?_
      exact ⟨s.next h hb, by show l.length - (s.i + 1) < l.length - s.i; omega, (gc [])⟩
  · skip
    have F := trivial
    refine rn F ?_
    rw [s.yes h]
theorem sindex_v (l : List Bool) (hl : l.length ≤ 9223372036854775807) : VCalls prog 56 [.pv (.sl (fz encB l)), .bool false] [] (RetS (fun n : Int => .int .i64 n) fun n => decide (n ≥ 0) = !allB l) := by
  refine dk Tryz.func56 ?_
  (unfold Tryz.f56; refine rn trivial ?_)
  refine vloopW (fun s : AllTo l => ⟨19, 0, [(8, .int .i64 s.i), (7, .int .i64 l.length), (1, .bool false), (0, .pv (.sl (fz encB l)))], []⟩) (fun s => l.length - s.i) (AllTo.start l) (gc []) ?_
  intro s
  have hsi := s.hi
  by_cases h : s.i < l.length
  · have hg := fzBo_g l s.i h
    cases hb : l.getD s.i false
    · rw [hb] at hg
      have F := @hg
      refine rn F ?_
      exact ⟨rfl, rfl, s.i, rfl, by rw [allB_no h hb]; simp⟩
    · rw [hb] at hg
      have F := @hg
      refine rn F ?_
      exact ⟨s.next h hb, by show l.length - (s.i + 1) < l.length - s.i; omega, (gc [])⟩
  · skip
    have F := trivial
    refine rn F ?_
    exact ⟨rfl, rfl, -1, rfl, by rw [s.yes h]; simp⟩
theorem scontains_v (l : List Bool) (hl : l.length ≤ 9223372036854775807) : VCalls prog 41 [.pv (.sl (fz encB l)), .bool false] [] (Ret (.bool (!allB l))) := by
  refine dk Tryz.func41 ?_
  (unfold Tryz.f41; refine rn trivial ?_)
  refine vc_pureR (sindex_v l hl) rfl ?_
  rintro _ ⟨n, rfl, hn⟩
  refine rn trivial ?_
  exact congrArg DV.bool hn
def vB (on : Bool) (l : List Bool) : Bool := if on = true then decide (1 ≤ l.length) && decide (l.length ≤ 16) && !allB l else decide (l.length = 0)
theorem svalid_v (on : Bool) (l : List Bool) (hl : l.length ≤ 1000000) : VCalls prog 19 [.agg (Md.c ⟨on, l, []⟩)] [] (Ret (.bool (vB on l))) := by
  refine dk Tryz.func19 ?_
  (unfold Tryz.f19; refine rn trivial ?_)
  have c1 := scontains_v l (by omega)
  have e1 : vB true l = (decide (1 ≤ l.length) && decide (l.length ≤ 16) && !allB l) := rfl
  cases on
  · skip
    refine rn F ?_
    have e : (((l.length : Nat) : Int) + ((0 : Nat) : Int) == 0) = vB false l := by
      unfold vB
      rw [Bool.eq_iff_iff]
      simp
    exact congrArg DV.bool e
  refine rn F ?_
  repeat' (first
    | with_reducible exact ⟨⟩
    | (refine sG F ?_ ?_ <;> intro hZ)
    | (refine sB F ?_ ?_ <;> intro hZ)
    | refine vp F (c1) ?_)
  · rw [e1, hZ]; simp
  · refine vloopW (fun _ : Unit => ⟨70, 0, [(40, .int .i64 0), (39, .int .i64 0)], []⟩) (fun _ => 0) () (gc []) ?_
    intro _
    refine rn F ?_
    rw [e1, hZ, decide_eq_true (by omega), decide_eq_true (by omega)]; rfl
  · rw [e1, decide_eq_false (show ¬ l.length ≤ 16 by omega), Bool.and_false]; rfl
  · rw [e1, decide_eq_false (show ¬ 1 ≤ l.length by omega)]; rfl
structure Wo (l : List Int) where
  i : Nat
  o : List Int
  hi : i ≤ l.length
  ho : o.length ≤ i
@[go_sem] def ilW (l : List Int) : DV := .pv (.sl (fz encI l))
theorem swithout_v (l : List Int) (hl : l.length ≤ 100000) (n : Int) : VCalls prog 45 [.pv (.sl (fz encI l)), .int .i64 n] [] (RetS ilW fun m => m.length ≤ l.length) := by
  refine dk Tryz.func45 ?_
  (unfold Tryz.f45; refine rn trivial ?_)
  refine VLoop.nilOwn 5 3 1 rfl ?_
  refine rn trivial ?_
  refine vloopW (fun s : Wo l => ⟨27, 0, [(6, .int .i64 s.i), (5, .own 0 1 0 s.o.length), (1, .int .i64 n), (0, .pv (.sl (fz encI l)))], [⟨3, true, cells encI s.o⟩]⟩) (fun s => l.length - s.i) ⟨0, [], Nat.zero_le _, Nat.zero_le _⟩ (gc [0]) ?_
  rintro ⟨i, o, hi, ho⟩
  dsimp only
  have hb : (o.length + 1) * 8 ≤ 140737488355328 := by omega
  have hg := fun h : i < l.length => fzIn_g l i h
  have F := (And.intro @hg @hb)
  refine rn F ?_
  repeat' (first
    | with_reducible exact ⟨⟩
    | (refine sB F ?_ ?_ <;> intro hZ))
  all_goals first
    | exact ⟨rfl, rfl, o, rfl, by omega⟩
    | exact ⟨⟨i + 1, o, by omega, by omega⟩, by dsimp only; omega, (gc [0])⟩
    | (refine ⟨⟨i + 1, o ++ [l.getD i 0], by omega, by rw [List.length_append]; simp; omega⟩, by dsimp only; omega, ?_⟩
       dsimp only
       rw [List.length_append]
       exact (gc [2]))
def Md.sm (m : Md) : Prop := m.done.length ≤ 16 ∧ m.wait.length ≤ 1000
theorem srvalid_v (m : Md) (hm : m.done.length ≤ 1000000 ∧ m.wait.length ≤ 1000) : VCalls prog 53 [.agg m.c] [] (RetS (fun b : Bool => .bool b) fun b => m.wait = [] → b = vB m.on m.done) := by
  refine dk Tryz.func53 ?_
  obtain ⟨on, l, w⟩ := m
  obtain ⟨h1, h2⟩ := hm
  dsimp only at h1 h2 ⊢
  (unfold Tryz.f53; refine rn trivial ?_)
  have c1 := srall_v l (by omega)
  have e1 : vB true l = (decide (1 ≤ l.length) && decide (l.length ≤ 16) && !allB l) := rfl
  cases on
  · skip
    refine rn F ?_
    repeat' (first
      | with_reducible exact ⟨⟩
      | (refine sG F ?_ ?_ <;> intro hZ))
    · refine ⟨rfl, rfl, _, rfl, fun h => ?_⟩
      subst h
      unfold vB
      rw [if_neg (by decide), decide_eq_true (show l.length = 0 by omega)]; rfl
    · refine ⟨rfl, rfl, _, rfl, fun h => ?_⟩
      unfold vB
      rw [if_neg (by decide), decide_eq_false (show ¬ l.length = 0 by omega)]
  refine rn F ?_
  repeat' (first
    | with_reducible exact ⟨⟩
    | (refine sG F ?_ ?_ <;> intro hZ)
    | (refine sB F ?_ ?_ <;> intro hZ)
    | refine vp F (c1) ?_)
  · exact ⟨rfl, rfl, _, rfl, fun h => by rw [e1, hZ]; simp⟩
  · refine vloopW (fun s : {i : Nat // i ≤ w.length} => ⟨74, 0, [(3, .int .i64 s.1), (1, .ptr 0 0)], [⟨34, true, Md.c ⟨true, l, w⟩⟩]⟩) (fun s => w.length - s.1) ⟨0, Nat.zero_le _⟩ (gc [0]) ?_
    rintro ⟨i, hi⟩
    dsimp only
    have hg := fun h : i < w.length => fzIn_g w i h
    have hd := fun (h0 : ¬ w.getD i 0 < 0) (h1 : ¬ (w.getD i 0) ≥ l.length) => fzBo_g l (w.getD i 0).toNat (by omega)
    by_cases hlt : i < w.length
    · have hne : ∀ (b : Bool), w = [] → b = vB true l := fun b h => by subst h; simp at hlt
      have F := (And.intro @hg @hd)
      refine rn F ?_
      repeat' (first
        | with_reducible exact ⟨⟩
        | (refine sG F ?_ ?_ <;> intro hZ)
        | (refine sB F ?_ ?_ <;> intro hZ))
      all_goals first | exact ⟨rfl, rfl, _, rfl, hne _⟩ | skip
      refine vloopW (fun s : {k : Nat // k ≤ i} => ⟨74, 0, [(5, .int .i64 s.1), (4, .int .i64 (w.getD i 0)), (3, .int .i64 i), (1, .ptr 0 0)], [⟨34, true, Md.c ⟨true, l, w⟩⟩]⟩) (fun s => i - s.1) ⟨0, Nat.zero_le _⟩ (gc [0]) ?_
      rintro ⟨k, hk⟩
      dsimp only
      have hgk := fun h : k < i => fzIn_g w k (by omega)
      have F := @hgk
      refine rn F ?_
      repeat' (first
        | with_reducible exact ⟨⟩
        | (refine sB F ?_ ?_ <;> intro hZ))
      all_goals first
        | exact ⟨rfl, rfl, _, rfl, hne _⟩
        | exact ⟨⟨k + 1, by omega⟩, by dsimp only; omega, (gc [0])⟩
        | exact ⟨⟨i + 1, by omega⟩, by dsimp only; omega, (gc [0])⟩
        | skip
    · skip
      have F := trivial
      refine rn F ?_
      exact ⟨rfl, rfl, _, rfl, fun h => by rw [e1, (by assumption : allB l = false), decide_eq_true (by omega), decide_eq_true (by omega)]; rfl⟩
  · exact ⟨rfl, rfl, _, rfl, fun h => by rw [e1, decide_eq_false (show ¬ l.length ≤ 16 by omega), Bool.and_false]; rfl⟩
  · exact ⟨rfl, rfl, _, rfl, fun h => by rw [e1, decide_eq_false (show ¬ 1 ≤ l.length by omega)]; rfl⟩
theorem scheck_v (m : Md) (hm : m.sm) (n : Int) : VCalls prog 44 [.agg m.c, .int .i64 n] [] (RetS (fun e : Int => .int .i64 e) fun e => e = 0 → 0 ≤ n ∧ n < m.done.length) := by
  refine dk Tryz.func44 ?_
  have c1 := srvalid_v m ⟨by have := hm.1; omega, hm.2⟩
  obtain ⟨on, l, w⟩ := m
  obtain ⟨h1, h2⟩ := hm
  dsimp only at h1 h2 ⊢
  (unfold Tryz.f44; refine rn trivial ?_)
  refine vc_pureR c1 rfl ?_
  rintro _ ⟨b, rfl, -⟩
  refine rn F ?_
  repeat' (first
    | with_reducible exact ⟨⟩
    | (refine sG F ?_ ?_ <;> intro hZ)
    | (refine sB F ?_ ?_ <;> intro hZ))
  all_goals exact ⟨rfl, rfl, _, rfl, fun h => by first | omega | exact absurd h (by decide)⟩
end
section
attribute [local go_sem] lenBo allBo appBo slkBo srcBo frzBo app_Bo lenI allI appI slkI srcI frzI app_In E.d
def bitN (b : Bool) : Int := if b = true then 1 else 0
def blobK (m : Md) (k : Nat) : List UInt8 := putL (putL [77, 68] (bitN m.on) 1) m.done.length 1 ++ (m.done.take k).map fun b => byteI (bitN b) 0
def noteM (m : Md) : E := ⟨0, 8, 0, 0, 0, 0, Ch0, blobK m m.done.length⟩
abbrev eZs : List DV := [.int .i64 0, .int .i64 0, .int .i64 0, .int .i64 0, .int .i64 0, .int .i64 0, .int .i64 0, .int .i64 0, .bool false, .pv (.str []), .bool false, .pv (.str []), .pv (.str [])]
theorem blobK_len (m : Md) (k : Nat) (h : k ≤ m.done.length) : (blobK m k).length = 4 + k := by
  simp [blobK, putL_len]; omega
theorem blobK_0 (m : Md) : putL (putL [77, 68] (bitN m.on) 1) m.done.length 1 = blobK m 0 := by simp [blobK]
theorem blobK_succ (m : Md) (i : Nat) (h : i < m.done.length) : putL (blobK m i) (bitN (m.done.getD i false)) 1 = blobK m (i + 1) := by
  unfold blobK putL
  rw [List.take_succ_eq_append_getElem h, List.map_append, List.getD_eq_getElem?_getD, List.getElem?_eq_getElem h]
  simp
theorem snote_v (m : Md) (hm : m.done.length ≤ 16) : VCalls prog 10 [.agg m.c] [] (Ret (.agg (noteM m).d)) := by
  refine dk Tryz.func10 ?_
  have q0 := fun b : Bool => sbit_v b
  have q1 := put_v [77, 68] (by decide) (bitN m.on) 1 (by decide) (by decide)
  have q2 := put_v (putL [77, 68] (bitN m.on) 1) (by rw [putL_len]; simp) m.done.length 1 (by decide) (by decide)
  rw [blobK_0] at q2
  have e0 : ∀ b : Bool, (if b = true then (1 : Int) else 0) = bitN b := fun _ => rfl
  simp only [e0] at q0
  have q00 := q0 m.on
  (unfold Tryz.f10; refine rn trivial ?_)
  refine rn F ?_
  repeat' (first
    | with_reducible exact ⟨⟩
    | refine vp F (q00) ?_
    | refine vp F (q1) ?_
    | refine vp F (q2) ?_
    | (refine vspine (id := 1) [0, 1, 4, 5, 6] [⟨[], [], 2, [0, 4, 5, 6], []⟩, ⟨[], [], 3, [0, 1, 4, 5, 6], []⟩, ⟨[], [], 7, [0, 1, 4, 5], []⟩, ⟨[], [], 8, [], []⟩] (by kernel_rfl) (by kernel_rfl) ?_; refine rn F ?_))
  refine vloopW (fun s : {i : Nat // i ≤ m.done.length} => ⟨28, 0, [(17, .int .i64 s.1), (16, .int .i64 m.done.length), (15, .pv (.sl (fz encB m.done))), (3, .pv (.str (blobK m s.1))), (2, .ptr 1 0)], [⟨34, true, m.c⟩, ⟨41, true, eZs⟩]⟩) (fun s => m.done.length - s.1) ⟨0, Nat.zero_le _⟩ (gc [0, 1]) ?_
  rintro ⟨i, hi⟩
  dsimp only
  have hb := blobK_len m i hi
  by_cases h : i < m.done.length
  · have hg := fzBo_g m.done i h
    have q3 := q0 (m.done.getD i false)
    have q4 := put_v (blobK m i) (by omega) (bitN (m.done.getD i false)) 1 (by decide) (by decide)
    rw [blobK_succ m i h] at q4
    have F := @hg
    refine rn F ?_
    repeat' (first
      | with_reducible exact ⟨⟩
      | refine vp F (q3) ?_
      | refine vp F (q4) ?_)
    exact ⟨⟨i + 1, h⟩, by dsimp only; omega, (gc [0, 1])⟩
  · obtain rfl : i = m.done.length := by omega
    have F := trivial
    refine rn F ?_
    rfl
theorem srnote_v (m : Md) (hm : m.done.length ≤ 16) : VCalls prog 11 [.agg m.c] [] (Ret (.agg (noteM m).d)) := by
  refine dk Tryz.func11 ?_
  have q0 := fun b : Bool => srbit_v b
  have q1 := rput_v [77, 68] (by decide) (bitN m.on) 1 (by decide) (by decide)
  have q2 := rput_v (putL [77, 68] (bitN m.on) 1) (by rw [putL_len]; simp) m.done.length 1 (by decide) (by decide)
  rw [blobK_0] at q2
  have e0 : ∀ b : Bool, (if b = true then (1 : Int) else 0) = bitN b := fun _ => rfl
  simp only [e0] at q0
  have q00 := q0 m.on
  (unfold Tryz.f11; refine rn trivial ?_)
  refine rn F ?_
  repeat' (first
    | with_reducible exact ⟨⟩
    | refine vp F (q00) ?_
    | refine vp F (q1) ?_
    | refine vp F (q2) ?_
    | (refine vspine (id := 1) [0, 1, 4, 5, 6] [⟨[], [], 2, [0, 4, 5, 6], []⟩, ⟨[], [], 3, [0, 1, 4, 5, 6], []⟩, ⟨[], [], 7, [0, 1, 4, 5], []⟩, ⟨[], [], 8, [], []⟩] (by kernel_rfl) (by kernel_rfl) ?_; refine rn F ?_))
  refine vloopW (fun s : {i : Nat // i ≤ m.done.length} => ⟨30, 0, [(4, .int .i64 s.1), (3, .pv (.str (blobK m s.1))), (2, .ptr 1 0), (1, .ptr 0 0)], [⟨34, true, m.c⟩, ⟨41, true, eZs⟩]⟩) (fun s => m.done.length - s.1) ⟨0, Nat.zero_le _⟩ (gc [0, 1]) ?_
  rintro ⟨i, hi⟩
  dsimp only
  have hb := blobK_len m i hi
  by_cases h : i < m.done.length
  · have hg := fzBo_g m.done i h
    have q3 := q0 (m.done.getD i false)
    have q4 := rput_v (blobK m i) (by omega) (bitN (m.done.getD i false)) 1 (by decide) (by decide)
    rw [blobK_succ m i h] at q4
    have F := @hg
    refine rn F ?_
    repeat' (first
      | with_reducible exact ⟨⟩
      | refine vp F (q3) ?_
      | refine vp F (q4) ?_)
    exact ⟨⟨i + 1, h⟩, by dsimp only; omega, (gc [0, 1])⟩
  · obtain rfl : i = m.done.length := by omega
    have F := trivial
    refine rn F ?_
    rfl
end
section
attribute [local go_sem] lenBo allBo appBo slkBo srcBo frzBo app_Bo lenI allI appI slkI srcI frzI app_In
theorem strS_get (s : List UInt8) (i : Nat) (h : i < s.length) : s[i]? = some (s.getD i 0) := by rw [List.getD_eq_getElem?_getD, List.getElem?_eq_getElem h]; rfl
def sb (s : List UInt8) (k : Nat) : Nat := (s.getD k 0).toNat
def bitsS (s : List UInt8) (n : Nat) : List Bool := (List.range n).map fun i => decide (sb s (4 + i) = 1)
theorem bitsS_len (s : List UInt8) (n : Nat) : (bitsS s n).length = n := by simp [bitsS]
theorem bitsS_succ (s : List UInt8) (n : Nat) : bitsS s n ++ [decide (sb s (4 + n) = 1)] = bitsS s (n + 1) := by simp [bitsS, List.range_succ]
def smallS (s : List UInt8) (n : Nat) : Bool := (List.range n).all fun i => decide (sb s (4 + i) ≤ 1)
def rdS (s : List UInt8) : Md := ⟨decide (sb s 2 = 1), bitsS s (s.length - 4), []⟩
def blobS (s : List UInt8) : Bool := decide (4 ≤ s.length) && decide (s.take 2 = [77, 68]) && decide (s.length = 4 + sb s 3) && decide (sb s 2 ≤ 1) && smallS s (s.length - 4) && vB (rdS s).on (rdS s).done
theorem smallS_no {s : List UInt8} {n k : Nat} (h : k < n) (hk : ¬ sb s (4 + k) ≤ 1) : smallS s n = false := by
  unfold smallS
  rw [List.all_eq_false]
  exact ⟨k, List.mem_range.2 h, by simpa using hk⟩
theorem smallS_succ {s : List UInt8} {n : Nat} (h : smallS s n = true) (hk : sb s (4 + n) ≤ 1) : smallS s (n + 1) = true := by
  unfold smallS at *
  rw [List.range_succ, List.all_append, h]
  simpa using hk
theorem blobS_a {s : List UInt8} (h : ¬ 4 ≤ s.length) : blobS s = false := by unfold blobS; rw [decide_eq_false h]; rfl
theorem blobS_b {s : List UInt8} (h : ¬ s.take 2 = [77, 68]) : blobS s = false := by unfold blobS; rw [decide_eq_false h]; simp
theorem blobS_c {s : List UInt8} (h : ¬ s.length = 4 + sb s 3) : blobS s = false := by unfold blobS; rw [decide_eq_false h]; simp
theorem blobS_d {s : List UInt8} (h : ¬ sb s 2 ≤ 1) : blobS s = false := by unfold blobS; rw [decide_eq_false h]; simp
theorem blobS_e {s : List UInt8} (h : smallS s (s.length - 4) = false) : blobS s = false := by unfold blobS; rw [h]; simp
theorem blobS_f {s : List UInt8} (h1 : 4 ≤ s.length) (h2 : s.take 2 = [77, 68]) (h3 : s.length = 4 + sb s 3) (h4 : sb s 2 ≤ 1) (h5 : smallS s (s.length - 4) = true) : blobS s = vB (rdS s).on (rdS s).done := by
  unfold blobS; rw [decide_eq_true h1, decide_eq_true h2, decide_eq_true h3, decide_eq_true h4, h5]; simp
@[go_sem] def mbD (a : Md × Bool) : DV := .tup [.agg a.1.c, .bool a.2]
structure RsM (s : List UInt8) where
  i : Nat
  on : Bool
  n : Nat
  hi : 2 ≤ i ∧ i ≤ s.length
  h2 : 2 < i → on = decide (sb s 2 = 1) ∧ sb s 2 ≤ 1
  hn : n = i - 4
  ok : smallS s n = true
theorem sread_v (s : List UInt8) (hs : s.length ≤ 100000) : VCalls prog 33 [.pv (.str s)] [] (RetS mbD fun a => a.2 = blobS s ∧ (a.2 = true → a.1 = rdS s)) := by
  refine dk Tryz.func33 ?_
  (unfold Tryz.f33; refine rn trivial ?_)
  have no : blobS s = false → RetS mbD (fun a => a.2 = blobS s ∧ (a.2 = true → a.1 = rdS s)) (.tup [.agg [.bool false, .pv (.sl []), .pv (.sl [])], .bool false]) [] := fun h => ⟨rfl, rfl, (⟨false, [], []⟩, false), rfl, by rw [h], fun h => by cases h⟩
  by_cases h4 : 4 ≤ s.length
  rotate_left
  · have h4' : (s.length : Int) < 4 := by omega
    have F := @h4'
    (refine rn F ?_; try with_reducible exact ⟨⟩)
    all_goals exact no (blobS_a h4)
  have h4' : ¬ (s.length : Int) < 4 := by omega
  have g3 := strS_get s 3 (by omega)
  have hlt3 : (s.getD 3 0).toNat < 256 := UInt8.toNat_lt _
  have hw : IntKind.i64.wrap (4 + IntKind.i64.wrap ((s.getD 3 0).toNat : Int)) = 4 + ((s.getD 3 0).toNat : Int) := by
    rw [wrap_i64_in (n := ((s.getD 3 0).toNat : Int)) (by omega), wrap_i64_in (by omega)]
  have e3 : sb s 3 = (s.getD 3 0).toNat := rfl
  have F := (And.intro @h4' (And.intro @g3 @hw))
  refine rn F ?_
  repeat' (first
    | with_reducible exact ⟨⟩
    | (refine sG F ?_ ?_ <;> intro hZ)
    | (refine sB F ?_ ?_ <;> intro hZ))
  · exact no (blobS_c (by omega))
  rotate_left
  · exact no (blobS_b (by assumption))
  have hmk : s.take 2 = [77, 68] := by assumption
  have hln : s.length = 4 + sb s 3 := by omega
  refine VLoop.nilOwnC 1 1 4 1 rfl rfl ?_
  refine rn trivial ?_
  refine vloopW (fun t : RsM s => ⟨59, 0, [(5, .int .i64 t.i), (4, .ptr 1 0), (2, .ptr 0 0), (0, .pv (.str s))], [⟨34, true, [.bool false, .pv (.slc []), .pv (.slc [])]⟩, ⟨34, true, [.bool t.on, .own 2 1 0 (bitsS s t.n).length, .pv (.slc [])]⟩, ⟨4, true, cells encB (bitsS s t.n)⟩]⟩) (fun t => s.length - t.i) ⟨2, false, 0, by omega, fun h => by omega, rfl, rfl⟩ (gc [0, 1, 2]) ?_
  rintro ⟨i, on, n, hi, h2, hn, hok⟩
  dsimp only
  have hbl := bitsS_len s n
  by_cases hil : i < s.length
  · have hil' : (i : Int) < s.length := by omega
    have hg := strS_get s i hil
    have hbd : (bitsS s n).length ≤ 140737488355327 := by omega
    have esb : sb s i = (s.getD i 0).toNat := rfl
    have e5 : (((s.getD i 0).toNat : Int) == 1) = decide (sb s i = 1) := by rw [Bool.eq_iff_iff, beq_iff_eq, decide_eq_true_eq]; omega
    by_cases i3 : i = 3
    · subst i3
      have hi3 : ((3 : Nat) : Int) = 3 := rfl
      have F := (And.intro @hil' @hi3)
      refine rn F ?_
      exact ⟨⟨4, on, 0, by omega, fun _ => h2 (by omega), rfl, rfl⟩, by dsimp only; omega, by subst hn; exact (gc [0, 1, 2])⟩
    have hi3 : ¬ (i : Int) = 3 := by omega
    by_cases h1 : sb s i ≤ 1
    rotate_left
    · have hgt : ((s.getD i 0).toNat : Int) > 1 := by omega
      have F := (And.intro @hil' (And.intro @hi3 (And.intro @hg @hgt)))
      refine rn F ?_
      by_cases i2 : i = 2
      · subst i2; exact no (blobS_d h1)
      · refine no (blobS_e (smallS_no (k := i - 4) (by omega) ?_))
        rw [show 4 + (i - 4) = i by omega]; exact h1
    have hgt : ¬ ((s.getD i 0).toNat : Int) > 1 := by omega
    by_cases i2 : i = 2
    · subst i2
      obtain rfl : n = 0 := by omega
      have hi2 : ((2 : Nat) : Int) = 2 := rfl
      have F := (And.intro @hil' (And.intro @hi3 (And.intro @hg (And.intro @hgt (And.intro @hi2 @e5)))))
      refine rn F ?_
      exact ⟨⟨3, decide (sb s 2 = 1), 0, by omega, fun _ => ⟨rfl, h1⟩, rfl, rfl⟩, by dsimp only; omega, (gc [0, 1, 2])⟩
    have hi2 : ¬ (i : Int) = 2 := by omega
    obtain rfl : i = 4 + n := by omega
    have e6 := bitsS_succ s n
    have F := (And.intro @hil' (And.intro @hi3 (And.intro @hg (And.intro @hgt (And.intro @hi2 (And.intro @hbd (And.intro @e5 @e6)))))))
    refine rn F ?_
    repeat' (first
      | with_reducible exact ⟨⟩
      | (refine vspine (id := 7) [0, 1, 2, 3, 4, 5] [⟨[6], [6], 7, [0, 2, 3, 4, 5], [8]⟩, ⟨[], [], 9, [], []⟩] (by kernel_rfl) (by kernel_rfl) ?_; refine rn F ?_))
    refine ⟨⟨4 + n + 1, on, n + 1, by omega, fun _ => h2 (by omega), by omega, smallS_succ hok h1⟩, by dsimp only; omega, ?_⟩
    dsimp only
    rw [bitsS_len s (n + 1), hbl]
    exact (gc [0, 1, 4])
  · obtain rfl : i = s.length := by omega
    have hv := svalid_v on (bitsS s n) (by omega)
    have hv2 : VCalls prog 19 [.agg [.bool on, .pv (.sl (fz encB (bitsS s n))), .pv (.slc [])]] [] (Ret (.bool (vB on (bitsS s n)))) := VCalls.wkA hv
    obtain ⟨q1, q2⟩ := h2 (by omega)
    have F := trivial
    refine rn F ?_
    repeat' (first
      | with_reducible exact ⟨⟩
      | refine vl F (hv2) ?_
      | (refine vspine (id := 13) [0, 1] [⟨[], [], 2, [0], []⟩, ⟨[], [], 3, [1], []⟩, ⟨[], [], 4, [], []⟩] (by kernel_rfl) (by kernel_rfl) ?_; refine rn F ?_))
    subst hn
    subst q1
    exact ⟨rfl, rfl, (rdS s, vB (decide (sb s 2 = 1)) (bitsS s (s.length - 4))), rfl, by rw [blobS_f h4 hmk hln q2 hok]; rfl, fun _ => rfl⟩
theorem sparse_v (s : List UInt8) (hs : s.length ≤ 100000) : VCalls prog 34 [.pv (.str s)] [] (RetS mbD fun a => a.2 = blobS s ∧ (a.2 = true → a.1 = rdS s)) := by
  refine dk Tryz.func34 ?_
  (unfold Tryz.f34; refine rn trivial ?_)
  have no : blobS s = false → RetS mbD (fun a => a.2 = blobS s ∧ (a.2 = true → a.1 = rdS s)) (.tup [.agg [.bool false, .pv (.sl []), .pv (.sl [])], .bool false]) [] := fun h => ⟨rfl, rfl, (⟨false, [], []⟩, false), rfl, by rw [h], fun h => by cases h⟩
  by_cases h4 : 4 ≤ s.length
  rotate_left
  · have h4' : (s.length : Int) < 4 := by omega
    have F := @h4'
    (refine rn F ?_; try with_reducible exact ⟨⟩)
    all_goals exact no (blobS_a h4)
  have h4' : ¬ (s.length : Int) < 4 := by omega
  have g3 := strS_get s 3 (by omega)
  have g2 := strS_get s 2 (by omega)
  have hlt3 : (s.getD 3 0).toNat < 256 := UInt8.toNat_lt _
  have hw : IntKind.i64.wrap (4 + IntKind.i64.wrap ((s.getD 3 0).toNat : Int)) = 4 + ((s.getD 3 0).toNat : Int) := by
    rw [wrap_i64_in (n := ((s.getD 3 0).toNat : Int)) (by omega), wrap_i64_in (by omega)]
  have e3 : sb s 3 = (s.getD 3 0).toNat := rfl
  have e2 : sb s 2 = (s.getD 2 0).toNat := rfl
  have e25 : (((s.getD 2 0).toNat : Int) == 1) = decide (sb s 2 = 1) := by rw [Bool.eq_iff_iff, beq_iff_eq, decide_eq_true_eq]; omega
  have F := (And.intro @h4' (And.intro @g2 (And.intro @g3 (And.intro @hw @e25))))
  refine rn F ?_
  repeat' (first
    | with_reducible exact ⟨⟩
    | (refine sG F ?_ ?_ <;> intro hZ)
    | (refine sB F ?_ ?_ <;> intro hZ))
  all_goals first
    | exact no (blobS_b (by assumption))
    | exact no (blobS_c (by omega))
    | exact no (blobS_d (by omega))
    | skip
  have hmk : s.take 2 = [77, 68] := by assumption
  have hln : s.length = 4 + sb s 3 := by omega
  have q2 : sb s 2 ≤ 1 := by omega
  refine VLoop.nilOwnC 1 1 4 1 rfl rfl ?_
  refine rn trivial ?_
  refine vloopW (fun t : {n : Nat // 4 + n ≤ s.length ∧ smallS s n = true} => ⟨56, 0, [(5, .int .i64 (4 + t.1 : Nat)), (4, .ptr 1 0), (2, .ptr 0 0), (0, .pv (.str s))], [⟨34, true, [.bool false, .pv (.slc []), .pv (.slc [])]⟩, ⟨34, true, [.bool (decide (sb s 2 = 1)), .own 2 1 0 (bitsS s t.1).length, .pv (.slc [])]⟩, ⟨4, true, cells encB (bitsS s t.1)⟩]⟩) (fun t => s.length - (4 + t.1)) ⟨0, by omega, rfl⟩ (gc [0, 1, 2]) ?_
  rintro ⟨n, hn, hok⟩
  dsimp only
  have hbl := bitsS_len s n
  by_cases hil : 4 + n < s.length
  · have hil' : ((4 + n : Nat) : Int) < s.length := by omega
    have hg := strS_get s (4 + n) hil
    have hbd : (bitsS s n).length ≤ 140737488355327 := by omega
    have esb : sb s (4 + n) = (s.getD (4 + n) 0).toNat := rfl
    have e5 : (((s.getD (4 + n) 0).toNat : Int) == 1) = decide (sb s (4 + n) = 1) := by rw [Bool.eq_iff_iff, beq_iff_eq, decide_eq_true_eq]; omega
    by_cases h1 : sb s (4 + n) ≤ 1
    rotate_left
    · have hgt : ((s.getD (4 + n) 0).toNat : Int) > 1 := by omega
      have F := (And.intro @hil' (And.intro @hg @hgt))
      refine rn F ?_
      exact no (blobS_e (smallS_no (k := n) (by omega) h1))
    have hgt : ¬ ((s.getD (4 + n) 0).toNat : Int) > 1 := by omega
    have e6 := bitsS_succ s n
    have e7 : ((4 + n : Nat) : Int) + 1 = (4 + (n + 1) : Nat) := by omega
    have F := (And.intro @hil' (And.intro @hg (And.intro @hgt (And.intro @hbd (And.intro @e5 (And.intro @e6 @e7))))))
    refine rn F ?_
    repeat' (first
      | with_reducible exact ⟨⟩
      | (refine vspine (id := 9) [0, 1, 2, 3, 4, 5] [⟨[6], [6], 7, [0, 2, 3, 4, 5], [8]⟩, ⟨[], [], 9, [], []⟩] (by kernel_rfl) (by kernel_rfl) ?_; refine rn F ?_))
    refine ⟨⟨n + 1, by omega, smallS_succ hok h1⟩, by dsimp only; omega, ?_⟩
    dsimp only
    rw [bitsS_len s (n + 1), hbl]
    exact (gc [0, 1, 4])
  · obtain rfl : n = s.length - 4 := by omega
    have hil' : ¬ ((4 + (s.length - 4) : Nat) : Int) < s.length := by omega
    have hv := srvalid_v ⟨decide (sb s 2 = 1), bitsS s (s.length - 4), []⟩ ⟨by dsimp only; omega, by simp⟩
    have hv2 : VCalls prog 53 [.agg [.bool (decide (sb s 2 = 1)), .pv (.sl (fz encB (bitsS s (s.length - 4)))), .pv (.slc [])]] [] (RetS (fun b : Bool => .bool b) fun b => b = vB (decide (sb s 2 = 1)) (bitsS s (s.length - 4))) := (VCalls.wkA hv).mono fun r h' ⟨e1, e2, a, e3, e4⟩ => ⟨e1, e2, a, e3, e4 rfl⟩
    have F := @hil'
    refine rn F ?_
    repeat' (first
      | with_reducible exact ⟨⟩
      | (refine vc_lendS (hv2) ?_ (fun _ => rfl) ?_; (focus (refine rd F)); rintro _ rfl; refine rn F ?_)
      | (refine vspine (id := 10) [0, 1] [⟨[], [], 2, [0], []⟩, ⟨[], [], 3, [1], []⟩, ⟨[], [], 4, [], []⟩] (by kernel_rfl) (by kernel_rfl) ?_; refine rn F ?_))
    exact ⟨rfl, rfl, (rdS s, vB (decide (sb s 2 = 1)) (bitsS s (s.length - 4))), rfl, by rw [blobS_f h4 hmk hln q2 hok]; rfl, fun _ => rfl⟩
end
section
attribute [local go_sem] Tx.d lenT allT appT slkT srcT frzT lenI allI appI slkI srcI frzI mem_ok List.length_append List.length_take List.length_drop List.take_length toNat_succ toNat_pred toNat_add toNat_sub
theorem rfind0_v (l : List Tx) (hl : l.length ≤ 1000000) (a : Int) : VCalls prog 134 [.pv (.sl (fz encT l)), .int .i64 a] [] (Ret (.int .i64 (idT l a))) := by
  refine dd Tryz.func134 ?_
  (unfold Tryz.f134; refine rn trivial ?_)
  refine vloopW (fun i : Pass l (fun x => (x.id == a) = true) => ⟨20, 0, [(5, .int .i64 i.i), (0, .pv (.sl (fz encT l))), (1, .int .i64 a)], []⟩) (fun i => l.length - i.i) (Pass.start l _) (gc []) ?_
  intro i
  have hi := i.hi
  have hg := fun h : i.i < l.length => fzT_d l i.i h
  have F := @hg
  refine rn F ?_
  repeat' (first
    | with_reducible exact ⟨⟩
    | (refine sB F ?_ ?_ <;> intro hZ))
  · have := idxP_at l (fun x => x.id == a) i.i (by omega) (by rw [← getD_eq l i.i (by omega) Tx0]; simpa using (by assumption : (l.getD i.i Tx0).id = a)) i.no
    rw [idT, this]
  · exact ⟨i.next (by omega) (by rw [← getD_eq l i.i (by omega) Tx0]; simpa using (by assumption : ¬ (l.getD i.i Tx0).id = a)), by show l.length - (i.i + 1) < l.length - i.i; omega, (gc [])⟩
  · have := i.all (by omega)
    rw [idT, idxP, if_neg (by simpa using this)]
theorem rfind_v (l : List Tx) (hl : l.length ≤ 1000000) (a : Int) : VCalls prog 154 [.pv (.sl (fz encT l)), .int .i64 a] [] (Ret (.int .i64 (idT l a))) := by
  refine dd Tryz.func154 ?_
  have h := rfind0_v l hl a
  (unfold Tryz.f154; refine rn trivial ?_)
  refine rn F ?_
  repeat' (first
    | with_reducible exact ⟨⟩
    | refine vp F (h) ?_)
theorem rset_v (l : List Tx) (hl : l.length ≤ 1000000) (i : Nat) (hi : i < l.length) (t : Tx) : VCalls prog 199 [.pv (.sl (fz encT l)), .int .i64 i, .agg t.d] [] (Ret (.pv (.sl (fz encT (l.set i t))))) := by
  refine dd Tryz.func199 ?_
  have hb : i * 6 + 6 ≤ l.length * 6 := by omega
  have hse : (cells encT l).take (i * 6) ++ [.pv (.lit (.int .i64 t.id)), .pv (.lit (.int .i64 t.st)), .pv (.lit (.int .i64 t.n)), .pv (.lit (.int .i64 t.b)), .pv (.sl (fz encI t.l)), .pv (.sl (fz encI t.s))] ++ (cells encT l).drop (i * 6 + 6) = cells encT (l.set i t) := set_in encT l i t hi
  have hle : (l.set i t).length = l.length := List.length_set
  (unfold Tryz.f199; refine rn trivial ?_)
  have F := (And.intro @hb (And.intro @hse @hle))
  (refine rn F ?_; try with_reducible exact ⟨⟩)
theorem rsettle_v (t : Tx) (hs : t.sm) : VCalls prog 200 [.agg t.d] [] (Ret (.agg (settleS t).d)) := by
  refine dd Tryz.func200 ?_
  have hg := fun h : 0 < t.l.length => lastI t.l h
  simp only [toNat_pred] at hg
  obtain ⟨id, st, n, b, l, s⟩ := t
  obtain ⟨h1, h2⟩ := hs
  dsimp only at h1 h2 hg
  have eS : settleS ⟨id, st, n, b, l, s⟩ = if st = 2 ∧ leftB ⟨id, st, n, b, l, s⟩ b = false then ⟨id, 1, n, 0, l, s⟩ else ⟨id, st, n, b, l, s⟩ := rfl
  have eL : leftB ⟨id, st, n, b, l, s⟩ b = (decide (0 < l.length) && decide (b < l.getD (l.length - 1) 0)) := rfl
  generalize settleS ⟨id, st, n, b, l, s⟩ = u at *
  generalize leftB ⟨id, st, n, b, l, s⟩ b = B at *
  (unfold Tryz.f200; refine rn trivial ?_)
  have F := @hg
  refine rn F ?_
  repeat' (first
    | with_reducible exact ⟨⟩
    | (refine sG F ?_ ?_ <;> intro hZ)
    | (refine sB F ?_ ?_ <;> intro hZ)
    | (refine vspine (id := 1) [0, 1, 2, 3, 4, 5, 6, 7, 8, 9, 10, 11, 12, 13, 14, 15, 16, 17, 18, 19, 20, 21] [] (by kernel_rfl) (by kernel_rfl) ?_; refine rn F ?_))
  all_goals first
    | (rw [eS, if_pos ⟨by assumption, by rw [eL, decide_eq_false (show ¬ b < l.getD (l.length - 1) 0 by omega), Bool.and_false]⟩])
    | (rw [eS, if_pos ⟨by assumption, by rw [eL, decide_eq_false (show ¬ 0 < l.length by omega), Bool.false_and]⟩])
    | (rw [eS, if_neg (by rintro ⟨h, _⟩; omega)])
    | (rw [eS, if_neg (by rintro ⟨_, h⟩; rw [eL, decide_eq_true (show b < l.getD (l.length - 1) 0 by omega), decide_eq_true (show 0 < l.length by omega)] at h; cases h)])
theorem app_T (l : List Tx) (t : Tx) : cells encT l ++ [.pv (.lit (.int .i64 t.id)), .pv (.lit (.int .i64 t.st)), .pv (.lit (.int .i64 t.n)), .pv (.lit (.int .i64 t.b)), .pv (.sl (fz encI t.l)), .pv (.sl (fz encI t.s))] = cells encT (l ++ [t]) := by rw [cells_app]; rfl
theorem remS_le (l : List Tx) (a : Int) : (remS l a).length ≤ l.length := keepL_le _ _
theorem remS_succ (l : List Tx) (a : Int) (i : Nat) (h : i < l.length) : remS (l.take (i + 1)) a = if (l.getD i Tx0).id = a then remS (l.take i) a else remS (l.take i) a ++ [l.getD i Tx0] := by
  rw [getD_eq l i h]
  unfold remS
  rw [keepL_take_succ l _ i h]
  by_cases hx : l[i].id = a <;> simp [hx]
theorem rremove_v (l : List Tx) (hl : l.length ≤ 1000000) (a : Int) : VCalls prog 198 [.pv (.sl (fz encT l)), .int .i64 a] [] (Ret (.pv (.sl (fz encT (remS l a))))) := by
  refine dd Tryz.func198 ?_
  (unfold Tryz.f198; refine rn trivial ?_)
  refine VLoop.nilOwn 5 209 6 rfl ?_
  refine vloopW (fun s : To l.length => ⟨28, 0, [(6, .int .i64 s.i), (5, .own 0 6 0 (remS (l.take s.i) a).length), (0, .pv (.sl (fz encT l))), (1, .int .i64 a)], [⟨209, true, cells encT (remS (l.take s.i) a)⟩]⟩) (fun s => l.length - s.i) ⟨0, Nat.zero_le _⟩ (gc [0]) ?_
  intro s
  have hi := s.hi
  have hg := fun h : s.i < l.length => fzT_d l s.i h
  have hle := remS_le (l.take s.i) a
  rw [List.length_take] at hle
  have hb : ((remS (l.take s.i) a).length + 1) * 80 ≤ 140737488355328 := by omega
  have hs := remS_succ l a s.i
  have F := (And.intro @hg (And.intro @hb @app_T))
  refine rn F ?_
  repeat' (first
    | with_reducible exact ⟨⟩
    | (refine sB F ?_ ?_ <;> intro hZ))
  · replace hs := hs (by omega)
    rw [if_neg (by assumption)] at hs
    refine ⟨⟨s.i + 1, by omega⟩, by show l.length - (s.i + 1) < l.length - s.i; omega, ?_⟩
    rw [hs, List.length_append]
    exact (gc [2])
  · replace hs := hs (by omega)
    rw [if_pos (by assumption)] at hs
    refine ⟨⟨s.i + 1, by omega⟩, by show l.length - (s.i + 1) < l.length - s.i; omega, ?_⟩
    rw [hs]
    exact (gc [0])
  · rw [List.take_of_length_le (by omega)]
def ractS (l : List Tx) (a : Int) : Int × Int :=
  if tblB l = false then (0, 15) else if idT l a < 0 then (0, 16) else if (l.getD (idT l a).toNat Tx0).st ≠ 1 then (0, 15) else (idT l a, 0)
theorem ractS_two (l : List Tx) (a : Int) : (ractS l a).2 = (activeS l a).2 := by
  unfold ractS activeS
  split
  · rfl
  · split
    · rfl
    · split <;> rfl
theorem ractS_one {l : List Tx} {a : Int} (h : (activeS l a).2 = 0) : (ractS l a).1 = idT l a := by
  unfold ractS
  unfold activeS at h
  split at h
  · simp at h
  · rename_i h1
    split at h
    · simp at h
    · rename_i h2
      split at h
      · simp at h
      · rename_i h3
        rw [if_neg h1, if_neg h2, if_neg h3]
theorem ractive_v (l : List Tx) (hs : smL l) (a : Int) : VCalls prog 227 [.pv (.sl (fz encT l)), .int .i64 a] [] (Ret (.tup [.int .i64 (ractS l a).1, .int .i64 (ractS l a).2])) := by
  refine dd Tryz.func227 ?_
  have c1 := rtvalid_v l hs
  have c2 := rfind0_v l hs.1 a
  unfold ractS
  rcases idT_cases l a with h | ⟨i, hi, h, hid⟩
  · rw [h] at c2 ⊢
    (unfold Tryz.f227; refine rn trivial ?_)
    refine rn F ?_
    repeat' (first
      | with_reducible exact ⟨⟩
      | (refine sB F ?_ ?_ <;> intro hZ)
      | refine vp F (c1) ?_
      | refine vp F (c2) ?_)
    all_goals rfl
  · rw [h] at c2 ⊢
    have hg := fzT_d l i hi
    rw [Int.toNat_natCast, if_neg (show ¬ (i : Int) < 0 by omega)]
    (unfold Tryz.f227; refine rn trivial ?_)
    have F := @hg
    refine rn F ?_
    repeat' (first
      | with_reducible exact ⟨⟩
      | (refine sB F ?_ ?_ <;> intro hZ)
      | refine vp F (c1) ?_
      | refine vp F (c2) ?_)
    all_goals first | rfl | (rw [if_pos (by assumption)]) | (rw [if_neg (by omega)])
theorem rsave_v (l : List Tx) (hs : smL l) (a : Int) : VCalls prog 183 [.pv (.sl (fz encT l)), .int .i64 a] [] (Ret (tblD (saveS l a))) := by
  refine VCalls.unwk ?_
  refine dd Tryz.func183 ?_
  have c1 := ractive_v l hs a
  have hok := @activeS_ok l a
  rw [ractS_two] at c1
  unfold saveS
  by_cases hz : (activeS l a).2 = 0
  · obtain ⟨hv, i, hi, h1, h2, h3⟩ := hok hz
    rw [ractS_one hz, h1, hz] at c1
    have hts := okB_len (tblB_at hv hi)
    have hg := fzT_at l i hi
    have hw := rset_v l hs.1 i hi ⟨l[i].id, l[i].st, l[i].n, l[i].b, l[i].l, l[i].s ++ [l[i].n]⟩
    rw [if_neg (by rw [hz]; simp), h3, h1, Int.toNat_natCast]
    generalize l[i] = t at *
    obtain ⟨id, st, n, b, q, s⟩ := t
    dsimp only at hts hg hw
    (unfold Tryz.f183; refine rn trivial ?_)
    have F := (And.intro @hg @app_I)
    refine rn F ?_
    repeat' (first
      | with_reducible exact ⟨⟩
      | (refine sB F ?_ ?_ <;> intro hZ)
      | refine vp F (c1) ?_
      | (refine vc_giveA [3] _ _ (hw) rfl ⟨⟨by simp, cells_nums _ _ _⟩, trivial⟩ (by decide) rfl (by simp [DV.nums.go, DV.nums]) ?_ ?_; (focus (refine rd F)); refine rn F ?_)
      | (refine vspine (id := 7) [0, 1, 3, 4] [⟨[5], [], 2, [0, 3, 4], []⟩, ⟨[5], [5], 6, [0, 1, 3, 4], [7]⟩, ⟨[], [], 8, [], []⟩] (by kernel_rfl) (by kernel_rfl) ?_; refine rn F ?_))
    all_goals first | rfl | (rw [if_pos (by omega)]; rfl) | (rw [if_neg (by omega)]; rfl) | skip
  · generalize activeS l a = r at *
    generalize (ractS l a).1 = j at *
    rw [if_pos hz]
    (unfold Tryz.f183; refine rn trivial ?_)
    have F := trivial
    refine rn F ?_
    repeat' (first
      | with_reducible exact ⟨⟩
      | refine vp F (c1) ?_)
    all_goals first | rfl | contradiction | skip
theorem activeS_st {l : List Tx} {a : Int} (h : (activeS l a).2 = 0) : (activeS l a).1.st = 1 ∧ (activeS l a).1.b = 0 := by
  obtain ⟨hv, i, hi, h1, h2, h3⟩ := activeS_ok h
  have hst : (activeS l a).1.st = 1 := by
    unfold activeS at h ⊢
    split at h
    · simp at h
    · rename_i q1
      split at h
      · simp at h
      · rename_i q2
        split at h
        · simp at h
        · rename_i q3
          rw [if_neg q1, if_neg q2, if_neg q3]
          simpa using q3
  refine ⟨hst, ?_⟩
  have ho := tblB_at hv hi
  rw [h3] at hst ⊢
  simp only [Tx.okB, Tx.hdB, Bool.and_eq_true, Bool.or_eq_true, decide_eq_true_eq] at ho
  omega
theorem rback_v (l : List Tx) (hs : smL l) (a sv : Int) : VCalls prog 184 [.pv (.sl (fz encT l)), .int .i64 a, .int .i64 sv] [] (Ret (tblD (backS l a sv))) := by
  refine VCalls.unwk ?_
  refine dd Tryz.func184 ?_
  have c1 := ractive_v l hs a
  have hok := @activeS_ok l a
  have hab := @activeS_st l a
  rw [ractS_two] at c1
  unfold backS
  by_cases hz : (activeS l a).2 = 0
  · obtain ⟨hv, i, hi, h1, h2, h3⟩ := hok hz
    obtain ⟨hst, hb0⟩ := hab hz
    rw [ractS_one hz, h1, hz] at c1
    have hts := okB_len (tblB_at hv hi)
    have hg := fzT_at l i hi
    rw [if_neg (by rw [hz]; simp), h3, h1, Int.toNat_natCast]
    rw [h3] at hst hb0
    have hw := rset_v l hs.1 i hi
    by_cases hr : sv < 0 ∨ ((l[i].s.length : Int) ≤ sv)
    · generalize l[i] = t at *
      obtain ⟨id, st, n, b, q, s⟩ := t
      dsimp only at hr hg ⊢
      rw [if_pos hr]
      (unfold Tryz.f184; refine rn trivial ?_)
      have F := @hg
      refine rn F ?_
      repeat' (first
        | with_reducible exact ⟨⟩
        | (refine sG F ?_ ?_ <;> intro hZ)
        | refine vp F (c1) ?_)
      all_goals first | rfl | (exfalso; omega)
    obtain ⟨k, rfl⟩ : ∃ k : Nat, sv = k := ⟨sv.toNat, by omega⟩
    have hk : k < l[i].s.length := by omega
    rw [if_neg (by omega), Int.toNat_natCast]
    have hw2 := hw (settleS ⟨l[i].id, 2, l[i].n, l[i].s.getD k 0, l[i].l, l[i].s.take (k + 1)⟩)
    generalize l[i] = t at *
    obtain ⟨id, st, n, b, q, s⟩ := t
    dsimp only at hts hg hk hst hb0 hw2 ⊢
    subst hst hb0
    have hse := rsettle_v ⟨id, 2, n, s.getD k 0, q, s.take (k + 1)⟩ ⟨by show q.length ≤ _; omega, by show (s.take (k + 1)).length ≤ _; rw [List.length_take]; omega⟩
    have eS : settleS ⟨id, 2, n, s.getD k 0, q, s.take (k + 1)⟩ = if leftB ⟨id, 1, n, 0, q, s⟩ (s.getD k 0) = true then ⟨id, 2, n, s.getD k 0, q, s.take (k + 1)⟩ else ⟨id, 1, n, 0, q, s.take (k + 1)⟩ := by
      unfold settleS
      have e : leftB ⟨id, 2, n, s.getD k 0, q, s.take (k + 1)⟩ (s.getD k 0) = leftB ⟨id, 1, n, 0, q, s⟩ (s.getD k 0) := rfl
      cases hB : leftB ⟨id, 1, n, 0, q, s⟩ (s.getD k 0)
      · rw [if_pos ⟨rfl, by rw [← hB]; exact e⟩]; rfl
      · rw [if_neg (by rintro ⟨_, h⟩; rw [show leftB ⟨id, 2, n, s.getD k 0, q, s.take (k + 1)⟩ (s.getD k 0) = true from e.trans hB] at h; cases h)]; rfl
    have hgc : ((cells encI (s.take (k + 1))).drop k).take 1 = [.int .i64 (s.getD k 0)] := by
      have hgc : (cells encI (s.take (k + 1)))[k]? = some (.int .i64 (s.getD k 0)) := by
        rw [cellsI_get _ _ (by rw [List.length_take]; omega)]
        simp [List.getD_eq_getElem?_getD, List.getElem?_take]
      obtain ⟨h, e⟩ := List.getElem?_eq_some_iff.1 hgc
      rw [List.drop_eq_getElem_cons h, e]; rfl
    have hgd : (cells encI (s.take (k + 1)))[k]? = some (.int .i64 (s.getD k 0)) := by
      rw [cellsI_get _ _ (by rw [List.length_take]; omega)]
      simp [List.getD_eq_getElem?_getD, List.getElem?_take]
    have hl1 : (s.take (k + 1)).length = k + 1 := by rw [List.length_take]; omega
    have ek : ((k : Int) + 1).toNat = k + 1 := by omega
    have fin : (if leftB ⟨id, 1, n, 0, q, s⟩ (s.getD k 0) = true then (l.set i ⟨id, 2, n, s.getD k 0, q, s.take (k + 1)⟩, (0 : Int)) else (l.set i ⟨id, 1, n, 0, q, s.take (k + 1)⟩, 0)) = (l.set i (settleS ⟨id, 2, n, s.getD k 0, q, s.take (k + 1)⟩), 0) := by
      rw [eS]; split <;> rfl
    rw [fin]
    clear fin eS
    generalize hT : settleS ⟨id, 2, n, s.getD k 0, q, s.take (k + 1)⟩ = T at *
    (unfold Tryz.f184; refine rn trivial ?_)
    have F := (And.intro @hg (And.intro @hl1 (And.intro @ek (And.intro @hgc @hgd))))
    refine rn F ?_
    repeat' (first
      | with_reducible exact ⟨⟩
      | refine vp F (c1) ?_
      | (refine vc_giveA [1] _ _ (hse) rfl ⟨⟨by simp, cells_nums _ _ _⟩, trivial⟩ (by decide) rfl (by simp [DV.nums.go, DV.nums]) ?_ ?_; (focus (refine rd F)); refine rn F ?_)
      | refine vp F (hw2) ?_
      | (refine vspine (id := 8) [0, 1, 2, 3, 4, 5] [⟨[], [], 6, [2, 3, 4], [7]⟩, ⟨[], [], 8, [], []⟩] (by kernel_rfl) (by kernel_rfl) ?_; refine rn F ?_))
    all_goals first | rfl | skip
  · generalize activeS l a = r at *
    generalize (ractS l a).1 = j at *
    rw [if_pos hz]
    (unfold Tryz.f184; refine rn trivial ?_)
    have F := trivial
    refine rn F ?_
    repeat' (first
      | with_reducible exact ⟨⟩
      | refine vp F (c1) ?_)
    all_goals first | rfl | contradiction | skip
end
section
attribute [local go_sem] Tx.d lenT allT appT slkT srcT frzT lenI allI appI slkI srcI frzI mem_ok List.length_append List.length_take List.length_drop List.take_length toNat_succ toNat_pred toNat_add toNat_sub bodyc headc_seq headc_zero restc_seq restc_zero tmwk_nil tmwk_cons hpwk_nil hpwk_cons wk_go_nil wk_go_cons wk_T
structure Fr (l : List Tx) (a : Int) where
  j : Nat
  hj : j ≤ l.length
  lt : ∀ k, ∀ h : k < l.length, k < j → l[k].id < a
theorem Fr.fin {l : List Tx} {a : Int} (s : Fr l a) (h : ∀ h : s.j < l.length, ¬ l[s.j].id < a) : posT l a = s.j :=
  lo_eq l _ s.j s.hj (fun k hk hkj => decide_eq_true (s.lt k hk hkj)) (fun hj => decide_eq_false (h hj))
theorem take_len {l : List Tx} {j : Nat} (h : j ≤ l.length) : (l.take j).length = j := by rw [List.length_take]; omega
theorem take_succ_T (l : List Tx) (j : Nat) (h : j < l.length) : cells encT (l.take j) ++ [.pv (.lit (.int .i64 (l.getD j Tx0).id)), .pv (.lit (.int .i64 (l.getD j Tx0).st)), .pv (.lit (.int .i64 (l.getD j Tx0).n)), .pv (.lit (.int .i64 (l.getD j Tx0).b)), .pv (.sl (fz encI (l.getD j Tx0).l)), .pv (.sl (fz encI (l.getD j Tx0).s))] = cells encT (l.take (j + 1)) := by
  rw [app_T, List.take_succ_eq_append_getElem h, getD_eq l j h]
theorem rbegin_v (l : List Tx) (hs : smL l) (a : Int) : VCalls prog 103 [.pv (.sl (fz encT l)), .int .i64 a] [] (Ret (tblD (beginS l a))) := by
  refine VCalls.unwk ?_
  have hl := hs.1
  have c1 := rtvalid_v l hs
  have c2 := rfind0_v l hl a
  have eS : beginS l a = if tblB l = false then ([], 15) else if a < 1 ∨ 1073741824 < a then ([], 1) else if 0 ≤ idT l a then ([], 25) else if l.length = 64 then ([], 21) else (l.take (posT l a) ++ ⟨a, 1, 0, 0, [], []⟩ :: l.drop (posT l a), 0) := rfl
  have hfin := @Fr.fin l a
  have hp : posT l a ≤ l.length := lo_le _ _
  have hsm := @tblB_len l
  generalize idT l a = d at *
  generalize beginS l a = res at *
  generalize tblB l = T at *
  refine vcalls_dropW (fn := Tryz.f103) (c := bodyc Tryz.f103) Tryz.func103 rfl (by kernel_rfl) (by simp [Tryz.f103]) ?_
  refine vcut 5 ?_
  generalize hrest : restc 5 (bodyc Tryz.f103) = rest
  (unfold Tryz.f103; refine rn trivial ?_)
  have F := trivial
  refine rn F ?_
  repeat' (first
    | (refine sG F ?_ ?_ <;> intro hZ <;> try with_reducible exact ⟨⟩)
    | (refine sB F ?_ ?_ <;> intro hZ <;> try with_reducible exact ⟨⟩)
    | (refine sD F ?_ ?_ <;> intro hZ <;> try with_reducible exact ⟨⟩)
    | (refine vp F (c1) ?_; try with_reducible exact ⟨⟩)
    | (refine vd F (c1) ?_; try with_reducible exact ⟨⟩)
    | (refine vl F (c1) ?_; try with_reducible exact ⟨⟩)
    | (refine vp F (c2) ?_; try with_reducible exact ⟨⟩)
    | (refine vd F (c2) ?_; try with_reducible exact ⟨⟩)
    | (refine vl F (c2) ?_; try with_reducible exact ⟨⟩)
    | (refine vspine (id := 14) [0, 1, 2, 5, 6, 7, 8] [⟨[3], [3], 4, [1, 2, 5, 6, 7, 8], []⟩, ⟨[], [], 9, [0, 1, 2, 5, 6, 7], []⟩, ⟨[], [], 10, [], []⟩, ⟨[], [], 11, [], []⟩] (by kernel_rfl) (by kernel_rfl) ?_; refine rn F ?_; try with_reducible exact ⟨⟩)
    | (refine vdraw (by kernel_rfl) (by kernel_rfl) ?_; refine rn F ?_; try with_reducible exact ⟨⟩))
  all_goals first
    | (rw [eS]; repeat (first | rw [if_pos (by first | assumption | omega)] | rw [if_neg (by first | assumption | omega | (rw [show T = true by assumption]; decide))])
       rfl)
    | skip
  rw [eS]
  repeat (first | rw [if_pos (by first | assumption | omega)] | rw [if_neg (by first | assumption | omega | (rw [show T = true by assumption]; decide))])
  have hsm := hsm (by assumption)
  refine VLoop.nilOwn 6 209 6 rfl ?_
  refine vloopW (fun s : Fr l a => ⟨60, 0, [(7, .int .i64 s.j), (6, .own 0 6 0 s.j), (0, .pv (.sl (fz encT l))), (1, .int .i64 a)], [⟨209, true, cells encT (l.take s.j)⟩]⟩) (fun s => l.length - s.j) ⟨0, Nat.zero_le _, fun k _ h => by omega⟩ (gc [0]) ?_
  intro s
  have hj := s.hj
  have hlt := s.lt
  have hf := hfin s
  have htl := take_len s.hj
  have hg := fun h : s.j < l.length => fzT_d l s.j h
  have hts := fun h : s.j < l.length => take_succ_T l s.j h
  have hcl : (cells encT (l.take s.j)).length = s.j * 6 := by rw [lenT, htl]
  have hta : (cells encT (l.take s.j)).take (s.j * 6) = cells encT (l.take s.j) := allT _ _ (by rw [htl]; exact Nat.le_refl _)
  have hb : (s.j + 1) * 80 ≤ 140737488355328 := by omega
  have htx : (cells encT (l.take s.j) ++ ([.pv (.lit (.int .i64 a)), .pv (.lit (.int .i64 1)), .pv (.lit (.int .i64 0)), .pv (.lit (.int .i64 0)), .pv (.slc []), .pv (.slc [])] : List DV)).take ((s.j + 1) * 6) = cells encT (l.take s.j) ++ [.pv (.lit (.int .i64 a)), .pv (.lit (.int .i64 1)), .pv (.lit (.int .i64 0)), .pv (.lit (.int .i64 0)), .pv (.slc []), .pv (.slc [])] := by
    rw [List.take_of_length_le]; rw [List.length_append, hcl]; simp; omega
  have hb2 : (s.j + 1 + (l.length - s.j)) * 80 ≤ 140737488355328 := by omega
  have hb3 : (s.j + 1) * 6 ≤ s.j * 6 + 6 := by omega
  have hw : DV.wk.go (cells encT (l.take s.j) ++ [.pv (.lit (.int .i64 a)), .pv (.lit (.int .i64 1)), .pv (.lit (.int .i64 0)), .pv (.lit (.int .i64 0)), .pv (.slc []), .pv (.slc [])] ++ cells encT (l.drop s.j)) = cells encT (l.take s.j ++ ⟨a, 1, 0, 0, [], []⟩ :: l.drop s.j) := by
    rw [wk_goA, wk_goA, wk_T, wk_T, cells_app, List.append_assoc]
    rfl
  have hfl : (l.take s.j ++ (⟨a, 1, 0, 0, [], []⟩ : Tx) :: l.drop s.j).length = s.j + 1 + (l.length - s.j) := by
    rw [List.length_append, List.length_cons, List.length_drop, htl]; omega
  have F := (And.intro @hg (And.intro @hts (And.intro @hcl (And.intro @hta (And.intro @hb (And.intro @htx (And.intro @hb2 @hb3)))))))
  refine rn F ?_
  repeat' (first
    | (refine sG F ?_ ?_ <;> intro hZ <;> try with_reducible exact ⟨⟩)
    | (refine sB F ?_ ?_ <;> intro hZ <;> try with_reducible exact ⟨⟩)
    | (refine sD F ?_ ?_ <;> intro hZ <;> try with_reducible exact ⟨⟩)
    | (refine vspine (id := 14) [0, 1, 2, 5, 6, 7, 8] [⟨[3], [3], 4, [1, 2, 5, 6, 7, 8], []⟩, ⟨[], [], 9, [0, 1, 2, 5, 6, 7], []⟩, ⟨[], [], 10, [], []⟩, ⟨[], [], 11, [], []⟩] (by kernel_rfl) (by kernel_rfl) ?_; refine rn F ?_; try with_reducible exact ⟨⟩)
    | (refine vdraw (by kernel_rfl) (by kernel_rfl) ?_; refine rn F ?_; try with_reducible exact ⟨⟩))
  all_goals first
    | (refine ⟨⟨s.j + 1, by omega, fun k h' hkj => ?_⟩, by show l.length - (s.j + 1) < l.length - s.j; omega, (gc [2])⟩
       rcases Nat.lt_or_ge k s.j with h | h
       · exact hlt k h' h
       · obtain rfl : k = s.j := by omega
         rw [← getD_eq l s.j h' Tx0]
         assumption)
    | (rw [hf (fun h => by first | (rw [← getD_eq l s.j h Tx0]; exact Int.not_lt.2 (by assumption)) | (clear F hg hts hf hlt htx hw; omega))]
       refine vcut_wk ?_
       subst hrest
       simp (config := { maxSteps := 2000000 }) (implicitDefEqProofs := false) (disch := first | omega | assumption) only [go_sem, ↓reduceIte, Nat.reduceLT, Nat.reduceBEq, Int.reduceLT, Int.reduceBEq, Tryz.f103, hw, frzT hfl]
       rfl)
end
section
attribute [local go_sem] Tx.d lenT allT appT slkT srcT frzT lenI allI appI slkI srcI frzI mem_ok List.length_append List.length_take List.length_drop List.take_length toNat_succ toNat_pred toNat_add toNat_sub
theorem filt_succ (q : List Int) (r : Int) (i : Nat) (h : i < q.length) : (q.take (i + 1)).filter (fun x => decide (x ≠ r)) = (q.take i).filter (fun x => decide (x ≠ r)) ++ (if q.getD i 0 = r then [] else [q.getD i 0]) := by
  rw [List.take_succ_eq_append_getElem h, List.filter_append, getD_eq q i h]
  by_cases hx : q[i] = r <;> simp [hx]
theorem filt_le (q : List Int) (r : Int) (i : Nat) : ((q.take i).filter fun x => decide (x ≠ r)).length ≤ i := by
  refine Nat.le_trans (List.length_filter_le _ _) ?_
  rw [List.length_take]; omega
theorem filt_eq (q : List Int) (r : Int) : (q.filter fun x => decide (x ≠ r)).length = q.length ↔ r ∉ q := by
  rw [List.length_filter_eq_length_iff]
  constructor
  · intro h hm; simpa using h r hm
  · intro h x hx; exact decide_eq_true fun e => h (e ▸ hx)
theorem rnote_v (l : List Tx) (hs : smL l) (e : E) : VCalls prog 157 [.pv (.sl (fz encT l)), .agg e.d] [] (Ret (tblD (noteS l e))) := by
  refine VCalls.unwk ?_
  have c1 := rtvalid_v l hs
  have c2 := rvalid_v e
  have c3 := rfind0_v l hs.1 e.tx
  have c4 := rremove_v l hs.1 e.tx
  have hw := fun (i : Nat) (hi : i < l.length) (t : Tx) => rset_v l hs.1 i hi t
  have hok := @okB_kind e
  have hat := @noteS_at l e
  have e0 : noteS l e = if tblB l = false then ([], 15) else if e.okB = false then ([], 12) else if e.tx = 0 then (l, 0) else if idT l e.tx < 0 then ([], 16)
    else noteA l (idT l e.tx).toNat (l.getD (idT l e.tx).toNat Tx0) e := rfl
  by_cases hv : tblB l = true
  rotate_left
  · have hv' : tblB l = false := by simpa using hv
    rw [e0, if_pos hv']
    rw [hv'] at c1
    refine dd Tryz.func157 ?_
    unfold E.d
    (unfold Tryz.f157; refine rn trivial ?_)
    refine rn F ?_
    repeat' (first
      | with_reducible exact ⟨⟩
      | refine vp F (c1) ?_)
    rfl
  by_cases hk : e.okB = true
  rotate_left
  · have hk' : e.okB = false := by simpa using hk
    rw [e0, if_neg (by rw [hv]; decide), if_pos hk']
    rw [hv] at c1
    rw [hk'] at c2
    unfold E.d at c2 ⊢
    refine dd Tryz.func157 ?_
    (unfold Tryz.f157; refine rn trivial ?_)
    refine rn F ?_
    repeat' (first
      | with_reducible exact ⟨⟩
      | refine vp F (c1) ?_
      | refine vp F (c2) ?_)
    rfl
  by_cases ht : e.tx = 0
  · rw [e0, if_neg (by rw [hv]; decide), if_neg (by rw [hk]; decide), if_pos ht]
    rw [hv] at c1
    rw [hk] at c2
    unfold E.d at c2 ⊢
    refine dd Tryz.func157 ?_
    (unfold Tryz.f157; refine rn trivial ?_)
    have F := @ht
    refine rn F ?_
    repeat' (first
      | with_reducible exact ⟨⟩
      | refine vp F (c1) ?_
      | refine vl F (c2) ?_)
    rfl
  rw [hv] at c1
  rw [hk] at c2
  rcases idT_cases l e.tx with h | ⟨i, hi, h, hid⟩
  · rw [e0, if_neg (by rw [hv]; decide), if_neg (by rw [hk]; decide), if_neg ht, h, if_pos (by decide)]
    rw [h] at c3
    unfold E.d at c2 ⊢
    refine dd Tryz.func157 ?_
    (unfold Tryz.f157; refine rn trivial ?_)
    have F := @ht
    refine rn F ?_
    repeat' (first
      | with_reducible exact ⟨⟩
      | refine vp F (c1) ?_
      | refine vp F (c2) ?_
      | refine vp F (c3) ?_)
    all_goals first | rfl | contradiction
  rw [hat hv hk ht hi h]
  have hkk := hok hk ht
  rw [h] at c3
  have hg := fzT_at l i hi
  have hto := tblB_at hv hi
  have hso := okB_asc hto
  have hle := okB_len hto
  clear hat e0 hok
  generalize hT : l[i] = t at *
  obtain ⟨id, st, n, b, q, s⟩ := t
  dsimp only at hid hso hle hg
  obtain ⟨lsn, kind, tx, ptx, ppg, ref, c, blob⟩ := e
  dsimp only at hid c4 c3 h hkk ht
  unfold E.d at c2 ⊢
  dsimp only at c2 ⊢
  unfold noteA
  dsimp only
  by_cases hp : ptx = n
  rotate_left
  · rw [if_pos (.inl hp)]
    refine dd Tryz.func157 ?_
    (unfold Tryz.f157; refine rn trivial ?_)
    have F := (And.intro @ht @hg)
    refine rn F ?_
    repeat' (first
      | with_reducible exact ⟨⟩
      | refine vp F (c1) ?_
      | refine vp F (c2) ?_
      | refine vp F (c3) ?_)
    all_goals first | rfl | contradiction | omega
  subst hp
  rcases hkk with rfl | rfl | rfl | rfl | rfl
  · rw [if_neg (by rintro (h | h); exact h rfl; omega), if_neg (by omega)]
    have hwA := hw i hi (settleS (noteT ⟨id, st, ptx, b, q, s⟩ ⟨lsn, 1, tx, ptx, ppg, ref, c, blob⟩))
    have hse := rsettle_v (noteT ⟨id, st, ptx, b, q, s⟩ ⟨lsn, 1, tx, ptx, ppg, ref, c, blob⟩)
    have eN : noteT ⟨id, st, ptx, b, q, s⟩ ⟨lsn, 1, tx, ptx, ppg, ref, c, blob⟩ = ⟨id, st, lsn, b, q ++ [lsn], s⟩ := rfl
    rw [eN] at hwA hse ⊢
    replace hse := hse ⟨by simp; omega, by show s.length ≤ _; omega⟩
    generalize settleS ⟨id, st, lsn, b, q ++ [lsn], s⟩ = u at *
    refine dd Tryz.func157 ?_
    (unfold Tryz.f157; refine rn trivial ?_)
    have F := (And.intro @ht (And.intro @hg @app_I))
    refine rn F ?_
    repeat' (first
      | with_reducible exact ⟨⟩
      | refine vp F (c1) ?_
      | refine vp F (c2) ?_
      | refine vp F (c3) ?_
      | (refine vc_giveA [4] _ _ (hse) rfl ⟨⟨by simp, cells_nums _ _ _⟩, trivial⟩ (by decide) rfl (by simp [DV.nums.go, DV.nums]) ?_ ?_; (focus (refine rd F)); refine rn F ?_)
      | refine vp F (hwA) ?_
      | (refine vspine (id := 17) [0, 1, 3, 4] [⟨[5], [], 2, [0, 3, 4], []⟩, ⟨[5], [5], 6, [0, 1, 3, 4], [7]⟩, ⟨[], [], 8, [], []⟩] (by kernel_rfl) (by kernel_rfl) ?_; refine rn F ?_))
    all_goals first | rfl | skip
  · refine dd Tryz.func157 ?_
    (unfold Tryz.f157; refine rn trivial ?_)
    have F := (And.intro @ht @hg)
    refine rn F ?_
    repeat' (first
      | with_reducible exact ⟨⟩
      | refine vp F (c1) ?_
      | refine vp F (c2) ?_
      | refine vp F (c3) ?_)
    rotate_left
    all_goals first | contradiction | skip
    refine VLoop.nilOwn 8 3 1 rfl ?_
    refine vloopW (fun s0 : To q.length => ⟨100, 0, [(9, .int .i64 s0.i), (8, .own 2 1 0 ((q.take s0.i).filter fun x => decide (x ≠ ref)).length), (7, .ptr 1 0), (6, .int .i64 i), (3, .ptr 0 0), (0, .pv (.sl (fz encT l)))],
      [⟨41, true, [.int .i64 lsn, .int .i64 2, .int .i64 tx, .int .i64 ptx, .int .i64 ppg, .int .i64 ref, .int .i64 c.pg, .int .i64 c.sl, .bool c.b.set, .pv (.str c.b.data), .bool c.a.set, .pv (.str c.a.data), .pv (.str blob)]⟩,
       ⟨209, true, [.int .i64 id, .int .i64 st, .int .i64 lsn, .int .i64 b, .pv (.sl (fz encI q)), .pv (.sl (fz encI s))]⟩,
       ⟨3, true, cells encI ((q.take s0.i).filter fun x => decide (x ≠ ref))⟩]⟩) (fun s0 => q.length - s0.i) ⟨0, Nat.zero_le _⟩ (gc [0, 1, 2]) ?_
    intro s0
    have hi0 := s0.hi
    have hgq := fun h : s0.i < q.length => fzI_get q s0.i h
    have hfl := filt_le q ref s0.i
    have hfs := filt_succ q ref s0.i
    have hwA := hw i hi (settleS (noteT ⟨id, st, ptx, b, q, s⟩ ⟨lsn, 2, tx, ptx, ppg, ref, c, blob⟩))
    have hse := rsettle_v (noteT ⟨id, st, ptx, b, q, s⟩ ⟨lsn, 2, tx, ptx, ppg, ref, c, blob⟩)
    have eN : noteT ⟨id, st, ptx, b, q, s⟩ ⟨lsn, 2, tx, ptx, ppg, ref, c, blob⟩ = ⟨id, st, lsn, b, q.filter fun x => decide (x ≠ ref), s⟩ := rfl
    have hfq := filt_eq q ref
    rw [eN] at hwA hse ⊢
    have hfl2 : (q.filter fun x => decide (x ≠ ref)).length ≤ q.length := List.length_filter_le _ _
    replace hse := hse ⟨by show (q.filter fun x => decide (x ≠ ref)).length ≤ _; omega, by show s.length ≤ _; omega⟩
    by_cases hc : s0.i < q.length
    · replace hfs := hfs hc
      generalize ((q.take s0.i).filter fun x => decide (x ≠ ref)) = out at *
      have hb : (out.length + 1) * 8 ≤ 140737488355328 := by omega
      have F := (And.intro @hgq (And.intro @app_I @hb))
      refine rn F ?_
      repeat' (first
        | with_reducible exact ⟨⟩
        | (refine sB F ?_ ?_ <;> intro hZ)
        | (refine vspine (id := 23) [0, 1, 2, 3, 4, 5, 6, 7] [] (by kernel_rfl) (by kernel_rfl) ?_; refine rn F ?_))
      · have hf2 : (q.take (s0.i + 1)).filter (fun x => decide ¬x = ref) = out ++ [q.getD s0.i 0] := by rw [if_neg (by assumption)] at hfs; exact hfs
        refine ⟨⟨s0.i + 1, by omega⟩, by show q.length - (s0.i + 1) < q.length - s0.i; omega, ?_⟩
        dsimp only
        rw [hf2, List.length_append]
        exact (gc [0, 1, 4])
      · have hf2 : (q.take (s0.i + 1)).filter (fun x => decide ¬x = ref) = out := by rw [if_pos (by assumption), List.append_nil] at hfs; exact hfs
        refine ⟨⟨s0.i + 1, by omega⟩, by show q.length - (s0.i + 1) < q.length - s0.i; omega, ?_⟩
        dsimp only
        rw [hf2]
        exact (gc [0, 1, 2])
    · rw [List.take_of_length_le (by omega)] at *
      generalize (q.filter fun x => decide (x ≠ ref)) = out at *
      generalize settleS ⟨id, st, lsn, b, out, s⟩ = u at *
      have F := trivial
      refine rn F ?_
      repeat' (first
        | with_reducible exact ⟨⟩
        | (refine sB F ?_ ?_ <;> intro hZ)
        | (refine vc_giveA [2] _ _ (hse) rfl ⟨⟨by simp, cells_nums _ _ _⟩, trivial⟩ (by decide) rfl (by simp [DV.nums.go, DV.nums]) ?_ ?_; (focus (refine rd F)); refine rn F ?_)
        | refine vp F (hwA) ?_)
      all_goals first | (rw [if_pos (hfq.1 (by omega))]; rfl) | (rw [if_neg (fun h => absurd (hfq.2 h) (by omega))]; rfl) | skip
  · rw [if_neg (by rintro (h | h); exact h rfl; omega), if_pos (by omega)]
    refine dd Tryz.func157 ?_
    (unfold Tryz.f157; refine rn trivial ?_)
    have F := (And.intro @ht @hg)
    refine rn F ?_
    repeat' (first
      | with_reducible exact ⟨⟩
      | refine vp F (c1) ?_
      | refine vp F (c2) ?_
      | refine vp F (c3) ?_
      | refine vp F (c4) ?_)
    all_goals rfl
  · rw [if_neg (by rintro (h | h); exact h rfl; omega), if_neg (by omega)]
    have hwA := hw i hi (settleS (noteT ⟨id, st, ptx, b, q, s⟩ ⟨lsn, 4, tx, ptx, ppg, ref, c, blob⟩))
    have hse := rsettle_v (noteT ⟨id, st, ptx, b, q, s⟩ ⟨lsn, 4, tx, ptx, ppg, ref, c, blob⟩)
    have eN : noteT ⟨id, st, ptx, b, q, s⟩ ⟨lsn, 4, tx, ptx, ppg, ref, c, blob⟩ = ⟨id, 3, lsn, 0, q, []⟩ := rfl
    rw [eN] at hwA hse ⊢
    replace hse := hse ⟨by show q.length ≤ _; omega, by simp⟩
    have hse2 : VCalls prog 200 [.agg [.int .i64 id, .int .i64 3, .int .i64 lsn, .int .i64 0, .pv (.sl (fz encI q)), .pv (.slc [])]] [] (Ret (.agg (settleS ⟨id, 3, lsn, 0, q, []⟩).d)) := VCalls.wkA hse
    generalize settleS ⟨id, 3, lsn, 0, q, []⟩ = u at *
    refine dd Tryz.func157 ?_
    (unfold Tryz.f157; refine rn trivial ?_)
    have F := (And.intro @ht @hg)
    refine rn F ?_
    repeat' (first
      | with_reducible exact ⟨⟩
      | refine vp F (c1) ?_
      | refine vp F (c2) ?_
      | refine vp F (c3) ?_
      | refine vp F (hse2) ?_
      | refine vp F (hwA) ?_)
    all_goals rfl
  · rw [if_neg (by rintro (h | h); exact h rfl; omega), if_pos (by omega)]
    refine dd Tryz.func157 ?_
    (unfold Tryz.f157; refine rn trivial ?_)
    have F := (And.intro @ht @hg)
    refine rn F ?_
    repeat' (first
      | with_reducible exact ⟨⟩
      | refine vp F (c1) ?_
      | refine vp F (c2) ?_
      | refine vp F (c3) ?_
      | refine vp F (c4) ?_)
    all_goals rfl
end
attribute [go_sem] Ce.d Ch.d E.d Lg.c mem_ok List.length_append List.length_take List.length_drop List.take_length toNat_succ toNat_pred
attribute [go_sem] lenE allE slkE srcE frzE app_E
theorem Okay.no {n : Nat} {c : Nat → Bool} (s : Okay n c) {B : Bool} (h : s.i < n) (hB : B = (List.range n).all c) (hc : c s.i = false) : B = false := by rw [hB, all_not h hc]
theorem Okay.yes {n : Nat} {c : Nat → Bool} (s : Okay n c) {B : Bool} (h : ¬ s.i < n) (hB : B = (List.range n).all c) : B = true := by rw [hB, s.all h]
theorem Okay.dec {n : Nat} {c : Nat → Bool} (s : Okay n c) (h : s.i < n) : n - (s.i + 1) < n - s.i := by omega
structure Pg where
  id : Int
  lsn : Int
  cel : Nat → Ce
def celP (c : Nat → Ce) : List PV := (List.range 16).flatMap fun i => [.lit (.bool (c i).set), .str (c i).data]
def Pg.p (x : Pg) : List PV := .lit (.int .i64 x.id) :: .lit (.int .i64 x.lsn) :: celP x.cel
def Pg.d (x : Pg) : List DV := x.p.map .pv
def Pg0 : Pg := ⟨0, 0, fun _ => Ce0⟩
structure Fm where
  pg : Pg
  dirty : Bool
  rc : Int
  used : Bool
def Fm.p (f : Fm) : List PV := f.pg.p ++ [.lit (.bool f.dirty), .lit (.int .i64 f.rc), .lit (.bool f.used)]
def Fm.d (f : Fm) : List DV := f.p.map .pv
def Fm0 : Fm := ⟨Pg0, false, 0, false⟩
def encF : Enc Fm := ⟨37, Fm.p, by decide, fun _ => rfl⟩
theorem lenF (l : List Fm) : (cells encF l).length = l.length * 37 := cells_len encF l
theorem allF (l : List Fm) (n : Nat) (h : l.length * 37 ≤ n) : (cells encF l).take n = cells encF l := by rw [List.take_of_length_le]; rw [lenF]; exact h
theorem appF (l m : List Fm) : cells encF l ++ cells encF m = cells encF (l ++ m) := (cells_app encF l m).symm
theorem slkF (l : List Fm) (T : TypeId) (a b : Nat) (h : a ≤ b ∧ b ≤ l.length) : vslk (some (none, T, 37)) (fz encF l) a b = some (.pv (.sl (fz encF ((l.take b).drop a)))) := vslk_fz encF l T a b h
theorem srcF (l : List Fm) : (fz encF l = [] ∨ (fz encF l)[0]?.map List.length = some 37) = True := fz_src encF l
theorem frzF {n : Nat} {hp : Heap} {len : Nat} {l : List Fm} (h : l.length = len) : frzC n hp 0 37 len (some (cells encF l)) = some (.sl (fz encF l)) := frzC_cells encF h
theorem fz_getD {α : Type} (e : Enc α) (l : List α) (d : α) (i : Nat) (h : i < l.length) : (fz e l)[i]? = some (e.enc (l.getD i d)) := by rw [getD_eq l i h d]; exact fz_get e l i h
theorem fzF_at (l : List Fm) (i : Nat) (h : i < l.length) : (fz encF l)[i]? = some (l.getD i Fm0).p := fz_getD encF l Fm0 i h
theorem app_F (l : List Fm) (f : Fm) : cells encF l ++ f.d = cells encF (l ++ [f]) := by rw [cells_app]; simp [cells, encF, Fm.d]
@[go_sem] theorem viasF (x : Fm) {T : TypeId} {i : Int} (h0 : 0 ≤ i) : vias (some (none, T, 37)) (some x.p) i = some (.ip x.p) := vias_some h0 rfl (by decide)
@[go_sem] theorem Pg.p_len (x : Pg) : x.p.length = 34 := rfl
@[go_sem] theorem Pg.d_len (x : Pg) : x.d.length = 34 := rfl
@[go_sem] theorem Fm.p_len (x : Fm) : x.p.length = 37 := rfl
@[go_sem] theorem Fm.d_len (x : Fm) : x.d.length = 37 := rfl
@[go_sem] theorem Pg.p_map (x : Pg) : x.p.map DV.pv = x.d := (rfl)
@[go_sem] theorem Fm.p_map (x : Fm) : x.p.map DV.pv = x.d := (rfl)
@[go_sem] theorem Fm.p_take (x : Fm) : x.p.take 37 = x.p := (rfl)
@[go_sem] theorem Fm.d_take (x : Fm) : x.d.take 37 = x.d := (rfl)
@[go_sem] theorem Pg.p_take (x : Pg) : x.p.take 34 = x.p := (rfl)
@[go_sem] theorem Pg.d_take (x : Pg) : x.d.take 34 = x.d := (rfl)
@[go_sem] theorem Fm.p_pg (x : Fm) : x.p.take 34 = x.pg.p := (rfl)
@[go_sem] theorem Fm.d_pg (x : Fm) : x.d.take 34 = x.pg.d := (rfl)
@[go_sem] theorem Fm.p0 (x : Fm) : x.p[0]? = some (.lit (.int .i64 x.pg.id)) := (rfl)
theorem Fm.p1 (x : Fm) : x.p[1]? = some (.lit (.int .i64 x.pg.lsn)) := (rfl)
@[go_sem] theorem Fm.pd1 (x : Fm) : (x.p.drop 1)[0]? = some (.lit (.int .i64 x.pg.lsn)) := (rfl)
@[go_sem] theorem Fm.pd34 (x : Fm) : (x.p.drop 34)[0]? = some (.lit (.bool x.dirty)) := (rfl)
@[go_sem] theorem Fm.pd35 (x : Fm) : (x.p.drop 35)[0]? = some (.lit (.int .i64 x.rc)) := (rfl)
@[go_sem] theorem Fm.pd36 (x : Fm) : (x.p.drop 36)[0]? = some (.lit (.bool x.used)) := (rfl)
@[go_sem] theorem Fm.d0 (x : Fm) : x.d[0]? = some (.pv (.lit (.int .i64 x.pg.id))) := (rfl)
@[go_sem] theorem Fm.d1 (x : Fm) : x.d[1]? = some (.pv (.lit (.int .i64 x.pg.lsn))) := (rfl)
@[go_sem] theorem Fm.d34 (x : Fm) : x.d[34]? = some (.pv (.lit (.bool x.dirty))) := (rfl)
@[go_sem] theorem Fm.d35 (x : Fm) : x.d[35]? = some (.pv (.lit (.int .i64 x.rc))) := (rfl)
@[go_sem] theorem Pg.p0 (x : Pg) : x.p[0]? = some (.lit (.int .i64 x.id)) := (rfl)
theorem Pg.p1 (x : Pg) : x.p[1]? = some (.lit (.int .i64 x.lsn)) := (rfl)
@[go_sem] theorem Pg.d0 (x : Pg) : x.d[0]? = some (.pv (.lit (.int .i64 x.id))) := (rfl)
@[go_sem] theorem Pg.d1 (x : Pg) : x.d[1]? = some (.pv (.lit (.int .i64 x.lsn))) := (rfl)
@[go_sem] theorem Pg.d_one (x : Pg) : allOne x.d = true := (rfl)
@[go_sem] theorem Fm.d_one (x : Fm) : allOne x.d = true := (rfl)
@[go_sem] theorem Pg.d_nums (x : Pg) (k : Nat → Bool) : DV.nums.go k x.d = true := (rfl)
@[go_sem] theorem Fm.d_nums (x : Fm) (k : Nat → Bool) : DV.nums.go k x.d = true := (rfl)
@[go_sem] theorem Fm.set34 (x : Fm) (b : Bool) : x.d.set 34 (.pv (.lit (.bool b))) = Fm.d ⟨x.pg, b, x.rc, x.used⟩ := (rfl)
@[go_sem] theorem Fm.set35 (x : Fm) (b : Int) : x.d.set 35 (.pv (.lit (.int .i64 b))) = Fm.d ⟨x.pg, x.dirty, b, x.used⟩ := (rfl)
@[go_sem] theorem Fm.set36 (x : Fm) (b : Bool) : x.d.set 36 (.pv (.lit (.bool b))) = Fm.d ⟨x.pg, x.dirty, x.rc, b⟩ := (rfl)
@[go_sem] theorem Fm.setpg (x : Fm) (p : Pg) : p.d ++ x.d.drop 34 = Fm.d ⟨p, x.dirty, x.rc, x.used⟩ := (rfl)
@[go_sem] theorem Fm.mk36 (x : Pg) (a c u : Bool) (b : Int) : (x.d ++ ([.pv (.lit (.bool a)), .pv (.lit (.int .i64 b)), .pv (.lit (.bool c))] : List DV)).take 36 ++ [.pv (.lit (.bool u))] ++ (x.d ++ ([.pv (.lit (.bool a)), .pv (.lit (.int .i64 b)), .pv (.lit (.bool c))] : List DV)).drop 37 = Fm.d ⟨x, a, b, u⟩ := (rfl)
@[go_sem] theorem Pg.set1 (x : Pg) (b : Int) : x.d.set 1 (.pv (.lit (.int .i64 b))) = Pg.d ⟨x.id, b, x.cel⟩ := (rfl)
@[go_sem] theorem Pg.d_drop (x : Pg) : x.d.drop 34 = [] := (rfl)
@[go_sem] theorem Fm.d_drop (x : Fm) : x.d.drop 37 = [] := (rfl)
theorem pvs_frz1 (n : Nat) (hp : Heap) : ∀ l : List PV, allSome ((l.map DV.pv).map (frz1 n hp)) = some (l.map DV.pv)
  | [] => rfl
  | p :: l => by show allSome (some (.pv p) :: (l.map DV.pv).map (frz1 n hp)) = _; rw [allSome_cons, pvs_frz1 n hp l]; rfl
@[go_sem] theorem Pg.d_frz1 (x : Pg) (n : Nat) (hp : Heap) : allSome (x.d.map (frz1 n hp)) = some x.d := pvs_frz1 n hp x.p
@[go_sem] theorem Fm.d_frz1 (x : Fm) (n : Nat) (hp : Heap) : allSome (x.d.map (frz1 n hp)) = some x.d := pvs_frz1 n hp x.p
@[go_sem] theorem Pg.d_wk (x : Pg) : DV.wk.go x.d = x.d := (rfl)
@[go_sem] theorem Fm.d_wk (x : Fm) : DV.wk.go x.d = x.d := (rfl)
theorem cel_at (x : Pg) (i : Nat) (h : i < 16) : (x.d.drop (2 + i * 2)).take 2 = [.pv (.lit (.bool (x.cel i).set)), .pv (.str (x.cel i).data)] := by
  have : i = 0 ∨ i = 1 ∨ i = 2 ∨ i = 3 ∨ i = 4 ∨ i = 5 ∨ i = 6 ∨ i = 7 ∨ i = 8 ∨ i = 9 ∨ i = 10 ∨ i = 11 ∨ i = 12 ∨ i = 13 ∨ i = 14 ∨ i = 15 := by omega
  rcases this with h | h | h | h | h | h | h | h | h | h | h | h | h | h | h | h <;> subst h <;> rfl
theorem cel_at0 (x : Pg) (i : Nat) (h : i < 16) : x.d[2 + i * 2]? = some (.pv (.lit (.bool (x.cel i).set))) := by
  have : i = 0 ∨ i = 1 ∨ i = 2 ∨ i = 3 ∨ i = 4 ∨ i = 5 ∨ i = 6 ∨ i = 7 ∨ i = 8 ∨ i = 9 ∨ i = 10 ∨ i = 11 ∨ i = 12 ∨ i = 13 ∨ i = 14 ∨ i = 15 := by omega
  rcases this with h | h | h | h | h | h | h | h | h | h | h | h | h | h | h | h <;> subst h <;> rfl
def Pg.setc (x : Pg) (i : Nat) (c : Ce) : Pg := ⟨x.id, x.lsn, fun k => if k = i then c else x.cel k⟩
theorem cel_set (x : Pg) (i : Nat) (h : i < 16) (c : Ce) : splice x.d (2 + i * 2) [.pv (.lit (.bool c.set)), .pv (.str c.data)] = (x.setc i c).d := by
  have : i = 0 ∨ i = 1 ∨ i = 2 ∨ i = 3 ∨ i = 4 ∨ i = 5 ∨ i = 6 ∨ i = 7 ∨ i = 8 ∨ i = 9 ∨ i = 10 ∨ i = 11 ∨ i = 12 ∨ i = 13 ∨ i = 14 ∨ i = 15 := by omega
  rcases this with h | h | h | h | h | h | h | h | h | h | h | h | h | h | h | h <;> subst h <;> rfl
structure Rw where
  lsn : Int
  im : Int
  at_ : Int
def encR : Enc Rw := ⟨3, fun r => [.lit (.int .i64 r.lsn), .lit (.int .i64 r.im), .lit (.int .i64 r.at_)], by decide, fun _ => rfl⟩
@[go_sem] def Rw.d (r : Rw) : List DV := [.int .i64 r.lsn, .int .i64 r.im, .int .i64 r.at_]
theorem lenR (l : List Rw) : (cells encR l).length = l.length * 3 := cells_len encR l
theorem allR (l : List Rw) (n : Nat) (h : l.length * 3 ≤ n) : (cells encR l).take n = cells encR l := by rw [List.take_of_length_le]; rw [lenR]; exact h
theorem srcR (l : List Rw) : (fz encR l = [] ∨ (fz encR l)[0]?.map List.length = some 3) = True := fz_src encR l
theorem frzR {n : Nat} {hp : Heap} {len : Nat} {l : List Rw} (h : l.length = len) : frzC n hp 0 3 len (some (cells encR l)) = some (.sl (fz encR l)) := frzC_cells encR h
def Rw0 : Rw := ⟨0, 0, 0⟩
theorem fzR_at (l : List Rw) (i : Nat) (h : i < l.length) : (fz encR l)[i]? = some [.lit (.int .i64 (l.getD i Rw0).lsn), .lit (.int .i64 (l.getD i Rw0).im), .lit (.int .i64 (l.getD i Rw0).at_)] := fz_getD encR l Rw0 i h
theorem app_R (l : List Rw) (a b c : Int) : cells encR l ++ [.pv (.lit (.int .i64 a)), .pv (.lit (.int .i64 b)), .pv (.lit (.int .i64 c))] = cells encR (l ++ [⟨a, b, c⟩]) := by rw [cells_app]; rfl
structure Dt where
  pg : Int
  rc : Int
  last : Int
def encY : Enc Dt := ⟨3, fun r => [.lit (.int .i64 r.pg), .lit (.int .i64 r.rc), .lit (.int .i64 r.last)], by decide, fun _ => rfl⟩
@[go_sem] def Dt.d (r : Dt) : List DV := [.int .i64 r.pg, .int .i64 r.rc, .int .i64 r.last]
theorem lenY (l : List Dt) : (cells encY l).length = l.length * 3 := cells_len encY l
theorem allY (l : List Dt) (n : Nat) (h : l.length * 3 ≤ n) : (cells encY l).take n = cells encY l := by rw [List.take_of_length_le]; rw [lenY]; exact h
theorem frzY {n : Nat} {hp : Heap} {len : Nat} {l : List Dt} (h : l.length = len) : frzC n hp 0 3 len (some (cells encY l)) = some (.sl (fz encY l)) := frzC_cells encY h
def Dt0 : Dt := ⟨0, 0, 0⟩
theorem fzY_at (l : List Dt) (i : Nat) (h : i < l.length) : (fz encY l)[i]? = some [.lit (.int .i64 (l.getD i Dt0).pg), .lit (.int .i64 (l.getD i Dt0).rc), .lit (.int .i64 (l.getD i Dt0).last)] := fz_getD encY l Dt0 i h
theorem app_Y (l : List Dt) (a b c : Int) : cells encY l ++ [.pv (.lit (.int .i64 a)), .pv (.lit (.int .i64 b)), .pv (.lit (.int .i64 c))] = cells encY (l ++ [⟨a, b, c⟩]) := by rw [cells_app]; rfl
structure Gr where
  tx : Int
  pg : Int
  sl : Int
  md : Int
def Gr0 : Gr := ⟨0, 0, 0, 0⟩
def encG : Enc Gr := ⟨4, fun g => [.lit (.int .i64 g.tx), .lit (.int .i64 g.pg), .lit (.int .i64 g.sl), .lit (.int .i64 g.md)], by decide, fun _ => rfl⟩
@[go_sem] def Gr.d (g : Gr) : List DV := [.int .i64 g.tx, .int .i64 g.pg, .int .i64 g.sl, .int .i64 g.md]
theorem lenG (l : List Gr) : (cells encG l).length = l.length * 4 := cells_len encG l
theorem allG (l : List Gr) (n : Nat) (h : l.length * 4 ≤ n) : (cells encG l).take n = cells encG l := by rw [List.take_of_length_le]; rw [lenG]; exact h
theorem appG (l m : List Gr) : cells encG l ++ cells encG m = cells encG (l ++ m) := (cells_app encG l m).symm
theorem slkG (l : List Gr) (T : TypeId) (a b : Nat) (h : a ≤ b ∧ b ≤ l.length) : vslk (some (none, T, 4)) (fz encG l) a b = some (.pv (.sl (fz encG ((l.take b).drop a)))) := vslk_fz encG l T a b h
theorem srcG (l : List Gr) : (fz encG l = [] ∨ (fz encG l)[0]?.map List.length = some 4) = True := fz_src encG l
theorem frzG {n : Nat} {hp : Heap} {len : Nat} {l : List Gr} (h : l.length = len) : frzC n hp 0 4 len (some (cells encG l)) = some (.sl (fz encG l)) := frzC_cells encG h
theorem fzG_at (l : List Gr) (i : Nat) (h : i < l.length) : (fz encG l)[i]? = some [.lit (.int .i64 (l.getD i Gr0).tx), .lit (.int .i64 (l.getD i Gr0).pg), .lit (.int .i64 (l.getD i Gr0).sl), .lit (.int .i64 (l.getD i Gr0).md)] := fz_getD encG l Gr0 i h
theorem app_G (l : List Gr) (a b c d : Int) : cells encG l ++ [.pv (.lit (.int .i64 a)), .pv (.lit (.int .i64 b)), .pv (.lit (.int .i64 c)), .pv (.lit (.int .i64 d))] = cells encG (l ++ [⟨a, b, c, d⟩]) := by rw [cells_app]; rfl
theorem fzE_g (l : List E) (i : Nat) (h : i < l.length) : (fz encE l)[i]? = some [.lit (.int .i64 (l.getD i E0).lsn), .lit (.int .i64 (l.getD i E0).kind), .lit (.int .i64 (l.getD i E0).tx), .lit (.int .i64 (l.getD i E0).ptx), .lit (.int .i64 (l.getD i E0).ppg), .lit (.int .i64 (l.getD i E0).ref), .lit (.int .i64 (l.getD i E0).c.pg), .lit (.int .i64 (l.getD i E0).c.sl), .lit (.bool (l.getD i E0).c.b.set), .str (l.getD i E0).c.b.data, .lit (.bool (l.getD i E0).c.a.set), .str (l.getD i E0).c.a.data, .str (l.getD i E0).blob] := fz_getD encE l E0 i h
theorem fzT_g (l : List Tx) (i : Nat) (h : i < l.length) : (fz encT l)[i]? = some [.lit (.int .i64 (l.getD i Tx0).id), .lit (.int .i64 (l.getD i Tx0).st), .lit (.int .i64 (l.getD i Tx0).n), .lit (.int .i64 (l.getD i Tx0).b), .sl (fz encI (l.getD i Tx0).l), .sl (fz encI (l.getD i Tx0).s)] := fz_getD encT l Tx0 i h
theorem wk_E (l : List E) : DV.wk.go (cells encE l) = cells encE l := wk_cells encE l fun a p hp => by
  simp [encE] at hp
  rcases hp with h | h | h | h | h | h | h | h | h | h | h | h | h <;> subst h <;> rfl
theorem wk_G (l : List Gr) : DV.wk.go (cells encG l) = cells encG l := wk_cells encG l fun a p hp => by
  simp [encG] at hp
  rcases hp with h | h | h | h <;> subst h <;> rfl
theorem wk_R (l : List Rw) : DV.wk.go (cells encR l) = cells encR l := wk_cells encR l fun a p hp => by
  simp [encR] at hp
  rcases hp with h | h | h <;> subst h <;> rfl
theorem wk_Y (l : List Dt) : DV.wk.go (cells encY l) = cells encY l := wk_cells encY l fun a p hp => by
  simp [encY] at hp
  rcases hp with h | h | h <;> subst h <;> rfl
theorem wk_F (l : List Fm) : DV.wk.go (cells encF l) = cells encF l := wk_cells encF l fun a p hp => by
  have hm : a.p.map PV.wk = a.p := rfl
  have hp : p ∈ a.p := hp
  obtain ⟨i, hi, rfl⟩ := List.getElem_of_mem hp
  have := congrArg (fun l => l[i]?) hm
  simpa [hi] using this
attribute [go_sem] wk_E wk_G wk_R wk_Y wk_F
attribute [go_sem] lenF allF appF slkF srcF frzF app_F lenR allR srcR frzR app_R lenY allY frzY app_Y lenG allG appG slkG srcG frzG app_G
structure Pl where
  size : Int
  fs : List Fm
  hand : Int
@[go_sem] def Pl.d (p : Pl) : List DV := [.int .i64 p.size, .pv (.sl (fz encF p.fs)), .int .i64 p.hand]
def Pl0 : Pl := ⟨0, [], 0⟩
structure Lk where
  held : List Gr
  wait : List Gr
@[go_sem] def Lk.d (t : Lk) : List DV := [.pv (.sl (fz encG t.held)), .pv (.sl (fz encG t.wait))]
def cb (c : C) : Blk := ⟨60, true, cc c⟩
abbrev CX (R : DV → Prop) : DV → Heap → Prop := fun r h' => ∃ B', h' = [B'] ∧ B'.live = true ∧ DV.nums.go (fun _ => false) B'.cells = true ∧ r.nums (fun _ => false) = true ∧ (R r ∧ ∃ c', B' = cb c')
theorem vc_cx {g : FuncId} {args : List DV} {hp : Heap} {k : Nat} {c : C} {R : DV → Prop} {K : DV → Heap → Prop} (h : VCalls prog g (args.map (DV.ren fun _ => 0)) [cb c] (CX R)) (hk : hp[k]? = some (cb c))
    (ha : DV.nums.go (fun i => i == k) args = true) (hK : ∀ r c', R r → K r (hp.set k (cb c'))) : VCalls prog g args hp K :=
  (VCalls.ptr1 (R := fun r B' => R r ∧ ∃ c', B' = cb c') hk rfl (cc_nums c) h ha).mono fun r h' ⟨B', e1, _, _, e2, e3⟩ => by subst e1; obtain ⟨c', rfl⟩ := e3; exact hK r c' e2
abbrev Nx (n : Nat) : DV → Prop := fun r => ∃ x : Nat, r = .int .i64 x ∧ x < n
theorem next0_v (c : C) (n : Nat) (h1 : 1 ≤ n) (hn : n ≤ 256) : VCalls prog 8 [.ptr 0 0, .int .i64 n] [cb c] (CX (Nx n)) := by
  refine dd Tryz.func8 ?_
  have ha := c.ha
  have hl := c.hl
  simp (config := { maxSteps := 2000000 }) (implicitDefEqProofs := false) (disch := first | omega | assumption | (simp only []; done) | fail) only [go_sem, Nat.reduceAdd, Int.reduceAdd, Tryz.f8, cb, cc]
  refine vdraw (by kernel_rfl) (by kernel_rfl) ?_
  by_cases a : c.at_ < c.l.length
  · simp (config := { maxSteps := 2000000 }) (implicitDefEqProofs := false) (disch := first | omega | assumption | (simp only []; done) | fail) only [go_sem, ↓reduceIte, reduceCtorEq, Nat.reduceAdd, Nat.reduceBEq, Int.reduceAdd, Int.reduceBEq]
    refine vdraw (by kernel_rfl) (by kernel_rfl) ?_
    have hg := fzU_get c.l c.at_ a
    have hh : (c.l.getD c.at_ 0).toNat < 256 := UInt8.toNat_lt _
    simp (config := { maxSteps := 2000000 }) (implicitDefEqProofs := false) (disch := first | omega | assumption | (simp only [List.length_cons, List.length_nil, Nat.zero_add]; done) | fail) only [go_sem, ↓reduceIte, reduceCtorEq, Nat.reduceAdd, Nat.reduceLT, Nat.reduceBEq, Int.reduceLT, Int.reduceAdd, Int.reduceBEq, hg]
    obtain ⟨y, hy, hlt⟩ := tmod_lt' (c.l.getD c.at_ 0).toNat n h1
    refine ⟨_, rfl, rfl, rfl, rfl, ⟨y, by rw [hy], hlt⟩, ⟨c.l, c.at_ + 1, a, hl⟩, rfl⟩
  · simp (config := { maxSteps := 2000000 }) (implicitDefEqProofs := false) (disch := first | omega | assumption | (simp only []; done) | fail) only [go_sem, ↓reduceIte, reduceCtorEq, Nat.reduceAdd, Nat.reduceBEq, Int.reduceAdd, Int.reduceBEq]
    exact ⟨_, rfl, rfl, rfl, rfl, ⟨0, rfl, h1⟩, c, rfl⟩
theorem next_v (c : C) (n : Nat) (h1 : 1 ≤ n) (hn : n ≤ 1000000000) : VCalls prog 8 [.ptr 0 0, .int .i64 n] [cb c] (CX (Nx n)) := by
  by_cases hs : n ≤ 256
  · exact next0_v c n h1 hs
  refine dd Tryz.func8 ?_
  have ha := c.ha
  have hl := c.hl
  simp (config := { maxSteps := 2000000 }) (implicitDefEqProofs := false) (disch := first | omega | assumption | (simp only []; done) | fail) only [go_sem, Nat.reduceAdd, Int.reduceAdd, Tryz.f8, cb, cc]
  refine vdraw (by kernel_rfl) (by kernel_rfl) ?_
  by_cases a : c.at_ < c.l.length
  · simp (config := { maxSteps := 2000000 }) (implicitDefEqProofs := false) (disch := first | omega | assumption | (simp only []; done) | fail) only [go_sem, ↓reduceIte, reduceCtorEq, Nat.reduceAdd, Nat.reduceBEq, Int.reduceAdd, Int.reduceBEq]
    refine vdraw (by kernel_rfl) (by kernel_rfl) ?_
    have hg := fzU_get c.l c.at_ a
    have hh : (c.l.getD c.at_ 0).toNat < 256 := UInt8.toNat_lt _
    generalize hx : (c.l.getD c.at_ 0).toNat = x at hg hh
    simp (config := { maxSteps := 2000000 }) (implicitDefEqProofs := false) (disch := first | omega | assumption | (simp only [List.length_cons, List.length_nil, Nat.zero_add]; done) | fail) only [go_sem, ↓reduceIte, reduceCtorEq, Nat.reduceAdd, Nat.reduceLT, Nat.reduceBEq, Int.reduceLT, Int.reduceAdd, Int.reduceBEq, hg]
    refine vc_cx (k := 0) (c := ⟨c.l, c.at_ + 1, a, hl⟩) (next0_v _ 256 (by omega) (by omega)) rfl rfl ?_
    rintro r c' ⟨z, rfl, hz⟩
    simp (config := { maxSteps := 2000000 }) (implicitDefEqProofs := false) (disch := first | omega | assumption | (simp only []; done) | fail) only [go_sem, Nat.reduceBEq, Int.reduceBEq, cb, cc]
    obtain ⟨y, hy, hlt⟩ := tmod_lt' (256 * x + z) n h1
    have e : (256 * (x : Int) + (z : Int)) = ((256 * x + z : Nat) : Int) := by omega
    refine ⟨_, rfl, rfl, rfl, rfl, ⟨y, by rw [e, hy], hlt⟩, c', rfl⟩
  · simp (config := { maxSteps := 2000000 }) (implicitDefEqProofs := false) (disch := first | omega | assumption | (simp only []; done) | fail) only [go_sem, ↓reduceIte, reduceCtorEq, Nat.reduceAdd, Nat.reduceBEq, Int.reduceAdd, Int.reduceBEq]
    exact ⟨_, rfl, rfl, rfl, rfl, ⟨0, rfl, h1⟩, c, rfl⟩
theorem next_i (c : C) (m : Int) (h1 : 1 ≤ m) (hn : m ≤ 1000000000) : VCalls prog 8 [.ptr 0 0, .int .i64 m] [cb c] (CX (Nx m.toNat)) := by
  have h := next_v c m.toNat (by omega) (by omega)
  rwa [show ((m.toNat : Nat) : Int) = m by omega] at h
theorem draw_v (l : List UInt8) (most : Nat) (hm : 1 ≤ most) (h : most ≤ 1000000) (hl : l.length ≤ 9223372036854775807) : VCalls prog 6 [.pv (.sl (fz encU l)), .int .i64 most] [] fun r h' => ∃ B, h' = [B] ∧ r = .ptr 0 0 ∧ B.live = true ∧ DV.nums.go (fun _ => false) B.cells = true ∧ ∃ c, B = cb c := by
  refine vcalls_keep (fn := Tryz.f6) Tryz.func6 rfl (by kernel_rfl) (by simp [Tryz.f6]) ?_
  simp (config := { maxSteps := 2000000 }) (implicitDefEqProofs := false) (disch := first | omega | assumption | (simp only []; done) | fail) only [go_sem, Nat.reduceAdd, Nat.reduceBEq, Int.reduceAdd, Int.reduceBEq, Tryz.f6]
  refine vbr_split (fun hc => ?_) (fun hc => ?_) <;> simp only [decide_eq_true_eq, decide_eq_false_iff_not, Bool.or_eq_true, Bool.and_eq_true, Bool.or_eq_false_iff, Bool.and_eq_false_imp, Bool.not_eq_true', Bool.not_eq_false', beq_iff_eq, beq_eq_false_iff_ne, bne_iff_ne, bne_eq_false_iff_eq, ne_eq] at hc
  · have hx : (fz encU l)[0]?.map List.length = some 1 := fz_has encU l (by omega)
    have ht : (fz encU l).take most = fz encU (l.take most) := fz_take encU l most
    have hh : most ≤ (fz encU l).length := by rw [fz_len]; omega
    have h0 : (0 : Nat) ≤ most := by omega
    simp (config := { maxSteps := 2000000 }) (implicitDefEqProofs := false) (disch := first | omega | assumption | (simp only []; done) | fail) only [go_sem, V.splice, ↓reduceIte, Nat.reduceAdd, Nat.reduceLT, Nat.reduceLeDiff, Nat.reduceBEq, Int.reduceLT, Int.reduceAdd, Int.reduceBEq, ht]
    exact ⟨_, rfl, rfl, rfl, ⟨l.take most, 0, by omega, by rw [List.length_take]; omega⟩, rfl⟩
  · simp (config := { maxSteps := 2000000 }) (implicitDefEqProofs := false) (disch := first | omega | assumption | (simp only []; done) | fail) only [go_sem, V.splice, ↓reduceIte, Nat.reduceAdd, Nat.reduceLT, Nat.reduceLeDiff, Nat.reduceBEq, Int.reduceLT, Int.reduceAdd, Int.reduceBEq]
    exact ⟨_, rfl, rfl, rfl, ⟨l, 0, by omega, by omega⟩, rfl⟩
theorem vc_draw {l : List UInt8} {most : Nat} {hp : Heap} {K : DV → Heap → Prop} (hm : 1 ≤ most) (h : most ≤ 1000000) (hl : l.length ≤ 9223372036854775807) (hK : ∀ c, K (.ptr hp.length 0) (hp ++ [cb c])) : VCalls prog 6 [.pv (.sl (fz encU l)), .int .i64 most] hp K :=
  (VCalls.new (draw_v l most hm h hl) rfl).mono fun r h' ⟨B, e1, e2, _, _, c, e3⟩ => by subst e1 e2 e3; exact hK c
theorem int_v (c : C) : VCalls prog 102 [.ptr 0 0] [cb c] (CX fun r => ∃ n : Int, r = .int .i64 n ∧ -9223372036854775808 ≤ n ∧ n ≤ 9223372036854775807) := by
  refine dd Tryz.func102 ?_
  simp (config := { maxSteps := 2000000 }) (implicitDefEqProofs := false) (disch := first | omega | assumption | (simp only []; done) | fail) only [go_sem, Nat.reduceBEq, Int.reduceNeg, Int.reduceBEq, Tryz.f102]
  refine vc_cx (k := 0) (c := c) (next_v c 10 (by omega) (by omega)) rfl rfl ?_
  rintro _ c1 ⟨z, rfl, hz⟩
  (try simp (config := { maxSteps := 2000000 }) (implicitDefEqProofs := false) (disch := first | omega | assumption | (simp only []; done) | fail) only [go_sem, Int.reduceNeg])
  repeat' (first
    | (refine vrunG_split (fun hZ => ?_) (fun hZ => ?_) <;> (try rw [hZ]) <;> (try simp only [decide_eq_true_eq, decide_eq_false_iff_not, Bool.or_eq_true, Bool.and_eq_true, Bool.or_eq_false_iff, Bool.and_eq_false_imp, Bool.not_eq_true', Bool.not_eq_false', beq_iff_eq, beq_eq_false_iff_ne, bne_iff_ne, bne_eq_false_iff_eq, ne_eq, Bool.not_eq_eq_eq_not, Bool.not_true, Bool.not_false] at hZ) <;> (try (first | rw [(hZ : _ = false)] | rw [(hZ : _ = true)])) <;> skip)
    | (refine vbr_split (fun hZ => ?_) (fun hZ => ?_) <;> (try rw [hZ]) <;> (try simp only [decide_eq_true_eq, decide_eq_false_iff_not, Bool.or_eq_true, Bool.and_eq_true, Bool.or_eq_false_iff, Bool.and_eq_false_imp, Bool.not_eq_true', Bool.not_eq_false', beq_iff_eq, beq_eq_false_iff_ne, bne_iff_ne, bne_eq_false_iff_eq, ne_eq, Bool.not_eq_eq_eq_not, Bool.not_true, Bool.not_false] at hZ) <;> (try (first | rw [(hZ : _ = false)] | rw [(hZ : _ = true)])) <;> (try simp (config := { maxSteps := 2000000 }) (implicitDefEqProofs := false) (disch := first | omega | assumption | (simp only []; done) | fail) only [go_sem, V.splice, V.mk, ↓reduceIte, Nat.reduceAdd, Nat.reduceLT, Nat.reduceLeDiff, Nat.reduceBEq, Int.reduceLT, Int.reduceNeg, Int.reduceAdd, Int.reduceBEq]))
    | (refine vdrG_split (fun hZ => ?_) (fun hZ => ?_) <;> (try rw [hZ]) <;> (try simp only [decide_eq_true_eq, decide_eq_false_iff_not, Bool.or_eq_true, Bool.and_eq_true, Bool.or_eq_false_iff, Bool.and_eq_false_imp, Bool.not_eq_true', Bool.not_eq_false', beq_iff_eq, beq_eq_false_iff_ne, bne_iff_ne, bne_eq_false_iff_eq, ne_eq, Bool.not_eq_eq_eq_not, Bool.not_true, Bool.not_false] at hZ) <;> (try (first | rw [(hZ : _ = false)] | rw [(hZ : _ = true)])) <;> skip))
  · refine vc_cx (k := 0) (c := c1) (next_v c1 3 (by omega) (by omega)) rfl rfl ?_
    rintro _ c2 ⟨y, rfl, hy⟩
    simp (config := { maxSteps := 2000000 }) (implicitDefEqProofs := false) (disch := first | omega | assumption | (simp only []; done) | fail) only [go_sem, Int.reduceNeg]
    exact ⟨_, rfl, rfl, cc_nums _, rfl, ⟨_, rfl, by omega, by omega⟩, c2, rfl⟩
  · refine vc_cx (k := 0) (c := c1) (next_v c1 16 (by omega) (by omega)) rfl rfl ?_
    rintro _ c2 ⟨y, rfl, hy⟩
    have h : y = 0 ∨ y = 1 ∨ y = 2 ∨ y = 3 ∨ y = 4 ∨ y = 5 ∨ y = 6 ∨ y = 7 ∨ y = 8 ∨ y = 9 ∨ y = 10 ∨ y = 11 ∨ y = 12 ∨ y = 13 ∨ y = 14 ∨ y = 15 := by omega
    rcases h with rfl | rfl | rfl | rfl | rfl | rfl | rfl | rfl | rfl | rfl | rfl | rfl | rfl | rfl | rfl | rfl <;> (simp (config := { maxSteps := 2000000 }) (implicitDefEqProofs := false) (disch := first | omega | assumption | (simp only []; done) | fail) only [go_sem, Nat.reduceBEq, Int.reduceNeg, Int.reduceBEq]; exact ⟨_, rfl, rfl, cc_nums _, rfl, ⟨_, rfl, by omega, by omega⟩, c2, rfl⟩)
  · refine vc_cx (k := 0) (c := c1) (next_v c1 20 (by omega) (by omega)) rfl rfl ?_
    rintro _ c2 ⟨y, rfl, hy⟩
    simp (config := { maxSteps := 2000000 }) (implicitDefEqProofs := false) (disch := first | omega | assumption | (simp only []; done) | fail) only [go_sem, Int.reduceNeg]
    exact ⟨_, rfl, rfl, cc_nums _, rfl, ⟨_, rfl, by omega, by omega⟩, c2, rfl⟩
theorem btsC : bts prog 22 9 = true := by kernel_rfl
abbrev Sx (n : Nat) : DV → Prop := fun r => ∃ t : List UInt8, r = .pv (.str t) ∧ t.length ≤ n + 1
theorem spoilt_v (c : C) (s : List UInt8) (hs : s.length ≤ 900000000) : VCalls prog 12 [.ptr 0 0, .pv (.str s)] [cb c] (CX (Sx s.length)) := by
  refine dd Tryz.func12 ?_
  simp (config := { maxSteps := 2000000 }) (implicitDefEqProofs := false) (disch := first | omega | assumption | (simp only []; done) | fail) only [go_sem, Nat.reduceAdd, Nat.reduceBEq, Int.reduceAdd, Int.reduceBEq, Tryz.f12]
  refine vbr_split (fun h0 => ?_) (fun h0 => ?_) <;> simp only [decide_eq_true_eq, decide_eq_false_iff_not, Bool.or_eq_true, Bool.and_eq_true, Bool.or_eq_false_iff, Bool.and_eq_false_imp, Bool.not_eq_true', Bool.not_eq_false', beq_iff_eq, beq_eq_false_iff_ne, bne_iff_ne, bne_eq_false_iff_eq, ne_eq] at h0
  · simp (config := { maxSteps := 2000000 }) (implicitDefEqProofs := false) (disch := first | omega | assumption | (simp only []; done) | fail) only [go_sem, Nat.reduceBEq, Int.reduceBEq]
    refine vc_cx (k := 0) (c := c) (next_v c 256 (by omega) (by omega)) rfl rfl ?_
    rintro r c' ⟨z, rfl, hz⟩
    simp (config := { maxSteps := 2000000 }) (implicitDefEqProofs := false) (disch := first | omega | assumption | (simp only []; done) | fail) only [go_sem, V.splice, V.mk, ↓reduceIte, Nat.reduceLT, Nat.reduceLeDiff, Int.reduceLT, cb, conv_bts btsC, vcso_one]
    exact ⟨_, rfl, rfl, rfl, rfl, ⟨_, rfl, by (try simp only [List.length_append, List.length_drop, List.length_take, List.length_cons, List.length_nil]); omega⟩, c', rfl⟩
  · have hs1 : 1 ≤ s.length := by omega
    simp (config := { maxSteps := 2000000 }) (implicitDefEqProofs := false) (disch := first | omega | assumption | (simp only []; done) | fail) only [go_sem, Nat.reduceBEq, Int.reduceBEq]
    refine vc_cx (k := 0) (c := c) (next_v c s.length hs1 (by omega)) rfl rfl ?_
    rintro r c1 ⟨k, rfl, hk⟩
    simp (config := { maxSteps := 2000000 }) (implicitDefEqProofs := false) (disch := first | omega | assumption | (simp only []; done) | fail) only [go_sem, Nat.reduceBEq, Int.reduceBEq]
    refine vc_cx (k := 0) (c := c1) (next_v c1 4 (by omega) (by omega)) rfl rfl ?_
    rintro r c2 ⟨z, rfl, hz⟩
    simp (config := { maxSteps := 2000000 }) (implicitDefEqProofs := false) (disch := first | omega | assumption | (simp only []; done) | fail) only [go_sem]
    have hk1 : ((k : Int) + 1).toNat = k + 1 := by omega
    refine vbr_split (fun hz0 => ?_) (fun hz0 => ?_) <;> simp only [decide_eq_true_eq, decide_eq_false_iff_not, Bool.or_eq_true, Bool.and_eq_true, Bool.or_eq_false_iff, Bool.and_eq_false_imp, Bool.not_eq_true', Bool.not_eq_false', beq_iff_eq, beq_eq_false_iff_ne, bne_iff_ne, bne_eq_false_iff_eq, ne_eq] at hz0
    · simp (config := { maxSteps := 2000000 }) (implicitDefEqProofs := false) (disch := first | omega | assumption) only [go_sem]
      refine vdraw (by kernel_rfl) (by kernel_rfl) ?_
      have q1 : k ≤ s.length := by omega
      have q2 : k + 1 ≤ s.length := by omega
      have q3 : (0 : Int) ≤ (k : Int) + 1 := by omega
      simp (config := { maxSteps := 2000000 }) (implicitDefEqProofs := false) (disch := first | omega | assumption | (simp only []; done) | (simp only [List.length_take, List.length_drop] <;> omega) | fail) only [go_sem, Nat.reduceAdd, Nat.reduceBEq, Int.reduceAdd, Int.reduceBEq, hk1]
      refine ⟨_, rfl, rfl, rfl, rfl, ⟨_, rfl, ?_⟩, c2, rfl⟩
      (try simp only [List.length_append, List.length_drop, List.length_take, List.length_cons, List.length_nil])
      omega
    · simp (config := { maxSteps := 2000000 }) (implicitDefEqProofs := false) (disch := first | omega | assumption | (simp only []; done) | fail) only [go_sem, Nat.reduceBEq, Int.reduceBEq]
      refine vbr_split (fun hz1 => ?_) (fun hz1 => ?_) <;> simp only [decide_eq_true_eq, decide_eq_false_iff_not, Bool.or_eq_true, Bool.and_eq_true, Bool.or_eq_false_iff, Bool.and_eq_false_imp, Bool.not_eq_true', Bool.not_eq_false', beq_iff_eq, beq_eq_false_iff_ne, bne_iff_ne, bne_eq_false_iff_eq, ne_eq] at hz1
      · simp (config := { maxSteps := 2000000 }) (implicitDefEqProofs := false) (disch := first | omega | assumption | (simp only []; done) | fail) only [go_sem, Nat.reduceBEq, Int.reduceBEq]
        refine vc_cx (k := 0) (c := c2) (next_v c2 256 (by omega) (by omega)) rfl rfl ?_
        rintro r c3 ⟨z, rfl, hz⟩
        simp (config := { maxSteps := 2000000 }) (implicitDefEqProofs := false) (disch := first | omega | assumption | (simp only []; done) | (simp only [List.length_cons, List.length_nil] <;> omega) | fail) only [go_sem, V.splice, V.mk, ↓reduceIte, Nat.reduceLT, Nat.reduceLeDiff, Nat.reduceBEq, Int.reduceLT, Int.reduceBEq, cb, conv_bts btsC, vcso_one]
        refine ⟨_, rfl, rfl, rfl, rfl, ⟨_, rfl, ?_⟩, c3, rfl⟩
        (try simp only [List.length_append, List.length_drop, List.length_take, List.length_cons, List.length_nil])
        omega
      · simp (config := { maxSteps := 2000000 }) (implicitDefEqProofs := false) (disch := first | omega | assumption) only [go_sem]
        refine vspineT (id := 9) [[], [], [0, 1], [], [], [3, 4], [], [6], [6, 7], [6, 7, 8], [3, 4, 5, 6, 7, 8, 9], [3, 4, 5, 6, 7, 8, 9, 10], [3, 4, 5, 6, 7, 8, 9, 10, 11], [0, 1, 2, 3, 4, 5, 6, 7, 8, 9, 10, 11, 12], [], [], [15], [14, 15, 16], [0, 1, 2, 3, 4, 5, 6, 7, 8, 9, 10, 11, 12, 13, 14, 15, 16, 17], [0, 1, 2, 3, 4, 5, 6, 7, 8, 9, 10, 11, 12, 13, 14, 15, 16, 17, 18]] [0, 1, 2, 3, 4, 5, 6, 14, 15, 16, 17] [⟨[], [], 7, [0, 1, 2, 3, 4, 5, 14, 15, 16, 17], [8, 9, 10]⟩, ⟨[], [], 11, [0, 1, 2, 14, 15, 16, 17], [12, 13, 18]⟩, ⟨[], [], 19, [], []⟩] (by kernel_rfl) (by kernel_rfl) (by kernel_rfl) ?_
        have q1 : k ≤ s.length := by omega
        have q2 : k + 1 ≤ s.length := by omega
        have q3 : (0 : Int) ≤ (k : Int) + 1 := by omega
        have hg : s[k]? = some (s.getD k 0) := by rw [List.getD_eq_getElem?_getD, List.getElem?_eq_getElem hk]; rfl
        simp (config := { maxSteps := 2000000 }) (implicitDefEqProofs := false) (disch := first | omega | assumption | (simp only []; done) | fail) only [go_sem, Nat.reduceBEq, Int.reduceBEq, hg, hk1]
        refine vc_cx (k := 0) (c := c2) (next_v c2 255 (by omega) (by omega)) rfl rfl ?_
        rintro r c3 ⟨z, rfl, hz⟩
        simp (config := { maxSteps := 2000000 }) (implicitDefEqProofs := false) (disch := first | omega | assumption | (simp only []; done) | (simp only [List.length_append, List.length_cons, List.length_nil, List.length_take, List.length_drop] <;> omega) | fail) only [go_sem, V.splice, V.mk, ↓reduceIte, Nat.reduceLT, Nat.reduceLeDiff, Nat.reduceBEq, Int.reduceLT, Int.reduceBEq, cb, cc, conv_bts btsC, vcso_one]
        refine ⟨_, rfl, rfl, rfl, rfl, ⟨_, rfl, ?_⟩, c3, rfl⟩
        (try simp only [List.length_append, List.length_drop, List.length_take, List.length_cons, List.length_nil])
        omega
section
attribute [local go_sem] lenBo allBo appBo slkBo srcBo frzBo app_Bo lenI allI appI slkI srcI frzI app_In
theorem srask_v (m : Md) (hm : m.done.length ≤ 16 ∧ m.wait.length ≤ 900) (n : Int) : VCalls prog 23 [.agg m.c, .int .i64 n] [] (RetS mdD fun a => a.1.done.length ≤ 16 ∧ a.1.wait.length ≤ m.wait.length + 1) := by
  refine dk Tryz.func23 ?_
  have c1 := scheck_v m ⟨hm.1, by have := hm.2; omega⟩ n
  have c2 := swithout_v m.wait (by have := hm.2; omega) n
  obtain ⟨on, l, w⟩ := m
  obtain ⟨h1, h2⟩ := hm
  dsimp only at h1 h2 c2 ⊢
  (unfold Tryz.f23; refine rn trivial ?_)
  refine vc_pureR c1 rfl ?_
  rintro _ ⟨e, rfl, he⟩
  dsimp only at he
  by_cases e0 : e = 0
  · obtain ⟨g1, g2⟩ := he e0
    subst e0
    have hd := fzBo_g l n.toNat (by omega)
    have hb : (w.length + 1) * 8 ≤ 140737488355328 := by omega
    have F := (And.intro @hd (And.intro @g1 (And.intro @g2 @hb)))
    refine rn F ?_
    repeat' (first
      | with_reducible exact ⟨⟩
      | (refine sG F ?_ ?_ <;> intro hZ)
      | (refine sB F ?_ ?_ <;> intro hZ)
      | (refine vc_S (c2) rfl ?_; rintro w2 hw; refine rn F ?_)
      | (refine vspine (id := 4) [0, 1, 2, 3, 4, 5, 6, 7, 8, 11, 12, 13] [⟨[], [], 9, [0, 1, 2, 3, 4, 6, 11, 12, 13], [10, 14, 15]⟩] (by kernel_rfl) (by kernel_rfl) ?_; refine rn F ?_))
    · exact ⟨rfl, rfl, (⟨on, l, w⟩, 0), rfl, h1, by dsimp only; omega⟩
    · exact ⟨rfl, rfl, (⟨on, l, w ++ [n]⟩, 0), rfl, h1, by simp⟩
    · exact ⟨rfl, rfl, (⟨on, l, w⟩, 0), rfl, h1, by dsimp only; omega⟩
  · skip
    have F := @e0
    refine rn F ?_
    exact ⟨rfl, rfl, (⟨false, [], []⟩, e), rfl, by simp, by simp⟩
theorem srfinish_v (m : Md) (hm : m.done.length ≤ 16 ∧ m.wait.length ≤ 900) (n : Int) : VCalls prog 24 [.agg m.c, .int .i64 n] [] (RetS mdD fun a => a.1.done.length ≤ 16 ∧ a.1.wait.length ≤ m.wait.length) := by
  refine dk Tryz.func24 ?_
  have c1 := scheck_v m ⟨hm.1, by have := hm.2; omega⟩ n
  have c2 := swithout_v m.wait (by have := hm.2; omega) n
  obtain ⟨on, l, w⟩ := m
  obtain ⟨h1, h2⟩ := hm
  dsimp only at h1 h2 c2 ⊢
  have c3 := fun b => srall_v (l.set n.toNat b) (by rw [List.length_set]; omega)
  (unfold Tryz.f24; refine rn trivial ?_)
  refine vc_pureR c1 rfl ?_
  rintro _ ⟨e, rfl, he⟩
  dsimp only at he
  by_cases e0 : e = 0
  · obtain ⟨g1, g2⟩ := he e0
    subst e0
    have hd := fzBo_g l n.toNat (by omega)
    have hn : n.toNat < l.length := by omega
    have F := (And.intro @hd (And.intro @g1 (And.intro @g2 @hn)))
    refine rn F ?_
    repeat' (first
      | with_reducible exact ⟨⟩
      | (refine sB F ?_ ?_ <;> intro hZ)
      | refine vl F (c3 true) ?_
      | (refine vc_S (c2) rfl ?_; rintro w2 hw; refine rn F ?_)
      | (refine vspine (id := 6) [0, 1, 3, 4, 5] [⟨[8], [], 2, [0, 3, 4, 5], []⟩, ⟨[8], [], 6, [0, 1, 3], [7]⟩, ⟨[8], [8], 9, [], []⟩] (by kernel_rfl) (by kernel_rfl) ?_; refine rn F ?_))
    all_goals first
      | exact ⟨rfl, rfl, (⟨false, [], []⟩, _), rfl, by simp, by simp⟩
      | exact ⟨rfl, rfl, (⟨true, l.set n.toNat true, w2⟩, 0), rfl, by dsimp only; rw [List.length_set]; omega, by dsimp only; omega⟩
      | skip
  · skip
    have F := @e0
    refine rn F ?_
    exact ⟨rfl, rfl, (⟨false, [], []⟩, e), rfl, by simp, by simp⟩
def Md.s1 (m : Md) : Prop := m.done.length ≤ 16 ∧ m.wait.length ≤ 20
structure MdS where
  k : Nat
  c : C
  m : Md
  h1 : m.done.length ≤ 16
  h2 : m.wait.length + k ≤ 8
theorem smdraw_v (c : C) : VCalls prog 9 [.ptr 0 0] [cb c] (CX fun d => ∃ m : Md, d = .agg m.c ∧ m.s1) := by
  refine dk Tryz.func9 ?_
  (unfold Tryz.f9; refine rn trivial ?_)
  refine vc_cx (k := 0) (c := c) (next_v c 30 (by omega) (by omega)) rfl rfl ?_
  rintro _ c1 ⟨z, rfl, hz⟩
  refine rn trivial ?_
  refine vc_S (srnew_v (1 + z) (by omega) (by omega)) rfl ?_
  rintro ⟨m0, e0⟩ ⟨h1, h2⟩
  dsimp only at h1 h2
  refine rn trivial ?_
  refine vc_cx (k := 0) (c := c1) (next_v c1 8 (by omega) (by omega)) rfl rfl ?_
  rintro _ c2 ⟨y, rfl, hy⟩
  refine rn trivial ?_
  refine vloopW (fun s : MdS => ⟨54, 1, [(5, .int .i64 s.k), (3, .ptr 2 0), (2, .ptr 1 0), (0, .ptr 0 0)], [cb s.c, ⟨34, true, [.bool false, .pv (.slc []), .pv (.slc [])]⟩, ⟨34, true, s.m.c⟩]⟩) (fun s => s.k) ⟨y, c2, m0, h1, by omega⟩ (gc [0, 1, 2]) ?_
  rintro ⟨k, c3, m, h1, h2⟩
  dsimp only
  by_cases hk : 0 < k
  · have hk' : (0 : Int) < k := by omega
    obtain ⟨j, rfl⟩ : ∃ j, k = j + 1 := ⟨k - 1, by omega⟩
    have hkk : ((j + 1 : Nat) : Int) - 1 = j := by omega
    refine rn @hk' ?_
    refine vspine (id := 5) [0, 1] [⟨[7], [], 2, [0], []⟩, ⟨[7], [], 3, [1], [4, 5, 6]⟩, ⟨[7], [7], 8, [6], []⟩, ⟨[], [], 9, [], []⟩] (by kernel_rfl) (by kernel_rfl) ?_
    refine rn trivial ?_
    refine vc_cx (k := 0) (c := c3) (next_v c3 8 (by omega) (by omega)) rfl rfl ?_
    rintro _ c4 ⟨a, rfl, ha⟩
    refine rn trivial ?_
    refine vc_S (srask_v m ⟨h1, by omega⟩ a) rfl ?_
    rintro ⟨m1, e1⟩ ⟨g1, g2⟩
    dsimp only at g1 g2
    refine rn trivial ?_
    refine vc_cx (k := 0) (c := c4) (next_v c4 2 (by omega) (by omega)) rfl rfl ?_
    rintro _ c5 ⟨v, rfl, hv⟩
    by_cases v0 : (v : Int) = 0
    · (refine rn @v0 ?_; try with_reducible exact ⟨⟩)
      refine vspine (id := 7) [0, 1] [⟨[], [], 2, [0], []⟩, ⟨[], [], 3, [1], [4, 5, 6]⟩, ⟨[], [], 7, [6], []⟩, ⟨[], [], 8, [], []⟩] (by kernel_rfl) (by kernel_rfl) ?_
      refine rn trivial ?_
      refine vc_cx (k := 0) (c := c5) (next_v c5 8 (by omega) (by omega)) rfl rfl ?_
      rintro _ c6 ⟨b, rfl, hb⟩
      refine rn trivial ?_
      refine vc_S (srfinish_v m ⟨h1, by omega⟩ b) rfl ?_
      rintro ⟨m2, e2⟩ ⟨q1, q2⟩
      dsimp only at q1 q2
      refine rn trivial ?_
      by_cases h0 : e2 = 0
      · (refine rn (And.intro @h0 @hkk) ?_; try with_reducible exact ⟨⟩)
        exact ⟨⟨j, c6, m2, q1, by omega⟩, by dsimp only; omega, (gc [0, 1, 2])⟩
      · (refine rn (And.intro @h0 @hkk) ?_; try with_reducible exact ⟨⟩)
        exact ⟨⟨j, c6, m, h1, by omega⟩, by dsimp only; omega, (gc [0, 1, 2])⟩
    · (refine rn @v0 ?_; try with_reducible exact ⟨⟩)
      by_cases h0 : e1 = 0
      · (refine rn (And.intro @h0 @hkk) ?_; try with_reducible exact ⟨⟩)
        exact ⟨⟨j, c5, m1, g1, by omega⟩, by dsimp only; omega, (gc [0, 1, 2])⟩
      · (refine rn (And.intro @h0 @hkk) ?_; try with_reducible exact ⟨⟩)
        exact ⟨⟨j, c5, m, h1, by omega⟩, by dsimp only; omega, (gc [0, 1, 2])⟩
  · obtain rfl : k = 0 := by omega
    refine rn trivial ?_
    refine vc_cx (k := 0) (c := c3) (next_v c3 6 (by omega) (by omega)) rfl rfl ?_
    rintro _ c4 ⟨a, rfl, ha⟩
    obtain ⟨on, l, w⟩ := m
    dsimp only at h1 h2
    by_cases a0 : (a : Int) = 0
    · have hb : (w.length + 1) * 8 ≤ 140737488355328 := by omega
      refine rn @a0 ?_
      refine vc_cx (k := 0) (c := c4) (next_v c4 9 (by omega) (by omega)) rfl rfl ?_
      rintro _ c5 ⟨b, rfl, hb2⟩
      refine rn @hb ?_
      exact ⟨_, rfl, rfl, cc_nums _, rfl, ⟨⟨on, l, w ++ [(b : Int) - 1]⟩, rfl, h1, by simp; omega⟩, _, rfl⟩
    · (refine rn @a0 ?_; try with_reducible exact ⟨⟩)
      exact ⟨_, rfl, rfl, cc_nums _, rfl, ⟨⟨on, l, w⟩, rfl, h1, by dsimp only; omega⟩, _, rfl⟩
end
section
attribute [local go_sem] iteLe
def Pg.numB (p : Pg) : Bool := decide (0 ≤ p.id) && decide (p.id < 64) && decide (0 ≤ p.lsn) && decide (p.lsn ≤ 1099511627776)
def Pg.celC (p : Pg) (i : Nat) : Bool := (p.cel i).okB && !(decide (p.lsn = 0) && (p.cel i).set)
def Pg.celB (p : Pg) : Bool := (List.range 16).all p.celC
def Pg.okB (p : Pg) : Bool := p.numB && p.celB
def checkS (p : Pg) : Int := if p.numB = false then 1 else if p.celB = false then 22 else 0
theorem rnum_v (p : Pg) : VCalls prog 192 [.agg p.d] [] (Ret (.bool p.numB)) := by
  refine dd Tryz.func192 ?_
  (unfold Tryz.f192; refine rn trivial ?_)
  refine rn F ?_
  repeat' (first
    | with_reducible exact ⟨⟩
    | (refine sG F ?_ ?_ <;> intro hZ))
  all_goals (first | rfl | (congr 3; rw [Bool.eq_iff_iff]; (try simp only [Pg.numB, decide_eq_true_eq, Bool.and_eq_true, Bool.or_eq_true, Bool.not_eq_true', Bool.not_eq_false', decide_eq_false_iff_not, beq_iff_eq, bne_iff_ne, ne_eq, Bool.false_eq_true, Bool.true_eq_false, iff_true, true_iff, iff_false, false_iff]); first | done | omega | grind))
theorem rcells_v (p : Pg) : VCalls prog 193 [.agg p.d] [] (Ret (.bool p.celB)) := by
  refine dd Tryz.func193 ?_
  (unfold Tryz.f193; refine rn trivial ?_)
  refine vloopW (fun s : Okay 16 p.celC => ⟨26, 0, [(3, .int .i64 s.i), (1, .ptr 0 0)], [⟨168, true, p.d⟩]⟩) (fun s => 16 - s.i) (Okay.start _ _) (gc [0]) ?_
  intro s
  have hsi := s.hi
  have hg := fun h : s.i < 16 => cel_at p s.i h
  have hg0 := fun h : s.i < 16 => cel_at0 p s.i h
  have e : p.celC s.i = ((p.cel s.i).okB && !(decide (p.lsn = 0) && (p.cel s.i).set)) := rfl
  have c := rcellok_v (p.cel s.i)
  generalize (p.cel s.i).okB = ok at *
  have F := (And.intro @hg @hg0)
  refine rn F ?_
  repeat' (first
    | with_reducible exact ⟨⟩
    | (refine sG F ?_ ?_ <;> intro hZ)
    | (refine sB F ?_ ?_ <;> intro hZ)
    | refine vp F (c) ?_)
  all_goals first | (exact congrArg DV.bool (s.no (by omega) rfl (by rw [e]; simp_all )).symm) | (exact congrArg DV.bool (s.yes (by omega) rfl).symm) | (exact ⟨s.next (by omega) (by rw [e]; simp_all ), s.dec (by omega), (gc [ 0])⟩) | skip
theorem rpvalid_v (p : Pg) : VCalls prog 141 [.agg p.d] [] (Ret (.bool p.okB)) := by
  refine dd Tryz.func141 ?_
  have c1 := rnum_v p
  have c2 := rcells_v p
  have e : p.okB = (p.numB && p.celB) := rfl
  generalize p.numB = a at *
  generalize p.celB = b at *
  (unfold Tryz.f141; refine rn trivial ?_)
  refine rn F ?_
  repeat' (first
    | with_reducible exact ⟨⟩
    | (refine sG F ?_ ?_ <;> intro hZ)
    | refine vp F (c1) ?_
    | refine vp F (c2) ?_)
  all_goals (rw [e]; simp_all)
theorem rcheck_v (p : Pg) : VCalls prog 142 [.agg p.d] [] (Ret (.int .i64 (checkS p))) := by
  refine dd Tryz.func142 ?_
  have c1 := rnum_v p
  have c2 := rcells_v p
  have e : checkS p = if p.numB = false then 1 else if p.celB = false then 22 else 0 := rfl
  generalize p.numB = a at *
  generalize p.celB = b at *
  (unfold Tryz.f142; refine rn trivial ?_)
  refine rn F ?_
  repeat' (first
    | with_reducible exact ⟨⟩
    | (refine sB F ?_ ?_ <;> intro hZ)
    | refine vp F (c1) ?_
    | refine vp F (c2) ?_)
  all_goals (rw [e]; simp_all)
theorem checkS_ok {p : Pg} (h : checkS p = 0) : p.okB = true := by
  unfold checkS at h
  unfold Pg.okB
  split at h
  · simp at h
  split at h
  · simp at h
  · simp_all
end
section
attribute [local go_sem] iteLe
def idF (l : List Fm) (a : Int) : Int := idxP l fun f => f.pg.id == a
theorem rffind_v (p : Pl) (hl : p.fs.length ≤ 1000000) (a : Int) : VCalls prog 110 [.agg p.d, .int .i64 a] [] (Ret (.int .i64 (idF p.fs a))) := by
  refine dd Tryz.func110 ?_
  obtain ⟨z, l, h⟩ := p
  (unfold Tryz.f110; refine rn trivial ?_)
  refine vloopW (fun i : Pass l (fun x => (x.pg.id == a) = true) => ⟨23, 0, [(5, .int .i64 i.i), (2, .ptr 0 0), (1, .int .i64 a)], [⟨73, true, Pl.d ⟨z, l, h⟩⟩]⟩) (fun i => l.length - i.i) (Pass.start l _) (gc [0]) ?_
  intro i
  have hi := i.hi
  dsimp only at hl
  have hg := fun h : i.i < l.length => fzF_at l i.i h
  have F := @hg
  refine rn F ?_
  repeat' (first
    | with_reducible exact ⟨⟩
    | (refine sB F ?_ ?_ <;> intro hZ))
  · have hq : (l.getD i.i Fm0).pg.id = a := by assumption
    rw [getD_eq l i.i (by omega)] at hq
    have := idxP_at l (fun x => x.pg.id == a) i.i (by omega) (by simpa using hq) i.no
    rw [idF, this]
  · have hq : ¬ (l.getD i.i Fm0).pg.id = a := by assumption
    rw [getD_eq l i.i (by omega)] at hq
    exact ⟨i.next (by omega) (by simpa using hq), by show l.length - (i.i + 1) < l.length - i.i; omega, (gc [0])⟩
  · have := i.all (by omega)
    rw [idF, idxP, if_neg (by simpa using this)]
def dupC (l : List Fm) (i k : Nat) : Bool := !decide ((l.getD k Fm0).pg.id = (l.getD i Fm0).pg.id)
def frC (l : List Fm) (i : Nat) : Bool := (l.getD i Fm0).pg.okB && !((l.getD i Fm0).dirty && (decide ((l.getD i Fm0).rc < 1) || decide ((l.getD i Fm0).pg.lsn < (l.getD i Fm0).rc))) && !(!(l.getD i Fm0).dirty && !decide ((l.getD i Fm0).rc = 0)) && (List.range i).all (dupC l i)
def Pl.hd (p : Pl) : Prop := 1 ≤ p.size ∧ p.size ≤ 64 ∧ p.fs.length ≤ p.size ∧ 0 ≤ p.hand ∧ p.hand ≤ max 0 ((p.fs.length : Int) - 1)
instance (p : Pl) : Decidable p.hd := by unfold Pl.hd; infer_instance
def plB (p : Pl) : Bool := decide p.hd && (List.range p.fs.length).all (frC p.fs)
theorem plB_hd {p : Pl} (h : plB p = true) : p.hd := by unfold plB at h; simp at h; exact h.1
theorem rplvalid_v (p : Pl) (hl : p.fs.length ≤ 1000000) : VCalls prog 109 [.agg p.d] [] (Ret (.bool (plB p))) := by
  refine dd Tryz.func109 ?_
  obtain ⟨z, l, hn⟩ := p
  dsimp only at hl
  have hB : plB ⟨z, l, hn⟩ = (decide (Pl.hd ⟨z, l, hn⟩) && (List.range l.length).all (frC l)) := rfl
  have hH : Pl.hd ⟨z, l, hn⟩ = (1 ≤ z ∧ z ≤ 64 ∧ l.length ≤ z ∧ 0 ≤ hn ∧ hn ≤ max 0 ((l.length : Int) - 1)) := rfl
  have hB' : Pl.hd ⟨z, l, hn⟩ → plB ⟨z, l, hn⟩ = (List.range l.length).all (frC l) := fun h => by rw [hB, decide_eq_true h, Bool.true_and]
  have no : ¬ Pl.hd ⟨z, l, hn⟩ → plB ⟨z, l, hn⟩ = false := fun h => by rw [hB, decide_eq_false h]; rfl
  generalize plB ⟨z, l, hn⟩ = b at *
  (unfold Tryz.f109; refine rn trivial ?_)
  refine rn F ?_
  repeat' (first
    | with_reducible exact ⟨⟩
    | (refine sG F ?_ ?_ <;> intro hZ)
    | (refine sB F ?_ ?_ <;> intro hZ))
  all_goals first | (rw [no (by rw [hH]; omega)]) | skip
  refine vloopW (fun s : Okay l.length (frC l) => ⟨94, 0, [(4, .int .i64 s.i), (3, .int .i64 l.length), (1, .ptr 0 0)], [⟨73, true, Pl.d ⟨z, l, hn⟩⟩]⟩) (fun s => l.length - s.i) (Okay.start _ _) (gc [0]) ?_
  intro s
  have hsi := s.hi
  have hg := fun h : s.i < l.length => fzF_at l s.i h
  have c1 := rpvalid_v (l.getD s.i Fm0).pg
  have e : frC l s.i = ((l.getD s.i Fm0).pg.okB && !((l.getD s.i Fm0).dirty && (decide ((l.getD s.i Fm0).rc < 1) || decide ((l.getD s.i Fm0).pg.lsn < (l.getD s.i Fm0).rc))) && !(!(l.getD s.i Fm0).dirty && !decide ((l.getD s.i Fm0).rc = 0)) && (List.range s.i).all (dupC l s.i)) := rfl
  generalize (l.getD s.i Fm0).pg.okB = ok at *
  have F := @hg
  refine rn F ?_
  repeat' (first
    | with_reducible exact ⟨⟩
    | (refine sG F ?_ ?_ <;> intro hZ)
    | (refine sB F ?_ ?_ <;> intro hZ)
    | refine vp F (c1) ?_)
  all_goals first
    | (exact congrArg DV.bool (s.no (by omega) (hB' (by rw [hH]; omega)) (by rw [e]; simp_all)).symm)
    | (exact congrArg DV.bool (s.yes (by omega) (hB' (by rw [hH]; omega))).symm)
    | skip
  all_goals
    refine vloopW (fun r : Okay s.i (dupC l s.i) => ⟨94, 0, [(6, .int .i64 r.i), (5, .ptr 1 0), (4, .int .i64 s.i), (3, .int .i64 l.length), (1, .ptr 0 0)], [⟨73, true, Pl.d ⟨z, l, hn⟩⟩, ⟨172, true, (l.getD s.i Fm0).d⟩]⟩) (fun r => s.i - r.i) (Okay.start _ _) (gc [0, 1]) ?_
    intro r
    have hri := r.hi
    have hk := fun h : r.i < l.length => fzF_at l r.i h
    have e2 : dupC l s.i r.i = !decide ((l.getD r.i Fm0).pg.id = (l.getD s.i Fm0).pg.id) := rfl
    have F := @hk
    refine rn F ?_
    repeat' (first
      | with_reducible exact ⟨⟩
      | (refine sB F ?_ ?_ <;> intro hZ)
      | (refine vspine (id := 13) [0, 1, 2, 3, 4, 5, 6, 7, 8, 9, 10] [] (by kernel_rfl) (by kernel_rfl) ?_; refine rn F ?_))
  all_goals first
    | (exact congrArg DV.bool (s.no (by omega) (hB' (by rw [hH]; omega)) (by rw [e, all_not (i := r.i) (by omega) (by rw [e2]; simp_all), Bool.and_false])).symm)
    | (exact ⟨r.next (by omega) (by rw [e2]; simp_all), r.dec (by omega), (gc [0, 1])⟩)
    | (exact ⟨s.next (by omega) (by rw [e, r.all (by omega)]; simp_all), s.dec (by omega), (gc [0])⟩)
    | skip
end
section
attribute [local go_sem] iteLe
def findS (p : Pl) (a : Int) : Int := if plB p = true then idF p.fs a else -1
theorem idF_cases (l : List Fm) (a : Int) : idF l a = -1 ∨ ∃ i : Nat, ∃ _ : i < l.length, idF l a = i ∧ (l.getD i Fm0).pg.id = a := by
  rcases idxP_find l (fun f => f.pg.id == a) with ⟨h, _⟩ | ⟨i, hi, h, hf⟩
  · exact .inl h
  · refine .inr ⟨i, hi, h, ?_⟩
    have := List.find?_some hf
    rw [getD_eq l i hi]; simpa using this
theorem findS_cases (p : Pl) (a : Int) : findS p a = -1 ∨ (plB p = true ∧ ∃ i : Nat, ∃ _ : i < p.fs.length, findS p a = i ∧ idF p.fs a = i ∧ (p.fs.getD i Fm0).pg.id = a) := by
  unfold findS
  split
  · rename_i hv
    rcases idF_cases p.fs a with h | ⟨i, hi, h, hx⟩
    · exact .inl h
    · exact .inr ⟨hv, i, hi, h, h, hx⟩
  · exact .inl rfl
def getS (p : Pl) (a : Int) : Pg × Bool := if findS p a < 0 then (Pg0, false) else ((p.fs.getD (findS p a).toNat Fm0).pg, true)
theorem rpfind_v (p : Pl) (hl : p.fs.length ≤ 1000000) (a : Int) : VCalls prog 92 [.agg p.d, .int .i64 a] [] (Ret (.int .i64 (findS p a))) := by
  refine dd Tryz.func92 ?_
  have c1 := rplvalid_v p hl
  have c2 := rffind_v p hl a
  unfold findS
  generalize plB p = b at *
  (unfold Tryz.f92; refine rn trivial ?_)
  refine rn F ?_
  repeat' (first
    | with_reducible exact ⟨⟩
    | (refine sB F ?_ ?_ <;> intro hZ)
    | refine vp F (c1) ?_
    | refine vp F (c2) ?_)
  all_goals (simp_all)
theorem rpget_v (p : Pl) (hl : p.fs.length ≤ 1000000) (a : Int) : VCalls prog 107 [.agg p.d, .int .i64 a] [] (Ret (.tup [.agg (getS p a).1.d, .bool (getS p a).2])) := by
  refine dd Tryz.func107 ?_
  have c1 := rpfind_v p hl a
  unfold getS
  rcases findS_cases p a with h | ⟨_, i, hi, h, _⟩
  · rw [h] at c1 ⊢
    (unfold Tryz.f107; refine rn trivial ?_)
    refine rn F ?_
    repeat' (first
      | with_reducible exact ⟨⟩
      | refine vp F (c1) ?_)
    all_goals rfl
  · rw [h] at c1 ⊢
    rw [if_neg (by omega), Int.toNat_natCast]
    have hg := fzF_at p.fs i hi
    generalize p.fs.getD i Fm0 = f at *
    (unfold Tryz.f107; refine rn trivial ?_)
    have F := @hg
    refine rn F ?_
    repeat' (first
      | with_reducible exact ⟨⟩
      | refine vp F (c1) ?_)
theorem setF_in (l : List Fm) (i : Nat) (f : Fm) (hi : i < l.length) : (cells encF l).take (i * 37) ++ f.d ++ (cells encF l).drop (i * 37 + 37) = cells encF (l.set i f) := set_in encF l i f hi
theorem rpset_v (p : Pl) (hl : p.fs.length ≤ 1000000) (i : Nat) (hi : i < p.fs.length) (f : Fm) : VCalls prog 196 [.agg p.d, .int .i64 i, .agg f.d] [] (Ret (.agg (Pl.d ⟨p.size, p.fs.set i f, p.hand⟩))) := by
  refine dd Tryz.func196 ?_
  obtain ⟨z, l, hn⟩ := p
  dsimp only at hl hi
  have hb : i * 37 + 37 ≤ l.length * 37 := by omega
  have hse := setF_in l i f hi
  have hle : (l.set i f).length = l.length := List.length_set
  (unfold Tryz.f196; refine rn trivial ?_)
  have F := (And.intro @hb (And.intro @hse @hle))
  (refine rn F ?_; try with_reducible exact ⟨⟩)
def useS (p : Pl) (a : Int) : Pl := if findS p a < 0 then p else ⟨p.size, p.fs.set (findS p a).toNat ⟨(p.fs.getD (findS p a).toNat Fm0).pg, (p.fs.getD (findS p a).toNat Fm0).dirty, (p.fs.getD (findS p a).toNat Fm0).rc, true⟩, p.hand⟩
theorem rpuse_v (p : Pl) (hl : p.fs.length ≤ 1000000) (a : Int) : VCalls prog 229 [.agg p.d, .int .i64 a] [] (Ret (.agg (useS p a).d)) := by
  refine dd Tryz.func229 ?_
  have c1 := rpfind_v p hl a
  unfold useS
  rcases findS_cases p a with h | ⟨_, i, hi, h, _⟩
  · rw [h] at c1 ⊢
    (unfold Tryz.f229; refine rn trivial ?_)
    refine rn F ?_
    repeat' (first
      | with_reducible exact ⟨⟩
      | refine vp F (c1) ?_)
    all_goals rfl
  · rw [h] at c1 ⊢
    rw [if_neg (by omega), Int.toNat_natCast]
    have hg := fzF_at p.fs i hi
    have c2 := rpset_v p hl i hi ⟨(p.fs.getD i Fm0).pg, (p.fs.getD i Fm0).dirty, (p.fs.getD i Fm0).rc, true⟩
    generalize p.fs.getD i Fm0 = f at *
    (unfold Tryz.f229; refine rn trivial ?_)
    have F := @hg
    refine rn F ?_
    repeat' (first
      | with_reducible exact ⟨⟩
      | refine vp F (c1) ?_
      | refine vp F (c2) ?_)
def plNew (n : Int) : Pl × Int := if n < 1 ∨ 64 < n then (Pl0, 1) else (⟨n, [], 0⟩, 0)
theorem rpnew_v (n : Int) : VCalls prog 76 [.int .i64 n] [] (Ret (.tup [.agg (plNew n).1.d, .int .i64 (plNew n).2])) := by
  refine dk Tryz.func76 ?_
  unfold plNew
  (unfold Tryz.f76; refine rn trivial ?_)
  refine rn F ?_
  repeat' (first
    | with_reducible exact ⟨⟩
    | (refine sG F ?_ ?_ <;> intro hZ)
    | (refine sB F ?_ ?_ <;> intro hZ))
  all_goals first | (rw [if_pos (by omega)]; rfl) | (rw [if_neg (by omega)]; rfl)
def putS (p : Pl) (x : Pg) : Pl × Int :=
  if plB p = false then (Pl0, 15) else if checkS x ≠ 0 then (Pl0, checkS x) else if 0 ≤ idF p.fs x.id then (Pl0, 25) else if (p.fs.length : Int) = p.size then (Pl0, 21)
  else (⟨p.size, p.fs ++ [⟨x, false, 0, true⟩], p.hand⟩, 0)
theorem rpput_v (p : Pl) (hl : p.fs.length ≤ 100000) (x : Pg) : VCalls prog 171 [.agg p.d, .agg x.d] [] (Ret (.tup [.agg (putS p x).1.d, .int .i64 (putS p x).2])) := by
  refine dk Tryz.func171 ?_
  have c1 := rplvalid_v p (by omega)
  have c2 := rcheck_v x
  have c3 := rffind_v p (by omega) x.id
  have e : putS p x = if plB p = false then (Pl0, 15) else if checkS x ≠ 0 then (Pl0, checkS x) else if 0 ≤ idF p.fs x.id then (Pl0, 25) else if (p.fs.length : Int) = p.size then (Pl0, 21)
    else (⟨p.size, p.fs ++ [⟨x, false, 0, true⟩], p.hand⟩, 0) := rfl
  generalize putS p x = r at *
  generalize plB p = b at *
  generalize checkS x = k at *
  generalize idF p.fs x.id = m at *
  have hb : (p.fs.length + 1) * 304 ≤ 140737488355328 := by omega
  (unfold Tryz.f171; refine rn trivial ?_)
  have F := @hb
  refine rn F ?_
  repeat' (first
    | with_reducible exact ⟨⟩
    | (refine sB F ?_ ?_ <;> intro hZ)
    | refine vp F (c1) ?_
    | refine vp F (c2) ?_
    | refine vp F (c3) ?_
    | (refine vspine (id := 10) [0, 1, 3, 4] [⟨[5], [], 2, [0, 3, 4], []⟩, ⟨[5], [5], 6, [0, 1, 3, 4], [7]⟩, ⟨[], [], 8, [], []⟩] (by kernel_rfl) (by kernel_rfl) ?_; refine rn F ?_))
  all_goals first | (first | (rw [e]; simp (disch := first | assumption | omega | exact rfl | exact nf (by assumption) | exact nt (by assumption) | decide | fail) only [if_pos, if_neg]; first | done | rfl) | (rw [e]; simp (disch := first | assumption | omega | exact rfl | exact nf (by assumption) | exact nt (by assumption) | decide | (simp_all; done) | fail) only [if_pos, if_neg]; first | done | rfl)) | skip
end
section
attribute [local go_sem] iteLe
def updF (f : Fm) (x : Pg) : Fm := ⟨x, true, if f.dirty = true then f.rc else x.lsn, true⟩
def updS (p : Pl) (x : Pg) : Pl × Int :=
  if plB p = false then (Pl0, 15) else if checkS x ≠ 0 then (Pl0, checkS x) else if idF p.fs x.id < 0 then (Pl0, 18)
  else if x.lsn ≤ (p.fs.getD (idF p.fs x.id).toNat Fm0).pg.lsn then (Pl0, 8)
  else (⟨p.size, p.fs.set (idF p.fs x.id).toNat (updF (p.fs.getD (idF p.fs x.id).toNat Fm0) x), p.hand⟩, 0)
theorem rpupd_v (p : Pl) (hl : p.fs.length ≤ 100000) (x : Pg) : VCalls prog 222 [.agg p.d, .agg x.d] [] (Ret (.tup [.agg (updS p x).1.d, .int .i64 (updS p x).2])) := by
  refine dk Tryz.func222 ?_
  have c1 := rplvalid_v p (by omega)
  have c2 := rcheck_v x
  have c3 := rffind_v p (by omega) x.id
  have c4 := rpset_v p (by omega)
  have e : updS p x = if plB p = false then (Pl0, 15) else if checkS x ≠ 0 then (Pl0, checkS x) else if idF p.fs x.id < 0 then (Pl0, 18)
    else if x.lsn ≤ (p.fs.getD (idF p.fs x.id).toNat Fm0).pg.lsn then (Pl0, 8)
    else (⟨p.size, p.fs.set (idF p.fs x.id).toNat (updF (p.fs.getD (idF p.fs x.id).toNat Fm0) x), p.hand⟩, 0) := rfl
  have hi := idF_cases p.fs x.id
  generalize updS p x = r at *
  generalize plB p = b at *
  generalize checkS x = k at *
  rcases hi with h | ⟨i, hi, h, _⟩
  · rw [h] at c3 e
    (unfold Tryz.f222; refine rn trivial ?_)
    refine rn F ?_
    repeat' (first
      | with_reducible exact ⟨⟩
      | (refine sB F ?_ ?_ <;> intro hZ)
      | refine vp F (c1) ?_
      | refine vp F (c2) ?_
      | refine vp F (c3) ?_)
    all_goals first | (first | (rw [e]; simp (disch := first | assumption | omega | exact rfl | exact nf (by assumption) | exact nt (by assumption) | decide | fail) only [if_pos, if_neg]; first | done | rfl) | (rw [e]; simp (disch := first | assumption | omega | exact rfl | exact nf (by assumption) | exact nt (by assumption) | decide | (simp_all; done) | fail) only [if_pos, if_neg]; first | done | rfl)) | skip
  · rw [h] at c3 e
    rw [Int.toNat_natCast] at e
    have hg := fzF_at p.fs i hi
    have e2 : ∀ f : Fm, f.dirty = true → updF f x = ⟨x, true, f.rc, true⟩ := fun f h => by unfold updF; rw [if_pos h]
    have e3 : ∀ f : Fm, ¬ f.dirty = true → updF f x = ⟨x, true, x.lsn, true⟩ := fun f h => by unfold updF; rw [if_neg h]
    have c4 := fun f => c4 i hi f
    generalize p.fs.getD i Fm0 = f at *
    (unfold Tryz.f222; refine rn trivial ?_)
    have F := @hg
    refine rn F ?_
    repeat' (first
      | with_reducible exact ⟨⟩
      | (refine sB F ?_ ?_ <;> intro hZ)
      | refine vp F (c1) ?_
      | refine vp F (c2) ?_
      | refine vp F (c3) ?_
      | refine vp F (c4 ⟨_, _, _, _⟩) ?_)
    all_goals first | (first | (rw [e]; simp (disch := first | assumption | omega | exact rfl | exact nf (by assumption) | exact nt (by assumption) | decide | fail) only [if_pos, if_neg]; first | done | rfl) | (rw [e]; simp (disch := first | assumption | omega | exact rfl | exact nf (by assumption) | exact nt (by assumption) | decide | (simp_all; done) | fail) only [if_pos, if_neg]; first | done | rfl)) | (first | (rw [e, e2 f (by assumption)]; simp (disch := first | assumption | omega | exact rfl | exact nf (by assumption) | exact nt (by assumption) | decide | fail) only [if_pos, if_neg]; first | done | rfl) | (rw [e, e2 f (by assumption)]; simp (disch := first | assumption | omega | exact rfl | exact nf (by assumption) | exact nt (by assumption) | decide | (simp_all; done) | fail) only [if_pos, if_neg]; first | done | rfl)) | (first | (rw [e, e3 f (by simp_all)]; simp (disch := first | assumption | omega | exact rfl | exact nf (by assumption) | exact nt (by assumption) | decide | fail) only [if_pos, if_neg]; first | done | rfl) | (rw [e, e3 f (by simp_all)]; simp (disch := first | assumption | omega | exact rfl | exact nf (by assumption) | exact nt (by assumption) | decide | (simp_all; done) | fail) only [if_pos, if_neg]; first | done | rfl)) | skip
def cleanF (f : Fm) (n : Int) : Fm := if f.pg.lsn = n then ⟨f.pg, false, 0, f.used⟩ else if f.rc ≤ n then ⟨f.pg, f.dirty, n + 1, f.used⟩ else f
def cleanS (p : Pl) (a n : Int) : Pl × Int :=
  if plB p = false then (Pl0, 15) else if idF p.fs a < 0 then (Pl0, 18)
  else if (p.fs.getD (idF p.fs a).toNat Fm0).pg.lsn < n then (Pl0, 9)
  else if (p.fs.getD (idF p.fs a).toNat Fm0).dirty = false then (p, 0)
  else (⟨p.size, p.fs.set (idF p.fs a).toNat (cleanF (p.fs.getD (idF p.fs a).toNat Fm0) n), p.hand⟩, 0)
theorem rpclean_v (p : Pl) (hl : p.fs.length ≤ 100000) (a n : Int) (hn : n ≤ 1099511627776) (hn0 : 0 ≤ n) : VCalls prog 149 [.agg p.d, .int .i64 a, .int .i64 n] [] (Ret (.tup [.agg (cleanS p a n).1.d, .int .i64 (cleanS p a n).2])) := by
  refine dk Tryz.func149 ?_
  have c1 := rplvalid_v p (by omega)
  have c3 := rffind_v p (by omega) a
  have c4 := rpset_v p (by omega)
  have e : cleanS p a n = if plB p = false then (Pl0, 15) else if idF p.fs a < 0 then (Pl0, 18)
    else if (p.fs.getD (idF p.fs a).toNat Fm0).pg.lsn < n then (Pl0, 9)
    else if (p.fs.getD (idF p.fs a).toNat Fm0).dirty = false then (p, 0)
    else (⟨p.size, p.fs.set (idF p.fs a).toNat (cleanF (p.fs.getD (idF p.fs a).toNat Fm0) n), p.hand⟩, 0) := rfl
  have hi := idF_cases p.fs a
  generalize cleanS p a n = r at *
  generalize plB p = b at *
  rcases hi with h | ⟨i, hi, h, _⟩
  · rw [h] at c3 e
    (unfold Tryz.f149; refine rn trivial ?_)
    refine rn F ?_
    repeat' (first
      | with_reducible exact ⟨⟩
      | (refine sB F ?_ ?_ <;> intro hZ)
      | refine vp F (c1) ?_
      | refine vp F (c3) ?_)
    all_goals first | (first | (rw [e]; simp (disch := first | assumption | omega | exact rfl | exact nf (by assumption) | exact nt (by assumption) | decide | fail) only [if_pos, if_neg]; first | done | rfl) | (rw [e]; simp (disch := first | assumption | omega | exact rfl | exact nf (by assumption) | exact nt (by assumption) | decide | (simp_all; done) | fail) only [if_pos, if_neg]; first | done | rfl)) | skip
  · rw [h] at c3 e
    rw [Int.toNat_natCast] at e
    have hg := fzF_at p.fs i hi
    have c4 := fun f => c4 i hi f
    generalize p.fs.getD i Fm0 = f at *
    obtain ⟨pg, dirty, rc, used⟩ := f
    have e1 : pg.lsn = n → cleanF ⟨pg, dirty, rc, used⟩ n = ⟨pg, false, 0, used⟩ := fun h => if_pos h
    have e2 : ¬ pg.lsn = n → rc ≤ n → cleanF ⟨pg, dirty, rc, used⟩ n = ⟨pg, dirty, n + 1, used⟩ := fun h h2 => by unfold cleanF; rw [if_neg h, if_pos h2]
    have e3 : ¬ pg.lsn = n → ¬ rc ≤ n → cleanF ⟨pg, dirty, rc, used⟩ n = ⟨pg, dirty, rc, used⟩ := fun h h2 => by unfold cleanF; rw [if_neg h, if_neg h2]
    cases dirty
    all_goals
      (unfold Tryz.f149; refine rn trivial ?_)
      have F := @hg
      refine rn F ?_
      repeat' (first
        | with_reducible exact ⟨⟩
        | (refine sB F ?_ ?_ <;> intro hZ)
        | refine vp F (c1) ?_
        | refine vp F (c3) ?_
        | refine vp F (c4 ⟨_, _, _, _⟩) ?_)
    all_goals first | (first | (rw [e]; simp (disch := first | assumption | omega | exact rfl | exact nf (by assumption) | exact nt (by assumption) | decide | fail) only [if_pos, if_neg]; first | done | rfl) | (rw [e]; simp (disch := first | assumption | omega | exact rfl | exact nf (by assumption) | exact nt (by assumption) | decide | (simp_all; done) | fail) only [if_pos, if_neg]; first | done | rfl)) | (first | (rw [e, e1 (by omega)]; simp (disch := first | assumption | omega | exact rfl | exact nf (by assumption) | exact nt (by assumption) | decide | fail) only [if_pos, if_neg]; first | done | rfl) | (rw [e, e1 (by omega)]; simp (disch := first | assumption | omega | exact rfl | exact nf (by assumption) | exact nt (by assumption) | decide | (simp_all; done) | fail) only [if_pos, if_neg]; first | done | rfl)) | (first | (rw [e, e2 (by omega) (by omega)]; simp (disch := first | assumption | omega | exact rfl | exact nf (by assumption) | exact nt (by assumption) | decide | fail) only [if_pos, if_neg]; first | done | rfl) | (rw [e, e2 (by omega) (by omega)]; simp (disch := first | assumption | omega | exact rfl | exact nf (by assumption) | exact nt (by assumption) | decide | (simp_all; done) | fail) only [if_pos, if_neg]; first | done | rfl)) | (first | (rw [e, e3 (by omega) (by omega)]; simp (disch := first | assumption | omega | exact rfl | exact nf (by assumption) | exact nt (by assumption) | decide | fail) only [if_pos, if_neg]; first | done | rfl) | (rw [e, e3 (by omega) (by omega)]; simp (disch := first | assumption | omega | exact rfl | exact nf (by assumption) | exact nt (by assumption) | decide | (simp_all; done) | fail) only [if_pos, if_neg]; first | done | rfl)) | skip
def handS (n : Nat) (i h : Int) : Int := if (n : Int) ≤ (if i < h then h - 1 else h) then 0 else (if i < h then h - 1 else h)
def dropS (p : Pl) (a : Int) : Pl × Int :=
  if plB p = false then (Pl0, 15) else if idF p.fs a < 0 then (Pl0, 18)
  else if (p.fs.getD (idF p.fs a).toNat Fm0).dirty = true then (Pl0, 23)
  else (⟨p.size, p.fs.take (idF p.fs a).toNat ++ p.fs.drop ((idF p.fs a).toNat + 1), handS (p.fs.length - 1) (idF p.fs a) p.hand⟩, 0)
theorem rpdrop_v (p : Pl) (hl : p.fs.length ≤ 100000) (a : Int) : VCalls prog 215 [.agg p.d, .int .i64 a] [] (Ret (.tup [.agg (dropS p a).1.d, .int .i64 (dropS p a).2])) := by
  refine dk Tryz.func215 ?_
  have c1 := rplvalid_v p (by omega)
  have c3 := rffind_v p (by omega) a
  have e : dropS p a = if plB p = false then (Pl0, 15) else if idF p.fs a < 0 then (Pl0, 18)
    else if (p.fs.getD (idF p.fs a).toNat Fm0).dirty = true then (Pl0, 23)
    else (⟨p.size, p.fs.take (idF p.fs a).toNat ++ p.fs.drop ((idF p.fs a).toNat + 1), handS (p.fs.length - 1) (idF p.fs a) p.hand⟩, 0) := rfl
  have hi := idF_cases p.fs a
  have hh := @plB_hd p
  generalize dropS p a = r at *
  generalize plB p = b at *
  rcases hi with h | ⟨i, hi, h, _⟩
  · rw [h] at c3 e
    (unfold Tryz.f215; refine rn trivial ?_)
    refine rn F ?_
    repeat' (first
      | with_reducible exact ⟨⟩
      | (refine sB F ?_ ?_ <;> intro hZ)
      | refine vp F (c1) ?_
      | refine vp F (c3) ?_)
    all_goals first | (first | (rw [e]; simp (disch := first | assumption | omega | exact rfl | exact nf (by assumption) | exact nt (by assumption) | decide | fail) only [if_pos, if_neg]; first | done | rfl) | (rw [e]; simp (disch := first | assumption | omega | exact rfl | exact nf (by assumption) | exact nt (by assumption) | decide | (simp_all; done) | fail) only [if_pos, if_neg]; first | done | rfl)) | skip
  · rw [h] at c3 e
    rw [Int.toNat_natCast] at e
    cases b
    · (unfold Tryz.f215; refine rn trivial ?_; try with_reducible exact ⟨⟩)
      refine rn F ?_
      repeat' (first
        | with_reducible exact ⟨⟩
        | refine vp F (c1) ?_)
      all_goals (first | (rw [e]; simp (disch := first | assumption | omega | exact rfl | exact nf (by assumption) | exact nt (by assumption) | decide | fail) only [if_pos, if_neg]; first | done | rfl) | (rw [e]; simp (disch := first | assumption | omega | exact rfl | exact nf (by assumption) | exact nt (by assumption) | decide | (simp_all; done) | fail) only [if_pos, if_neg]; first | done | rfl))
    have hh := hh rfl
    obtain ⟨z, l, hn⟩ := p
    dsimp only at hl e hi
    simp only [Pl.hd] at hh
    have hg := fzF_at l i hi
    have hb : (i + (l.length - (i + 1))) * 304 ≤ 140737488355328 := by omega
    have hb1 : i * 304 ≤ 140737488355328 := by omega
    have hmin : min i l.length = i := by omega
    have e1 : (i : Int) < hn → ¬ ((l.length - 1 : Nat) : Int) ≤ hn - 1 → handS (l.length - 1) i hn = hn - 1 := fun h h2 => by unfold handS; rw [if_pos h, if_neg h2]
    have e2 : ¬ (i : Int) < hn → ¬ ((l.length - 1 : Nat) : Int) ≤ hn → handS (l.length - 1) i hn = hn := fun h h2 => by unfold handS; rw [if_neg h, if_neg h2]
    have e3 : (i : Int) < hn → ((l.length - 1 : Nat) : Int) ≤ hn - 1 → handS (l.length - 1) i hn = 0 := fun h h2 => by unfold handS; rw [if_pos h, if_pos h2]
    have e4 : ¬ (i : Int) < hn → ((l.length - 1 : Nat) : Int) ≤ hn → handS (l.length - 1) i hn = 0 := fun h h2 => by unfold handS; rw [if_neg h, if_pos h2]
    generalize l.getD i Fm0 = f at *
    (unfold Tryz.f215; refine rn trivial ?_)
    have F := (And.intro @hg (And.intro @hb (And.intro @hb1 @hmin)))
    refine rn F ?_
    repeat' (first
      | with_reducible exact ⟨⟩
      | (refine sB F ?_ ?_ <;> intro hZ)
      | refine vp F (c1) ?_
      | refine vp F (c3) ?_
      | (refine vspine (id := 8) [0, 1, 2, 3, 5, 6, 7, 8, 9] [⟨[], [], 4, [0, 1, 2, 5, 6, 7, 8, 9], []⟩, ⟨[], [], 10, [0, 1, 2, 3, 5, 6, 7, 8], [11]⟩, ⟨[], [], 12, [], []⟩] (by kernel_rfl) (by kernel_rfl) ?_; refine rn F ?_))
    all_goals first | (first | (rw [e]; simp (disch := first | assumption | omega | exact rfl | exact nf (by assumption) | exact nt (by assumption) | decide | fail) only [if_pos, if_neg]; first | done | rfl) | (rw [e]; simp (disch := first | assumption | omega | exact rfl | exact nf (by assumption) | exact nt (by assumption) | decide | (simp_all; done) | fail) only [if_pos, if_neg]; first | done | rfl)) | (first | (rw [e, e1 (by omega) (by omega)]; simp (disch := first | assumption | omega | exact rfl | exact nf (by assumption) | exact nt (by assumption) | decide | fail) only [if_pos, if_neg]; first | done | rfl) | (rw [e, e1 (by omega) (by omega)]; simp (disch := first | assumption | omega | exact rfl | exact nf (by assumption) | exact nt (by assumption) | decide | (simp_all; done) | fail) only [if_pos, if_neg]; first | done | rfl)) | (first | (rw [e, e2 (by omega) (by omega)]; simp (disch := first | assumption | omega | exact rfl | exact nf (by assumption) | exact nt (by assumption) | decide | fail) only [if_pos, if_neg]; first | done | rfl) | (rw [e, e2 (by omega) (by omega)]; simp (disch := first | assumption | omega | exact rfl | exact nf (by assumption) | exact nt (by assumption) | decide | (simp_all; done) | fail) only [if_pos, if_neg]; first | done | rfl)) | (first | (rw [e, e3 (by omega) (by omega)]; simp (disch := first | assumption | omega | exact rfl | exact nf (by assumption) | exact nt (by assumption) | decide | fail) only [if_pos, if_neg]; first | done | rfl) | (rw [e, e3 (by omega) (by omega)]; simp (disch := first | assumption | omega | exact rfl | exact nf (by assumption) | exact nt (by assumption) | decide | (simp_all; done) | fail) only [if_pos, if_neg]; first | done | rfl)) | (first | (rw [e, e4 (by omega) (by omega)]; simp (disch := first | assumption | omega | exact rfl | exact nf (by assumption) | exact nt (by assumption) | decide | fail) only [if_pos, if_neg]; first | done | rfl) | (rw [e, e4 (by omega) (by omega)]; simp (disch := first | assumption | omega | exact rfl | exact nf (by assumption) | exact nt (by assumption) | decide | (simp_all; done) | fail) only [if_pos, if_neg]; first | done | rfl)) | skip
end
end Go.Proofs.YtcbeaefljofgeaaGreat
