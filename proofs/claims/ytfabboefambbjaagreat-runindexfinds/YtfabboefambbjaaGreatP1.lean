/-
  Contracts of functions and plain laws. No condition.
-/
import Derived.Test.YtfabboefambbjaaGreatProg
import Derived.Test.YtfabboefambbjaaGreatV3
import Derived.KernelRfl
set_option linter.unusedSimpArgs false
set_option linter.unusedVariables false
set_option maxRecDepth 100000
set_option maxHeartbeats 8000000
namespace Go.Proofs.YtfabboefambbjaaGreat
open Go.V Go
open Tryz (prog)
theorem F : True := trivial
end Go.Proofs.YtfabboefambbjaaGreat
namespace Go.Proofs
open Go.V
theorem Tryz.vt3 : vt prog 3 = some none := by kernel_rfl
theorem Tryz.vkind3 : vkind prog 3 = .int .i64 := by kernel_rfl
theorem Tryz.vzero3 : vzero prog 3 = some [.pv (.lit (.int .i64 0))] := by kernel_rfl
theorem Tryz.bytes3 : bytesT prog 3 = some 8 := by kernel_rfl
theorem Tryz.vt4 : vt prog 4 = some none := by kernel_rfl
theorem Tryz.vkind4 : vkind prog 4 = .bool := by kernel_rfl
theorem Tryz.vt5 : vt prog 5 = some none := by kernel_rfl
theorem Tryz.vkind5 : vkind prog 5 = .int .u8 := by kernel_rfl
theorem Tryz.vzero5 : vzero prog 5 = some [.pv (.lit (.int .u8 0))] := by kernel_rfl
theorem Tryz.bytes5 : bytesT prog 5 = some 1 := by kernel_rfl
theorem Tryz.vt9 : vt prog 9 = some none := by kernel_rfl
theorem Tryz.vkind9 : vkind prog 9 = .str := by kernel_rfl
theorem Tryz.vzero9 : vzero prog 9 = some [.pv (.str [])] := by kernel_rfl
theorem Tryz.bytes9 : bytesT prog 9 = some 16 := by kernel_rfl
theorem Tryz.vt22 : vt prog 22 = some none := by kernel_rfl
theorem Tryz.velem22 : velem prog 22 = some (none, 5, 1) := by kernel_rfl
theorem Tryz.notInt22 : notInt prog 22 = true := by kernel_rfl
theorem Tryz.vkind22 : vkind prog 22 = .sl 5 := by kernel_rfl
theorem Tryz.vt24 : vt prog 24 = some none := by kernel_rfl
theorem Tryz.velem24 : velem prog 24 = some (none, 46, 13) := by kernel_rfl
theorem Tryz.notInt24 : notInt prog 24 = true := by kernel_rfl
theorem Tryz.vkind24 : vkind prog 24 = .sl 46 := by kernel_rfl
theorem Tryz.vt26 : vt prog 26 = some (some 6) := by kernel_rfl
theorem Tryz.vfield26x0 : vfield prog 26 0 = some (3, 0, 1) := by kernel_rfl
theorem Tryz.vfield26x1 : vfield prog 26 1 = some (3, 1, 1) := by kernel_rfl
theorem Tryz.vfield26x2 : vfield prog 26 2 = some (3, 2, 1) := by kernel_rfl
theorem Tryz.vfield26x3 : vfield prog 26 3 = some (3, 3, 1) := by kernel_rfl
theorem Tryz.vfield26x4 : vfield prog 26 4 = some (3, 4, 1) := by kernel_rfl
theorem Tryz.vfield26x5 : vfield prog 26 5 = some (24, 5, 1) := by kernel_rfl
theorem Tryz.vplaces26 : vplaces prog 26 = some fun j => ([(0, 1), (1, 1), (2, 1), (3, 1), (4, 1), (5, 1)] : List (Nat × Nat))[j]? := by kernel_rfl
theorem Tryz.vzero26 : vzero prog 26 = some [.pv (.lit (.int .i64 0)), .pv (.lit (.int .i64 0)), .pv (.lit (.int .i64 0)), .pv (.lit (.int .i64 0)), .pv (.lit (.int .i64 0)), .pv (.slc [])] := by kernel_rfl
theorem Tryz.vt31 : vt prog 31 = some none := by kernel_rfl
theorem Tryz.vkind31 : vkind prog 31 = .int .u64 := by kernel_rfl
theorem Tryz.vt32 : vt prog 32 = some none := by kernel_rfl
theorem Tryz.velem32 : velem prog 32 = some (none, 39, 6) := by kernel_rfl
theorem Tryz.notInt32 : notInt prog 32 = true := by kernel_rfl
theorem Tryz.vkind32 : vkind prog 32 = .sl 39 := by kernel_rfl
theorem Tryz.vt34 : vt prog 34 = some (some 7) := by kernel_rfl
theorem Tryz.vfield34x0 : vfield prog 34 0 = some (3, 0, 1) := by kernel_rfl
theorem Tryz.vfield34x1 : vfield prog 34 1 = some (3, 1, 1) := by kernel_rfl
theorem Tryz.vfield34x2 : vfield prog 34 2 = some (3, 2, 1) := by kernel_rfl
theorem Tryz.vfield34x3 : vfield prog 34 3 = some (3, 3, 1) := by kernel_rfl
theorem Tryz.vfield34x4 : vfield prog 34 4 = some (3, 4, 1) := by kernel_rfl
theorem Tryz.vfield34x5 : vfield prog 34 5 = some (31, 5, 1) := by kernel_rfl
theorem Tryz.vfield34x6 : vfield prog 34 6 = some (32, 6, 1) := by kernel_rfl
theorem Tryz.vplaces34 : vplaces prog 34 = some fun j => ([(0, 1), (1, 1), (2, 1), (3, 1), (4, 1), (5, 1), (6, 1)] : List (Nat × Nat))[j]? := by kernel_rfl
theorem Tryz.vzero34 : vzero prog 34 = some [.pv (.lit (.int .i64 0)), .pv (.lit (.int .i64 0)), .pv (.lit (.int .i64 0)), .pv (.lit (.int .i64 0)), .pv (.lit (.int .i64 0)), .pv (.lit (.int .u64 0)), .pv (.slc [])] := by kernel_rfl
theorem Tryz.vt35 : vt prog 35 = some none := by kernel_rfl
theorem Tryz.vt39 : vt prog 39 = some (some 6) := by kernel_rfl
theorem Tryz.vfield39x0 : vfield prog 39 0 = some (3, 0, 1) := by kernel_rfl
theorem Tryz.vfield39x1 : vfield prog 39 1 = some (3, 1, 1) := by kernel_rfl
theorem Tryz.vfield39x2 : vfield prog 39 2 = some (3, 2, 1) := by kernel_rfl
theorem Tryz.vfield39x3 : vfield prog 39 3 = some (3, 3, 1) := by kernel_rfl
theorem Tryz.vfield39x4 : vfield prog 39 4 = some (3, 4, 1) := by kernel_rfl
theorem Tryz.vfield39x5 : vfield prog 39 5 = some (3, 5, 1) := by kernel_rfl
theorem Tryz.vplaces39 : vplaces prog 39 = some fun j => ([(0, 1), (1, 1), (2, 1), (3, 1), (4, 1), (5, 1)] : List (Nat × Nat))[j]? := by kernel_rfl
theorem Tryz.vzero39 : vzero prog 39 = some [.pv (.lit (.int .i64 0)), .pv (.lit (.int .i64 0)), .pv (.lit (.int .i64 0)), .pv (.lit (.int .i64 0)), .pv (.lit (.int .i64 0)), .pv (.lit (.int .i64 0))] := by kernel_rfl
theorem Tryz.bytes39 : bytesT prog 39 = some 48 := by kernel_rfl
theorem Tryz.vt42 : vt prog 42 = some (some 2) := by kernel_rfl
theorem Tryz.vfield42x0 : vfield prog 42 0 = some (4, 0, 1) := by kernel_rfl
theorem Tryz.vfield42x1 : vfield prog 42 1 = some (9, 1, 1) := by kernel_rfl
theorem Tryz.vplaces42 : vplaces prog 42 = some fun j => ([(0, 1), (1, 1)] : List (Nat × Nat))[j]? := by kernel_rfl
theorem Tryz.vzero42 : vzero prog 42 = some [.pv (.lit (.bool false)), .pv (.str [])] := by kernel_rfl
theorem Tryz.leaves42 : leaves prog 8 42 = some [(0, 0), (1, 2)] := by kernel_rfl
theorem Tryz.eqg42 : prog.eqGuardType prog.depth 42 = false := by kernel_rfl
theorem Tryz.vt44 : vt prog 44 = some (some 6) := by kernel_rfl
theorem Tryz.vfield44x0 : vfield prog 44 0 = some (3, 0, 1) := by kernel_rfl
theorem Tryz.vfield44x1 : vfield prog 44 1 = some (3, 1, 1) := by kernel_rfl
theorem Tryz.vfield44x2 : vfield prog 44 2 = some (42, 2, 2) := by kernel_rfl
theorem Tryz.vfield44x3 : vfield prog 44 3 = some (42, 4, 2) := by kernel_rfl
theorem Tryz.vplaces44 : vplaces prog 44 = some fun j => ([(0, 1), (1, 1), (2, 2), (4, 2)] : List (Nat × Nat))[j]? := by kernel_rfl
theorem Tryz.vzero44 : vzero prog 44 = some [.pv (.lit (.int .i64 0)), .pv (.lit (.int .i64 0)), .pv (.lit (.bool false)), .pv (.str []), .pv (.lit (.bool false)), .pv (.str [])] := by kernel_rfl
theorem Tryz.leaves44 : leaves prog 8 44 = some [(0, 1), (1, 1), (2, 0), (3, 2), (4, 0), (5, 2)] := by kernel_rfl
theorem Tryz.eqg44 : prog.eqGuardType prog.depth 44 = false := by kernel_rfl
theorem Tryz.vt46 : vt prog 46 = some (some 13) := by kernel_rfl
theorem Tryz.vfield46x0 : vfield prog 46 0 = some (3, 0, 1) := by kernel_rfl
theorem Tryz.vfield46x1 : vfield prog 46 1 = some (3, 1, 1) := by kernel_rfl
theorem Tryz.vfield46x2 : vfield prog 46 2 = some (3, 2, 1) := by kernel_rfl
theorem Tryz.vfield46x3 : vfield prog 46 3 = some (3, 3, 1) := by kernel_rfl
theorem Tryz.vfield46x4 : vfield prog 46 4 = some (3, 4, 1) := by kernel_rfl
theorem Tryz.vfield46x5 : vfield prog 46 5 = some (3, 5, 1) := by kernel_rfl
theorem Tryz.vfield46x6 : vfield prog 46 6 = some (44, 6, 6) := by kernel_rfl
theorem Tryz.vfield46x7 : vfield prog 46 7 = some (9, 12, 1) := by kernel_rfl
theorem Tryz.vplaces46 : vplaces prog 46 = some fun j => ([(0, 1), (1, 1), (2, 1), (3, 1), (4, 1), (5, 1), (6, 6), (12, 1)] : List (Nat × Nat))[j]? := by kernel_rfl
theorem Tryz.vzero46 : vzero prog 46 = some [.pv (.lit (.int .i64 0)), .pv (.lit (.int .i64 0)), .pv (.lit (.int .i64 0)), .pv (.lit (.int .i64 0)), .pv (.lit (.int .i64 0)), .pv (.lit (.int .i64 0)), .pv (.lit (.int .i64 0)), .pv (.lit (.int .i64 0)), .pv (.lit (.bool false)), .pv (.str []), .pv (.lit (.bool false)), .pv (.str []), .pv (.str [])] := by kernel_rfl
theorem Tryz.bytes46 : bytesT prog 46 = some 128 := by kernel_rfl
theorem Tryz.leaves46 : leaves prog 8 46 = some [(0, 1), (1, 1), (2, 1), (3, 1), (4, 1), (5, 1), (6, 1), (7, 1), (8, 0), (9, 2), (10, 0), (11, 2), (12, 2)] := by kernel_rfl
theorem Tryz.eqg46 : prog.eqGuardType prog.depth 46 = false := by kernel_rfl
theorem Tryz.vt48 : vt prog 48 = some none := by kernel_rfl
theorem Tryz.velem48 : velem prog 48 = some (none, 3, 1) := by kernel_rfl
theorem Tryz.notInt48 : notInt prog 48 = true := by kernel_rfl
theorem Tryz.vkind48 : vkind prog 48 = .sl 3 := by kernel_rfl
theorem Tryz.vkind51 : vkind prog 51 = .int .u16 := by kernel_rfl
theorem Tryz.vt63 : vt prog 63 = some (some 3) := by kernel_rfl
theorem Tryz.vfield63x0 : vfield prog 63 0 = some (3, 0, 1) := by kernel_rfl
theorem Tryz.vfield63x1 : vfield prog 63 1 = some (24, 1, 1) := by kernel_rfl
theorem Tryz.vfield63x2 : vfield prog 63 2 = some (3, 2, 1) := by kernel_rfl
theorem Tryz.vplaces63 : vplaces prog 63 = some fun j => ([(0, 1), (1, 1), (2, 1)] : List (Nat × Nat))[j]? := by kernel_rfl
theorem Tryz.vzero63 : vzero prog 63 = some [.pv (.lit (.int .i64 0)), .pv (.slc []), .pv (.lit (.int .i64 0))] := by kernel_rfl
theorem Tryz.vfield68x0 : vfield prog 68 0 = some (22, 0, 1) := by kernel_rfl
theorem Tryz.vfield68x1 : vfield prog 68 1 = some (3, 1, 1) := by kernel_rfl
theorem Tryz.vplaces68 : vplaces prog 68 = some fun j => ([(0, 1), (1, 1)] : List (Nat × Nat))[j]? := by kernel_rfl
theorem Tryz.vzero68 : vzero prog 68 = some [.pv (.slc []), .pv (.lit (.int .i64 0))] := by kernel_rfl
theorem Tryz.vt84 : vt prog 84 = some none := by kernel_rfl
theorem Tryz.velem84 : velem prog 84 = some (none, 201, 37) := by kernel_rfl
theorem Tryz.notInt84 : notInt prog 84 = true := by kernel_rfl
theorem Tryz.vkind84 : vkind prog 84 = .sl 201 := by kernel_rfl
theorem Tryz.vt86 : vt prog 86 = some (some 3) := by kernel_rfl
theorem Tryz.vfield86x0 : vfield prog 86 0 = some (3, 0, 1) := by kernel_rfl
theorem Tryz.vfield86x1 : vfield prog 86 1 = some (84, 1, 1) := by kernel_rfl
theorem Tryz.vfield86x2 : vfield prog 86 2 = some (3, 2, 1) := by kernel_rfl
theorem Tryz.vplaces86 : vplaces prog 86 = some fun j => ([(0, 1), (1, 1), (2, 1)] : List (Nat × Nat))[j]? := by kernel_rfl
theorem Tryz.vzero86 : vzero prog 86 = some [.pv (.lit (.int .i64 0)), .pv (.slc []), .pv (.lit (.int .i64 0))] := by kernel_rfl
theorem Tryz.vt87 : vt prog 87 = some none := by kernel_rfl
theorem Tryz.velem87 : velem prog 87 = some (none, 240, 4) := by kernel_rfl
theorem Tryz.notInt87 : notInt prog 87 = true := by kernel_rfl
theorem Tryz.vkind87 : vkind prog 87 = .sl 240 := by kernel_rfl
theorem Tryz.vt89 : vt prog 89 = some (some 2) := by kernel_rfl
theorem Tryz.vfield89x0 : vfield prog 89 0 = some (87, 0, 1) := by kernel_rfl
theorem Tryz.vfield89x1 : vfield prog 89 1 = some (87, 1, 1) := by kernel_rfl
theorem Tryz.vplaces89 : vplaces prog 89 = some fun j => ([(0, 1), (1, 1)] : List (Nat × Nat))[j]? := by kernel_rfl
theorem Tryz.vzero89 : vzero prog 89 = some [.pv (.slc []), .pv (.slc [])] := by kernel_rfl
theorem Tryz.vt90 : vt prog 90 = some none := by kernel_rfl
theorem Tryz.velem90 : velem prog 90 = some (none, 236, 6) := by kernel_rfl
theorem Tryz.notInt90 : notInt prog 90 = true := by kernel_rfl
theorem Tryz.vkind90 : vkind prog 90 = .sl 236 := by kernel_rfl
theorem Tryz.vt91 : vt prog 91 = some none := by kernel_rfl
theorem Tryz.velem91 : velem prog 91 = some (none, 294, 3) := by kernel_rfl
theorem Tryz.notInt91 : notInt prog 91 = true := by kernel_rfl
theorem Tryz.vkind91 : vkind prog 91 = .sl 294 := by kernel_rfl
theorem Tryz.vt93 : vt prog 93 = some (some 1) := by kernel_rfl
theorem Tryz.vfield93x0 : vfield prog 93 0 = some (91, 0, 1) := by kernel_rfl
theorem Tryz.vplaces93 : vplaces prog 93 = some fun j => ([(0, 1)] : List (Nat × Nat))[j]? := by kernel_rfl
theorem Tryz.vzero93 : vzero prog 93 = some [.pv (.slc [])] := by kernel_rfl
theorem Tryz.vt94 : vt prog 94 = some none := by kernel_rfl
theorem Tryz.velem94 : velem prog 94 = some (none, 209, 3) := by kernel_rfl
theorem Tryz.notInt94 : notInt prog 94 = true := by kernel_rfl
theorem Tryz.vkind94 : vkind prog 94 = .sl 209 := by kernel_rfl
theorem Tryz.vt96 : vt prog 96 = some (some 13) := by kernel_rfl
theorem Tryz.vfield96x0 : vfield prog 96 0 = some (3, 0, 1) := by kernel_rfl
theorem Tryz.vfield96x1 : vfield prog 96 1 = some (3, 1, 1) := by kernel_rfl
theorem Tryz.vfield96x2 : vfield prog 96 2 = some (63, 2, 3) := by kernel_rfl
theorem Tryz.vfield96x3 : vfield prog 96 3 = some (86, 5, 3) := by kernel_rfl
theorem Tryz.vfield96x4 : vfield prog 96 4 = some (89, 8, 2) := by kernel_rfl
theorem Tryz.vfield96x5 : vfield prog 96 5 = some (90, 10, 1) := by kernel_rfl
theorem Tryz.vfield96x6 : vfield prog 96 6 = some (93, 11, 1) := by kernel_rfl
theorem Tryz.vfield96x7 : vfield prog 96 7 = some (94, 12, 1) := by kernel_rfl
theorem Tryz.vplaces96 : vplaces prog 96 = some fun j => ([(0, 1), (1, 1), (2, 3), (5, 3), (8, 2), (10, 1), (11, 1), (12, 1)] : List (Nat × Nat))[j]? := by kernel_rfl
theorem Tryz.vzero96 : vzero prog 96 = some [.pv (.lit (.int .i64 0)), .pv (.lit (.int .i64 0)), .pv (.lit (.int .i64 0)), .pv (.slc []), .pv (.lit (.int .i64 0)), .pv (.lit (.int .i64 0)), .pv (.slc []), .pv (.lit (.int .i64 0)), .pv (.slc []), .pv (.slc []), .pv (.slc []), .pv (.slc []), .pv (.slc [])] := by kernel_rfl
theorem Tryz.vt109 : vt prog 109 = some none := by kernel_rfl
theorem Tryz.vkind109 : vkind prog 109 = .int .u32 := by kernel_rfl
theorem Tryz.vt112 : vt prog 112 = some none := by kernel_rfl
theorem Tryz.vfield117x0 : vfield prog 117 0 = some (9, 0, 1) := by kernel_rfl
theorem Tryz.vfield117x1 : vfield prog 117 1 = some (3, 1, 1) := by kernel_rfl
theorem Tryz.vfield117x2 : vfield prog 117 2 = some (35, 2, 1) := by kernel_rfl
theorem Tryz.vplaces117 : vplaces prog 117 = some fun j => ([(0, 1), (1, 1), (2, 1)] : List (Nat × Nat))[j]? := by kernel_rfl
theorem Tryz.vzero117 : vzero prog 117 = some [.pv (.str []), .pv (.lit (.int .i64 0)), .pv (.lit (.int .i64 0))] := by kernel_rfl
theorem Tryz.vt123 : vt prog 123 = some none := by kernel_rfl
theorem Tryz.velem123 : velem prog 123 = some (none, 9, 1) := by kernel_rfl
theorem Tryz.notInt123 : notInt prog 123 = true := by kernel_rfl
theorem Tryz.vkind123 : vkind prog 123 = .sl 9 := by kernel_rfl
theorem Tryz.vt124 : vt prog 124 = some none := by kernel_rfl
theorem Tryz.velem124 : velem prog 124 = some (none, 268, 6) := by kernel_rfl
theorem Tryz.notInt124 : notInt prog 124 = true := by kernel_rfl
theorem Tryz.vkind124 : vkind prog 124 = .sl 268 := by kernel_rfl
theorem Tryz.vt126 : vt prog 126 = some (some 5) := by kernel_rfl
theorem Tryz.vfield126x0 : vfield prog 126 0 = some (123, 0, 1) := by kernel_rfl
theorem Tryz.vfield126x1 : vfield prog 126 1 = some (3, 1, 1) := by kernel_rfl
theorem Tryz.vfield126x2 : vfield prog 126 2 = some (48, 2, 1) := by kernel_rfl
theorem Tryz.vfield126x3 : vfield prog 126 3 = some (4, 3, 1) := by kernel_rfl
theorem Tryz.vfield126x4 : vfield prog 126 4 = some (124, 4, 1) := by kernel_rfl
theorem Tryz.vplaces126 : vplaces prog 126 = some fun j => ([(0, 1), (1, 1), (2, 1), (3, 1), (4, 1)] : List (Nat × Nat))[j]? := by kernel_rfl
theorem Tryz.vzero126 : vzero prog 126 = some [.pv (.slc []), .pv (.lit (.int .i64 0)), .pv (.slc []), .pv (.lit (.bool false)), .pv (.slc [])] := by kernel_rfl
theorem Tryz.vt128 : vt prog 128 = some (some 18) := by kernel_rfl
theorem Tryz.vfield128x0 : vfield prog 128 0 = some (96, 0, 13) := by kernel_rfl
theorem Tryz.vfield128x1 : vfield prog 128 1 = some (126, 13, 5) := by kernel_rfl
theorem Tryz.vplaces128 : vplaces prog 128 = some fun j => ([(0, 13), (13, 5)] : List (Nat × Nat))[j]? := by kernel_rfl
theorem Tryz.vzero128 : vzero prog 128 = some [.pv (.lit (.int .i64 0)), .pv (.lit (.int .i64 0)), .pv (.lit (.int .i64 0)), .pv (.slc []), .pv (.lit (.int .i64 0)), .pv (.lit (.int .i64 0)), .pv (.slc []), .pv (.lit (.int .i64 0)), .pv (.slc []), .pv (.slc []), .pv (.slc []), .pv (.slc []), .pv (.slc []), .pv (.slc []), .pv (.lit (.int .i64 0)), .pv (.slc []), .pv (.lit (.bool false)), .pv (.slc [])] := by kernel_rfl
theorem Tryz.vt136 : vt prog 136 = some (some 16) := by kernel_rfl
theorem Tryz.velem136 : velem prog 136 = some (some 16, 109, 1) := by kernel_rfl
theorem Tryz.vzero136 : vzero prog 136 = some [.pv (.lit (.int .u32 0)), .pv (.lit (.int .u32 0)), .pv (.lit (.int .u32 0)), .pv (.lit (.int .u32 0)), .pv (.lit (.int .u32 0)), .pv (.lit (.int .u32 0)), .pv (.lit (.int .u32 0)), .pv (.lit (.int .u32 0)), .pv (.lit (.int .u32 0)), .pv (.lit (.int .u32 0)), .pv (.lit (.int .u32 0)), .pv (.lit (.int .u32 0)), .pv (.lit (.int .u32 0)), .pv (.lit (.int .u32 0)), .pv (.lit (.int .u32 0)), .pv (.lit (.int .u32 0))] := by kernel_rfl
theorem Tryz.vkind138 : vkind prog 138 = .int .u64 := by kernel_rfl
theorem Tryz.vt143 : vt prog 143 = some none := by kernel_rfl
theorem Tryz.vt145 : vt prog 145 = some (some 7) := by kernel_rfl
theorem Tryz.vfield145x0 : vfield prog 145 0 = some (4, 0, 1) := by kernel_rfl
theorem Tryz.vfield145x1 : vfield prog 145 1 = some (4, 1, 1) := by kernel_rfl
theorem Tryz.vfield145x2 : vfield prog 145 2 = some (4, 2, 1) := by kernel_rfl
theorem Tryz.vfield145x3 : vfield prog 145 3 = some (4, 3, 1) := by kernel_rfl
theorem Tryz.vfield145x4 : vfield prog 145 4 = some (4, 4, 1) := by kernel_rfl
theorem Tryz.vfield145x5 : vfield prog 145 5 = some (112, 5, 1) := by kernel_rfl
theorem Tryz.vfield145x6 : vfield prog 145 6 = some (143, 6, 1) := by kernel_rfl
theorem Tryz.vplaces145 : vplaces prog 145 = some fun j => ([(0, 1), (1, 1), (2, 1), (3, 1), (4, 1), (5, 1), (6, 1)] : List (Nat × Nat))[j]? := by kernel_rfl
theorem Tryz.vzero145 : vzero prog 145 = some [.pv (.lit (.bool false)), .pv (.lit (.bool false)), .pv (.lit (.bool false)), .pv (.lit (.bool false)), .pv (.lit (.bool false)), .pv (.lit .nilFunc), .pv (.lit .nilFunc)] := by kernel_rfl
theorem Tryz.vt146 : vt prog 146 = some (some 63) := by kernel_rfl
theorem Tryz.velem146 : velem prog 146 = some (some 9, 145, 7) := by kernel_rfl
theorem Tryz.vplaces146 : vplaces prog 146 = some fun j => some (j * 7, 7) := by kernel_rfl
theorem Tryz.vzero146 : vzero prog 146 = some [.pv (.lit (.bool false)), .pv (.lit (.bool false)), .pv (.lit (.bool false)), .pv (.lit (.bool false)), .pv (.lit (.bool false)), .pv (.lit .nilFunc), .pv (.lit .nilFunc), .pv (.lit (.bool false)), .pv (.lit (.bool false)), .pv (.lit (.bool false)), .pv (.lit (.bool false)), .pv (.lit (.bool false)), .pv (.lit .nilFunc), .pv (.lit .nilFunc), .pv (.lit (.bool false)), .pv (.lit (.bool false)), .pv (.lit (.bool false)), .pv (.lit (.bool false)), .pv (.lit (.bool false)), .pv (.lit .nilFunc), .pv (.lit .nilFunc), .pv (.lit (.bool false)), .pv (.lit (.bool false)), .pv (.lit (.bool false)), .pv (.lit (.bool false)), .pv (.lit (.bool false)), .pv (.lit .nilFunc), .pv (.lit .nilFunc), .pv (.lit (.bool false)), .pv (.lit (.bool false)), .pv (.lit (.bool false)), .pv (.lit (.bool false)), .pv (.lit (.bool false)), .pv (.lit .nilFunc), .pv (.lit .nilFunc), .pv (.lit (.bool false)), .pv (.lit (.bool false)), .pv (.lit (.bool false)), .pv (.lit (.bool false)), .pv (.lit (.bool false)), .pv (.lit .nilFunc), .pv (.lit .nilFunc), .pv (.lit (.bool false)), .pv (.lit (.bool false)), .pv (.lit (.bool false)), .pv (.lit (.bool false)), .pv (.lit (.bool false)), .pv (.lit .nilFunc), .pv (.lit .nilFunc), .pv (.lit (.bool false)), .pv (.lit (.bool false)), .pv (.lit (.bool false)), .pv (.lit (.bool false)), .pv (.lit (.bool false)), .pv (.lit .nilFunc), .pv (.lit .nilFunc), .pv (.lit (.bool false)), .pv (.lit (.bool false)), .pv (.lit (.bool false)), .pv (.lit (.bool false)), .pv (.lit (.bool false)), .pv (.lit .nilFunc), .pv (.lit .nilFunc)] := by kernel_rfl
theorem Tryz.velem152 : velem prog 152 = some (none, 167, 6) := by kernel_rfl
theorem Tryz.notInt152 : notInt prog 152 = true := by kernel_rfl
theorem Tryz.vt153 : vt prog 153 = some none := by kernel_rfl
theorem Tryz.velem153 : velem prog 153 = some (none, 194, 6) := by kernel_rfl
theorem Tryz.notInt153 : notInt prog 153 = true := by kernel_rfl
theorem Tryz.velem156 : velem prog 156 = some (none, 172, 9) := by kernel_rfl
theorem Tryz.notInt156 : notInt prog 156 = true := by kernel_rfl
theorem Tryz.vkind156 : vkind prog 156 = .sl 172 := by kernel_rfl
theorem Tryz.vfield165x0 : vfield prog 165 0 = some (128, 0, 18) := by kernel_rfl
theorem Tryz.vfield165x1 : vfield prog 165 1 = some (48, 18, 1) := by kernel_rfl
theorem Tryz.vfield165x2 : vfield prog 165 2 = some (153, 19, 1) := by kernel_rfl
theorem Tryz.vfield165x3 : vfield prog 165 3 = some (4, 20, 1) := by kernel_rfl
theorem Tryz.vplaces165 : vplaces prog 165 = some fun j => ([(0, 18), (18, 1), (19, 1), (20, 1)] : List (Nat × Nat))[j]? := by kernel_rfl
theorem Tryz.vzero165 : vzero prog 165 = some [.pv (.lit (.int .i64 0)), .pv (.lit (.int .i64 0)), .pv (.lit (.int .i64 0)), .pv (.slc []), .pv (.lit (.int .i64 0)), .pv (.lit (.int .i64 0)), .pv (.slc []), .pv (.lit (.int .i64 0)), .pv (.slc []), .pv (.slc []), .pv (.slc []), .pv (.slc []), .pv (.slc []), .pv (.slc []), .pv (.lit (.int .i64 0)), .pv (.slc []), .pv (.lit (.bool false)), .pv (.slc []), .pv (.slc []), .pv (.slc []), .pv (.lit (.bool false))] := by kernel_rfl
theorem Tryz.vt167 : vt prog 167 = some (some 6) := by kernel_rfl
theorem Tryz.vfield167x0 : vfield prog 167 0 = some (3, 0, 1) := by kernel_rfl
theorem Tryz.vfield167x1 : vfield prog 167 1 = some (3, 1, 1) := by kernel_rfl
theorem Tryz.vfield167x2 : vfield prog 167 2 = some (3, 2, 1) := by kernel_rfl
theorem Tryz.vfield167x3 : vfield prog 167 3 = some (42, 3, 2) := by kernel_rfl
theorem Tryz.vfield167x4 : vfield prog 167 4 = some (35, 5, 1) := by kernel_rfl
theorem Tryz.vplaces167 : vplaces prog 167 = some fun j => ([(0, 1), (1, 1), (2, 1), (3, 2), (5, 1)] : List (Nat × Nat))[j]? := by kernel_rfl
theorem Tryz.vzero167 : vzero prog 167 = some [.pv (.lit (.int .i64 0)), .pv (.lit (.int .i64 0)), .pv (.lit (.int .i64 0)), .pv (.lit (.bool false)), .pv (.str []), .pv (.lit (.int .i64 0))] := by kernel_rfl
theorem Tryz.bytes167 : bytesT prog 167 = some 56 := by kernel_rfl
theorem Tryz.vt170 : vt prog 170 = some (some 4) := by kernel_rfl
theorem Tryz.vfield170x0 : vfield prog 170 0 = some (3, 0, 1) := by kernel_rfl
theorem Tryz.vfield170x1 : vfield prog 170 1 = some (3, 1, 1) := by kernel_rfl
theorem Tryz.vfield170x2 : vfield prog 170 2 = some (3, 2, 1) := by kernel_rfl
theorem Tryz.vfield170x3 : vfield prog 170 3 = some (9, 3, 1) := by kernel_rfl
theorem Tryz.vplaces170 : vplaces prog 170 = some fun j => ([(0, 1), (1, 1), (2, 1), (3, 1)] : List (Nat × Nat))[j]? := by kernel_rfl
theorem Tryz.vzero170 : vzero prog 170 = some [.pv (.lit (.int .i64 0)), .pv (.lit (.int .i64 0)), .pv (.lit (.int .i64 0)), .pv (.str [])] := by kernel_rfl
theorem Tryz.leaves170 : leaves prog 8 170 = some [(0, 1), (1, 1), (2, 1), (3, 2)] := by kernel_rfl
theorem Tryz.eqg170 : prog.eqGuardType prog.depth 170 = false := by kernel_rfl
theorem Tryz.vt172 : vt prog 172 = some (some 9) := by kernel_rfl
theorem Tryz.vfield172x0 : vfield prog 172 0 = some (3, 0, 1) := by kernel_rfl
theorem Tryz.vfield172x1 : vfield prog 172 1 = some (3, 1, 1) := by kernel_rfl
theorem Tryz.vfield172x2 : vfield prog 172 2 = some (3, 2, 1) := by kernel_rfl
theorem Tryz.vfield172x3 : vfield prog 172 3 = some (3, 3, 1) := by kernel_rfl
theorem Tryz.vfield172x4 : vfield prog 172 4 = some (3, 4, 1) := by kernel_rfl
theorem Tryz.vfield172x5 : vfield prog 172 5 = some (170, 5, 4) := by kernel_rfl
theorem Tryz.vplaces172 : vplaces prog 172 = some fun j => ([(0, 1), (1, 1), (2, 1), (3, 1), (4, 1), (5, 4)] : List (Nat × Nat))[j]? := by kernel_rfl
theorem Tryz.vzero172 : vzero prog 172 = some [.pv (.lit (.int .i64 0)), .pv (.lit (.int .i64 0)), .pv (.lit (.int .i64 0)), .pv (.lit (.int .i64 0)), .pv (.lit (.int .i64 0)), .pv (.lit (.int .i64 0)), .pv (.lit (.int .i64 0)), .pv (.lit (.int .i64 0)), .pv (.str [])] := by kernel_rfl
theorem Tryz.bytes172 : bytesT prog 172 = some 80 := by kernel_rfl
theorem Tryz.vplaces194 : vplaces prog 194 = some fun j => ([(0, 1), (1, 1), (2, 1), (3, 1), (4, 2)] : List (Nat × Nat))[j]? := by kernel_rfl
theorem Tryz.vzero194 : vzero prog 194 = some [.pv (.lit (.int .i64 0)), .pv (.lit (.int .i64 0)), .pv (.lit (.int .i64 0)), .pv (.lit (.int .i64 0)), .pv (.lit (.bool false)), .pv (.str [])] := by kernel_rfl
theorem Tryz.bytes194 : bytesT prog 194 = some 56 := by kernel_rfl
theorem Tryz.velem195 : velem prog 195 = some (some 16, 42, 2) := by kernel_rfl
theorem Tryz.vt197 : vt prog 197 = some (some 34) := by kernel_rfl
theorem Tryz.vfield197x0 : vfield prog 197 0 = some (3, 0, 1) := by kernel_rfl
theorem Tryz.vfield197x1 : vfield prog 197 1 = some (3, 1, 1) := by kernel_rfl
theorem Tryz.vfield197x2 : vfield prog 197 2 = some (195, 2, 32) := by kernel_rfl
theorem Tryz.vplaces197 : vplaces prog 197 = some fun j => ([(0, 1), (1, 1), (2, 32)] : List (Nat × Nat))[j]? := by kernel_rfl
theorem Tryz.vzero197 : vzero prog 197 = some [.pv (.lit (.int .i64 0)), .pv (.lit (.int .i64 0)), .pv (.lit (.bool false)), .pv (.str []), .pv (.lit (.bool false)), .pv (.str []), .pv (.lit (.bool false)), .pv (.str []), .pv (.lit (.bool false)), .pv (.str []), .pv (.lit (.bool false)), .pv (.str []), .pv (.lit (.bool false)), .pv (.str []), .pv (.lit (.bool false)), .pv (.str []), .pv (.lit (.bool false)), .pv (.str []), .pv (.lit (.bool false)), .pv (.str []), .pv (.lit (.bool false)), .pv (.str []), .pv (.lit (.bool false)), .pv (.str []), .pv (.lit (.bool false)), .pv (.str []), .pv (.lit (.bool false)), .pv (.str []), .pv (.lit (.bool false)), .pv (.str []), .pv (.lit (.bool false)), .pv (.str []), .pv (.lit (.bool false)), .pv (.str [])] := by kernel_rfl
theorem Tryz.vt201 : vt prog 201 = some (some 37) := by kernel_rfl
theorem Tryz.vfield201x0 : vfield prog 201 0 = some (197, 0, 34) := by kernel_rfl
theorem Tryz.vfield201x1 : vfield prog 201 1 = some (4, 34, 1) := by kernel_rfl
theorem Tryz.vfield201x2 : vfield prog 201 2 = some (3, 35, 1) := by kernel_rfl
theorem Tryz.vfield201x3 : vfield prog 201 3 = some (4, 36, 1) := by kernel_rfl
theorem Tryz.vplaces201 : vplaces prog 201 = some fun j => ([(0, 34), (34, 1), (35, 1), (36, 1)] : List (Nat × Nat))[j]? := by kernel_rfl
theorem Tryz.vzero201 : vzero prog 201 = some [.pv (.lit (.int .i64 0)), .pv (.lit (.int .i64 0)), .pv (.lit (.bool false)), .pv (.str []), .pv (.lit (.bool false)), .pv (.str []), .pv (.lit (.bool false)), .pv (.str []), .pv (.lit (.bool false)), .pv (.str []), .pv (.lit (.bool false)), .pv (.str []), .pv (.lit (.bool false)), .pv (.str []), .pv (.lit (.bool false)), .pv (.str []), .pv (.lit (.bool false)), .pv (.str []), .pv (.lit (.bool false)), .pv (.str []), .pv (.lit (.bool false)), .pv (.str []), .pv (.lit (.bool false)), .pv (.str []), .pv (.lit (.bool false)), .pv (.str []), .pv (.lit (.bool false)), .pv (.str []), .pv (.lit (.bool false)), .pv (.str []), .pv (.lit (.bool false)), .pv (.str []), .pv (.lit (.bool false)), .pv (.str []), .pv (.lit (.bool false)), .pv (.lit (.int .i64 0)), .pv (.lit (.bool false))] := by kernel_rfl
theorem Tryz.bytes201 : bytesT prog 201 = some 424 := by kernel_rfl
theorem Tryz.vt209 : vt prog 209 = some (some 3) := by kernel_rfl
theorem Tryz.vfield209x0 : vfield prog 209 0 = some (3, 0, 1) := by kernel_rfl
theorem Tryz.vfield209x1 : vfield prog 209 1 = some (3, 1, 1) := by kernel_rfl
theorem Tryz.vfield209x2 : vfield prog 209 2 = some (3, 2, 1) := by kernel_rfl
theorem Tryz.vplaces209 : vplaces prog 209 = some fun j => ([(0, 1), (1, 1), (2, 1)] : List (Nat × Nat))[j]? := by kernel_rfl
theorem Tryz.vzero209 : vzero prog 209 = some [.pv (.lit (.int .i64 0)), .pv (.lit (.int .i64 0)), .pv (.lit (.int .i64 0))] := by kernel_rfl
theorem Tryz.bytes209 : bytesT prog 209 = some 24 := by kernel_rfl
theorem Tryz.vt216 : vt prog 216 = some (some 2) := by kernel_rfl
theorem Tryz.vfield216x0 : vfield prog 216 0 = some (3, 0, 1) := by kernel_rfl
theorem Tryz.vfield216x1 : vfield prog 216 1 = some (3, 1, 1) := by kernel_rfl
theorem Tryz.vplaces216 : vplaces prog 216 = some fun j => ([(0, 1), (1, 1)] : List (Nat × Nat))[j]? := by kernel_rfl
theorem Tryz.vzero216 : vzero prog 216 = some [.pv (.lit (.int .i64 0)), .pv (.lit (.int .i64 0))] := by kernel_rfl
theorem Tryz.leaves216 : leaves prog 8 216 = some [(0, 1), (1, 1)] := by kernel_rfl
theorem Tryz.eqg216 : prog.eqGuardType prog.depth 216 = false := by kernel_rfl
theorem Tryz.vt228 : vt prog 228 = some (some 5) := by kernel_rfl
theorem Tryz.vfield228x0 : vfield prog 228 0 = some (3, 0, 1) := by kernel_rfl
theorem Tryz.vfield228x1 : vfield prog 228 1 = some (3, 1, 1) := by kernel_rfl
theorem Tryz.vfield228x2 : vfield prog 228 2 = some (90, 2, 1) := by kernel_rfl
theorem Tryz.vfield228x3 : vfield prog 228 3 = some (94, 3, 1) := by kernel_rfl
theorem Tryz.vfield228x4 : vfield prog 228 4 = some (93, 4, 1) := by kernel_rfl
theorem Tryz.vplaces228 : vplaces prog 228 = some fun j => ([(0, 1), (1, 1), (2, 1), (3, 1), (4, 1)] : List (Nat × Nat))[j]? := by kernel_rfl
theorem Tryz.vzero228 : vzero prog 228 = some [.pv (.lit (.int .i64 0)), .pv (.lit (.int .i64 0)), .pv (.slc []), .pv (.slc []), .pv (.slc [])] := by kernel_rfl
theorem Tryz.vt236 : vt prog 236 = some (some 6) := by kernel_rfl
theorem Tryz.vfield236x0 : vfield prog 236 0 = some (3, 0, 1) := by kernel_rfl
theorem Tryz.vfield236x1 : vfield prog 236 1 = some (3, 1, 1) := by kernel_rfl
theorem Tryz.vfield236x2 : vfield prog 236 2 = some (3, 2, 1) := by kernel_rfl
theorem Tryz.vfield236x3 : vfield prog 236 3 = some (3, 3, 1) := by kernel_rfl
theorem Tryz.vfield236x4 : vfield prog 236 4 = some (48, 4, 1) := by kernel_rfl
theorem Tryz.vfield236x5 : vfield prog 236 5 = some (48, 5, 1) := by kernel_rfl
theorem Tryz.vplaces236 : vplaces prog 236 = some fun j => ([(0, 1), (1, 1), (2, 1), (3, 1), (4, 1), (5, 1)] : List (Nat × Nat))[j]? := by kernel_rfl
theorem Tryz.vzero236 : vzero prog 236 = some [.pv (.lit (.int .i64 0)), .pv (.lit (.int .i64 0)), .pv (.lit (.int .i64 0)), .pv (.lit (.int .i64 0)), .pv (.slc []), .pv (.slc [])] := by kernel_rfl
theorem Tryz.bytes236 : bytesT prog 236 = some 80 := by kernel_rfl
theorem Tryz.vt240 : vt prog 240 = some (some 4) := by kernel_rfl
theorem Tryz.vfield240x0 : vfield prog 240 0 = some (3, 0, 1) := by kernel_rfl
theorem Tryz.vfield240x1 : vfield prog 240 1 = some (216, 1, 2) := by kernel_rfl
theorem Tryz.vfield240x2 : vfield prog 240 2 = some (3, 3, 1) := by kernel_rfl
theorem Tryz.vplaces240 : vplaces prog 240 = some fun j => ([(0, 1), (1, 2), (3, 1)] : List (Nat × Nat))[j]? := by kernel_rfl
theorem Tryz.vzero240 : vzero prog 240 = some [.pv (.lit (.int .i64 0)), .pv (.lit (.int .i64 0)), .pv (.lit (.int .i64 0)), .pv (.lit (.int .i64 0))] := by kernel_rfl
theorem Tryz.bytes240 : bytesT prog 240 = some 32 := by kernel_rfl
theorem Tryz.leaves240 : leaves prog 8 240 = some [(0, 1), (1, 1), (2, 1), (3, 1)] := by kernel_rfl
theorem Tryz.eqg240 : prog.eqGuardType prog.depth 240 = false := by kernel_rfl
theorem Tryz.vzero268 : vzero prog 268 = some [.pv (.lit (.int .i64 0)), .pv (.lit (.int .i64 0)), .pv (.lit (.int .i64 0)), .pv (.lit (.int .i64 0)), .pv (.lit (.int .i64 0)), .pv (.lit (.int .u8 0))] := by kernel_rfl
theorem Tryz.bytes268 : bytesT prog 268 = some 48 := by kernel_rfl
theorem Tryz.vt284 : vt prog 284 = some (some 7) := by kernel_rfl
theorem Tryz.vfield284x0 : vfield prog 284 0 = some (3, 0, 1) := by kernel_rfl
theorem Tryz.vfield284x1 : vfield prog 284 1 = some (3, 1, 1) := by kernel_rfl
theorem Tryz.vfield284x2 : vfield prog 284 2 = some (3, 2, 1) := by kernel_rfl
theorem Tryz.vfield284x3 : vfield prog 284 3 = some (90, 3, 1) := by kernel_rfl
theorem Tryz.vfield284x4 : vfield prog 284 4 = some (87, 4, 1) := by kernel_rfl
theorem Tryz.vfield284x5 : vfield prog 284 5 = some (94, 5, 1) := by kernel_rfl
theorem Tryz.vfield284x6 : vfield prog 284 6 = some (93, 6, 1) := by kernel_rfl
theorem Tryz.vplaces284 : vplaces prog 284 = some fun j => ([(0, 1), (1, 1), (2, 1), (3, 1), (4, 1), (5, 1), (6, 1)] : List (Nat × Nat))[j]? := by kernel_rfl
theorem Tryz.vzero284 : vzero prog 284 = some [.pv (.lit (.int .i64 0)), .pv (.lit (.int .i64 0)), .pv (.lit (.int .i64 0)), .pv (.slc []), .pv (.slc []), .pv (.slc []), .pv (.slc [])] := by kernel_rfl
theorem Tryz.vt294 : vt prog 294 = some (some 3) := by kernel_rfl
theorem Tryz.vfield294x0 : vfield prog 294 0 = some (3, 0, 1) := by kernel_rfl
theorem Tryz.vfield294x1 : vfield prog 294 1 = some (3, 1, 1) := by kernel_rfl
theorem Tryz.vfield294x2 : vfield prog 294 2 = some (3, 2, 1) := by kernel_rfl
theorem Tryz.vzero294 : vzero prog 294 = some [.pv (.lit (.int .i64 0)), .pv (.lit (.int .i64 0)), .pv (.lit (.int .i64 0))] := by kernel_rfl
theorem Tryz.bytes294 : bytesT prog 294 = some 24 := by kernel_rfl
theorem Tryz.vfield346x0 : vfield prog 346 0 = some (9, 0, 1) := by kernel_rfl
theorem Tryz.vfield346x1 : vfield prog 346 1 = some (3, 1, 1) := by kernel_rfl
theorem Tryz.vfield346x2 : vfield prog 346 2 = some (35, 2, 1) := by kernel_rfl
theorem Tryz.vplaces346 : vplaces prog 346 = some fun j => ([(0, 1), (1, 1), (2, 1)] : List (Nat × Nat))[j]? := by kernel_rfl
theorem Tryz.vzero346 : vzero prog 346 = some [.pv (.str []), .pv (.lit (.int .i64 0)), .pv (.lit (.int .i64 0))] := by kernel_rfl
theorem Tryz.vfield357x0 : vfield prog 357 0 = some (9, 0, 1) := by kernel_rfl
theorem Tryz.vfield357x1 : vfield prog 357 1 = some (3, 1, 1) := by kernel_rfl
theorem Tryz.vfield357x2 : vfield prog 357 2 = some (4, 2, 1) := by kernel_rfl
theorem Tryz.vplaces357 : vplaces prog 357 = some fun j => ([(0, 1), (1, 1), (2, 1)] : List (Nat × Nat))[j]? := by kernel_rfl
theorem Tryz.vzero357 : vzero prog 357 = some [.pv (.str []), .pv (.lit (.int .i64 0)), .pv (.lit (.bool false))] := by kernel_rfl
attribute [go_sem] Tryz.vt3 Tryz.vkind3 Tryz.vzero3 Tryz.bytes3 Tryz.vt4 Tryz.vkind4 Tryz.vt5 Tryz.vkind5 Tryz.vzero5 Tryz.bytes5 Tryz.vt9 Tryz.vkind9 Tryz.vzero9 Tryz.bytes9 Tryz.vt22 Tryz.velem22 Tryz.notInt22 Tryz.vkind22 Tryz.vt24 Tryz.velem24 Tryz.notInt24 Tryz.vkind24 Tryz.vt26 Tryz.vfield26x0 Tryz.vfield26x1 Tryz.vfield26x2 Tryz.vfield26x3 Tryz.vfield26x4 Tryz.vfield26x5 Tryz.vplaces26 Tryz.vzero26 Tryz.vt31 Tryz.vkind31 Tryz.vt32 Tryz.velem32 Tryz.notInt32 Tryz.vkind32 Tryz.vt34 Tryz.vfield34x0 Tryz.vfield34x1 Tryz.vfield34x2 Tryz.vfield34x3 Tryz.vfield34x4 Tryz.vfield34x5 Tryz.vfield34x6 Tryz.vplaces34 Tryz.vzero34 Tryz.vt35 Tryz.vt39 Tryz.vfield39x0 Tryz.vfield39x1 Tryz.vfield39x2 Tryz.vfield39x3 Tryz.vfield39x4 Tryz.vfield39x5 Tryz.vplaces39 Tryz.vzero39 Tryz.bytes39 Tryz.vt42 Tryz.vfield42x0 Tryz.vfield42x1 Tryz.vplaces42 Tryz.vzero42 Tryz.leaves42 Tryz.eqg42 Tryz.vt44 Tryz.vfield44x0 Tryz.vfield44x1 Tryz.vfield44x2 Tryz.vfield44x3 Tryz.vplaces44 Tryz.vzero44 Tryz.leaves44 Tryz.eqg44 Tryz.vt46 Tryz.vfield46x0 Tryz.vfield46x1 Tryz.vfield46x2 Tryz.vfield46x3 Tryz.vfield46x4 Tryz.vfield46x5 Tryz.vfield46x6 Tryz.vfield46x7 Tryz.vplaces46 Tryz.vzero46 Tryz.bytes46 Tryz.leaves46 Tryz.eqg46 Tryz.vt48 Tryz.velem48 Tryz.notInt48 Tryz.vkind48 Tryz.vkind51 Tryz.vt63 Tryz.vfield63x0 Tryz.vfield63x1 Tryz.vfield63x2 Tryz.vplaces63 Tryz.vzero63 Tryz.vfield68x0 Tryz.vfield68x1 Tryz.vplaces68 Tryz.vzero68 Tryz.vt84 Tryz.velem84 Tryz.notInt84 Tryz.vkind84 Tryz.vt86 Tryz.vfield86x0 Tryz.vfield86x1 Tryz.vfield86x2 Tryz.vplaces86 Tryz.vzero86 Tryz.vt87 Tryz.velem87 Tryz.notInt87 Tryz.vkind87 Tryz.vt89 Tryz.vfield89x0 Tryz.vfield89x1 Tryz.vplaces89 Tryz.vzero89 Tryz.vt90 Tryz.velem90 Tryz.notInt90 Tryz.vkind90 Tryz.vt91 Tryz.velem91 Tryz.notInt91 Tryz.vkind91 Tryz.vt93 Tryz.vfield93x0 Tryz.vplaces93 Tryz.vzero93 Tryz.vt94 Tryz.velem94 Tryz.notInt94 Tryz.vkind94 Tryz.vt96 Tryz.vfield96x0 Tryz.vfield96x1 Tryz.vfield96x2 Tryz.vfield96x3 Tryz.vfield96x4 Tryz.vfield96x5 Tryz.vfield96x6 Tryz.vfield96x7 Tryz.vplaces96 Tryz.vzero96 Tryz.vt109 Tryz.vkind109 Tryz.vt112 Tryz.vfield117x0 Tryz.vfield117x1 Tryz.vfield117x2 Tryz.vplaces117 Tryz.vzero117 Tryz.vt123 Tryz.velem123 Tryz.notInt123 Tryz.vkind123 Tryz.vt124 Tryz.velem124 Tryz.notInt124 Tryz.vkind124 Tryz.vt126 Tryz.vfield126x0 Tryz.vfield126x1 Tryz.vfield126x2 Tryz.vfield126x3 Tryz.vfield126x4 Tryz.vplaces126 Tryz.vzero126 Tryz.vt128 Tryz.vfield128x0 Tryz.vfield128x1 Tryz.vplaces128 Tryz.vzero128 Tryz.vt136 Tryz.velem136 Tryz.vzero136 Tryz.vkind138 Tryz.vt143 Tryz.vt145 Tryz.vfield145x0 Tryz.vfield145x1 Tryz.vfield145x2 Tryz.vfield145x3 Tryz.vfield145x4 Tryz.vfield145x5 Tryz.vfield145x6 Tryz.vplaces145 Tryz.vzero145 Tryz.vt146 Tryz.velem146 Tryz.vplaces146 Tryz.vzero146 Tryz.velem152 Tryz.notInt152 Tryz.vt153 Tryz.velem153 Tryz.notInt153 Tryz.velem156 Tryz.notInt156 Tryz.vkind156 Tryz.vfield165x0 Tryz.vfield165x1 Tryz.vfield165x2 Tryz.vfield165x3 Tryz.vplaces165 Tryz.vzero165 Tryz.vt167 Tryz.vfield167x0 Tryz.vfield167x1 Tryz.vfield167x2 Tryz.vfield167x3 Tryz.vfield167x4 Tryz.vplaces167 Tryz.vzero167 Tryz.bytes167 Tryz.vt170 Tryz.vfield170x0 Tryz.vfield170x1 Tryz.vfield170x2 Tryz.vfield170x3 Tryz.vplaces170 Tryz.vzero170 Tryz.leaves170 Tryz.eqg170 Tryz.vt172 Tryz.vfield172x0 Tryz.vfield172x1 Tryz.vfield172x2 Tryz.vfield172x3 Tryz.vfield172x4 Tryz.vfield172x5 Tryz.vplaces172 Tryz.vzero172 Tryz.bytes172 Tryz.vplaces194 Tryz.vzero194 Tryz.bytes194 Tryz.velem195 Tryz.vt197 Tryz.vfield197x0 Tryz.vfield197x1 Tryz.vfield197x2 Tryz.vplaces197 Tryz.vzero197 Tryz.vt201 Tryz.vfield201x0 Tryz.vfield201x1 Tryz.vfield201x2 Tryz.vfield201x3 Tryz.vplaces201 Tryz.vzero201 Tryz.bytes201 Tryz.vt209 Tryz.vfield209x0 Tryz.vfield209x1 Tryz.vfield209x2 Tryz.vplaces209 Tryz.vzero209 Tryz.bytes209 Tryz.vt216 Tryz.vfield216x0 Tryz.vfield216x1 Tryz.vplaces216 Tryz.vzero216 Tryz.leaves216 Tryz.eqg216 Tryz.vt228 Tryz.vfield228x0 Tryz.vfield228x1 Tryz.vfield228x2 Tryz.vfield228x3 Tryz.vfield228x4 Tryz.vplaces228 Tryz.vzero228 Tryz.vt236 Tryz.vfield236x0 Tryz.vfield236x1 Tryz.vfield236x2 Tryz.vfield236x3 Tryz.vfield236x4 Tryz.vfield236x5 Tryz.vplaces236 Tryz.vzero236 Tryz.bytes236 Tryz.vt240 Tryz.vfield240x0 Tryz.vfield240x1 Tryz.vfield240x2 Tryz.vplaces240 Tryz.vzero240 Tryz.bytes240 Tryz.leaves240 Tryz.eqg240 Tryz.vzero268 Tryz.bytes268 Tryz.vt284 Tryz.vfield284x0 Tryz.vfield284x1 Tryz.vfield284x2 Tryz.vfield284x3 Tryz.vfield284x4 Tryz.vfield284x5 Tryz.vfield284x6 Tryz.vplaces284 Tryz.vzero284 Tryz.vt294 Tryz.vfield294x0 Tryz.vfield294x1 Tryz.vfield294x2 Tryz.vzero294 Tryz.bytes294 Tryz.vfield346x0 Tryz.vfield346x1 Tryz.vfield346x2 Tryz.vplaces346 Tryz.vzero346 Tryz.vfield357x0 Tryz.vfield357x1 Tryz.vfield357x2 Tryz.vplaces357 Tryz.vzero357
end Go.Proofs
namespace Go.Proofs.YtfabboefambbjaaGreat
open Go.V Go
open Tryz (prog)
def byteX (n : Int) (i : Nat) : Int := IntKind.u8.wrap ((IntKind.u64.wrap n).fdiv (2 ^ min (8 * (i : Int)).toNat 64))
def byteI (n : Int) (i : Nat) : UInt8 := UInt8.ofNat (byteX n i).toNat
theorem wrap_u8_eq (x : Int) : IntKind.u8.wrap x = x % 256 := by
  simp [IntKind.wrap, IntKind.signed, IntKind.bits]
theorem byteI_eq (n : Int) (i : Nat) : byteX n i = ((byteI n i).toNat : Int) := by
  unfold byteI byteX
  rw [wrap_u8_eq]
  generalize (IntKind.u64.wrap n).fdiv (2 ^ min (8 * (i : Int)).toNat 64) = y
  simp only [UInt8.toNat_ofNat']
  omega
def putL (s : List UInt8) (n : Int) (k : Nat) : List UInt8 := s ++ (List.range k).map (byteI n)
theorem putL_len (s : List UInt8) (n : Int) (k : Nat) : (putL s n k).length = s.length + k := by simp [putL]
theorem putL_succ (s : List UInt8) (n : Int) (k : Nat) : putL s n (k + 1) = putL s n k ++ [byteI n k] := by simp [putL, List.range_succ]
theorem btsF : bts prog 22 9 = true := by kernel_rfl
theorem rput_v (s : List UInt8) (hs : s.length ≤ 1000000000) (n : Int) (k : Nat) (h1 : 1 ≤ k) (h8 : k ≤ 8) : VCalls prog 53 [.pv (.str s), .int .i64 n, .int .i64 k] [] (Ret (.pv (.str (putL s n k)))) := by
  refine dd Tryz.func53 ?_
  simp (config := { maxSteps := 2000000 }) (implicitDefEqProofs := false) (disch := first | omega | assumption | (simp only []; done) | fail) only [go_sem, Nat.reduceAdd, Nat.reduceBEq, Int.reduceAdd, Int.reduceBEq, Tryz.f53]
  refine vloopW (fun i : {i : Nat // i ≤ k} => ⟨32, 0, [(7, .int .i64 i.1), (2, .int .i64 k), (0, .pv (.str (putL s n i.1))), (1, .int .i64 n)], []⟩) (fun i => k - i.1) ⟨0, by omega⟩ (.inl (by simpa only [putL, List.range_zero, List.map_nil, List.append_nil] using (by refine ⟨rfl, rfl, by simp, ?_, ?_, .inr ⟨?_, ?_⟩⟩ <;> (repeat' apply And.intro) <;> first | rfl | trivial | (intro _; first | rfl | apply cells_refs)))) ?_
  intro i
  obtain ⟨i, hi⟩ := i
  dsimp only
  simp (config := { maxSteps := 2000000 }) (implicitDefEqProofs := false) (disch := first | omega | assumption | (simp only []; done) | fail) only [go_sem, Nat.reduceBEq, Int.reduceBEq]
  refine vbr_split (fun hc => ?_) (fun hc => ?_) <;> simp only [decide_eq_true_eq, decide_eq_false_iff_not, Bool.or_eq_true, Bool.and_eq_true, Bool.or_eq_false_iff, Bool.and_eq_false_imp, Bool.not_eq_true', Bool.not_eq_false', beq_iff_eq, beq_eq_false_iff_ne, bne_iff_ne, bne_eq_false_iff_eq, ne_eq] at hc
  · have hw8 : IntKind.u64.wrap (8 * (i : Int)) = 8 * (i : Int) := by simp [IntKind.wrap, IntKind.signed, IntKind.bits]; omega
    have hl : (putL s n i).length + 1 ≤ 9223372036854775807 := by rw [putL_len]; omega
    simp (config := { maxSteps := 2000000 }) (implicitDefEqProofs := false) (disch := first | omega | assumption | (simp only []; done) | fail) only [go_sem, V.splice, V.mk, ↓reduceIte, Nat.reduceLT, Nat.reduceLeDiff, Nat.reduceBEq, Int.reduceLT, Int.reduceBEq, hw8, conv_bts btsF, vcso_one]
    refine ⟨⟨i + 1, by omega⟩, by show k - (i + 1) < k - i; omega, ?_⟩
    rw [putL_succ]
    refine gc_of (keep := []) rfl rfl rfl (by decide) trivial ?_
    refine ⟨⟨rfl, rfl⟩, ⟨rfl, rfl⟩, ⟨rfl, rfl⟩, ⟨rfl, rfl⟩, trivial⟩
  · simp (config := { maxSteps := 2000000 }) (implicitDefEqProofs := false) (disch := first | omega | assumption | (simp only []; done) | fail) only [go_sem, ↓reduceIte, Nat.reduceLT, Nat.reduceBEq, Int.reduceLT, Int.reduceBEq]
    have hik : i = k := by omega
    rw [hik]
def accX (s : List UInt8) (a : Nat) : Nat → Int
  | 0 => 0
  | i + 1 => bits BinOp.or .u64 (accX s a i) (IntKind.u64.wrap (IntKind.u64.wrap (s.getD (a + i) 0).toNat * 2 ^ min (8 * (i : Int)).toNat 64))
theorem str_get (s : List UInt8) (a i : Nat) (h : a + i < s.length) : s[((a : Int) + (i : Int)).toNat]? = some (s.getD (a + i) 0) := by
  have e : ((a : Int) + (i : Int)).toNat = a + i := by omega
  rw [e, List.getD_eq_getElem?_getD, List.getElem?_eq_getElem h]; rfl
theorem get_short (s : List UInt8) (a k : Int) (h : 1 ≤ k ∧ k ≤ 8) (h0 : 0 ≤ a) (hh : ¬ a + k ≤ s.length) : VCalls prog 41 [.pv (.str s), .int .i64 a, .int .i64 k] [] (Ret (.tup [.int .i64 0, .int .i64 5])) := by
  refine dd Tryz.func41 ?_
  have h1 : ¬ k < 1 := by omega
  have h2 : ¬ 8 < k := by omega
  have h3 : ¬ a < 0 := by omega
  by_cases h4 : (s.length : Int) < a
  · simp (config := { maxSteps := 2000000 }) (implicitDefEqProofs := false) (disch := first | omega | assumption | (simp only []; done) | fail) only [go_sem, Nat.reduceAdd, Nat.reduceBEq, Int.reduceAdd, Int.reduceBEq, Tryz.f41, h1, h2, h3, h4]
  · have h5 : (s.length : Int) - a < k := by omega
    simp (config := { maxSteps := 2000000 }) (implicitDefEqProofs := false) (disch := first | omega | assumption | (simp only []; done) | fail) only [go_sem, Nat.reduceAdd, Nat.reduceBEq, Int.reduceAdd, Int.reduceBEq, Tryz.f41, h1, h2, h3, h4, h5]
theorem rget_short (s : List UInt8) (a k : Int) (h : 1 ≤ k ∧ k ≤ 8) (h0 : 0 ≤ a) (hh : ¬ a + k ≤ s.length) : VCalls prog 217 [.pv (.str s), .int .i64 a, .int .i64 k] [] (Ret (.tup [.int .i64 0, .int .i64 5])) := by
  refine dd Tryz.func217 ?_
  have h1 : ¬ k < 1 := by omega
  have h2 : ¬ 8 < k := by omega
  have h3 : ¬ a < 0 := by omega
  by_cases h4 : (s.length : Int) < a
  · simp (config := { maxSteps := 2000000 }) (implicitDefEqProofs := false) (disch := first | omega | assumption | (simp only []; done) | fail) only [go_sem, Nat.reduceAdd, Nat.reduceBEq, Int.reduceAdd, Int.reduceBEq, Tryz.f217, h1, h2, h3, h4]
  · have h5 : (s.length : Int) - a < k := by omega
    simp (config := { maxSteps := 2000000 }) (implicitDefEqProofs := false) (disch := first | omega | assumption | (simp only []; done) | fail) only [go_sem, Nat.reduceAdd, Nat.reduceBEq, Int.reduceAdd, Int.reduceBEq, Tryz.f217, h1, h2, h3, h4, h5]
theorem get_v (s : List UInt8) (hs : s.length ≤ 1000000000) (a k : Nat) (h : 1 ≤ k ∧ k ≤ 8) (hh : a + k ≤ s.length) : VCalls prog 41 [.pv (.str s), .int .i64 a, .int .i64 k] [] (Ret (.tup [.int .i64 (IntKind.i64.wrap (accX s a k)), .int .i64 0])) := by
  refine dd Tryz.func41 ?_
  have h1 : ¬ (k : Int) < 1 := by omega
  have h2 : ¬ 8 < (k : Int) := by omega
  have h3 : ¬ (a : Int) < 0 := by omega
  have h4 : ¬ (s.length : Int) < a := by omega
  have h5 : ¬ (s.length : Int) - a < k := by omega
  simp (config := { maxSteps := 2000000 }) (implicitDefEqProofs := false) (disch := first | omega | assumption | (simp only []; done) | fail) only [go_sem, Nat.reduceAdd, Nat.reduceBEq, Int.reduceAdd, Int.reduceBEq, Tryz.f41, h1, h2, h3, h4, h5]
  refine vloop (fun i : {i : Nat // i ≤ k} => ⟨52, 0, [(35, .int .i64 i.1), (34, .int .i64 k), (8, .int .u64 (accX s a i.1)), (0, .pv (.str s)), (1, .int .i64 a)], []⟩) (fun i => k - i.1) ⟨0, by omega⟩ (by refine ⟨rfl, rfl, by simp, ?_, ?_, .inl rfl⟩ <;> (repeat' apply And.intro) <;> first | rfl | trivial) ?_
  intro i
  obtain ⟨i, hi⟩ := i
  dsimp only
  simp (config := { maxSteps := 2000000 }) (implicitDefEqProofs := false) (disch := first | omega | assumption | (simp only []; done) | fail) only [go_sem, Nat.reduceBEq, Int.reduceBEq]
  refine vbr_split (fun hc => ?_) (fun hc => ?_) <;> simp only [decide_eq_true_eq, decide_eq_false_iff_not, Bool.or_eq_true, Bool.and_eq_true, Bool.or_eq_false_iff, Bool.and_eq_false_imp, Bool.not_eq_true', Bool.not_eq_false', beq_iff_eq, beq_eq_false_iff_ne, bne_iff_ne, bne_eq_false_iff_eq, ne_eq] at hc
  · have hg : s[((a : Int) + (i : Int)).toNat]? = some (s.getD (a + i) 0) := str_get s a i (by omega)
    have h0 : 0 ≤ (a : Int) + (i : Int) := by omega
    simp (config := { maxSteps := 2000000 }) (implicitDefEqProofs := false) (disch := first | omega | assumption | (simp only []; done) | fail) only [go_sem, Nat.reduceBEq, Int.reduceBEq, hg]
    exact ⟨⟨i + 1, by omega⟩, by show k - (i + 1) < k - i; omega, (by refine ⟨rfl, rfl, by simp, ?_, ?_, .inl rfl⟩ <;> (repeat' apply And.intro) <;> first | rfl | trivial)⟩
  · simp (config := { maxSteps := 2000000 }) (implicitDefEqProofs := false) (disch := first | omega | assumption | (simp only []; done) | fail) only [go_sem, ↓reduceIte, Nat.reduceLT, Nat.reduceBEq, Int.reduceLT, Int.reduceBEq]
    have hik : i = k := by omega
    rw [hik]
theorem rget_v (s : List UInt8) (hs : s.length ≤ 1000000000) (a k : Nat) (h : 1 ≤ k ∧ k ≤ 8) (hh : a + k ≤ s.length) : VCalls prog 217 [.pv (.str s), .int .i64 a, .int .i64 k] [] (Ret (.tup [.int .i64 (IntKind.i64.wrap (accX s a k)), .int .i64 0])) := by
  refine dd Tryz.func217 ?_
  have h1 : ¬ (k : Int) < 1 := by omega
  have h2 : ¬ 8 < (k : Int) := by omega
  have h3 : ¬ (a : Int) < 0 := by omega
  have h4 : ¬ (s.length : Int) < a := by omega
  have h5 : ¬ (s.length : Int) - a < k := by omega
  simp (config := { maxSteps := 2000000 }) (implicitDefEqProofs := false) (disch := first | omega | assumption | (simp only []; done) | fail) only [go_sem, Nat.reduceAdd, Nat.reduceBEq, Int.reduceAdd, Int.reduceBEq, Tryz.f217, h1, h2, h3, h4, h5]
  refine vloop (fun i : {i : Nat // i ≤ k} => ⟨51, 0, [(9, .int .i64 i.1), (2, .int .i64 k), (8, .int .u64 (accX s a i.1)), (0, .pv (.str s)), (1, .int .i64 a)], []⟩) (fun i => k - i.1) ⟨0, by omega⟩ (by refine ⟨rfl, rfl, by simp, ?_, ?_, .inl rfl⟩ <;> (repeat' apply And.intro) <;> first | rfl | trivial) ?_
  intro i
  obtain ⟨i, hi⟩ := i
  dsimp only
  simp (config := { maxSteps := 2000000 }) (implicitDefEqProofs := false) (disch := first | omega | assumption | (simp only []; done) | fail) only [go_sem, Nat.reduceBEq, Int.reduceBEq]
  refine vbr_split (fun hc => ?_) (fun hc => ?_) <;> simp only [decide_eq_true_eq, decide_eq_false_iff_not, Bool.or_eq_true, Bool.and_eq_true, Bool.or_eq_false_iff, Bool.and_eq_false_imp, Bool.not_eq_true', Bool.not_eq_false', beq_iff_eq, beq_eq_false_iff_ne, bne_iff_ne, bne_eq_false_iff_eq, ne_eq] at hc
  · have hg : s[((a : Int) + (i : Int)).toNat]? = some (s.getD (a + i) 0) := str_get s a i (by omega)
    have h0 : 0 ≤ (a : Int) + (i : Int) := by omega
    have hw8 : IntKind.u64.wrap (8 * (i : Int)) = 8 * (i : Int) := by simp [IntKind.wrap, IntKind.signed, IntKind.bits]; omega
    simp (config := { maxSteps := 2000000 }) (implicitDefEqProofs := false) (disch := first | omega | assumption | (simp only []; done) | fail) only [go_sem, Nat.reduceBEq, Int.reduceBEq, hg, hw8]
    exact ⟨⟨i + 1, by omega⟩, by show k - (i + 1) < k - i; omega, (by refine ⟨rfl, rfl, by simp, ?_, ?_, .inl rfl⟩ <;> (repeat' apply And.intro) <;> first | rfl | trivial)⟩
  · simp (config := { maxSteps := 2000000 }) (implicitDefEqProofs := false) (disch := first | omega | assumption | (simp only []; done) | fail) only [go_sem, ↓reduceIte, Nat.reduceLT, Nat.reduceBEq, Int.reduceLT, Int.reduceBEq]
    have hik : i = k := by omega
    rw [hik]
def u64N (n : Int) : Nat := (n % 18446744073709551616).toNat
theorem u64N_lt (n : Int) : u64N n < 2 ^ 64 := by unfold u64N; omega
theorem wrap64 (n : Int) : IntKind.u64.wrap n = (u64N n : Int) := by
  unfold u64N
  simp [IntKind.wrap, IntKind.signed, IntKind.bits]; omega
theorem min_bits (i : Nat) (h : i < 8) : min (8 * (i : Int)).toNat 64 = 8 * i := by
  have e : (8 * (i : Int)).toNat = 8 * i := by omega
  rw [e]; omega
theorem byteI_val (n : Int) (i : Nat) (h : i < 8) : (byteI n i).toNat = u64N n / 2 ^ (8 * i) % 256 := by
  have hx := byteI_eq n i
  unfold byteX at hx
  rw [wrap_u8_eq, wrap64, min_bits i h] at hx
  have e : ((u64N n : Int).fdiv (2 ^ (8 * i))) = ((u64N n / 2 ^ (8 * i) : Nat) : Int) := by
    have e2 : ((2 : Int) ^ (8 * i)) = ((2 ^ (8 * i) : Nat) : Int) := by rw [Int.natCast_pow]; rfl
    rw [e2, Int.fdiv_eq_ediv_of_nonneg _ (Int.natCast_nonneg _)]
    rfl
  rw [e] at hx
  generalize u64N n / 2 ^ (8 * i) = q at hx ⊢
  omega
theorem or_val (x y : Nat) (hx : x < 2 ^ 64) (hy : y < 2 ^ 64) : bits .or .u64 (x : Int) (y : Int) = ((x ||| y : Nat) : Int) := by
  have e : bits .or .u64 (x : Int) (y : Int) = IntKind.u64.wrap ((BitVec.ofInt 64 (x : Int) ||| BitVec.ofInt 64 (y : Int)).toNat : Int) := rfl
  rw [e, BitVec.toNat_or]
  have h1 : (BitVec.ofInt 64 (x : Int)).toNat = x := by simp; omega
  have h2 : (BitVec.ofInt 64 (y : Int)).toNat = y := by simp; omega
  rw [h1, h2, wrap64]
  have h3 : x ||| y < 2 ^ 64 := Nat.or_lt_two_pow hx hy
  unfold u64N; omega
theorem step_val (N i : Nat) : (N % 2 ^ (8 * i)) ||| (N / 2 ^ (8 * i) % 256 * 2 ^ (8 * i)) = N % 2 ^ (8 * (i + 1)) := by
  have h : N % 2 ^ (8 * i) < 2 ^ (8 * i) := Nat.mod_lt _ (Nat.two_pow_pos _)
  rw [Nat.or_comm, Nat.mul_comm, ← Nat.two_pow_add_eq_or_of_lt h]
  have e : 2 ^ (8 * (i + 1)) = 2 ^ (8 * i) * 256 := by rw [Nat.mul_add, Nat.pow_add]
  rw [e, Nat.mod_mul]; omega
theorem putL_get (s t : List UInt8) (n : Int) (k i : Nat) (hi : i < k) : (putL s n k ++ t).getD (s.length + i) 0 = byteI n i := by
  rw [List.getD_eq_getElem?_getD, putL, List.append_assoc, List.getElem?_append_right (by omega), List.getElem?_append_left (by simp; omega)]
  simp [hi]
theorem acc_val (s t : List UInt8) (n : Int) (k : Nat) (hk : k ≤ 8) : ∀ i, i ≤ k → accX (putL s n k ++ t) s.length i = ((u64N n % 2 ^ (8 * i) : Nat) : Int)
  | 0, _ => by simp [accX, Nat.mod_one]
  | i + 1, hi => by
    have ih := acc_val s t n k hk i (by omega)
    have h8 : i < 8 := by omega
    unfold accX
    rw [ih, putL_get s t n k i (by omega), byteI_val n i h8, min_bits i h8]
    have hb : u64N n / 2 ^ (8 * i) % 256 < 256 := Nat.mod_lt _ (by omega)
    have hw : IntKind.u64.wrap ((u64N n / 2 ^ (8 * i) % 256 : Nat) : Int) = ((u64N n / 2 ^ (8 * i) % 256 : Nat) : Int) := by rw [wrap64]; unfold u64N at *; omega
    rw [hw]
    have hp : (2 : Nat) ^ (8 * i) ≤ 2 ^ 56 := Nat.pow_le_pow_right (by omega) (by omega)
    have hlt : u64N n / 2 ^ (8 * i) % 256 * 2 ^ (8 * i) < 2 ^ 64 := by
      have : u64N n / 2 ^ (8 * i) % 256 * 2 ^ (8 * i) ≤ 255 * 2 ^ 56 := Nat.mul_le_mul (by omega) hp
      omega
    have e2 : ((u64N n / 2 ^ (8 * i) % 256 : Nat) : Int) * 2 ^ (8 * i) = ((u64N n / 2 ^ (8 * i) % 256 * 2 ^ (8 * i) : Nat) : Int) := by
      rw [Int.natCast_mul, Int.natCast_pow]; rfl
    rw [e2]
    have hw2 : IntKind.u64.wrap ((u64N n / 2 ^ (8 * i) % 256 * 2 ^ (8 * i) : Nat) : Int) = ((u64N n / 2 ^ (8 * i) % 256 * 2 ^ (8 * i) : Nat) : Int) := by
      generalize u64N n / 2 ^ (8 * i) % 256 * 2 ^ (8 * i) = z at hlt
      rw [wrap64]; unfold u64N; omega
    rw [hw2, or_val _ _ (Nat.lt_of_le_of_lt (Nat.mod_le _ _) (u64N_lt n)) hlt, step_val]
def tc (l : List Int) : List DV := l.map (DV.int .u32)
theorem tc_len (l : List Int) : (tc l).length = l.length := by simp [tc]
theorem tc_get (l : List Int) (i : Nat) (h : i < l.length) : (tc l)[i]? = some (.int .u32 (l.getD i 0)) := by
  rw [tc, List.getElem?_map, List.getD_eq_getElem?_getD, List.getElem?_eq_getElem h]; rfl
theorem tc_set (l : List Int) (i : Nat) (n : Int) : (tc l).set i (.pv (.lit (.int .u32 n))) = tc (l.set i n) := by rw [tc, tc, List.map_set]
theorem tc_nums (p : Nat → Bool) (l : List Int) : DV.nums.go p (tc l) = true := by
  induction l with
  | nil => rfl
  | cons a l ih => simpa [tc, DV.nums.go, DV.nums] using ih
theorem tc_refs (n : Nat) (l : List Int) : DV.refs.go n (tc l) = true := by
  induction l with
  | nil => rfl
  | cons a l ih => simpa [tc, DV.refs.go, DV.refs] using ih
theorem tc_one (l : List Int) : allOne (tc l) = true := by
  induction l with
  | nil => rfl
  | cons a l ih => simpa [tc, allOne, DV.one] using ih
theorem tc_frz (n : Nat) (hp : Heap) (l : List Int) : allSome ((tc l).map (frz1 n hp)) = some (tc l) := by
  have e : tc l = (l.map fun n => PV.lit (.int .u32 n)).map DV.pv := by rw [tc, List.map_map]; rfl
  rw [e]; exact pvs_frz n hp _
def rnd (r : Int) : Int := if bits .and .u32 r 1 = 1 then bits .xor .u32 (r.fdiv 2) 2197175160 else r.fdiv 2
def rndN : Nat → Int → Int
  | 0, r => r
  | n + 1, r => rnd (rndN n r)
def rem16 (i : Nat) : Int := rndN 4 i
def tabN (i : Nat) : List Int := (List.range 16).map fun j => if j < i then rem16 j else 0
theorem tabN_len (i : Nat) : (tabN i).length = 16 := by simp [tabN]
theorem tabN_succ (i : Nat) (h : i < 16) : (tabN i).set i (rem16 i) = tabN (i + 1) := by
  apply List.ext_getElem?
  intro j
  rw [List.getElem?_set]
  by_cases hij : i = j
  · subst hij
    rw [if_pos rfl, if_pos (by rw [tabN_len]; exact h)]
    simp [tabN, h]
  · rw [if_neg hij]
    simp only [tabN, List.getElem?_map]
    by_cases hj : j < 16
    · rw [List.getElem?_range hj]
      simp only [Option.map_some]
      by_cases h1 : j < i
      · rw [if_pos h1, if_pos (by omega)]
      · rw [if_neg h1, if_neg (by omega)]
    · rw [List.getElem?_eq_none (by simp; omega)]
      rfl
theorem remainders_v : VCalls prog 67 [] [] (Ret (.agg (tc (tabN 16)))) := by
  refine dd Tryz.func67 ?_
  simp (config := { maxSteps := 2000000 }) (implicitDefEqProofs := false) (disch := first | omega | assumption | (simp only []; done) | fail) only [go_sem, ↓reduceIte, Tryz.f67]
  refine vloop (fun i : {i : Nat // i ≤ 16} => ⟨25, 0, [(4, .int .i64 i.1), (1, .ptr 1 0), (0, .ptr 0 0)], [⟨136, true, tc (tabN 0)⟩, ⟨136, true, tc (tabN i.1)⟩]⟩) (fun i => 16 - i.1) ⟨0, by omega⟩ (by refine ⟨rfl, rfl, by simp, ?_, ?_, .inl rfl⟩ <;> (repeat' apply And.intro) <;> first | rfl | trivial) ?_
  intro i
  obtain ⟨i, hi⟩ := i
  dsimp only
  simp (config := { maxSteps := 2000000 }) (implicitDefEqProofs := false) (disch := first | omega | assumption | (simp only []; done) | fail) only [go_sem]
  refine vbr_split (fun hc => ?_) (fun hc => ?_) <;> simp only [decide_eq_true_eq, decide_eq_false_iff_not, Bool.or_eq_true, Bool.and_eq_true, Bool.or_eq_false_iff, Bool.and_eq_false_imp, Bool.not_eq_true', Bool.not_eq_false', beq_iff_eq, beq_eq_false_iff_ne, bne_iff_ne, bne_eq_false_iff_eq, ne_eq] at hc
  · have hw : IntKind.u32.wrap (i : Int) = (i : Int) := by simp [IntKind.wrap, IntKind.signed, IntKind.bits]; omega
    simp (config := { maxSteps := 2000000 }) (implicitDefEqProofs := false) (disch := first | omega | assumption | (simp only []; done) | fail) only [go_sem, Nat.reduceBEq, Int.reduceBEq, hw]
    refine vloop (fun j : {j : Nat // j ≤ 4} => ⟨25, 0, [(9, .int .i64 j.1), (2, .int .i64 i), (3, .int .u32 (rndN j.1 i)), (4, .int .i64 i), (1, .ptr 1 0), (0, .ptr 0 0)], [⟨136, true, tc (tabN 0)⟩, ⟨136, true, tc (tabN i)⟩]⟩) (fun j => 4 - j.1) ⟨0, by omega⟩ (by refine ⟨rfl, rfl, by simp, ?_, ?_, .inl rfl⟩ <;> (repeat' apply And.intro) <;> first | rfl | trivial) ?_
    intro j
    obtain ⟨j, hj⟩ := j
    dsimp only
    simp (config := { maxSteps := 2000000 }) (implicitDefEqProofs := false) (disch := first | omega | assumption | (simp only []; done) | fail) only [go_sem]
    refine vbr_split (fun hcj => ?_) (fun hcj => ?_) <;> simp only [decide_eq_true_eq, decide_eq_false_iff_not, Bool.or_eq_true, Bool.and_eq_true, Bool.or_eq_false_iff, Bool.and_eq_false_imp, Bool.not_eq_true', Bool.not_eq_false', beq_iff_eq, beq_eq_false_iff_ne, bne_iff_ne, bne_eq_false_iff_eq, ne_eq] at hcj
    · simp (config := { maxSteps := 2000000 }) (implicitDefEqProofs := false) (disch := first | omega | assumption | (simp only []; done) | fail) only [go_sem, Nat.reduceBEq, Int.reduceBEq]
      refine vbr_split (fun hb => ?_) (fun hb => ?_) <;> simp only [decide_eq_true_eq, decide_eq_false_iff_not, Bool.or_eq_true, Bool.and_eq_true, Bool.or_eq_false_iff, Bool.and_eq_false_imp, Bool.not_eq_true', Bool.not_eq_false', beq_iff_eq, beq_eq_false_iff_ne, bne_iff_ne, bne_eq_false_iff_eq, ne_eq] at hb
      · simp (config := { maxSteps := 2000000 }) (implicitDefEqProofs := false) (disch := first | omega | assumption | (simp only []; done) | fail) only [go_sem, Nat.reduceBEq, Int.reduceToNat, Int.reduceBEq]
        refine ⟨⟨j + 1, by omega⟩, by show 4 - (j + 1) < 4 - j; omega, ?_⟩
        have e : rndN (j + 1) i = bits .xor .u32 ((rndN j i).fdiv 2) 2197175160 := by rw [rndN, rnd, if_pos hb]
        rw [e]
        exact (by refine ⟨rfl, rfl, by simp, ?_, ?_, .inr ⟨?_, ?_⟩⟩ <;> (repeat' apply And.intro) <;> first | rfl | trivial | (intro _; first | rfl | apply cells_refs | apply tc_refs))
      · simp (config := { maxSteps := 2000000 }) (implicitDefEqProofs := false) (disch := first | omega | assumption | (simp only []; done) | fail) only [go_sem, Nat.reduceBEq, Int.reduceToNat, Int.reduceBEq]
        refine ⟨⟨j + 1, by omega⟩, by show 4 - (j + 1) < 4 - j; omega, ?_⟩
        have e : rndN (j + 1) i = (rndN j i).fdiv 2 := by rw [rndN, rnd, if_neg hb]
        rw [e]
        exact (by refine ⟨rfl, rfl, by simp, ?_, ?_, .inr ⟨?_, ?_⟩⟩ <;> (repeat' apply And.intro) <;> first | rfl | trivial | (intro _; first | rfl | apply cells_refs | apply tc_refs))
    · have hj4 : j = 4 := by omega
      subst hj4
      have hl : i < (tc (tabN i)).length := by rw [tc_len, tabN_len]; omega
      have hs : (tc (tabN i)).set i (.pv (.lit (.int .u32 (rndN 4 i)))) = tc (tabN (i + 1)) := by rw [tc_set, ← tabN_succ i (by omega)]; rfl
      simp (config := { maxSteps := 2000000 }) (implicitDefEqProofs := false) (disch := first | omega | assumption | (simp only []; done) | fail) only [go_sem, ↓reduceIte, Nat.reduceBEq, Int.reduceBEq, hl, hs]
      exact ⟨⟨i + 1, by omega⟩, by show 16 - (i + 1) < 16 - i; omega, (by refine ⟨rfl, rfl, by simp, ?_, ?_, .inr ⟨?_, ?_⟩⟩ <;> (repeat' apply And.intro) <;> first | rfl | trivial | (intro _; first | rfl | apply cells_refs | apply tc_refs))⟩
  · have hi16 : i = 16 := by omega
    subst hi16
    have ht : (tc (tabN 16)).take 16 = tc (tabN 16) := List.take_of_length_le (by rw [tc_len, tabN_len]; omega)
    have hd : (tc (tabN 0)).drop 16 = [] := List.drop_of_length_le (by rw [tc_len, tabN_len]; omega)
    simp (config := { maxSteps := 2000000 }) (implicitDefEqProofs := false) (disch := first | omega | assumption | (simp only []; done) | fail) only [go_sem, V.splice, ↓reduceIte, Nat.reduceLT, Nat.reduceBEq, Int.reduceLT, Int.reduceBEq, tc_len, tabN_len, tc_nums, ht, hd, tc_one, tc_frz]
def half (r : Int) : Int := bits .xor .u32 (r.fdiv (2 ^ min 4 32)) ((tabN 16).getD (bits .and .u32 r 15).toNat 0)
theorem and15 (r : Int) : 0 ≤ bits .and .u32 r 15 ∧ bits .and .u32 r 15 < 16 := by
  have h : bits .and .u32 r 15 = ((BitVec.ofInt 32 r &&& 15#32).toNat : Int) := by
    show IntKind.u32.wrap ((BitVec.ofInt 32 r &&& BitVec.ofInt 32 15).toNat) = _
    have hw : ∀ b : BitVec 32, IntKind.u32.wrap (b.toNat : Int) = (b.toNat : Int) := fun b => by
      have := b.isLt
      simp [IntKind.wrap, IntKind.signed, IntKind.bits]; omega
    exact hw _
  rw [h]
  have : (BitVec.ofInt 32 r &&& 15#32).toNat ≤ 15 := by rw [BitVec.toNat_and]; exact Nat.and_le_right
  omega
def byte1 (r : Int) (b : UInt8) : Int := half (half (bits .xor .u32 r (IntKind.u32.wrap b.toNat)))
def sumR (s : List UInt8) : Int := s.foldl byte1 4294967295
def sumX (s : List UInt8) : Int := bits .xor .u32 4294967295 (sumR s)
theorem sumR_succ (s : List UInt8) (i : Nat) (h : i < s.length) : sumR (s.take (i + 1)) = byte1 (sumR (s.take i)) (s.getD i 0) := by
  rw [sumR, List.take_succ_eq_append_getElem h, List.foldl_append]
  rw [List.getD_eq_getElem?_getD, List.getElem?_eq_getElem h]; rfl
theorem sum_v (s : List UInt8) (hs : s.length ≤ 100000000) : VCalls prog 42 [.pv (.str s)] [] (Ret (.int .u32 (sumX s))) := by
  refine dd Tryz.func42 ?_
  simp (config := { maxSteps := 2000000 }) (implicitDefEqProofs := false) (disch := first | omega | assumption | (simp only []; done) | fail) only [go_sem, Tryz.f42]
  refine vc_pure remainders_v rfl ?_
  simp (config := { maxSteps := 2000000 }) (implicitDefEqProofs := false) (disch := first | omega | assumption | (simp only []; done) | fail) only [go_sem, V.splice, ↓reduceIte, Nat.reduceAdd, Nat.reduceBEq, Int.reduceAdd, Int.reduceBEq, tc_len, tabN_len, tc_one]
  refine vloop (fun i : {i : Nat // i ≤ s.length} => ⟨35, 0, [(9, .int .i64 i.1), (8, .int .i64 s.length), (4, .int .u32 (sumR (s.take i.1))), (3, .ptr 0 0), (0, .pv (.str s))], [⟨136, true, tc (tabN 16)⟩]⟩) (fun i => s.length - i.1) ⟨0, by omega⟩ (by refine ⟨rfl, rfl, by simp, ?_, ?_, .inl rfl⟩ <;> (repeat' apply And.intro) <;> first | rfl | trivial) ?_
  intro i
  obtain ⟨i, hi⟩ := i
  dsimp only
  simp (config := { maxSteps := 2000000 }) (implicitDefEqProofs := false) (disch := first | omega | assumption | (simp only []; done) | fail) only [go_sem, Nat.reduceBEq, Int.reduceBEq]
  refine vbr_split (fun hc => ?_) (fun hc => ?_) <;> simp only [decide_eq_true_eq, decide_eq_false_iff_not, Bool.or_eq_true, Bool.and_eq_true, Bool.or_eq_false_iff, Bool.and_eq_false_imp, Bool.not_eq_true', Bool.not_eq_false', beq_iff_eq, beq_eq_false_iff_ne, bne_iff_ne, bne_eq_false_iff_eq, ne_eq] at hc
  · have hlt : i < s.length := by omega
    have hg : s[i]? = some (s.getD i 0) := by rw [List.getD_eq_getElem?_getD, List.getElem?_eq_getElem hlt]; rfl
    have a1 := and15 (bits .xor .u32 (sumR (s.take i)) (IntKind.u32.wrap (s.getD i 0).toNat))
    have a2 := and15 (half (bits .xor .u32 (sumR (s.take i)) (IntKind.u32.wrap (s.getD i 0).toNat)))
    have t1 := tc_get (tabN 16) (bits .and .u32 (bits .xor .u32 (sumR (s.take i)) (IntKind.u32.wrap (s.getD i 0).toNat)) 15).toNat (by rw [tabN_len]; omega)
    have t2 := tc_get (tabN 16) (bits .and .u32 (half (bits .xor .u32 (sumR (s.take i)) (IntKind.u32.wrap (s.getD i 0).toNat))) 15).toNat (by rw [tabN_len]; omega)
    have hh : ∀ r, bits .xor .u32 (r.fdiv (2 ^ min 4 32)) ((tabN 16).getD (bits .and .u32 r 15).toNat 0) = half r := fun _ => rfl
    simp (config := { maxSteps := 2000000 }) (implicitDefEqProofs := false) (disch := first | omega | assumption | (simp only []; done) | fail) only [go_sem, Nat.reduceBEq, Int.reduceToNat, Int.reduceBEq, hg, t1, t2, hh]
    refine ⟨⟨i + 1, hlt⟩, by show s.length - (i + 1) < s.length - i; omega, ?_⟩
    rw [sumR_succ s i hlt]
    exact (by refine ⟨rfl, rfl, by simp, ?_, ?_, .inr ⟨?_, ?_⟩⟩ <;> (repeat' apply And.intro) <;> first | rfl | trivial | (intro _; first | rfl | apply cells_refs | apply tc_refs))
  · simp (config := { maxSteps := 2000000 }) (implicitDefEqProofs := false) (disch := first | omega | assumption | (simp only []; done) | fail) only [go_sem, ↓reduceIte, Nat.reduceLT, Nat.reduceBEq, Int.reduceLT, Int.reduceBEq]
    rw [List.take_of_length_le (by omega)]
    rfl
theorem rnd_b (x : BitVec 32) : rnd (x.toNat : Int) = ((rb x).toNat : Int) := by
  have h1 : bits .and .u32 (x.toNat : Int) 1 = ((x &&& 1#32).toNat : Int) := and32 x 1#32
  have h2 : (x.toNat : Int).fdiv 2 = ((x >>> 1).toNat : Int) := shr32 x 1
  have h3 : (x &&& 1#32).toNat = x.toNat % 2 := by rw [BitVec.toNat_and]; exact Nat.and_one_is_mod _
  have h4 : x.getLsbD 0 = decide (x.toNat % 2 = 1) := by simp [BitVec.getLsbD, Nat.testBit_zero]
  unfold rnd rb
  rw [h1, h2, h3, h4]
  by_cases h : x.toNat % 2 = 1
  · rw [if_pos (by omega), if_pos (by simpa using h)]
    exact xor32 _ polyB
  · rw [if_neg (by omega), if_neg (by simpa using h)]; simp
theorem rndN_b (n : Nat) (x : BitVec 32) : rndN n (x.toNat : Int) = ((rbN n x).toNat : Int) := by
  induction n with
  | zero => rfl
  | succ n ih => rw [rndN, ih, rnd_b]; rfl
theorem half_b (x : BitVec 32) : half (x.toNat : Int) = ((rbN 4 x).toNat : Int) := by
  have h1 : bits .and .u32 (x.toNat : Int) 15 = ((x &&& 15#32).toNat : Int) := and32 x 15#32
  have h15 : (x &&& 15#32).toNat < 16 := by rw [BitVec.toNat_and]; exact Nat.lt_succ_of_le Nat.and_le_right
  have h2 : (tabN 16).getD (x &&& 15#32).toNat 0 = ((rbN 4 (x &&& 15#32)).toNat : Int) := by
    rw [← rndN_b]
    simp only [tabN, List.getD_eq_getElem?_getD, List.getElem?_map, List.getElem?_range h15, Option.map_some, Option.getD_some, rem16]
    rw [if_pos h15]
  have h3 : (x.toNat : Int).fdiv (2 ^ min 4 32) = ((x >>> 4).toNat : Int) := shr32 x 4
  have e1 : x = (x &&& 15#32) ^^^ ((x >>> 4) <<< 4) := by
    apply BitVec.eq_of_getLsbD_eq
    intro i hi
    rw [BitVec.getLsbD_xor, BitVec.getLsbD_and, BitVec.getLsbD_shiftLeft, BitVec.getLsbD_ushiftRight]
    by_cases h : i < 4
    · have h15 : (15#32).getLsbD i = true := by
        rcases i with _ | _ | _ | _ | i <;> first | rfl | omega
      simp [h15, h]
    · have h15 : (15#32).getLsbD i = false := by
        have : (15#32).getLsbD i = (15 : Nat).testBit i := by simp [BitVec.getLsbD]
        rw [this]; apply Nat.testBit_lt_two_pow
        exact Nat.lt_of_lt_of_le (show 15 < 2 ^ 4 by omega) (Nat.pow_le_pow_right (by omega) (by omega))
      rw [h15]; simp [h, hi, show 4 + (i - 4) = i by omega]
  have e2 : rbN 4 x = rbN 4 (x &&& 15#32) ^^^ (x >>> 4) := by
    have hs : rbN 4 ((x >>> 4) <<< 4) = x >>> 4 := shl_low _ _ (fun i hi => by rw [BitVec.getLsbD_ushiftRight]; exact BitVec.getLsbD_of_ge _ _ (by omega)) (by omega)
    conv => lhs; rw [e1]
    rw [rbN_xor, hs]
  unfold half
  rw [h1, h3, Int.toNat_natCast, h2, xor32, e2, BitVec.xor_comm]
theorem byte1_b (x : BitVec 32) (b : UInt8) : byte1 (x.toNat : Int) b = ((cb x b).toNat : Int) := by
  unfold byte1
  rw [b32_nat, xor32, half_b, half_b, ← rbN_add]; rfl
theorem fold_b : ∀ (s : List UInt8) (x : BitVec 32), s.foldl byte1 (x.toNat : Int) = ((s.foldl cb x).toNat : Int)
  | [], _ => rfl
  | b :: s, x => by rw [List.foldl_cons, byte1_b, fold_b s, List.foldl_cons]
theorem sumR_b (s : List UInt8) : sumR s = ((s.foldl cb 4294967295#32).toNat : Int) := fold_b s 4294967295#32
theorem sumX_b (s : List UInt8) : sumX s = ((4294967295#32 ^^^ s.foldl cb 4294967295#32).toNat : Int) := by
  rw [sumX, sumR_b]; exact xor32 4294967295#32 _
theorem sumX_in (s : List UInt8) : 0 ≤ sumX s ∧ sumX s < 4294967296 := by
  rw [sumX_b]
  have := (4294967295#32 ^^^ s.foldl cb 4294967295#32).isLt
  omega
theorem sumX_inj {p a b q : List UInt8} (hl : a.length = b.length) (h4 : a.length ≤ 4) (h : sumX (p ++ a ++ q) = sumX (p ++ b ++ q)) : a = b := by
  rw [sumX_b, sumX_b] at h
  have h1 : (4294967295#32 ^^^ (p ++ a ++ q).foldl cb 4294967295#32) = (4294967295#32 ^^^ (p ++ b ++ q).foldl cb 4294967295#32) := BitVec.eq_of_toNat_eq (by omega)
  have h2 := congrArg (4294967295#32 ^^^ ·) h1
  simp only [← BitVec.xor_assoc, BitVec.xor_self, BitVec.zero_xor] at h2
  exact crc_window hl h4 h2
def rstep (r : Int) (b : UInt8) : Int := rndN 8 (bits .xor .u32 r (IntKind.u32.wrap b.toNat))
theorem rstep_eq (x : BitVec 32) (b : UInt8) : rstep (x.toNat : Int) b = byte1 (x.toNat : Int) b := by
  rw [byte1_b, rstep, b32_nat, xor32, rndN_b]; rfl
theorem sumR_succ2 (s : List UInt8) (i : Nat) (h : i < s.length) : sumR (s.take (i + 1)) = rstep (sumR (s.take i)) (s.getD i 0) := by
  rw [sumR_succ s i h, sumR_b (s.take i), rstep_eq]
theorem rsum_v (s : List UInt8) (hs : s.length ≤ 100000000) : VCalls prog 54 [.pv (.str s)] [] (Ret (.int .u32 (sumX s))) := by
  refine dd Tryz.func54 ?_
  simp (config := { maxSteps := 2000000 }) (implicitDefEqProofs := false) (disch := first | omega | assumption | (simp only []; done) | fail) only [go_sem, Tryz.f54]
  refine vloop (fun i : {i : Nat // i ≤ s.length} => ⟨32, 0, [(4, .int .i64 i.1), (3, .int .u32 (sumR (s.take i.1))), (0, .pv (.str s))], []⟩) (fun i => s.length - i.1) ⟨0, by omega⟩ (by refine ⟨rfl, rfl, by simp, ?_, ?_, .inl rfl⟩ <;> (repeat' apply And.intro) <;> first | rfl | trivial) ?_
  intro i
  obtain ⟨i, hi⟩ := i
  dsimp only
  simp (config := { maxSteps := 2000000 }) (implicitDefEqProofs := false) (disch := first | omega | assumption | (simp only []; done) | fail) only [go_sem, Nat.reduceBEq, Int.reduceBEq]
  refine vbr_split (fun hc => ?_) (fun hc => ?_) <;> simp only [decide_eq_true_eq, decide_eq_false_iff_not, Bool.or_eq_true, Bool.and_eq_true, Bool.or_eq_false_iff, Bool.and_eq_false_imp, Bool.not_eq_true', Bool.not_eq_false', beq_iff_eq, beq_eq_false_iff_ne, bne_iff_ne, bne_eq_false_iff_eq, ne_eq] at hc
  · have hlt : i < s.length := by omega
    have hg : s[i]? = some (s.getD i 0) := by rw [List.getD_eq_getElem?_getD, List.getElem?_eq_getElem hlt]; rfl
    simp (config := { maxSteps := 2000000 }) (implicitDefEqProofs := false) (disch := first | omega | assumption | (simp only []; done) | fail) only [go_sem, Nat.reduceBEq, Int.reduceBEq, hg]
    refine vloop (fun j : {j : Nat // j ≤ 8} => ⟨32, 0, [(5, .int .i64 j.1), (4, .int .i64 i), (3, .int .u32 (rndN j.1 (bits .xor .u32 (sumR (s.take i)) (IntKind.u32.wrap (s.getD i 0).toNat)))), (0, .pv (.str s))], []⟩) (fun j => 8 - j.1) ⟨0, by omega⟩ (by refine ⟨rfl, rfl, by simp, ?_, ?_, .inl rfl⟩ <;> (repeat' apply And.intro) <;> first | rfl | trivial) ?_
    intro j
    obtain ⟨j, hj⟩ := j
    dsimp only
    simp (config := { maxSteps := 2000000 }) (implicitDefEqProofs := false) (disch := first | omega | assumption | (simp only []; done) | fail) only [go_sem]
    refine vbr_split (fun hcj => ?_) (fun hcj => ?_) <;> simp only [decide_eq_true_eq, decide_eq_false_iff_not, Bool.or_eq_true, Bool.and_eq_true, Bool.or_eq_false_iff, Bool.and_eq_false_imp, Bool.not_eq_true', Bool.not_eq_false', beq_iff_eq, beq_eq_false_iff_ne, bne_iff_ne, bne_eq_false_iff_eq, ne_eq] at hcj
    · simp (config := { maxSteps := 2000000 }) (implicitDefEqProofs := false) (disch := first | omega | assumption | (simp only []; done) | fail) only [go_sem, Nat.reduceBEq, Int.reduceBEq]
      refine vbr_split (fun hb => ?_) (fun hb => ?_) <;> simp only [decide_eq_true_eq, decide_eq_false_iff_not, Bool.or_eq_true, Bool.and_eq_true, Bool.or_eq_false_iff, Bool.and_eq_false_imp, Bool.not_eq_true', Bool.not_eq_false', beq_iff_eq, beq_eq_false_iff_ne, bne_iff_ne, bne_eq_false_iff_eq, ne_eq] at hb
      · simp (config := { maxSteps := 2000000 }) (implicitDefEqProofs := false) (disch := first | omega | assumption | (simp only []; done) | fail) only [go_sem, Nat.reduceBEq, Int.reduceToNat, Int.reduceBEq]
        refine ⟨⟨j + 1, by omega⟩, by show 8 - (j + 1) < 8 - j; omega, ?_⟩
        have e : rndN (j + 1) (bits .xor .u32 (sumR (s.take i)) (IntKind.u32.wrap (s.getD i 0).toNat)) = bits .xor .u32 ((rndN j (bits .xor .u32 (sumR (s.take i)) (IntKind.u32.wrap (s.getD i 0).toNat))).fdiv 2) 2197175160 := by rw [rndN, rnd, if_pos hb]
        rw [e]
        exact (by refine ⟨rfl, rfl, by simp, ?_, ?_, .inl rfl⟩ <;> (repeat' apply And.intro) <;> first | rfl | trivial)
      · simp (config := { maxSteps := 2000000 }) (implicitDefEqProofs := false) (disch := first | omega | assumption | (simp only []; done) | fail) only [go_sem, Nat.reduceBEq, Int.reduceToNat, Int.reduceBEq]
        refine ⟨⟨j + 1, by omega⟩, by show 8 - (j + 1) < 8 - j; omega, ?_⟩
        have e : rndN (j + 1) (bits .xor .u32 (sumR (s.take i)) (IntKind.u32.wrap (s.getD i 0).toNat)) = (rndN j (bits .xor .u32 (sumR (s.take i)) (IntKind.u32.wrap (s.getD i 0).toNat))).fdiv 2 := by rw [rndN, rnd, if_neg hb]
        rw [e]
        exact (by refine ⟨rfl, rfl, by simp, ?_, ?_, .inl rfl⟩ <;> (repeat' apply And.intro) <;> first | rfl | trivial)
    · have hj8 : j = 8 := by omega
      subst hj8
      simp (config := { maxSteps := 2000000 }) (implicitDefEqProofs := false) (disch := first | omega | assumption | (simp only []; done) | fail) only [go_sem, ↓reduceIte, Nat.reduceBEq, Int.reduceBEq]
      refine ⟨⟨i + 1, hlt⟩, by show s.length - (i + 1) < s.length - i; omega, ?_⟩
      have e : sumR (s.take (i + 1)) = rndN 8 (bits .xor .u32 (sumR (s.take i)) (IntKind.u32.wrap (s.getD i 0).toNat)) := sumR_succ2 s i hlt
      rw [e]
      exact (by refine ⟨rfl, rfl, by simp, ?_, ?_, .inl rfl⟩ <;> (repeat' apply And.intro) <;> first | rfl | trivial)
  · simp (config := { maxSteps := 2000000 }) (implicitDefEqProofs := false) (disch := first | omega | assumption | (simp only []; done) | fail) only [go_sem, ↓reduceIte, Nat.reduceLT, Nat.reduceBEq, Int.reduceLT, Int.reduceBEq]
    rw [List.take_of_length_le (by omega)]
    rfl
def frm (s : List UInt8) : List UInt8 := if s.length ≤ 8392 then putL (putL [] s.length 4 ++ s) (sumX (putL [] s.length 4 ++ s)) 4 else []
theorem rframe_v (s : List UInt8) (hs : s.length ≤ 90000000) : VCalls prog 29 [.pv (.str s)] [] (Ret (.pv (.str (frm s)))) := by
  refine dd Tryz.func29 ?_
  by_cases h : s.length ≤ 8392
  · have h1 : ¬ 8392 < (s.length : Int) := by omega
    have hl := putL_len [] s.length 4
    simp only [List.length_nil, Nat.zero_add] at hl
    have hl2 : (putL [] s.length 4 ++ s).length ≤ 10000 := by rw [List.length_append, hl]; omega
    simp (config := { maxSteps := 2000000 }) (implicitDefEqProofs := false) (disch := first | omega | assumption | (simp only []; done) | fail) only [go_sem, Nat.reduceBEq, Int.reduceBEq, Tryz.f29, h1]
    refine vc_pure (rput_v [] (by simp) s.length 4 (by omega) (by omega)) rfl ?_
    simp (config := { maxSteps := 2000000 }) (implicitDefEqProofs := false) (disch := first | omega | assumption | (simp only []; done) | fail) only [go_sem, Nat.reduceBEq, Int.reduceBEq]
    refine vc_pure (rsum_v _ (by omega)) rfl ?_
    have hx := sumX_in (putL [] s.length 4 ++ s)
    simp (config := { maxSteps := 2000000 }) (implicitDefEqProofs := false) (disch := first | omega | assumption | (simp only []; done) | fail) only [go_sem, Nat.reduceLT, Nat.reduceBEq, Int.reduceLT, Int.reduceBEq]
    refine vc_pure (rput_v (putL [] s.length 4 ++ s) (by omega) _ 4 (by omega) (by omega)) rfl ?_
    simp (config := { maxSteps := 2000000 }) (implicitDefEqProofs := false) (disch := first | omega | assumption | (simp only []; done) | fail) only [go_sem, ↓reduceIte, frm, h]
  · have h1 : 8392 < (s.length : Int) := by omega
    simp (config := { maxSteps := 2000000 }) (implicitDefEqProofs := false) (disch := first | omega | assumption | (simp only []; done) | fail) only [go_sem, ↓reduceIte, Nat.reduceBEq, Int.reduceBEq, Tryz.f29, h1, frm, h]
def leN (s : List UInt8) (a : Nat) : Nat → Nat
  | 0 => 0
  | i + 1 => leN s a i + (s.getD (a + i) 0).toNat * 2 ^ (8 * i)
theorem leN_lt (s : List UInt8) (a : Nat) : ∀ i, leN s a i < 2 ^ (8 * i)
  | 0 => by simp [leN]
  | i + 1 => by
    have ih := leN_lt s a i
    have hb := (s.getD (a + i) 0).toNat_lt
    rw [leN, Nat.mul_add, Nat.pow_add]
    have : (s.getD (a + i) 0).toNat * 2 ^ (8 * i) ≤ 255 * 2 ^ (8 * i) := Nat.mul_le_mul_right _ (by omega)
    omega
theorem accX_leN (s : List UInt8) (a : Nat) : ∀ i, i ≤ 8 → accX s a i = (leN s a i : Int)
  | 0, _ => rfl
  | i + 1, hi => by
    have ih := accX_leN s a i (by omega)
    have hlt := leN_lt s a i
    have hb := (s.getD (a + i) 0).toNat_lt
    unfold accX
    rw [ih, min_bits i (by omega)]
    have hw : IntKind.u64.wrap ((s.getD (a + i) 0).toNat : Int) = ((s.getD (a + i) 0).toNat : Int) := by rw [wrap64]; unfold u64N; omega
    have hp : (2 : Nat) ^ (8 * i) ≤ 2 ^ 56 := Nat.pow_le_pow_right (by omega) (by omega)
    have hm : (s.getD (a + i) 0).toNat * 2 ^ (8 * i) ≤ 255 * 2 ^ 56 := Nat.mul_le_mul (by omega) hp
    have e2 : ((s.getD (a + i) 0).toNat : Int) * 2 ^ (8 * i) = (((s.getD (a + i) 0).toNat * 2 ^ (8 * i) : Nat) : Int) := by
      rw [Int.natCast_mul, Int.natCast_pow]; rfl
    rw [hw, e2]
    have hw2 : IntKind.u64.wrap (((s.getD (a + i) 0).toNat * 2 ^ (8 * i) : Nat) : Int) = (((s.getD (a + i) 0).toNat * 2 ^ (8 * i) : Nat) : Int) := by
      generalize (s.getD (a + i) 0).toNat * 2 ^ (8 * i) = z at hm
      rw [wrap64]; unfold u64N; omega
    have h64 : leN s a i < 2 ^ 64 := Nat.lt_of_lt_of_le hlt (Nat.pow_le_pow_right (by omega) (by omega))
    rw [hw2, or_val _ _ h64 (by omega), leN]
    congr 1
    rw [Nat.or_comm, Nat.mul_comm _ (2 ^ (8 * i)), ← Nat.two_pow_add_eq_or_of_lt hlt, Nat.add_comm]
def n4 (s : List UInt8) (a : Nat) : Nat := leN s a 4
theorem n4_lt (s : List UInt8) (a : Nat) : n4 s a < 4294967296 := leN_lt s a 4
theorem wrap_n4 (s : List UInt8) (a : Nat) : IntKind.i64.wrap (accX s a 4) = (n4 s a : Int) := by
  rw [accX_leN s a 4 (by omega)]
  have := n4_lt s a
  unfold n4 at this ⊢
  rw [IntKind.wrap_i64]; omega
theorem get4 (s : List UInt8) (hs : s.length ≤ 100000000) (a : Nat) (hh : a + 4 ≤ s.length) : VCalls prog 41 [.pv (.str s), .int .i64 a, .int .i64 4] [] (Ret (.tup [.int .i64 (n4 s a), .int .i64 0])) := by
  have h := get_v s (by omega) a 4 (by omega) hh
  rwa [wrap_n4] at h
theorem rget4 (s : List UInt8) (hs : s.length ≤ 100000000) (a : Nat) (hh : a + 4 ≤ s.length) : VCalls prog 217 [.pv (.str s), .int .i64 a, .int .i64 4] [] (Ret (.tup [.int .i64 (n4 s a), .int .i64 0])) := by
  have h := rget_v s (by omega) a 4 (by omega) hh
  rwa [wrap_n4] at h
def unf (s : List UInt8) (a : Int) : List UInt8 × Int × Int :=
  if a < 0 ∨ (s.length : Int) < a then ([], 0, 1)
  else if ¬ a.toNat + 4 ≤ s.length then ([], 0, 5)
  else if 8392 < n4 s a.toNat then ([], 0, 2)
  else if ¬ a.toNat + 4 + n4 s a.toNat + 4 ≤ s.length then ([], 0, 5)
  else if ¬ (n4 s (a.toNat + 4 + n4 s a.toNat) : Int) = sumX ((s.take (a.toNat + 4 + n4 s a.toNat)).drop a.toNat) then ([], 0, 3)
  else ((s.take (a.toNat + 4 + n4 s a.toNat)).drop (a.toNat + 4), (a.toNat + 4 + n4 s a.toNat + 4 : Nat), 0)
theorem unf_le (s : List UInt8) (a : Int) : (unf s a).1.length ≤ s.length ∧ ((unf s a).2.2 = 0 → 0 ≤ a ∧ 0 ≤ (unf s a).2.1 ∧ (unf s a).2.1 ≤ s.length) := by
  unfold unf
  split
  · exact ⟨Nat.zero_le _, fun h => by simp at h⟩
  rename_i h1
  split
  · exact ⟨Nat.zero_le _, fun h => by simp at h⟩
  split
  · exact ⟨Nat.zero_le _, fun h => by simp at h⟩
  split
  · exact ⟨Nat.zero_le _, fun h => by simp at h⟩
  rename_i h2
  split
  · exact ⟨Nat.zero_le _, fun h => by simp at h⟩
  · refine ⟨by dsimp only; rw [List.length_drop, List.length_take]; omega, fun _ => ⟨by omega, by dsimp only; omega, by dsimp only; omega⟩⟩
def unfR (s : List UInt8) (a : Int) : DV := .tup [.pv (.str (unf s a).1), .int .i64 (unf s a).2.1, .int .i64 (unf s a).2.2]
theorem unframe_v (s : List UInt8) (hs : s.length ≤ 100000000) (a : Int) : VCalls prog 22 [.pv (.str s), .int .i64 a] [] (Ret (unfR s a)) := by
  refine dd Tryz.func22 ?_
  unfold unfR unf
  by_cases h1 : a < 0
  · rw [if_pos (.inl h1)]
    (unfold Tryz.f22; refine rn @h1 ?_; try with_reducible exact ⟨⟩)
  · by_cases h2 : (s.length : Int) < a
    · rw [if_pos (.inr h2)]
      (unfold Tryz.f22; refine rn (And.intro @h1 @h2) ?_; try with_reducible exact ⟨⟩)
    · rw [if_neg (by omega)]
      obtain ⟨k, rfl⟩ : ∃ k : Nat, a = k := ⟨a.toNat, by omega⟩
      rw [Int.toNat_natCast]
      by_cases h3 : k + 4 ≤ s.length
      · rw [if_neg (by omega)]
        have hn := n4_lt s k
        (unfold Tryz.f22; refine rn (And.intro @h1 @h2) ?_)
        refine vc_pure (get4 s (by omega) k h3) rfl ?_
        by_cases h4 : 8392 < n4 s k
        · rw [if_pos h4]
          have h4' : 8392 < (n4 s k : Int) := by omega
          (refine rn @h4' ?_; try with_reducible exact ⟨⟩)
        · rw [if_neg h4]
          have h4' : ¬ 8392 < (n4 s k : Int) := by omega
          refine rn @h4' ?_
          by_cases h5 : k + 4 + n4 s k + 4 ≤ s.length
          · rw [if_neg (by omega)]
            have hg := get4 s (by omega) (k + 4 + n4 s k) h5
            have e : (((k + 4 + n4 s k : Nat)) : Int) = (k : Int) + 4 + (n4 s k : Int) := by omega
            rw [e] at hg
            refine vc_pure hg rfl ?_
            have ht : ((k : Int) + 4 + (n4 s k : Int)).toNat = k + 4 + n4 s k := by omega
            have q1 : (0 : Int) ≤ (k : Int) + 4 + (n4 s k : Int) := by omega
            have q2 : k ≤ k + 4 + n4 s k := by omega
            have q3 : k + 4 + n4 s k ≤ s.length := by omega
            have hx := sumX_in ((s.take (k + 4 + n4 s k)).drop k)
            refine rn (And.intro @ht (And.intro @q1 (And.intro @q2 @q3))) ?_
            refine vc_pure (sum_v _ (by rw [List.length_drop, List.length_take]; omega)) rfl ?_
            by_cases h6 : (n4 s (k + 4 + n4 s k) : Int) = sumX ((s.take (k + 4 + n4 s k)).drop k)
            · rw [if_neg (by omega)]
              have q4 : ((k : Int) + 4).toNat = k + 4 := by omega
              have q5 : k + 4 ≤ k + 4 + n4 s k := by omega
              have q6 : (0 : Int) ≤ (k : Int) + 4 := by omega
              have e8 : (((k + 4 + n4 s k + 4 : Nat)) : Int) = (k : Int) + 4 + (n4 s k : Int) + 4 := by omega
              refine rn (And.intro @h6 (And.intro @ht (And.intro @q1 (And.intro @q2 (And.intro @q3 (And.intro @q4 (And.intro @q5 @q6))))))) ?_
              rw [e8]
            · rw [if_pos h6]
              (refine rn @h6 ?_; try with_reducible exact ⟨⟩)
          · rw [if_pos (by omega)]
            have hg := get_short s ((k : Int) + 4 + (n4 s k : Int)) 4 (by omega) (by omega) (by omega)
            refine vc_pure hg rfl ?_
            (refine rn trivial ?_; try with_reducible exact ⟨⟩)
      · rw [if_pos h3]
        (unfold Tryz.f22; refine rn (And.intro @h1 @h2) ?_)
        refine vc_pure (get_short s k 4 (by omega) (by omega) (by omega)) rfl ?_
        (refine rn trivial ?_; try with_reducible exact ⟨⟩)
theorem runframe_v (s : List UInt8) (hs : s.length ≤ 100000000) (a : Int) : VCalls prog 216 [.pv (.str s), .int .i64 a] [] (Ret (unfR s a)) := by
  refine dd Tryz.func216 ?_
  unfold unfR unf
  by_cases h1 : a < 0
  · rw [if_pos (.inl h1)]
    (unfold Tryz.f216; refine rn @h1 ?_; try with_reducible exact ⟨⟩)
  · by_cases h2 : (s.length : Int) < a
    · rw [if_pos (.inr h2)]
      (unfold Tryz.f216; refine rn (And.intro @h1 @h2) ?_; try with_reducible exact ⟨⟩)
    · rw [if_neg (by omega)]
      obtain ⟨k, rfl⟩ : ∃ k : Nat, a = k := ⟨a.toNat, by omega⟩
      rw [Int.toNat_natCast]
      by_cases h3 : k + 4 ≤ s.length
      · rw [if_neg (by omega)]
        have hn := n4_lt s k
        (unfold Tryz.f216; refine rn (And.intro @h1 @h2) ?_)
        refine vc_pure (rget4 s (by omega) k h3) rfl ?_
        by_cases h4 : 8392 < n4 s k
        · rw [if_pos h4]
          have h4' : 8392 < (n4 s k : Int) := by omega
          (refine rn @h4' ?_; try with_reducible exact ⟨⟩)
        · rw [if_neg h4]
          have h4' : ¬ 8392 < (n4 s k : Int) := by omega
          have hw : IntKind.u32.wrap (n4 s (k + 4 + n4 s k) : Int) = (n4 s (k + 4 + n4 s k) : Int) := by
            have := n4_lt s (k + 4 + n4 s k)
            simp [IntKind.wrap, IntKind.signed, IntKind.bits]; omega
          by_cases h5 : k + 4 + n4 s k + 4 ≤ s.length
          · rw [if_neg (by omega)]
            have hg := rget4 s (by omega) (k + 4 + n4 s k) h5
            have e : (((k + 4 + n4 s k : Nat)) : Int) = (k : Int) + 4 + (n4 s k : Int) := by omega
            rw [e] at hg
            have h5' : ¬ (s.length : Int) - (k : Int) < (n4 s k : Int) + 8 := by omega
            refine rn (And.intro @h4' @h5') ?_
            refine vc_pure hg rfl ?_
            have ht : ((k : Int) + 4 + (n4 s k : Int)).toNat = k + 4 + n4 s k := by omega
            have q1 : (0 : Int) ≤ (k : Int) + 4 + (n4 s k : Int) := by omega
            have q2 : k ≤ k + 4 + n4 s k := by omega
            have q3 : k + 4 + n4 s k ≤ s.length := by omega
            have hx := sumX_in ((s.take (k + 4 + n4 s k)).drop k)
            refine rn (And.intro @ht (And.intro @q1 (And.intro @q2 (And.intro @q3 @hw)))) ?_
            refine vc_pure (rsum_v _ (by rw [List.length_drop, List.length_take]; omega)) rfl ?_
            by_cases h6 : (n4 s (k + 4 + n4 s k) : Int) = sumX ((s.take (k + 4 + n4 s k)).drop k)
            · rw [if_neg (by omega)]
              have q4 : ((k : Int) + 4).toNat = k + 4 := by omega
              have q5 : k + 4 ≤ k + 4 + n4 s k := by omega
              have q6 : (0 : Int) ≤ (k : Int) + 4 := by omega
              have e8 : (((k + 4 + n4 s k + 4 : Nat)) : Int) = (k : Int) + 8 + (n4 s k : Int) := by omega
              refine rn (And.intro @h6 (And.intro @ht (And.intro @q1 (And.intro @q2 (And.intro @q3 (And.intro @q4 (And.intro @q5 @q6))))))) ?_
              rw [e8]
            · rw [if_pos h6]
              (refine rn @h6 ?_; try with_reducible exact ⟨⟩)
          · rw [if_pos (by omega)]
            have h5' : (s.length : Int) - (k : Int) < (n4 s k : Int) + 8 := by omega
            (refine rn (And.intro @h4' @h5') ?_; try with_reducible exact ⟨⟩)
      · rw [if_pos h3]
        (unfold Tryz.f216; refine rn (And.intro @h1 @h2) ?_)
        refine vc_pure (rget_short s k 4 (by omega) (by omega) (by omega)) rfl ?_
        (refine rn trivial ?_; try with_reducible exact ⟨⟩)
section
structure Ce where
  set : Bool
  data : List UInt8
structure Ch where
  pg : Int
  sl : Int
  b : Ce
  a : Ce
structure E where
  lsn : Int
  kind : Int
  tx : Int
  ptx : Int
  ppg : Int
  ref : Int
  c : Ch
  blob : List UInt8
def Ce.d (x : Ce) : List DV := [.bool x.set, .pv (.str x.data)]
def Ch.d (x : Ch) : List DV := [.int .i64 x.pg, .int .i64 x.sl, .bool x.b.set, .pv (.str x.b.data), .bool x.a.set, .pv (.str x.a.data)]
def E.d (x : E) : List DV := [.int .i64 x.lsn, .int .i64 x.kind, .int .i64 x.tx, .int .i64 x.ptx, .int .i64 x.ppg, .int .i64 x.ref, .int .i64 x.c.pg, .int .i64 x.c.sl, .bool x.c.b.set, .pv (.str x.c.b.data), .bool x.c.a.set, .pv (.str x.c.a.data), .pv (.str x.blob)]
def Ce0 : Ce := ⟨false, []⟩
def Ch0 : Ch := ⟨0, 0, Ce0, Ce0⟩
def E0 : E := ⟨0, 0, 0, 0, 0, 0, Ch0, []⟩
def Ce.okB (x : Ce) : Bool := decide (x.data.length ≤ 12) && (x.set || x.data == [])
def Ch.okB (x : Ch) : Bool := decide (0 ≤ x.pg) && decide (x.pg < 64) && decide (0 ≤ x.sl) && decide (x.sl < 16) && x.b.okB && x.a.okB
def Ce.no (x : Ce) : Bool := !x.set && x.data == []
def Ch.no (x : Ch) : Bool := x.pg == 0 && x.sl == 0 && x.b.no && x.a.no
def bef (n l : Int) : Bool := decide (0 ≤ n) && decide (n < l)
attribute [local go_sem] Ce.d Ch.d E.d allEq leafEq
theorem cellok_v (x : Ce) : VCalls prog 91 [.agg x.d] [] (Ret (.bool x.okB)) := by
  refine dd Tryz.func91 ?_
  (unfold Tryz.f91; refine rn trivial ?_)
  refine rn F ?_
  repeat' (first
    | with_reducible exact ⟨⟩
    | (refine sG F ?_ ?_ <;> intro hZ))
  all_goals (first | rfl | (congr 3; rw [Bool.eq_iff_iff]; (try simp only [Ce.okB, decide_eq_true_eq, Bool.and_eq_true, Bool.or_eq_true, Bool.not_eq_true', Bool.not_eq_false', decide_eq_false_iff_not, beq_iff_eq, bne_iff_ne, ne_eq, Bool.false_eq_true, Bool.true_eq_false, iff_true, true_iff, iff_false, false_iff]); first | done | omega | grind))
theorem rcellok_v (x : Ce) : VCalls prog 89 [.agg x.d] [] (Ret (.bool x.okB)) := by
  refine dd Tryz.func89 ?_
  (unfold Tryz.f89; refine rn trivial ?_)
  refine rn F ?_
  repeat' (first
    | with_reducible exact ⟨⟩
    | (refine sG F ?_ ?_ <;> intro hZ))
  all_goals (first | rfl | (congr 3; rw [Bool.eq_iff_iff]; (try simp only [Ce.okB, decide_eq_true_eq, Bool.and_eq_true, Bool.or_eq_true, Bool.not_eq_true', Bool.not_eq_false', decide_eq_false_iff_not, beq_iff_eq, bne_iff_ne, ne_eq, Bool.false_eq_true, Bool.true_eq_false, iff_true, true_iff, iff_false, false_iff]); first | done | omega | grind))
theorem none_v (x : Ch) : VCalls prog 80 [.agg x.d] [] (Ret (.bool x.no)) := by
  refine dd Tryz.func80 ?_
  (unfold Tryz.f80; refine rn trivial ?_)
  simp only [Ch.no, Ce.no, Bool.and_assoc]
theorem before_v (n : Int) (x : E) : VCalls prog 70 [.int .i64 n, .agg x.d] [] (Ret (.bool (bef n x.lsn))) := by
  refine dd Tryz.func70 ?_
  (unfold Tryz.f70; refine rn trivial ?_)
  refine rn F ?_
  repeat' (first
    | with_reducible exact ⟨⟩
    | (refine sG F ?_ ?_ <;> intro hZ))
  all_goals (first | rfl | (congr 3; rw [Bool.eq_iff_iff]; (try simp only [bef, decide_eq_true_eq, Bool.and_eq_true, Bool.or_eq_true, Bool.not_eq_true', Bool.not_eq_false', decide_eq_false_iff_not, beq_iff_eq, bne_iff_ne, ne_eq, Bool.false_eq_true, Bool.true_eq_false, iff_true, true_iff, iff_false, false_iff]); first | done | omega | grind))
theorem rbefore_v (n l : Int) : VCalls prog 69 [.int .i64 n, .int .i64 l] [] (Ret (.bool (bef n l))) := by
  refine dd Tryz.func69 ?_
  (unfold Tryz.f69; refine rn trivial ?_)
  refine rn F ?_
  repeat' (first
    | with_reducible exact ⟨⟩
    | (refine sG F ?_ ?_ <;> intro hZ))
  all_goals (first | rfl | (congr 3; rw [Bool.eq_iff_iff]; (try simp only [bef, decide_eq_true_eq, Bool.and_eq_true, Bool.or_eq_true, Bool.not_eq_true', Bool.not_eq_false', decide_eq_false_iff_not, beq_iff_eq, bne_iff_ne, ne_eq, Bool.false_eq_true, Bool.true_eq_false, iff_true, true_iff, iff_false, false_iff]); first | done | omega | grind))
theorem paged_v (n : Int) : VCalls prog 90 [.int .i64 n] [] (Ret (.bool (decide (0 ≤ n) && decide (n < 64)))) := by
  refine dd Tryz.func90 ?_
  (unfold Tryz.f90; refine rn trivial ?_)
  refine rn F ?_
  repeat' (first
    | with_reducible exact ⟨⟩
    | (refine sG F ?_ ?_ <;> intro hZ))
  all_goals (first | rfl | (congr 3; rw [Bool.eq_iff_iff]; (try simp only [decide_eq_true_eq, Bool.and_eq_true, Bool.or_eq_true, Bool.not_eq_true', Bool.not_eq_false', decide_eq_false_iff_not, beq_iff_eq, bne_iff_ne, ne_eq, Bool.false_eq_true, Bool.true_eq_false, iff_true, true_iff, iff_false, false_iff]); first | done | omega | grind))
theorem anyref_v (x : E) : VCalls prog 79 [.agg x.d] [] (Ret (.bool true)) := by
  refine dd Tryz.func79 ?_
  (unfold Tryz.f79; refine rn trivial ?_; try with_reducible exact ⟨⟩)
theorem undoref_v (x : E) : VCalls prog 82 [.agg x.d] [] (Ret (.bool (decide (1 ≤ x.ref) && decide (x.ref ≤ x.ptx)))) := by
  refine dd Tryz.func82 ?_
  (unfold Tryz.f82; refine rn trivial ?_)
  refine rn F ?_
  repeat' (first
    | with_reducible exact ⟨⟩
    | (refine sG F ?_ ?_ <;> intro hZ))
  all_goals (first | rfl | (congr 3; rw [Bool.eq_iff_iff]; (try simp only [decide_eq_true_eq, Bool.and_eq_true, Bool.or_eq_true, Bool.not_eq_true', Bool.not_eq_false', decide_eq_false_iff_not, beq_iff_eq, bne_iff_ne, ne_eq, Bool.false_eq_true, Bool.true_eq_false, iff_true, true_iff, iff_false, false_iff]); first | done | omega | grind))
def Ch.ix (x : Ch) : Bool := x.sl == 0 && x.b.no && x.a.no && decide (0 ≤ x.pg) && decide (x.pg < 64)
theorem index_v (x : Ch) : VCalls prog 83 [.agg x.d] [] (Ret (.bool x.ix)) := by
  refine dd Tryz.func83 ?_
  (unfold Tryz.f83; refine rn trivial ?_)
  refine rn F ?_
  repeat' (first
    | with_reducible exact ⟨⟩
    | (refine sG F ?_ ?_ <;> intro hZ))
  all_goals (first | rfl | (congr 3; rw [Bool.eq_iff_iff]; (try simp only [Ch.ix, Ce.no, decide_eq_true_eq, Bool.and_eq_true, Bool.or_eq_true, Bool.not_eq_true', Bool.not_eq_false', decide_eq_false_iff_not, beq_iff_eq, bne_iff_ne, ne_eq, Bool.false_eq_true, Bool.true_eq_false, iff_true, true_iff, iff_false, false_iff]); first | done | omega | grind))
theorem changes_v (x : E) : VCalls prog 52 [.agg x.d] [] (Ret (.bool (x.kind == 1 || x.kind == 2))) := by
  refine dd Tryz.func52 ?_
  (unfold Tryz.f52; refine rn trivial ?_)
  refine rn F ?_
  repeat' (first
    | with_reducible exact ⟨⟩
    | (refine sG F ?_ ?_ <;> intro hZ))
  all_goals (first | rfl | (congr 3; rw [Bool.eq_iff_iff]; (try simp only [decide_eq_true_eq, Bool.and_eq_true, Bool.or_eq_true, Bool.not_eq_true', Bool.not_eq_false', decide_eq_false_iff_not, beq_iff_eq, bne_iff_ne, ne_eq, Bool.false_eq_true, Bool.true_eq_false, iff_true, true_iff, iff_false, false_iff]); first | done | omega | grind))
theorem rchanges_v (x : E) : VCalls prog 45 [.agg x.d] [] (Ret (.bool (x.kind == 1 || x.kind == 2))) := by
  refine dd Tryz.func45 ?_
  (unfold Tryz.f45; refine rn trivial ?_)
  refine rn F ?_
  repeat' (first
    | with_reducible exact ⟨⟩
    | (refine sG F ?_ ?_ <;> intro hZ))
  all_goals (first | rfl | (congr 3; rw [Bool.eq_iff_iff]; (try simp only [decide_eq_true_eq, Bool.and_eq_true, Bool.or_eq_true, Bool.not_eq_true', Bool.not_eq_false', decide_eq_false_iff_not, beq_iff_eq, bne_iff_ne, ne_eq, Bool.false_eq_true, Bool.true_eq_false, iff_true, true_iff, iff_false, false_iff]); first | done | omega | grind))
theorem chok_v (x : Ch) : VCalls prog 81 [.agg x.d] [] (Ret (.bool x.okB)) := by
  refine dd Tryz.func81 ?_
  (unfold Tryz.f81; refine rn trivial ?_)
  refine rn F ?_
  repeat' (first
    | with_reducible exact ⟨⟩
    | (refine sG F ?_ ?_ <;> intro hZ)
    | refine vp F (paged_v x.pg) ?_
    | refine vp F (cellok_v x.b) ?_
    | refine vp F (cellok_v x.a) ?_)
  all_goals (first | rfl | (congr 3; rw [Bool.eq_iff_iff]; (try simp only [Ch.okB, decide_eq_true_eq, Bool.and_eq_true, Bool.or_eq_true, Bool.not_eq_true', Bool.not_eq_false', decide_eq_false_iff_not, beq_iff_eq, bne_iff_ne, ne_eq, Bool.false_eq_true, Bool.true_eq_false, iff_true, true_iff, iff_false, false_iff]); first | done | omega | grind))
theorem rchok_v (x : Ch) : VCalls prog 78 [.agg x.d] [] (Ret (.bool x.okB)) := by
  refine dd Tryz.func78 ?_
  (unfold Tryz.f78; refine rn trivial ?_)
  refine rn F ?_
  repeat' (first
    | with_reducible exact ⟨⟩
    | (refine sG F ?_ ?_ <;> intro hZ)
    | refine vp F (rcellok_v x.b) ?_
    | refine vp F (rcellok_v x.a) ?_)
  all_goals (first | rfl | (congr 3; rw [Bool.eq_iff_iff]; (try simp only [Ch.okB, decide_eq_true_eq, Bool.and_eq_true, Bool.or_eq_true, Bool.not_eq_true', Bool.not_eq_false', decide_eq_false_iff_not, beq_iff_eq, bne_iff_ne, ne_eq, Bool.false_eq_true, Bool.true_eq_false, iff_true, true_iff, iff_false, false_iff]); first | done | omega | grind))
def rl (tx ch pg rf bl : Bool) (f g : Nat) : List DV := [.bool tx, .bool ch, .bool pg, .bool rf, .bool bl, .fn (.func f) [] [], .fn (.func g) [] []]
def rl0 : List DV := [.bool false, .bool false, .bool false, .bool false, .bool false, .pv (.lit .nilFunc), .pv (.lit .nilFunc)]
def rlEnd : List DV := rl true true false false false 79 80
def rlNote : List DV := rl false false false false true 79 80
def rlAll : List DV := rl0 ++ rl true false true false false 79 81 ++ rl true true true true false 82 81 ++ rlEnd ++ rlEnd ++ rlEnd ++ rlNote ++ rl false false false true false 79 83 ++ rlNote
theorem rules_v : VCalls prog 71 [] [] (Ret (.agg rlAll)) := by
  refine dd Tryz.func71 ?_
  (unfold Tryz.f71; refine rn trivial ?_)
  rfl
end
section
attribute [local go_sem] rlAll rl0 rl rlEnd rlNote
def txB (n : Int) : Bool := decide (1 ≤ n) && decide (n ≤ 1073741824)
def E.kindB (e : E) : Bool :=
  if e.kind = 1 then txB e.tx && e.ref == 0 && e.blob == [] && e.c.okB
  else if e.kind = 2 then txB e.tx && e.ptx != 0 && e.blob == [] && decide (1 ≤ e.ref) && decide (e.ref ≤ e.ptx) && e.c.okB
  else if e.kind = 3 ∨ e.kind = 4 ∨ e.kind = 5 then txB e.tx && e.ptx != 0 && e.ppg == 0 && e.ref == 0 && e.blob == [] && e.c.no
  else if e.kind = 6 ∨ e.kind = 8 then e.tx == 0 && e.ptx == 0 && e.ppg == 0 && e.ref == 0 && decide (e.blob.length ≤ 8192) && e.c.no
  else if e.kind = 7 then e.tx == 0 && e.ptx == 0 && e.ppg == 0 && e.blob == [] && e.c.ix
  else false
def E.okB (e : E) : Bool := decide (1 ≤ e.lsn) && decide (e.lsn ≤ 1099511627776) && bef e.ptx e.lsn && bef e.ppg e.lsn && bef e.ref e.lsn && e.kindB
theorem kindB_eq (lsn kind tx ptx ppg ref : Int) (c : Ch) (blob : List UInt8) : (⟨lsn, kind, tx, ptx, ppg, ref, c, blob⟩ : E).kindB =
  if kind = 1 then txB tx && ref == 0 && blob == [] && c.okB
  else if kind = 2 then txB tx && ptx != 0 && blob == [] && decide (1 ≤ ref) && decide (ref ≤ ptx) && c.okB
  else if kind = 3 ∨ kind = 4 ∨ kind = 5 then txB tx && ptx != 0 && ppg == 0 && ref == 0 && blob == [] && c.no
  else if kind = 6 ∨ kind = 8 then tx == 0 && ptx == 0 && ppg == 0 && ref == 0 && decide (blob.length ≤ 8192) && c.no
  else if kind = 7 then tx == 0 && ptx == 0 && ppg == 0 && blob == [] && c.ix
  else false := rfl
theorem kindB_no {e : E} (h : e.kind < 1 ∨ 8 < e.kind) : e.kindB = false := by
  unfold E.kindB; rw [if_neg (by omega), if_neg (by omega), if_neg (by omega), if_neg (by omega), if_neg (by omega)]
theorem kind_cases (k : Int) : (k < 1 ∨ 8 < k) ∨ k = 1 ∨ k = 2 ∨ k = 3 ∨ k = 4 ∨ k = 5 ∨ k = 6 ∨ k = 7 ∨ k = 8 := by omega
theorem valid_v (e : E) : VCalls prog 51 [.agg e.d] [] (Ret (.bool e.okB)) := by
  refine dd Tryz.func51 ?_
  obtain ⟨lsn, kind, tx, ptx, ppg, ref, c, blob⟩ := e
  have r1 := before_v ptx ⟨lsn, kind, tx, ptx, ppg, ref, c, blob⟩
  have r2 := before_v ppg ⟨lsn, kind, tx, ptx, ppg, ref, c, blob⟩
  have r3 := before_v ref ⟨lsn, kind, tx, ptx, ppg, ref, c, blob⟩
  have r4 := anyref_v ⟨lsn, kind, tx, ptx, ppg, ref, c, blob⟩
  have r5 := undoref_v ⟨lsn, kind, tx, ptx, ppg, ref, c, blob⟩
  have q1 := none_v c
  have q2 := chok_v c
  have q3 := index_v c
  have e1 : (⟨lsn, kind, tx, ptx, ppg, ref, c, blob⟩ : E).okB = (decide (1 ≤ lsn) && decide (lsn ≤ 1099511627776) && bef ptx lsn && bef ppg lsn && bef ref lsn && (⟨lsn, kind, tx, ptx, ppg, ref, c, blob⟩ : E).kindB) := rfl
  dsimp only [E.d] at *
  generalize bef ptx lsn = B1 at *
  generalize bef ppg lsn = B2 at *
  generalize bef ref lsn = B3 at *
  have e2 := kindB_eq lsn kind tx ptx ppg ref c blob
  dsimp only [Ch.d] at q1 q2 q3
  generalize c.no = N at *
  generalize c.okB = K at *
  generalize c.ix = X at *
  have e3 := @kindB_no ⟨lsn, kind, tx, ptx, ppg, ref, c, blob⟩
  dsimp only at e3
  generalize (⟨lsn, kind, tx, ptx, ppg, ref, c, blob⟩ : E).kindB = Q at *
  generalize (⟨lsn, kind, tx, ptx, ppg, ref, c, blob⟩ : E).okB = R at *
  (unfold Tryz.f51; refine rn trivial ?_)
  refine rn F ?_
  repeat' (first
    | with_reducible exact ⟨⟩
    | (refine sG F ?_ ?_ <;> intro hZ)
    | (refine sB F ?_ ?_ <;> intro hZ)
    | refine vp F (r1) ?_
    | refine vp F (r2) ?_
    | refine vp F (r3) ?_
    | (refine vspine (id := 3) [1, 2] [⟨[4], [], 0, [1, 2], [3]⟩, ⟨[4], [4], 5, [], []⟩] (by kernel_rfl) (by kernel_rfl) ?_; refine rn F ?_))
  all_goals first
    | (congr 3; rw [Bool.eq_iff_iff, e1]; simp only [Bool.and_eq_true, decide_eq_true_eq, Bool.false_eq_true, false_iff]; first | omega | (intro h; simp_all; done) | (intro h; rw [e3 (by omega)] at h; simp at h; done))
    | skip
  all_goals
    have hT : R = Q := by rw [e1]; simp_all
    rcases kind_cases kind with hk | rfl | rfl | rfl | rfl | rfl | rfl | rfl | rfl
    · omega
  all_goals
    refine rn F ?_
    repeat' (first
      | with_reducible exact ⟨⟩
      | (refine sG F ?_ ?_ <;> intro hZ)
      | (refine sB F ?_ ?_ <;> intro hZ)
      | refine vp F (rules_v) ?_
      | refine vp F (r4) ?_
      | refine vp F (r5) ?_
      | refine vp F (q1) ?_
      | refine vp F (q2) ?_
      | refine vp F (q3) ?_)
  all_goals (try (congr 3; rw [hT, Bool.eq_iff_iff, e2]; clear hT e1 e2 e3 r1 r2 r3 r4 r5 q1 q2 q3; simp [txB]; first | omega | grind))
  all_goals skip
end
section
structure RS (s : List UInt8) where
  at_ : Int
  e : Int
  h : 0 ≤ at_ ∧ at_ ≤ s.length
def numV (s : List UInt8) (a k : Nat) : Int := IntKind.i64.wrap (accX s a k)
def numR (s : List UInt8) (r : RS s) (k : Nat) : Int × RS s :=
  if r.e = 0 then if h : r.at_ + k ≤ s.length then (numV s r.at_.toNat k, ⟨r.at_ + k, 0, by have := r.h; omega⟩) else (0, ⟨r.at_, 5, r.h⟩) else (0, r)
def textR (s : List UInt8) (r : RS s) (n : Int) : List UInt8 × RS s :=
  if r.e = 0 then if h : 0 ≤ n ∧ r.at_ + n ≤ s.length then ((s.take (r.at_ + n).toNat).drop r.at_.toNat, ⟨r.at_ + n, 0, by have := r.h; omega⟩) else ([], ⟨r.at_, 5, r.h⟩) else ([], r)
def cellK (s : List UInt8) (p : Int × RS s) : Ce × RS s :=
  if p.2.e = 0 ∧ ¬ p.1 = 255 then
    if 12 < p.1 then (Ce0, ⟨p.2.at_, 4, p.2.h⟩) else (⟨true, (textR s p.2 p.1).1⟩, (textR s p.2 p.1).2)
  else (Ce0, p.2)
def cellR (s : List UInt8) (r : RS s) : Ce × RS s := cellK s (numR s r 1)
theorem numV_in (s : List UInt8) (a k : Nat) (h : k ≤ 7) : 0 ≤ numV s a k ∧ numV s a k < 2 ^ (8 * k) := by
  have h1 := accX_leN s a k (by omega)
  have h2 := leN_lt s a k
  have h3 : (2 : Nat) ^ (8 * k) ≤ 2 ^ 56 := Nat.pow_le_pow_right (by omega) (by omega)
  have h4 : ((2 : Int) ^ (8 * k)) = ((2 ^ (8 * k) : Nat) : Int) := by rw [Int.natCast_pow]; rfl
  unfold numV
  rw [h1, IntKind.wrap_i64, h4]
  omega
theorem numR_in (s : List UInt8) (r : RS s) (k : Nat) (h : k ≤ 7) : 0 ≤ (numR s r k).1 := by
  unfold numR
  split
  · split
    · exact (numV_in s _ k h).1
    · exact Int.le_refl _
  · exact Int.le_refl _
abbrev RC (B : Blk) (d : DV) : DV → Heap → Prop := fun r h' => ∃ B', h' = [B'] ∧ B'.live = true ∧ DV.nums.go (fun _ => false) B'.cells = true ∧ r.nums (fun _ => false) = true ∧ (r = d ∧ B' = B)
def rdB (T : TypeId) (s : List UInt8) (r : RS s) : Blk := ⟨T, true, [.pv (.str s), .int .i64 r.at_, .int .i64 r.e]⟩
attribute [go_sem] rdB
attribute [local go_sem] Ce.d
theorem vc_rd {g : FuncId} {args : List DV} {hp : Heap} {k : Nat} {T : TypeId} {s : List UInt8} {r0 r1 : RS s} {d : DV} {K : DV → Heap → Prop} (h : VCalls prog g (args.map (DV.ren fun _ => 0)) [rdB T s r0] (RC (rdB T s r1) d)) (hk : hp[k]? = some (rdB T s r0))
    (ha : DV.nums.go (fun i => i == k) args = true) (hK : K d (hp.set k (rdB T s r1))) : VCalls prog g args hp K :=
  (VCalls.ptr1 (R := fun r B' => r = d ∧ B' = rdB T s r1) hk rfl rfl h ha).mono fun r h' ⟨B', e1, _, _, e2, e3⟩ => by subst e1 e2 e3; exact hK
theorem jnum_v (s : List UInt8) (hs : s.length ≤ 100000000) (r : RS s) (k : Nat) (hk : 1 ≤ k ∧ k ≤ 8) : VCalls prog 48 [.ptr 0 0, .int .i64 k] [rdB 117 s r] (RC (rdB 117 s (numR s r k).2) (.int .i64 (numR s r k).1)) := by
  refine dd Tryz.func48 ?_
  obtain ⟨a, e, ha⟩ := r
  obtain ⟨n, rfl⟩ : ∃ n : Nat, a = n := ⟨a.toNat, by omega⟩
  unfold numR
  dsimp only
  by_cases he : e = 0
  · subst he
    rw [if_pos rfl]
    by_cases h : (n : Int) + k ≤ s.length
    · rw [dif_pos h]
      have hg := get_v s (by omega) n k hk (by omega)
      (unfold Tryz.f48; refine rn trivial ?_)
      refine vspine (id := 3) [0, 1, 2, 3, 4, 5, 6, 7, 8] [⟨[], [], 9, [0, 1, 2, 4, 5, 6], [10, 11, 12]⟩, ⟨[], [], 13, [12], []⟩, ⟨[], [], 14, [], []⟩] (by kernel_rfl) (by kernel_rfl) ?_
      refine rn trivial ?_
      refine vc_pure hg rfl ?_
      refine rn trivial ?_
      exact ⟨_, rfl, rfl, rfl, rfl, rfl, rfl⟩
    · rw [dif_neg h]
      have hg := get_short s n k (by omega) (by omega) h
      (unfold Tryz.f48; refine rn trivial ?_)
      refine vspine (id := 3) [0, 1, 2, 3, 4, 5, 6, 7, 8] [⟨[], [], 9, [0, 1, 2, 4, 5, 6], [10, 11, 12]⟩, ⟨[], [], 13, [12], []⟩, ⟨[], [], 14, [], []⟩] (by kernel_rfl) (by kernel_rfl) ?_
      refine rn trivial ?_
      refine vc_pure hg rfl ?_
      refine rn trivial ?_
      exact ⟨_, rfl, rfl, rfl, rfl, rfl, rfl⟩
  · rw [if_neg he]
    (unfold Tryz.f48; refine rn @he ?_)
    exact ⟨_, rfl, rfl, rfl, rfl, rfl, rfl⟩
theorem jtext_v (s : List UInt8) (hs : s.length ≤ 100000000) (r : RS s) (n : Int) (hn : 0 ≤ n ∧ n ≤ 4294967296) : VCalls prog 50 [.ptr 0 0, .int .i64 n] [rdB 117 s r] (RC (rdB 117 s (textR s r n).2) (.pv (.str (textR s r n).1))) := by
  refine dd Tryz.func50 ?_
  obtain ⟨a, e, ha⟩ := r
  obtain ⟨n, rfl⟩ : ∃ m : Nat, n = m := ⟨n.toNat, by omega⟩
  obtain ⟨a, rfl⟩ : ∃ m : Nat, a = m := ⟨a.toNat, by omega⟩
  unfold textR
  dsimp only
  by_cases he : e = 0
  · subst he
    rw [if_pos rfl]
    by_cases h : 0 ≤ (n : Int) ∧ (a : Int) + n ≤ s.length
    · rw [dif_pos h]
      have q1 : ¬ (s.length : Int) - a < n := by omega
      have q2 : ¬ (s.length : Int) - a < n := by omega
      have q3 : ¬ (s.length : Int) - (a : Int) < (n : Int) := by omega
      have q4 : ((a : Int) + n).toNat = a + n := by omega
      have q5 : (a : Int) + n - n = a := by omega
      have q6 : a ≤ a + n := by omega
      have q7 : a + n ≤ s.length := by omega
      have q8 : 0 ≤ (a : Int) + n := by omega
      have q9 : (a : Int).toNat = a := by omega
      have q10 : ¬ (n : Int) > (s.length : Int) - a := by omega
      (unfold Tryz.f50; refine rn @q3 ?_)
      refine vdraw (by kernel_rfl) (by kernel_rfl) ?_
      refine rn (And.intro @q3 @q10) ?_
      refine vdraw (by kernel_rfl) (by kernel_rfl) ?_
      refine rn (And.intro @q4 (And.intro @q5 (And.intro @q6 (And.intro @q7 @q8)))) ?_
      exact ⟨_, rfl, rfl, rfl, rfl, rfl, rfl⟩
    · rw [dif_neg h]
      have q3 : (s.length : Int) - (a : Int) < (n : Int) := by omega
      (unfold Tryz.f50; refine rn @q3 ?_)
      refine vdraw (by kernel_rfl) (by kernel_rfl) ?_
      refine rn @q3 ?_
      exact ⟨_, rfl, rfl, rfl, rfl, rfl, rfl⟩
  · rw [if_neg he]
    (unfold Tryz.f50; refine rn @he ?_)
    refine vdraw (by kernel_rfl) (by kernel_rfl) ?_
    refine rn @he ?_
    exact ⟨_, rfl, rfl, rfl, rfl, rfl, rfl⟩
theorem jcellr_v (s : List UInt8) (hs : s.length ≤ 100000000) (r : RS s) : VCalls prog 49 [.ptr 0 0] [rdB 117 s r] (RC (rdB 117 s (cellR s r).2) (.agg (cellR s r).1.d)) := by
  refine dd Tryz.func49 ?_
  have hn := jnum_v s hs r 1 (by omega)
  have h0 := numR_in s r 1 (by omega)
  have h1 : (numR s r 1).1 ≤ 255 := by
    unfold numR
    split
    · split
      · have := (numV_in s r.at_.toNat 1 (by omega)).2; dsimp only; omega
      · simp
    · simp
  unfold cellR
  generalize numR s r 1 = p at hn h0 h1 ⊢
  obtain ⟨n, r1⟩ := p
  unfold cellK
  dsimp only at hn h0 h1 ⊢
  (unfold Tryz.f49; refine rn trivial ?_)
  refine vc_rd (k := 0) hn rfl rfl ?_
  by_cases he : r1.e = 0
  · by_cases h2 : n = 255
    · subst h2
      rw [if_neg (by simp)]
      refine rn @he ?_
      exact ⟨_, rfl, rfl, rfl, rfl, rfl, by rw [← he]⟩
    · rw [if_pos ⟨he, h2⟩]
      by_cases h3 : 12 < n
      · rw [if_pos h3]
        refine rn (And.intro @he (And.intro @h2 @h3)) ?_
        exact ⟨_, rfl, rfl, rfl, rfl, rfl, rfl⟩
      · rw [if_neg h3]
        have ht := jtext_v s hs r1 n (by omega)
        refine rn (And.intro @he (And.intro @h2 @h3)) ?_
        have e9 : (⟨117, true, [.pv (.str s), .int .i64 r1.at_, .int .i64 0]⟩ : Blk) = rdB 117 s r1 := by rw [rdB, he]
        rw [e9]
        refine vc_rd (k := 0) ht rfl rfl ?_
        refine rn trivial ?_
        exact ⟨_, rfl, rfl, rfl, rfl, rfl, rfl⟩
  · rw [if_neg (fun h => he h.1)]
    refine rn @he ?_
    exact ⟨_, rfl, rfl, rfl, rfl, rfl, rfl⟩
theorem jrnum_v (s : List UInt8) (hs : s.length ≤ 100000000) (r : RS s) (k : Nat) (hk : 1 ≤ k ∧ k ≤ 8) : VCalls prog 246 [.ptr 0 0, .int .i64 k] [rdB 346 s r] (RC (rdB 346 s (numR s r k).2) (.int .i64 (numR s r k).1)) := by
  refine dd Tryz.func246 ?_
  obtain ⟨a, e, ha⟩ := r
  obtain ⟨n, rfl⟩ : ∃ n : Nat, a = n := ⟨a.toNat, by omega⟩
  unfold numR
  dsimp only
  by_cases he : e = 0
  · subst he
    rw [if_pos rfl]
    by_cases h : (n : Int) + k ≤ s.length
    · rw [dif_pos h]
      have hg := rget_v s (by omega) n k hk (by omega)
      (unfold Tryz.f246; refine rn trivial ?_)
      refine vspine (id := 3) [0, 1, 2, 3, 4, 5, 6, 7, 8] [⟨[], [], 9, [0, 1, 2, 4, 5, 6], [10, 11, 12]⟩, ⟨[], [], 13, [12], []⟩, ⟨[], [], 14, [], []⟩] (by kernel_rfl) (by kernel_rfl) ?_
      refine rn trivial ?_
      refine vc_pure hg rfl ?_
      refine rn trivial ?_
      exact ⟨_, rfl, rfl, rfl, rfl, rfl, rfl⟩
    · rw [dif_neg h]
      have hg := rget_short s n k (by omega) (by omega) h
      (unfold Tryz.f246; refine rn trivial ?_)
      refine vspine (id := 3) [0, 1, 2, 3, 4, 5, 6, 7, 8] [⟨[], [], 9, [0, 1, 2, 4, 5, 6], [10, 11, 12]⟩, ⟨[], [], 13, [12], []⟩, ⟨[], [], 14, [], []⟩] (by kernel_rfl) (by kernel_rfl) ?_
      refine rn trivial ?_
      refine vc_pure hg rfl ?_
      refine rn trivial ?_
      exact ⟨_, rfl, rfl, rfl, rfl, rfl, rfl⟩
  · rw [if_neg he]
    (unfold Tryz.f246; refine rn @he ?_)
    exact ⟨_, rfl, rfl, rfl, rfl, rfl, rfl⟩
theorem jrtext_v (s : List UInt8) (hs : s.length ≤ 100000000) (r : RS s) (n : Int) (hn : 0 ≤ n ∧ n ≤ 4294967296) : VCalls prog 248 [.ptr 0 0, .int .i64 n] [rdB 346 s r] (RC (rdB 346 s (textR s r n).2) (.pv (.str (textR s r n).1))) := by
  refine dd Tryz.func248 ?_
  obtain ⟨a, e, ha⟩ := r
  obtain ⟨n, rfl⟩ : ∃ m : Nat, n = m := ⟨n.toNat, by omega⟩
  obtain ⟨a, rfl⟩ : ∃ m : Nat, a = m := ⟨a.toNat, by omega⟩
  unfold textR
  dsimp only
  by_cases he : e = 0
  · subst he
    rw [if_pos rfl]
    by_cases h : 0 ≤ (n : Int) ∧ (a : Int) + n ≤ s.length
    · rw [dif_pos h]
      have q1 : ¬ (s.length : Int) - a < n := by omega
      have q2 : ¬ (s.length : Int) - a < n := by omega
      have q3 : ¬ (s.length : Int) - (a : Int) < (n : Int) := by omega
      have q4 : ((a : Int) + n).toNat = a + n := by omega
      have q5 : (a : Int) + n - n = a := by omega
      have q6 : a ≤ a + n := by omega
      have q7 : a + n ≤ s.length := by omega
      have q8 : 0 ≤ (a : Int) + n := by omega
      have q9 : (a : Int).toNat = a := by omega
      have q10 : ¬ (n : Int) > (s.length : Int) - a := by omega
      (unfold Tryz.f248; refine rn @q3 ?_)
      refine vdraw (by kernel_rfl) (by kernel_rfl) ?_
      refine rn (And.intro @q3 @q10) ?_
      refine vdraw (by kernel_rfl) (by kernel_rfl) ?_
      refine rn (And.intro @q4 (And.intro @q5 (And.intro @q6 (And.intro @q7 @q8)))) ?_
      exact ⟨_, rfl, rfl, rfl, rfl, rfl, rfl⟩
    · rw [dif_neg h]
      have q3 : (s.length : Int) - (a : Int) < (n : Int) := by omega
      (unfold Tryz.f248; refine rn @q3 ?_)
      refine vdraw (by kernel_rfl) (by kernel_rfl) ?_
      refine rn @q3 ?_
      exact ⟨_, rfl, rfl, rfl, rfl, rfl, rfl⟩
  · rw [if_neg he]
    (unfold Tryz.f248; refine rn @he ?_)
    exact ⟨_, rfl, rfl, rfl, rfl, rfl, rfl⟩
theorem jrcellr_v (s : List UInt8) (hs : s.length ≤ 100000000) (r : RS s) : VCalls prog 247 [.ptr 0 0] [rdB 346 s r] (RC (rdB 346 s (cellR s r).2) (.agg (cellR s r).1.d)) := by
  refine dd Tryz.func247 ?_
  have hn := jrnum_v s hs r 1 (by omega)
  have h0 := numR_in s r 1 (by omega)
  have h1 : (numR s r 1).1 ≤ 255 := by
    unfold numR
    split
    · split
      · have := (numV_in s r.at_.toNat 1 (by omega)).2; dsimp only; omega
      · simp
    · simp
  unfold cellR
  generalize numR s r 1 = p at hn h0 h1 ⊢
  obtain ⟨n, r1⟩ := p
  unfold cellK
  dsimp only at hn h0 h1 ⊢
  (unfold Tryz.f247; refine rn trivial ?_)
  refine vc_rd (k := 0) hn rfl rfl ?_
  by_cases he : r1.e = 0
  · by_cases h2 : n = 255
    · subst h2
      rw [if_neg (by simp)]
      refine rn @he ?_
      exact ⟨_, rfl, rfl, rfl, rfl, rfl, by rw [← he]⟩
    · rw [if_pos ⟨he, h2⟩]
      by_cases h3 : 12 < n
      · rw [if_pos h3]
        refine rn (And.intro @he (And.intro @h2 @h3)) ?_
        exact ⟨_, rfl, rfl, rfl, rfl, rfl, rfl⟩
      · rw [if_neg h3]
        have ht := jrtext_v s hs r1 n (by omega)
        refine rn (And.intro @he (And.intro @h2 @h3)) ?_
        have e9 : (⟨346, true, [.pv (.str s), .int .i64 r1.at_, .int .i64 0]⟩ : Blk) = rdB 346 s r1 := by rw [rdB, he]
        rw [e9]
        refine vc_rd (k := 0) ht rfl rfl ?_
        refine rn trivial ?_
        exact ⟨_, rfl, rfl, rfl, rfl, rfl, rfl⟩
  · rw [if_neg (fun h => he h.1)]
    refine rn @he ?_
    exact ⟨_, rfl, rfl, rfl, rfl, rfl, rfl⟩
end
section
attribute [local go_sem] E.d Ch0 Ce0
theorem len8192 (l : List UInt8) : decide ((l.length : Int) ≤ 8192) = decide (l.length ≤ 8192) := by
  apply decide_eq_decide.2; omega
def E.shp (e : E) : E :=
  if e.kind = 1 then ⟨e.lsn, e.kind, e.tx, e.ptx, e.ppg, 0, e.c, []⟩
  else if e.kind = 2 then ⟨e.lsn, e.kind, e.tx, e.ptx, e.ppg, e.ref, e.c, []⟩
  else if e.kind = 3 ∨ e.kind = 4 ∨ e.kind = 5 then ⟨e.lsn, e.kind, e.tx, e.ptx, 0, 0, Ch0, []⟩
  else if e.kind = 6 ∨ e.kind = 8 then ⟨e.lsn, e.kind, 0, 0, 0, 0, Ch0, e.blob⟩
  else if e.kind = 7 then ⟨e.lsn, e.kind, 0, 0, 0, e.ref, ⟨e.c.pg, 0, Ce0, Ce0⟩, []⟩
  else ⟨e.lsn, e.kind, 0, 0, 0, 0, Ch0, []⟩
def E.shok (e : E) : Bool :=
  if e.kind = 1 then e.c.okB && decide (1 ≤ e.tx) && decide (e.tx ≤ 1073741824)
  else if e.kind = 2 then e.c.okB && decide (0 < e.ptx) && decide (1 ≤ e.ref) && decide (e.ref ≤ e.ptx) && decide (1 ≤ e.tx) && decide (e.tx ≤ 1073741824)
  else if e.kind = 3 ∨ e.kind = 4 ∨ e.kind = 5 then decide (1 ≤ e.tx) && decide (e.tx ≤ 1073741824) && decide (0 < e.ptx)
  else if e.kind = 6 ∨ e.kind = 8 then decide (e.blob.length ≤ 8192)
  else if e.kind = 7 then decide (0 ≤ e.c.pg) && decide (e.c.pg < 64)
  else false
def shD (e : E) : DV := .tup [.agg e.shp.d, .bool e.shok]
theorem shp_eq (lsn kind tx ptx ppg ref : Int) (c : Ch) (blob : List UInt8) : (⟨lsn, kind, tx, ptx, ppg, ref, c, blob⟩ : E).shp =
  if kind = 1 then ⟨lsn, kind, tx, ptx, ppg, 0, c, []⟩
  else if kind = 2 then ⟨lsn, kind, tx, ptx, ppg, ref, c, []⟩
  else if kind = 3 ∨ kind = 4 ∨ kind = 5 then ⟨lsn, kind, tx, ptx, 0, 0, Ch0, []⟩
  else if kind = 6 ∨ kind = 8 then ⟨lsn, kind, 0, 0, 0, 0, Ch0, blob⟩
  else if kind = 7 then ⟨lsn, kind, 0, 0, 0, ref, ⟨c.pg, 0, Ce0, Ce0⟩, []⟩
  else ⟨lsn, kind, 0, 0, 0, 0, Ch0, []⟩ := rfl
theorem shok_eq (lsn kind tx ptx ppg ref : Int) (c : Ch) (blob : List UInt8) : (⟨lsn, kind, tx, ptx, ppg, ref, c, blob⟩ : E).shok =
  if kind = 1 then c.okB && decide (1 ≤ tx) && decide (tx ≤ 1073741824)
  else if kind = 2 then c.okB && decide (0 < ptx) && decide (1 ≤ ref) && decide (ref ≤ ptx) && decide (1 ≤ tx) && decide (tx ≤ 1073741824)
  else if kind = 3 ∨ kind = 4 ∨ kind = 5 then decide (1 ≤ tx) && decide (tx ≤ 1073741824) && decide (0 < ptx)
  else if kind = 6 ∨ kind = 8 then decide (blob.length ≤ 8192)
  else if kind = 7 then decide (0 ≤ c.pg) && decide (c.pg < 64)
  else false := rfl
theorem shape_v (e : E) : VCalls prog 68 [.agg e.d] [] (Ret (shD e)) := by
  refine dd Tryz.func68 ?_
  unfold shD
  obtain ⟨lsn, kind, tx, ptx, ppg, ref, c, blob⟩ := e
  have q1 := rchok_v c
  dsimp only [Ch.d] at q1
  rw [shp_eq, shok_eq]
  generalize c.okB = K at *
  rcases kind_cases kind with hk | rfl | rfl | rfl | rfl | rfl | rfl | rfl | rfl
  · rw [if_neg (by omega), if_neg (by omega), if_neg (by omega), if_neg (by omega), if_neg (by omega), if_neg (by omega), if_neg (by omega), if_neg (by omega), if_neg (by omega), if_neg (by omega)]
    have k1 : (kind == 1) = false := by simp; omega
    have k2 : (kind == 2) = false := by simp; omega
    have k3 : (kind == 3) = false := by simp; omega
    have k4 : (kind == 4) = false := by simp; omega
    have k5 : (kind == 5) = false := by simp; omega
    have k6 : (kind == 6) = false := by simp; omega
    have k7 : (kind == 7) = false := by simp; omega
    have k8 : (kind == 8) = false := by simp; omega
    (unfold Tryz.f68; refine rn (And.intro @k1 (And.intro @k2 (And.intro @k3 (And.intro @k4 (And.intro @k5 (And.intro @k6 (And.intro @k7 @k8))))))) ?_; try with_reducible exact ⟨⟩)
  all_goals
    (unfold Tryz.f68; refine rn trivial ?_)
    refine rn F ?_
    repeat' (first
      | with_reducible exact ⟨⟩
      | (refine sG F ?_ ?_ <;> intro hZ)
      | refine vp F (q1) ?_
      | (refine vspine (id := 5) [0, 1, 2, 3, 4, 5, 6, 7, 8] [⟨[], [], 9, [2, 3, 4, 5, 6, 7], [10]⟩, ⟨[], [], 11, [4, 5, 6, 7], [12]⟩, ⟨[], [], 13, [6, 7], [14]⟩, ⟨[], [], 15, [], []⟩] (by kernel_rfl) (by kernel_rfl) ?_; refine rn F ?_)
      | (refine vspine (id := 10) [0, 1, 2, 3, 4, 5, 6, 7, 8, 9, 10, 11] [⟨[], [], 12, [1, 2, 3, 4, 5, 6, 8, 9, 10, 11], []⟩, ⟨[], [], 13, [], []⟩] (by kernel_rfl) (by kernel_rfl) ?_; refine rn F ?_)
      | (refine vspine (id := 14) [0, 1, 2, 3, 4] [⟨[], [], 5, [2, 3], [6]⟩, ⟨[], [], 7, [], []⟩] (by kernel_rfl) (by kernel_rfl) ?_; refine rn F ?_)
      | (refine vspine (id := 15) [0, 1, 2, 3, 4, 5, 6, 7, 8, 9, 10, 11, 12, 13] [⟨[], [], 14, [1, 2, 3, 4, 5, 6, 7, 8, 10, 11, 12, 13], []⟩, ⟨[], [], 15, [], []⟩] (by kernel_rfl) (by kernel_rfl) ?_; refine rn F ?_)
      | (refine vspine (id := 19) [0, 1, 2, 3, 4] [⟨[], [], 5, [1, 2, 3, 4], []⟩, ⟨[], [], 6, [], []⟩] (by kernel_rfl) (by kernel_rfl) ?_; refine rn F ?_)
      | (refine vspine (id := 21) [0, 1, 2, 3, 4, 5] [⟨[], [], 6, [2, 3, 4], [7, 8]⟩, ⟨[], [], 9, [7], []⟩] (by kernel_rfl) (by kernel_rfl) ?_; refine rn F ?_)
      | (refine vspine (id := 22) [0, 1, 2, 3, 4, 5, 6, 7, 8, 9, 10] [⟨[], [], 11, [1, 2, 3, 4, 6, 7, 8, 9, 10], []⟩, ⟨[], [], 12, [], []⟩] (by kernel_rfl) (by kernel_rfl) ?_; refine rn F ?_))
  all_goals first | rfl | (simp [Ch0, Ce0, len8192]; done)
def eqE (x y : E) : Bool := x.lsn == y.lsn && (x.kind == y.kind && (x.tx == y.tx && (x.ptx == y.ptx && (x.ppg == y.ppg && (x.ref == y.ref && (x.c.pg == y.c.pg && (x.c.sl == y.c.sl && (x.c.b.set == y.c.b.set && (x.c.b.data == y.c.b.data && (x.c.a.set == y.c.a.set && (x.c.a.data == y.c.a.data && x.blob == y.blob)))))))))))
theorem allEqE (x y : E) : allEq x.d y.d [(0, 1), (1, 1), (2, 1), (3, 1), (4, 1), (5, 1), (6, 1), (7, 1), (8, 0), (9, 2), (10, 0), (11, 2), (12, 2)] = some (eqE x y) := by
  simp [allEq, leafEq, E.d, eqE]
def E.okR (e : E) : Bool := e.shok && eqE e.shp e && decide (1 ≤ e.lsn) && decide (e.lsn ≤ 1099511627776) && bef e.ptx e.lsn && bef e.ppg e.lsn && bef e.ref e.lsn
theorem rvalidR_v (e : E) : VCalls prog 44 [.agg e.d] [] (Ret (.bool e.okR)) := by
  refine dd Tryz.func44 ?_
  have hq := allEqE e.shp e
  have hs := shape_v e
  unfold shD at hs
  simp only [E.d] at hq hs
  have b1 := rbefore_v e.ptx e.lsn
  have b2 := rbefore_v e.ppg e.lsn
  have b3 := rbefore_v e.ref e.lsn
  have e1 : e.okR = (e.shok && eqE e.shp e && decide (1 ≤ e.lsn) && decide (e.lsn ≤ 1099511627776) && bef e.ptx e.lsn && bef e.ppg e.lsn && bef e.ref e.lsn) := rfl
  generalize e.okR = R at *
  generalize bef e.ptx e.lsn = B1 at *
  generalize bef e.ppg e.lsn = B2 at *
  generalize bef e.ref e.lsn = B3 at *
  generalize e.shp = s at *
  generalize e.shok = ok at *
  generalize eqE s e = q at *
  (unfold Tryz.f44; refine rn trivial ?_)
  have F := @hq
  refine rn F ?_
  repeat' (first
    | with_reducible exact ⟨⟩
    | (refine sG F ?_ ?_ <;> intro hZ)
    | refine vp F (hs) ?_
    | refine vp F (b1) ?_
    | refine vp F (b2) ?_
    | refine vp F (b3) ?_)
  all_goals (congr 3; rw [e1, Bool.eq_iff_iff]; clear e1 b1 b2 b3 hs hq; simp; first | omega | grind)
theorem okR_ok (e : E) : e.okR = e.okB := by
  obtain ⟨lsn, kind, tx, ptx, ppg, ref, ⟨pg, sl, ⟨b1, b2⟩, ⟨a1, a2⟩⟩, blob⟩ := e
  rw [Bool.eq_iff_iff]
  by_cases h : kind < 1 ∨ 8 < kind
  · have e1 : E.shok ⟨lsn, kind, tx, ptx, ppg, ref, ⟨pg, sl, ⟨b1, b2⟩, ⟨a1, a2⟩⟩, blob⟩ = false := by unfold E.shok; rw [if_neg (by dsimp only; omega), if_neg (by dsimp only; omega), if_neg (by dsimp only; omega), if_neg (by dsimp only; omega), if_neg (by dsimp only; omega)]
    have e2 : E.kindB ⟨lsn, kind, tx, ptx, ppg, ref, ⟨pg, sl, ⟨b1, b2⟩, ⟨a1, a2⟩⟩, blob⟩ = false := by unfold E.kindB; rw [if_neg (by dsimp only; omega), if_neg (by dsimp only; omega), if_neg (by dsimp only; omega), if_neg (by dsimp only; omega), if_neg (by dsimp only; omega)]
    simp [E.okR, E.okB, e1, e2]
  · have hk : kind = 1 ∨ kind = 2 ∨ kind = 3 ∨ kind = 4 ∨ kind = 5 ∨ kind = 6 ∨ kind = 7 ∨ kind = 8 := by omega
    rcases hk with hk | hk | hk | hk | hk | hk | hk | hk <;> subst hk
    all_goals
      simp only [E.okR, E.okB, E.shok, E.shp, E.kindB, eqE, bef, txB, Ch.no, Ce.no, Ch.ix, Ch0, Ce0, Bool.and_eq_true, decide_eq_true_eq, beq_iff_eq, bne_iff_ne, Bool.not_eq_true', reduceIte, Int.reduceEq, or_self, or_false, false_or, or_true, true_or]
      grind
theorem rvalid_v (e : E) : VCalls prog 44 [.agg e.d] [] (Ret (.bool e.okB)) := by
  rw [← okR_ok]; exact rvalidR_v e
end
section
attribute [local go_sem] Ce.d
def rs0 (s : List UInt8) : RS s := ⟨0, 0, by omega⟩
theorem numR_le4 (s : List UInt8) (r : RS s) : (numR s r 4).1 ≤ 4294967296 := by
  unfold numR
  split
  · split
    · have := (numV_in s r.at_.toNat 4 (by omega)).2; dsimp only; omega
    · simp
  · simp
def decS (s : List UInt8) : E × RS s :=
  let p1 := numR s (rs0 s) 8
  let p2 := numR s p1.2 1
  let p3 := numR s p2.2 4
  let p4 := numR s p3.2 8
  let p5 := numR s p4.2 8
  let p6 := numR s p5.2 8
  let p7 := numR s p6.2 4
  let p8 := numR s p7.2 1
  let c1 := cellR s p8.2
  let c2 := cellR s c1.2
  let p9 := numR s c2.2 4
  let t := textR s p9.2 p9.1
  (⟨p1.1, p2.1, p3.1, p4.1, p5.1, p6.1, ⟨p7.1, p8.1, c1.1, c2.1⟩, t.1⟩, t.2)
def decE (s : List UInt8) : E × Int :=
  if (decS s).2.e = 0 then if (decS s).2.at_ = s.length then if (decS s).1.okB = true then ((decS s).1, 0) else (E0, 12) else (E0, 4) else (E0, (decS s).2.e)
theorem jdecode_v (s : List UInt8) (hs : s.length ≤ 100000000) : VCalls prog 27 [.pv (.str s)] [] (Ret (.tup [.agg (decE s).1.d, .int .i64 (decE s).2])) := by
  have hp1 := jnum_v s hs (rs0 s) 8 (by omega)
  generalize hqp1 : numR s (rs0 s) 8 = p1 at hp1
  have hp2 := jnum_v s hs p1.2 1 (by omega)
  generalize hqp2 : numR s p1.2 1 = p2 at hp2
  have hp3 := jnum_v s hs p2.2 4 (by omega)
  generalize hqp3 : numR s p2.2 4 = p3 at hp3
  have hp4 := jnum_v s hs p3.2 8 (by omega)
  generalize hqp4 : numR s p3.2 8 = p4 at hp4
  have hp5 := jnum_v s hs p4.2 8 (by omega)
  generalize hqp5 : numR s p4.2 8 = p5 at hp5
  have hp6 := jnum_v s hs p5.2 8 (by omega)
  generalize hqp6 : numR s p5.2 8 = p6 at hp6
  have hp7 := jnum_v s hs p6.2 4 (by omega)
  generalize hqp7 : numR s p6.2 4 = p7 at hp7
  have hp8 := jnum_v s hs p7.2 1 (by omega)
  generalize hqp8 : numR s p7.2 1 = p8 at hp8
  have hc1 := jcellr_v s hs p8.2
  generalize hqc1 : cellR s p8.2  = c1 at hc1
  have hc2 := jcellr_v s hs c1.2
  generalize hqc2 : cellR s c1.2  = c2 at hc2
  have hp9 := jnum_v s hs c2.2 4 (by omega)
  generalize hqp9 : numR s c2.2 4 = p9 at hp9
  have ht := jtext_v s hs p9.2 p9.1 ⟨by rw [← hqp9]; exact numR_in s _ 4 (by omega), by rw [← hqp9]; exact numR_le4 s _⟩
  generalize hqt : textR s p9.2 p9.1 = t at ht
  have hd : decS s = (⟨p1.1, p2.1, p3.1, p4.1, p5.1, p6.1, ⟨p7.1, p8.1, c1.1, c2.1⟩, t.1⟩, t.2) := by
    unfold decS
    simp only [hqp1, hqp2, hqp3, hqp4, hqp5, hqp6, hqp7, hqp8, hqc1, hqc2, hqp9, hqt]
  have hv := valid_v ⟨p1.1, p2.1, p3.1, p4.1, p5.1, p6.1, ⟨p7.1, p8.1, c1.1, c2.1⟩, t.1⟩
  unfold decE
  rw [hd]
  clear hqt hqp9 hqc2 hqc1 hqp8 hqp7 hqp6 hqp5 hqp4 hqp3 hqp2 hqp1 hd
  obtain ⟨n1, r1⟩ := p1
  obtain ⟨n2, r2⟩ := p2
  obtain ⟨n3, r3⟩ := p3
  obtain ⟨n4, r4⟩ := p4
  obtain ⟨n5, r5⟩ := p5
  obtain ⟨n6, r6⟩ := p6
  obtain ⟨n7, r7⟩ := p7
  obtain ⟨n8, r8⟩ := p8
  obtain ⟨x1, r9⟩ := c1
  obtain ⟨x2, r10⟩ := c2
  obtain ⟨n9, r11⟩ := p9
  obtain ⟨tt, r12⟩ := t
  dsimp only at *
  refine dd Tryz.func27 ?_
  (unfold Tryz.f27; refine rn trivial ?_)
  have e0 : (⟨117, true, [.pv (.str s), .int .i64 0, .int .i64 0]⟩ : Blk) = rdB 117 s (rs0 s) := rfl
  rw [e0]
  refine vc_rd (k := 1) hp1 rfl rfl ?_
  refine rn trivial ?_
  refine vc_rd (k := 1) hp2 rfl rfl ?_
  refine rn trivial ?_
  refine vc_rd (k := 1) hp3 rfl rfl ?_
  refine rn trivial ?_
  refine vc_rd (k := 1) hp4 rfl rfl ?_
  refine rn trivial ?_
  refine vc_rd (k := 1) hp5 rfl rfl ?_
  refine rn trivial ?_
  refine vc_rd (k := 1) hp6 rfl rfl ?_
  refine rn trivial ?_
  refine vc_rd (k := 1) hp7 rfl rfl ?_
  refine rn trivial ?_
  refine vc_rd (k := 1) hp8 rfl rfl ?_
  refine rn trivial ?_
  refine vc_rd (k := 1) hc1 rfl rfl ?_
  refine rn trivial ?_
  refine vc_rd (k := 1) hc2 rfl rfl ?_
  refine rn trivial ?_
  refine vc_rd (k := 1) hp9 rfl rfl ?_
  refine rn trivial ?_
  refine vc_rd (k := 1) ht rfl rfl ?_
  refine rn trivial ?_
  by_cases he : r12.e = 0
  · rw [if_pos he]
    by_cases ha : r12.at_ = s.length
    · rw [if_pos ha]
      refine rn (And.intro @he @ha) ?_
      by_cases hb : E.okB ⟨n1, n2, n3, n4, n5, n6, ⟨n7, n8, x1, x2⟩, tt⟩ = true
      · rw [if_pos hb]
        rw [hb] at hv
        refine vc_pure hv rfl ?_
        refine rn trivial ?_
        rfl
      · rw [if_neg hb]
        have hb : E.okB ⟨n1, n2, n3, n4, n5, n6, ⟨n7, n8, x1, x2⟩, tt⟩ = false := by simpa using hb
        rw [hb] at hv
        refine vc_pure hv rfl ?_
        refine rn trivial ?_
        rfl
    · rw [if_neg ha]
      refine rn (And.intro @he @ha) ?_
      rfl
  · rw [if_neg he]
    refine rn @he ?_
    refine vdraw (by kernel_rfl) (by kernel_rfl) ?_
    refine rn trivial ?_
    rfl
theorem jrdecode_v (s : List UInt8) (hs : s.length ≤ 100000000) : VCalls prog 218 [.pv (.str s)] [] (Ret (.tup [.agg (decE s).1.d, .int .i64 (decE s).2])) := by
  have hp1 := jrnum_v s hs (rs0 s) 8 (by omega)
  generalize hqp1 : numR s (rs0 s) 8 = p1 at hp1
  have hp2 := jrnum_v s hs p1.2 1 (by omega)
  generalize hqp2 : numR s p1.2 1 = p2 at hp2
  have hp3 := jrnum_v s hs p2.2 4 (by omega)
  generalize hqp3 : numR s p2.2 4 = p3 at hp3
  have hp4 := jrnum_v s hs p3.2 8 (by omega)
  generalize hqp4 : numR s p3.2 8 = p4 at hp4
  have hp5 := jrnum_v s hs p4.2 8 (by omega)
  generalize hqp5 : numR s p4.2 8 = p5 at hp5
  have hp6 := jrnum_v s hs p5.2 8 (by omega)
  generalize hqp6 : numR s p5.2 8 = p6 at hp6
  have hp7 := jrnum_v s hs p6.2 4 (by omega)
  generalize hqp7 : numR s p6.2 4 = p7 at hp7
  have hp8 := jrnum_v s hs p7.2 1 (by omega)
  generalize hqp8 : numR s p7.2 1 = p8 at hp8
  have hc1 := jrcellr_v s hs p8.2
  generalize hqc1 : cellR s p8.2  = c1 at hc1
  have hc2 := jrcellr_v s hs c1.2
  generalize hqc2 : cellR s c1.2  = c2 at hc2
  have hp9 := jrnum_v s hs c2.2 4 (by omega)
  generalize hqp9 : numR s c2.2 4 = p9 at hp9
  have ht := jrtext_v s hs p9.2 p9.1 ⟨by rw [← hqp9]; exact numR_in s _ 4 (by omega), by rw [← hqp9]; exact numR_le4 s _⟩
  generalize hqt : textR s p9.2 p9.1 = t at ht
  have hd : decS s = (⟨p1.1, p2.1, p3.1, p4.1, p5.1, p6.1, ⟨p7.1, p8.1, c1.1, c2.1⟩, t.1⟩, t.2) := by
    unfold decS
    simp only [hqp1, hqp2, hqp3, hqp4, hqp5, hqp6, hqp7, hqp8, hqc1, hqc2, hqp9, hqt]
  have hv := rvalid_v ⟨p1.1, p2.1, p3.1, p4.1, p5.1, p6.1, ⟨p7.1, p8.1, c1.1, c2.1⟩, t.1⟩
  unfold decE
  rw [hd]
  clear hqt hqp9 hqc2 hqc1 hqp8 hqp7 hqp6 hqp5 hqp4 hqp3 hqp2 hqp1 hd
  obtain ⟨n1, r1⟩ := p1
  obtain ⟨n2, r2⟩ := p2
  obtain ⟨n3, r3⟩ := p3
  obtain ⟨n4, r4⟩ := p4
  obtain ⟨n5, r5⟩ := p5
  obtain ⟨n6, r6⟩ := p6
  obtain ⟨n7, r7⟩ := p7
  obtain ⟨n8, r8⟩ := p8
  obtain ⟨x1, r9⟩ := c1
  obtain ⟨x2, r10⟩ := c2
  obtain ⟨n9, r11⟩ := p9
  obtain ⟨tt, r12⟩ := t
  dsimp only at *
  refine dd Tryz.func218 ?_
  (unfold Tryz.f218; refine rn trivial ?_)
  have e0 : (⟨346, true, [.pv (.str s), .int .i64 0, .int .i64 0]⟩ : Blk) = rdB 346 s (rs0 s) := rfl
  rw [e0]
  refine vc_rd (k := 1) hp1 rfl rfl ?_
  refine rn trivial ?_
  refine vc_rd (k := 1) hp2 rfl rfl ?_
  refine rn trivial ?_
  refine vc_rd (k := 1) hp3 rfl rfl ?_
  refine rn trivial ?_
  refine vc_rd (k := 1) hp4 rfl rfl ?_
  refine rn trivial ?_
  refine vc_rd (k := 1) hp5 rfl rfl ?_
  refine rn trivial ?_
  refine vc_rd (k := 1) hp6 rfl rfl ?_
  refine rn trivial ?_
  refine vc_rd (k := 1) hp7 rfl rfl ?_
  refine rn trivial ?_
  refine vc_rd (k := 1) hp8 rfl rfl ?_
  refine rn trivial ?_
  refine vc_rd (k := 1) hc1 rfl rfl ?_
  refine rn trivial ?_
  refine vc_rd (k := 1) hc2 rfl rfl ?_
  refine rn trivial ?_
  refine vc_rd (k := 1) hp9 rfl rfl ?_
  refine rn trivial ?_
  refine vc_rd (k := 1) ht rfl rfl ?_
  refine rn trivial ?_
  by_cases he : r12.e = 0
  · rw [if_pos he]
    by_cases ha : r12.at_ = s.length
    · rw [if_pos ha]
      refine rn (And.intro @he @ha) ?_
      by_cases hb : E.okB ⟨n1, n2, n3, n4, n5, n6, ⟨n7, n8, x1, x2⟩, tt⟩ = true
      · rw [if_pos hb]
        rw [hb] at hv
        refine vc_pure hv rfl ?_
        refine rn trivial ?_
        rfl
      · rw [if_neg hb]
        have hb : E.okB ⟨n1, n2, n3, n4, n5, n6, ⟨n7, n8, x1, x2⟩, tt⟩ = false := by simpa using hb
        rw [hb] at hv
        refine vc_pure hv rfl ?_
        refine rn trivial ?_
        rfl
    · rw [if_neg ha]
      refine rn (And.intro @he @ha) ?_
      rfl
  · rw [if_neg he]
    refine rn @he ?_
    refine vdraw (by kernel_rfl) (by kernel_rfl) ?_
    refine rn trivial ?_
    rfl
end
section
def encE : Enc E := ⟨13, fun x => [.lit (.int .i64 x.lsn), .lit (.int .i64 x.kind), .lit (.int .i64 x.tx), .lit (.int .i64 x.ptx), .lit (.int .i64 x.ppg), .lit (.int .i64 x.ref), .lit (.int .i64 x.c.pg), .lit (.int .i64 x.c.sl), .lit (.bool x.c.b.set), .str x.c.b.data, .lit (.bool x.c.a.set), .str x.c.a.data, .str x.blob], by decide, fun _ => rfl⟩
theorem lenE (l : List E) : (cells encE l).length = l.length * 13 := cells_len encE l
theorem allE (l : List E) (n : Nat) (h : l.length * 13 ≤ n) : (cells encE l).take n = cells encE l := by rw [List.take_of_length_le]; rw [lenE]; exact h
theorem appE (l m : List E) : cells encE l ++ cells encE m = cells encE (l ++ m) := (cells_app encE l m).symm
theorem slkE (l : List E) (T : TypeId) (a b : Nat) (h : a ≤ b ∧ b ≤ l.length) : vslk (some (none, T, 13)) (fz encE l) a b = some (.pv (.sl (fz encE ((l.take b).drop a)))) := vslk_fz encE l T a b h
theorem srcE (l : List E) : (fz encE l = [] ∨ (fz encE l)[0]?.map List.length = some 13) = True := fz_src encE l
theorem frzE {n : Nat} {hp : Heap} {len : Nat} {l : List E} (h : l.length = len) : frzC n hp 0 13 len (some (cells encE l)) = some (.sl (fz encE l)) := frzC_cells encE h
theorem app_E (l : List E) (e : E) : cells encE l ++ [.pv (.lit (.int .i64 e.lsn)), .pv (.lit (.int .i64 e.kind)), .pv (.lit (.int .i64 e.tx)), .pv (.lit (.int .i64 e.ptx)), .pv (.lit (.int .i64 e.ppg)), .pv (.lit (.int .i64 e.ref)), .pv (.lit (.int .i64 e.c.pg)), .pv (.lit (.int .i64 e.c.sl)), .pv (.lit (.bool e.c.b.set)), .pv (.str e.c.b.data), .pv (.lit (.bool e.c.a.set)), .pv (.str e.c.a.data), .pv (.str e.blob)] = cells encE (l ++ [e]) := by rw [cells_app]; rfl
theorem getD_eq {α : Type} (l : List α) (i : Nat) (h : i < l.length) (d : α) : l.getD i d = l[i] := by rw [List.getD_eq_getElem?_getD, List.getElem?_eq_getElem h]; rfl
structure To (n : Nat) where
  i : Nat
  hi : i ≤ n
structure Okay (n : Nat) (c : Nat → Bool) where
  i : Nat
  hi : i ≤ n
  ok : ∀ k, k < i → c k = true
def Okay.start (n : Nat) (c : Nat → Bool) : Okay n c := ⟨0, Nat.zero_le _, fun k h => by omega⟩
def Okay.next {n : Nat} {c : Nat → Bool} (s : Okay n c) (h : s.i < n) (hc : c s.i = true) : Okay n c := ⟨s.i + 1, h, fun k hk => by
  rcases Nat.lt_or_ge k s.i with hlt | hge
  · exact s.ok k hlt
  · obtain rfl : k = s.i := by omega
    exact hc⟩
theorem Okay.all {n : Nat} {c : Nat → Bool} (s : Okay n c) (h : ¬ s.i < n) : (List.range n).all c = true := by
  rw [List.all_eq_true]
  intro k hk
  rw [List.mem_range] at hk
  exact s.ok k (by omega)
theorem all_not {n : Nat} {c : Nat → Bool} {i : Nat} (h : i < n) (hc : c i = false) : (List.range n).all c = false := by
  rw [List.all_eq_false]
  exact ⟨i, List.mem_range.2 h, by rw [hc]; decide⟩
structure Lg where
  f : Int
  es : List E
  d : Int
def Lg.c (x : Lg) : List DV := [.int .i64 x.f, .pv (.sl (fz encE x.es)), .int .i64 x.d]
attribute [local go_sem] Lg.c
def Lg0 : Lg := ⟨0, [], 0⟩
def Lg.hd (x : Lg) : Prop := 1 ≤ x.f ∧ x.f ≤ 1099511627776 ∧ x.es.length ≤ 4096 ∧ x.f - 1 ≤ x.d ∧ x.d ≤ x.f + x.es.length - 1
instance (x : Lg) : Decidable x.hd := by unfold Lg.hd; infer_instance
def lgC (x : Lg) (i : Nat) : Bool := decide ((x.es.getD i E0).lsn = x.f + i) && (x.es.getD i E0).okB
def lgB (x : Lg) : Bool := decide x.hd && (List.range x.es.length).all (lgC x)
def Lg.end_ (x : Lg) : Int := x.f + x.es.length - 1
theorem lgB_hd {x : Lg} (h : lgB x = true) : x.hd := by unfold lgB at h; simp at h; exact h.1
end
section
attribute [local go_sem] lenE allE appE slkE srcE frzE app_E Tryz.underlying24
def appS (x : Lg) (e : E) : Lg × Int × Int := if lgB x = false then (Lg0, 0, 26) else if x.es.length = 4096 ∨ 1099511627776 < x.end_ + 1 then (Lg0, 0, 21)
  else if ({ e with lsn := x.end_ + 1 } : E).okB = false then (Lg0, 0, 12) else (⟨x.f, x.es ++ [{ e with lsn := x.end_ + 1 }], x.d⟩, x.end_ + 1, 0)
def appD (r : Lg × Int × Int) : DV := .tup [.agg r.1.c, .int .i64 r.2.1, .int .i64 r.2.2]
end
section
attribute [local go_sem] lenE allE appE slkE srcE frzE app_E
def forceS (x : Lg) (n : Int) : Lg × Int := if lgB x = false then (Lg0, 26) else if x.end_ < n then (Lg0, 14) else (⟨x.f, x.es, if n > x.d then n else x.d⟩, 0)
def lgD (r : Lg × Int) : DV := .tup [.agg r.1.c, .int .i64 r.2]
end
section
structure Tx where
  id : Int
  st : Int
  n : Int
  b : Int
  l : List Int
  s : List Int
def encT : Enc Tx := ⟨6, fun t => [.lit (.int .i64 t.id), .lit (.int .i64 t.st), .lit (.int .i64 t.n), .lit (.int .i64 t.b), .sl (fz encI t.l), .sl (fz encI t.s)], by decide, fun _ => rfl⟩
def Tx.d (t : Tx) : List DV := [.int .i64 t.id, .int .i64 t.st, .int .i64 t.n, .int .i64 t.b, .pv (.sl (fz encI t.l)), .pv (.sl (fz encI t.s))]
def ascC (l : List Int) (lo hi d : Int) (i : Nat) : Bool := decide (lo ≤ l.getD i 0) && decide (l.getD i 0 ≤ hi) && (decide (i = 0) || decide (l.getD (i - 1) 0 + d ≤ l.getD i 0))
def ascB (l : List Int) (lo hi d : Int) : Bool := (List.range l.length).all (ascC l lo hi d)
theorem ascC_iff (l : List Int) (lo hi d : Int) (i : Nat) : ascC l lo hi d i = true ↔ lo ≤ l.getD i 0 ∧ l.getD i 0 ≤ hi ∧ (i = 0 ∨ l.getD (i - 1) 0 + d ≤ l.getD i 0) := by
  simp only [ascC, Bool.and_eq_true, Bool.or_eq_true, decide_eq_true_eq, and_assoc]
def Tx.sm (t : Tx) : Prop := t.l.length ≤ 9223372036854775807 ∧ t.s.length ≤ 9223372036854775807
def Tx.hdB (t : Tx) : Bool := decide (1 ≤ t.id) && decide (t.id ≤ 1073741824) && decide (1 ≤ t.st) && decide (t.st ≤ 3) && decide (0 ≤ t.n) && decide (t.n ≤ 1099511627776) && (decide (t.b = 0) || (decide (t.st = 2) && decide (0 < t.b) && decide (t.b ≤ t.n))) && decide (t.l.length ≤ 4096) && decide (t.s.length ≤ 8)
def Tx.okB (t : Tx) : Bool := t.hdB && ascB t.l 1 t.n 1 && ascB t.s 0 t.n 0
def Tx0 : Tx := ⟨0, 0, 0, 0, [], []⟩
def tC (l : List Tx) (i : Nat) : Bool := (l.getD i Tx0).okB && (decide (i = 0) || decide ((l.getD (i - 1) Tx0).id < (l.getD i Tx0).id))
theorem tC_iff (l : List Tx) (i : Nat) : tC l i = true ↔ (l.getD i Tx0).okB = true ∧ (i = 0 ∨ (l.getD (i - 1) Tx0).id < (l.getD i Tx0).id) := by
  simp only [tC, Bool.and_eq_true, Bool.or_eq_true, decide_eq_true_eq]
def tblB (l : List Tx) : Bool := decide (l.length ≤ 64) && (List.range l.length).all (tC l)
def smL (l : List Tx) : Prop := l.length ≤ 1000000 ∧ ∀ t ∈ l, t.sm
theorem fzT_at (l : List Tx) (i : Nat) (h : i < l.length) : (fz encT l)[i]? = some [.lit (.int .i64 l[i].id), .lit (.int .i64 l[i].st), .lit (.int .i64 l[i].n), .lit (.int .i64 l[i].b), .sl (fz encI l[i].l), .sl (fz encI l[i].s)] := fz_get encT l i h
structure Pass {α : Type} (l : List α) (p : α → Prop) where
  i : Nat
  hi : i ≤ l.length
  no : ∀ x ∈ l.take i, ¬ p x
def Pass.start {α : Type} (l : List α) (p : α → Prop) : Pass l p := ⟨0, Nat.zero_le _, by simp⟩
def Pass.next {α : Type} {l : List α} {p : α → Prop} (s : Pass l p) (h : s.i < l.length) (hp : ¬ p l[s.i]) : Pass l p :=
  ⟨s.i + 1, h, fun x hx => by
    rw [List.take_succ_eq_append_getElem h, List.mem_append] at hx
    rcases hx with hx | hx
    · exact s.no x hx
    · simp at hx; subst hx; exact hp⟩
theorem Pass.all {α : Type} {l : List α} {p : α → Prop} (s : Pass l p) (h : ¬ s.i < l.length) : ∀ x ∈ l, ¬ p x := by
  have := s.no
  rwa [List.take_of_length_le (by omega)] at this
def idxP {α : Type} (l : List α) (p : α → Bool) : Int := if l.any p = true then (l.findIdx p : Int) else -1
theorem idxP_at {α : Type} (l : List α) (p : α → Bool) (i : Nat) (h : i < l.length) (hx : p l[i] = true) (no : ∀ x ∈ l.take i, ¬ p x = true) : idxP l p = i := by
  rw [idxP, if_pos (List.any_eq_true.2 ⟨l[i], List.getElem_mem h, hx⟩)]
  congr 1
  rw [List.findIdx_eq h]
  refine ⟨hx, fun j hj => ?_⟩
  have := no l[j] (List.mem_take_iff_getElem.2 ⟨j, by omega, rfl⟩)
  simpa using this
theorem idxP_find {α : Type} (l : List α) (p : α → Bool) : (idxP l p = -1 ∧ l.find? p = none) ∨ ∃ i, ∃ h : i < l.length, idxP l p = i ∧ l.find? p = some l[i] := by
  by_cases ha : l.any p = true
  · obtain ⟨x, hm, hp⟩ := List.any_eq_true.1 ha
    have hlt := List.findIdx_lt_length_of_exists ⟨x, hm, hp⟩
    refine .inr ⟨l.findIdx p, hlt, by rw [idxP, if_pos ha], ?_⟩
    rw [List.find?_eq_some_iff_getElem]
    refine ⟨List.findIdx_getElem (w := hlt), _, hlt, rfl, fun j hj => ?_⟩
    have := List.not_of_lt_findIdx hj
    simpa using this
  · refine .inl ⟨by rw [idxP, if_neg ha], ?_⟩
    rw [List.find?_eq_none]
    intro x hx hp
    exact ha (List.any_eq_true.2 ⟨x, hx, hp⟩)
def lo {α : Type} (l : List α) (f : α → Bool) : Nat := (l.takeWhile f).length
def Fore {α : Type} (l : List α) (f : α → Bool) : Prop := ∀ i j : Nat, ∀ hi : i < l.length, ∀ hj : j < l.length, i < j → f l[j] = true → f l[i] = true
theorem lo_le {α : Type} (l : List α) (f : α → Bool) : lo l f ≤ l.length := (List.takeWhile_sublist _).length_le
theorem lo_eq {α : Type} (l : List α) (f : α → Bool) (i : Nat) (hi : i ≤ l.length) (h1 : ∀ k, ∀ hk : k < l.length, k < i → f l[k] = true) (h2 : ∀ hi : i < l.length, f l[i] = false) : lo l f = i := by
  unfold lo
  induction l generalizing i with
  | nil => simp at hi; subst hi; rfl
  | cons a r ih =>
    cases i with
    | zero =>
      have := h2 (by simp)
      simp only [List.getElem_cons_zero] at this
      rw [List.takeWhile_cons, this]; rfl
    | succ i =>
      have h0 := h1 0 (by simp) (by omega)
      simp only [List.getElem_cons_zero] at h0
      rw [List.takeWhile_cons, h0]
      simp only [if_true, List.length_cons]
      rw [ih i (by simpa using hi) (fun k hk hki => h1 (k + 1) (by simpa using hk) (by omega)) (fun hi => h2 (by simpa using hi))]
structure BS {α : Type} (l : List α) (f : α → Bool) where
  i : Nat
  j : Nat
  hij : i ≤ j
  hj : j ≤ l.length
  h1 : ∀ k, ∀ hk : k < l.length, k < i → f l[k] = true
  h2 : ∀ hj : j < l.length, f l[j] = false
def BS.start {α : Type} (l : List α) (f : α → Bool) : BS l f := ⟨0, l.length, Nat.zero_le _, Nat.le_refl _, fun k hk h => by omega, fun h => by omega⟩
def BS.up {α : Type} {l : List α} {f : α → Bool} (s : BS l f) (hf : Fore l f) (h : Nat) (h1 : s.i ≤ h) (h2 : h < s.j) (hx : f (l[h]'(Nat.lt_of_lt_of_le h2 s.hj)) = true) : BS l f :=
  ⟨h + 1, s.j, h2, s.hj, fun k hk hki => by
    rcases Nat.lt_or_ge k h with hlt | hge
    · exact hf k h hk (Nat.lt_of_lt_of_le h2 s.hj) hlt hx
    · obtain rfl : k = h := by omega
      exact hx, s.h2⟩
theorem BS.fin {α : Type} {l : List α} {f : α → Bool} (s : BS l f) (h : ¬ s.i < s.j) : lo l f = s.i := by
  have e : s.i = s.j := by have := s.hij; omega
  exact lo_eq l f s.i (by have := s.hj; omega) s.h1 (fun hi => by
    have := s.h2 (e ▸ hi)
    simpa only [e] using this)
theorem fzT_d (l : List Tx) (i : Nat) (h : i < l.length) : (fz encT l)[i]? = some [.lit (.int .i64 (l.getD i Tx0).id), .lit (.int .i64 (l.getD i Tx0).st), .lit (.int .i64 (l.getD i Tx0).n), .lit (.int .i64 (l.getD i Tx0).b), .sl (fz encI (l.getD i Tx0).l), .sl (fz encI (l.getD i Tx0).s)] := by rw [getD_eq l i h]; exact fzT_at l i h
attribute [local go_sem] Tx.d mem_ok List.length_append List.length_take List.length_drop List.take_length toNat_succ toNat_pred toNat_add toNat_sub
theorem rright_v (t : Tx) (hs : t.sm) : VCalls prog 193 [.agg t.d] [] (Ret (.bool t.okB)) := by
  refine dd Tryz.func193 ?_
  obtain ⟨id, st, n, b, l, s⟩ := t
  obtain ⟨hs1, hs2⟩ := hs
  dsimp only at hs1 hs2
  have e : (⟨id, st, n, b, l, s⟩ : Tx).okB = ((⟨id, st, n, b, l, s⟩ : Tx).hdB && ascB l 1 n 1 && ascB s 0 n 0) := rfl
  have eh : (⟨id, st, n, b, l, s⟩ : Tx).hdB = (decide (1 ≤ id) && decide (id ≤ 1073741824) && decide (1 ≤ st) && decide (st ≤ 3) && decide (0 ≤ n) && decide (n ≤ 1099511627776) && (decide (b = 0) || (decide (st = 2) && decide (0 < b) && decide (b ≤ n))) && decide (l.length ≤ 4096) && decide (s.length ≤ 8)) := rfl
  generalize (⟨id, st, n, b, l, s⟩ : Tx).hdB = H at *
  generalize (⟨id, st, n, b, l, s⟩ : Tx).okB = K at *
  unfold Tx.d
  (unfold Tryz.f193; refine rn trivial ?_)
  refine rn F ?_
  repeat' (first
    | with_reducible exact ⟨⟩
    | (refine sG F ?_ ?_ <;> intro hZ)
    | (refine sB F ?_ ?_ <;> intro hZ))
  all_goals first
    | (rw [e, Bool.eq_false_iff.2 (show ¬ H = true from fun h => by rw [eh] at h; simp only [Bool.and_eq_true, Bool.or_eq_true, decide_eq_true_eq] at h; omega)]; rfl)
    | skip
  all_goals
    have hh : H = true := by rw [eh]; simp only [Bool.and_eq_true, Bool.or_eq_true, decide_eq_true_eq]; omega
    refine vloopW (fun q : Okay l.length (ascC l 1 n 1) => ⟨147, 0, [(3, .int .i64 q.i), (1, .ptr 0 0)], [⟨236, true, [.int .i64 id, .int .i64 st, .int .i64 n, .int .i64 b, .pv (.sl (fz encI l)), .pv (.sl (fz encI s))]⟩]⟩) (fun q => l.length - q.i) (Okay.start _ _) (by exact (gc [0])) ?_
    intro q
    have hqi := q.hi
    have hg := fun h : q.i < l.length => fzI_get l q.i h
    have hgp : 0 < (q.i : Int) → (q.i : Int) < l.length → (fz encI l)[q.i - 1]? = some [.lit (.int .i64 (l.getD (q.i - 1) 0))] := fun h h2 => by
      exact fzI_get l (q.i - 1) (by omega)
    have F := (And.intro @hg @hgp)
    refine rn F ?_
    repeat' (first
      | with_reducible exact ⟨⟩
      | (refine sG F ?_ ?_ <;> intro hZ)
      | (refine sB F ?_ ?_ <;> intro hZ)
      | (refine vspine (id := 8) [0, 1, 2, 3, 4, 5, 6, 7, 8, 9, 10, 11, 12, 13, 14, 15, 16, 17, 18, 19, 20, 21, 22, 23, 24, 25, 26, 27, 28, 29, 30, 31, 32, 33] [] (by kernel_rfl) (by kernel_rfl) ?_; refine rn F ?_))
    all_goals first
      | (rw [e, ascB, ascB, all_not (n := l.length) (c := ascC l 1 n 1) (i := q.i) (by omega) (Bool.eq_false_iff.2 fun h => by rw [ascC_iff] at h; omega)]; simp)
      | (exact ⟨q.next (by omega) ((ascC_iff _ _ _ _ _).2 (by omega)), by show l.length - (q.i + 1) < l.length - q.i; omega, (gc [0])⟩)
      | skip
    have hL : ascB l 1 n 1 = true := q.all (by omega)
    clear hg hgp hqi
    refine vloopW (fun q : Okay s.length (ascC s 0 n 0) => ⟨147, 0, [(4, .int .i64 q.i), (1, .ptr 0 0)], [⟨236, true, [.int .i64 id, .int .i64 st, .int .i64 n, .int .i64 b, .pv (.sl (fz encI l)), .pv (.sl (fz encI s))]⟩]⟩) (fun q => s.length - q.i) (Okay.start _ _) (by exact (gc [0])) ?_
    intro q
    have hqi := q.hi
    have hg := fun h : q.i < s.length => fzI_get s q.i h
    have hgp : 0 < (q.i : Int) → (q.i : Int) < s.length → (fz encI s)[q.i - 1]? = some [.lit (.int .i64 (s.getD (q.i - 1) 0))] := fun h h2 => by
      exact fzI_get s (q.i - 1) (by omega)
    have F := (And.intro @hg @hgp)
    refine rn F ?_
    repeat' (first
      | with_reducible exact ⟨⟩
      | (refine sG F ?_ ?_ <;> intro hZ)
      | (refine sB F ?_ ?_ <;> intro hZ)
      | (refine vspine (id := 13) [0, 1, 2, 3, 4, 5, 6, 7, 8, 9, 10, 11, 12, 13, 14, 15, 16, 17, 18, 19, 20, 21, 22, 23, 24, 25, 26, 27, 28, 29, 30, 31, 32, 33] [] (by kernel_rfl) (by kernel_rfl) ?_; refine rn F ?_))
    all_goals first
      | (rw [e, ascB, ascB, all_not (n := s.length) (c := ascC s 0 n 0) (i := q.i) (by omega) (Bool.eq_false_iff.2 fun h => by rw [ascC_iff] at h; omega)]; simp)
      | (exact ⟨q.next (by omega) ((ascC_iff _ _ _ _ _).2 (by omega)), by show s.length - (q.i + 1) < s.length - q.i; omega, (gc [0])⟩)
      | skip
    rw [e, hh, hL, show ascB s 0 n 0 = true from q.all (by omega)]
    rfl
theorem rtvalid_v (l : List Tx) (hl : smL l) : VCalls prog 148 [.pv (.sl (fz encT l))] [] (Ret (.bool (tblB l))) := by
  refine dd Tryz.func148 ?_
  obtain ⟨hl, hm⟩ := hl
  have hr := fun (i : Nat) (h : i < l.length) => rright_v (l.getD i Tx0) (by rw [getD_eq l i h]; exact hm _ (List.getElem_mem h))
  unfold Tx.d at hr
  (unfold Tryz.f148; refine rn trivial ?_)
  refine rn F ?_
  repeat' (first
    | with_reducible exact ⟨⟩
    | (refine sB F ?_ ?_ <;> intro hZ))
  · rw [tblB, decide_eq_false (by omega)]; rfl
  refine vloopW (fun s : Okay l.length (tC l) => ⟨37, 0, [(3, .int .i64 s.i), (0, .pv (.sl (fz encT l)))], []⟩) (fun s => l.length - s.i) (Okay.start _ _) (gc []) ?_
  intro s
  have hsi := s.hi
  have hg := fun h : s.i < l.length => fzT_d l s.i h
  have hgp : 0 < (s.i : Int) → (s.i : Int) < l.length → (fz encT l)[s.i - 1]? = some [.lit (.int .i64 (l.getD (s.i - 1) Tx0).id), .lit (.int .i64 (l.getD (s.i - 1) Tx0).st), .lit (.int .i64 (l.getD (s.i - 1) Tx0).n), .lit (.int .i64 (l.getD (s.i - 1) Tx0).b), .sl (fz encI (l.getD (s.i - 1) Tx0).l), .sl (fz encI (l.getD (s.i - 1) Tx0).s)] := fun h h2 => by
    exact fzT_d l (s.i - 1) (by omega)
  have F := (And.intro @hg @hgp)
  refine rn F ?_
  repeat' (first
    | with_reducible exact ⟨⟩
    | (refine sG F ?_ ?_ <;> intro hZ)
    | (refine sB F ?_ ?_ <;> intro hZ)
    | refine vp F (hr s.i (by omega)) ?_
    | (refine vspine (id := 6) [0, 1, 2, 3] [⟨[], [], 4, [0, 1, 2], [5, 6, 7, 8, 9, 10, 11, 12, 13, 14, 15, 16, 17, 18, 19, 20, 21, 22, 23]⟩] (by kernel_rfl) (by kernel_rfl) ?_; refine rn F ?_))
  all_goals first
    | (rw [tblB, all_not (i := s.i) (by omega) (Bool.eq_false_iff.2 fun h => by rw [tC_iff] at h; omega), Bool.and_false])
    | (rw [tblB, all_not (i := s.i) (by omega) (Bool.eq_false_iff.2 fun h => by rw [tC_iff] at h; first | exact absurd h.1 (by assumption) | (have h1 := h.1; simp_all)), Bool.and_false])
    | (rw [tblB, s.all (by omega), decide_eq_true (by omega)]; rfl)
    | (exact ⟨s.next (by omega) ((tC_iff _ _).2 ⟨by assumption, by omega⟩), by show l.length - (s.i + 1) < l.length - s.i; omega, (gc [])⟩)
    | skip
def keepL {α : Type} (l : List α) (p : α → Bool) : List α := l.filter fun x => !p x
structure DF {α : Type} (l : List α) (p : α → Bool) where
  j : Nat
  hj : j ≤ l.length
  cur : List α
  hl : cur.length = l.length
  h1 : cur.take (keepL (l.take j) p).length = keepL (l.take j) p
  h2 : cur.drop j = l.drop j
  h3 : (keepL (l.take j) p).length < j
def DF.i {α : Type} {l : List α} {p : α → Bool} (s : DF l p) : Nat := (keepL (l.take s.j) p).length
theorem keepL_take_succ {α : Type} (l : List α) (p : α → Bool) (j : Nat) (h : j < l.length) : keepL (l.take (j + 1)) p = keepL (l.take j) p ++ (if p l[j] = true then [] else [l[j]]) := by
  rw [List.take_succ_eq_append_getElem h, keepL, List.filter_append]
  cases hp : p l[j] <;> simp [keepL, hp]
theorem keepL_none {α : Type} (l : List α) (p : α → Bool) (h : ∀ x ∈ l, ¬ p x = true) : keepL l p = l := by
  rw [keepL, List.filter_eq_self]; intro x hx; simpa using h x hx
def DF.start {α : Type} (l : List α) (p : α → Bool) (i : Nat) (h : i < l.length) (hp : p l[i] = true) (no : ∀ x ∈ l.take i, ¬ p x = true) : DF l p :=
  have e : keepL (l.take (i + 1)) p = l.take i := by rw [keepL_take_succ l p i h, if_pos hp, List.append_nil, keepL_none _ p no]
  have el : (l.take i).length = i := by rw [List.length_take]; omega
  ⟨i + 1, h, l, rfl, by rw [e, el], rfl, by rw [e, el]; omega⟩
theorem DF.get {α : Type} {l : List α} {p : α → Bool} (s : DF l p) (h : s.j < l.length) (d : α) : s.cur.getD s.j d = l[s.j] := by
  have := congrArg (fun x => x[0]?) s.h2
  simp only [List.getElem?_drop, Nat.add_zero] at this
  rw [List.getD_eq_getElem?_getD, this, List.getElem?_eq_getElem h]; rfl
def DF.out {α : Type} {l : List α} {p : α → Bool} (s : DF l p) (h : s.j < l.length) (hp : p l[s.j] = true) : DF l p :=
  have e : keepL (l.take (s.j + 1)) p = keepL (l.take s.j) p := by rw [keepL_take_succ l p s.j h, if_pos hp, List.append_nil]
  ⟨s.j + 1, h, s.cur, s.hl, by rw [e]; exact s.h1, by
    have := congrArg (List.drop 1) s.h2
    rwa [List.drop_drop, List.drop_drop] at this, by rw [e]; have := s.h3; omega⟩
def DF.stay {α : Type} {l : List α} {p : α → Bool} (s : DF l p) (h : s.j < l.length) (hp : ¬ p l[s.j] = true) : DF l p :=
  have e : keepL (l.take (s.j + 1)) p = keepL (l.take s.j) p ++ [l[s.j]] := by rw [keepL_take_succ l p s.j h, if_neg hp]
  have hi : s.i < s.j := s.h3
  have hil : s.i < s.cur.length := by rw [s.hl]; have := s.hj; omega
  ⟨s.j + 1, h, s.cur.set s.i l[s.j], by rw [List.length_set]; exact s.hl, by
    rw [e, List.length_append, List.length_singleton]
    show (s.cur.set s.i l[s.j]).take (s.i + 1) = _
    rw [List.take_succ_eq_append_getElem (by rw [List.length_set]; exact hil), List.getElem_set_self, List.take_set_of_le (Nat.le_refl _)]
    congr 1
    exact s.h1, by
    rw [List.drop_set_of_lt (by omega)]
    have := congrArg (List.drop 1) s.h2
    rwa [List.drop_drop, List.drop_drop] at this, by
    rw [e, List.length_append, List.length_singleton]
    have : (keepL (l.take s.j) p).length = s.i := rfl
    omega⟩
theorem keepL_le {α : Type} (l : List α) (p : α → Bool) : (keepL l p).length ≤ l.length := List.length_filter_le _ _
theorem lenT (l : List Tx) : (cells encT l).length = l.length * 6 := cells_len encT l
theorem allT (l : List Tx) (n : Nat) (h : l.length * 6 ≤ n) : (cells encT l).take n = cells encT l := by rw [List.take_of_length_le]; rw [lenT]; exact h
theorem appT (l m : List Tx) : cells encT l ++ cells encT m = cells encT (l ++ m) := (cells_app encT l m).symm
theorem slkT (l : List Tx) (T : TypeId) (a b : Nat) (h : a ≤ b ∧ b ≤ l.length) : vslk (some (none, T, 6)) (fz encT l) a b = some (.pv (.sl (fz encT ((l.take b).drop a)))) := vslk_fz encT l T a b h
theorem srcT (l : List Tx) : (fz encT l = [] ∨ (fz encT l)[0]?.map List.length = some 6) = True := fz_src encT l
theorem frzT {n : Nat} {hp : Heap} {len : Nat} {l : List Tx} (h : l.length = len) : frzC n hp 0 6 len (some (cells encT l)) = some (.sl (fz encT l)) := frzC_cells encT h
theorem wk_T (l : List Tx) : DV.wk.go (cells encT l) = cells encT l := wk_cells encT l fun a p hp => by
  simp [encT] at hp; rcases hp with rfl | rfl | rfl | rfl | rfl | rfl <;> rfl
def tblD (r : List Tx × Int) : DV := .tup [.pv (.sl (fz encT r.1)), .int .i64 r.2]
def idT (l : List Tx) (a : Int) : Int := idxP l fun t => t.id == a
def posT (l : List Tx) (a : Int) : Nat := lo l fun t => decide (t.id < a)
def insT (l : List Tx) (t : Tx) : List Tx := l.take (posT l t.id) ++ t :: l.drop (posT l t.id)
def beginS (l : List Tx) (a : Int) : List Tx × Int :=
  if tblB l = false then ([], 15) else if a < 1 ∨ 1073741824 < a then ([], 1) else if 0 ≤ idT l a then ([], 25) else if l.length = 64 then ([], 21) else (insT l ⟨a, 1, 0, 0, [], []⟩, 0)
theorem tblB_len {l : List Tx} (h : tblB l = true) : l.length ≤ 64 := by
  simp [tblB] at h; exact h.1
def remS (l : List Tx) (a : Int) : List Tx := keepL l fun t => t.id == a
def leftB (t : Tx) (a : Int) : Bool := decide (0 < t.l.length) && decide (a < t.l.getD (t.l.length - 1) 0)
theorem lastI (l : List Int) (h : 0 < l.length) : (fz encI l)[((l.length : Int) - 1).toNat]? = some [.lit (.int .i64 (l.getD (l.length - 1) 0))] := by
  rw [show ((l.length : Int) - 1).toNat = l.length - 1 by omega]; exact fzI_get l (l.length - 1) (by omega)
theorem idT_cases (l : List Tx) (a : Int) : idT l a = -1 ∨ ∃ i, ∃ h : i < l.length, idT l a = i ∧ l[i].id = a := by
  unfold idT idxP
  split
  · rename_i h
    obtain ⟨x, hm, hp⟩ := List.any_eq_true.1 h
    have hlt := List.findIdx_lt_length_of_exists (p := fun t : Tx => t.id == a) ⟨x, hm, hp⟩
    have := List.findIdx_getElem (w := hlt)
    exact .inr ⟨_, hlt, rfl, by simpa using this⟩
  · exact .inl rfl
def activeS (l : List Tx) (a : Int) : Tx × Int :=
  if tblB l = false then (Tx0, 15) else if idT l a < 0 then (Tx0, 16) else if (l.getD (idT l a).toNat Tx0).st ≠ 1 then (Tx0, 15) else (l.getD (idT l a).toNat Tx0, 0)
theorem activeS_ok {l : List Tx} {a : Int} (h : (activeS l a).2 = 0) : tblB l = true ∧ ∃ i, ∃ hi : i < l.length, idT l a = i ∧ l[i].id = a ∧ (activeS l a).1 = l[i] := by
  unfold activeS at h ⊢
  split at h
  · simp at h
  rename_i h1
  split at h
  · simp at h
  rename_i h2
  split at h
  · simp at h
  rename_i h3
  refine ⟨by simpa using h1, ?_⟩
  rcases idT_cases l a with h4 | ⟨i, hi, h4, h5⟩
  · omega
  · rw [if_neg h1, if_neg h2, if_neg h3]
    exact ⟨i, hi, h4, h5, by rw [h4, Int.toNat_natCast, getD_eq l i hi]⟩
theorem app_I (l : List Int) (x : Int) : cells encI l ++ [.pv (.lit (.int .i64 x))] = cells encI (l ++ [x]) := by rw [cells_app]; rfl
theorem lenI (l : List Int) : (cells encI l).length = l.length * 1 := cells_len encI l
theorem allI (l : List Int) (n : Nat) (h : l.length * 1 ≤ n) : (cells encI l).take n = cells encI l := by rw [List.take_of_length_le]; rw [lenI]; exact h
theorem appI (l m : List Int) : cells encI l ++ cells encI m = cells encI (l ++ m) := (cells_app encI l m).symm
theorem slkI (l : List Int) (T : TypeId) (a b : Nat) (h : a ≤ b ∧ b ≤ l.length) : vslk (some (none, T, 1)) (fz encI l) a b = some (.pv (.sl (fz encI ((l.take b).drop a)))) := vslk_fz encI l T a b h
theorem srcI (l : List Int) : (fz encI l = [] ∨ (fz encI l)[0]?.map List.length = some 1) = True := fz_src encI l
theorem frzI {n : Nat} {hp : Heap} {len : Nat} {l : List Int} (h : l.length = len) : frzC n hp 0 1 len (some (cells encI l)) = some (.sl (fz encI l)) := frzC_cells encI h
theorem tblB_at {l : List Tx} (h : tblB l = true) {i : Nat} (hi : i < l.length) : l[i].okB = true := by
  simp only [tblB, Bool.and_eq_true, List.all_eq_true, List.mem_range, decide_eq_true_eq] at h
  have := ((tC_iff l i).1 (h.2 i hi)).1
  rwa [getD_eq l i hi] at this
def saveS (l : List Tx) (a : Int) : List Tx × Int :=
  if (activeS l a).2 ≠ 0 then ([], (activeS l a).2) else if (activeS l a).1.s.length = 8 then ([], 21) else (l.set (idT l a).toNat { (activeS l a).1 with s := (activeS l a).1.s ++ [(activeS l a).1.n] }, 0)
def backS (l : List Tx) (a sv : Int) : List Tx × Int :=
  if (activeS l a).2 ≠ 0 then ([], (activeS l a).2)
  else if sv < 0 ∨ ((activeS l a).1.s.length : Int) ≤ sv then ([], 19)
  else if leftB (activeS l a).1 ((activeS l a).1.s.getD sv.toNat 0) = true then (l.set (idT l a).toNat { (activeS l a).1 with s := (activeS l a).1.s.take (sv.toNat + 1), st := 2, b := (activeS l a).1.s.getD sv.toNat 0 }, 0)
  else (l.set (idT l a).toNat { (activeS l a).1 with s := (activeS l a).1.s.take (sv.toNat + 1) }, 0)
theorem asc_pairwise {l : List Int} {lo hi : Int} (h : ascB l lo hi 1 = true) : l.Pairwise (· < ·) := by
  simp only [ascB, List.all_eq_true, List.mem_range] at h
  rw [List.pairwise_iff_getElem]
  have step : ∀ i, ∀ h2 : i + 1 < l.length, l[i] < l[i + 1] := fun i h2 => by
    have := (ascC_iff _ _ _ _ _).1 (h (i + 1) h2)
    rw [getD_eq l (i + 1) h2, Nat.add_sub_cancel, getD_eq l i (by omega)] at this
    omega
  have all : ∀ d i, ∀ h2 : i + d + 1 < l.length, l[i] < l[i + d + 1] := fun d => by
    induction d with
    | zero => exact step
    | succ d ih => intro i h2; exact Int.lt_trans (ih i (by omega)) (step (i + d + 1) h2)
  intro i j hi hj hij
  have := all (j - i - 1) i (by omega)
  simpa only [show i + (j - i - 1) + 1 = j by omega] using this
theorem okB_asc {t : Tx} (h : t.okB = true) : t.l.Pairwise (· < ·) := by
  simp only [Tx.okB, Bool.and_eq_true] at h
  exact asc_pairwise h.1.2
theorem okB_len {t : Tx} (h : t.okB = true) : t.l.length ≤ 4096 ∧ t.s.length ≤ 8 := by
  simp only [Tx.okB, Tx.hdB, Bool.and_eq_true, decide_eq_true_eq] at h
  omega
def settleS (t : Tx) : Tx := if t.st = 2 ∧ leftB t t.b = false then { t with st := 1, b := 0 } else t
def noteT (t : Tx) (e : E) : Tx :=
  if e.kind = 1 then { t with n := e.lsn, l := t.l ++ [e.lsn] }
  else if e.kind = 2 then { t with n := e.lsn, l := t.l.filter fun x => decide (x ≠ e.ref) }
  else { t with n := e.lsn, st := 3, b := 0, s := [] }
def noteA (l : List Tx) (i : Nat) (t : Tx) (e : E) : List Tx × Int :=
  if e.ptx ≠ t.n ∨ (e.kind = 2 ∧ e.ref ∉ t.l) then ([], 13)
  else if e.kind = 3 ∨ e.kind = 5 then (remS l e.tx, 0)
  else (l.set i (settleS (noteT t e)), 0)
def noteS (l : List Tx) (e : E) : List Tx × Int :=
  if tblB l = false then ([], 15) else if e.okB = false then ([], 12) else if e.tx = 0 then (l, 0) else if idT l e.tx < 0 then ([], 16)
  else noteA l (idT l e.tx).toNat (l.getD (idT l e.tx).toNat Tx0) e
theorem okB_kind {e : E} (h : e.okB = true) (ht : e.tx ≠ 0) : e.kind = 1 ∨ e.kind = 2 ∨ e.kind = 3 ∨ e.kind = 4 ∨ e.kind = 5 := by
  obtain ⟨lsn, kind, tx, ptx, ppg, ref, c, blob⟩ := e
  simp only [E.okB, Bool.and_eq_true] at h
  have h := h.2
  rw [kindB_eq] at h
  dsimp only at ht ⊢
  rcases kind_cases kind with hk | rfl | rfl | rfl | rfl | rfl | rfl | rfl | rfl
  · rw [if_neg (by omega), if_neg (by omega), if_neg (by omega), if_neg (by omega), if_neg (by omega)] at h; cases h
  all_goals first | omega | (simp at h; omega)
theorem noteS_at {l : List Tx} {e : E} (h1 : tblB l = true) (h2 : e.okB = true) (h3 : e.tx ≠ 0) {i : Nat} (hi : i < l.length) (h4 : idT l e.tx = i) : noteS l e = noteA l i l[i] e := by
  unfold noteS
  rw [if_neg (by rw [h1]; decide), if_neg (by rw [h2]; decide), if_neg h3, h4, if_neg (by omega), Int.toNat_natCast, getD_eq l i hi]
def w0 : List Tx := [⟨1, 1, 0, 0, [], []⟩]
def w1 : List Tx := [⟨1, 1, 1, 0, [1], []⟩]
def w2 : List Tx := [⟨1, 1, 1, 0, [1], [1]⟩]
def w3 : List Tx := [⟨1, 1, 2, 0, [1, 2], [1]⟩]
def w4 : List Tx := [⟨1, 1, 3, 0, [1, 2, 3], [1]⟩]
def w5 : List Tx := [⟨1, 2, 3, 1, [1, 2, 3], [1]⟩]
end
section
attribute [local go_sem] Tx.d lenT allT appT slkT srcT frzT lenI allI appI slkI srcI frzI mem_ok List.length_append List.length_take List.length_drop List.take_length toNat_succ toNat_pred toNat_add toNat_sub
theorem rfind0_v (l : List Tx) (hl : l.length ≤ 1000000) (a : Int) : VCalls prog 149 [.pv (.sl (fz encT l)), .int .i64 a] [] (Ret (.int .i64 (idT l a))) := by
  refine dd Tryz.func149 ?_
  (unfold Tryz.f149; refine rn trivial ?_)
  refine vloopW (fun i : Pass l (fun x => (x.id == a) = true) => ⟨20, 0, [(5, .int .i64 i.i), (0, .pv (.sl (fz encT l))), (1, .int .i64 a)], []⟩) (fun i => l.length - i.i) (Pass.start l _) (gc []) ?_
  intro i
  have hi := i.hi
  have hg := fun h : i.i < l.length => fzT_d l i.i h
  have F := @hg
  refine rn F ?_
  repeat' (first
    | with_reducible exact ⟨⟩
    | (refine sB F ?_ ?_ <;> intro hZ))
  · have := idxP_at l (fun x => x.id == a) i.i (by omega) (by rw [← getD_eq l i.i (by omega) Tx0]; simpa using (by assumption : (l.getD i.i Tx0).id = a)) i.no
    rw [idT, this]
  · exact ⟨i.next (by omega) (by rw [← getD_eq l i.i (by omega) Tx0]; simpa using (by assumption : ¬ (l.getD i.i Tx0).id = a)), by show l.length - (i.i + 1) < l.length - i.i; omega, (gc [])⟩
  · have := i.all (by omega)
    rw [idT, idxP, if_neg (by simpa using this)]
theorem rfind_v (l : List Tx) (hl : l.length ≤ 1000000) (a : Int) : VCalls prog 168 [.pv (.sl (fz encT l)), .int .i64 a] [] (Ret (.int .i64 (idT l a))) := by
  refine dd Tryz.func168 ?_
  have h := rfind0_v l hl a
  (unfold Tryz.f168; refine rn trivial ?_)
  refine rn F ?_
  repeat' (first
    | with_reducible exact ⟨⟩
    | refine vp F (h) ?_)
theorem rset_v (l : List Tx) (hl : l.length ≤ 1000000) (i : Nat) (hi : i < l.length) (t : Tx) : VCalls prog 213 [.pv (.sl (fz encT l)), .int .i64 i, .agg t.d] [] (Ret (.pv (.sl (fz encT (l.set i t))))) := by
  refine dd Tryz.func213 ?_
  have hb : i * 6 + 6 ≤ l.length * 6 := by omega
  have hse : (cells encT l).take (i * 6) ++ [.pv (.lit (.int .i64 t.id)), .pv (.lit (.int .i64 t.st)), .pv (.lit (.int .i64 t.n)), .pv (.lit (.int .i64 t.b)), .pv (.sl (fz encI t.l)), .pv (.sl (fz encI t.s))] ++ (cells encT l).drop (i * 6 + 6) = cells encT (l.set i t) := set_in encT l i t hi
  have hle : (l.set i t).length = l.length := List.length_set
  (unfold Tryz.f213; refine rn trivial ?_)
  have F := (And.intro @hb (And.intro @hse @hle))
  (refine rn F ?_; try with_reducible exact ⟨⟩)
theorem rsettle_v (t : Tx) (hs : t.sm) : VCalls prog 214 [.agg t.d] [] (Ret (.agg (settleS t).d)) := by
  refine dd Tryz.func214 ?_
  have hg := fun h : 0 < t.l.length => lastI t.l h
  simp only [toNat_pred] at hg
  obtain ⟨id, st, n, b, l, s⟩ := t
  obtain ⟨h1, h2⟩ := hs
  dsimp only at h1 h2 hg
  have eS : settleS ⟨id, st, n, b, l, s⟩ = if st = 2 ∧ leftB ⟨id, st, n, b, l, s⟩ b = false then ⟨id, 1, n, 0, l, s⟩ else ⟨id, st, n, b, l, s⟩ := rfl
  have eL : leftB ⟨id, st, n, b, l, s⟩ b = (decide (0 < l.length) && decide (b < l.getD (l.length - 1) 0)) := rfl
  generalize settleS ⟨id, st, n, b, l, s⟩ = u at *
  generalize leftB ⟨id, st, n, b, l, s⟩ b = B at *
  (unfold Tryz.f214; refine rn trivial ?_)
  have F := @hg
  refine rn F ?_
  repeat' (first
    | with_reducible exact ⟨⟩
    | (refine sG F ?_ ?_ <;> intro hZ)
    | (refine sB F ?_ ?_ <;> intro hZ)
    | (refine vspine (id := 1) [0, 1, 2, 3, 4, 5, 6, 7, 8, 9, 10, 11, 12, 13, 14, 15, 16, 17, 18, 19, 20, 21] [] (by kernel_rfl) (by kernel_rfl) ?_; refine rn F ?_))
  all_goals first
    | (rw [eS, if_pos ⟨by assumption, by rw [eL, decide_eq_false (show ¬ b < l.getD (l.length - 1) 0 by omega), Bool.and_false]⟩])
    | (rw [eS, if_pos ⟨by assumption, by rw [eL, decide_eq_false (show ¬ 0 < l.length by omega), Bool.false_and]⟩])
    | (rw [eS, if_neg (by rintro ⟨h, _⟩; omega)])
    | (rw [eS, if_neg (by rintro ⟨_, h⟩; rw [eL, decide_eq_true (show b < l.getD (l.length - 1) 0 by omega), decide_eq_true (show 0 < l.length by omega)] at h; cases h)])
theorem app_T (l : List Tx) (t : Tx) : cells encT l ++ [.pv (.lit (.int .i64 t.id)), .pv (.lit (.int .i64 t.st)), .pv (.lit (.int .i64 t.n)), .pv (.lit (.int .i64 t.b)), .pv (.sl (fz encI t.l)), .pv (.sl (fz encI t.s))] = cells encT (l ++ [t]) := by rw [cells_app]; rfl
theorem remS_le (l : List Tx) (a : Int) : (remS l a).length ≤ l.length := keepL_le _ _
theorem remS_succ (l : List Tx) (a : Int) (i : Nat) (h : i < l.length) : remS (l.take (i + 1)) a = if (l.getD i Tx0).id = a then remS (l.take i) a else remS (l.take i) a ++ [l.getD i Tx0] := by
  rw [getD_eq l i h]
  unfold remS
  rw [keepL_take_succ l _ i h]
  by_cases hx : l[i].id = a <;> simp [hx]
theorem rremove_v (l : List Tx) (hl : l.length ≤ 1000000) (a : Int) : VCalls prog 212 [.pv (.sl (fz encT l)), .int .i64 a] [] (Ret (.pv (.sl (fz encT (remS l a))))) := by
  refine dd Tryz.func212 ?_
  (unfold Tryz.f212; refine rn trivial ?_)
  refine VLoop.nilOwn 5 236 6 rfl ?_
  refine vloopW (fun s : To l.length => ⟨28, 0, [(6, .int .i64 s.i), (5, .own 0 6 0 (remS (l.take s.i) a).length), (0, .pv (.sl (fz encT l))), (1, .int .i64 a)], [⟨236, true, cells encT (remS (l.take s.i) a)⟩]⟩) (fun s => l.length - s.i) ⟨0, Nat.zero_le _⟩ (gc [0]) ?_
  intro s
  have hi := s.hi
  have hg := fun h : s.i < l.length => fzT_d l s.i h
  have hle := remS_le (l.take s.i) a
  rw [List.length_take] at hle
  have hb : ((remS (l.take s.i) a).length + 1) * 80 ≤ 140737488355328 := by omega
  have hs := remS_succ l a s.i
  have F := (And.intro @hg (And.intro @hb @app_T))
  refine rn F ?_
  repeat' (first
    | with_reducible exact ⟨⟩
    | (refine sB F ?_ ?_ <;> intro hZ))
  · replace hs := hs (by omega)
    rw [if_neg (by assumption)] at hs
    refine ⟨⟨s.i + 1, by omega⟩, by show l.length - (s.i + 1) < l.length - s.i; omega, ?_⟩
    rw [hs, List.length_append]
    exact (gc [2])
  · replace hs := hs (by omega)
    rw [if_pos (by assumption)] at hs
    refine ⟨⟨s.i + 1, by omega⟩, by show l.length - (s.i + 1) < l.length - s.i; omega, ?_⟩
    rw [hs]
    exact (gc [0])
  · rw [List.take_of_length_le (by omega)]
def ractS (l : List Tx) (a : Int) : Int × Int :=
  if tblB l = false then (0, 15) else if idT l a < 0 then (0, 16) else if (l.getD (idT l a).toNat Tx0).st ≠ 1 then (0, 15) else (idT l a, 0)
theorem ractS_two (l : List Tx) (a : Int) : (ractS l a).2 = (activeS l a).2 := by
  unfold ractS activeS
  split
  · rfl
  · split
    · rfl
    · split <;> rfl
theorem ractS_one {l : List Tx} {a : Int} (h : (activeS l a).2 = 0) : (ractS l a).1 = idT l a := by
  unfold ractS
  unfold activeS at h
  split at h
  · simp at h
  · rename_i h1
    split at h
    · simp at h
    · rename_i h2
      split at h
      · simp at h
      · rename_i h3
        rw [if_neg h1, if_neg h2, if_neg h3]
theorem ractive_v (l : List Tx) (hs : smL l) (a : Int) : VCalls prog 239 [.pv (.sl (fz encT l)), .int .i64 a] [] (Ret (.tup [.int .i64 (ractS l a).1, .int .i64 (ractS l a).2])) := by
  refine dd Tryz.func239 ?_
  have c1 := rtvalid_v l hs
  have c2 := rfind0_v l hs.1 a
  unfold ractS
  rcases idT_cases l a with h | ⟨i, hi, h, hid⟩
  · rw [h] at c2 ⊢
    (unfold Tryz.f239; refine rn trivial ?_)
    refine rn F ?_
    repeat' (first
      | with_reducible exact ⟨⟩
      | (refine sB F ?_ ?_ <;> intro hZ)
      | refine vp F (c1) ?_
      | refine vp F (c2) ?_)
    all_goals rfl
  · rw [h] at c2 ⊢
    have hg := fzT_d l i hi
    rw [Int.toNat_natCast, if_neg (show ¬ (i : Int) < 0 by omega)]
    (unfold Tryz.f239; refine rn trivial ?_)
    have F := @hg
    refine rn F ?_
    repeat' (first
      | with_reducible exact ⟨⟩
      | (refine sB F ?_ ?_ <;> intro hZ)
      | refine vp F (c1) ?_
      | refine vp F (c2) ?_)
    all_goals first | rfl | (rw [if_pos (by assumption)]) | (rw [if_neg (by omega)])
theorem rsave_v (l : List Tx) (hs : smL l) (a : Int) : VCalls prog 197 [.pv (.sl (fz encT l)), .int .i64 a] [] (Ret (tblD (saveS l a))) := by
  refine VCalls.unwk ?_
  refine dd Tryz.func197 ?_
  have c1 := ractive_v l hs a
  have hok := @activeS_ok l a
  rw [ractS_two] at c1
  unfold saveS
  by_cases hz : (activeS l a).2 = 0
  · obtain ⟨hv, i, hi, h1, h2, h3⟩ := hok hz
    rw [ractS_one hz, h1, hz] at c1
    have hts := okB_len (tblB_at hv hi)
    have hg := fzT_at l i hi
    have hw := rset_v l hs.1 i hi ⟨l[i].id, l[i].st, l[i].n, l[i].b, l[i].l, l[i].s ++ [l[i].n]⟩
    rw [if_neg (by rw [hz]; simp), h3, h1, Int.toNat_natCast]
    generalize l[i] = t at *
    obtain ⟨id, st, n, b, q, s⟩ := t
    dsimp only at hts hg hw
    (unfold Tryz.f197; refine rn trivial ?_)
    have F := (And.intro @hg @app_I)
    refine rn F ?_
    repeat' (first
      | with_reducible exact ⟨⟩
      | (refine sB F ?_ ?_ <;> intro hZ)
      | refine vp F (c1) ?_
      | (refine vc_giveA [3] _ _ (hw) rfl ⟨⟨by simp, cells_nums _ _ _⟩, trivial⟩ (by decide) rfl (by simp [DV.nums.go, DV.nums]) ?_ ?_; (focus (refine rd F)); refine rn F ?_)
      | (refine vspine (id := 7) [0, 1, 3, 4] [⟨[5], [], 2, [0, 3, 4], []⟩, ⟨[5], [5], 6, [0, 1, 3, 4], [7]⟩, ⟨[], [], 8, [], []⟩] (by kernel_rfl) (by kernel_rfl) ?_; refine rn F ?_))
    all_goals first | rfl | (rw [if_pos (by omega)]; rfl) | (rw [if_neg (by omega)]; rfl) | skip
  · generalize activeS l a = r at *
    generalize (ractS l a).1 = j at *
    rw [if_pos hz]
    (unfold Tryz.f197; refine rn trivial ?_)
    have F := trivial
    refine rn F ?_
    repeat' (first
      | with_reducible exact ⟨⟩
      | refine vp F (c1) ?_)
    all_goals first | rfl | contradiction | skip
theorem activeS_st {l : List Tx} {a : Int} (h : (activeS l a).2 = 0) : (activeS l a).1.st = 1 ∧ (activeS l a).1.b = 0 := by
  obtain ⟨hv, i, hi, h1, h2, h3⟩ := activeS_ok h
  have hst : (activeS l a).1.st = 1 := by
    unfold activeS at h ⊢
    split at h
    · simp at h
    · rename_i q1
      split at h
      · simp at h
      · rename_i q2
        split at h
        · simp at h
        · rename_i q3
          rw [if_neg q1, if_neg q2, if_neg q3]
          simpa using q3
  refine ⟨hst, ?_⟩
  have ho := tblB_at hv hi
  rw [h3] at hst ⊢
  simp only [Tx.okB, Tx.hdB, Bool.and_eq_true, Bool.or_eq_true, decide_eq_true_eq] at ho
  omega
theorem rback_v (l : List Tx) (hs : smL l) (a sv : Int) : VCalls prog 198 [.pv (.sl (fz encT l)), .int .i64 a, .int .i64 sv] [] (Ret (tblD (backS l a sv))) := by
  refine VCalls.unwk ?_
  refine dd Tryz.func198 ?_
  have c1 := ractive_v l hs a
  have hok := @activeS_ok l a
  have hab := @activeS_st l a
  rw [ractS_two] at c1
  unfold backS
  by_cases hz : (activeS l a).2 = 0
  · obtain ⟨hv, i, hi, h1, h2, h3⟩ := hok hz
    obtain ⟨hst, hb0⟩ := hab hz
    rw [ractS_one hz, h1, hz] at c1
    have hts := okB_len (tblB_at hv hi)
    have hg := fzT_at l i hi
    rw [if_neg (by rw [hz]; simp), h3, h1, Int.toNat_natCast]
    rw [h3] at hst hb0
    have hw := rset_v l hs.1 i hi
    by_cases hr : sv < 0 ∨ ((l[i].s.length : Int) ≤ sv)
    · generalize l[i] = t at *
      obtain ⟨id, st, n, b, q, s⟩ := t
      dsimp only at hr hg ⊢
      rw [if_pos hr]
      (unfold Tryz.f198; refine rn trivial ?_)
      have F := @hg
      refine rn F ?_
      repeat' (first
        | with_reducible exact ⟨⟩
        | (refine sG F ?_ ?_ <;> intro hZ)
        | refine vp F (c1) ?_)
      all_goals first | rfl | (exfalso; omega)
    obtain ⟨k, rfl⟩ : ∃ k : Nat, sv = k := ⟨sv.toNat, by omega⟩
    have hk : k < l[i].s.length := by omega
    rw [if_neg (by omega), Int.toNat_natCast]
    have hw2 := hw (settleS ⟨l[i].id, 2, l[i].n, l[i].s.getD k 0, l[i].l, l[i].s.take (k + 1)⟩)
    generalize l[i] = t at *
    obtain ⟨id, st, n, b, q, s⟩ := t
    dsimp only at hts hg hk hst hb0 hw2 ⊢
    subst hst hb0
    have hse := rsettle_v ⟨id, 2, n, s.getD k 0, q, s.take (k + 1)⟩ ⟨by show q.length ≤ _; omega, by show (s.take (k + 1)).length ≤ _; rw [List.length_take]; omega⟩
    have eS : settleS ⟨id, 2, n, s.getD k 0, q, s.take (k + 1)⟩ = if leftB ⟨id, 1, n, 0, q, s⟩ (s.getD k 0) = true then ⟨id, 2, n, s.getD k 0, q, s.take (k + 1)⟩ else ⟨id, 1, n, 0, q, s.take (k + 1)⟩ := by
      unfold settleS
      have e : leftB ⟨id, 2, n, s.getD k 0, q, s.take (k + 1)⟩ (s.getD k 0) = leftB ⟨id, 1, n, 0, q, s⟩ (s.getD k 0) := rfl
      cases hB : leftB ⟨id, 1, n, 0, q, s⟩ (s.getD k 0)
      · rw [if_pos ⟨rfl, by rw [← hB]; exact e⟩]; rfl
      · rw [if_neg (by rintro ⟨_, h⟩; rw [show leftB ⟨id, 2, n, s.getD k 0, q, s.take (k + 1)⟩ (s.getD k 0) = true from e.trans hB] at h; cases h)]; rfl
    have hgc : ((cells encI (s.take (k + 1))).drop k).take 1 = [.int .i64 (s.getD k 0)] := by
      have hgc : (cells encI (s.take (k + 1)))[k]? = some (.int .i64 (s.getD k 0)) := by
        rw [cellsI_get _ _ (by rw [List.length_take]; omega)]
        simp [List.getD_eq_getElem?_getD, List.getElem?_take]
      obtain ⟨h, e⟩ := List.getElem?_eq_some_iff.1 hgc
      rw [List.drop_eq_getElem_cons h, e]; rfl
    have hgd : (cells encI (s.take (k + 1)))[k]? = some (.int .i64 (s.getD k 0)) := by
      rw [cellsI_get _ _ (by rw [List.length_take]; omega)]
      simp [List.getD_eq_getElem?_getD, List.getElem?_take]
    have hl1 : (s.take (k + 1)).length = k + 1 := by rw [List.length_take]; omega
    have ek : ((k : Int) + 1).toNat = k + 1 := by omega
    have fin : (if leftB ⟨id, 1, n, 0, q, s⟩ (s.getD k 0) = true then (l.set i ⟨id, 2, n, s.getD k 0, q, s.take (k + 1)⟩, (0 : Int)) else (l.set i ⟨id, 1, n, 0, q, s.take (k + 1)⟩, 0)) = (l.set i (settleS ⟨id, 2, n, s.getD k 0, q, s.take (k + 1)⟩), 0) := by
      rw [eS]; split <;> rfl
    rw [fin]
    clear fin eS
    generalize hT : settleS ⟨id, 2, n, s.getD k 0, q, s.take (k + 1)⟩ = T at *
    (unfold Tryz.f198; refine rn trivial ?_)
    have F := (And.intro @hg (And.intro @hl1 (And.intro @ek (And.intro @hgc @hgd))))
    refine rn F ?_
    repeat' (first
      | with_reducible exact ⟨⟩
      | refine vp F (c1) ?_
      | (refine vc_giveA [1] _ _ (hse) rfl ⟨⟨by simp, cells_nums _ _ _⟩, trivial⟩ (by decide) rfl (by simp [DV.nums.go, DV.nums]) ?_ ?_; (focus (refine rd F)); refine rn F ?_)
      | refine vp F (hw2) ?_
      | (refine vspine (id := 8) [0, 1, 2, 3, 4, 5] [⟨[], [], 6, [2, 3, 4], [7]⟩, ⟨[], [], 8, [], []⟩] (by kernel_rfl) (by kernel_rfl) ?_; refine rn F ?_))
    all_goals first | rfl | skip
  · generalize activeS l a = r at *
    generalize (ractS l a).1 = j at *
    rw [if_pos hz]
    (unfold Tryz.f198; refine rn trivial ?_)
    have F := trivial
    refine rn F ?_
    repeat' (first
      | with_reducible exact ⟨⟩
      | refine vp F (c1) ?_)
    all_goals first | rfl | contradiction | skip
end
section
attribute [local go_sem] Tx.d lenT allT appT slkT srcT frzT lenI allI appI slkI srcI frzI mem_ok List.length_append List.length_take List.length_drop List.take_length toNat_succ toNat_pred toNat_add toNat_sub bodyc headc_seq headc_zero restc_seq restc_zero tmwk_nil tmwk_cons hpwk_nil hpwk_cons wk_go_nil wk_go_cons wk_T
structure Fr (l : List Tx) (a : Int) where
  j : Nat
  hj : j ≤ l.length
  lt : ∀ k, ∀ h : k < l.length, k < j → l[k].id < a
theorem Fr.fin {l : List Tx} {a : Int} (s : Fr l a) (h : ∀ h : s.j < l.length, ¬ l[s.j].id < a) : posT l a = s.j :=
  lo_eq l _ s.j s.hj (fun k hk hkj => decide_eq_true (s.lt k hk hkj)) (fun hj => decide_eq_false (h hj))
theorem take_len {l : List Tx} {j : Nat} (h : j ≤ l.length) : (l.take j).length = j := by rw [List.length_take]; omega
theorem take_succ_T (l : List Tx) (j : Nat) (h : j < l.length) : cells encT (l.take j) ++ [.pv (.lit (.int .i64 (l.getD j Tx0).id)), .pv (.lit (.int .i64 (l.getD j Tx0).st)), .pv (.lit (.int .i64 (l.getD j Tx0).n)), .pv (.lit (.int .i64 (l.getD j Tx0).b)), .pv (.sl (fz encI (l.getD j Tx0).l)), .pv (.sl (fz encI (l.getD j Tx0).s))] = cells encT (l.take (j + 1)) := by
  rw [app_T, List.take_succ_eq_append_getElem h, getD_eq l j h]
theorem rbegin_v (l : List Tx) (hs : smL l) (a : Int) : VCalls prog 118 [.pv (.sl (fz encT l)), .int .i64 a] [] (Ret (tblD (beginS l a))) := by
  refine VCalls.unwk ?_
  have hl := hs.1
  have c1 := rtvalid_v l hs
  have c2 := rfind0_v l hl a
  have eS : beginS l a = if tblB l = false then ([], 15) else if a < 1 ∨ 1073741824 < a then ([], 1) else if 0 ≤ idT l a then ([], 25) else if l.length = 64 then ([], 21) else (l.take (posT l a) ++ ⟨a, 1, 0, 0, [], []⟩ :: l.drop (posT l a), 0) := rfl
  have hfin := @Fr.fin l a
  have hp : posT l a ≤ l.length := lo_le _ _
  have hsm := @tblB_len l
  generalize idT l a = d at *
  generalize beginS l a = res at *
  generalize tblB l = T at *
  refine vcalls_dropW (fn := Tryz.f118) (c := bodyc Tryz.f118) Tryz.func118 rfl (by kernel_rfl) (by simp [Tryz.f118]) ?_
  refine vcut 5 ?_
  generalize hrest : restc 5 (bodyc Tryz.f118) = rest
  (unfold Tryz.f118; refine rn trivial ?_)
  have F := trivial
  refine rn F ?_
  repeat' (first
    | (refine sG F ?_ ?_ <;> intro hZ <;> try with_reducible exact ⟨⟩)
    | (refine sB F ?_ ?_ <;> intro hZ <;> try with_reducible exact ⟨⟩)
    | (refine sD F ?_ ?_ <;> intro hZ <;> try with_reducible exact ⟨⟩)
    | (refine vp F (c1) ?_; try with_reducible exact ⟨⟩)
    | (refine vd F (c1) ?_; try with_reducible exact ⟨⟩)
    | (refine vl F (c1) ?_; try with_reducible exact ⟨⟩)
    | (refine vp F (c2) ?_; try with_reducible exact ⟨⟩)
    | (refine vd F (c2) ?_; try with_reducible exact ⟨⟩)
    | (refine vl F (c2) ?_; try with_reducible exact ⟨⟩)
    | (refine vspine (id := 14) [0, 1, 2, 5, 6, 7, 8] [⟨[3], [3], 4, [1, 2, 5, 6, 7, 8], []⟩, ⟨[], [], 9, [0, 1, 2, 5, 6, 7], []⟩, ⟨[], [], 10, [], []⟩, ⟨[], [], 11, [], []⟩] (by kernel_rfl) (by kernel_rfl) ?_; refine rn F ?_; try with_reducible exact ⟨⟩)
    | (refine vdraw (by kernel_rfl) (by kernel_rfl) ?_; refine rn F ?_; try with_reducible exact ⟨⟩))
  all_goals first
    | (rw [eS]; repeat (first | rw [if_pos (by first | assumption | omega)] | rw [if_neg (by first | assumption | omega | (rw [show T = true by assumption]; decide))])
       rfl)
    | skip
  rw [eS]
  repeat (first | rw [if_pos (by first | assumption | omega)] | rw [if_neg (by first | assumption | omega | (rw [show T = true by assumption]; decide))])
  have hsm := hsm (by assumption)
  refine VLoop.nilOwn 6 236 6 rfl ?_
  refine vloopW (fun s : Fr l a => ⟨60, 0, [(7, .int .i64 s.j), (6, .own 0 6 0 s.j), (0, .pv (.sl (fz encT l))), (1, .int .i64 a)], [⟨236, true, cells encT (l.take s.j)⟩]⟩) (fun s => l.length - s.j) ⟨0, Nat.zero_le _, fun k _ h => by omega⟩ (gc [0]) ?_
  intro s
  have hj := s.hj
  have hlt := s.lt
  have hf := hfin s
  have htl := take_len s.hj
  have hg := fun h : s.j < l.length => fzT_d l s.j h
  have hts := fun h : s.j < l.length => take_succ_T l s.j h
  have hcl : (cells encT (l.take s.j)).length = s.j * 6 := by rw [lenT, htl]
  have hta : (cells encT (l.take s.j)).take (s.j * 6) = cells encT (l.take s.j) := allT _ _ (by rw [htl]; exact Nat.le_refl _)
  have hb : (s.j + 1) * 80 ≤ 140737488355328 := by omega
  have htx : (cells encT (l.take s.j) ++ ([.pv (.lit (.int .i64 a)), .pv (.lit (.int .i64 1)), .pv (.lit (.int .i64 0)), .pv (.lit (.int .i64 0)), .pv (.slc []), .pv (.slc [])] : List DV)).take ((s.j + 1) * 6) = cells encT (l.take s.j) ++ [.pv (.lit (.int .i64 a)), .pv (.lit (.int .i64 1)), .pv (.lit (.int .i64 0)), .pv (.lit (.int .i64 0)), .pv (.slc []), .pv (.slc [])] := by
    rw [List.take_of_length_le]; rw [List.length_append, hcl]; simp; omega
  have hb2 : (s.j + 1 + (l.length - s.j)) * 80 ≤ 140737488355328 := by omega
  have hb3 : (s.j + 1) * 6 ≤ s.j * 6 + 6 := by omega
  have hw : DV.wk.go (cells encT (l.take s.j) ++ [.pv (.lit (.int .i64 a)), .pv (.lit (.int .i64 1)), .pv (.lit (.int .i64 0)), .pv (.lit (.int .i64 0)), .pv (.slc []), .pv (.slc [])] ++ cells encT (l.drop s.j)) = cells encT (l.take s.j ++ ⟨a, 1, 0, 0, [], []⟩ :: l.drop s.j) := by
    rw [wk_goA, wk_goA, wk_T, wk_T, cells_app, List.append_assoc]
    rfl
  have hfl : (l.take s.j ++ (⟨a, 1, 0, 0, [], []⟩ : Tx) :: l.drop s.j).length = s.j + 1 + (l.length - s.j) := by
    rw [List.length_append, List.length_cons, List.length_drop, htl]; omega
  have F := (And.intro @hg (And.intro @hts (And.intro @hcl (And.intro @hta (And.intro @hb (And.intro @htx (And.intro @hb2 @hb3)))))))
  refine rn F ?_
  repeat' (first
    | (refine sG F ?_ ?_ <;> intro hZ <;> try with_reducible exact ⟨⟩)
    | (refine sB F ?_ ?_ <;> intro hZ <;> try with_reducible exact ⟨⟩)
    | (refine sD F ?_ ?_ <;> intro hZ <;> try with_reducible exact ⟨⟩)
    | (refine vspine (id := 14) [0, 1, 2, 5, 6, 7, 8] [⟨[3], [3], 4, [1, 2, 5, 6, 7, 8], []⟩, ⟨[], [], 9, [0, 1, 2, 5, 6, 7], []⟩, ⟨[], [], 10, [], []⟩, ⟨[], [], 11, [], []⟩] (by kernel_rfl) (by kernel_rfl) ?_; refine rn F ?_; try with_reducible exact ⟨⟩)
    | (refine vdraw (by kernel_rfl) (by kernel_rfl) ?_; refine rn F ?_; try with_reducible exact ⟨⟩))
  all_goals first
    | (refine ⟨⟨s.j + 1, by omega, fun k h' hkj => ?_⟩, by show l.length - (s.j + 1) < l.length - s.j; omega, (gc [2])⟩
       rcases Nat.lt_or_ge k s.j with h | h
       · exact hlt k h' h
       · obtain rfl : k = s.j := by omega
         rw [← getD_eq l s.j h' Tx0]
         assumption)
    | (rw [hf (fun h => by first | (rw [← getD_eq l s.j h Tx0]; exact Int.not_lt.2 (by assumption)) | (clear F hg hts hf hlt htx hw; omega))]
       refine vcut_wk ?_
       subst hrest
       simp (config := { maxSteps := 2000000 }) (implicitDefEqProofs := false) (disch := first | omega | assumption) only [go_sem, ↓reduceIte, Nat.reduceLT, Nat.reduceBEq, Int.reduceLT, Int.reduceBEq, Tryz.f118, hw, frzT hfl]
       rfl)
end
section
attribute [local go_sem] Tx.d lenT allT appT slkT srcT frzT lenI allI appI slkI srcI frzI mem_ok List.length_append List.length_take List.length_drop List.take_length toNat_succ toNat_pred toNat_add toNat_sub
theorem filt_succ (q : List Int) (r : Int) (i : Nat) (h : i < q.length) : (q.take (i + 1)).filter (fun x => decide (x ≠ r)) = (q.take i).filter (fun x => decide (x ≠ r)) ++ (if q.getD i 0 = r then [] else [q.getD i 0]) := by
  rw [List.take_succ_eq_append_getElem h, List.filter_append, getD_eq q i h]
  by_cases hx : q[i] = r <;> simp [hx]
theorem filt_le (q : List Int) (r : Int) (i : Nat) : ((q.take i).filter fun x => decide (x ≠ r)).length ≤ i := by
  refine Nat.le_trans (List.length_filter_le _ _) ?_
  rw [List.length_take]; omega
theorem filt_eq (q : List Int) (r : Int) : (q.filter fun x => decide (x ≠ r)).length = q.length ↔ r ∉ q := by
  rw [List.length_filter_eq_length_iff]
  constructor
  · intro h hm; simpa using h r hm
  · intro h x hx; exact decide_eq_true fun e => h (e ▸ hx)
theorem rnote_v (l : List Tx) (hs : smL l) (e : E) : VCalls prog 171 [.pv (.sl (fz encT l)), .agg e.d] [] (Ret (tblD (noteS l e))) := by
  refine VCalls.unwk ?_
  have c1 := rtvalid_v l hs
  have c2 := rvalid_v e
  have c3 := rfind0_v l hs.1 e.tx
  have c4 := rremove_v l hs.1 e.tx
  have hw := fun (i : Nat) (hi : i < l.length) (t : Tx) => rset_v l hs.1 i hi t
  have hok := @okB_kind e
  have hat := @noteS_at l e
  have e0 : noteS l e = if tblB l = false then ([], 15) else if e.okB = false then ([], 12) else if e.tx = 0 then (l, 0) else if idT l e.tx < 0 then ([], 16)
    else noteA l (idT l e.tx).toNat (l.getD (idT l e.tx).toNat Tx0) e := rfl
  by_cases hv : tblB l = true
  rotate_left
  · have hv' : tblB l = false := by simpa using hv
    rw [e0, if_pos hv']
    rw [hv'] at c1
    refine dd Tryz.func171 ?_
    unfold E.d
    (unfold Tryz.f171; refine rn trivial ?_)
    refine rn F ?_
    repeat' (first
      | with_reducible exact ⟨⟩
      | refine vp F (c1) ?_)
    rfl
  by_cases hk : e.okB = true
  rotate_left
  · have hk' : e.okB = false := by simpa using hk
    rw [e0, if_neg (by rw [hv]; decide), if_pos hk']
    rw [hv] at c1
    rw [hk'] at c2
    unfold E.d at c2 ⊢
    refine dd Tryz.func171 ?_
    (unfold Tryz.f171; refine rn trivial ?_)
    refine rn F ?_
    repeat' (first
      | with_reducible exact ⟨⟩
      | refine vp F (c1) ?_
      | refine vp F (c2) ?_)
    rfl
  by_cases ht : e.tx = 0
  · rw [e0, if_neg (by rw [hv]; decide), if_neg (by rw [hk]; decide), if_pos ht]
    rw [hv] at c1
    rw [hk] at c2
    unfold E.d at c2 ⊢
    refine dd Tryz.func171 ?_
    (unfold Tryz.f171; refine rn trivial ?_)
    have F := @ht
    refine rn F ?_
    repeat' (first
      | with_reducible exact ⟨⟩
      | refine vp F (c1) ?_
      | refine vl F (c2) ?_)
    rfl
  rw [hv] at c1
  rw [hk] at c2
  rcases idT_cases l e.tx with h | ⟨i, hi, h, hid⟩
  · rw [e0, if_neg (by rw [hv]; decide), if_neg (by rw [hk]; decide), if_neg ht, h, if_pos (by decide)]
    rw [h] at c3
    unfold E.d at c2 ⊢
    refine dd Tryz.func171 ?_
    (unfold Tryz.f171; refine rn trivial ?_)
    have F := @ht
    refine rn F ?_
    repeat' (first
      | with_reducible exact ⟨⟩
      | refine vp F (c1) ?_
      | refine vp F (c2) ?_
      | refine vp F (c3) ?_)
    all_goals first | rfl | contradiction
  rw [hat hv hk ht hi h]
  have hkk := hok hk ht
  rw [h] at c3
  have hg := fzT_at l i hi
  have hto := tblB_at hv hi
  have hso := okB_asc hto
  have hle := okB_len hto
  clear hat e0 hok
  generalize hT : l[i] = t at *
  obtain ⟨id, st, n, b, q, s⟩ := t
  dsimp only at hid hso hle hg
  obtain ⟨lsn, kind, tx, ptx, ppg, ref, c, blob⟩ := e
  dsimp only at hid c4 c3 h hkk ht
  unfold E.d at c2 ⊢
  dsimp only at c2 ⊢
  unfold noteA
  dsimp only
  by_cases hp : ptx = n
  rotate_left
  · rw [if_pos (.inl hp)]
    refine dd Tryz.func171 ?_
    (unfold Tryz.f171; refine rn trivial ?_)
    have F := (And.intro @ht @hg)
    refine rn F ?_
    repeat' (first
      | with_reducible exact ⟨⟩
      | refine vp F (c1) ?_
      | refine vp F (c2) ?_
      | refine vp F (c3) ?_)
    all_goals first | rfl | contradiction | omega
  subst hp
  rcases hkk with rfl | rfl | rfl | rfl | rfl
  · rw [if_neg (by rintro (h | h); exact h rfl; omega), if_neg (by omega)]
    have hwA := hw i hi (settleS (noteT ⟨id, st, ptx, b, q, s⟩ ⟨lsn, 1, tx, ptx, ppg, ref, c, blob⟩))
    have hse := rsettle_v (noteT ⟨id, st, ptx, b, q, s⟩ ⟨lsn, 1, tx, ptx, ppg, ref, c, blob⟩)
    have eN : noteT ⟨id, st, ptx, b, q, s⟩ ⟨lsn, 1, tx, ptx, ppg, ref, c, blob⟩ = ⟨id, st, lsn, b, q ++ [lsn], s⟩ := rfl
    rw [eN] at hwA hse ⊢
    replace hse := hse ⟨by simp; omega, by show s.length ≤ _; omega⟩
    generalize settleS ⟨id, st, lsn, b, q ++ [lsn], s⟩ = u at *
    refine dd Tryz.func171 ?_
    (unfold Tryz.f171; refine rn trivial ?_)
    have F := (And.intro @ht (And.intro @hg @app_I))
    refine rn F ?_
    repeat' (first
      | with_reducible exact ⟨⟩
      | refine vp F (c1) ?_
      | refine vp F (c2) ?_
      | refine vp F (c3) ?_
      | (refine vc_giveA [4] _ _ (hse) rfl ⟨⟨by simp, cells_nums _ _ _⟩, trivial⟩ (by decide) rfl (by simp [DV.nums.go, DV.nums]) ?_ ?_; (focus (refine rd F)); refine rn F ?_)
      | refine vp F (hwA) ?_
      | (refine vspine (id := 17) [0, 1, 3, 4] [⟨[5], [], 2, [0, 3, 4], []⟩, ⟨[5], [5], 6, [0, 1, 3, 4], [7]⟩, ⟨[], [], 8, [], []⟩] (by kernel_rfl) (by kernel_rfl) ?_; refine rn F ?_))
    all_goals first | rfl | skip
  · refine dd Tryz.func171 ?_
    (unfold Tryz.f171; refine rn trivial ?_)
    have F := (And.intro @ht @hg)
    refine rn F ?_
    repeat' (first
      | with_reducible exact ⟨⟩
      | refine vp F (c1) ?_
      | refine vp F (c2) ?_
      | refine vp F (c3) ?_)
    rotate_left
    all_goals first | contradiction | skip
    refine VLoop.nilOwn 8 3 1 rfl ?_
    refine vloopW (fun s0 : To q.length => ⟨100, 0, [(9, .int .i64 s0.i), (8, .own 2 1 0 ((q.take s0.i).filter fun x => decide (x ≠ ref)).length), (7, .ptr 1 0), (6, .int .i64 i), (3, .ptr 0 0), (0, .pv (.sl (fz encT l)))],
      [⟨46, true, [.int .i64 lsn, .int .i64 2, .int .i64 tx, .int .i64 ptx, .int .i64 ppg, .int .i64 ref, .int .i64 c.pg, .int .i64 c.sl, .bool c.b.set, .pv (.str c.b.data), .bool c.a.set, .pv (.str c.a.data), .pv (.str blob)]⟩,
       ⟨236, true, [.int .i64 id, .int .i64 st, .int .i64 lsn, .int .i64 b, .pv (.sl (fz encI q)), .pv (.sl (fz encI s))]⟩,
       ⟨3, true, cells encI ((q.take s0.i).filter fun x => decide (x ≠ ref))⟩]⟩) (fun s0 => q.length - s0.i) ⟨0, Nat.zero_le _⟩ (gc [0, 1, 2]) ?_
    intro s0
    have hi0 := s0.hi
    have hgq := fun h : s0.i < q.length => fzI_get q s0.i h
    have hfl := filt_le q ref s0.i
    have hfs := filt_succ q ref s0.i
    have hwA := hw i hi (settleS (noteT ⟨id, st, ptx, b, q, s⟩ ⟨lsn, 2, tx, ptx, ppg, ref, c, blob⟩))
    have hse := rsettle_v (noteT ⟨id, st, ptx, b, q, s⟩ ⟨lsn, 2, tx, ptx, ppg, ref, c, blob⟩)
    have eN : noteT ⟨id, st, ptx, b, q, s⟩ ⟨lsn, 2, tx, ptx, ppg, ref, c, blob⟩ = ⟨id, st, lsn, b, q.filter fun x => decide (x ≠ ref), s⟩ := rfl
    have hfq := filt_eq q ref
    rw [eN] at hwA hse ⊢
    have hfl2 : (q.filter fun x => decide (x ≠ ref)).length ≤ q.length := List.length_filter_le _ _
    replace hse := hse ⟨by show (q.filter fun x => decide (x ≠ ref)).length ≤ _; omega, by show s.length ≤ _; omega⟩
    by_cases hc : s0.i < q.length
    · replace hfs := hfs hc
      generalize ((q.take s0.i).filter fun x => decide (x ≠ ref)) = out at *
      have hb : (out.length + 1) * 8 ≤ 140737488355328 := by omega
      have F := (And.intro @hgq (And.intro @app_I @hb))
      refine rn F ?_
      repeat' (first
        | with_reducible exact ⟨⟩
        | (refine sB F ?_ ?_ <;> intro hZ)
        | (refine vspine (id := 23) [0, 1, 2, 3, 4, 5, 6, 7] [] (by kernel_rfl) (by kernel_rfl) ?_; refine rn F ?_))
      · have hf2 : (q.take (s0.i + 1)).filter (fun x => decide ¬x = ref) = out ++ [q.getD s0.i 0] := by rw [if_neg (by assumption)] at hfs; exact hfs
        refine ⟨⟨s0.i + 1, by omega⟩, by show q.length - (s0.i + 1) < q.length - s0.i; omega, ?_⟩
        dsimp only
        rw [hf2, List.length_append]
        exact (gc [0, 1, 4])
      · have hf2 : (q.take (s0.i + 1)).filter (fun x => decide ¬x = ref) = out := by rw [if_pos (by assumption), List.append_nil] at hfs; exact hfs
        refine ⟨⟨s0.i + 1, by omega⟩, by show q.length - (s0.i + 1) < q.length - s0.i; omega, ?_⟩
        dsimp only
        rw [hf2]
        exact (gc [0, 1, 2])
    · rw [List.take_of_length_le (by omega)] at *
      generalize (q.filter fun x => decide (x ≠ ref)) = out at *
      generalize settleS ⟨id, st, lsn, b, out, s⟩ = u at *
      have F := trivial
      refine rn F ?_
      repeat' (first
        | with_reducible exact ⟨⟩
        | (refine sB F ?_ ?_ <;> intro hZ)
        | (refine vc_giveA [2] _ _ (hse) rfl ⟨⟨by simp, cells_nums _ _ _⟩, trivial⟩ (by decide) rfl (by simp [DV.nums.go, DV.nums]) ?_ ?_; (focus (refine rd F)); refine rn F ?_)
        | refine vp F (hwA) ?_)
      all_goals first | (rw [if_pos (hfq.1 (by omega))]; rfl) | (rw [if_neg (fun h => absurd (hfq.2 h) (by omega))]; rfl) | skip
  · rw [if_neg (by rintro (h | h); exact h rfl; omega), if_pos (by omega)]
    refine dd Tryz.func171 ?_
    (unfold Tryz.f171; refine rn trivial ?_)
    have F := (And.intro @ht @hg)
    refine rn F ?_
    repeat' (first
      | with_reducible exact ⟨⟩
      | refine vp F (c1) ?_
      | refine vp F (c2) ?_
      | refine vp F (c3) ?_
      | refine vp F (c4) ?_)
    all_goals rfl
  · rw [if_neg (by rintro (h | h); exact h rfl; omega), if_neg (by omega)]
    have hwA := hw i hi (settleS (noteT ⟨id, st, ptx, b, q, s⟩ ⟨lsn, 4, tx, ptx, ppg, ref, c, blob⟩))
    have hse := rsettle_v (noteT ⟨id, st, ptx, b, q, s⟩ ⟨lsn, 4, tx, ptx, ppg, ref, c, blob⟩)
    have eN : noteT ⟨id, st, ptx, b, q, s⟩ ⟨lsn, 4, tx, ptx, ppg, ref, c, blob⟩ = ⟨id, 3, lsn, 0, q, []⟩ := rfl
    rw [eN] at hwA hse ⊢
    replace hse := hse ⟨by show q.length ≤ _; omega, by simp⟩
    have hse2 : VCalls prog 214 [.agg [.int .i64 id, .int .i64 3, .int .i64 lsn, .int .i64 0, .pv (.sl (fz encI q)), .pv (.slc [])]] [] (Ret (.agg (settleS ⟨id, 3, lsn, 0, q, []⟩).d)) := VCalls.wkA hse
    generalize settleS ⟨id, 3, lsn, 0, q, []⟩ = u at *
    refine dd Tryz.func171 ?_
    (unfold Tryz.f171; refine rn trivial ?_)
    have F := (And.intro @ht @hg)
    refine rn F ?_
    repeat' (first
      | with_reducible exact ⟨⟩
      | refine vp F (c1) ?_
      | refine vp F (c2) ?_
      | refine vp F (c3) ?_
      | refine vp F (hse2) ?_
      | refine vp F (hwA) ?_)
    all_goals rfl
  · rw [if_neg (by rintro (h | h); exact h rfl; omega), if_pos (by omega)]
    refine dd Tryz.func171 ?_
    (unfold Tryz.f171; refine rn trivial ?_)
    have F := (And.intro @ht @hg)
    refine rn F ?_
    repeat' (first
      | with_reducible exact ⟨⟩
      | refine vp F (c1) ?_
      | refine vp F (c2) ?_
      | refine vp F (c3) ?_
      | refine vp F (c4) ?_)
    all_goals rfl
end
attribute [go_sem] Ce.d Ch.d E.d Lg.c mem_ok List.length_append List.length_take List.length_drop List.take_length toNat_succ toNat_pred
attribute [go_sem] lenE allE appE srcE frzE app_E
theorem Okay.no {n : Nat} {c : Nat → Bool} (s : Okay n c) {B : Bool} (h : s.i < n) (hB : B = (List.range n).all c) (hc : c s.i = false) : B = false := by rw [hB, all_not h hc]
theorem Okay.yes {n : Nat} {c : Nat → Bool} (s : Okay n c) {B : Bool} (h : ¬ s.i < n) (hB : B = (List.range n).all c) : B = true := by rw [hB, s.all h]
theorem Okay.dec {n : Nat} {c : Nat → Bool} (s : Okay n c) (h : s.i < n) : n - (s.i + 1) < n - s.i := by omega
structure Pg where
  id : Int
  lsn : Int
  cel : Nat → Ce
def celP (c : Nat → Ce) : List PV := (List.range 16).flatMap fun i => [.lit (.bool (c i).set), .str (c i).data]
def Pg.p (x : Pg) : List PV := .lit (.int .i64 x.id) :: .lit (.int .i64 x.lsn) :: celP x.cel
def Pg.d (x : Pg) : List DV := x.p.map .pv
def Pg0 : Pg := ⟨0, 0, fun _ => Ce0⟩
structure Fm where
  pg : Pg
  dirty : Bool
  rc : Int
  used : Bool
def Fm.p (f : Fm) : List PV := f.pg.p ++ [.lit (.bool f.dirty), .lit (.int .i64 f.rc), .lit (.bool f.used)]
def Fm.d (f : Fm) : List DV := f.p.map .pv
def Fm0 : Fm := ⟨Pg0, false, 0, false⟩
def encF : Enc Fm := ⟨37, Fm.p, by decide, fun _ => rfl⟩
theorem lenF (l : List Fm) : (cells encF l).length = l.length * 37 := cells_len encF l
theorem allF (l : List Fm) (n : Nat) (h : l.length * 37 ≤ n) : (cells encF l).take n = cells encF l := by rw [List.take_of_length_le]; rw [lenF]; exact h
theorem appF (l m : List Fm) : cells encF l ++ cells encF m = cells encF (l ++ m) := (cells_app encF l m).symm
theorem slkF (l : List Fm) (T : TypeId) (a b : Nat) (h : a ≤ b ∧ b ≤ l.length) : vslk (some (none, T, 37)) (fz encF l) a b = some (.pv (.sl (fz encF ((l.take b).drop a)))) := vslk_fz encF l T a b h
theorem srcF (l : List Fm) : (fz encF l = [] ∨ (fz encF l)[0]?.map List.length = some 37) = True := fz_src encF l
theorem frzF {n : Nat} {hp : Heap} {len : Nat} {l : List Fm} (h : l.length = len) : frzC n hp 0 37 len (some (cells encF l)) = some (.sl (fz encF l)) := frzC_cells encF h
theorem fz_getD {α : Type} (e : Enc α) (l : List α) (d : α) (i : Nat) (h : i < l.length) : (fz e l)[i]? = some (e.enc (l.getD i d)) := by rw [getD_eq l i h d]; exact fz_get e l i h
theorem fzF_at (l : List Fm) (i : Nat) (h : i < l.length) : (fz encF l)[i]? = some (l.getD i Fm0).p := fz_getD encF l Fm0 i h
theorem app_F (l : List Fm) (f : Fm) : cells encF l ++ f.d = cells encF (l ++ [f]) := by rw [cells_app]; simp [cells, encF, Fm.d]
@[go_sem] theorem viasF (x : Fm) {T : TypeId} {i : Int} (h0 : 0 ≤ i) : vias (some (none, T, 37)) (some x.p) i = some (.ip x.p) := vias_some h0 rfl (by decide)
@[go_sem] theorem Pg.p_len (x : Pg) : x.p.length = 34 := rfl
@[go_sem] theorem Pg.d_len (x : Pg) : x.d.length = 34 := rfl
@[go_sem] theorem Fm.p_len (x : Fm) : x.p.length = 37 := rfl
@[go_sem] theorem Fm.d_len (x : Fm) : x.d.length = 37 := rfl
@[go_sem] theorem Pg.p_map (x : Pg) : x.p.map DV.pv = x.d := (rfl)
@[go_sem] theorem Fm.p_map (x : Fm) : x.p.map DV.pv = x.d := (rfl)
@[go_sem] theorem Fm.p_take (x : Fm) : x.p.take 37 = x.p := (rfl)
@[go_sem] theorem Fm.d_take (x : Fm) : x.d.take 37 = x.d := (rfl)
@[go_sem] theorem Pg.p_take (x : Pg) : x.p.take 34 = x.p := (rfl)
@[go_sem] theorem Pg.d_take (x : Pg) : x.d.take 34 = x.d := (rfl)
@[go_sem] theorem Fm.p_pg (x : Fm) : x.p.take 34 = x.pg.p := (rfl)
@[go_sem] theorem Fm.d_pg (x : Fm) : x.d.take 34 = x.pg.d := (rfl)
@[go_sem] theorem Fm.p0 (x : Fm) : x.p[0]? = some (.lit (.int .i64 x.pg.id)) := (rfl)
theorem Fm.p1 (x : Fm) : x.p[1]? = some (.lit (.int .i64 x.pg.lsn)) := (rfl)
@[go_sem] theorem Fm.pd1 (x : Fm) : (x.p.drop 1)[0]? = some (.lit (.int .i64 x.pg.lsn)) := (rfl)
@[go_sem] theorem Fm.pd34 (x : Fm) : (x.p.drop 34)[0]? = some (.lit (.bool x.dirty)) := (rfl)
@[go_sem] theorem Fm.pd35 (x : Fm) : (x.p.drop 35)[0]? = some (.lit (.int .i64 x.rc)) := (rfl)
@[go_sem] theorem Fm.pd36 (x : Fm) : (x.p.drop 36)[0]? = some (.lit (.bool x.used)) := (rfl)
@[go_sem] theorem Fm.d0 (x : Fm) : x.d[0]? = some (.pv (.lit (.int .i64 x.pg.id))) := (rfl)
@[go_sem] theorem Fm.d1 (x : Fm) : x.d[1]? = some (.pv (.lit (.int .i64 x.pg.lsn))) := (rfl)
@[go_sem] theorem Fm.d34 (x : Fm) : x.d[34]? = some (.pv (.lit (.bool x.dirty))) := (rfl)
@[go_sem] theorem Fm.d35 (x : Fm) : x.d[35]? = some (.pv (.lit (.int .i64 x.rc))) := (rfl)
@[go_sem] theorem Pg.p0 (x : Pg) : x.p[0]? = some (.lit (.int .i64 x.id)) := (rfl)
theorem Pg.p1 (x : Pg) : x.p[1]? = some (.lit (.int .i64 x.lsn)) := (rfl)
@[go_sem] theorem Pg.d0 (x : Pg) : x.d[0]? = some (.pv (.lit (.int .i64 x.id))) := (rfl)
@[go_sem] theorem Pg.d1 (x : Pg) : x.d[1]? = some (.pv (.lit (.int .i64 x.lsn))) := (rfl)
@[go_sem] theorem Pg.d_one (x : Pg) : allOne x.d = true := (rfl)
@[go_sem] theorem Fm.d_one (x : Fm) : allOne x.d = true := (rfl)
@[go_sem] theorem Pg.d_nums (x : Pg) (k : Nat → Bool) : DV.nums.go k x.d = true := (rfl)
@[go_sem] theorem Fm.d_nums (x : Fm) (k : Nat → Bool) : DV.nums.go k x.d = true := (rfl)
@[go_sem] theorem Fm.set34 (x : Fm) (b : Bool) : x.d.set 34 (.pv (.lit (.bool b))) = Fm.d ⟨x.pg, b, x.rc, x.used⟩ := (rfl)
@[go_sem] theorem Fm.set35 (x : Fm) (b : Int) : x.d.set 35 (.pv (.lit (.int .i64 b))) = Fm.d ⟨x.pg, x.dirty, b, x.used⟩ := (rfl)
@[go_sem] theorem Fm.set36 (x : Fm) (b : Bool) : x.d.set 36 (.pv (.lit (.bool b))) = Fm.d ⟨x.pg, x.dirty, x.rc, b⟩ := (rfl)
@[go_sem] theorem Fm.setpg (x : Fm) (p : Pg) : p.d ++ x.d.drop 34 = Fm.d ⟨p, x.dirty, x.rc, x.used⟩ := (rfl)
@[go_sem] theorem Fm.mk36 (x : Pg) (a c u : Bool) (b : Int) : (x.d ++ ([.pv (.lit (.bool a)), .pv (.lit (.int .i64 b)), .pv (.lit (.bool c))] : List DV)).take 36 ++ [.pv (.lit (.bool u))] ++ (x.d ++ ([.pv (.lit (.bool a)), .pv (.lit (.int .i64 b)), .pv (.lit (.bool c))] : List DV)).drop 37 = Fm.d ⟨x, a, b, u⟩ := (rfl)
@[go_sem] theorem Pg.set1 (x : Pg) (b : Int) : x.d.set 1 (.pv (.lit (.int .i64 b))) = Pg.d ⟨x.id, b, x.cel⟩ := (rfl)
@[go_sem] theorem Pg.d_drop (x : Pg) : x.d.drop 34 = [] := (rfl)
@[go_sem] theorem Fm.d_drop (x : Fm) : x.d.drop 37 = [] := (rfl)
theorem pvs_frz1 (n : Nat) (hp : Heap) : ∀ l : List PV, allSome ((l.map DV.pv).map (frz1 n hp)) = some (l.map DV.pv)
  | [] => rfl
  | p :: l => by show allSome (some (.pv p) :: (l.map DV.pv).map (frz1 n hp)) = _; rw [allSome_cons, pvs_frz1 n hp l]; rfl
@[go_sem] theorem Pg.d_frz1 (x : Pg) (n : Nat) (hp : Heap) : allSome (x.d.map (frz1 n hp)) = some x.d := pvs_frz1 n hp x.p
@[go_sem] theorem Fm.d_frz1 (x : Fm) (n : Nat) (hp : Heap) : allSome (x.d.map (frz1 n hp)) = some x.d := pvs_frz1 n hp x.p
@[go_sem] theorem Pg.d_wk (x : Pg) : DV.wk.go x.d = x.d := (rfl)
@[go_sem] theorem Fm.d_wk (x : Fm) : DV.wk.go x.d = x.d := (rfl)
theorem cel_at (x : Pg) (i : Nat) (h : i < 16) : (x.d.drop (2 + i * 2)).take 2 = [.pv (.lit (.bool (x.cel i).set)), .pv (.str (x.cel i).data)] := by
  have : i = 0 ∨ i = 1 ∨ i = 2 ∨ i = 3 ∨ i = 4 ∨ i = 5 ∨ i = 6 ∨ i = 7 ∨ i = 8 ∨ i = 9 ∨ i = 10 ∨ i = 11 ∨ i = 12 ∨ i = 13 ∨ i = 14 ∨ i = 15 := by omega
  rcases this with h | h | h | h | h | h | h | h | h | h | h | h | h | h | h | h <;> subst h <;> rfl
theorem cel_at0 (x : Pg) (i : Nat) (h : i < 16) : x.d[2 + i * 2]? = some (.pv (.lit (.bool (x.cel i).set))) := by
  have : i = 0 ∨ i = 1 ∨ i = 2 ∨ i = 3 ∨ i = 4 ∨ i = 5 ∨ i = 6 ∨ i = 7 ∨ i = 8 ∨ i = 9 ∨ i = 10 ∨ i = 11 ∨ i = 12 ∨ i = 13 ∨ i = 14 ∨ i = 15 := by omega
  rcases this with h | h | h | h | h | h | h | h | h | h | h | h | h | h | h | h <;> subst h <;> rfl
def Pg.setc (x : Pg) (i : Nat) (c : Ce) : Pg := ⟨x.id, x.lsn, fun k => if k = i then c else x.cel k⟩
theorem cel_set (x : Pg) (i : Nat) (h : i < 16) (c : Ce) : splice x.d (2 + i * 2) [.pv (.lit (.bool c.set)), .pv (.str c.data)] = (x.setc i c).d := by
  have : i = 0 ∨ i = 1 ∨ i = 2 ∨ i = 3 ∨ i = 4 ∨ i = 5 ∨ i = 6 ∨ i = 7 ∨ i = 8 ∨ i = 9 ∨ i = 10 ∨ i = 11 ∨ i = 12 ∨ i = 13 ∨ i = 14 ∨ i = 15 := by omega
  rcases this with h | h | h | h | h | h | h | h | h | h | h | h | h | h | h | h <;> subst h <;> rfl
structure Rw where
  lsn : Int
  im : Int
  at_ : Int
def encR : Enc Rw := ⟨3, fun r => [.lit (.int .i64 r.lsn), .lit (.int .i64 r.im), .lit (.int .i64 r.at_)], by decide, fun _ => rfl⟩
@[go_sem] def Rw.d (r : Rw) : List DV := [.int .i64 r.lsn, .int .i64 r.im, .int .i64 r.at_]
theorem lenR (l : List Rw) : (cells encR l).length = l.length * 3 := cells_len encR l
theorem allR (l : List Rw) (n : Nat) (h : l.length * 3 ≤ n) : (cells encR l).take n = cells encR l := by rw [List.take_of_length_le]; rw [lenR]; exact h
theorem srcR (l : List Rw) : (fz encR l = [] ∨ (fz encR l)[0]?.map List.length = some 3) = True := fz_src encR l
theorem frzR {n : Nat} {hp : Heap} {len : Nat} {l : List Rw} (h : l.length = len) : frzC n hp 0 3 len (some (cells encR l)) = some (.sl (fz encR l)) := frzC_cells encR h
def Rw0 : Rw := ⟨0, 0, 0⟩
theorem fzR_at (l : List Rw) (i : Nat) (h : i < l.length) : (fz encR l)[i]? = some [.lit (.int .i64 (l.getD i Rw0).lsn), .lit (.int .i64 (l.getD i Rw0).im), .lit (.int .i64 (l.getD i Rw0).at_)] := fz_getD encR l Rw0 i h
theorem app_R (l : List Rw) (a b c : Int) : cells encR l ++ [.pv (.lit (.int .i64 a)), .pv (.lit (.int .i64 b)), .pv (.lit (.int .i64 c))] = cells encR (l ++ [⟨a, b, c⟩]) := by rw [cells_app]; rfl
structure Dt where
  pg : Int
  rc : Int
  last : Int
def encY : Enc Dt := ⟨3, fun r => [.lit (.int .i64 r.pg), .lit (.int .i64 r.rc), .lit (.int .i64 r.last)], by decide, fun _ => rfl⟩
@[go_sem] def Dt.d (r : Dt) : List DV := [.int .i64 r.pg, .int .i64 r.rc, .int .i64 r.last]
theorem lenY (l : List Dt) : (cells encY l).length = l.length * 3 := cells_len encY l
theorem allY (l : List Dt) (n : Nat) (h : l.length * 3 ≤ n) : (cells encY l).take n = cells encY l := by rw [List.take_of_length_le]; rw [lenY]; exact h
theorem frzY {n : Nat} {hp : Heap} {len : Nat} {l : List Dt} (h : l.length = len) : frzC n hp 0 3 len (some (cells encY l)) = some (.sl (fz encY l)) := frzC_cells encY h
def Dt0 : Dt := ⟨0, 0, 0⟩
theorem fzY_at (l : List Dt) (i : Nat) (h : i < l.length) : (fz encY l)[i]? = some [.lit (.int .i64 (l.getD i Dt0).pg), .lit (.int .i64 (l.getD i Dt0).rc), .lit (.int .i64 (l.getD i Dt0).last)] := fz_getD encY l Dt0 i h
theorem app_Y (l : List Dt) (a b c : Int) : cells encY l ++ [.pv (.lit (.int .i64 a)), .pv (.lit (.int .i64 b)), .pv (.lit (.int .i64 c))] = cells encY (l ++ [⟨a, b, c⟩]) := by rw [cells_app]; rfl
structure Gr where
  tx : Int
  pg : Int
  sl : Int
  md : Int
def Gr0 : Gr := ⟨0, 0, 0, 0⟩
def encG : Enc Gr := ⟨4, fun g => [.lit (.int .i64 g.tx), .lit (.int .i64 g.pg), .lit (.int .i64 g.sl), .lit (.int .i64 g.md)], by decide, fun _ => rfl⟩
@[go_sem] def Gr.d (g : Gr) : List DV := [.int .i64 g.tx, .int .i64 g.pg, .int .i64 g.sl, .int .i64 g.md]
theorem lenG (l : List Gr) : (cells encG l).length = l.length * 4 := cells_len encG l
theorem allG (l : List Gr) (n : Nat) (h : l.length * 4 ≤ n) : (cells encG l).take n = cells encG l := by rw [List.take_of_length_le]; rw [lenG]; exact h
theorem appG (l m : List Gr) : cells encG l ++ cells encG m = cells encG (l ++ m) := (cells_app encG l m).symm
theorem slkG (l : List Gr) (T : TypeId) (a b : Nat) (h : a ≤ b ∧ b ≤ l.length) : vslk (some (none, T, 4)) (fz encG l) a b = some (.pv (.sl (fz encG ((l.take b).drop a)))) := vslk_fz encG l T a b h
theorem srcG (l : List Gr) : (fz encG l = [] ∨ (fz encG l)[0]?.map List.length = some 4) = True := fz_src encG l
theorem frzG {n : Nat} {hp : Heap} {len : Nat} {l : List Gr} (h : l.length = len) : frzC n hp 0 4 len (some (cells encG l)) = some (.sl (fz encG l)) := frzC_cells encG h
theorem fzG_at (l : List Gr) (i : Nat) (h : i < l.length) : (fz encG l)[i]? = some [.lit (.int .i64 (l.getD i Gr0).tx), .lit (.int .i64 (l.getD i Gr0).pg), .lit (.int .i64 (l.getD i Gr0).sl), .lit (.int .i64 (l.getD i Gr0).md)] := fz_getD encG l Gr0 i h
theorem app_G (l : List Gr) (a b c d : Int) : cells encG l ++ [.pv (.lit (.int .i64 a)), .pv (.lit (.int .i64 b)), .pv (.lit (.int .i64 c)), .pv (.lit (.int .i64 d))] = cells encG (l ++ [⟨a, b, c, d⟩]) := by rw [cells_app]; rfl
theorem fzE_g (l : List E) (i : Nat) (h : i < l.length) : (fz encE l)[i]? = some [.lit (.int .i64 (l.getD i E0).lsn), .lit (.int .i64 (l.getD i E0).kind), .lit (.int .i64 (l.getD i E0).tx), .lit (.int .i64 (l.getD i E0).ptx), .lit (.int .i64 (l.getD i E0).ppg), .lit (.int .i64 (l.getD i E0).ref), .lit (.int .i64 (l.getD i E0).c.pg), .lit (.int .i64 (l.getD i E0).c.sl), .lit (.bool (l.getD i E0).c.b.set), .str (l.getD i E0).c.b.data, .lit (.bool (l.getD i E0).c.a.set), .str (l.getD i E0).c.a.data, .str (l.getD i E0).blob] := fz_getD encE l E0 i h
theorem fzT_g (l : List Tx) (i : Nat) (h : i < l.length) : (fz encT l)[i]? = some [.lit (.int .i64 (l.getD i Tx0).id), .lit (.int .i64 (l.getD i Tx0).st), .lit (.int .i64 (l.getD i Tx0).n), .lit (.int .i64 (l.getD i Tx0).b), .sl (fz encI (l.getD i Tx0).l), .sl (fz encI (l.getD i Tx0).s)] := fz_getD encT l Tx0 i h
theorem wk_E (l : List E) : DV.wk.go (cells encE l) = cells encE l := wk_cells encE l fun a p hp => by
  simp [encE] at hp
  rcases hp with h | h | h | h | h | h | h | h | h | h | h | h | h <;> subst h <;> rfl
theorem wk_G (l : List Gr) : DV.wk.go (cells encG l) = cells encG l := wk_cells encG l fun a p hp => by
  simp [encG] at hp
  rcases hp with h | h | h | h <;> subst h <;> rfl
theorem wk_R (l : List Rw) : DV.wk.go (cells encR l) = cells encR l := wk_cells encR l fun a p hp => by
  simp [encR] at hp
  rcases hp with h | h | h <;> subst h <;> rfl
theorem wk_Y (l : List Dt) : DV.wk.go (cells encY l) = cells encY l := wk_cells encY l fun a p hp => by
  simp [encY] at hp
  rcases hp with h | h | h <;> subst h <;> rfl
theorem wk_F (l : List Fm) : DV.wk.go (cells encF l) = cells encF l := wk_cells encF l fun a p hp => by
  have hm : a.p.map PV.wk = a.p := rfl
  have hp : p ∈ a.p := hp
  obtain ⟨i, hi, rfl⟩ := List.getElem_of_mem hp
  have := congrArg (fun l => l[i]?) hm
  simpa [hi] using this
attribute [go_sem] wk_E wk_G wk_R wk_Y wk_F
attribute [go_sem] lenF allF appF slkF srcF frzF app_F lenR allR srcR frzR app_R lenY allY frzY app_Y lenG allG appG slkG srcG frzG app_G
structure Pl where
  size : Int
  fs : List Fm
  hand : Int
@[go_sem] def Pl.d (p : Pl) : List DV := [.int .i64 p.size, .pv (.sl (fz encF p.fs)), .int .i64 p.hand]
def Pl0 : Pl := ⟨0, [], 0⟩
structure Lk where
  held : List Gr
  wait : List Gr
@[go_sem] def Lk.d (t : Lk) : List DV := [.pv (.sl (fz encG t.held)), .pv (.sl (fz encG t.wait))]
section
attribute [local go_sem] iteLe
def Pg.numB (p : Pg) : Bool := decide (0 ≤ p.id) && decide (p.id < 64) && decide (0 ≤ p.lsn) && decide (p.lsn ≤ 1099511627776)
def Pg.celC (p : Pg) (i : Nat) : Bool := (p.cel i).okB && !(decide (p.lsn = 0) && (p.cel i).set)
def Pg.celB (p : Pg) : Bool := (List.range 16).all p.celC
def Pg.okB (p : Pg) : Bool := p.numB && p.celB
def checkS (p : Pg) : Int := if p.numB = false then 1 else if p.celB = false then 22 else 0
theorem rnum_v (p : Pg) : VCalls prog 206 [.agg p.d] [] (Ret (.bool p.numB)) := by
  refine dd Tryz.func206 ?_
  (unfold Tryz.f206; refine rn trivial ?_)
  refine rn F ?_
  repeat' (first
    | with_reducible exact ⟨⟩
    | (refine sG F ?_ ?_ <;> intro hZ))
  all_goals (first | rfl | (congr 3; rw [Bool.eq_iff_iff]; (try simp only [Pg.numB, decide_eq_true_eq, Bool.and_eq_true, Bool.or_eq_true, Bool.not_eq_true', Bool.not_eq_false', decide_eq_false_iff_not, beq_iff_eq, bne_iff_ne, ne_eq, Bool.false_eq_true, Bool.true_eq_false, iff_true, true_iff, iff_false, false_iff]); first | done | omega | grind))
theorem rcells_v (p : Pg) : VCalls prog 207 [.agg p.d] [] (Ret (.bool p.celB)) := by
  refine dd Tryz.func207 ?_
  (unfold Tryz.f207; refine rn trivial ?_)
  refine vloopW (fun s : Okay 16 p.celC => ⟨26, 0, [(3, .int .i64 s.i), (1, .ptr 0 0)], [⟨197, true, p.d⟩]⟩) (fun s => 16 - s.i) (Okay.start _ _) (gc [0]) ?_
  intro s
  have hsi := s.hi
  have hg := fun h : s.i < 16 => cel_at p s.i h
  have hg0 := fun h : s.i < 16 => cel_at0 p s.i h
  have e : p.celC s.i = ((p.cel s.i).okB && !(decide (p.lsn = 0) && (p.cel s.i).set)) := rfl
  have c := rcellok_v (p.cel s.i)
  generalize (p.cel s.i).okB = ok at *
  have F := (And.intro @hg @hg0)
  refine rn F ?_
  repeat' (first
    | with_reducible exact ⟨⟩
    | (refine sG F ?_ ?_ <;> intro hZ)
    | (refine sB F ?_ ?_ <;> intro hZ)
    | refine vp F (c) ?_)
  all_goals first | (exact congrArg DV.bool (s.no (by omega) rfl (by rw [e]; simp_all )).symm) | (exact congrArg DV.bool (s.yes (by omega) rfl).symm) | (exact ⟨s.next (by omega) (by rw [e]; simp_all ), s.dec (by omega), (gc [ 0])⟩) | skip
theorem rpvalid_v (p : Pg) : VCalls prog 156 [.agg p.d] [] (Ret (.bool p.okB)) := by
  refine dd Tryz.func156 ?_
  have c1 := rnum_v p
  have c2 := rcells_v p
  have e : p.okB = (p.numB && p.celB) := rfl
  generalize p.numB = a at *
  generalize p.celB = b at *
  (unfold Tryz.f156; refine rn trivial ?_)
  refine rn F ?_
  repeat' (first
    | with_reducible exact ⟨⟩
    | (refine sG F ?_ ?_ <;> intro hZ)
    | refine vp F (c1) ?_
    | refine vp F (c2) ?_)
  all_goals (rw [e]; simp_all)
theorem rcheck_v (p : Pg) : VCalls prog 157 [.agg p.d] [] (Ret (.int .i64 (checkS p))) := by
  refine dd Tryz.func157 ?_
  have c1 := rnum_v p
  have c2 := rcells_v p
  have e : checkS p = if p.numB = false then 1 else if p.celB = false then 22 else 0 := rfl
  generalize p.numB = a at *
  generalize p.celB = b at *
  (unfold Tryz.f157; refine rn trivial ?_)
  refine rn F ?_
  repeat' (first
    | with_reducible exact ⟨⟩
    | (refine sB F ?_ ?_ <;> intro hZ)
    | refine vp F (c1) ?_
    | refine vp F (c2) ?_)
  all_goals (rw [e]; simp_all)
theorem checkS_ok {p : Pg} (h : checkS p = 0) : p.okB = true := by
  unfold checkS at h
  unfold Pg.okB
  split at h
  · simp at h
  split at h
  · simp at h
  · simp_all
end
section
attribute [local go_sem] iteLe
def idF (l : List Fm) (a : Int) : Int := idxP l fun f => f.pg.id == a
theorem rffind_v (p : Pl) (hl : p.fs.length ≤ 1000000) (a : Int) : VCalls prog 125 [.agg p.d, .int .i64 a] [] (Ret (.int .i64 (idF p.fs a))) := by
  refine dd Tryz.func125 ?_
  obtain ⟨z, l, h⟩ := p
  (unfold Tryz.f125; refine rn trivial ?_)
  refine vloopW (fun i : Pass l (fun x => (x.pg.id == a) = true) => ⟨23, 0, [(5, .int .i64 i.i), (2, .ptr 0 0), (1, .int .i64 a)], [⟨86, true, Pl.d ⟨z, l, h⟩⟩]⟩) (fun i => l.length - i.i) (Pass.start l _) (gc [0]) ?_
  intro i
  have hi := i.hi
  dsimp only at hl
  have hg := fun h : i.i < l.length => fzF_at l i.i h
  have F := @hg
  refine rn F ?_
  repeat' (first
    | with_reducible exact ⟨⟩
    | (refine sB F ?_ ?_ <;> intro hZ))
  · have hq : (l.getD i.i Fm0).pg.id = a := by assumption
    rw [getD_eq l i.i (by omega)] at hq
    have := idxP_at l (fun x => x.pg.id == a) i.i (by omega) (by simpa using hq) i.no
    rw [idF, this]
  · have hq : ¬ (l.getD i.i Fm0).pg.id = a := by assumption
    rw [getD_eq l i.i (by omega)] at hq
    exact ⟨i.next (by omega) (by simpa using hq), by show l.length - (i.i + 1) < l.length - i.i; omega, (gc [0])⟩
  · have := i.all (by omega)
    rw [idF, idxP, if_neg (by simpa using this)]
def dupC (l : List Fm) (i k : Nat) : Bool := !decide ((l.getD k Fm0).pg.id = (l.getD i Fm0).pg.id)
def frC (l : List Fm) (i : Nat) : Bool := (l.getD i Fm0).pg.okB && !((l.getD i Fm0).dirty && (decide ((l.getD i Fm0).rc < 1) || decide ((l.getD i Fm0).pg.lsn < (l.getD i Fm0).rc))) && !(!(l.getD i Fm0).dirty && !decide ((l.getD i Fm0).rc = 0)) && (List.range i).all (dupC l i)
def Pl.hd (p : Pl) : Prop := 1 ≤ p.size ∧ p.size ≤ 64 ∧ p.fs.length ≤ p.size ∧ 0 ≤ p.hand ∧ p.hand ≤ max 0 ((p.fs.length : Int) - 1)
instance (p : Pl) : Decidable p.hd := by unfold Pl.hd; infer_instance
def plB (p : Pl) : Bool := decide p.hd && (List.range p.fs.length).all (frC p.fs)
theorem plB_hd {p : Pl} (h : plB p = true) : p.hd := by unfold plB at h; simp at h; exact h.1
theorem rplvalid_v (p : Pl) (hl : p.fs.length ≤ 1000000) : VCalls prog 124 [.agg p.d] [] (Ret (.bool (plB p))) := by
  refine dd Tryz.func124 ?_
  obtain ⟨z, l, hn⟩ := p
  dsimp only at hl
  have hB : plB ⟨z, l, hn⟩ = (decide (Pl.hd ⟨z, l, hn⟩) && (List.range l.length).all (frC l)) := rfl
  have hH : Pl.hd ⟨z, l, hn⟩ = (1 ≤ z ∧ z ≤ 64 ∧ l.length ≤ z ∧ 0 ≤ hn ∧ hn ≤ max 0 ((l.length : Int) - 1)) := rfl
  have hB' : Pl.hd ⟨z, l, hn⟩ → plB ⟨z, l, hn⟩ = (List.range l.length).all (frC l) := fun h => by rw [hB, decide_eq_true h, Bool.true_and]
  have no : ¬ Pl.hd ⟨z, l, hn⟩ → plB ⟨z, l, hn⟩ = false := fun h => by rw [hB, decide_eq_false h]; rfl
  generalize plB ⟨z, l, hn⟩ = b at *
  (unfold Tryz.f124; refine rn trivial ?_)
  refine rn F ?_
  repeat' (first
    | with_reducible exact ⟨⟩
    | (refine sG F ?_ ?_ <;> intro hZ)
    | (refine sB F ?_ ?_ <;> intro hZ))
  all_goals first | (rw [no (by rw [hH]; omega)]) | skip
  refine vloopW (fun s : Okay l.length (frC l) => ⟨94, 0, [(4, .int .i64 s.i), (3, .int .i64 l.length), (1, .ptr 0 0)], [⟨86, true, Pl.d ⟨z, l, hn⟩⟩]⟩) (fun s => l.length - s.i) (Okay.start _ _) (gc [0]) ?_
  intro s
  have hsi := s.hi
  have hg := fun h : s.i < l.length => fzF_at l s.i h
  have c1 := rpvalid_v (l.getD s.i Fm0).pg
  have e : frC l s.i = ((l.getD s.i Fm0).pg.okB && !((l.getD s.i Fm0).dirty && (decide ((l.getD s.i Fm0).rc < 1) || decide ((l.getD s.i Fm0).pg.lsn < (l.getD s.i Fm0).rc))) && !(!(l.getD s.i Fm0).dirty && !decide ((l.getD s.i Fm0).rc = 0)) && (List.range s.i).all (dupC l s.i)) := rfl
  generalize (l.getD s.i Fm0).pg.okB = ok at *
  have F := @hg
  refine rn F ?_
  repeat' (first
    | with_reducible exact ⟨⟩
    | (refine sG F ?_ ?_ <;> intro hZ)
    | (refine sB F ?_ ?_ <;> intro hZ)
    | refine vp F (c1) ?_)
  all_goals first
    | (exact congrArg DV.bool (s.no (by omega) (hB' (by rw [hH]; omega)) (by rw [e]; simp_all)).symm)
    | (exact congrArg DV.bool (s.yes (by omega) (hB' (by rw [hH]; omega))).symm)
    | skip
  all_goals
    refine vloopW (fun r : Okay s.i (dupC l s.i) => ⟨94, 0, [(6, .int .i64 r.i), (5, .ptr 1 0), (4, .int .i64 s.i), (3, .int .i64 l.length), (1, .ptr 0 0)], [⟨86, true, Pl.d ⟨z, l, hn⟩⟩, ⟨201, true, (l.getD s.i Fm0).d⟩]⟩) (fun r => s.i - r.i) (Okay.start _ _) (gc [0, 1]) ?_
    intro r
    have hri := r.hi
    have hk := fun h : r.i < l.length => fzF_at l r.i h
    have e2 : dupC l s.i r.i = !decide ((l.getD r.i Fm0).pg.id = (l.getD s.i Fm0).pg.id) := rfl
    have F := @hk
    refine rn F ?_
    repeat' (first
      | with_reducible exact ⟨⟩
      | (refine sB F ?_ ?_ <;> intro hZ)
      | (refine vspine (id := 13) [0, 1, 2, 3, 4, 5, 6, 7, 8, 9, 10] [] (by kernel_rfl) (by kernel_rfl) ?_; refine rn F ?_))
  all_goals first
    | (exact congrArg DV.bool (s.no (by omega) (hB' (by rw [hH]; omega)) (by rw [e, all_not (i := r.i) (by omega) (by rw [e2]; simp_all), Bool.and_false])).symm)
    | (exact ⟨r.next (by omega) (by rw [e2]; simp_all), r.dec (by omega), (gc [0, 1])⟩)
    | (exact ⟨s.next (by omega) (by rw [e, r.all (by omega)]; simp_all), s.dec (by omega), (gc [0])⟩)
    | skip
end
section
attribute [local go_sem] iteLe
def findS (p : Pl) (a : Int) : Int := if plB p = true then idF p.fs a else -1
theorem idF_cases (l : List Fm) (a : Int) : idF l a = -1 ∨ ∃ i : Nat, ∃ _ : i < l.length, idF l a = i ∧ (l.getD i Fm0).pg.id = a := by
  rcases idxP_find l (fun f => f.pg.id == a) with ⟨h, _⟩ | ⟨i, hi, h, hf⟩
  · exact .inl h
  · refine .inr ⟨i, hi, h, ?_⟩
    have := List.find?_some hf
    rw [getD_eq l i hi]; simpa using this
theorem findS_cases (p : Pl) (a : Int) : findS p a = -1 ∨ (plB p = true ∧ ∃ i : Nat, ∃ _ : i < p.fs.length, findS p a = i ∧ idF p.fs a = i ∧ (p.fs.getD i Fm0).pg.id = a) := by
  unfold findS
  split
  · rename_i hv
    rcases idF_cases p.fs a with h | ⟨i, hi, h, hx⟩
    · exact .inl h
    · exact .inr ⟨hv, i, hi, h, h, hx⟩
  · exact .inl rfl
def getS (p : Pl) (a : Int) : Pg × Bool := if findS p a < 0 then (Pg0, false) else ((p.fs.getD (findS p a).toNat Fm0).pg, true)
theorem rpfind_v (p : Pl) (hl : p.fs.length ≤ 1000000) (a : Int) : VCalls prog 109 [.agg p.d, .int .i64 a] [] (Ret (.int .i64 (findS p a))) := by
  refine dd Tryz.func109 ?_
  have c1 := rplvalid_v p hl
  have c2 := rffind_v p hl a
  unfold findS
  generalize plB p = b at *
  (unfold Tryz.f109; refine rn trivial ?_)
  refine rn F ?_
  repeat' (first
    | with_reducible exact ⟨⟩
    | (refine sB F ?_ ?_ <;> intro hZ)
    | refine vp F (c1) ?_
    | refine vp F (c2) ?_)
  all_goals (simp_all)
theorem rpget_v (p : Pl) (hl : p.fs.length ≤ 1000000) (a : Int) : VCalls prog 122 [.agg p.d, .int .i64 a] [] (Ret (.tup [.agg (getS p a).1.d, .bool (getS p a).2])) := by
  refine dd Tryz.func122 ?_
  have c1 := rpfind_v p hl a
  unfold getS
  rcases findS_cases p a with h | ⟨_, i, hi, h, _⟩
  · rw [h] at c1 ⊢
    (unfold Tryz.f122; refine rn trivial ?_)
    refine rn F ?_
    repeat' (first
      | with_reducible exact ⟨⟩
      | refine vp F (c1) ?_)
    all_goals rfl
  · rw [h] at c1 ⊢
    rw [if_neg (by omega), Int.toNat_natCast]
    have hg := fzF_at p.fs i hi
    generalize p.fs.getD i Fm0 = f at *
    (unfold Tryz.f122; refine rn trivial ?_)
    have F := @hg
    refine rn F ?_
    repeat' (first
      | with_reducible exact ⟨⟩
      | refine vp F (c1) ?_)
theorem setF_in (l : List Fm) (i : Nat) (f : Fm) (hi : i < l.length) : (cells encF l).take (i * 37) ++ f.d ++ (cells encF l).drop (i * 37 + 37) = cells encF (l.set i f) := set_in encF l i f hi
theorem rpset_v (p : Pl) (hl : p.fs.length ≤ 1000000) (i : Nat) (hi : i < p.fs.length) (f : Fm) : VCalls prog 210 [.agg p.d, .int .i64 i, .agg f.d] [] (Ret (.agg (Pl.d ⟨p.size, p.fs.set i f, p.hand⟩))) := by
  refine dd Tryz.func210 ?_
  obtain ⟨z, l, hn⟩ := p
  dsimp only at hl hi
  have hb : i * 37 + 37 ≤ l.length * 37 := by omega
  have hse := setF_in l i f hi
  have hle : (l.set i f).length = l.length := List.length_set
  (unfold Tryz.f210; refine rn trivial ?_)
  have F := (And.intro @hb (And.intro @hse @hle))
  (refine rn F ?_; try with_reducible exact ⟨⟩)
def useS (p : Pl) (a : Int) : Pl := if findS p a < 0 then p else ⟨p.size, p.fs.set (findS p a).toNat ⟨(p.fs.getD (findS p a).toNat Fm0).pg, (p.fs.getD (findS p a).toNat Fm0).dirty, (p.fs.getD (findS p a).toNat Fm0).rc, true⟩, p.hand⟩
theorem rpuse_v (p : Pl) (hl : p.fs.length ≤ 1000000) (a : Int) : VCalls prog 241 [.agg p.d, .int .i64 a] [] (Ret (.agg (useS p a).d)) := by
  refine dd Tryz.func241 ?_
  have c1 := rpfind_v p hl a
  unfold useS
  rcases findS_cases p a with h | ⟨_, i, hi, h, _⟩
  · rw [h] at c1 ⊢
    (unfold Tryz.f241; refine rn trivial ?_)
    refine rn F ?_
    repeat' (first
      | with_reducible exact ⟨⟩
      | refine vp F (c1) ?_)
    all_goals rfl
  · rw [h] at c1 ⊢
    rw [if_neg (by omega), Int.toNat_natCast]
    have hg := fzF_at p.fs i hi
    have c2 := rpset_v p hl i hi ⟨(p.fs.getD i Fm0).pg, (p.fs.getD i Fm0).dirty, (p.fs.getD i Fm0).rc, true⟩
    generalize p.fs.getD i Fm0 = f at *
    (unfold Tryz.f241; refine rn trivial ?_)
    have F := @hg
    refine rn F ?_
    repeat' (first
      | with_reducible exact ⟨⟩
      | refine vp F (c1) ?_
      | refine vp F (c2) ?_)
def plNew (n : Int) : Pl × Int := if n < 1 ∨ 64 < n then (Pl0, 1) else (⟨n, [], 0⟩, 0)
theorem rpnew_v (n : Int) : VCalls prog 92 [.int .i64 n] [] (Ret (.tup [.agg (plNew n).1.d, .int .i64 (plNew n).2])) := by
  refine dk Tryz.func92 ?_
  unfold plNew
  (unfold Tryz.f92; refine rn trivial ?_)
  refine rn F ?_
  repeat' (first
    | with_reducible exact ⟨⟩
    | (refine sG F ?_ ?_ <;> intro hZ)
    | (refine sB F ?_ ?_ <;> intro hZ))
  all_goals first | (rw [if_pos (by omega)]; rfl) | (rw [if_neg (by omega)]; rfl)
def putS (p : Pl) (x : Pg) : Pl × Int :=
  if plB p = false then (Pl0, 15) else if checkS x ≠ 0 then (Pl0, checkS x) else if 0 ≤ idF p.fs x.id then (Pl0, 25) else if (p.fs.length : Int) = p.size then (Pl0, 21)
  else (⟨p.size, p.fs ++ [⟨x, false, 0, true⟩], p.hand⟩, 0)
theorem rpput_v (p : Pl) (hl : p.fs.length ≤ 100000) (x : Pg) : VCalls prog 185 [.agg p.d, .agg x.d] [] (Ret (.tup [.agg (putS p x).1.d, .int .i64 (putS p x).2])) := by
  refine dk Tryz.func185 ?_
  have c1 := rplvalid_v p (by omega)
  have c2 := rcheck_v x
  have c3 := rffind_v p (by omega) x.id
  have e : putS p x = if plB p = false then (Pl0, 15) else if checkS x ≠ 0 then (Pl0, checkS x) else if 0 ≤ idF p.fs x.id then (Pl0, 25) else if (p.fs.length : Int) = p.size then (Pl0, 21)
    else (⟨p.size, p.fs ++ [⟨x, false, 0, true⟩], p.hand⟩, 0) := rfl
  generalize putS p x = r at *
  generalize plB p = b at *
  generalize checkS x = k at *
  generalize idF p.fs x.id = m at *
  have hb : (p.fs.length + 1) * 304 ≤ 140737488355328 := by omega
  (unfold Tryz.f185; refine rn trivial ?_)
  have F := @hb
  refine rn F ?_
  repeat' (first
    | with_reducible exact ⟨⟩
    | (refine sB F ?_ ?_ <;> intro hZ)
    | refine vp F (c1) ?_
    | refine vp F (c2) ?_
    | refine vp F (c3) ?_
    | (refine vspine (id := 10) [0, 1, 3, 4] [⟨[5], [], 2, [0, 3, 4], []⟩, ⟨[5], [5], 6, [0, 1, 3, 4], [7]⟩, ⟨[], [], 8, [], []⟩] (by kernel_rfl) (by kernel_rfl) ?_; refine rn F ?_))
  all_goals first | (first | (rw [e]; simp (disch := first | assumption | omega | exact rfl | exact nf (by assumption) | exact nt (by assumption) | decide | fail) only [if_pos, if_neg]; first | done | rfl) | (rw [e]; simp (disch := first | assumption | omega | exact rfl | exact nf (by assumption) | exact nt (by assumption) | decide | (simp_all; done) | fail) only [if_pos, if_neg]; first | done | rfl)) | skip
end
section
attribute [local go_sem] iteLe
def updF (f : Fm) (x : Pg) : Fm := ⟨x, true, if f.dirty = true then f.rc else x.lsn, true⟩
def updS (p : Pl) (x : Pg) : Pl × Int :=
  if plB p = false then (Pl0, 15) else if checkS x ≠ 0 then (Pl0, checkS x) else if idF p.fs x.id < 0 then (Pl0, 18)
  else if x.lsn ≤ (p.fs.getD (idF p.fs x.id).toNat Fm0).pg.lsn then (Pl0, 8)
  else (⟨p.size, p.fs.set (idF p.fs x.id).toNat (updF (p.fs.getD (idF p.fs x.id).toNat Fm0) x), p.hand⟩, 0)
theorem rpupd_v (p : Pl) (hl : p.fs.length ≤ 100000) (x : Pg) : VCalls prog 234 [.agg p.d, .agg x.d] [] (Ret (.tup [.agg (updS p x).1.d, .int .i64 (updS p x).2])) := by
  refine dk Tryz.func234 ?_
  have c1 := rplvalid_v p (by omega)
  have c2 := rcheck_v x
  have c3 := rffind_v p (by omega) x.id
  have c4 := rpset_v p (by omega)
  have e : updS p x = if plB p = false then (Pl0, 15) else if checkS x ≠ 0 then (Pl0, checkS x) else if idF p.fs x.id < 0 then (Pl0, 18)
    else if x.lsn ≤ (p.fs.getD (idF p.fs x.id).toNat Fm0).pg.lsn then (Pl0, 8)
    else (⟨p.size, p.fs.set (idF p.fs x.id).toNat (updF (p.fs.getD (idF p.fs x.id).toNat Fm0) x), p.hand⟩, 0) := rfl
  have hi := idF_cases p.fs x.id
  generalize updS p x = r at *
  generalize plB p = b at *
  generalize checkS x = k at *
  rcases hi with h | ⟨i, hi, h, _⟩
  · rw [h] at c3 e
    (unfold Tryz.f234; refine rn trivial ?_)
    refine rn F ?_
    repeat' (first
      | with_reducible exact ⟨⟩
      | (refine sB F ?_ ?_ <;> intro hZ)
      | refine vp F (c1) ?_
      | refine vp F (c2) ?_
      | refine vp F (c3) ?_)
    all_goals first | (first | (rw [e]; simp (disch := first | assumption | omega | exact rfl | exact nf (by assumption) | exact nt (by assumption) | decide | fail) only [if_pos, if_neg]; first | done | rfl) | (rw [e]; simp (disch := first | assumption | omega | exact rfl | exact nf (by assumption) | exact nt (by assumption) | decide | (simp_all; done) | fail) only [if_pos, if_neg]; first | done | rfl)) | skip
  · rw [h] at c3 e
    rw [Int.toNat_natCast] at e
    have hg := fzF_at p.fs i hi
    have e2 : ∀ f : Fm, f.dirty = true → updF f x = ⟨x, true, f.rc, true⟩ := fun f h => by unfold updF; rw [if_pos h]
    have e3 : ∀ f : Fm, ¬ f.dirty = true → updF f x = ⟨x, true, x.lsn, true⟩ := fun f h => by unfold updF; rw [if_neg h]
    have c4 := fun f => c4 i hi f
    generalize p.fs.getD i Fm0 = f at *
    (unfold Tryz.f234; refine rn trivial ?_)
    have F := @hg
    refine rn F ?_
    repeat' (first
      | with_reducible exact ⟨⟩
      | (refine sB F ?_ ?_ <;> intro hZ)
      | refine vp F (c1) ?_
      | refine vp F (c2) ?_
      | refine vp F (c3) ?_
      | refine vp F (c4 ⟨_, _, _, _⟩) ?_)
    all_goals first | (first | (rw [e]; simp (disch := first | assumption | omega | exact rfl | exact nf (by assumption) | exact nt (by assumption) | decide | fail) only [if_pos, if_neg]; first | done | rfl) | (rw [e]; simp (disch := first | assumption | omega | exact rfl | exact nf (by assumption) | exact nt (by assumption) | decide | (simp_all; done) | fail) only [if_pos, if_neg]; first | done | rfl)) | (first | (rw [e, e2 f (by assumption)]; simp (disch := first | assumption | omega | exact rfl | exact nf (by assumption) | exact nt (by assumption) | decide | fail) only [if_pos, if_neg]; first | done | rfl) | (rw [e, e2 f (by assumption)]; simp (disch := first | assumption | omega | exact rfl | exact nf (by assumption) | exact nt (by assumption) | decide | (simp_all; done) | fail) only [if_pos, if_neg]; first | done | rfl)) | (first | (rw [e, e3 f (by simp_all)]; simp (disch := first | assumption | omega | exact rfl | exact nf (by assumption) | exact nt (by assumption) | decide | fail) only [if_pos, if_neg]; first | done | rfl) | (rw [e, e3 f (by simp_all)]; simp (disch := first | assumption | omega | exact rfl | exact nf (by assumption) | exact nt (by assumption) | decide | (simp_all; done) | fail) only [if_pos, if_neg]; first | done | rfl)) | skip
def cleanF (f : Fm) (n : Int) : Fm := if f.pg.lsn = n then ⟨f.pg, false, 0, f.used⟩ else if f.rc ≤ n then ⟨f.pg, f.dirty, n + 1, f.used⟩ else f
def cleanS (p : Pl) (a n : Int) : Pl × Int :=
  if plB p = false then (Pl0, 15) else if idF p.fs a < 0 then (Pl0, 18)
  else if (p.fs.getD (idF p.fs a).toNat Fm0).pg.lsn < n then (Pl0, 9)
  else if (p.fs.getD (idF p.fs a).toNat Fm0).dirty = false then (p, 0)
  else (⟨p.size, p.fs.set (idF p.fs a).toNat (cleanF (p.fs.getD (idF p.fs a).toNat Fm0) n), p.hand⟩, 0)
theorem rpclean_v (p : Pl) (hl : p.fs.length ≤ 100000) (a n : Int) (hn : n ≤ 1099511627776) (hn0 : 0 ≤ n) : VCalls prog 163 [.agg p.d, .int .i64 a, .int .i64 n] [] (Ret (.tup [.agg (cleanS p a n).1.d, .int .i64 (cleanS p a n).2])) := by
  refine dk Tryz.func163 ?_
  have c1 := rplvalid_v p (by omega)
  have c3 := rffind_v p (by omega) a
  have c4 := rpset_v p (by omega)
  have e : cleanS p a n = if plB p = false then (Pl0, 15) else if idF p.fs a < 0 then (Pl0, 18)
    else if (p.fs.getD (idF p.fs a).toNat Fm0).pg.lsn < n then (Pl0, 9)
    else if (p.fs.getD (idF p.fs a).toNat Fm0).dirty = false then (p, 0)
    else (⟨p.size, p.fs.set (idF p.fs a).toNat (cleanF (p.fs.getD (idF p.fs a).toNat Fm0) n), p.hand⟩, 0) := rfl
  have hi := idF_cases p.fs a
  generalize cleanS p a n = r at *
  generalize plB p = b at *
  rcases hi with h | ⟨i, hi, h, _⟩
  · rw [h] at c3 e
    (unfold Tryz.f163; refine rn trivial ?_)
    refine rn F ?_
    repeat' (first
      | with_reducible exact ⟨⟩
      | (refine sB F ?_ ?_ <;> intro hZ)
      | refine vp F (c1) ?_
      | refine vp F (c3) ?_)
    all_goals first | (first | (rw [e]; simp (disch := first | assumption | omega | exact rfl | exact nf (by assumption) | exact nt (by assumption) | decide | fail) only [if_pos, if_neg]; first | done | rfl) | (rw [e]; simp (disch := first | assumption | omega | exact rfl | exact nf (by assumption) | exact nt (by assumption) | decide | (simp_all; done) | fail) only [if_pos, if_neg]; first | done | rfl)) | skip
  · rw [h] at c3 e
    rw [Int.toNat_natCast] at e
    have hg := fzF_at p.fs i hi
    have c4 := fun f => c4 i hi f
    generalize p.fs.getD i Fm0 = f at *
    obtain ⟨pg, dirty, rc, used⟩ := f
    have e1 : pg.lsn = n → cleanF ⟨pg, dirty, rc, used⟩ n = ⟨pg, false, 0, used⟩ := fun h => if_pos h
    have e2 : ¬ pg.lsn = n → rc ≤ n → cleanF ⟨pg, dirty, rc, used⟩ n = ⟨pg, dirty, n + 1, used⟩ := fun h h2 => by unfold cleanF; rw [if_neg h, if_pos h2]
    have e3 : ¬ pg.lsn = n → ¬ rc ≤ n → cleanF ⟨pg, dirty, rc, used⟩ n = ⟨pg, dirty, rc, used⟩ := fun h h2 => by unfold cleanF; rw [if_neg h, if_neg h2]
    cases dirty
    all_goals
      (unfold Tryz.f163; refine rn trivial ?_)
      have F := @hg
      refine rn F ?_
      repeat' (first
        | with_reducible exact ⟨⟩
        | (refine sB F ?_ ?_ <;> intro hZ)
        | refine vp F (c1) ?_
        | refine vp F (c3) ?_
        | refine vp F (c4 ⟨_, _, _, _⟩) ?_)
    all_goals first | (first | (rw [e]; simp (disch := first | assumption | omega | exact rfl | exact nf (by assumption) | exact nt (by assumption) | decide | fail) only [if_pos, if_neg]; first | done | rfl) | (rw [e]; simp (disch := first | assumption | omega | exact rfl | exact nf (by assumption) | exact nt (by assumption) | decide | (simp_all; done) | fail) only [if_pos, if_neg]; first | done | rfl)) | (first | (rw [e, e1 (by omega)]; simp (disch := first | assumption | omega | exact rfl | exact nf (by assumption) | exact nt (by assumption) | decide | fail) only [if_pos, if_neg]; first | done | rfl) | (rw [e, e1 (by omega)]; simp (disch := first | assumption | omega | exact rfl | exact nf (by assumption) | exact nt (by assumption) | decide | (simp_all; done) | fail) only [if_pos, if_neg]; first | done | rfl)) | (first | (rw [e, e2 (by omega) (by omega)]; simp (disch := first | assumption | omega | exact rfl | exact nf (by assumption) | exact nt (by assumption) | decide | fail) only [if_pos, if_neg]; first | done | rfl) | (rw [e, e2 (by omega) (by omega)]; simp (disch := first | assumption | omega | exact rfl | exact nf (by assumption) | exact nt (by assumption) | decide | (simp_all; done) | fail) only [if_pos, if_neg]; first | done | rfl)) | (first | (rw [e, e3 (by omega) (by omega)]; simp (disch := first | assumption | omega | exact rfl | exact nf (by assumption) | exact nt (by assumption) | decide | fail) only [if_pos, if_neg]; first | done | rfl) | (rw [e, e3 (by omega) (by omega)]; simp (disch := first | assumption | omega | exact rfl | exact nf (by assumption) | exact nt (by assumption) | decide | (simp_all; done) | fail) only [if_pos, if_neg]; first | done | rfl)) | skip
def handS (n : Nat) (i h : Int) : Int := if (n : Int) ≤ (if i < h then h - 1 else h) then 0 else (if i < h then h - 1 else h)
def dropS (p : Pl) (a : Int) : Pl × Int :=
  if plB p = false then (Pl0, 15) else if idF p.fs a < 0 then (Pl0, 18)
  else if (p.fs.getD (idF p.fs a).toNat Fm0).dirty = true then (Pl0, 23)
  else (⟨p.size, p.fs.take (idF p.fs a).toNat ++ p.fs.drop ((idF p.fs a).toNat + 1), handS (p.fs.length - 1) (idF p.fs a) p.hand⟩, 0)
theorem rpdrop_v (p : Pl) (hl : p.fs.length ≤ 100000) (a : Int) : VCalls prog 227 [.agg p.d, .int .i64 a] [] (Ret (.tup [.agg (dropS p a).1.d, .int .i64 (dropS p a).2])) := by
  refine dk Tryz.func227 ?_
  have c1 := rplvalid_v p (by omega)
  have c3 := rffind_v p (by omega) a
  have e : dropS p a = if plB p = false then (Pl0, 15) else if idF p.fs a < 0 then (Pl0, 18)
    else if (p.fs.getD (idF p.fs a).toNat Fm0).dirty = true then (Pl0, 23)
    else (⟨p.size, p.fs.take (idF p.fs a).toNat ++ p.fs.drop ((idF p.fs a).toNat + 1), handS (p.fs.length - 1) (idF p.fs a) p.hand⟩, 0) := rfl
  have hi := idF_cases p.fs a
  have hh := @plB_hd p
  generalize dropS p a = r at *
  generalize plB p = b at *
  rcases hi with h | ⟨i, hi, h, _⟩
  · rw [h] at c3 e
    (unfold Tryz.f227; refine rn trivial ?_)
    refine rn F ?_
    repeat' (first
      | with_reducible exact ⟨⟩
      | (refine sB F ?_ ?_ <;> intro hZ)
      | refine vp F (c1) ?_
      | refine vp F (c3) ?_)
    all_goals first | (first | (rw [e]; simp (disch := first | assumption | omega | exact rfl | exact nf (by assumption) | exact nt (by assumption) | decide | fail) only [if_pos, if_neg]; first | done | rfl) | (rw [e]; simp (disch := first | assumption | omega | exact rfl | exact nf (by assumption) | exact nt (by assumption) | decide | (simp_all; done) | fail) only [if_pos, if_neg]; first | done | rfl)) | skip
  · rw [h] at c3 e
    rw [Int.toNat_natCast] at e
    cases b
    · (unfold Tryz.f227; refine rn trivial ?_; try with_reducible exact ⟨⟩)
      refine rn F ?_
      repeat' (first
        | with_reducible exact ⟨⟩
        | refine vp F (c1) ?_)
      all_goals (first | (rw [e]; simp (disch := first | assumption | omega | exact rfl | exact nf (by assumption) | exact nt (by assumption) | decide | fail) only [if_pos, if_neg]; first | done | rfl) | (rw [e]; simp (disch := first | assumption | omega | exact rfl | exact nf (by assumption) | exact nt (by assumption) | decide | (simp_all; done) | fail) only [if_pos, if_neg]; first | done | rfl))
    have hh := hh rfl
    obtain ⟨z, l, hn⟩ := p
    dsimp only at hl e hi
    simp only [Pl.hd] at hh
    have hg := fzF_at l i hi
    have hb : (i + (l.length - (i + 1))) * 304 ≤ 140737488355328 := by omega
    have hb1 : i * 304 ≤ 140737488355328 := by omega
    have hmin : min i l.length = i := by omega
    have e1 : (i : Int) < hn → ¬ ((l.length - 1 : Nat) : Int) ≤ hn - 1 → handS (l.length - 1) i hn = hn - 1 := fun h h2 => by unfold handS; rw [if_pos h, if_neg h2]
    have e2 : ¬ (i : Int) < hn → ¬ ((l.length - 1 : Nat) : Int) ≤ hn → handS (l.length - 1) i hn = hn := fun h h2 => by unfold handS; rw [if_neg h, if_neg h2]
    have e3 : (i : Int) < hn → ((l.length - 1 : Nat) : Int) ≤ hn - 1 → handS (l.length - 1) i hn = 0 := fun h h2 => by unfold handS; rw [if_pos h, if_pos h2]
    have e4 : ¬ (i : Int) < hn → ((l.length - 1 : Nat) : Int) ≤ hn → handS (l.length - 1) i hn = 0 := fun h h2 => by unfold handS; rw [if_neg h, if_pos h2]
    generalize l.getD i Fm0 = f at *
    (unfold Tryz.f227; refine rn trivial ?_)
    have F := (And.intro @hg (And.intro @hb (And.intro @hb1 @hmin)))
    refine rn F ?_
    repeat' (first
      | with_reducible exact ⟨⟩
      | (refine sB F ?_ ?_ <;> intro hZ)
      | refine vp F (c1) ?_
      | refine vp F (c3) ?_
      | (refine vspine (id := 8) [0, 1, 2, 3, 5, 6, 7, 8, 9] [⟨[], [], 4, [0, 1, 2, 5, 6, 7, 8, 9], []⟩, ⟨[], [], 10, [0, 1, 2, 3, 5, 6, 7, 8], [11]⟩, ⟨[], [], 12, [], []⟩] (by kernel_rfl) (by kernel_rfl) ?_; refine rn F ?_))
    all_goals first | (first | (rw [e]; simp (disch := first | assumption | omega | exact rfl | exact nf (by assumption) | exact nt (by assumption) | decide | fail) only [if_pos, if_neg]; first | done | rfl) | (rw [e]; simp (disch := first | assumption | omega | exact rfl | exact nf (by assumption) | exact nt (by assumption) | decide | (simp_all; done) | fail) only [if_pos, if_neg]; first | done | rfl)) | (first | (rw [e, e1 (by omega) (by omega)]; simp (disch := first | assumption | omega | exact rfl | exact nf (by assumption) | exact nt (by assumption) | decide | fail) only [if_pos, if_neg]; first | done | rfl) | (rw [e, e1 (by omega) (by omega)]; simp (disch := first | assumption | omega | exact rfl | exact nf (by assumption) | exact nt (by assumption) | decide | (simp_all; done) | fail) only [if_pos, if_neg]; first | done | rfl)) | (first | (rw [e, e2 (by omega) (by omega)]; simp (disch := first | assumption | omega | exact rfl | exact nf (by assumption) | exact nt (by assumption) | decide | fail) only [if_pos, if_neg]; first | done | rfl) | (rw [e, e2 (by omega) (by omega)]; simp (disch := first | assumption | omega | exact rfl | exact nf (by assumption) | exact nt (by assumption) | decide | (simp_all; done) | fail) only [if_pos, if_neg]; first | done | rfl)) | (first | (rw [e, e3 (by omega) (by omega)]; simp (disch := first | assumption | omega | exact rfl | exact nf (by assumption) | exact nt (by assumption) | decide | fail) only [if_pos, if_neg]; first | done | rfl) | (rw [e, e3 (by omega) (by omega)]; simp (disch := first | assumption | omega | exact rfl | exact nf (by assumption) | exact nt (by assumption) | decide | (simp_all; done) | fail) only [if_pos, if_neg]; first | done | rfl)) | (first | (rw [e, e4 (by omega) (by omega)]; simp (disch := first | assumption | omega | exact rfl | exact nf (by assumption) | exact nt (by assumption) | decide | fail) only [if_pos, if_neg]; first | done | rfl) | (rw [e, e4 (by omega) (by omega)]; simp (disch := first | assumption | omega | exact rfl | exact nf (by assumption) | exact nt (by assumption) | decide | (simp_all; done) | fail) only [if_pos, if_neg]; first | done | rfl)) | skip
end
section
attribute [local go_sem] iteLe
def Fm.clr (f : Fm) : Fm := ⟨f.pg, f.dirty, f.rc, false⟩
def SameF (l m : List Fm) : Prop := m.map Fm.clr = l.map Fm.clr
theorem getD_clr (l : List Fm) (i : Nat) : (l.map Fm.clr).getD i Fm0 = (l.getD i Fm0).clr := by
  rw [List.getD_eq_getElem?_getD, List.getD_eq_getElem?_getD, List.getElem?_map]; cases l[i]? <;> rfl
theorem frC_clr (l : List Fm) (i : Nat) : frC (l.map Fm.clr) i = frC l i := by
  have h : dupC (l.map Fm.clr) i = dupC l i := by funext k; simp only [dupC, getD_clr]; rfl
  simp only [frC, h, getD_clr]; rfl
theorem SameF.len {l m : List Fm} (h : SameF l m) : m.length = l.length := by have := congrArg List.length h; simpa using this
theorem SameF.refl (l : List Fm) : SameF l l := rfl
theorem SameF.trans {a b c : List Fm} (h : SameF a b) (g : SameF b c) : SameF a c := Eq.trans (b := b.map Fm.clr) g h
theorem SameF.at_ {l m : List Fm} (h : SameF l m) (i : Nat) : (m.getD i Fm0).clr = (l.getD i Fm0).clr := by
  rw [← getD_clr, ← getD_clr, show m.map Fm.clr = l.map Fm.clr from h]
theorem SameF.frC {l m : List Fm} (h : SameF l m) : frC m = frC l := by
  funext i; rw [← frC_clr m, ← frC_clr l, show m.map Fm.clr = l.map Fm.clr from h]
theorem SameF.plB {p q : Pl} (h : SameF p.fs q.fs) (hs : q.size = p.size) (hh : 0 ≤ q.hand ∧ q.hand ≤ max 0 ((p.fs.length : Int) - 1)) (hp : plB p = true) : plB q = true := by
  have h1 := plB_hd hp
  simp only [Pl.hd] at h1
  have hl := h.len
  unfold Proofs.YtfabboefambbjaaGreat.plB at hp ⊢
  rw [h.frC, hl, decide_eq_true (by simp only [Pl.hd]; omega)]
  simp only [Bool.and_eq_true] at hp
  simpa using hp.2
theorem idF_clr (l : List Fm) (a : Int) : idF (l.map Fm.clr) a = idF l a := by
  unfold idF idxP
  rw [List.any_map, List.findIdx_map]; rfl
theorem SameF.idF {l m : List Fm} (h : SameF l m) (a : Int) : idF m a = idF l a := by
  rw [← idF_clr m, ← idF_clr l, show m.map Fm.clr = l.map Fm.clr from h]
theorem SameF.set (l : List Fm) (i : Nat) (b : Bool) : SameF l (l.set i ⟨(l.getD i Fm0).pg, (l.getD i Fm0).dirty, (l.getD i Fm0).rc, b⟩) := by
  unfold SameF
  rw [List.map_set]
  rcases Nat.lt_or_ge i l.length with h | h
  · have : (⟨(l.getD i Fm0).pg, (l.getD i Fm0).dirty, (l.getD i Fm0).rc, b⟩ : Fm).clr = (l.map Fm.clr)[i]'(by simpa using h) := by
      rw [getD_eq l i h, List.getElem_map]; rfl
    rw [this, List.set_getElem_self]
  · rw [List.set_eq_of_length_le (by simpa using h)]
def usedN (l : List Fm) : Nat := l.countP (·.used)
theorem usedN_set (l : List Fm) (i : Nat) (h : i < l.length) (hu : (l.getD i Fm0).used = true) : usedN (l.set i ⟨(l.getD i Fm0).pg, (l.getD i Fm0).dirty, (l.getD i Fm0).rc, false⟩) < usedN l := by
  unfold usedN
  rw [List.countP_set h]
  rw [getD_eq l i h] at *
  have : 0 < l.countP (·.used) := List.countP_pos_iff.2 ⟨l[i], List.getElem_mem h, hu⟩
  simp only [hu, if_true]
  simp
  omega
structure Vic (p : Pl) where
  q : Pl
  ok : plB q = true
  sm : SameF p.fs q.fs
  sz : q.size = p.size
  ne : 0 < q.fs.length
def vicQ (p : Pl) (a : Pl × Int × Int) : Prop := (a.2.2 = 0 → plB p = true ∧ plB a.1 = true ∧ SameF p.fs a.1.fs ∧ a.1.size = p.size ∧ ∃ i, i < a.1.fs.length ∧ a.2.1 = (a.1.fs.getD i Fm0).pg.id) ∧ (plB p = true → 0 < p.fs.length → a.2.2 = 0) ∧ a.1.fs.length ≤ p.fs.length
def vicD (a : Pl × Int × Int) : DV := .tup [.agg a.1.d, .int .i64 a.2.1, .int .i64 a.2.2]
theorem rpvic_v (p : Pl) (hl : p.fs.length ≤ 100000) : VCalls prog 226 [.agg p.d] [] (RetS vicD (vicQ p)) := by
  refine dk Tryz.func226 ?_
  have c1 := rplvalid_v p (by omega)
  cases hb : plB p
  · rw [hb] at c1
    (unfold Tryz.f226; refine rn trivial ?_)
    refine rn F ?_
    repeat' (first
      | with_reducible exact ⟨⟩
      | refine vp F (c1) ?_)
    all_goals exact ⟨rfl, rfl, (Pl0, 0, 15), rfl, by simp [vicQ, hb, Pl0]⟩
  · rw [hb] at c1
    (unfold Tryz.f226; refine rn trivial ?_)
    refine rn F ?_
    repeat' (first
      | with_reducible exact ⟨⟩
      | (refine sB F ?_ ?_ <;> intro hZ)
      | refine vp F (c1) ?_)
    · exact ⟨rfl, rfl, (Pl0, 0, 18), rfl, fun h => absurd h (by decide), fun _ h => by omega, Nat.zero_le _⟩
    refine vloopW (fun s : Vic p => ⟨51, 0, [(2, .ptr 1 0), (1, .ptr 0 0)], [⟨86, true, s.q.d⟩, ⟨86, true, [.int .i64 0, .pv (.slc []), .int .i64 0]⟩]⟩) (fun s => usedN s.q.fs) ⟨p, hb, SameF.refl _, rfl, by omega⟩ (gc [0, 1]) ?_
    intro s
    obtain ⟨q, ok, sm, sz, ne⟩ := s
    obtain ⟨qz, l, hn⟩ := q
    dsimp only at ok sm sz ne ⊢
    have hh := plB_hd ok
    have hlen := sm.len
    simp only [Pl.hd] at hh
    obtain ⟨i, rfl⟩ : ∃ i : Nat, hn = i := ⟨hn.toNat, by omega⟩
    have hi : i < l.length := by omega
    have hg := fzF_at l i hi
    have c2 := fun f => rpset_v ⟨qz, l, i⟩ (by dsimp only; omega) i hi f
    have hst := SameF.set l i false
    have hus := usedN_set l i hi
    have hmod : ((i : Int) + 1).tmod (l.length : Int) = ((i + 1) % l.length : Nat) := Int.ofNat_tmod (i + 1) l.length
    have hml : (i + 1) % l.length < l.length := Nat.mod_lt _ ne
    have hle : ∀ f, (l.set i f).length = l.length := fun f => List.length_set
    generalize hf : l.getD i Fm0 = f at *
    have F := (And.intro @hg @hle)
    refine rn F ?_
    repeat' (first
      | with_reducible exact ⟨⟩
      | (refine sB F ?_ ?_ <;> intro hZ)
      | refine vp F (c2 ⟨_, _, _, _⟩) ?_
      | (refine vspine (id := 10) [0, 1, 2, 3, 4, 5, 6, 7, 8] [⟨[], [], 9, [1, 2, 3, 4, 5, 6, 7, 8], []⟩, ⟨[], [], 10, [], []⟩, ⟨[], [], 11, [], []⟩] (by kernel_rfl) (by kernel_rfl) ?_; refine rn F ?_))
    · rw [hmod]
      refine ⟨⟨⟨qz, l.set i ⟨f.pg, f.dirty, f.rc, false⟩, ((i + 1) % l.length : Nat)⟩, (sm.trans hst).plB sz ?_ hb, sm.trans hst, sz, ?_⟩, hus (by assumption), (gc [0, 1])⟩
      · dsimp only at hlen ⊢; omega
      · rw [hle]; exact ne
    · exact ⟨rfl, rfl, (⟨qz, l, i⟩, f.pg.id, 0), rfl, fun _ => ⟨hb, ok, sm, sz, i, hi, by rw [hf]⟩, fun _ _ => rfl, by dsimp only at hlen ⊢; omega⟩
theorem rpdirty_v (p : Pl) (hl : p.fs.length ≤ 100000) : VCalls prog 164 [.agg p.d] [] (RetS (fun l : List Dt => .pv (.sl (fz encY l))) fun l => l.length ≤ 64) := by
  refine dk Tryz.func164 ?_
  have c1 := rplvalid_v p (by omega)
  have c2 := rffind_v p (by omega)
  generalize plB p = b at *
  (unfold Tryz.f164; refine rn trivial ?_)
  refine rn F ?_
  repeat' (first
    | with_reducible exact ⟨⟩
    | (refine sB F ?_ ?_ <;> intro hZ)
    | refine vp F (c1) ?_)
  · exact ⟨rfl, rfl, [], rfl, Nat.zero_le _⟩
  refine VLoop.nilOwn 3 209 3 rfl ?_
  refine rn trivial ?_
  refine vloopW (fun s : {s : Nat × List Dt // s.1 ≤ 64 ∧ s.2.length ≤ s.1} => ⟨45, 0, [(4, .int .i64 s.1.1), (3, .own 1 3 0 s.1.2.length), (1, .ptr 0 0)], [⟨86, true, p.d⟩, ⟨209, true, cells encY s.1.2⟩]⟩) (fun s => 64 - s.1.1) ⟨(0, []), by simp⟩ (gc [0, 1]) ?_
  rintro ⟨⟨i, out⟩, hi, ho⟩
  dsimp only at hi ho ⊢
  have c3 := c2 i
  rcases idF_cases p.fs i with h | ⟨j, hj, h, _⟩
  all_goals rw [h] at c3
  · skip
    refine rn F ?_
    repeat' (first
      | with_reducible exact ⟨⟩
      | (refine sB F ?_ ?_ <;> intro hZ)
      | refine vp F (c3) ?_)
    · exact ⟨⟨(i + 1, out), by dsimp only; omega, by dsimp only; omega⟩, by dsimp only; omega, (gc [0, 1])⟩
    · exact ⟨rfl, rfl, out, rfl, by omega⟩
  · have hg := fzF_at p.fs j hj
    have hb : (out.length + 1) * 24 ≤ 140737488355328 := by omega
    generalize p.fs.getD j Fm0 = f at *
    have F := (And.intro @hg @hb)
    refine rn F ?_
    repeat' (first
      | with_reducible exact ⟨⟩
      | (refine sB F ?_ ?_ <;> intro hZ)
      | refine vp F (c3) ?_
      | (refine vspine (id := 9) [0, 1, 2, 3, 4, 5, 6, 7, 8, 9, 10, 11, 12, 13, 14, 15] [⟨[16], [16], 17, [1, 2, 3, 4, 5, 6, 7, 8, 9, 10, 11, 12, 13, 14, 15], []⟩, ⟨[], [], 18, [], []⟩] (by kernel_rfl) (by kernel_rfl) ?_; refine rn F ?_))
    · exact ⟨⟨(i + 1, out ++ [⟨i, f.rc, f.pg.lsn⟩]), by dsimp only; omega, by simp; omega⟩, by dsimp only; omega, by dsimp only; rw [List.length_append]; exact (gc [0, 3])⟩
    · exact ⟨⟨(i + 1, out), by dsimp only; omega, by dsimp only; omega⟩, by dsimp only; omega, (gc [0, 1])⟩
    · exact ⟨rfl, rfl, out, rfl, by omega⟩
end
theorem rlast_v (x : Lg) (h1 : -1099511627776 ≤ x.f ∧ x.f ≤ 1099511627776) (h2 : x.es.length ≤ 1000000) : VCalls prog 61 [.agg x.c] [] (Ret (.int .i64 x.end_)) := by
  refine dd Tryz.func61 ?_
  unfold Lg.end_
  (unfold Tryz.f61; refine rn trivial ?_; try with_reducible exact ⟨⟩)
theorem lgB_end {x : Lg} (h : lgB x = true) : x.end_ ≤ 1099511627776 := by
  have hd := lgB_hd h
  unfold Lg.hd at hd
  unfold Lg.end_
  unfold lgB at h
  simp only [Bool.and_eq_true, List.all_eq_true] at h
  by_cases h0 : x.es.length = 0
  · omega
  · have := h.2 (x.es.length - 1) (List.mem_range.2 (by omega))
    unfold lgC at this
    simp only [Bool.and_eq_true, decide_eq_true_eq] at this
    obtain ⟨h3, h4⟩ := this
    generalize x.es.getD (x.es.length - 1) E0 = e at *
    unfold E.okB at h4
    simp only [Bool.and_eq_true, decide_eq_true_eq] at h4
    omega
theorem rlvalid_v (x : Lg) (hx : x.es.length ≤ 9223372036854775807) : VCalls prog 60 [.agg x.c] [] (Ret (.bool (lgB x))) := by
  refine dd Tryz.func60 ?_
  obtain ⟨f, es, d⟩ := x
  dsimp only at hx
  have c1 := rlast_v ⟨f, es, d⟩
  unfold Lg.end_ at c1
  dsimp only at c1
  have hB : lgB ⟨f, es, d⟩ = (decide (Lg.hd ⟨f, es, d⟩) && (List.range es.length).all (lgC ⟨f, es, d⟩)) := rfl
  have hH : Lg.hd ⟨f, es, d⟩ = (1 ≤ f ∧ f ≤ 1099511627776 ∧ es.length ≤ 4096 ∧ f - 1 ≤ d ∧ d ≤ f + es.length - 1) := rfl
  have hB' : Lg.hd ⟨f, es, d⟩ → lgB ⟨f, es, d⟩ = (List.range es.length).all (lgC ⟨f, es, d⟩) := fun h => by rw [hB, decide_eq_true h, Bool.true_and]
  have no : ¬ Lg.hd ⟨f, es, d⟩ → lgB ⟨f, es, d⟩ = false := fun h => by rw [hB, decide_eq_false h]; rfl
  have hlc : ∀ i, lgC ⟨f, es, d⟩ i = (decide ((es.getD i E0).lsn = f + i) && (es.getD i E0).okB) := fun _ => rfl
  generalize lgB ⟨f, es, d⟩ = b at *
  generalize lgC ⟨f, es, d⟩ = lc at *
  (unfold Tryz.f60; refine rn trivial ?_)
  refine rn F ?_
  repeat' (first
    | with_reducible exact ⟨⟩
    | (refine sG F ?_ ?_ <;> intro hZ)
    | (refine sB F ?_ ?_ <;> intro hZ)
    | refine vp F (c1 (by omega) (by omega)) ?_
    | (refine vspine (id := 1) [0, 1, 2, 3, 4, 5, 6, 7, 8, 9, 10, 11, 12, 13, 14, 15, 16, 17, 18, 19, 20, 21, 22, 23, 24, 25] [⟨[], [], 26, [0, 1, 2, 3, 4, 5, 6, 7, 8, 9, 10, 11, 12, 13, 14, 15, 16, 17, 18, 19, 20, 21, 23, 24], [27, 28]⟩] (by kernel_rfl) (by kernel_rfl) ?_; refine rn F ?_))
  all_goals first | (rw [no (by rw [hH]; omega)]) | skip
  refine vloopW (fun s : Okay es.length lc => ⟨60, 0, [(3, .int .i64 s.i), (1, .ptr 0 0)], [⟨63, true, Lg.c ⟨f, es, d⟩⟩]⟩) (fun s => es.length - s.i) (Okay.start _ _) (gc [0]) ?_
  intro s
  have hsi := s.hi
  have hg := fun h : s.i < es.length => fzE_g es s.i h
  have c2 := rvalid_v (es.getD s.i E0)
  have e := hlc s.i
  generalize (es.getD s.i E0).okB = ok at *
  have F := @hg
  refine rn F ?_
  repeat' (first
    | with_reducible exact ⟨⟩
    | (refine sG F ?_ ?_ <;> intro hZ)
    | (refine sB F ?_ ?_ <;> intro hZ)
    | refine vp F (c2) ?_
    | (refine vspine (id := 6) [0, 1, 2, 3, 4, 5, 6, 7, 8, 9, 10, 11, 12, 13, 14, 15, 16] [⟨[], [], 17, [0, 1, 2, 3, 4, 5, 6, 7, 8, 9, 10, 12, 13, 14, 15], [18, 19]⟩] (by kernel_rfl) (by kernel_rfl) ?_; refine rn F ?_))
  all_goals first
    | (exact congrArg DV.bool (s.no (by omega) (hB' (by rw [hH]; omega)) (by rw [e]; first | (rw [decide_eq_false (by omega)]; rfl) | simp_all)).symm)
    | (exact congrArg DV.bool (s.yes (by omega) (hB' (by rw [hH]; omega))).symm)
    | (exact ⟨s.next (by omega) (by rw [e]; simp_all), s.dec (by omega), (gc [0])⟩)
    | skip
def lastS (x : Lg) : Int := if lgB x = true then x.end_ else 0
theorem rlLast_v (x : Lg) (hx : x.es.length ≤ 9223372036854775807) : VCalls prog 35 [.agg x.c] [] (Ret (.int .i64 (lastS x))) := by
  refine dd Tryz.func35 ?_
  have c1 := rlvalid_v x hx
  have c2 := rlast_v x
  have hh := @lgB_hd x
  simp only [Lg.hd] at hh
  unfold lastS
  generalize lgB x = b at *
  cases b
  · (unfold Tryz.f35; refine rn trivial ?_; try with_reducible exact ⟨⟩)
    refine rn F ?_
    repeat' (first
      | with_reducible exact ⟨⟩
      | refine vp F (c1) ?_)
    all_goals rfl
  · replace hh := hh rfl
    (unfold Tryz.f35; refine rn trivial ?_)
    refine rn F ?_
    repeat' (first
      | with_reducible exact ⟨⟩
      | refine vp F (c1) ?_
      | refine vp F (c2 (by omega) (by omega)) ?_)
    all_goals rfl
theorem rappend_v (x : Lg) (hx : x.es.length ≤ 9223372036854775807) (e : E) : VCalls prog 169 [.agg x.c, .agg e.d] [] (Ret (appD (appS x e))) := by
  refine dk Tryz.func169 ?_
  have c1 := rlvalid_v x hx
  have c2 := rlast_v x
  have c3 := rvalid_v { e with lsn := x.end_ + 1 }
  have hh := @lgB_hd x
  have he := @lgB_end x
  simp only [Lg.hd] at hh
  have e0 : appS x e = if lgB x = false then (Lg0, 0, 26) else if x.es.length = 4096 ∨ 1099511627776 < x.end_ + 1 then (Lg0, 0, 21)
    else if ({ e with lsn := x.end_ + 1 } : E).okB = false then (Lg0, 0, 12) else (⟨x.f, x.es ++ [{ e with lsn := x.end_ + 1 }], x.d⟩, x.end_ + 1, 0) := rfl
  unfold appD
  generalize appS x e = r at *
  generalize lgB x = b at *
  obtain ⟨lsn, kind, tx, ptx, ppg, ref, c, blob⟩ := e
  dsimp only at c3 e0 ⊢
  cases b
  · (unfold Tryz.f169; refine rn trivial ?_; try with_reducible exact ⟨⟩)
    refine rn F ?_
    repeat' (first
      | with_reducible exact ⟨⟩
      | refine vp F (c1) ?_)
    all_goals (first | (rw [e0]; simp (disch := first | assumption | omega | exact rfl | exact nf (by assumption) | exact nt (by assumption) | decide | fail) only [if_pos, if_neg]; first | done | rfl) | (rw [e0]; simp (disch := first | assumption | omega | exact rfl | exact nf (by assumption) | exact nt (by assumption) | decide | (simp_all; done) | fail) only [if_pos, if_neg]; first | done | rfl))
  · replace hh := hh rfl
    replace he := he rfl
    have hdef : x.end_ = x.f + x.es.length - 1 := rfl
    have hl := app_E x.es ⟨x.end_ + 1, kind, tx, ptx, ppg, ref, c, blob⟩
    dsimp only at hl
    have hb : (x.es.length + 1) * 128 ≤ 140737488355328 := by omega
    generalize (⟨x.end_ + 1, kind, tx, ptx, ppg, ref, c, blob⟩ : E).okB = ok at *
    generalize x.end_ = en at *
    (unfold Tryz.f169; refine rn trivial ?_)
    have F := (And.intro @hb @hl)
    refine rn F ?_
    repeat' (first
      | with_reducible exact ⟨⟩
      | (refine sG F ?_ ?_ <;> intro hZ)
      | (refine sB F ?_ ?_ <;> intro hZ)
      | refine vp F (c1) ?_
      | refine vp F (c2 (by omega) (by omega)) ?_
      | refine vp F (c3) ?_
      | (refine vspine (id := 8) [0, 1, 3] [⟨[4], [], 2, [0, 3], []⟩, ⟨[4], [4], 5, [0, 1, 3], [6]⟩, ⟨[], [], 7, [], []⟩] (by kernel_rfl) (by kernel_rfl) ?_; refine rn F ?_)
      | (refine vspine (id := 9) [0, 1, 2] [⟨[], [], 3, [1, 2], []⟩, ⟨[], [], 4, [], []⟩, ⟨[], [], 5, [], []⟩] (by kernel_rfl) (by kernel_rfl) ?_; refine rn F ?_))
    all_goals first | (first | (rw [e0]; simp (disch := first | assumption | omega | exact rfl | exact nf (by assumption) | exact nt (by assumption) | decide | fail) only [if_pos, if_neg]; first | done | rfl) | (rw [e0]; simp (disch := first | assumption | omega | exact rfl | exact nf (by assumption) | exact nt (by assumption) | decide | (simp_all; done) | fail) only [if_pos, if_neg]; first | done | rfl)) | skip
theorem rforce_v (x : Lg) (hx : x.es.length ≤ 9223372036854775807) (n : Int) : VCalls prog 34 [.agg x.c, .int .i64 n] [] (Ret (lgD (forceS x n))) := by
  refine dk Tryz.func34 ?_
  have c1 := rlvalid_v x hx
  have c2 := rlast_v x
  have hh := @lgB_hd x
  simp only [Lg.hd] at hh
  have e0 : forceS x n = if lgB x = false then (Lg0, 26) else if x.end_ < n then (Lg0, 14) else (⟨x.f, x.es, if n > x.d then n else x.d⟩, 0) := rfl
  unfold lgD
  generalize forceS x n = r at *
  generalize lgB x = b at *
  cases b
  · (unfold Tryz.f34; refine rn trivial ?_; try with_reducible exact ⟨⟩)
    refine rn F ?_
    repeat' (first
      | with_reducible exact ⟨⟩
      | refine vp F (c1) ?_)
    all_goals (first | (rw [e0]; simp (disch := first | assumption | omega | exact rfl | exact nf (by assumption) | exact nt (by assumption) | decide | fail) only [if_pos, if_neg]; first | done | rfl) | (rw [e0]; simp (disch := first | assumption | omega | exact rfl | exact nf (by assumption) | exact nt (by assumption) | decide | (simp_all; done) | fail) only [if_pos, if_neg]; first | done | rfl))
  · replace hh := hh rfl
    (unfold Tryz.f34; refine rn trivial ?_)
    refine rn F ?_
    repeat' (first
      | with_reducible exact ⟨⟩
      | (refine sB F ?_ ?_ <;> intro hZ)
      | refine vp F (c1) ?_
      | refine vp F (c2 (by omega) (by omega)) ?_)
    all_goals first | (first | (rw [e0]; simp (disch := first | assumption | omega | exact rfl | exact nf (by assumption) | exact nt (by assumption) | decide | fail) only [if_pos, if_neg]; first | done | rfl) | (rw [e0]; simp (disch := first | assumption | omega | exact rfl | exact nf (by assumption) | exact nt (by assumption) | decide | (simp_all; done) | fail) only [if_pos, if_neg]; first | done | rfl)) | skip
def getE (x : Lg) (n : Int) : E × Int := if lgB x = false then (E0, 26) else if n < x.f ∨ x.end_ < n then (E0, 14) else (x.es.getD (n - x.f).toNat E0, 0)
theorem rget_e (x : Lg) (hx : x.es.length ≤ 9223372036854775807) (n : Int) : VCalls prog 170 [.agg x.c, .int .i64 n] [] (Ret (.tup [.agg (getE x n).1.d, .int .i64 (getE x n).2])) := by
  refine dk Tryz.func170 ?_
  have c1 := rlvalid_v x hx
  have c2 := rlast_v x
  have hh := @lgB_hd x
  simp only [Lg.hd] at hh
  have e0 : getE x n = if lgB x = false then (E0, 26) else if n < x.f ∨ x.end_ < n then (E0, 14) else (x.es.getD (n - x.f).toNat E0, 0) := rfl
  generalize getE x n = r at *
  generalize lgB x = b at *
  cases b
  · (unfold Tryz.f170; refine rn trivial ?_; try with_reducible exact ⟨⟩)
    refine rn F ?_
    repeat' (first
      | with_reducible exact ⟨⟩
      | refine vp F (c1) ?_)
    all_goals (first | (rw [e0]; simp (disch := first | assumption | omega | exact rfl | exact nf (by assumption) | exact nt (by assumption) | decide | fail) only [if_pos, if_neg]; first | done | rfl) | (rw [e0]; simp (disch := first | assumption | omega | exact rfl | exact nf (by assumption) | exact nt (by assumption) | decide | (simp_all; done) | fail) only [if_pos, if_neg]; first | done | rfl))
  · replace hh := hh rfl
    have hdef : x.end_ = x.f + x.es.length - 1 := rfl
    generalize x.end_ = en at *
    have hg := fun h : (n - x.f).toNat < x.es.length => fzE_g x.es (n - x.f).toNat h
    (unfold Tryz.f170; refine rn trivial ?_)
    have F := @hg
    refine rn F ?_
    repeat' (first
      | with_reducible exact ⟨⟩
      | (refine sG F ?_ ?_ <;> intro hZ)
      | (refine sB F ?_ ?_ <;> intro hZ)
      | refine vp F (c1) ?_
      | refine vp F (c2 (by omega) (by omega)) ?_)
    all_goals first | (first | (rw [e0]; simp (disch := first | assumption | omega | exact rfl | exact nf (by assumption) | exact nt (by assumption) | decide | fail) only [if_pos, if_neg]; first | done | rfl) | (rw [e0]; simp (disch := first | assumption | omega | exact rfl | exact nf (by assumption) | exact nt (by assumption) | decide | (simp_all; done) | fail) only [if_pos, if_neg]; first | done | rfl)) | skip
def lsnB (n : Int) : Bool := decide (0 ≤ n) && decide (n ≤ 1099511627776)
theorem rlsn_v (n : Int) : VCalls prog 225 [.int .i64 n] [] (Ret (.bool (lsnB n))) := by
  refine dd Tryz.func225 ?_
  (unfold Tryz.f225; refine rn trivial ?_)
  refine rn F ?_
  repeat' (first
    | with_reducible exact ⟨⟩
    | (refine sG F ?_ ?_ <;> intro hZ))
  all_goals (first | rfl | (congr 3; rw [Bool.eq_iff_iff]; (try simp only [lsnB, decide_eq_true_eq, Bool.and_eq_true, Bool.or_eq_true, Bool.not_eq_true', Bool.not_eq_false', decide_eq_false_iff_not, beq_iff_eq, bne_iff_ne, ne_eq, Bool.false_eq_true, Bool.true_eq_false, iff_true, true_iff, iff_false, false_iff]); first | done | omega | grind))
def rowC (l : List Rw) (i : Nat) : Bool := lsnB (l.getD i Rw0).lsn && lsnB (l.getD i Rw0).im && lsnB (l.getD i Rw0).at_ && !(decide ((l.getD i Rw0).im = 0) && !decide ((l.getD i Rw0).at_ = 0))
def ixB (l : List Rw) : Bool := decide (1 ≤ l.length) && decide (l.length ≤ 64) && (List.range l.length).all (rowC l)
theorem ixB_len {l : List Rw} (h : ixB l = true) : 1 ≤ l.length ∧ l.length ≤ 64 := by
  unfold ixB at h; simp only [Bool.and_eq_true, decide_eq_true_eq] at h; exact h.1
theorem rixvalid_v (l : List Rw) (hl : l.length ≤ 1000000) : VCalls prog 179 [.agg [.pv (.sl (fz encR l))]] [] (Ret (.bool (ixB l))) := by
  refine dd Tryz.func179 ?_
  have hB : ixB l = (decide (1 ≤ l.length) && decide (l.length ≤ 64) && (List.range l.length).all (rowC l)) := rfl
  have hB' : 1 ≤ l.length → l.length ≤ 64 → ixB l = (List.range l.length).all (rowC l) := fun h h2 => by rw [hB, decide_eq_true h, decide_eq_true h2, Bool.true_and, Bool.true_and]
  have no : ¬ (1 ≤ l.length ∧ l.length ≤ 64) → ixB l = false := fun h => by
    rw [hB]
    by_cases h1 : 1 ≤ l.length
    · rw [decide_eq_false (show ¬ l.length ≤ 64 from fun h2 => h ⟨h1, h2⟩)]; simp
    · rw [decide_eq_false h1]; rfl
  generalize ixB l = b at *
  (unfold Tryz.f179; refine rn trivial ?_)
  refine rn F ?_
  repeat' (first
    | with_reducible exact ⟨⟩
    | (refine sG F ?_ ?_ <;> intro hZ)
    | (refine sB F ?_ ?_ <;> intro hZ))
  all_goals first | (rw [no (by omega)]) | skip
  refine vloopW (fun s : Okay l.length (rowC l) => ⟨53, 0, [(3, .int .i64 s.i), (1, .ptr 0 0)], [⟨93, true, [.pv (.sl (fz encR l))]⟩]⟩) (fun s => l.length - s.i) (Okay.start _ _) (gc [0]) ?_
  intro s
  have hsi := s.hi
  have hg := fun h : s.i < l.length => fzR_at l s.i h
  have e : rowC l s.i = (lsnB (l.getD s.i Rw0).lsn && lsnB (l.getD s.i Rw0).im && lsnB (l.getD s.i Rw0).at_ && !(decide ((l.getD s.i Rw0).im = 0) && !decide ((l.getD s.i Rw0).at_ = 0))) := rfl
  have c1 := rlsn_v (l.getD s.i Rw0).lsn
  have c2 := rlsn_v (l.getD s.i Rw0).im
  have c3 := rlsn_v (l.getD s.i Rw0).at_
  generalize lsnB (l.getD s.i Rw0).lsn = b1 at *
  generalize lsnB (l.getD s.i Rw0).im = b2 at *
  generalize lsnB (l.getD s.i Rw0).at_ = b3 at *
  have F := @hg
  refine rn F ?_
  repeat' (first
    | with_reducible exact ⟨⟩
    | (refine sG F ?_ ?_ <;> intro hZ)
    | (refine sB F ?_ ?_ <;> intro hZ)
    | refine vp F (c1) ?_
    | refine vp F (c2) ?_
    | refine vp F (c3) ?_)
  all_goals first
    | (exact congrArg DV.bool (s.no (by omega) (hB' (by omega) (by omega)) (by rw [e]; simp_all)).symm)
    | (exact congrArg DV.bool (s.yes (by omega) (hB' (by omega) (by omega))).symm)
    | (exact ⟨s.next (by omega) (by rw [e]; simp_all), s.dec (by omega), (gc [0])⟩)
    | skip
theorem setR_in (l : List Rw) (i : Nat) (r : Rw) (hi : i < l.length) : (cells encR l).take (i * 3) ++ [.pv (.lit (.int .i64 r.lsn)), .pv (.lit (.int .i64 r.im)), .pv (.lit (.int .i64 r.at_))] ++ (cells encR l).drop (i * 3 + 3) = cells encR (l.set i r) := set_in encR l i r hi
theorem rixset_v (l : List Rw) (hl : l.length ≤ 1000000) (i : Nat) (hi : i < l.length) (r : Rw) : VCalls prog 215 [.agg [.pv (.sl (fz encR l))], .int .i64 i, .agg r.d] [] (Ret (.agg [.pv (.sl (fz encR (l.set i r)))])) := by
  refine dd Tryz.func215 ?_
  have hb : i * 3 + 3 ≤ l.length * 3 := by omega
  have hse := setR_in l i r hi
  have hle : (l.set i r).length = l.length := List.length_set
  (unfold Tryz.f215; refine rn trivial ?_)
  have F := (And.intro @hb (And.intro @hse @hle))
  (refine rn F ?_; try with_reducible exact ⟨⟩)
theorem okB_page {e : E} (h : e.okB = true) (hk : e.kind = 1 ∨ e.kind = 2 ∨ e.kind = 7) : 0 ≤ e.c.pg ∧ e.c.pg < 64 := by
  unfold E.okB at h
  simp only [Bool.and_eq_true] at h
  have h2 := h.2
  unfold E.kindB Ch.okB Ch.ix at h2
  rcases hk with hk | hk | hk <;> rw [hk] at h2 <;> simp at h2 <;> omega
def noteR (l : List Rw) (e : E) : List Rw × Int :=
  if ixB l = false then ([], 28) else if e.okB = false then ([], 12) else if e.kind ≠ 7 then (l, 0) else if (l.length : Int) ≤ e.c.pg then ([], 1)
  else (l.set e.c.pg.toNat ⟨if e.ref > (l.getD e.c.pg.toNat Rw0).lsn then e.ref else (l.getD e.c.pg.toNat Rw0).lsn, (l.getD e.c.pg.toNat Rw0).im, (l.getD e.c.pg.toNat Rw0).at_⟩, 0)
theorem rixnote_v (l : List Rw) (hl : l.length ≤ 1000000) (e : E) : VCalls prog 172 [.agg [.pv (.sl (fz encR l))], .agg e.d] [] (Ret (.tup [.agg [.pv (.sl (fz encR (noteR l e).1))], .int .i64 (noteR l e).2])) := by
  refine dk Tryz.func172 ?_
  have c1 := rixvalid_v l hl
  have c2 := rvalid_v e
  have c3 := fun i hi => rixset_v l hl i hi
  have hp := @okB_page e
  have hp1 := hp
  have e0 : noteR l e = if ixB l = false then ([], 28) else if e.okB = false then ([], 12) else if e.kind ≠ 7 then (l, 0) else if (l.length : Int) ≤ e.c.pg then ([], 1)
    else (l.set e.c.pg.toNat ⟨if e.ref > (l.getD e.c.pg.toNat Rw0).lsn then e.ref else (l.getD e.c.pg.toNat Rw0).lsn, (l.getD e.c.pg.toNat Rw0).im, (l.getD e.c.pg.toNat Rw0).at_⟩, 0) := rfl
  generalize noteR l e = r at *
  generalize ixB l = b at *
  cases hok : e.okB
  · rw [hok] at c2 e0
    (unfold Tryz.f172; refine rn trivial ?_)
    refine rn F ?_
    repeat' (first
      | with_reducible exact ⟨⟩
      | (refine sB F ?_ ?_ <;> intro hZ)
      | refine vp F (c1) ?_
      | refine vp F (c2) ?_)
    all_goals first | (first | (rw [e0]; simp (disch := first | assumption | omega | exact rfl | exact nf (by assumption) | exact nt (by assumption) | decide | fail) only [if_pos, if_neg]; first | done | rfl) | (rw [e0]; simp (disch := first | assumption | omega | exact rfl | exact nf (by assumption) | exact nt (by assumption) | decide | (simp_all; done) | fail) only [if_pos, if_neg]; first | done | rfl)) | skip
  rw [hok] at c2 e0
  by_cases hk : e.kind = 7
  · obtain ⟨i, hi⟩ : ∃ i : Nat, e.c.pg = i := ⟨e.c.pg.toNat, by have := hp hok (.inr (.inr hk)); omega⟩
    rw [hi, Int.toNat_natCast] at e0
    have hg := fun h : i < l.length => fzR_at l i h
    generalize l.getD i Rw0 = w at *
    (unfold Tryz.f172; refine rn trivial ?_)
    have F := (And.intro @hi (And.intro @hg @hk))
    refine rn F ?_
    repeat' (first
      | with_reducible exact ⟨⟩
      | (refine sB F ?_ ?_ <;> intro hZ)
      | refine vp F (c1) ?_
      | refine vl F (c2) ?_
      | refine vp F (c3 i (by omega) ⟨_, _, _⟩) ?_)
    all_goals first | (first | (rw [e0]; simp (disch := first | assumption | omega | exact rfl | exact nf (by assumption) | exact nt (by assumption) | decide | fail) only [if_pos, if_neg]; first | done | rfl) | (rw [e0]; simp (disch := first | assumption | omega | exact rfl | exact nf (by assumption) | exact nt (by assumption) | decide | (simp_all; done) | fail) only [if_pos, if_neg]; first | done | rfl)) | skip
  · (unfold Tryz.f172; refine rn trivial ?_; try with_reducible exact ⟨⟩)
    have F := @hk
    refine rn F ?_
    repeat' (first
      | with_reducible exact ⟨⟩
      | (refine sB F ?_ ?_ <;> intro hZ)
      | refine vp F (c1) ?_
      | refine vp F (c2) ?_)
    all_goals first | (first | (rw [e0]; simp (disch := first | assumption | omega | exact rfl | exact nf (by assumption) | exact nt (by assumption) | decide | fail) only [if_pos, if_neg]; first | done | rfl) | (rw [e0]; simp (disch := first | assumption | omega | exact rfl | exact nf (by assumption) | exact nt (by assumption) | decide | (simp_all; done) | fail) only [if_pos, if_neg]; first | done | rfl)) | skip
theorem ce_no {c : Ce} (h : c.no = true) : c.data.length ≤ 12 := by
  unfold Ce.no at h
  simp only [Bool.and_eq_true, beq_iff_eq] at h
  rw [h.2]; exact Nat.zero_le _
theorem ce_ok {c : Ce} (h : c.okB = true) : c.data.length ≤ 12 := by
  unfold Ce.okB at h
  simp only [Bool.and_eq_true, decide_eq_true_eq] at h
  exact h.1
theorem okB_lens {e : E} (h : e.okB = true) : e.c.b.data.length ≤ 12 ∧ e.c.a.data.length ≤ 12 ∧ e.blob.length ≤ 8192 := by
  unfold E.okB at h
  simp only [Bool.and_eq_true] at h
  have h2 := h.2
  clear h
  unfold E.kindB at h2
  have nb : ∀ {l : List UInt8}, l == [] → l.length ≤ 8192 := fun h => by rw [beq_iff_eq] at h; rw [h]; exact Nat.zero_le _
  split at h2
  · simp only [Bool.and_eq_true, Ch.okB] at h2
    exact ⟨ce_ok h2.2.1.2, ce_ok h2.2.2, nb h2.1.2⟩
  split at h2
  · simp only [Bool.and_eq_true, Ch.okB] at h2
    exact ⟨ce_ok h2.2.1.2, ce_ok h2.2.2, nb h2.1.1.1.2⟩
  split at h2
  · simp only [Bool.and_eq_true, Ch.no] at h2
    exact ⟨ce_no h2.2.1.2, ce_no h2.2.2, nb h2.1.2⟩
  split at h2
  · simp only [Bool.and_eq_true, Ch.no, decide_eq_true_eq] at h2
    exact ⟨ce_no h2.2.1.2, ce_no h2.2.2, h2.1.2⟩
  split at h2
  · simp only [Bool.and_eq_true, Ch.ix] at h2
    exact ⟨ce_no h2.2.1.1.1.2, ce_no h2.2.1.1.2, nb h2.1.2⟩
  · cases h2
def cellBy (s : List UInt8) (c : Ce) : List UInt8 := if c.set = true then putL s c.data.length 1 ++ c.data else putL s 255 1
theorem cellBy_len (s : List UInt8) (c : Ce) : (cellBy s c).length ≤ s.length + 1 + c.data.length := by
  unfold cellBy; split
  · rw [List.length_append, putL_len]; exact Nat.le_refl _
  · rw [putL_len]; omega
theorem rcellby_v (s : List UInt8) (hs : s.length ≤ 100000000) (c : Ce) (hc : c.data.length ≤ 1000000) : VCalls prog 55 [.pv (.str s), .agg c.d] [] (Ret (.pv (.str (cellBy s c)))) := by
  refine dd Tryz.func55 ?_
  have c1 := rput_v s (by omega) 255 1 (by omega) (by omega)
  have c2 := rput_v s (by omega) c.data.length 1 (by omega) (by omega)
  have e : cellBy s c = if c.set = true then putL s c.data.length 1 ++ c.data else putL s 255 1 := rfl
  have hadd := str_add (a := putL s c.data.length 1) (b := c.data) (by rw [putL_len]; omega)
  generalize cellBy s c = r at *
  (unfold Tryz.f55; refine rn trivial ?_)
  have F := @hadd
  refine rn F ?_
  repeat' (first
    | with_reducible exact ⟨⟩
    | (refine sB F ?_ ?_ <;> intro hZ)
    | refine vp F (c1) ?_
    | refine vp F (c2) ?_
    | (refine vspine (id := 3) [0, 1, 2, 3, 5, 6] [⟨[], [], 4, [1, 2, 5, 6], [7]⟩, ⟨[], [], 8, [], []⟩] (by kernel_rfl) (by kernel_rfl) ?_; refine rn F ?_))
  all_goals first | (first | (rw [e]; simp (disch := first | assumption | omega | exact rfl | exact nf (by assumption) | exact nt (by assumption) | decide | fail) only [if_pos, if_neg]; first | done | rfl) | (rw [e]; simp (disch := first | assumption | omega | exact rfl | exact nf (by assumption) | exact nt (by assumption) | decide | (simp_all; done) | fail) only [if_pos, if_neg]; first | done | rfl)) | skip
def headBy (e : E) : List UInt8 := putL (putL (putL (putL (putL (putL (putL (putL [] e.lsn 8) e.kind 1) e.tx 4) e.ptx 8) e.ppg 8) e.ref 8) e.c.pg 4) e.c.sl 1
theorem headBy_len (e : E) : (headBy e).length = 42 := by unfold headBy; simp only [putL_len, List.length_nil]
def encBy (e : E) : List UInt8 := putL (cellBy (cellBy (headBy e) e.c.b) e.c.a) e.blob.length 4 ++ e.blob
def encE5 (e : E) : List UInt8 × Int := if e.okB = true then (encBy e, 0) else ([], 12)
theorem reenc_v (e : E) : VCalls prog 31 [.agg e.d] [] (Ret (.tup [.pv (.str (encE5 e).1), .int .i64 (encE5 e).2])) := by
  refine dd Tryz.func31 ?_
  have c1 := rvalid_v e
  unfold encE5
  cases hv : e.okB
  · rw [hv] at c1
    (unfold Tryz.f31; refine rn trivial ?_)
    refine rn F ?_
    repeat' (first
      | with_reducible exact ⟨⟩
      | refine vp F (c1) ?_)
    all_goals rfl
  rw [hv] at c1
  obtain ⟨l1, l2, l3⟩ := okB_lens hv
  have n1 := cellBy_len (headBy e) e.c.b
  have n2 := cellBy_len (cellBy (headBy e) e.c.b) e.c.a
  rw [headBy_len] at n1
  have p9 := rcellby_v (headBy e) (by rw [headBy_len]; omega) e.c.b (by omega)
  have p10 := rcellby_v (cellBy (headBy e) e.c.b) (by omega) e.c.a (by omega)
  have p11 := rput_v (cellBy (cellBy (headBy e) e.c.b) e.c.a) (by omega) e.blob.length 4 (by omega) (by omega)
  have hadd := str_add (a := putL (cellBy (cellBy (headBy e) e.c.b) e.c.a) e.blob.length 4) (b := e.blob) (by rw [putL_len]; omega)
  have hh : headBy e = putL (putL (putL (putL (putL (putL (putL (putL [] e.lsn 8) e.kind 1) e.tx 4) e.ptx 8) e.ppg 8) e.ref 8) e.c.pg 4) e.c.sl 1 := rfl
  have q := fun (s : List UInt8) (hs : s.length ≤ 1000) (n : Int) (k : Nat) (h1 : 1 ≤ k) (h8 : k ≤ 8) => rput_v s (by omega) n k h1 h8
  (unfold Tryz.f31; refine rn trivial ?_)
  have F := @hh.symm
  refine rn F ?_
  repeat' (first
    | with_reducible exact ⟨⟩
    | refine vp F (c1) ?_
    | refine vp F (q _ (by simp [putL_len]) _ 8 (by omega) (by omega)) ?_
    | refine vp F (q _ (by simp [putL_len]) _ 1 (by omega) (by omega)) ?_
    | refine vp F (q _ (by simp [putL_len]) _ 4 (by omega) (by omega)) ?_
    | (refine vspine (id := 11) [0, 1, 2, 3, 5, 6, 7] [⟨[], [], 4, [1, 2, 5, 6, 7], []⟩, ⟨[], [], 8, [0, 1, 2, 3, 5, 6], []⟩, ⟨[], [], 9, [], []⟩] (by kernel_rfl) (by kernel_rfl) ?_; refine rn F ?_))
  have F := @hadd
  refine rn F ?_
  repeat' (first
    | with_reducible exact ⟨⟩
    | refine vp F (p9) ?_
    | refine vp F (p10) ?_
    | refine vp F (p11) ?_
    | (refine vspine (id := 12) [0, 1, 2, 3, 5, 6] [⟨[], [], 4, [1, 2, 5, 6], [7]⟩, ⟨[], [], 8, [], []⟩, ⟨[], [], 9, [], []⟩] (by kernel_rfl) (by kernel_rfl) ?_; refine rn F ?_))
  all_goals rfl
theorem encE5_len (e : E) : (encE5 e).1.length ≤ 9000 := by
  unfold encE5
  split
  · rename_i hv
    obtain ⟨l1, l2, l3⟩ := okB_lens hv
    have n1 := cellBy_len (headBy e) e.c.b
    have n2 := cellBy_len (cellBy (headBy e) e.c.b) e.c.a
    rw [headBy_len] at n1
    unfold encBy
    dsimp only
    rw [List.length_append, putL_len]
    omega
  · exact Nat.zero_le _
theorem rframeE_v (e : E) : VCalls prog 174 [.agg e.d] [] (Ret (.pv (.str (frm (encE5 e).1)))) := by
  refine dd Tryz.func174 ?_
  have c1 := reenc_v e
  have hl := encE5_len e
  generalize encE5 e = r at *
  have c2 := rframe_v r.1 (by omega)
  (unfold Tryz.f174; refine rn trivial ?_)
  refine rn F ?_
  repeat' (first
    | with_reducible exact ⟨⟩
    | refine vp F (c1) ?_
    | refine vp F (c2) ?_)
  all_goals rfl
def headL (n : Int) : List UInt8 := frm (putL [80, 77, 76, 71] n 8)
theorem rheadL_v (n : Int) : VCalls prog 173 [.int .i64 n] [] (Ret (.pv (.str (headL n)))) := by
  refine dd Tryz.func173 ?_
  have c1 := rput_v [80, 77, 76, 71] (by simp) n 8 (by omega) (by omega)
  have c2 := rframe_v (putL [80, 77, 76, 71] n 8) (by rw [putL_len]; simp)
  (unfold Tryz.f173; refine rn trivial ?_)
  refine rn F ?_
  repeat' (first
    | with_reducible exact ⟨⟩
    | refine vp F (c1) ?_
    | refine vp F (c2) ?_)
  all_goals rfl
def frE (e : E) : List UInt8 := frm (encE5 e).1
theorem frE_len (e : E) : (frE e).length ≤ 9008 := by
  have := encE5_len e
  unfold frE frm
  split
  · rw [putL_len, List.length_append, putL_len, List.length_nil]; omega
  · exact Nat.zero_le _
def durB (l : List E) (d : Int) : List UInt8 := (l.filter fun e => decide (e.lsn ≤ d)).flatMap frE
def resB (l : List E) (d : Int) : List UInt8 := (l.filter fun e => !decide (e.lsn ≤ d)).flatMap frE
theorem durB_succ (l : List E) (d : Int) (i : Nat) (h : i < l.length) : durB (l.take (i + 1)) d = if (l.getD i E0).lsn ≤ d then durB (l.take i) d ++ frE (l.getD i E0) else durB (l.take i) d := by
  unfold durB
  rw [List.take_succ_eq_append_getElem h, List.filter_append, List.flatMap_append, getD_eq l i h]
  split <;> rename_i hx <;> simp [hx]
theorem resB_succ (l : List E) (d : Int) (i : Nat) (h : i < l.length) : resB (l.take (i + 1)) d = if (l.getD i E0).lsn ≤ d then resB (l.take i) d else resB (l.take i) d ++ frE (l.getD i E0) := by
  unfold resB
  rw [List.take_succ_eq_append_getElem h, List.filter_append, List.flatMap_append, getD_eq l i h]
  split <;> rename_i hx <;> simp [hx]
theorem fr_len (l : List E) : (l.flatMap frE).length ≤ 9008 * l.length := by
  induction l with
  | nil => simp
  | cons a r ih =>
    have := frE_len a
    rw [List.flatMap_cons, List.length_append, List.length_cons]; omega
theorem durB_len (l : List E) (d : Int) : (durB l d).length ≤ 9008 * l.length :=
  Nat.le_trans (fr_len _) (Nat.mul_le_mul_left _ (List.length_filter_le _ _))
theorem resB_len (l : List E) (d : Int) : (resB l d).length ≤ 9008 * l.length :=
  Nat.le_trans (fr_len _) (Nat.mul_le_mul_left _ (List.length_filter_le _ _))
theorem headL_len (n : Int) : (headL n).length ≤ 9008 := by
  unfold headL frm
  split
  · rw [putL_len, List.length_append, putL_len, putL_len, List.length_nil]; simp
  · exact Nat.zero_le _
def crashL (x : Lg) (torn : Int) : List UInt8 := if lgB x = true then headL x.f ++ durB x.es x.d ++ (resB x.es x.d).take torn.toNat else []
theorem rcrash_v (x : Lg) (hx : x.es.length ≤ 9223372036854775807) (torn : Int) : VCalls prog 133 [.agg x.c, .int .i64 torn] [] (Ret (.pv (.str (crashL x torn)))) := by
  refine dd Tryz.func133 ?_
  have c1 := rlvalid_v x hx
  have c2 := rheadL_v x.f
  have hh := headL_len x.f
  unfold crashL
  (unfold Tryz.f133; refine rn trivial ?_)
  cases hv : lgB x
  · rw [hv] at c1
    refine rn F ?_
    repeat' (first
      | with_reducible exact ⟨⟩
      | refine vp F (c1) ?_)
    all_goals rfl
  rw [hv] at c1
  have hd := lgB_hd hv
  simp only [Lg.hd] at hd
  refine rn F ?_
  repeat' (first
    | with_reducible exact ⟨⟩
    | refine vp F (c1) ?_
    | refine vp F (c2) ?_)
  generalize headL x.f = H at *
  refine vloopW (fun s : To x.es.length => ⟨55, 0, [(7, .int .i64 s.i), (6, .pv (.str (resB (x.es.take s.i) x.d))), (5, .pv (.str (H ++ durB (x.es.take s.i) x.d))), (2, .ptr 0 0), (1, .int .i64 torn)], [⟨63, true, x.c⟩]⟩) (fun s => x.es.length - s.i) ⟨0, Nat.zero_le _⟩ (by simp only [List.take_zero]; rw [show durB [] x.d = [] from rfl, show resB [] x.d = [] from rfl, List.append_nil]; exact (gc [0])) ?_
  rintro ⟨i, hi⟩
  dsimp only
  have hg := fun h : i < x.es.length => fzE_g x.es i h
  have c3 := rframeE_v (x.es.getD i E0)
  have hf := frE_len (x.es.getD i E0)
  have hs1 := durB_succ x.es x.d i
  have hs2 := resB_succ x.es x.d i
  have l1 := durB_len (x.es.take i) x.d
  have l2 := resB_len (x.es.take i) x.d
  rw [List.length_take] at l1 l2
  have hfr : frm (encE5 (x.es.getD i E0)).1 = frE (x.es.getD i E0) := rfl
  rw [hfr] at c3
  have a1 := str_add (a := H ++ durB (x.es.take i) x.d) (b := frE (x.es.getD i E0)) (by rw [List.length_append]; omega)
  have a2 := str_add (a := resB (x.es.take i) x.d) (b := frE (x.es.getD i E0)) (by omega)
  have hH : (H ++ durB (x.es.take i) x.d).length = H.length + (durB (x.es.take i) x.d).length := List.length_append
  have F := (And.intro @hg (And.intro @a1 @a2))
  refine rn F ?_
  repeat' (first
    | with_reducible exact ⟨⟩
    | (refine sB F ?_ ?_ <;> intro hZ)
    | refine vp F (c3) ?_
    | (refine vspine (id := 7) [0, 1, 2, 3, 4, 5, 6, 7, 8] [] (by kernel_rfl) (by kernel_rfl) ?_; refine rn F ?_))
  · have d1 := hs1 (by omega)
    have d2 := hs2 (by omega)
    rw [if_pos (by first | assumption | omega)] at d1 d2
    refine ⟨⟨i + 1, by omega⟩, by dsimp only; omega, ?_⟩
    dsimp only
    rw [d1, d2, ← List.append_assoc]
    exact (gc [0])
  · have d1 := hs1 (by omega)
    have d2 := hs2 (by omega)
    rw [if_neg (by first | assumption | omega)] at d1 d2
    refine ⟨⟨i + 1, by omega⟩, by dsimp only; omega, ?_⟩
    dsimp only
    rw [d1, d2]
    exact (gc [0])
  · rw [List.take_of_length_le (show x.es.length ≤ i by omega)]
    congr 3
    generalize resB x.es x.d = R
    by_cases h0 : 0 > torn
    · rw [if_pos h0]
      rw [if_neg (by omega), show torn.toNat = (0 : Int).toNat by omega]
    · rw [if_neg h0]
      by_cases h1 : (R.length : Int) < torn
      · rw [if_pos h1, Int.toNat_natCast, List.take_length, List.take_of_length_le (by omega)]
      · rw [if_neg h1]
end Go.Proofs.YtfabboefambbjaaGreat
