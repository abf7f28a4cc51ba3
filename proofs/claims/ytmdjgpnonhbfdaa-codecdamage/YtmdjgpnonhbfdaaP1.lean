/-
  Closed facts about the types of this seat, written by a program (gentypes.py).
-/
import Derived.Test.YtmdjgpnonhbfdaaProg
import Derived.Test.YtmdjgpnonhbfdaaV2
import Derived.KernelRfl
import Derived.Test.YtmdjgpnonhbfdaaV3
namespace Go.Proofs
open Go.V

theorem Try.vt2 : vt Try.prog 2 = some none := by kernel_rfl
theorem Try.vkind2 : vkind Try.prog 2 = .int .i64 := by kernel_rfl
theorem Try.vzero2 : vzero Try.prog 2 = some [.pv (.lit (.int .i64 0))] := by kernel_rfl
theorem Try.bytes2 : bytesT Try.prog 2 = some 8 := by kernel_rfl
theorem Try.vt3 : vt Try.prog 3 = some none := by kernel_rfl
theorem Try.vkind3 : vkind Try.prog 3 = .int .i64 := by kernel_rfl
theorem Try.vzero3 : vzero Try.prog 3 = some [.pv (.lit (.int .i64 0))] := by kernel_rfl
theorem Try.bytes3 : bytesT Try.prog 3 = some 8 := by kernel_rfl
theorem Try.vt4 : vt Try.prog 4 = some none := by kernel_rfl
theorem Try.vkind4 : vkind Try.prog 4 = .bool := by kernel_rfl
theorem Try.vzero4 : vzero Try.prog 4 = some [.pv (.lit (.bool false))] := by kernel_rfl
theorem Try.bytes4 : bytesT Try.prog 4 = some 1 := by kernel_rfl
theorem Try.vt5 : vt Try.prog 5 = some none := by kernel_rfl
theorem Try.vkind5 : vkind Try.prog 5 = .int .u8 := by kernel_rfl
theorem Try.vzero5 : vzero Try.prog 5 = some [.pv (.lit (.int .u8 0))] := by kernel_rfl
theorem Try.bytes5 : bytesT Try.prog 5 = some 1 := by kernel_rfl
theorem Try.vt9 : vt Try.prog 9 = some none := by kernel_rfl
theorem Try.notInt9 : notInt Try.prog 9 = true := by kernel_rfl
theorem Try.vkind9 : vkind Try.prog 9 = .str := by kernel_rfl
theorem Try.vzero9 : vzero Try.prog 9 = some [.pv (.str [])] := by kernel_rfl
theorem Try.bytes9 : bytesT Try.prog 9 = some 16 := by kernel_rfl
theorem Try.vt12 : vt Try.prog 12 = some none := by kernel_rfl
theorem Try.vkind12 : vkind Try.prog 12 = .int .u64 := by kernel_rfl
theorem Try.vzero12 : vzero Try.prog 12 = some [.pv (.lit (.int .u64 0))] := by kernel_rfl
theorem Try.bytes12 : bytesT Try.prog 12 = some 8 := by kernel_rfl
theorem Try.vt13 : vt Try.prog 13 = some (some 2) := by kernel_rfl
theorem Try.vkind13 : vkind Try.prog 13 = .other := by kernel_rfl
theorem Try.vfield13x0 : vfield Try.prog 13 0 = some (9, 0, 1) := by kernel_rfl
theorem Try.vfield13x1 : vfield Try.prog 13 1 = some (12, 1, 1) := by kernel_rfl
theorem Try.vplaces13 : vplaces Try.prog 13 = some fun j => ([(0, 1), (1, 1)] : List (Nat × Nat))[j]? := by kernel_rfl
theorem Try.vzero13 : vzero Try.prog 13 = some [.pv (.str []), .pv (.lit (.int .u64 0))] := by kernel_rfl
theorem Try.bytes13 : bytesT Try.prog 13 = some 24 := by kernel_rfl
theorem Try.vt21 : vt Try.prog 21 = some none := by kernel_rfl
theorem Try.vkind21 : vkind Try.prog 21 = .int .i32 := by kernel_rfl
theorem Try.vzero21 : vzero Try.prog 21 = some [.pv (.lit (.int .i32 0))] := by kernel_rfl
theorem Try.bytes21 : bytesT Try.prog 21 = some 4 := by kernel_rfl
theorem Try.vt23 : vt Try.prog 23 = some none := by kernel_rfl
theorem Try.velem23 : velem Try.prog 23 = some (none, 3, 1) := by kernel_rfl
theorem Try.notInt23 : notInt Try.prog 23 = true := by kernel_rfl
theorem Try.vkind23 : vkind Try.prog 23 = .sl 3 := by kernel_rfl
theorem Try.vzero23 : vzero Try.prog 23 = some [.pv (.slc [])] := by kernel_rfl
theorem Try.bytes23 : bytesT Try.prog 23 = some 24 := by kernel_rfl
theorem Try.vt25 : vt Try.prog 25 = some none := by kernel_rfl
theorem Try.vkind25 : vkind Try.prog 25 = .int .i64 := by kernel_rfl
theorem Try.vzero25 : vzero Try.prog 25 = some [.pv (.lit (.int .i64 0))] := by kernel_rfl
theorem Try.bytes25 : bytesT Try.prog 25 = some 8 := by kernel_rfl
theorem Try.vt29 : vt Try.prog 29 = some none := by kernel_rfl
theorem Try.vkind29 : vkind Try.prog 29 = .int .u64 := by kernel_rfl
theorem Try.vzero29 : vzero Try.prog 29 = some [.pv (.lit (.int .u64 0))] := by kernel_rfl
theorem Try.bytes29 : bytesT Try.prog 29 = some 8 := by kernel_rfl
theorem Try.vt31 : vt Try.prog 31 = some none := by kernel_rfl
theorem Try.vkind31 : vkind Try.prog 31 = .int .u16 := by kernel_rfl
theorem Try.vzero31 : vzero Try.prog 31 = some [.pv (.lit (.int .u16 0))] := by kernel_rfl
theorem Try.bytes31 : bytesT Try.prog 31 = some 2 := by kernel_rfl
theorem Try.vt32 : vt Try.prog 32 = some (some 4) := by kernel_rfl
theorem Try.vkind32 : vkind Try.prog 32 = .arr 4 := by kernel_rfl
theorem Try.velem32 : velem Try.prog 32 = some (some 4, 5, 1) := by kernel_rfl
theorem Try.vplaces32 : vplaces Try.prog 32 = some fun j => some (j * 1, 1) := by kernel_rfl
theorem Try.vzero32 : vzero Try.prog 32 = some [.pv (.lit (.int .u8 0)), .pv (.lit (.int .u8 0)), .pv (.lit (.int .u8 0)), .pv (.lit (.int .u8 0))] := by kernel_rfl
theorem Try.bytes32 : bytesT Try.prog 32 = some 4 := by kernel_rfl
theorem Try.leaves32 : leaves Try.prog 8 32 = some [(0, 1), (1, 1), (2, 1), (3, 1)] := by kernel_rfl
theorem Try.eqg32 : Try.prog.eqGuardType Try.prog.depth 32 = false := by kernel_rfl
theorem Try.vt33 : vt Try.prog 33 = some none := by kernel_rfl
theorem Try.velem33 : velem Try.prog 33 = some (none, 5, 1) := by kernel_rfl
theorem Try.notInt33 : notInt Try.prog 33 = true := by kernel_rfl
theorem Try.vkind33 : vkind Try.prog 33 = .sl 5 := by kernel_rfl
theorem Try.vzero33 : vzero Try.prog 33 = some [.pv (.slc [])] := by kernel_rfl
theorem Try.bytes33 : bytesT Try.prog 33 = some 24 := by kernel_rfl
theorem Try.vt34 : vt Try.prog 34 = some none := by kernel_rfl
theorem Try.vkind34 : vkind Try.prog 34 = .int .u32 := by kernel_rfl
theorem Try.vzero34 : vzero Try.prog 34 = some [.pv (.lit (.int .u32 0))] := by kernel_rfl
theorem Try.bytes34 : bytesT Try.prog 34 = some 4 := by kernel_rfl
theorem Try.vt37 : vt Try.prog 37 = some none := by kernel_rfl
theorem Try.vkind37 : vkind Try.prog 37 = .other := by kernel_rfl
theorem Try.vzero37 : vzero Try.prog 37 = some [.pv (.lit (.pointer none))] := by kernel_rfl
theorem Try.bytes37 : bytesT Try.prog 37 = some 8 := by kernel_rfl
theorem Try.vt41 : vt Try.prog 41 = some none := by kernel_rfl
theorem Try.velem41 : velem Try.prog 41 = some (none, 9, 1) := by kernel_rfl
theorem Try.notInt41 : notInt Try.prog 41 = true := by kernel_rfl
theorem Try.vkind41 : vkind Try.prog 41 = .sl 9 := by kernel_rfl
theorem Try.vzero41 : vzero Try.prog 41 = some [.pv (.slc [])] := by kernel_rfl
theorem Try.bytes41 : bytesT Try.prog 41 = some 24 := by kernel_rfl
theorem Try.vt48 : vt Try.prog 48 = some (some 2) := by kernel_rfl
theorem Try.vkind48 : vkind Try.prog 48 = .other := by kernel_rfl
theorem Try.vfield48x0 : vfield Try.prog 48 0 = some (4, 0, 1) := by kernel_rfl
theorem Try.vfield48x1 : vfield Try.prog 48 1 = some (9, 1, 1) := by kernel_rfl
theorem Try.vplaces48 : vplaces Try.prog 48 = some fun j => ([(0, 1), (1, 1)] : List (Nat × Nat))[j]? := by kernel_rfl
theorem Try.vzero48 : vzero Try.prog 48 = some [.pv (.lit (.bool false)), .pv (.str [])] := by kernel_rfl
theorem Try.bytes48 : bytesT Try.prog 48 = some 24 := by kernel_rfl
theorem Try.vt49 : vt Try.prog 49 = some (some 2) := by kernel_rfl
theorem Try.vkind49 : vkind Try.prog 49 = .other := by kernel_rfl
theorem Try.vfield49x0 : vfield Try.prog 49 0 = some (4, 0, 1) := by kernel_rfl
theorem Try.vfield49x1 : vfield Try.prog 49 1 = some (9, 1, 1) := by kernel_rfl
theorem Try.vplaces49 : vplaces Try.prog 49 = some fun j => ([(0, 1), (1, 1)] : List (Nat × Nat))[j]? := by kernel_rfl
theorem Try.vzero49 : vzero Try.prog 49 = some [.pv (.lit (.bool false)), .pv (.str [])] := by kernel_rfl
theorem Try.bytes49 : bytesT Try.prog 49 = some 24 := by kernel_rfl
theorem Try.leaves49 : leaves Try.prog 8 49 = some [(0, 0), (1, 2)] := by kernel_rfl
theorem Try.eqg49 : Try.prog.eqGuardType Try.prog.depth 49 = false := by kernel_rfl
theorem Try.vt50 : vt Try.prog 50 = some (some 6) := by kernel_rfl
theorem Try.vkind50 : vkind Try.prog 50 = .other := by kernel_rfl
theorem Try.vfield50x0 : vfield Try.prog 50 0 = some (3, 0, 1) := by kernel_rfl
theorem Try.vfield50x1 : vfield Try.prog 50 1 = some (3, 1, 1) := by kernel_rfl
theorem Try.vfield50x2 : vfield Try.prog 50 2 = some (49, 2, 2) := by kernel_rfl
theorem Try.vfield50x3 : vfield Try.prog 50 3 = some (49, 4, 2) := by kernel_rfl
theorem Try.vplaces50 : vplaces Try.prog 50 = some fun j => ([(0, 1), (1, 1), (2, 2), (4, 2)] : List (Nat × Nat))[j]? := by kernel_rfl
theorem Try.vzero50 : vzero Try.prog 50 = some [.pv (.lit (.int .i64 0)), .pv (.lit (.int .i64 0)), .pv (.lit (.bool false)), .pv (.str []), .pv (.lit (.bool false)), .pv (.str [])] := by kernel_rfl
theorem Try.bytes50 : bytesT Try.prog 50 = some 64 := by kernel_rfl
theorem Try.vt51 : vt Try.prog 51 = some (some 6) := by kernel_rfl
theorem Try.vkind51 : vkind Try.prog 51 = .other := by kernel_rfl
theorem Try.vfield51x0 : vfield Try.prog 51 0 = some (3, 0, 1) := by kernel_rfl
theorem Try.vfield51x1 : vfield Try.prog 51 1 = some (3, 1, 1) := by kernel_rfl
theorem Try.vfield51x2 : vfield Try.prog 51 2 = some (49, 2, 2) := by kernel_rfl
theorem Try.vfield51x3 : vfield Try.prog 51 3 = some (49, 4, 2) := by kernel_rfl
theorem Try.vplaces51 : vplaces Try.prog 51 = some fun j => ([(0, 1), (1, 1), (2, 2), (4, 2)] : List (Nat × Nat))[j]? := by kernel_rfl
theorem Try.vzero51 : vzero Try.prog 51 = some [.pv (.lit (.int .i64 0)), .pv (.lit (.int .i64 0)), .pv (.lit (.bool false)), .pv (.str []), .pv (.lit (.bool false)), .pv (.str [])] := by kernel_rfl
theorem Try.bytes51 : bytesT Try.prog 51 = some 64 := by kernel_rfl
theorem Try.leaves51 : leaves Try.prog 8 51 = some [(0, 1), (1, 1), (2, 0), (3, 2), (4, 0), (5, 2)] := by kernel_rfl
theorem Try.eqg51 : Try.prog.eqGuardType Try.prog.depth 51 = false := by kernel_rfl
theorem Try.vt52 : vt Try.prog 52 = some (some 13) := by kernel_rfl
theorem Try.vkind52 : vkind Try.prog 52 = .other := by kernel_rfl
theorem Try.vfield52x0 : vfield Try.prog 52 0 = some (3, 0, 1) := by kernel_rfl
theorem Try.vfield52x1 : vfield Try.prog 52 1 = some (3, 1, 1) := by kernel_rfl
theorem Try.vfield52x2 : vfield Try.prog 52 2 = some (3, 2, 1) := by kernel_rfl
theorem Try.vfield52x3 : vfield Try.prog 52 3 = some (3, 3, 1) := by kernel_rfl
theorem Try.vfield52x4 : vfield Try.prog 52 4 = some (3, 4, 1) := by kernel_rfl
theorem Try.vfield52x5 : vfield Try.prog 52 5 = some (3, 5, 1) := by kernel_rfl
theorem Try.vfield52x6 : vfield Try.prog 52 6 = some (51, 6, 6) := by kernel_rfl
theorem Try.vfield52x7 : vfield Try.prog 52 7 = some (9, 12, 1) := by kernel_rfl
theorem Try.vplaces52 : vplaces Try.prog 52 = some fun j => ([(0, 1), (1, 1), (2, 1), (3, 1), (4, 1), (5, 1), (6, 6), (12, 1)] : List (Nat × Nat))[j]? := by kernel_rfl
theorem Try.vzero52 : vzero Try.prog 52 = some [.pv (.lit (.int .i64 0)), .pv (.lit (.int .i64 0)), .pv (.lit (.int .i64 0)), .pv (.lit (.int .i64 0)), .pv (.lit (.int .i64 0)), .pv (.lit (.int .i64 0)), .pv (.lit (.int .i64 0)), .pv (.lit (.int .i64 0)), .pv (.lit (.bool false)), .pv (.str []), .pv (.lit (.bool false)), .pv (.str []), .pv (.str [])] := by kernel_rfl
theorem Try.bytes52 : bytesT Try.prog 52 = some 128 := by kernel_rfl
theorem Try.vt53 : vt Try.prog 53 = some (some 13) := by kernel_rfl
theorem Try.vkind53 : vkind Try.prog 53 = .other := by kernel_rfl
theorem Try.vfield53x0 : vfield Try.prog 53 0 = some (3, 0, 1) := by kernel_rfl
theorem Try.vfield53x1 : vfield Try.prog 53 1 = some (3, 1, 1) := by kernel_rfl
theorem Try.vfield53x2 : vfield Try.prog 53 2 = some (3, 2, 1) := by kernel_rfl
theorem Try.vfield53x3 : vfield Try.prog 53 3 = some (3, 3, 1) := by kernel_rfl
theorem Try.vfield53x4 : vfield Try.prog 53 4 = some (3, 4, 1) := by kernel_rfl
theorem Try.vfield53x5 : vfield Try.prog 53 5 = some (3, 5, 1) := by kernel_rfl
theorem Try.vfield53x6 : vfield Try.prog 53 6 = some (51, 6, 6) := by kernel_rfl
theorem Try.vfield53x7 : vfield Try.prog 53 7 = some (9, 12, 1) := by kernel_rfl
theorem Try.vplaces53 : vplaces Try.prog 53 = some fun j => ([(0, 1), (1, 1), (2, 1), (3, 1), (4, 1), (5, 1), (6, 6), (12, 1)] : List (Nat × Nat))[j]? := by kernel_rfl
theorem Try.vzero53 : vzero Try.prog 53 = some [.pv (.lit (.int .i64 0)), .pv (.lit (.int .i64 0)), .pv (.lit (.int .i64 0)), .pv (.lit (.int .i64 0)), .pv (.lit (.int .i64 0)), .pv (.lit (.int .i64 0)), .pv (.lit (.int .i64 0)), .pv (.lit (.int .i64 0)), .pv (.lit (.bool false)), .pv (.str []), .pv (.lit (.bool false)), .pv (.str []), .pv (.str [])] := by kernel_rfl
theorem Try.bytes53 : bytesT Try.prog 53 = some 128 := by kernel_rfl
theorem Try.leaves53 : leaves Try.prog 8 53 = some [(0, 1), (1, 1), (2, 1), (3, 1), (4, 1), (5, 1), (6, 1), (7, 1), (8, 0), (9, 2), (10, 0), (11, 2), (12, 2)] := by kernel_rfl
theorem Try.eqg53 : Try.prog.eqGuardType Try.prog.depth 53 = false := by kernel_rfl
theorem Try.vt62 : vt Try.prog 62 = some none := by kernel_rfl
theorem Try.velem62 : velem Try.prog 62 = some (none, 53, 13) := by kernel_rfl
theorem Try.notInt62 : notInt Try.prog 62 = true := by kernel_rfl
theorem Try.vkind62 : vkind Try.prog 62 = .sl 53 := by kernel_rfl
theorem Try.vzero62 : vzero Try.prog 62 = some [.pv (.slc [])] := by kernel_rfl
theorem Try.bytes62 : bytesT Try.prog 62 = some 24 := by kernel_rfl
theorem Try.vt64 : vt Try.prog 64 = some none := by kernel_rfl
theorem Try.vkind64 : vkind Try.prog 64 = .other := by kernel_rfl
theorem Try.vzero64 : vzero Try.prog 64 = some [.pv (.lit (.pointer none))] := by kernel_rfl
theorem Try.bytes64 : bytesT Try.prog 64 = some 8 := by kernel_rfl
theorem Try.vt65 : vt Try.prog 65 = some (some 2) := by kernel_rfl
theorem Try.vkind65 : vkind Try.prog 65 = .other := by kernel_rfl
theorem Try.vfield65x0 : vfield Try.prog 65 0 = some (64, 0, 1) := by kernel_rfl
theorem Try.vfield65x1 : vfield Try.prog 65 1 = some (33, 1, 1) := by kernel_rfl
theorem Try.vplaces65 : vplaces Try.prog 65 = some fun j => ([(0, 1), (1, 1)] : List (Nat × Nat))[j]? := by kernel_rfl
theorem Try.vzero65 : vzero Try.prog 65 = some [.pv (.lit (.pointer none)), .pv (.slc [])] := by kernel_rfl
theorem Try.bytes65 : bytesT Try.prog 65 = some 32 := by kernel_rfl
theorem Try.vt66 : vt Try.prog 66 = some (some 2) := by kernel_rfl
theorem Try.vkind66 : vkind Try.prog 66 = .other := by kernel_rfl
theorem Try.vfield66x0 : vfield Try.prog 66 0 = some (64, 0, 1) := by kernel_rfl
theorem Try.vfield66x1 : vfield Try.prog 66 1 = some (33, 1, 1) := by kernel_rfl
theorem Try.vplaces66 : vplaces Try.prog 66 = some fun j => ([(0, 1), (1, 1)] : List (Nat × Nat))[j]? := by kernel_rfl
theorem Try.vzero66 : vzero Try.prog 66 = some [.pv (.lit (.pointer none)), .pv (.slc [])] := by kernel_rfl
theorem Try.bytes66 : bytesT Try.prog 66 = some 32 := by kernel_rfl
theorem Try.vt72 : vt Try.prog 72 = some none := by kernel_rfl
theorem Try.vkind72 : vkind Try.prog 72 = .int .u64 := by kernel_rfl
theorem Try.vzero72 : vzero Try.prog 72 = some [.pv (.lit (.int .u64 0))] := by kernel_rfl
theorem Try.bytes72 : bytesT Try.prog 72 = some 8 := by kernel_rfl
theorem Try.vt74 : vt Try.prog 74 = some (some 16) := by kernel_rfl
theorem Try.vkind74 : vkind Try.prog 74 = .arr 16 := by kernel_rfl
theorem Try.velem74 : velem Try.prog 74 = some (some 16, 34, 1) := by kernel_rfl
theorem Try.vplaces74 : vplaces Try.prog 74 = some fun j => some (j * 1, 1) := by kernel_rfl
theorem Try.vzero74 : vzero Try.prog 74 = some [.pv (.lit (.int .u32 0)), .pv (.lit (.int .u32 0)), .pv (.lit (.int .u32 0)), .pv (.lit (.int .u32 0)), .pv (.lit (.int .u32 0)), .pv (.lit (.int .u32 0)), .pv (.lit (.int .u32 0)), .pv (.lit (.int .u32 0)), .pv (.lit (.int .u32 0)), .pv (.lit (.int .u32 0)), .pv (.lit (.int .u32 0)), .pv (.lit (.int .u32 0)), .pv (.lit (.int .u32 0)), .pv (.lit (.int .u32 0)), .pv (.lit (.int .u32 0)), .pv (.lit (.int .u32 0))] := by kernel_rfl
theorem Try.bytes74 : bytesT Try.prog 74 = some 64 := by kernel_rfl
theorem Try.leaves74 : leaves Try.prog 8 74 = some [(0, 1), (1, 1), (2, 1), (3, 1), (4, 1), (5, 1), (6, 1), (7, 1), (8, 1), (9, 1), (10, 1), (11, 1), (12, 1), (13, 1), (14, 1), (15, 1)] := by kernel_rfl
theorem Try.eqg74 : Try.prog.eqGuardType Try.prog.depth 74 = false := by kernel_rfl
theorem Try.vt76 : vt Try.prog 76 = some (some 2) := by kernel_rfl
theorem Try.vkind76 : vkind Try.prog 76 = .other := by kernel_rfl
theorem Try.vfield76x0 : vfield Try.prog 76 0 = some (33, 0, 1) := by kernel_rfl
theorem Try.vfield76x1 : vfield Try.prog 76 1 = some (3, 1, 1) := by kernel_rfl
theorem Try.vplaces76 : vplaces Try.prog 76 = some fun j => ([(0, 1), (1, 1)] : List (Nat × Nat))[j]? := by kernel_rfl
theorem Try.vzero76 : vzero Try.prog 76 = some [.pv (.slc []), .pv (.lit (.int .i64 0))] := by kernel_rfl
theorem Try.bytes76 : bytesT Try.prog 76 = some 32 := by kernel_rfl
theorem Try.vt77 : vt Try.prog 77 = some (some 2) := by kernel_rfl
theorem Try.vkind77 : vkind Try.prog 77 = .other := by kernel_rfl
theorem Try.vfield77x0 : vfield Try.prog 77 0 = some (33, 0, 1) := by kernel_rfl
theorem Try.vfield77x1 : vfield Try.prog 77 1 = some (3, 1, 1) := by kernel_rfl
theorem Try.vplaces77 : vplaces Try.prog 77 = some fun j => ([(0, 1), (1, 1)] : List (Nat × Nat))[j]? := by kernel_rfl
theorem Try.vzero77 : vzero Try.prog 77 = some [.pv (.slc []), .pv (.lit (.int .i64 0))] := by kernel_rfl
theorem Try.bytes77 : bytesT Try.prog 77 = some 32 := by kernel_rfl
theorem Try.vt80 : vt Try.prog 80 = some none := by kernel_rfl
theorem Try.vkind80 : vkind Try.prog 80 = .other := by kernel_rfl
theorem Try.vzero80 : vzero Try.prog 80 = some [.pv (.lit (.pointer none))] := by kernel_rfl
theorem Try.bytes80 : bytesT Try.prog 80 = some 8 := by kernel_rfl
theorem Try.vt81 : vt Try.prog 81 = some (some 3) := by kernel_rfl
theorem Try.vkind81 : vkind Try.prog 81 = .other := by kernel_rfl
theorem Try.vfield81x0 : vfield Try.prog 81 0 = some (9, 0, 1) := by kernel_rfl
theorem Try.vfield81x1 : vfield Try.prog 81 1 = some (3, 1, 1) := by kernel_rfl
theorem Try.vfield81x2 : vfield Try.prog 81 2 = some (25, 2, 1) := by kernel_rfl
theorem Try.vplaces81 : vplaces Try.prog 81 = some fun j => ([(0, 1), (1, 1), (2, 1)] : List (Nat × Nat))[j]? := by kernel_rfl
theorem Try.vzero81 : vzero Try.prog 81 = some [.pv (.str []), .pv (.lit (.int .i64 0)), .pv (.lit (.int .i64 0))] := by kernel_rfl
theorem Try.bytes81 : bytesT Try.prog 81 = some 32 := by kernel_rfl
theorem Try.vt82 : vt Try.prog 82 = some (some 3) := by kernel_rfl
theorem Try.vkind82 : vkind Try.prog 82 = .other := by kernel_rfl
theorem Try.vfield82x0 : vfield Try.prog 82 0 = some (9, 0, 1) := by kernel_rfl
theorem Try.vfield82x1 : vfield Try.prog 82 1 = some (3, 1, 1) := by kernel_rfl
theorem Try.vfield82x2 : vfield Try.prog 82 2 = some (25, 2, 1) := by kernel_rfl
theorem Try.vplaces82 : vplaces Try.prog 82 = some fun j => ([(0, 1), (1, 1), (2, 1)] : List (Nat × Nat))[j]? := by kernel_rfl
theorem Try.vzero82 : vzero Try.prog 82 = some [.pv (.str []), .pv (.lit (.int .i64 0)), .pv (.lit (.int .i64 0))] := by kernel_rfl
theorem Try.bytes82 : bytesT Try.prog 82 = some 32 := by kernel_rfl
theorem Try.leaves82 : leaves Try.prog 8 82 = some [(0, 2), (1, 1), (2, 1)] := by kernel_rfl
theorem Try.eqg82 : Try.prog.eqGuardType Try.prog.depth 82 = false := by kernel_rfl
theorem Try.vt85 : vt Try.prog 85 = some none := by kernel_rfl
theorem Try.vkind85 : vkind Try.prog 85 = .other := by kernel_rfl
theorem Try.vzero85 : vzero Try.prog 85 = some [.pv (.lit (.pointer none))] := by kernel_rfl
theorem Try.bytes85 : bytesT Try.prog 85 = some 8 := by kernel_rfl
theorem Try.vt86 : vt Try.prog 86 = some (some 3) := by kernel_rfl
theorem Try.vkind86 : vkind Try.prog 86 = .other := by kernel_rfl
theorem Try.vfield86x0 : vfield Try.prog 86 0 = some (9, 0, 1) := by kernel_rfl
theorem Try.vfield86x1 : vfield Try.prog 86 1 = some (3, 1, 1) := by kernel_rfl
theorem Try.vfield86x2 : vfield Try.prog 86 2 = some (25, 2, 1) := by kernel_rfl
theorem Try.vplaces86 : vplaces Try.prog 86 = some fun j => ([(0, 1), (1, 1), (2, 1)] : List (Nat × Nat))[j]? := by kernel_rfl
theorem Try.vzero86 : vzero Try.prog 86 = some [.pv (.str []), .pv (.lit (.int .i64 0)), .pv (.lit (.int .i64 0))] := by kernel_rfl
theorem Try.bytes86 : bytesT Try.prog 86 = some 32 := by kernel_rfl
theorem Try.vt87 : vt Try.prog 87 = some (some 3) := by kernel_rfl
theorem Try.vkind87 : vkind Try.prog 87 = .other := by kernel_rfl
theorem Try.vfield87x0 : vfield Try.prog 87 0 = some (9, 0, 1) := by kernel_rfl
theorem Try.vfield87x1 : vfield Try.prog 87 1 = some (3, 1, 1) := by kernel_rfl
theorem Try.vfield87x2 : vfield Try.prog 87 2 = some (25, 2, 1) := by kernel_rfl
theorem Try.vplaces87 : vplaces Try.prog 87 = some fun j => ([(0, 1), (1, 1), (2, 1)] : List (Nat × Nat))[j]? := by kernel_rfl
theorem Try.vzero87 : vzero Try.prog 87 = some [.pv (.str []), .pv (.lit (.int .i64 0)), .pv (.lit (.int .i64 0))] := by kernel_rfl
theorem Try.bytes87 : bytesT Try.prog 87 = some 32 := by kernel_rfl
theorem Try.leaves87 : leaves Try.prog 8 87 = some [(0, 2), (1, 1), (2, 1)] := by kernel_rfl
theorem Try.eqg87 : Try.prog.eqGuardType Try.prog.depth 87 = false := by kernel_rfl
theorem Try.vt90 : vt Try.prog 90 = some (some 7) := by kernel_rfl
theorem Try.vkind90 : vkind Try.prog 90 = .other := by kernel_rfl
theorem Try.vfield90x0 : vfield Try.prog 90 0 = some (4, 0, 1) := by kernel_rfl
theorem Try.vfield90x1 : vfield Try.prog 90 1 = some (4, 1, 1) := by kernel_rfl
theorem Try.vfield90x2 : vfield Try.prog 90 2 = some (4, 2, 1) := by kernel_rfl
theorem Try.vfield90x3 : vfield Try.prog 90 3 = some (4, 3, 1) := by kernel_rfl
theorem Try.vfield90x4 : vfield Try.prog 90 4 = some (4, 4, 1) := by kernel_rfl
theorem Try.vfield90x5 : vfield Try.prog 90 5 = some (58, 5, 1) := by kernel_rfl
theorem Try.vfield90x6 : vfield Try.prog 90 6 = some (89, 6, 1) := by kernel_rfl
theorem Try.vplaces90 : vplaces Try.prog 90 = some fun j => ([(0, 1), (1, 1), (2, 1), (3, 1), (4, 1), (5, 1), (6, 1)] : List (Nat × Nat))[j]? := by kernel_rfl
theorem Try.vzero90 : vzero Try.prog 90 = some [.pv (.lit (.bool false)), .pv (.lit (.bool false)), .pv (.lit (.bool false)), .pv (.lit (.bool false)), .pv (.lit (.bool false)), .pv (.lit .nilFunc), .pv (.lit .nilFunc)] := by kernel_rfl
theorem Try.bytes90 : bytesT Try.prog 90 = some 24 := by kernel_rfl
theorem Try.vt91 : vt Try.prog 91 = some (some 7) := by kernel_rfl
theorem Try.vkind91 : vkind Try.prog 91 = .other := by kernel_rfl
theorem Try.vfield91x0 : vfield Try.prog 91 0 = some (4, 0, 1) := by kernel_rfl
theorem Try.vfield91x1 : vfield Try.prog 91 1 = some (4, 1, 1) := by kernel_rfl
theorem Try.vfield91x2 : vfield Try.prog 91 2 = some (4, 2, 1) := by kernel_rfl
theorem Try.vfield91x3 : vfield Try.prog 91 3 = some (4, 3, 1) := by kernel_rfl
theorem Try.vfield91x4 : vfield Try.prog 91 4 = some (4, 4, 1) := by kernel_rfl
theorem Try.vfield91x5 : vfield Try.prog 91 5 = some (58, 5, 1) := by kernel_rfl
theorem Try.vfield91x6 : vfield Try.prog 91 6 = some (89, 6, 1) := by kernel_rfl
theorem Try.vplaces91 : vplaces Try.prog 91 = some fun j => ([(0, 1), (1, 1), (2, 1), (3, 1), (4, 1), (5, 1), (6, 1)] : List (Nat × Nat))[j]? := by kernel_rfl
theorem Try.vzero91 : vzero Try.prog 91 = some [.pv (.lit (.bool false)), .pv (.lit (.bool false)), .pv (.lit (.bool false)), .pv (.lit (.bool false)), .pv (.lit (.bool false)), .pv (.lit .nilFunc), .pv (.lit .nilFunc)] := by kernel_rfl
theorem Try.bytes91 : bytesT Try.prog 91 = some 24 := by kernel_rfl
theorem Try.vt92 : vt Try.prog 92 = some (some 63) := by kernel_rfl
theorem Try.vkind92 : vkind Try.prog 92 = .arr 9 := by kernel_rfl
theorem Try.velem92 : velem Try.prog 92 = some (some 9, 91, 7) := by kernel_rfl
theorem Try.vplaces92 : vplaces Try.prog 92 = some fun j => some (j * 7, 7) := by kernel_rfl
theorem Try.vzero92 : vzero Try.prog 92 = some [.pv (.lit (.bool false)), .pv (.lit (.bool false)), .pv (.lit (.bool false)), .pv (.lit (.bool false)), .pv (.lit (.bool false)), .pv (.lit .nilFunc), .pv (.lit .nilFunc), .pv (.lit (.bool false)), .pv (.lit (.bool false)), .pv (.lit (.bool false)), .pv (.lit (.bool false)), .pv (.lit (.bool false)), .pv (.lit .nilFunc), .pv (.lit .nilFunc), .pv (.lit (.bool false)), .pv (.lit (.bool false)), .pv (.lit (.bool false)), .pv (.lit (.bool false)), .pv (.lit (.bool false)), .pv (.lit .nilFunc), .pv (.lit .nilFunc), .pv (.lit (.bool false)), .pv (.lit (.bool false)), .pv (.lit (.bool false)), .pv (.lit (.bool false)), .pv (.lit (.bool false)), .pv (.lit .nilFunc), .pv (.lit .nilFunc), .pv (.lit (.bool false)), .pv (.lit (.bool false)), .pv (.lit (.bool false)), .pv (.lit (.bool false)), .pv (.lit (.bool false)), .pv (.lit .nilFunc), .pv (.lit .nilFunc), .pv (.lit (.bool false)), .pv (.lit (.bool false)), .pv (.lit (.bool false)), .pv (.lit (.bool false)), .pv (.lit (.bool false)), .pv (.lit .nilFunc), .pv (.lit .nilFunc), .pv (.lit (.bool false)), .pv (.lit (.bool false)), .pv (.lit (.bool false)), .pv (.lit (.bool false)), .pv (.lit (.bool false)), .pv (.lit .nilFunc), .pv (.lit .nilFunc), .pv (.lit (.bool false)), .pv (.lit (.bool false)), .pv (.lit (.bool false)), .pv (.lit (.bool false)), .pv (.lit (.bool false)), .pv (.lit .nilFunc), .pv (.lit .nilFunc), .pv (.lit (.bool false)), .pv (.lit (.bool false)), .pv (.lit (.bool false)), .pv (.lit (.bool false)), .pv (.lit (.bool false)), .pv (.lit .nilFunc), .pv (.lit .nilFunc)] := by kernel_rfl
theorem Try.bytes92 : bytesT Try.prog 92 = some 216 := by kernel_rfl
theorem Try.vt99 : vt Try.prog 99 = some none := by kernel_rfl
theorem Try.vkind99 : vkind Try.prog 99 = .other := by kernel_rfl
theorem Try.vzero99 : vzero Try.prog 99 = some [.pv (.lit (.pointer none))] := by kernel_rfl
theorem Try.bytes99 : bytesT Try.prog 99 = some 8 := by kernel_rfl
theorem Try.vt100 : vt Try.prog 100 = some none := by kernel_rfl
theorem Try.vkind100 : vkind Try.prog 100 = .other := by kernel_rfl
theorem Try.vzero100 : vzero Try.prog 100 = some [.pv (.lit (.pointer none))] := by kernel_rfl
theorem Try.bytes100 : bytesT Try.prog 100 = some 8 := by kernel_rfl

end Go.Proofs

namespace Go.Proofs.Ytmdjgpnonhbfdaa
open Go.V Go
set_option maxRecDepth 100000
set_option linter.unusedSimpArgs false

theorem pe : isPtr Try.prog 64 = true := by kernel_rfl
theorem cto : toU Try.prog 64 100 = true := by kernel_rfl
theorem cfr : frU Try.prog 100 64 66 = true := by kernel_rfl
theorem cob : Try.prog.cellsOf 66 = 2 := by kernel_rfl
theorem uok : ustrOk Try.prog 99 5 = true := by kernel_rfl
theorem noEscape_v (x : DV) (hp : Heap) : VCalls Try.prog 66 [x] hp fun r h' => r = x ∧ h' = hp :=
  vcalls_same Try.func66 (by kernel_rfl) (by kernel_rfl) rfl rfl

/-- A builder: fresh; used, and empty; used, with bytes. -/
def nilP : DV := .pv (.lit (.pointer none))
def bld (a b : DV) : Blk := ⟨66, true, [a, b]⟩
def bE : DV := .pv (.slc [])

theorem check0 : VCalls Try.prog 58 [.ptr 0 0] [bld nilP bE] (fun r h' => r = .tup [] ∧ h' = [bld (.ptr 0 0) bE]) := by
  refine vcalls_keep (fn := Try.f58) Try.func58 rfl (by kernel_rfl) (by simp [Try.f58]) ?_
  simp (config := { maxSteps := 2000000 }) (disch := first | omega | assumption | (simp only [List.length_cons, List.length_nil, Nat.zero_add, Nat.reduceAdd]; done) | (simp only [IntKind.wrap_i64]; omega) | (simp only [List.length_replicate, List.length_set, List.length_append, List.length_cons, List.length_nil, List.length_take, List.length_drop, List.length_map] <;> omega) | fail) only [vop_move, vcallee_move, vop_load, vcallee_load, vop_nilCheck, vcallee_nilCheck, vop_binOp, vcallee_binOp, vop_convert, vcallee_convert, vop_fieldAddr, vcallee_fieldAddr, vcallee_value, vcal_fn, conv_ptr, bin_nn, vnil_ptr, strip_pv, strip_ptr, strip_fn, optV_none, ev_tmp, ev_const, ev_func, put_some, at_mk, fits_some, ↓look_cons, ↓vlook_t, ↓vlook_f, guard_none, ↓vrun_nil, ↓code_region, ↓code_seq, ↓onNormal_normal, load_ptr, vld_one, blk_zero, faddr_ptr, vfap_some, enum_nil, enum_cons, evG_eq, ↓vrun_cons, ↓run1_some, ↓run2_none, ↓run2_some, ↓run3_some, ↓vcg_none, ↓code_cond, ↓vtest_bool, ↓vbr_true, List.map_nil, List.toList_toArray, List.getElem?_cons_zero, List.length_cons, List.length_nil, List.map_cons, List.map_nil, List.nil_append, List.append_nil, Option.map_some, ↓reduceIte, reduceCtorEq, Nat.reduceAdd, Nat.reduceLT, Nat.reduceBEq, Int.reduceLT, Int.reduceAdd, Int.reduceBEq, Nat.zero_add, Nat.add_zero, true_and, and_self, Bool.true_and, Bool.and_self, Bool.cond_self, beq_self_eq_true, Try.vt64, Try.vfield66x0, dec_t, Try.f58, bld, nilP, bE, ptrEq_eql pe, ptrEq_neq pe, convPtr_to cto, convPtr_from cfr, ofConst_ptr]
  refine (noEscape_v _ _).mono ?_
  rintro r h' ⟨rfl, rfl⟩
  simp (config := { maxSteps := 2000000 }) (disch := first | omega | assumption | (simp only [List.length_cons, List.length_nil, Nat.zero_add, Nat.reduceAdd]; done) | (simp only [IntKind.wrap_i64]; omega) | (simp only [List.length_replicate, List.length_set, List.length_append, List.length_cons, List.length_nil, List.length_take, List.length_drop, List.length_map] <;> omega) | fail) only [vop_store, vcallee_store, vop_nilCheck, vcallee_nilCheck, vop_convert, vcallee_convert, vop_fieldAddr, vcallee_fieldAddr, conv_ptr, vnil_ptr, strip_ptr, optV_none, ev_tmp, put_some, put_none, at_mk, fits_some, fits_none, ↓look_cons, ↓vlook_t, ↓vlook_f, guard_none, ↓vrun_nil, store_ptr, vst_one, blk_zero, set_zero, one_ptr, faddr_ptr, vfap_some, evG_eq, ↓vrun_cons, ↓run1_some, ↓run2_none, ↓run3_some, ↓runK_eq, ↓keep_normal, vfinK_some, at_hp, List.getElem?_cons_zero, List.length_cons, List.length_nil, List.set_cons_zero, Option.map_some, ↓reduceIte, reduceCtorEq, Nat.reduceAdd, Nat.reduceLT, Nat.reduceBEq, Int.reduceLT, Int.reduceAdd, Int.reduceBEq, Nat.zero_add, Nat.add_zero, and_self, Bool.and_self, cond_true, Bool.cond_self, beq_self_eq_true, Nat.le_refl, Try.vt64, Try.vfield66x0, dec_t, ptrEq_eql pe, ptrEq_neq pe, convPtr_to cto, convPtr_from cfr, cob, results_nil]

theorem check1 : VCalls Try.prog 58 [.ptr 0 0] [bld (.ptr 0 0) bE] (fun r h' => r = .tup [] ∧ h' = [bld (.ptr 0 0) bE]) := by
  refine vcalls_keep (fn := Try.f58) Try.func58 rfl (by kernel_rfl) (by simp [Try.f58]) ?_
  simp (config := { maxSteps := 2000000 }) (disch := first | omega | assumption | (simp only [List.length_cons, List.length_nil, Nat.zero_add, Nat.reduceAdd]; done) | (simp only [IntKind.wrap_i64]; omega) | (simp only [List.length_replicate, List.length_set, List.length_append, List.length_cons, List.length_nil, List.length_take, List.length_drop, List.length_map] <;> omega) | fail) only [vop_move, vcallee_move, vop_load, vcallee_load, vop_nilCheck, vcallee_nilCheck, vop_binOp, vcallee_binOp, vop_fieldAddr, vcallee_fieldAddr, bin_pn, bin_pp, vnil_ptr, strip_pv, strip_ptr, optV_none, ev_tmp, ev_const, put_some, at_mk, fits_some, ↓look_cons, ↓vlook_t, ↓vlook_f, guard_none, ↓vrun_nil, ↓code_skip, ↓code_region, ↓code_seq, ↓onNormal_normal, load_ptr, vld_one, blk_zero, faddr_ptr, vfap_some, enum_nil, enum_cons, evG_eq, ↓vrun_cons, ↓run1_some, ↓run2_none, ↓run3_some, ↓code_cond, ↓vtest_bool, ↓vbr_false, ↓keep_normal, vfinK_some, List.toList_toArray, List.getElem?_cons_zero, List.length_cons, List.length_nil, Option.map_some, ↓reduceIte, reduceCtorEq, Nat.reduceLT, Nat.reduceBEq, Int.reduceLT, Int.reduceBEq, Nat.zero_add, Nat.add_zero, and_self, Bool.not_true, Bool.and_self, Bool.cond_self, beq_self_eq_true, Try.vt64, Try.vfield66x0, dec_t, Try.f58, bld, bE, ptrEq_eql pe, ptrEq_neq pe, convPtr_to cto, convPtr_from cfr, ofConst_ptr, results_nil]

/-- The bytes of a builder. -/
def bufB (l : List UInt8) : Blk := ⟨5, true, cells encU l⟩
theorem check2 (l : List UInt8) : VCalls Try.prog 58 [.ptr 0 0] [bld (.ptr 0 0) (.own 1 1 0 l.length), bufB l] (fun r h' => r = .tup [] ∧ h' = [bld (.ptr 0 0) (.own 1 1 0 l.length), bufB l]) := by
  refine vcalls_keep (fn := Try.f58) Try.func58 rfl (by kernel_rfl) (by simp [Try.f58]) ?_
  simp (config := { maxSteps := 2000000 }) (disch := first | omega | assumption | (simp only [List.length_cons, List.length_nil, Nat.zero_add, Nat.reduceAdd]; done) | (simp only [IntKind.wrap_i64]; omega) | (simp only [List.length_replicate, List.length_set, List.length_append, List.length_cons, List.length_nil, List.length_take, List.length_drop, List.length_map] <;> omega) | fail) only [vop_move, vcallee_move, vop_load, vcallee_load, vop_nilCheck, vcallee_nilCheck, vop_binOp, vcallee_binOp, vop_fieldAddr, vcallee_fieldAddr, bin_pn, bin_pp, vnil_ptr, strip_pv, strip_ptr, optV_none, ev_tmp, ev_const, put_some, at_mk, fits_some, ↓look_cons, ↓vlook_t, ↓vlook_f, guard_none, ↓vrun_nil, ↓code_skip, ↓code_region, ↓code_seq, ↓onNormal_normal, load_ptr, vld_one, blk_zero, faddr_ptr, vfap_some, enum_nil, enum_cons, evG_eq, ↓vrun_cons, ↓run1_some, ↓run2_none, ↓run3_some, ↓code_cond, ↓vtest_bool, ↓vbr_false, ↓keep_normal, vfinK_some, List.toList_toArray, List.getElem?_cons_zero, List.length_cons, List.length_nil, Option.map_some, ↓reduceIte, reduceCtorEq, Nat.reduceAdd, Nat.reduceLT, Nat.reduceBEq, Int.reduceLT, Int.reduceAdd, Int.reduceBEq, Nat.zero_add, Nat.add_zero, and_self, Bool.not_true, Bool.and_self, Bool.cond_self, beq_self_eq_true, Try.vt64, Try.vfield66x0, dec_t, Try.f58, bld, bufB, ptrEq_eql pe, ptrEq_neq pe, convPtr_to cto, convPtr_from cfr, ofConst_ptr, results_nil]

/-- WriteString, at a fresh builder. -/
theorem ws0 (s : List UInt8) (hs : s.length ≤ 1000000) : VCalls Try.prog 38 [.ptr 0 0, .pv (.str s)] [bld nilP bE] (fun r h' => r = .tup [.int .i64 s.length, .pv (.lit .nilIface)] ∧ h' = [bld (.ptr 0 0) (.own 1 1 0 s.length), bufB s]) := by
  refine vcalls_keep (fn := Try.f38) Try.func38 rfl (by kernel_rfl) (by simp [Try.f38]) ?_
  simp (config := { maxSteps := 2000000 }) (disch := first | omega | assumption | (simp only [List.length_cons, List.length_nil, Nat.zero_add, Nat.reduceAdd]; done) | (simp only [IntKind.wrap_i64]; omega) | (simp only [List.length_replicate, List.length_set, List.length_append, List.length_cons, List.length_nil, List.length_take, List.length_drop, List.length_map] <;> omega) | fail) only [vop_move, vcallee_move, vop_assign, vcallee_assign, vcallee_value, vcal_fn, strip_pv, strip_ptr, strip_fn, optV_none, ev_tmp, ev_const, ev_func, ofConst_int, put_some, at_mk, fits_some, ↓look_cons, ↓vlook_t, ↓vlook_f, guard_none, ↓vrun_nil, ↓code_region, ↓code_seq, ↓onNormal_normal, enum_nil, enum_cons, evG_eq, ↓vrun_cons, ↓run1_some, ↓run2_none, ↓run2_some, ↓run3_some, ↓vcg_none, List.map_nil, List.toList_toArray, List.length_cons, List.length_nil, List.map_cons, List.map_nil, List.nil_append, List.append_nil, Nat.reduceAdd, Nat.reduceLT, Nat.reduceBEq, Int.reduceLT, Int.reduceAdd, Int.reduceBEq, Nat.zero_add, true_and, Bool.true_and, Bool.cond_self, beq_self_eq_true, dec_t, Try.f38, bld, nilP, bE, ptrEq_eql pe, ptrEq_neq pe, convPtr_to cto, convPtr_from cfr, ofConst_nilIface]
  refine check0.mono ?_
  rintro r h' ⟨rfl, rfl⟩
  have hs2 : s.length ≤ 140737488355328 := by omega
  simp (config := { maxSteps := 2000000 }) (disch := first | omega | assumption | (simp only [List.length_cons, List.length_nil, Nat.zero_add, Nat.reduceAdd]; done) | (simp only [IntKind.wrap_i64]; omega) | (simp only [List.length_replicate, List.length_set, List.length_append, List.length_cons, List.length_nil, List.length_take, List.length_drop, List.length_map] <;> omega) | fail) only [vop_move, vcallee_move, vop_assign, vcallee_assign, vop_load, vcallee_load, vop_store, vcallee_store, vop_nilCheck, vcallee_nilCheck, vop_fieldAddr, vcallee_fieldAddr, vop_builtin, vcallee_builtin, vnil_ptr, strip_pv, strip_ptr, strip_own, optV_none, ev_tmp, ev_const, put_some, put_none, at_mk, fits_some, fits_none, ↓look_cons, ↓vlook_t, ↓vlook_f, guard_none, ↓vrun_nil, ↓code_region, ↓code_seq, ↓code_ret, ↓onNormal_normal, allSome_nil, allSome_cons, res_two, vres_tmp, load_ptr, vld_one, store_ptr, vst_one, blk_zero, set_zero, one_own, faddr_ptr, vfap_some, len_str, vls_str, bi_len, bi_append, evG_eq, ↓vrun_cons, ↓run1_some, ↓run2_none, ↓run3_some, ↓runK_eq, ↓keep_ret, vfinK_some, at_hp, pvs, List.flatten_nil, List.map_nil, vsrc, vbase, vappend, List.getElem?_cons_zero, List.getElem?_cons_succ, List.getElem?_nil, List.length_cons, List.length_nil, List.map_cons, List.map_nil, List.cons_append, List.nil_append, List.set_cons_zero, List.set_cons_succ, Option.map_some, Option.map_none, ↓reduceIte, reduceCtorEq, Nat.reduceAdd, Nat.reduceLT, Nat.reduceBEq, Int.reduceLT, Int.reduceAdd, Int.reduceBEq, Nat.zero_add, Nat.mul_one, and_self, true_or, or_false, Bool.true_or, Bool.or_false, Bool.and_self, cond_true, Bool.cond_self, beq_self_eq_true, Try.vzero5, Try.bytes5, Try.notInt9, Try.vkind9, Try.vt33, Try.velem33, Try.vfield66x1, dec_t, bld, bE, ptrEq_eql pe, ptrEq_neq pe, convPtr_to cto, convPtr_from cfr, ofConst_nilIface, hs2, bufB, cellsU]

/-- WriteByte. -/
theorem wb_v (l : List UInt8) (b : UInt8) (hl : l.length ≤ 1000000) : VCalls Try.prog 39 [.ptr 0 0, .int .u8 b.toNat] [bld (.ptr 0 0) (.own 1 1 0 l.length), bufB l] (fun r h' => r = .pv (.lit .nilIface) ∧ h' = [bld (.ptr 0 0) (.own 3 1 0 (l ++ [b]).length), ⟨5, false, []⟩, bufB [b], bufB (l ++ [b])]) := by
  refine vcalls_keep (fn := Try.f39) Try.func39 rfl (by kernel_rfl) (by simp [Try.f39]) ?_
  simp (config := { maxSteps := 2000000 }) (disch := first | omega | assumption | (simp only [List.length_cons, List.length_nil, Nat.zero_add, Nat.reduceAdd]; done) | (simp only [IntKind.wrap_i64]; omega) | (simp only [List.length_replicate, List.length_set, List.length_append, List.length_cons, List.length_nil, List.length_take, List.length_drop, List.length_map] <;> omega) | fail) only [vop_move, vcallee_move, vop_assign, vcallee_assign, vcallee_value, vcal_fn, strip_pv, strip_ptr, strip_fn, optV_none, ev_tmp, ev_const, ev_func, put_some, at_mk, fits_some, ↓look_cons, ↓vlook_t, ↓vlook_f, guard_none, ↓vrun_nil, ↓code_region, ↓code_seq, ↓onNormal_normal, enum_nil, enum_cons, evG_eq, ↓vrun_cons, ↓run1_some, ↓run2_none, ↓run2_some, ↓run3_some, ↓vcg_none, List.map_nil, List.toList_toArray, List.length_cons, List.length_nil, List.map_cons, List.map_nil, List.nil_append, List.append_nil, Nat.reduceAdd, Nat.reduceLT, Nat.reduceBEq, Int.reduceLT, Int.reduceAdd, Int.reduceBEq, Nat.zero_add, true_and, Bool.true_and, Bool.cond_self, beq_self_eq_true, dec_t, Try.f39, bld, bufB, ptrEq_eql pe, ptrEq_neq pe, convPtr_to cto, convPtr_from cfr, ofConst_nilIface]
  refine (check2 l).mono ?_
  rintro r h' ⟨rfl, rfl⟩
  have hs2 : l.length + 1 ≤ 140737488355328 := by omega
  simp (config := { maxSteps := 2000000 }) (disch := first | omega | assumption | (simp only [List.length_cons, List.length_nil, Nat.zero_add, Nat.reduceAdd]; done) | (simp only [IntKind.wrap_i64]; omega) | (simp only [List.length_replicate, List.length_set, List.length_append, List.length_cons, List.length_nil, List.length_take, List.length_drop, List.length_map] <;> omega) | fail) only [vop_move, vcallee_move, vop_assign, vcallee_assign, vop_buildSlice, vcallee_buildSlice, vop_load, vcallee_load, vop_store, vcallee_store, vop_nilCheck, vcallee_nilCheck, vop_fieldAddr, vcallee_fieldAddr, vop_builtin, vcallee_builtin, vnil_ptr, strip_pv, strip_ptr, strip_own, optV_none, ev_tmp, ev_const, put_some, put_none, at_mk, fits_some, fits_none, ↓look_cons, ↓vlook_t, ↓vlook_f, guard_none, ↓vrun_nil, ↓code_region, ↓code_seq, ↓code_ret, ↓onNormal_normal, res_one, vres_tmp, load_ptr, vld_one, store_ptr, vst_one, blk_zero, blk_succ, set_zero, allOne_nil, allOne_cons, one_pv, one_own, faddr_ptr, vfap_some, bi_append, parts_nil, parts_cons, evG_eq, ↓vrun_cons, ↓run1_some, ↓run2_none, ↓run3_some, ↓runK_eq, ↓keep_ret, vfinK_some, at_hp, List.map_nil, dcells, vfill, vbuildSlice, V.mk, vsrc, vbase, vappend, V.kill, V.splice, List.getElem?_cons_zero, List.getElem?_cons_succ, List.length_cons, List.length_nil, List.map_cons, List.map_nil, List.cons_append, List.nil_append, List.append_nil, List.take_succ_cons, List.take_zero, List.take_nil, List.drop_succ_cons, List.drop_zero, List.drop_nil, List.set_cons_zero, List.set_cons_succ, Option.map_some, ↓reduceIte, reduceCtorEq, Nat.reduceAdd, Nat.reduceLT, Nat.reduceLeDiff, Nat.reduceBEq, Int.reduceLT, Int.reduceAdd, Int.reduceBEq, Nat.zero_add, Nat.mul_one, true_and, and_self, Bool.true_and, Bool.and_self, cond_true, Bool.cond_self, beq_self_eq_true, Nat.le_refl, cellsU_len, Try.vzero5, Try.bytes5, Try.vt33, Try.velem33, Try.notInt33, Try.vfield66x1, dec_t, bld, bufB, ptrEq_eql pe, ptrEq_neq pe, convPtr_to cto, convPtr_from cfr, ofConst_nilIface, hs2]
  have e1 : (cells encU l).take l.length = cells encU l := by rw [List.take_of_length_le]; rw [cellsU_len]; exact Nat.le_refl _
  rw [e1, cells_app, List.length_append]
  rfl

theorem str_v (l : List UInt8) (hl : l.length ≤ 1000000) (h0 : 0 < l.length) : VCalls Try.prog 40 [.ptr 0 0] [bld (.ptr 0 0) (.own 1 1 0 l.length), bufB l] (fun r h' => r = .pv (.str l) ∧ h' = [bld (.ptr 0 0) (.own 1 1 0 l.length), ⟨5, false, []⟩]) := by
  refine vcalls_keep (fn := Try.f40) Try.func40 rfl (by kernel_rfl) (by simp [Try.f40]) ?_
  simp (config := { maxSteps := 2000000 }) (disch := first | omega | assumption | (simp only [List.length_cons, List.length_nil, Nat.zero_add, Nat.reduceAdd]; done) | (simp only [IntKind.wrap_i64]; omega) | (simp only [List.length_replicate, List.length_set, List.length_append, List.length_cons, List.length_nil, List.length_take, List.length_drop, List.length_map] <;> omega) | fail) only [vop_assign, vcallee_assign, strip_pv, optV_none, ev_const, ofConst_string, put_some, at_mk, fits_some, guard_none, ↓vrun_nil, ↓code_region, ↓code_draw, ↓code_seq, ↓onNormal_normal, enum_nil, enum_cons, evG_eq, ↓vrun_cons, ↓run1_some, ↓run2_none, ↓run3_some, List.toList_toArray, List.length_cons, List.length_nil, Nat.reduceAdd, Nat.reduceLT, Int.reduceLT, Int.reduceAdd, Nat.zero_add, true_and, Bool.true_and, Bool.cond_self, dec_t, Try.f40, bld, bufB, ptrEq_eql pe, ptrEq_neq pe, convPtr_to cto, convPtr_from cfr]
  refine vspine [0, 1, 2, 3, 5, 6, 7, 8, 9] [⟨[], [], 4, [0, 1, 2, 5, 6, 7, 8, 9], []⟩, ⟨[], [], 10, [0, 1, 2, 3, 5, 6, 7, 8], []⟩, ⟨[], [], 11, [], []⟩] (by kernel_rfl) (by kernel_rfl) ?_
  have hu := ustr_eq (P := Try.prog) (hp := [bld (.ptr 0 0) (.own 1 1 0 l.length), bufB l]) (k := 1) (n := l.length) uok rfl rfl h0 (by omega)
  simp only [bld, bufB] at hu
  simp (config := { maxSteps := 2000000 }) (disch := first | omega | assumption | (simp only [List.length_cons, List.length_nil, Nat.zero_add, Nat.reduceAdd]; done) | (simp only [IntKind.wrap_i64]; omega) | (simp only [List.length_replicate, List.length_set, List.length_append, List.length_cons, List.length_nil, List.length_take, List.length_drop, List.length_map] <;> omega) | fail) only [vop_move, vcallee_move, foot_move, vop_assign, vcallee_assign, vop_load, vcallee_load, vop_nilCheck, vcallee_nilCheck, foot_nilCheck, vop_fieldAddr, vcallee_fieldAddr, foot_fieldAddr, foot_load, foot_call, vop_builtin, vcallee_builtin, ptrNo_ptr, bi_sdata, bi_ustr, vnil_ptr, strip_pv, strip_ptr, strip_own, optV_none, ev_tmp, put_some, at_mk, fits_some, ↓look_cons, ↓vlook_t, ↓vlook_f, guard_none, ↓vrun_nil, ↓code_ret, ↓onNormal_normal, res_one, vres_tmp, load_ptr, vld_one, blk_zero, faddr_ptr, vfap_some, vlk_sl, len_own, bi_len, evG_eq, ↓vrun_cons, ↓run1_some, ↓run2_none, ↓run3_some, ↓keep_ret, vfinK_some, List.map_nil, V.kill, List.getElem?_cons_zero, List.getElem?_cons_succ, List.map_cons, List.map_nil, List.nil_append, List.set_cons_zero, List.set_cons_succ, Option.map_some, ↓reduceIte, reduceCtorEq, Nat.reduceLT, Nat.reduceBEq, Int.reduceLT, Int.reduceBEq, Nat.zero_add, and_self, Bool.and_self, cond_true, Bool.cond_self, beq_self_eq_true, ↓vsp_nil, ↓vsp_cons, ↓vspK_eq, vspC_true, vspR_eq, pick_nil, pick_cons, pickO_some, creas_nil, agree_nil, agree_cons, agree1_some, sameAt_nil, sameAt_cons, Try.vt33, Try.vkind33, Try.vfield66x1, dec_t, ptrEq_eql pe, ptrEq_neq pe, convPtr_to cto, convPtr_from cfr, sdata_own h0, hu]
end Go.Proofs.Ytmdjgpnonhbfdaa

namespace Go.Proofs.Ytmdjgpnonhbfdaa
open Go.V Go
set_option maxRecDepth 100000
set_option linter.unusedSimpArgs false

/-- A byte of a number. -/
def byteX (n : Int) (i : Nat) : Int := IntKind.u8.wrap ((IntKind.u64.wrap n).fdiv (2 ^ min (8 * (i : Int)).toNat IntKind.u64.bits))
def byteI (n : Int) (i : Nat) : UInt8 := UInt8.ofNat (byteX n i).toNat
theorem wrap_u8_eq (x : Int) : IntKind.u8.wrap x = x % 256 := by
  simp [IntKind.wrap, IntKind.signed, IntKind.bits]
theorem byteI_eq (n : Int) (i : Nat) : byteX n i = ((byteI n i).toNat : Int) := by
  unfold byteI byteX
  rw [wrap_u8_eq]
  generalize (IntKind.u64.wrap n).fdiv (2 ^ min (8 * (i : Int)).toNat IntKind.u64.bits) = y
  simp only [UInt8.toNat_ofNat']
  omega
def putL (s : List UInt8) (n : Int) (k : Nat) : List UInt8 := s ++ (List.range k).map (byteI n)

theorem putL_len (s : List UInt8) (n : Int) (k : Nat) : (putL s n k).length = s.length + k := by simp [putL]
theorem putL_succ (s : List UInt8) (n : Int) (k : Nat) : putL s n (k + 1) = putL s n k ++ [byteI n k] := by simp [putL, List.range_succ]

set_option maxHeartbeats 1000000 in
theorem put_v (s : List UInt8) (hs : s.length ≤ 100000) (n : Int) (k : Nat) (h1 : 1 ≤ k) (h8 : k ≤ 8) : VCalls Try.prog 14 [.pv (.str s), .int .i64 n, .int .i64 k] [] (Ret (.pv (.str (putL s n k)))) := by
  refine vcalls_drop (fn := Try.f14) Try.func14 rfl (by kernel_rfl) (by simp [Try.f14]) ?_
  simp (config := { maxSteps := 2000000 }) (disch := first | omega | assumption | (simp only [List.length_cons, List.length_nil, Nat.zero_add, Nat.reduceAdd]; done) | (simp only [IntKind.wrap_i64]; omega) | (simp only [List.length_replicate, List.length_set, List.length_append, List.length_cons, List.length_nil, List.length_take, List.length_drop, List.length_map] <;> omega) | fail) only [vop_move, vcallee_move, vop_assign, vcallee_assign, vop_pick, vcallee_pick, vop_alloc, vcallee_alloc, vop_binOp, vcallee_binOp, vcallee_value, vcal_fn, vpick_bool, strip_pv, strip_ptr, strip_fn, strip_opt, vstr_true, optV_none, optV_some, pickV_bool, ev_tmp, ev_const, ev_func, ofConst_int, ofConst_bool, ofConst_string, put_some, at_mk, fits_some, ↓look_cons, ↓vlook_t, ↓vlook_f, guard_none, guard_some, vgof_bool, ↓vrun_nil, ↓code_skip, ↓code_region, ↓code_seq, ↓onNormal_normal, alloc_eq, val1_some, allOne_nil, allOne_cons, one_pv, bin_int, int_lss, int_gtr, enum_nil, enum_cons, evG_eq, ↓vrun_cons, ↓run1_some, ↓run2_none, ↓run2_some, ↓run3_some, ↓vcg_none, ↓code_cond, ↓vtest_bool, ↓vbr_false, List.map_nil, List.toList_toArray, List.getElem?_cons_zero, List.getElem?_cons_succ, List.length_nil, List.map_cons, List.map_nil, List.nil_append, List.append_nil, Option.map_some, Option.bind_some, ↓reduceIte, Nat.reduceAdd, Nat.reduceLT, Nat.reduceBEq, Int.reduceLT, Int.reduceAdd, Int.reduceBEq, Nat.zero_add, true_and, and_self, or_true, Bool.not_true, Bool.not_false, Bool.or_true, Bool.true_and, Bool.and_self, cond_true, cond_false, Bool.cond_self, beq_self_eq_true, Try.vzero66, dec_t, dec_f, Try.f14]
  refine (ws0 s (by omega)).mono ?_
  rintro r h' ⟨rfl, rfl⟩
  simp (config := { maxSteps := 2000000 }) (disch := first | omega | assumption | (simp only [List.length_cons, List.length_nil, Nat.zero_add, Nat.reduceAdd]; done) | (simp only [IntKind.wrap_i64]; omega) | (simp only [List.length_replicate, List.length_set, List.length_append, List.length_cons, List.length_nil, List.length_take, List.length_drop, List.length_map] <;> omega) | fail) only [vop_move, vcallee_move, strip_pv, optV_none, ev_tmp, ev_const, ofConst_int, put_some, at_mk, fits_some, ↓look_cons, ↓vlook_t, ↓vlook_f, guard_none, ↓vrun_nil, ↓code_region, ↓code_seq, ↓code_block, ↓code_loop, ↓onNormal_normal, evG_eq, ↓vrun_cons, ↓run1_some, ↓run2_none, ↓run3_some, ↓runK_eq, Nat.reduceLT, Nat.reduceBEq, Int.reduceLT, Int.reduceBEq, true_and, Bool.true_and, Bool.cond_self, beq_self_eq_true, dec_t, bld]
  refine vloopW (fun i : {i : Nat // i ≤ k} => ⟨31, 0, [(19, .int .i64 i.1), (18, .int .i64 k), (7, .ptr 0 0), (1, .int .i64 n)], [bld (.ptr 0 0) (.own 1 1 0 (putL s n i.1).length), bufB (putL s n i.1)]⟩) (fun i => k - i.1) ⟨0, by omega⟩ (.inl (by simpa only [putL, List.range_zero, List.map_nil, List.append_nil] using (by refine ⟨rfl, rfl, by simp, ?_, ?_, .inr ⟨?_, ?_⟩⟩ <;> (repeat' apply And.intro) <;> first | rfl | trivial | (intro _; first | rfl | apply cells_refs)))) ?_
  intro i
  obtain ⟨i, hi⟩ := i
  dsimp only
  simp (config := { maxSteps := 2000000 }) (disch := first | omega | assumption | (simp only [List.length_cons, List.length_nil, Nat.zero_add, Nat.reduceAdd]; done) | (simp only [IntKind.wrap_i64]; omega) | (simp only [List.length_replicate, List.length_set, List.length_append, List.length_cons, List.length_nil, List.length_take, List.length_drop, List.length_map] <;> omega) | fail) only [vop_binOp, vcallee_binOp, strip_pv, optV_none, ev_tmp, put_some, at_mk, fits_some, ↓look_cons, ↓vlook_t, ↓vlook_f, guard_none, ↓vrun_nil, ↓code_region, ↓code_seq, ↓onNormal_normal, bin_int, int_lss, evG_eq, ↓vrun_cons, ↓run1_some, ↓run2_none, ↓run3_some, ↓code_cond, ↓vtest_bool, Option.map_some, Nat.reduceLT, Nat.reduceBEq, Int.reduceLT, Int.reduceBEq, true_and, Bool.true_and, Bool.cond_self, beq_self_eq_true, dec_t, bld, bufB]
  refine vbr_split (fun hc => ?_) (fun hc => ?_) <;> simp only [decide_eq_true_eq, decide_eq_false_iff_not, Bool.or_eq_true, Bool.and_eq_true, Bool.or_eq_false_iff, Bool.and_eq_false_imp, Bool.not_eq_true', Bool.not_eq_false', beq_iff_eq, beq_eq_false_iff_ne, bne_iff_ne, bne_eq_false_iff_eq, ne_eq] at hc
  · simp (config := { maxSteps := 2000000 }) (disch := first | omega | assumption | (simp only [List.length_cons, List.length_nil, Nat.zero_add, Nat.reduceAdd]; done) | (simp only [IntKind.wrap_i64]; omega) | (simp only [List.length_replicate, List.length_set, List.length_append, List.length_cons, List.length_nil, List.length_take, List.length_drop, List.length_map] <;> omega) | fail) only [vop_move, vcallee_move, vop_assign, vcallee_assign, vop_binOp, vcallee_binOp, vop_convert, vcallee_convert, vcallee_value, vcal_fn, conv_pv, strip_pv, strip_ptr, strip_fn, optV_none, ev_tmp, ev_const, ev_func, ofConst_int, put_some, at_mk, fits_some, ↓look_cons, ↓vlook_t, ↓vlook_f, guard_none, ↓vrun_nil, ↓code_skip, ↓code_region, ↓code_seq, ↓code_block, ↓onNormal_normal, bin_int, int_mul, int_shr, conv_int, vci_int, evG_eq, ↓vrun_cons, ↓run1_some, ↓run2_none, ↓run2_some, ↓run3_some, ↓vcg_none, List.map_nil, List.map_cons, List.map_nil, List.nil_append, List.append_nil, Option.map_some, Nat.reduceLT, Nat.reduceBEq, Int.reduceLT, Int.reduceBEq, true_and, Bool.true_and, Bool.cond_self, beq_self_eq_true, Try.vkind3, Try.vkind5, Try.vkind72, wrap_i64_in, dec_t]
    have hw := wb_v (putL s n i) (byteI n i) (by rw [putL_len]; omega)
    rw [← byteI_eq] at hw
    refine hw.mono ?_
    rintro r h' ⟨rfl, rfl⟩
    simp (config := { maxSteps := 2000000 }) (disch := first | omega | assumption | (simp only [List.length_cons, List.length_nil, Nat.zero_add, Nat.reduceAdd]; done) | (simp only [IntKind.wrap_i64]; omega) | (simp only [List.length_replicate, List.length_set, List.length_append, List.length_cons, List.length_nil, List.length_take, List.length_drop, List.length_map] <;> omega) | fail) only [vop_move, vcallee_move, vop_binOp, vcallee_binOp, strip_pv, optV_none, ev_tmp, ev_const, ofConst_int, put_some, at_mk, fits_some, ↓look_cons, ↓vlook_t, ↓vlook_f, guard_none, ↓vrun_nil, ↓code_region, ↓onNormal_normal, ↓onBlock_normal, bin_int, int_add, evG_eq, ↓vrun_cons, ↓run1_some, ↓run2_none, ↓run3_some, ↓runK_eq, Option.map_some, Nat.reduceLT, Nat.reduceBEq, Int.reduceLT, Int.reduceBEq, true_and, Bool.true_and, Bool.cond_self, beq_self_eq_true, wrap_i64_in, dec_t, bld, bufB]
    refine ⟨⟨i + 1, by omega⟩, by show k - (i + 1) < k - i; omega, ?_⟩
    rw [putL_succ]
    refine gc_of (keep := [0, 3]) rfl rfl rfl (by decide) ⟨⟨_, rfl, rfl, rfl, .inr ⟨rfl, rfl⟩⟩, ⟨_, rfl, rfl, rfl, .inl ⟨?_, rfl⟩⟩, trivial⟩ ?_
    · show DV.nums.go _ (cells encU _) = true
      exact cells_nums _ _ _
    · refine ⟨⟨rfl, rfl⟩, ⟨rfl, rfl⟩, ⟨rfl, rfl⟩, ⟨rfl, rfl⟩, trivial⟩
  · simp (config := { maxSteps := 2000000 }) (disch := first | omega | assumption | (simp only [List.length_cons, List.length_nil, Nat.zero_add, Nat.reduceAdd]; done) | (simp only [IntKind.wrap_i64]; omega) | (simp only [List.length_replicate, List.length_set, List.length_append, List.length_cons, List.length_nil, List.length_take, List.length_drop, List.length_map] <;> omega) | fail) only [vcallee_value, vcal_fn, strip_ptr, strip_fn, ev_tmp, ev_func, fits_some, ↓look_cons, ↓vlook_t, ↓vlook_f, guard_none, ↓code_region, ↓code_seq, ↓code_exit, ↓onNormal_normal, ↓onNormal_exit, ↓onBlock_exit, evG_eq, ↓vrun_cons, ↓run1_some, ↓run2_some, ↓vcg_none, List.map_nil, List.map_cons, List.map_nil, List.nil_append, List.append_nil, ↓reduceIte, Nat.reduceLT, Nat.reduceBEq, Int.reduceLT, Int.reduceBEq, true_and, Bool.true_and, beq_self_eq_true, dec_t, dec_f]
    have hik : i = k := by omega
    subst hik
    refine (str_v (putL s n i) (by rw [putL_len]; omega) (by rw [putL_len]; omega)).mono ?_
    rintro r h' ⟨rfl, rfl⟩
    simp (config := { maxSteps := 2000000 }) (disch := first | omega | assumption | (simp only [List.length_cons, List.length_nil, Nat.zero_add, Nat.reduceAdd]; done) | (simp only [IntKind.wrap_i64]; omega) | (simp only [List.length_replicate, List.length_set, List.length_append, List.length_cons, List.length_nil, List.length_take, List.length_drop, List.length_map] <;> omega) | fail) only [vop_assign, vcallee_assign, strip_pv, optV_none, ev_tmp, put_some, at_mk, fits_some, ↓look_cons, ↓vlook_t, guard_none, ↓vrun_nil, ↓code_ret, ↓onNormal_normal, frz_pv, frzHeap_zero, res_one, vres_tmp, evG_eq, ↓vrun_cons, ↓run1_some, ↓run2_none, ↓run3_some, ↓runK_eq, ↓vpost_ret, vfin_some, vfin2_some, at_hp, Nat.reduceLT, Int.reduceLT, and_self, Bool.and_self, Bool.cond_self, beq_self_eq_true, dec_t, Ret, DV.nums]

theorem put_out (s : List UInt8) (n k : Int) (h : ¬ (1 ≤ k ∧ k ≤ 8)) : VCalls Try.prog 14 [.pv (.str s), .int .i64 n, .int .i64 k] [] (Ret (.pv (.str s))) := by
  refine vcalls_drop (fn := Try.f14) Try.func14 rfl (by kernel_rfl) (by simp [Try.f14]) ?_
  by_cases a : k < 1
  · simp (config := { maxSteps := 2000000 }) (disch := first | omega | assumption | (simp only [List.length_cons, List.length_nil, Nat.zero_add, Nat.reduceAdd]; done) | (simp only [IntKind.wrap_i64]; omega) | (simp only [List.length_replicate, List.length_set, List.length_append, List.length_cons, List.length_nil, List.length_take, List.length_drop, List.length_map] <;> omega) | fail) only [vop_move, vcallee_move, vop_assign, vcallee_assign, vop_pick, vcallee_pick, vop_binOp, vcallee_binOp, vpick_bool, strip_pv, strip_opt, vstr_true, vstr_false, optV_none, optV_some, pickV_bool, ev_tmp, ev_const, ofConst_int, ofConst_bool, ofConst_string, put_some, at_mk, fits_some, ↓look_cons, ↓vlook_t, ↓vlook_f, guard_none, guard_some, vgof_bool, ↓vrun_nil, ↓code_region, ↓code_seq, ↓code_ret, ↓onNormal_normal, ↓onNormal_ret, frz_pv, frzHeap_zero, res_one, vres_tmp, bin_int, int_lss, int_gtr, enum_nil, enum_cons, evG_eq, ↓vrun_cons, ↓run1_some, ↓run2_none, ↓run3_some, ↓code_cond, ↓vtest_bool, ↓vbr_true, ↓vpost_ret, vfin_some, vfin2_some, at_hp, List.toList_toArray, List.getElem?_cons_zero, List.getElem?_cons_succ, List.length_nil, Option.map_some, Option.bind_some, Nat.reduceAdd, Nat.reduceLT, Nat.reduceBEq, Int.reduceLT, Int.reduceAdd, Int.reduceBEq, Nat.zero_add, and_self, or_false, or_self, Bool.not_true, Bool.not_false, Bool.or_false, Bool.or_self, Bool.and_self, b_beq_f, cond_true, Bool.cond_self, beq_self_eq_true, dec_t, dec_f, Ret, DV.nums, Try.f14, a]
  · have b : 8 < k := by omega
    simp (config := { maxSteps := 2000000 }) (disch := first | omega | assumption | (simp only [List.length_cons, List.length_nil, Nat.zero_add, Nat.reduceAdd]; done) | (simp only [IntKind.wrap_i64]; omega) | (simp only [List.length_replicate, List.length_set, List.length_append, List.length_cons, List.length_nil, List.length_take, List.length_drop, List.length_map] <;> omega) | fail) only [vop_move, vcallee_move, vop_assign, vcallee_assign, vop_pick, vcallee_pick, vop_binOp, vcallee_binOp, vpick_bool, strip_pv, strip_opt, vstr_true, optV_none, optV_some, pickV_bool, ev_tmp, ev_const, ofConst_int, ofConst_bool, ofConst_string, put_some, at_mk, fits_some, ↓look_cons, ↓vlook_t, ↓vlook_f, guard_none, guard_some, vgof_bool, ↓vrun_nil, ↓code_region, ↓code_seq, ↓code_ret, ↓onNormal_normal, ↓onNormal_ret, frz_pv, frzHeap_zero, res_one, vres_tmp, bin_int, int_lss, int_gtr, enum_nil, enum_cons, evG_eq, ↓vrun_cons, ↓run1_some, ↓run2_none, ↓run3_some, ↓code_cond, ↓vtest_bool, ↓vbr_true, ↓vpost_ret, vfin_some, vfin2_some, at_hp, List.toList_toArray, List.getElem?_cons_zero, List.getElem?_cons_succ, List.length_nil, Option.map_some, Option.bind_some, Nat.reduceAdd, Nat.reduceLT, Nat.reduceBEq, Int.reduceLT, Int.reduceAdd, Int.reduceBEq, Nat.zero_add, decide_false, and_self, or_true, Bool.not_true, Bool.not_false, Bool.or_true, Bool.and_self, Bool.cond_self, beq_self_eq_true, dec_t, Ret, DV.nums, Try.f14, a, b]

theorem rput_out (s : List UInt8) (n k : Int) (h : ¬ (1 ≤ k ∧ k ≤ 8)) : VCalls Try.prog 15 [.pv (.str s), .int .i64 n, .int .i64 k] [] (Ret (.pv (.str s))) := by
  refine vcalls_drop (fn := Try.f15) Try.func15 rfl (by kernel_rfl) (by simp [Try.f15]) ?_
  by_cases a : k < 1
  · simp (config := { maxSteps := 2000000 }) (disch := first | omega | assumption | (simp only [List.length_cons, List.length_nil, Nat.zero_add, Nat.reduceAdd]; done) | (simp only [IntKind.wrap_i64]; omega) | (simp only [List.length_replicate, List.length_set, List.length_append, List.length_cons, List.length_nil, List.length_take, List.length_drop, List.length_map] <;> omega) | fail) only [vop_move, vcallee_move, vop_assign, vcallee_assign, vop_pick, vcallee_pick, vop_binOp, vcallee_binOp, vpick_bool, strip_pv, strip_opt, vstr_true, vstr_false, optV_none, optV_some, pickV_bool, ev_tmp, ev_const, ofConst_int, ofConst_bool, ofConst_string, put_some, at_mk, fits_some, ↓look_cons, ↓vlook_t, ↓vlook_f, guard_none, guard_some, vgof_bool, ↓vrun_nil, ↓code_region, ↓code_seq, ↓code_ret, ↓onNormal_normal, ↓onNormal_ret, frz_pv, frzHeap_zero, res_one, vres_tmp, bin_int, int_lss, int_gtr, enum_nil, enum_cons, evG_eq, ↓vrun_cons, ↓run1_some, ↓run2_none, ↓run3_some, ↓code_cond, ↓vtest_bool, ↓vbr_true, ↓vpost_ret, vfin_some, vfin2_some, at_hp, List.toList_toArray, List.getElem?_cons_zero, List.getElem?_cons_succ, List.length_nil, Option.map_some, Option.bind_some, Nat.reduceAdd, Nat.reduceLT, Nat.reduceBEq, Int.reduceLT, Int.reduceAdd, Int.reduceBEq, Nat.zero_add, and_self, or_false, or_self, Bool.not_true, Bool.not_false, Bool.or_false, Bool.or_self, Bool.and_self, b_beq_f, cond_true, Bool.cond_self, beq_self_eq_true, dec_t, dec_f, Ret, DV.nums, Try.f15, a]
  · have b : 8 < k := by omega
    simp (config := { maxSteps := 2000000 }) (disch := first | omega | assumption | (simp only [List.length_cons, List.length_nil, Nat.zero_add, Nat.reduceAdd]; done) | (simp only [IntKind.wrap_i64]; omega) | (simp only [List.length_replicate, List.length_set, List.length_append, List.length_cons, List.length_nil, List.length_take, List.length_drop, List.length_map] <;> omega) | fail) only [vop_move, vcallee_move, vop_assign, vcallee_assign, vop_pick, vcallee_pick, vop_binOp, vcallee_binOp, vpick_bool, strip_pv, strip_opt, vstr_true, optV_none, optV_some, pickV_bool, ev_tmp, ev_const, ofConst_int, ofConst_bool, ofConst_string, put_some, at_mk, fits_some, ↓look_cons, ↓vlook_t, ↓vlook_f, guard_none, guard_some, vgof_bool, ↓vrun_nil, ↓code_region, ↓code_seq, ↓code_ret, ↓onNormal_normal, ↓onNormal_ret, frz_pv, frzHeap_zero, res_one, vres_tmp, bin_int, int_lss, int_gtr, enum_nil, enum_cons, evG_eq, ↓vrun_cons, ↓run1_some, ↓run2_none, ↓run3_some, ↓code_cond, ↓vtest_bool, ↓vbr_true, ↓vpost_ret, vfin_some, vfin2_some, at_hp, List.toList_toArray, List.getElem?_cons_zero, List.getElem?_cons_succ, List.length_nil, Option.map_some, Option.bind_some, Nat.reduceAdd, Nat.reduceLT, Nat.reduceBEq, Int.reduceLT, Int.reduceAdd, Int.reduceBEq, Nat.zero_add, decide_false, and_self, or_true, Bool.not_true, Bool.not_false, Bool.or_true, Bool.and_self, Bool.cond_self, beq_self_eq_true, dec_t, Ret, DV.nums, Try.f15, a, b]

theorem btsF : bts Try.prog 33 9 = true := by kernel_rfl

set_option maxHeartbeats 1000000 in
theorem rput_v (s : List UInt8) (hs : s.length ≤ 100000) (n : Int) (k : Nat) (h1 : 1 ≤ k) (h8 : k ≤ 8) : VCalls Try.prog 15 [.pv (.str s), .int .i64 n, .int .i64 k] [] (Ret (.pv (.str (putL s n k)))) := by
  refine vcalls_drop (fn := Try.f15) Try.func15 rfl (by kernel_rfl) (by simp [Try.f15]) ?_
  simp (config := { maxSteps := 2000000 }) (disch := first | omega | assumption | (simp only [List.length_cons, List.length_nil, Nat.zero_add, Nat.reduceAdd]; done) | (simp only [IntKind.wrap_i64]; omega) | (simp only [List.length_replicate, List.length_set, List.length_append, List.length_cons, List.length_nil, List.length_take, List.length_drop, List.length_map] <;> omega) | fail) only [vop_move, vcallee_move, vop_assign, vcallee_assign, vop_pick, vcallee_pick, vop_binOp, vcallee_binOp, vpick_bool, strip_pv, strip_opt, vstr_true, optV_none, optV_some, pickV_bool, ev_tmp, ev_const, ofConst_int, ofConst_bool, ofConst_string, put_some, at_mk, fits_some, ↓look_cons, ↓vlook_t, ↓vlook_f, guard_none, guard_some, vgof_bool, ↓vrun_nil, ↓code_skip, ↓code_region, ↓code_seq, ↓code_block, ↓code_loop, ↓onNormal_normal, bin_int, int_lss, int_gtr, enum_nil, enum_cons, evG_eq, ↓vrun_cons, ↓run1_some, ↓run2_none, ↓run3_some, ↓code_cond, ↓vtest_bool, ↓vbr_false, List.toList_toArray, List.getElem?_cons_zero, List.getElem?_cons_succ, List.length_nil, Option.map_some, Option.bind_some, Nat.reduceAdd, Nat.reduceLT, Nat.reduceBEq, Int.reduceLT, Int.reduceAdd, Int.reduceBEq, Nat.zero_add, true_and, or_true, Bool.not_true, Bool.not_false, Bool.or_true, Bool.true_and, cond_false, Bool.cond_self, beq_self_eq_true, dec_t, dec_f, Try.f15]
  refine vloopW (fun i : {i : Nat // i ≤ k} => ⟨32, 0, [(7, .int .i64 i.1), (2, .int .i64 k), (0, .pv (.str (putL s n i.1))), (1, .int .i64 n)], []⟩) (fun i => k - i.1) ⟨0, by omega⟩ (.inl (by simpa only [putL, List.range_zero, List.map_nil, List.append_nil] using (by refine ⟨rfl, rfl, by simp, ?_, ?_, .inr ⟨?_, ?_⟩⟩ <;> (repeat' apply And.intro) <;> first | rfl | trivial | (intro _; first | rfl | apply cells_refs)))) ?_
  intro i
  obtain ⟨i, hi⟩ := i
  dsimp only
  simp (config := { maxSteps := 2000000 }) (disch := first | omega | assumption | (simp only [List.length_cons, List.length_nil, Nat.zero_add, Nat.reduceAdd]; done) | (simp only [IntKind.wrap_i64]; omega) | (simp only [List.length_replicate, List.length_set, List.length_append, List.length_cons, List.length_nil, List.length_take, List.length_drop, List.length_map] <;> omega) | fail) only [vop_move, vcallee_move, vop_binOp, vcallee_binOp, strip_pv, optV_none, ev_tmp, put_some, at_mk, fits_some, ↓look_cons, ↓vlook_t, ↓vlook_f, guard_none, ↓vrun_nil, ↓code_region, ↓code_seq, ↓onNormal_normal, bin_int, int_lss, evG_eq, ↓vrun_cons, ↓run1_some, ↓run2_none, ↓run3_some, ↓code_cond, ↓vtest_bool, Option.map_some, Nat.reduceLT, Nat.reduceBEq, Int.reduceLT, Int.reduceBEq, true_and, Bool.true_and, Bool.cond_self, beq_self_eq_true, dec_t]
  refine vbr_split (fun hc => ?_) (fun hc => ?_) <;> simp only [decide_eq_true_eq, decide_eq_false_iff_not, Bool.or_eq_true, Bool.and_eq_true, Bool.or_eq_false_iff, Bool.and_eq_false_imp, Bool.not_eq_true', Bool.not_eq_false', beq_iff_eq, beq_eq_false_iff_ne, bne_iff_ne, bne_eq_false_iff_eq, ne_eq] at hc
  · have hw8 : IntKind.u64.wrap (8 * (i : Int)) = 8 * (i : Int) := by simp [IntKind.wrap, IntKind.signed, IntKind.bits]; omega
    have hl : (putL s n i).length + 1 ≤ 9223372036854775807 := by rw [putL_len]; omega
    simp (config := { maxSteps := 2000000 }) (disch := first | omega | assumption | (simp only [List.length_cons, List.length_nil, Nat.zero_add, Nat.reduceAdd]; done) | (simp only [IntKind.wrap_i64]; omega) | (simp only [List.length_replicate, List.length_set, List.length_append, List.length_cons, List.length_nil, List.length_take, List.length_drop, List.length_map] <;> omega) | fail) only [vop_move, vcallee_move, vop_assign, vcallee_assign, vop_buildSlice, vcallee_buildSlice, vop_binOp, vcallee_binOp, vop_convert, vcallee_convert, conv_pv, conv_own, strip_pv, strip_own, optV_none, ev_tmp, ev_const, ofConst_int, put_some, at_mk, fits_some, ↓look_cons, ↓vlook_t, ↓vlook_f, guard_none, ↓vrun_nil, ↓code_skip, ↓code_region, ↓code_seq, ↓code_block, ↓onNormal_normal, ↓onBlock_normal, blk_zero, allOne_nil, allOne_cons, one_pv, bin_int, bin_str, int_add, int_mul, int_shr, str_add, parts_nil, parts_cons, conv_int, vci_int, evG_eq, ↓vrun_cons, ↓run1_some, ↓run2_none, ↓run3_some, dcells, vfill, vbuildSlice, V.mk, V.splice, List.length_cons, List.length_nil, List.nil_append, List.append_nil, List.take_zero, List.drop_succ_cons, List.drop_nil, Option.map_some, ↓reduceIte, Nat.reduceLT, Nat.reduceLeDiff, Nat.reduceBEq, Int.reduceLT, Int.reduceBEq, Nat.zero_add, Nat.mul_one, true_and, and_self, Bool.true_and, Bool.and_self, cond_true, Bool.cond_self, beq_self_eq_true, Nat.le_refl, Try.vkind3, Try.vkind5, Try.vzero5, Try.vkind29, Try.velem33, Try.vkind72, wrap_i64_in, dec_t, hw8, conv_bts btsF, vcso_one]
    refine ⟨⟨i + 1, by omega⟩, by show k - (i + 1) < k - i; omega, ?_⟩
    rw [putL_succ]
    refine gc_of (keep := []) rfl rfl rfl (by decide) trivial ?_
    refine ⟨⟨rfl, rfl⟩, ⟨rfl, rfl⟩, ⟨rfl, rfl⟩, ⟨rfl, rfl⟩, trivial⟩
  · simp (config := { maxSteps := 2000000 }) (disch := first | omega | assumption | (simp only [List.length_cons, List.length_nil, Nat.zero_add, Nat.reduceAdd]; done) | (simp only [IntKind.wrap_i64]; omega) | (simp only [List.length_replicate, List.length_set, List.length_append, List.length_cons, List.length_nil, List.length_take, List.length_drop, List.length_map] <;> omega) | fail) only [vop_move, vcallee_move, vop_assign, vcallee_assign, strip_pv, optV_none, ev_tmp, put_some, at_mk, fits_some, ↓look_cons, ↓vlook_t, ↓vlook_f, guard_none, ↓vrun_nil, ↓code_region, ↓code_seq, ↓code_exit, ↓code_ret, ↓onNormal_normal, ↓onNormal_exit, ↓onBlock_exit, frz_pv, frzHeap_zero, res_one, vres_tmp, evG_eq, ↓vrun_cons, ↓run1_some, ↓run2_none, ↓run3_some, ↓vpost_ret, vfin_some, vfin2_some, at_hp, ↓reduceIte, Nat.reduceLT, Nat.reduceBEq, Int.reduceLT, Int.reduceBEq, true_and, Bool.true_and, Bool.cond_self, beq_self_eq_true, dec_t, dec_f, Ret, DV.nums]
    have hik : i = k := by omega
    rw [hik]
end Go.Proofs.Ytmdjgpnonhbfdaa

namespace Go.Proofs.Ytmdjgpnonhbfdaa
open Go.V Go
set_option maxRecDepth 100000
set_option linter.unusedSimpArgs false

def accX (s : List UInt8) (a : Nat) : Nat → Int
  | 0 => 0
  | i + 1 => bits BinOp.or .u64 (accX s a i) (IntKind.u64.wrap (IntKind.u64.wrap (s.getD (a + i) 0).toNat * 2 ^ min (8 * (i : Int)).toNat IntKind.u64.bits))

theorem str_get (s : List UInt8) (a i : Nat) (h : a + i < s.length) : s[((a : Int) + (i : Int)).toNat]? = some (s.getD (a + i) 0) := by
  have e : ((a : Int) + (i : Int)).toNat = a + i := by omega
  rw [e, List.getD_eq_getElem?_getD, List.getElem?_eq_getElem h]; rfl

theorem get_out (s : List UInt8) (a k : Int) (h : ¬ (1 ≤ k ∧ k ≤ 8) ∨ a < 0) : VCalls Try.prog 16 [.pv (.str s), .int .i64 a, .int .i64 k] [] (Ret (.tup [.int .i64 0, .int .i64 1])) := by
  refine vcalls_drop (fn := Try.f16) Try.func16 rfl (by kernel_rfl) (by simp [Try.f16]) ?_
  by_cases h1 : k < 1
  · simp (config := { maxSteps := 2000000 }) (disch := first | omega | assumption | (simp only [List.length_cons, List.length_nil, Nat.zero_add, Nat.reduceAdd]; done) | (simp only [IntKind.wrap_i64]; omega) | (simp only [List.length_replicate, List.length_set, List.length_append, List.length_cons, List.length_nil, List.length_take, List.length_drop, List.length_map] <;> omega) | fail) only [vop_move, vcallee_move, vop_assign, vcallee_assign, vop_pick, vcallee_pick, vop_binOp, vcallee_binOp, vpick_bool, strip_pv, strip_opt, vstr_true, vstr_false, optV_none, optV_some, pickV_bool, ev_tmp, ev_const, ofConst_int, ofConst_bool, put_some, at_mk, fits_some, ↓look_cons, ↓vlook_t, ↓vlook_f, guard_none, guard_some, vgof_bool, ↓vrun_nil, ↓code_region, ↓code_seq, ↓code_block, ↓code_ret, ↓onNormal_normal, ↓onNormal_ret, ↓onBlock_ret, frz_tup, frzT_pv, allSome_nil, allSome_cons, frzHeap_zero, res_two, vres_tmp, bin_int, int_lss, int_gtr, enum_nil, enum_cons, evG_eq, ↓vrun_cons, ↓run1_some, ↓run2_none, ↓run3_some, ↓code_cond, ↓vtest_bool, ↓vbr_true, ↓vpost_ret, vfin_some, vfin2_some, at_hp, List.map_nil, List.toList_toArray, List.getElem?_cons_zero, List.getElem?_cons_succ, List.length_nil, List.map_cons, List.map_nil, Option.map_some, Option.bind_some, Nat.reduceAdd, Nat.reduceLT, Nat.reduceBEq, Int.reduceLT, Int.reduceAdd, Int.reduceBEq, Nat.zero_add, and_self, or_false, or_self, Bool.not_true, Bool.not_false, Bool.or_false, Bool.or_self, Bool.and_self, b_beq_f, cond_true, Bool.cond_self, beq_self_eq_true, DV.wk.go, dec_t, dec_f, Ret, DV.nums, DV.nums.go, Try.f16, h1]
  · by_cases h2 : 8 < k
    · simp (config := { maxSteps := 2000000 }) (disch := first | omega | assumption | (simp only [List.length_cons, List.length_nil, Nat.zero_add, Nat.reduceAdd]; done) | (simp only [IntKind.wrap_i64]; omega) | (simp only [List.length_replicate, List.length_set, List.length_append, List.length_cons, List.length_nil, List.length_take, List.length_drop, List.length_map] <;> omega) | fail) only [vop_move, vcallee_move, vop_assign, vcallee_assign, vop_pick, vcallee_pick, vop_binOp, vcallee_binOp, vpick_bool, strip_pv, strip_opt, vstr_true, vstr_false, optV_none, optV_some, pickV_bool, ev_tmp, ev_const, ofConst_int, ofConst_bool, put_some, at_mk, fits_some, ↓look_cons, ↓vlook_t, ↓vlook_f, guard_none, guard_some, vgof_bool, ↓vrun_nil, ↓code_region, ↓code_seq, ↓code_block, ↓code_ret, ↓onNormal_normal, ↓onNormal_ret, ↓onBlock_ret, frz_tup, frzT_pv, allSome_nil, allSome_cons, frzHeap_zero, res_two, vres_tmp, bin_int, int_lss, int_gtr, enum_nil, enum_cons, evG_eq, ↓vrun_cons, ↓run1_some, ↓run2_none, ↓run3_some, ↓code_cond, ↓vtest_bool, ↓vbr_true, ↓vpost_ret, vfin_some, vfin2_some, at_hp, List.map_nil, List.toList_toArray, List.getElem?_cons_zero, List.getElem?_cons_succ, List.length_nil, List.map_cons, List.map_nil, Option.map_some, Option.bind_some, Nat.reduceAdd, Nat.reduceLT, Nat.reduceBEq, Int.reduceLT, Int.reduceAdd, Int.reduceBEq, Nat.zero_add, decide_false, and_self, or_true, or_false, or_self, Bool.not_true, Bool.not_false, Bool.or_true, Bool.or_false, Bool.or_self, Bool.and_self, b_beq_f, cond_true, Bool.cond_self, beq_self_eq_true, DV.wk.go, dec_t, Ret, DV.nums, DV.nums.go, Try.f16, h1, h2]
    · have h3 : a < 0 := by omega
      simp (config := { maxSteps := 2000000 }) (disch := first | omega | assumption | (simp only [List.length_cons, List.length_nil, Nat.zero_add, Nat.reduceAdd]; done) | (simp only [IntKind.wrap_i64]; omega) | (simp only [List.length_replicate, List.length_set, List.length_append, List.length_cons, List.length_nil, List.length_take, List.length_drop, List.length_map] <;> omega) | fail) only [vop_move, vcallee_move, vop_assign, vcallee_assign, vop_pick, vcallee_pick, vop_binOp, vcallee_binOp, vpick_bool, strip_pv, strip_opt, vstr_true, optV_none, optV_some, pickV_bool, ev_tmp, ev_const, ofConst_int, ofConst_bool, put_some, at_mk, fits_some, ↓look_cons, ↓vlook_t, ↓vlook_f, guard_none, guard_some, vgof_bool, ↓vrun_nil, ↓code_region, ↓code_seq, ↓code_block, ↓code_ret, ↓onNormal_normal, ↓onNormal_ret, ↓onBlock_ret, frz_tup, frzT_pv, allSome_nil, allSome_cons, frzHeap_zero, res_two, vres_tmp, bin_int, int_lss, int_gtr, enum_nil, enum_cons, evG_eq, ↓vrun_cons, ↓run1_some, ↓run2_none, ↓run3_some, ↓code_cond, ↓vtest_bool, ↓vbr_true, ↓vpost_ret, vfin_some, vfin2_some, at_hp, List.map_nil, List.toList_toArray, List.getElem?_cons_zero, List.getElem?_cons_succ, List.length_nil, List.map_cons, List.map_nil, Option.map_some, Option.bind_some, Nat.reduceAdd, Nat.reduceLT, Nat.reduceBEq, Int.reduceLT, Int.reduceAdd, Int.reduceBEq, Nat.zero_add, decide_false, and_self, or_true, Bool.not_true, Bool.not_false, Bool.or_true, Bool.and_self, cond_false, Bool.cond_self, beq_self_eq_true, DV.wk.go, dec_t, Ret, DV.nums, DV.nums.go, Try.f16, h1, h2, h3]

theorem rget_out (s : List UInt8) (a k : Int) (h : ¬ (1 ≤ k ∧ k ≤ 8) ∨ a < 0) : VCalls Try.prog 17 [.pv (.str s), .int .i64 a, .int .i64 k] [] (Ret (.tup [.int .i64 0, .int .i64 1])) := by
  refine vcalls_drop (fn := Try.f17) Try.func17 rfl (by kernel_rfl) (by simp [Try.f17]) ?_
  by_cases h1 : k < 1
  · simp (config := { maxSteps := 2000000 }) (disch := first | omega | assumption | (simp only [List.length_cons, List.length_nil, Nat.zero_add, Nat.reduceAdd]; done) | (simp only [IntKind.wrap_i64]; omega) | (simp only [List.length_replicate, List.length_set, List.length_append, List.length_cons, List.length_nil, List.length_take, List.length_drop, List.length_map] <;> omega) | fail) only [vop_move, vcallee_move, vop_assign, vcallee_assign, vop_pick, vcallee_pick, vop_binOp, vcallee_binOp, vpick_bool, strip_pv, strip_opt, vstr_true, vstr_false, optV_none, optV_some, pickV_bool, ev_tmp, ev_const, ofConst_int, ofConst_bool, put_some, at_mk, fits_some, ↓look_cons, ↓vlook_t, ↓vlook_f, guard_none, guard_some, vgof_bool, ↓vrun_nil, ↓code_region, ↓code_seq, ↓code_ret, ↓onNormal_normal, ↓onNormal_ret, frz_tup, frzT_pv, allSome_nil, allSome_cons, frzHeap_zero, res_two, vres_tmp, bin_int, int_lss, int_gtr, enum_nil, enum_cons, evG_eq, ↓vrun_cons, ↓run1_some, ↓run2_none, ↓run3_some, ↓code_cond, ↓vtest_bool, ↓vbr_true, ↓vpost_ret, vfin_some, vfin2_some, at_hp, List.map_nil, List.toList_toArray, List.getElem?_cons_zero, List.getElem?_cons_succ, List.length_nil, List.map_cons, List.map_nil, Option.map_some, Option.bind_some, Nat.reduceAdd, Nat.reduceLT, Nat.reduceBEq, Int.reduceLT, Int.reduceAdd, Int.reduceBEq, Nat.zero_add, and_self, or_false, or_self, Bool.not_true, Bool.not_false, Bool.or_false, Bool.or_self, Bool.and_self, b_beq_f, cond_true, Bool.cond_self, beq_self_eq_true, DV.wk.go, dec_t, dec_f, Ret, DV.nums, DV.nums.go, Try.f17, h1]
  · by_cases h2 : 8 < k
    · simp (config := { maxSteps := 2000000 }) (disch := first | omega | assumption | (simp only [List.length_cons, List.length_nil, Nat.zero_add, Nat.reduceAdd]; done) | (simp only [IntKind.wrap_i64]; omega) | (simp only [List.length_replicate, List.length_set, List.length_append, List.length_cons, List.length_nil, List.length_take, List.length_drop, List.length_map] <;> omega) | fail) only [vop_move, vcallee_move, vop_assign, vcallee_assign, vop_pick, vcallee_pick, vop_binOp, vcallee_binOp, vpick_bool, strip_pv, strip_opt, vstr_true, vstr_false, optV_none, optV_some, pickV_bool, ev_tmp, ev_const, ofConst_int, ofConst_bool, put_some, at_mk, fits_some, ↓look_cons, ↓vlook_t, ↓vlook_f, guard_none, guard_some, vgof_bool, ↓vrun_nil, ↓code_region, ↓code_seq, ↓code_ret, ↓onNormal_normal, ↓onNormal_ret, frz_tup, frzT_pv, allSome_nil, allSome_cons, frzHeap_zero, res_two, vres_tmp, bin_int, int_lss, int_gtr, enum_nil, enum_cons, evG_eq, ↓vrun_cons, ↓run1_some, ↓run2_none, ↓run3_some, ↓code_cond, ↓vtest_bool, ↓vbr_true, ↓vpost_ret, vfin_some, vfin2_some, at_hp, List.map_nil, List.toList_toArray, List.getElem?_cons_zero, List.getElem?_cons_succ, List.length_nil, List.map_cons, List.map_nil, Option.map_some, Option.bind_some, Nat.reduceAdd, Nat.reduceLT, Nat.reduceBEq, Int.reduceLT, Int.reduceAdd, Int.reduceBEq, Nat.zero_add, decide_false, and_self, or_true, or_false, or_self, Bool.not_true, Bool.not_false, Bool.or_true, Bool.or_false, Bool.or_self, Bool.and_self, b_beq_f, cond_true, Bool.cond_self, beq_self_eq_true, DV.wk.go, dec_t, Ret, DV.nums, DV.nums.go, Try.f17, h1, h2]
    · have h3 : a < 0 := by omega
      simp (config := { maxSteps := 2000000 }) (disch := first | omega | assumption | (simp only [List.length_cons, List.length_nil, Nat.zero_add, Nat.reduceAdd]; done) | (simp only [IntKind.wrap_i64]; omega) | (simp only [List.length_replicate, List.length_set, List.length_append, List.length_cons, List.length_nil, List.length_take, List.length_drop, List.length_map] <;> omega) | fail) only [vop_move, vcallee_move, vop_assign, vcallee_assign, vop_pick, vcallee_pick, vop_binOp, vcallee_binOp, vpick_bool, strip_pv, strip_opt, vstr_true, optV_none, optV_some, pickV_bool, ev_tmp, ev_const, ofConst_int, ofConst_bool, put_some, at_mk, fits_some, ↓look_cons, ↓vlook_t, ↓vlook_f, guard_none, guard_some, vgof_bool, ↓vrun_nil, ↓code_region, ↓code_seq, ↓code_ret, ↓onNormal_normal, ↓onNormal_ret, frz_tup, frzT_pv, allSome_nil, allSome_cons, frzHeap_zero, res_two, vres_tmp, bin_int, int_lss, int_gtr, enum_nil, enum_cons, evG_eq, ↓vrun_cons, ↓run1_some, ↓run2_none, ↓run3_some, ↓code_cond, ↓vtest_bool, ↓vbr_true, ↓vpost_ret, vfin_some, vfin2_some, at_hp, List.map_nil, List.toList_toArray, List.getElem?_cons_zero, List.getElem?_cons_succ, List.length_nil, List.map_cons, List.map_nil, Option.map_some, Option.bind_some, Nat.reduceAdd, Nat.reduceLT, Nat.reduceBEq, Int.reduceLT, Int.reduceAdd, Int.reduceBEq, Nat.zero_add, decide_false, and_self, or_true, Bool.not_true, Bool.not_false, Bool.or_true, Bool.and_self, cond_false, Bool.cond_self, beq_self_eq_true, DV.wk.go, dec_t, Ret, DV.nums, DV.nums.go, Try.f17, h1, h2, h3]

theorem get_short (s : List UInt8) (a k : Int) (h : 1 ≤ k ∧ k ≤ 8) (h0 : 0 ≤ a) (hh : ¬ a + k ≤ s.length) : VCalls Try.prog 16 [.pv (.str s), .int .i64 a, .int .i64 k] [] (Ret (.tup [.int .i64 0, .int .i64 5])) := by
  refine vcalls_drop (fn := Try.f16) Try.func16 rfl (by kernel_rfl) (by simp [Try.f16]) ?_
  have h1 : ¬ k < 1 := by omega
  have h2 : ¬ 8 < k := by omega
  have h3 : ¬ a < 0 := by omega
  by_cases h4 : (s.length : Int) < a
  · simp (config := { maxSteps := 2000000 }) (disch := first | omega | assumption | (simp only [List.length_cons, List.length_nil, Nat.zero_add, Nat.reduceAdd]; done) | (simp only [IntKind.wrap_i64]; omega) | (simp only [List.length_replicate, List.length_set, List.length_append, List.length_cons, List.length_nil, List.length_take, List.length_drop, List.length_map] <;> omega) | fail) only [vop_move, vcallee_move, vop_assign, vcallee_assign, vop_pick, vcallee_pick, vop_binOp, vcallee_binOp, vop_builtin, vcallee_builtin, vpick_bool, strip_pv, strip_opt, vstr_true, vstr_false, optV_none, optV_some, pickV_bool, ev_tmp, ev_const, ofConst_int, ofConst_bool, put_some, at_mk, fits_some, ↓look_cons, ↓vlook_t, ↓vlook_f, guard_none, guard_some, vgof_bool, ↓vrun_nil, ↓code_region, ↓code_seq, ↓code_block, ↓code_ret, ↓onNormal_normal, ↓onNormal_ret, ↓onBlock_ret, frz_tup, frzT_pv, allSome_nil, allSome_cons, frzHeap_zero, res_two, vres_tmp, bin_int, int_sub, int_lss, int_gtr, len_str, vls_str, bi_len, enum_nil, enum_cons, evG_eq, ↓vrun_cons, ↓run1_some, ↓run2_none, ↓run3_some, ↓code_cond, ↓vtest_bool, ↓vbr_true, ↓vbr_false, ↓vpost_ret, vfin_some, vfin2_some, at_hp, List.map_nil, List.toList_toArray, List.getElem?_cons_zero, List.getElem?_cons_succ, List.length_nil, List.map_cons, List.map_nil, Option.map_some, Option.bind_some, Nat.reduceAdd, Nat.reduceLT, Nat.reduceBEq, Int.reduceLT, Int.reduceAdd, Int.reduceBEq, Nat.zero_add, decide_false, and_self, or_true, or_false, or_self, Bool.not_true, Bool.not_false, Bool.or_true, Bool.or_false, Bool.or_self, Bool.and_self, b_beq_f, cond_true, cond_false, Bool.cond_self, beq_self_eq_true, DV.wk.go, Try.vkind9, dec_t, Ret, DV.nums, DV.nums.go, Try.f16, h1, h2, h3, h4]
  · have h5 : (s.length : Int) - a < k := by omega
    simp (config := { maxSteps := 2000000 }) (disch := first | omega | assumption | (simp only [List.length_cons, List.length_nil, Nat.zero_add, Nat.reduceAdd]; done) | (simp only [IntKind.wrap_i64]; omega) | (simp only [List.length_replicate, List.length_set, List.length_append, List.length_cons, List.length_nil, List.length_take, List.length_drop, List.length_map] <;> omega) | fail) only [vop_move, vcallee_move, vop_assign, vcallee_assign, vop_pick, vcallee_pick, vop_binOp, vcallee_binOp, vop_builtin, vcallee_builtin, vpick_bool, strip_pv, strip_opt, vstr_true, optV_none, optV_some, pickV_bool, ev_tmp, ev_const, ofConst_int, ofConst_bool, put_some, at_mk, fits_some, ↓look_cons, ↓vlook_t, ↓vlook_f, guard_none, guard_some, vgof_bool, ↓vrun_nil, ↓code_region, ↓code_seq, ↓code_block, ↓code_ret, ↓onNormal_normal, ↓onNormal_ret, ↓onBlock_ret, frz_tup, frzT_pv, allSome_nil, allSome_cons, frzHeap_zero, res_two, vres_tmp, bin_int, int_sub, int_lss, int_gtr, len_str, vls_str, bi_len, enum_nil, enum_cons, evG_eq, ↓vrun_cons, ↓run1_some, ↓run2_none, ↓run3_some, ↓code_cond, ↓vtest_bool, ↓vbr_true, ↓vbr_false, ↓vpost_ret, vfin_some, vfin2_some, at_hp, List.map_nil, List.toList_toArray, List.getElem?_cons_zero, List.getElem?_cons_succ, List.length_nil, List.map_cons, List.map_nil, Option.map_some, Option.bind_some, Nat.reduceAdd, Nat.reduceLT, Nat.reduceBEq, Int.reduceLT, Int.reduceAdd, Int.reduceBEq, Nat.zero_add, decide_false, and_self, or_true, Bool.not_true, Bool.not_false, Bool.or_true, Bool.and_self, cond_false, Bool.cond_self, beq_self_eq_true, DV.wk.go, Try.vkind9, wrap_i64_in, dec_t, Ret, DV.nums, DV.nums.go, Try.f16, h1, h2, h3, h4, h5]

theorem rget_short (s : List UInt8) (a k : Int) (h : 1 ≤ k ∧ k ≤ 8) (h0 : 0 ≤ a) (hh : ¬ a + k ≤ s.length) : VCalls Try.prog 17 [.pv (.str s), .int .i64 a, .int .i64 k] [] (Ret (.tup [.int .i64 0, .int .i64 5])) := by
  refine vcalls_drop (fn := Try.f17) Try.func17 rfl (by kernel_rfl) (by simp [Try.f17]) ?_
  have h1 : ¬ k < 1 := by omega
  have h2 : ¬ 8 < k := by omega
  have h3 : ¬ a < 0 := by omega
  by_cases h4 : (s.length : Int) < a
  · simp (config := { maxSteps := 2000000 }) (disch := first | omega | assumption | (simp only [List.length_cons, List.length_nil, Nat.zero_add, Nat.reduceAdd]; done) | (simp only [IntKind.wrap_i64]; omega) | (simp only [List.length_replicate, List.length_set, List.length_append, List.length_cons, List.length_nil, List.length_take, List.length_drop, List.length_map] <;> omega) | fail) only [vop_move, vcallee_move, vop_assign, vcallee_assign, vop_pick, vcallee_pick, vop_binOp, vcallee_binOp, vop_builtin, vcallee_builtin, vpick_bool, strip_pv, strip_opt, vstr_true, vstr_false, optV_none, optV_some, pickV_bool, ev_tmp, ev_const, ofConst_int, ofConst_bool, put_some, at_mk, fits_some, ↓look_cons, ↓vlook_t, ↓vlook_f, guard_none, guard_some, vgof_bool, ↓vrun_nil, ↓code_skip, ↓code_region, ↓code_seq, ↓code_ret, ↓onNormal_normal, ↓onNormal_ret, frz_tup, frzT_pv, allSome_nil, allSome_cons, frzHeap_zero, res_two, vres_tmp, bin_int, int_sub, int_lss, int_gtr, len_str, vls_str, bi_len, enum_nil, enum_cons, evG_eq, ↓vrun_cons, ↓run1_some, ↓run2_none, ↓run3_some, ↓code_cond, ↓vtest_bool, ↓vbr_true, ↓vbr_false, ↓vpost_ret, vfin_some, vfin2_some, at_hp, List.map_nil, List.toList_toArray, List.getElem?_cons_zero, List.getElem?_cons_succ, List.length_nil, List.map_cons, List.map_nil, Option.map_some, Option.bind_some, Nat.reduceAdd, Nat.reduceLT, Nat.reduceBEq, Int.reduceLT, Int.reduceAdd, Int.reduceBEq, Nat.zero_add, decide_false, and_self, or_true, or_false, or_self, Bool.not_true, Bool.not_false, Bool.or_true, Bool.or_false, Bool.or_self, Bool.and_self, b_beq_f, cond_true, cond_false, Bool.cond_self, beq_self_eq_true, DV.wk.go, Try.vkind9, dec_t, Ret, DV.nums, DV.nums.go, Try.f17, h1, h2, h3, h4]
  · have h5 : (s.length : Int) - a < k := by omega
    simp (config := { maxSteps := 2000000 }) (disch := first | omega | assumption | (simp only [List.length_cons, List.length_nil, Nat.zero_add, Nat.reduceAdd]; done) | (simp only [IntKind.wrap_i64]; omega) | (simp only [List.length_replicate, List.length_set, List.length_append, List.length_cons, List.length_nil, List.length_take, List.length_drop, List.length_map] <;> omega) | fail) only [vop_move, vcallee_move, vop_assign, vcallee_assign, vop_pick, vcallee_pick, vop_binOp, vcallee_binOp, vop_builtin, vcallee_builtin, vpick_bool, strip_pv, strip_opt, vstr_true, optV_none, optV_some, pickV_bool, ev_tmp, ev_const, ofConst_int, ofConst_bool, put_some, at_mk, fits_some, ↓look_cons, ↓vlook_t, ↓vlook_f, guard_none, guard_some, vgof_bool, ↓vrun_nil, ↓code_skip, ↓code_region, ↓code_seq, ↓code_ret, ↓onNormal_normal, ↓onNormal_ret, frz_tup, frzT_pv, allSome_nil, allSome_cons, frzHeap_zero, res_two, vres_tmp, bin_int, int_sub, int_lss, int_gtr, len_str, vls_str, bi_len, enum_nil, enum_cons, evG_eq, ↓vrun_cons, ↓run1_some, ↓run2_none, ↓run3_some, ↓code_cond, ↓vtest_bool, ↓vbr_true, ↓vbr_false, ↓vpost_ret, vfin_some, vfin2_some, at_hp, List.map_nil, List.toList_toArray, List.getElem?_cons_zero, List.getElem?_cons_succ, List.length_nil, List.map_cons, List.map_nil, Option.map_some, Option.bind_some, Nat.reduceAdd, Nat.reduceLT, Nat.reduceBEq, Int.reduceLT, Int.reduceAdd, Int.reduceBEq, Nat.zero_add, decide_false, and_self, or_true, Bool.not_true, Bool.not_false, Bool.or_true, Bool.and_self, cond_false, Bool.cond_self, beq_self_eq_true, DV.wk.go, Try.vkind9, wrap_i64_in, dec_t, Ret, DV.nums, DV.nums.go, Try.f17, h1, h2, h3, h4, h5]

theorem get_v (s : List UInt8) (hs : s.length ≤ 100000) (a k : Nat) (h : 1 ≤ k ∧ k ≤ 8) (hh : a + k ≤ s.length) : VCalls Try.prog 16 [.pv (.str s), .int .i64 a, .int .i64 k] [] (Ret (.tup [.int .i64 (IntKind.i64.wrap (accX s a k)), .int .i64 0])) := by
  refine vcalls_drop (fn := Try.f16) Try.func16 rfl (by kernel_rfl) (by simp [Try.f16]) ?_
  have h1 : ¬ (k : Int) < 1 := by omega
  have h2 : ¬ 8 < (k : Int) := by omega
  have h3 : ¬ (a : Int) < 0 := by omega
  have h4 : ¬ (s.length : Int) < a := by omega
  have h5 : ¬ (s.length : Int) - a < k := by omega
  simp (config := { maxSteps := 2000000 }) (disch := first | omega | assumption | (simp only [List.length_cons, List.length_nil, Nat.zero_add, Nat.reduceAdd]; done) | (simp only [IntKind.wrap_i64]; omega) | (simp only [List.length_replicate, List.length_set, List.length_append, List.length_cons, List.length_nil, List.length_take, List.length_drop, List.length_map] <;> omega) | fail) only [vop_move, vcallee_move, vop_assign, vcallee_assign, vop_pick, vcallee_pick, vop_binOp, vcallee_binOp, vop_builtin, vcallee_builtin, vpick_bool, strip_pv, strip_opt, vstr_true, optV_none, optV_some, pickV_bool, ev_tmp, ev_const, ofConst_int, ofConst_bool, put_some, at_mk, fits_some, ↓look_cons, ↓vlook_t, ↓vlook_f, guard_none, guard_some, vgof_bool, ↓vrun_nil, ↓code_skip, ↓code_region, ↓code_seq, ↓code_block, ↓code_loop, ↓onNormal_normal, ↓onBlock_normal, bin_int, int_sub, int_lss, int_gtr, len_str, vls_str, bi_len, enum_nil, enum_cons, evG_eq, ↓vrun_cons, ↓run1_some, ↓run2_none, ↓run3_some, ↓code_cond, ↓vtest_bool, ↓vbr_false, List.map_nil, List.toList_toArray, List.getElem?_cons_zero, List.getElem?_cons_succ, List.length_nil, List.map_cons, List.map_nil, Option.map_some, Option.bind_some, Nat.reduceAdd, Nat.reduceLT, Nat.reduceBEq, Int.reduceLT, Int.reduceAdd, Int.reduceBEq, Nat.zero_add, decide_false, true_and, or_true, Bool.not_true, Bool.not_false, Bool.or_true, Bool.true_and, cond_false, Bool.cond_self, beq_self_eq_true, Try.vkind9, wrap_i64_in, dec_t, Try.f16, h1, h2, h3, h4, h5]
  refine vloop (fun i : {i : Nat // i ≤ k} => ⟨52, 0, [(35, .int .i64 i.1), (34, .int .i64 k), (8, .int .u64 (accX s a i.1)), (0, .pv (.str s)), (1, .int .i64 a)], []⟩) (fun i => k - i.1) ⟨0, by omega⟩ (by refine ⟨rfl, rfl, by simp, ?_, ?_, .inl rfl⟩ <;> (repeat' apply And.intro) <;> first | rfl | trivial) ?_
  intro i
  obtain ⟨i, hi⟩ := i
  dsimp only
  simp (config := { maxSteps := 2000000 }) (disch := first | omega | assumption | (simp only [List.length_cons, List.length_nil, Nat.zero_add, Nat.reduceAdd]; done) | (simp only [IntKind.wrap_i64]; omega) | (simp only [List.length_replicate, List.length_set, List.length_append, List.length_cons, List.length_nil, List.length_take, List.length_drop, List.length_map] <;> omega) | fail) only [vop_binOp, vcallee_binOp, strip_pv, optV_none, ev_tmp, put_some, at_mk, fits_some, ↓look_cons, ↓vlook_t, ↓vlook_f, guard_none, ↓vrun_nil, ↓code_region, ↓code_seq, ↓onNormal_normal, bin_int, int_lss, evG_eq, ↓vrun_cons, ↓run1_some, ↓run2_none, ↓run3_some, ↓code_cond, ↓vtest_bool, Option.map_some, Nat.reduceLT, Nat.reduceBEq, Int.reduceLT, Int.reduceBEq, true_and, Bool.true_and, Bool.cond_self, beq_self_eq_true, dec_t]
  refine vbr_split (fun hc => ?_) (fun hc => ?_) <;> simp only [decide_eq_true_eq, decide_eq_false_iff_not, Bool.or_eq_true, Bool.and_eq_true, Bool.or_eq_false_iff, Bool.and_eq_false_imp, Bool.not_eq_true', Bool.not_eq_false', beq_iff_eq, beq_eq_false_iff_ne, bne_iff_ne, bne_eq_false_iff_eq, ne_eq] at hc
  · have hg : s[((a : Int) + (i : Int)).toNat]? = some (s.getD (a + i) 0) := str_get s a i (by omega)
    have h0 : 0 ≤ (a : Int) + (i : Int) := by omega
    simp (config := { maxSteps := 2000000 }) (disch := first | omega | assumption | (simp only [List.length_cons, List.length_nil, Nat.zero_add, Nat.reduceAdd]; done) | (simp only [IntKind.wrap_i64]; omega) | (simp only [List.length_replicate, List.length_set, List.length_append, List.length_cons, List.length_nil, List.length_take, List.length_drop, List.length_map] <;> omega) | fail) only [vop_move, vcallee_move, vop_assign, vcallee_assign, vop_binOp, vcallee_binOp, vop_convert, vcallee_convert, vop_index, vcallee_index, conv_pv, strip_pv, optV_none, ev_tmp, ev_const, ofConst_int, put_some, at_mk, fits_some, ↓look_cons, ↓vlook_t, ↓vlook_f, guard_none, ↓vrun_nil, ↓code_skip, ↓code_region, ↓code_seq, ↓code_block, ↓onNormal_normal, ↓onBlock_normal, index_str, vivs_some, bin_int, int_add, int_mul, int_or, int_shl, conv_int, vci_int, evG_eq, ↓vrun_cons, ↓run1_some, ↓run2_none, ↓run3_some, Option.map_some, Nat.reduceLT, Nat.reduceBEq, Int.reduceLT, Int.reduceBEq, true_and, Bool.true_and, Bool.cond_self, beq_self_eq_true, Try.vkind5, Try.vkind9, Try.vkind72, wrap_i64_in, dec_t, hg]
    exact ⟨⟨i + 1, by omega⟩, by show k - (i + 1) < k - i; omega, (by refine ⟨rfl, rfl, by simp, ?_, ?_, .inl rfl⟩ <;> (repeat' apply And.intro) <;> first | rfl | trivial)⟩
  · simp (config := { maxSteps := 2000000 }) (disch := first | omega | assumption | (simp only [List.length_cons, List.length_nil, Nat.zero_add, Nat.reduceAdd]; done) | (simp only [IntKind.wrap_i64]; omega) | (simp only [List.length_replicate, List.length_set, List.length_append, List.length_cons, List.length_nil, List.length_take, List.length_drop, List.length_map] <;> omega) | fail) only [vop_move, vcallee_move, vop_assign, vcallee_assign, vop_convert, vcallee_convert, conv_pv, strip_pv, optV_none, ev_tmp, ev_const, ofConst_int, put_some, at_mk, fits_some, ↓look_cons, ↓vlook_t, ↓vlook_f, guard_none, ↓vrun_nil, ↓code_region, ↓code_seq, ↓code_exit, ↓code_ret, ↓onNormal_normal, ↓onNormal_exit, ↓onBlock_exit, frz_tup, frzT_pv, allSome_nil, allSome_cons, frzHeap_zero, res_two, vres_tmp, conv_int, vci_int, evG_eq, ↓vrun_cons, ↓run1_some, ↓run2_none, ↓run3_some, ↓vpost_ret, vfin_some, vfin2_some, at_hp, List.map_nil, List.map_cons, List.map_nil, Option.map_some, ↓reduceIte, Nat.reduceLT, Nat.reduceBEq, Int.reduceLT, Int.reduceBEq, true_and, and_self, Bool.true_and, Bool.and_self, Bool.cond_self, beq_self_eq_true, DV.wk.go, Try.vkind3, Try.vkind72, dec_t, dec_f, Ret, DV.nums, DV.nums.go]
    have hik : i = k := by omega
    rw [hik]

theorem rget_v (s : List UInt8) (hs : s.length ≤ 100000) (a k : Nat) (h : 1 ≤ k ∧ k ≤ 8) (hh : a + k ≤ s.length) : VCalls Try.prog 17 [.pv (.str s), .int .i64 a, .int .i64 k] [] (Ret (.tup [.int .i64 (IntKind.i64.wrap (accX s a k)), .int .i64 0])) := by
  refine vcalls_drop (fn := Try.f17) Try.func17 rfl (by kernel_rfl) (by simp [Try.f17]) ?_
  have h1 : ¬ (k : Int) < 1 := by omega
  have h2 : ¬ 8 < (k : Int) := by omega
  have h3 : ¬ (a : Int) < 0 := by omega
  have h4 : ¬ (s.length : Int) < a := by omega
  have h5 : ¬ (s.length : Int) - a < k := by omega
  simp (config := { maxSteps := 2000000 }) (disch := first | omega | assumption | (simp only [List.length_cons, List.length_nil, Nat.zero_add, Nat.reduceAdd]; done) | (simp only [IntKind.wrap_i64]; omega) | (simp only [List.length_replicate, List.length_set, List.length_append, List.length_cons, List.length_nil, List.length_take, List.length_drop, List.length_map] <;> omega) | fail) only [vop_move, vcallee_move, vop_assign, vcallee_assign, vop_pick, vcallee_pick, vop_binOp, vcallee_binOp, vop_builtin, vcallee_builtin, vpick_bool, strip_pv, strip_opt, vstr_true, optV_none, optV_some, pickV_bool, ev_tmp, ev_const, ofConst_int, ofConst_bool, put_some, at_mk, fits_some, ↓look_cons, ↓vlook_t, ↓vlook_f, guard_none, guard_some, vgof_bool, ↓vrun_nil, ↓code_skip, ↓code_region, ↓code_seq, ↓code_block, ↓code_loop, ↓onNormal_normal, bin_int, int_sub, int_lss, int_gtr, len_str, vls_str, bi_len, enum_nil, enum_cons, evG_eq, ↓vrun_cons, ↓run1_some, ↓run2_none, ↓run3_some, ↓code_cond, ↓vtest_bool, ↓vbr_false, List.map_nil, List.toList_toArray, List.getElem?_cons_zero, List.getElem?_cons_succ, List.length_nil, List.map_cons, List.map_nil, Option.map_some, Option.bind_some, Nat.reduceAdd, Nat.reduceLT, Nat.reduceBEq, Int.reduceLT, Int.reduceAdd, Int.reduceBEq, Nat.zero_add, decide_false, true_and, or_true, Bool.not_true, Bool.not_false, Bool.or_true, Bool.true_and, cond_false, Bool.cond_self, beq_self_eq_true, Try.vkind9, wrap_i64_in, dec_t, Try.f17, h1, h2, h3, h4, h5]
  refine vloop (fun i : {i : Nat // i ≤ k} => ⟨51, 0, [(9, .int .i64 i.1), (2, .int .i64 k), (8, .int .u64 (accX s a i.1)), (0, .pv (.str s)), (1, .int .i64 a)], []⟩) (fun i => k - i.1) ⟨0, by omega⟩ (by refine ⟨rfl, rfl, by simp, ?_, ?_, .inl rfl⟩ <;> (repeat' apply And.intro) <;> first | rfl | trivial) ?_
  intro i
  obtain ⟨i, hi⟩ := i
  dsimp only
  simp (config := { maxSteps := 2000000 }) (disch := first | omega | assumption | (simp only [List.length_cons, List.length_nil, Nat.zero_add, Nat.reduceAdd]; done) | (simp only [IntKind.wrap_i64]; omega) | (simp only [List.length_replicate, List.length_set, List.length_append, List.length_cons, List.length_nil, List.length_take, List.length_drop, List.length_map] <;> omega) | fail) only [vop_move, vcallee_move, vop_binOp, vcallee_binOp, strip_pv, optV_none, ev_tmp, put_some, at_mk, fits_some, ↓look_cons, ↓vlook_t, ↓vlook_f, guard_none, ↓vrun_nil, ↓code_region, ↓code_seq, ↓onNormal_normal, bin_int, int_lss, evG_eq, ↓vrun_cons, ↓run1_some, ↓run2_none, ↓run3_some, ↓code_cond, ↓vtest_bool, Option.map_some, Nat.reduceLT, Nat.reduceBEq, Int.reduceLT, Int.reduceBEq, true_and, Bool.true_and, Bool.cond_self, beq_self_eq_true, dec_t]
  refine vbr_split (fun hc => ?_) (fun hc => ?_) <;> simp only [decide_eq_true_eq, decide_eq_false_iff_not, Bool.or_eq_true, Bool.and_eq_true, Bool.or_eq_false_iff, Bool.and_eq_false_imp, Bool.not_eq_true', Bool.not_eq_false', beq_iff_eq, beq_eq_false_iff_ne, bne_iff_ne, bne_eq_false_iff_eq, ne_eq] at hc
  · have hg : s[((a : Int) + (i : Int)).toNat]? = some (s.getD (a + i) 0) := str_get s a i (by omega)
    have h0 : 0 ≤ (a : Int) + (i : Int) := by omega
    have hw8 : IntKind.u64.wrap (8 * (i : Int)) = 8 * (i : Int) := by simp [IntKind.wrap, IntKind.signed, IntKind.bits]; omega
    simp (config := { maxSteps := 2000000 }) (disch := first | omega | assumption | (simp only [List.length_cons, List.length_nil, Nat.zero_add, Nat.reduceAdd]; done) | (simp only [IntKind.wrap_i64]; omega) | (simp only [List.length_replicate, List.length_set, List.length_append, List.length_cons, List.length_nil, List.length_take, List.length_drop, List.length_map] <;> omega) | fail) only [vop_move, vcallee_move, vop_assign, vcallee_assign, vop_binOp, vcallee_binOp, vop_convert, vcallee_convert, vop_index, vcallee_index, conv_pv, strip_pv, optV_none, ev_tmp, ev_const, ofConst_int, put_some, at_mk, fits_some, ↓look_cons, ↓vlook_t, ↓vlook_f, guard_none, ↓vrun_nil, ↓code_skip, ↓code_region, ↓code_seq, ↓code_block, ↓onNormal_normal, ↓onBlock_normal, index_str, vivs_some, bin_int, int_add, int_mul, int_or, int_shl, conv_int, vci_int, evG_eq, ↓vrun_cons, ↓run1_some, ↓run2_none, ↓run3_some, Option.map_some, Nat.reduceLT, Nat.reduceBEq, Int.reduceLT, Int.reduceBEq, true_and, Bool.true_and, Bool.cond_self, beq_self_eq_true, Try.vkind3, Try.vkind5, Try.vkind9, Try.vkind29, Try.vkind72, wrap_i64_in, dec_t, hg, hw8]
    exact ⟨⟨i + 1, by omega⟩, by show k - (i + 1) < k - i; omega, (by refine ⟨rfl, rfl, by simp, ?_, ?_, .inl rfl⟩ <;> (repeat' apply And.intro) <;> first | rfl | trivial)⟩
  · simp (config := { maxSteps := 2000000 }) (disch := first | omega | assumption | (simp only [List.length_cons, List.length_nil, Nat.zero_add, Nat.reduceAdd]; done) | (simp only [IntKind.wrap_i64]; omega) | (simp only [List.length_replicate, List.length_set, List.length_append, List.length_cons, List.length_nil, List.length_take, List.length_drop, List.length_map] <;> omega) | fail) only [vop_move, vcallee_move, vop_assign, vcallee_assign, vop_convert, vcallee_convert, conv_pv, strip_pv, optV_none, ev_tmp, ev_const, ofConst_int, put_some, at_mk, fits_some, ↓look_cons, ↓vlook_t, ↓vlook_f, guard_none, ↓vrun_nil, ↓code_region, ↓code_seq, ↓code_exit, ↓code_ret, ↓onNormal_normal, ↓onNormal_exit, ↓onBlock_exit, frz_tup, frzT_pv, allSome_nil, allSome_cons, frzHeap_zero, res_two, vres_tmp, conv_int, vci_int, evG_eq, ↓vrun_cons, ↓run1_some, ↓run2_none, ↓run3_some, ↓vpost_ret, vfin_some, vfin2_some, at_hp, List.map_nil, List.map_cons, List.map_nil, Option.map_some, ↓reduceIte, Nat.reduceLT, Nat.reduceBEq, Int.reduceLT, Int.reduceBEq, true_and, and_self, Bool.true_and, Bool.and_self, Bool.cond_self, beq_self_eq_true, DV.wk.go, Try.vkind3, Try.vkind72, dec_t, dec_f, Ret, DV.nums, DV.nums.go]
    have hik : i = k := by omega
    rw [hik]
end Go.Proofs.Ytmdjgpnonhbfdaa

namespace Go.Proofs.Ytmdjgpnonhbfdaa
open Go.V Go
set_option maxRecDepth 100000
set_option linter.unusedSimpArgs false

def tc (l : List Int) : List DV := l.map (DV.int .u32)
theorem tc_len (l : List Int) : (tc l).length = l.length := by simp [tc]
theorem tc_get (l : List Int) (i : Nat) (h : i < l.length) : (tc l)[i]? = some (.int .u32 (l.getD i 0)) := by
  rw [tc, List.getElem?_map, List.getD_eq_getElem?_getD, List.getElem?_eq_getElem h]; rfl
theorem tc_set (l : List Int) (i : Nat) (n : Int) : (tc l).set i (.pv (.lit (.int .u32 n))) = tc (l.set i n) := by rw [tc, tc, List.map_set]
theorem tc_nums (p : Nat → Bool) (l : List Int) : DV.nums.go p (tc l) = true := by
  induction l with
  | nil => rfl
  | cons a l ih => simpa [tc, DV.nums.go, DV.nums] using ih
theorem tc_refs (n : Nat) (l : List Int) : DV.refs.go n (tc l) = true := by
  induction l with
  | nil => rfl
  | cons a l ih => simpa [tc, DV.refs.go, DV.refs] using ih

theorem tc_one (l : List Int) : allOne (tc l) = true := by
  induction l with
  | nil => rfl
  | cons a l ih => simpa [tc, allOne, DV.one] using ih

theorem tc_frz (n : Nat) (hp : Heap) (l : List Int) : allSome ((tc l).map (frz1 n hp)) = some (tc l) := by
  have e : tc l = (l.map fun n => PV.lit (.int .u32 n)).map DV.pv := by rw [tc, List.map_map]; rfl
  rw [e]; exact pvs_frz n hp _

def rnd (r : Int) : Int := if bits .and .u32 r 1 = 1 then bits .xor .u32 (r.fdiv 2) 2197175160 else r.fdiv 2
def rndN : Nat → Int → Int
  | 0, r => r
  | n + 1, r => rnd (rndN n r)
def rem16 (i : Nat) : Int := rndN 4 i
def tabN (i : Nat) : List Int := (List.range 16).map fun j => if j < i then rem16 j else 0
theorem tabN_len (i : Nat) : (tabN i).length = 16 := by simp [tabN]

theorem tabN_succ (i : Nat) (h : i < 16) : (tabN i).set i (rem16 i) = tabN (i + 1) := by
  apply List.ext_getElem?
  intro j
  rw [List.getElem?_set]
  by_cases hij : i = j
  · subst hij
    rw [if_pos rfl, if_pos (by rw [tabN_len]; exact h)]
    simp [tabN, h]
  · rw [if_neg hij]
    simp only [tabN, List.getElem?_map]
    by_cases hj : j < 16
    · rw [List.getElem?_range hj]
      simp only [Option.map_some]
      by_cases h1 : j < i
      · rw [if_pos h1, if_pos (by omega)]
      · rw [if_neg h1, if_neg (by omega)]
    · rw [List.getElem?_eq_none (by simp; omega)]
      rfl

set_option maxHeartbeats 1000000 in
theorem remainders_v : VCalls Try.prog 41 [] [] (Ret (.agg (tc (tabN 16)))) := by
  refine vcalls_drop (fn := Try.f41) Try.func41 rfl (by kernel_rfl) (by simp [Try.f41]) ?_
  simp (config := { maxSteps := 2000000 }) (disch := first | omega | assumption | (simp only [List.length_cons, List.length_nil, Nat.zero_add, Nat.reduceAdd]; done) | (simp only [IntKind.wrap_i64]; omega) | (simp only [List.length_replicate, List.length_set, List.length_append, List.length_cons, List.length_nil, List.length_take, List.length_drop, List.length_map] <;> omega) | fail) only [vop_move, vcallee_move, vop_alloc, vcallee_alloc, strip_pv, optV_none, ev_const, ofConst_int, put_some, at_mk, fits_some, guard_none, ↓vrun_nil, ↓code_region, ↓code_seq, ↓code_block, ↓code_loop, ↓onNormal_normal, alloc_eq, val1_some, allOne_nil, allOne_cons, one_pv, enum_nil, evG_eq, ↓vrun_cons, ↓run1_some, ↓run2_none, ↓run3_some, List.toList_toArray, List.length_cons, List.length_nil, List.cons_append, List.nil_append, ↓reduceIte, Nat.reduceLT, Int.reduceLT, Nat.zero_add, true_and, and_self, Bool.true_and, Bool.and_self, cond_true, Bool.cond_self, Try.vzero74, dec_t, Try.f41]
  refine vloop (fun i : {i : Nat // i ≤ 16} => ⟨25, 0, [(4, .int .i64 i.1), (1, .ptr 1 0), (0, .ptr 0 0)], [⟨74, true, tc (tabN 0)⟩, ⟨74, true, tc (tabN i.1)⟩]⟩) (fun i => 16 - i.1) ⟨0, by omega⟩ (by refine ⟨rfl, rfl, by simp, ?_, ?_, .inl rfl⟩ <;> (repeat' apply And.intro) <;> first | rfl | trivial) ?_
  intro i
  obtain ⟨i, hi⟩ := i
  dsimp only
  simp (config := { maxSteps := 2000000 }) (disch := first | omega | assumption | (simp only [List.length_cons, List.length_nil, Nat.zero_add, Nat.reduceAdd]; done) | (simp only [IntKind.wrap_i64]; omega) | (simp only [List.length_replicate, List.length_set, List.length_append, List.length_cons, List.length_nil, List.length_take, List.length_drop, List.length_map] <;> omega) | fail) only [vop_binOp, vcallee_binOp, strip_pv, optV_none, ev_tmp, ev_const, ofConst_int, put_some, at_mk, fits_some, ↓look_cons, ↓vlook_t, guard_none, ↓vrun_nil, ↓code_region, ↓code_seq, ↓onNormal_normal, bin_int, int_lss, evG_eq, ↓vrun_cons, ↓run1_some, ↓run2_none, ↓run3_some, ↓code_cond, ↓vtest_bool, Option.map_some, Nat.reduceLT, Int.reduceLT, true_and, Bool.true_and, Bool.cond_self, beq_self_eq_true, dec_t]
  refine vbr_split (fun hc => ?_) (fun hc => ?_) <;> simp only [decide_eq_true_eq, decide_eq_false_iff_not, Bool.or_eq_true, Bool.and_eq_true, Bool.or_eq_false_iff, Bool.and_eq_false_imp, Bool.not_eq_true', Bool.not_eq_false', beq_iff_eq, beq_eq_false_iff_ne, bne_iff_ne, bne_eq_false_iff_eq, ne_eq] at hc
  · have hw : IntKind.u32.wrap (i : Int) = (i : Int) := by simp [IntKind.wrap, IntKind.signed, IntKind.bits]; omega
    simp (config := { maxSteps := 2000000 }) (disch := first | omega | assumption | (simp only [List.length_cons, List.length_nil, Nat.zero_add, Nat.reduceAdd]; done) | (simp only [IntKind.wrap_i64]; omega) | (simp only [List.length_replicate, List.length_set, List.length_append, List.length_cons, List.length_nil, List.length_take, List.length_drop, List.length_map] <;> omega) | fail) only [vop_move, vcallee_move, vop_assign, vcallee_assign, vop_convert, vcallee_convert, conv_pv, strip_pv, optV_none, ev_tmp, ev_const, ofConst_int, put_some, at_mk, fits_some, ↓look_cons, ↓vlook_t, ↓vlook_f, guard_none, ↓vrun_nil, ↓code_skip, ↓code_region, ↓code_seq, ↓code_block, ↓code_loop, ↓onNormal_normal, conv_int, vci_int, evG_eq, ↓vrun_cons, ↓run1_some, ↓run2_none, ↓run3_some, Nat.reduceLT, Nat.reduceBEq, Int.reduceLT, Int.reduceBEq, true_and, Bool.true_and, Bool.cond_self, beq_self_eq_true, Try.vkind3, Try.vkind34, dec_t, hw]
    refine vloop (fun j : {j : Nat // j ≤ 4} => ⟨25, 0, [(9, .int .i64 j.1), (2, .int .i64 i), (3, .int .u32 (rndN j.1 i)), (4, .int .i64 i), (1, .ptr 1 0), (0, .ptr 0 0)], [⟨74, true, tc (tabN 0)⟩, ⟨74, true, tc (tabN i)⟩]⟩) (fun j => 4 - j.1) ⟨0, by omega⟩ (by refine ⟨rfl, rfl, by simp, ?_, ?_, .inl rfl⟩ <;> (repeat' apply And.intro) <;> first | rfl | trivial) ?_
    intro j
    obtain ⟨j, hj⟩ := j
    dsimp only
    simp (config := { maxSteps := 2000000 }) (disch := first | omega | assumption | (simp only [List.length_cons, List.length_nil, Nat.zero_add, Nat.reduceAdd]; done) | (simp only [IntKind.wrap_i64]; omega) | (simp only [List.length_replicate, List.length_set, List.length_append, List.length_cons, List.length_nil, List.length_take, List.length_drop, List.length_map] <;> omega) | fail) only [vop_binOp, vcallee_binOp, strip_pv, optV_none, ev_tmp, ev_const, ofConst_int, put_some, at_mk, fits_some, ↓look_cons, ↓vlook_t, guard_none, ↓vrun_nil, ↓code_region, ↓code_seq, ↓onNormal_normal, bin_int, int_lss, evG_eq, ↓vrun_cons, ↓run1_some, ↓run2_none, ↓run3_some, ↓code_cond, ↓vtest_bool, Option.map_some, Nat.reduceLT, Int.reduceLT, true_and, Bool.true_and, Bool.cond_self, beq_self_eq_true, dec_t]
    refine vbr_split (fun hcj => ?_) (fun hcj => ?_) <;> simp only [decide_eq_true_eq, decide_eq_false_iff_not, Bool.or_eq_true, Bool.and_eq_true, Bool.or_eq_false_iff, Bool.and_eq_false_imp, Bool.not_eq_true', Bool.not_eq_false', beq_iff_eq, beq_eq_false_iff_ne, bne_iff_ne, bne_eq_false_iff_eq, ne_eq] at hcj
    · simp (config := { maxSteps := 2000000 }) (disch := first | omega | assumption | (simp only [List.length_cons, List.length_nil, Nat.zero_add, Nat.reduceAdd]; done) | (simp only [IntKind.wrap_i64]; omega) | (simp only [List.length_replicate, List.length_set, List.length_append, List.length_cons, List.length_nil, List.length_take, List.length_drop, List.length_map] <;> omega) | fail) only [vop_move, vcallee_move, vop_binOp, vcallee_binOp, strip_pv, optV_none, ev_tmp, ev_const, ofConst_int, put_some, at_mk, fits_some, ↓look_cons, ↓vlook_t, ↓vlook_f, guard_none, ↓vrun_nil, ↓code_skip, ↓code_region, ↓code_seq, ↓code_block, ↓onNormal_normal, bin_int, int_and, int_eql, evG_eq, ↓vrun_cons, ↓run1_some, ↓run2_none, ↓run3_some, ↓code_cond, ↓vtest_bool, Option.map_some, Nat.reduceLT, Nat.reduceBEq, Int.reduceLT, Int.reduceBEq, true_and, Bool.true_and, Bool.cond_self, beq_self_eq_true, dec_t]
      refine vbr_split (fun hb => ?_) (fun hb => ?_) <;> simp only [decide_eq_true_eq, decide_eq_false_iff_not, Bool.or_eq_true, Bool.and_eq_true, Bool.or_eq_false_iff, Bool.and_eq_false_imp, Bool.not_eq_true', Bool.not_eq_false', beq_iff_eq, beq_eq_false_iff_ne, bne_iff_ne, bne_eq_false_iff_eq, ne_eq] at hb
      · simp (config := { maxSteps := 2000000 }) (disch := first | omega | assumption | (simp only [List.length_cons, List.length_nil, Nat.zero_add, Nat.reduceAdd]; done) | (simp only [IntKind.wrap_i64]; omega) | (simp only [List.length_replicate, List.length_set, List.length_append, List.length_cons, List.length_nil, List.length_take, List.length_drop, List.length_map] <;> omega) | fail) only [vop_move, vcallee_move, vop_assign, vcallee_assign, vop_binOp, vcallee_binOp, strip_pv, optV_none, ev_tmp, ev_const, ofConst_int, put_some, at_mk, fits_some, ↓look_cons, ↓vlook_t, ↓vlook_f, guard_none, ↓vrun_nil, ↓code_region, ↓onNormal_normal, ↓onBlock_normal, bin_int, int_add, int_xor, int_shr, evG_eq, ↓vrun_cons, ↓run1_some, ↓run2_none, ↓run3_some, Option.map_some, Nat.reduceLT, Nat.reduceBEq, Int.reduceToNat, Int.reduceLT, Int.reduceBEq, true_and, Bool.true_and, Bool.cond_self, beq_self_eq_true, wrap_i64_in, dec_t, int_beq_t]
        refine ⟨⟨j + 1, by omega⟩, by show 4 - (j + 1) < 4 - j; omega, ?_⟩
        have e : rndN (j + 1) i = bits .xor .u32 ((rndN j i).fdiv 2) 2197175160 := by rw [rndN, rnd, if_pos hb]
        rw [e]
        exact (by refine ⟨rfl, rfl, by simp, ?_, ?_, .inr ⟨?_, ?_⟩⟩ <;> (repeat' apply And.intro) <;> first | rfl | trivial | (intro _; first | rfl | apply cells_refs | apply tc_refs))
      · simp (config := { maxSteps := 2000000 }) (disch := first | omega | assumption | (simp only [List.length_cons, List.length_nil, Nat.zero_add, Nat.reduceAdd]; done) | (simp only [IntKind.wrap_i64]; omega) | (simp only [List.length_replicate, List.length_set, List.length_append, List.length_cons, List.length_nil, List.length_take, List.length_drop, List.length_map] <;> omega) | fail) only [vop_move, vcallee_move, vop_assign, vcallee_assign, vop_binOp, vcallee_binOp, strip_pv, optV_none, ev_tmp, ev_const, ofConst_int, put_some, at_mk, fits_some, ↓look_cons, ↓vlook_t, ↓vlook_f, guard_none, ↓vrun_nil, ↓code_region, ↓onNormal_normal, ↓onBlock_normal, bin_int, int_add, int_shr, evG_eq, ↓vrun_cons, ↓run1_some, ↓run2_none, ↓run3_some, Option.map_some, Nat.reduceLT, Nat.reduceBEq, Int.reduceToNat, Int.reduceLT, Int.reduceBEq, true_and, Bool.true_and, Bool.cond_self, beq_self_eq_true, wrap_i64_in, dec_t, int_beq_f]
        refine ⟨⟨j + 1, by omega⟩, by show 4 - (j + 1) < 4 - j; omega, ?_⟩
        have e : rndN (j + 1) i = (rndN j i).fdiv 2 := by rw [rndN, rnd, if_neg hb]
        rw [e]
        exact (by refine ⟨rfl, rfl, by simp, ?_, ?_, .inr ⟨?_, ?_⟩⟩ <;> (repeat' apply And.intro) <;> first | rfl | trivial | (intro _; first | rfl | apply cells_refs | apply tc_refs))
    · have hj4 : j = 4 := by omega
      subst hj4
      have hl : i < (tc (tabN i)).length := by rw [tc_len, tabN_len]; omega
      have hs : (tc (tabN i)).set i (.pv (.lit (.int .u32 (rndN 4 i)))) = tc (tabN (i + 1)) := by rw [tc_set, ← tabN_succ i (by omega)]; rfl
      simp (config := { maxSteps := 2000000 }) (disch := first | omega | assumption | (simp only [List.length_cons, List.length_nil, Nat.zero_add, Nat.reduceAdd]; done) | (simp only [IntKind.wrap_i64]; omega) | (simp only [List.length_replicate, List.length_set, List.length_append, List.length_cons, List.length_nil, List.length_take, List.length_drop, List.length_map] <;> omega) | fail) only [vop_move, vcallee_move, vop_store, vcallee_store, vop_binOp, vcallee_binOp, vop_indexAddr, vcallee_indexAddr, strip_pv, strip_ptr, optV_none, ev_tmp, ev_const, ofConst_int, put_some, put_none, at_mk, fits_some, fits_none, ↓look_cons, ↓vlook_t, ↓vlook_f, guard_none, ↓vrun_nil, ↓code_region, ↓code_exit, ↓onNormal_normal, ↓onNormal_exit, ↓onBlock_normal, ↓onBlock_exit, store_ptr, vst_one, blk_zero, blk_succ, set_zero, set_succ, one_pv, iaddr_ptr, viap_some, bin_int, int_add, evG_eq, ↓vrun_cons, ↓run1_some, ↓run2_none, ↓run3_some, Option.map_some, ↓reduceIte, Nat.reduceLT, Nat.reduceBEq, Int.reduceLT, Int.reduceBEq, Int.toNat_natCast, Nat.zero_add, Nat.mul_one, true_and, and_self, Bool.true_and, Bool.and_self, cond_true, Bool.cond_self, beq_self_eq_true, Try.vt34, Try.velem74, wrap_i64_in, dec_t, dec_f, hl, hs]
      exact ⟨⟨i + 1, by omega⟩, by show 16 - (i + 1) < 16 - i; omega, (by refine ⟨rfl, rfl, by simp, ?_, ?_, .inr ⟨?_, ?_⟩⟩ <;> (repeat' apply And.intro) <;> first | rfl | trivial | (intro _; first | rfl | apply cells_refs | apply tc_refs))⟩
  · have hi16 : i = 16 := by omega
    subst hi16
    have ht : (tc (tabN 16)).take 16 = tc (tabN 16) := List.take_of_length_le (by rw [tc_len, tabN_len]; omega)
    have hd : (tc (tabN 0)).drop 16 = [] := List.drop_of_length_le (by rw [tc_len, tabN_len]; omega)
    simp (config := { maxSteps := 2000000 }) (disch := first | omega | assumption | (simp only [List.length_cons, List.length_nil, Nat.zero_add, Nat.reduceAdd]; done) | (simp only [IntKind.wrap_i64]; omega) | (simp only [List.length_replicate, List.length_set, List.length_append, List.length_cons, List.length_nil, List.length_take, List.length_drop, List.length_map] <;> omega) | fail) only [vop_load, vcallee_load, vop_store, vcallee_store, strip_ptr, strip_agg, optV_none, ev_tmp, put_some, put_none, at_mk, fits_some, fits_none, ↓look_cons, ↓vlook_t, ↓vlook_f, guard_none, ↓vrun_nil, ↓code_region, ↓code_seq, ↓code_exit, ↓code_ret, ↓onNormal_normal, ↓onNormal_exit, ↓onBlock_exit, frz_agg, frzHeap_zero, res_one, vres_cell, load_ptr, vld_agg, store_ptr, vst_agg, blk_zero, blk_succ, set_zero, evG_eq, ↓vrun_cons, ↓run1_some, ↓run2_none, ↓run3_some, ↓vpost_ret, vfin_some, vfin2_some, at_hp, V.splice, List.nil_append, List.append_nil, List.take_zero, List.drop_zero, Option.map_some, ↓reduceIte, Nat.reduceLT, Nat.reduceBEq, Int.reduceLT, Int.reduceBEq, Nat.zero_add, and_self, Bool.and_self, cond_true, Bool.cond_self, beq_self_eq_true, Nat.le_refl, Try.vt74, dec_t, dec_f, Ret, DV.nums, tc_len, tabN_len, tc_nums, ht, hd, tc_one, tc_frz]

def half (r : Int) : Int := bits .xor .u32 (r.fdiv (2 ^ min 4 IntKind.u32.bits)) ((tabN 16).getD (bits .and .u32 r 15).toNat 0)
theorem and15 (r : Int) : 0 ≤ bits .and .u32 r 15 ∧ bits .and .u32 r 15 < 16 := by
  have h : bits .and .u32 r 15 = ((BitVec.ofInt 32 r &&& 15#32).toNat : Int) := by
    show IntKind.u32.wrap ((BitVec.ofInt 32 r &&& BitVec.ofInt 32 15).toNat) = _
    have hw : ∀ b : BitVec 32, IntKind.u32.wrap (b.toNat : Int) = (b.toNat : Int) := fun b => by
      have := b.isLt
      simp [IntKind.wrap, IntKind.signed, IntKind.bits]; omega
    exact hw _
  rw [h]
  have : (BitVec.ofInt 32 r &&& 15#32).toNat ≤ 15 := by rw [BitVec.toNat_and]; exact Nat.and_le_right
  omega
def byte1 (r : Int) (b : UInt8) : Int := half (half (bits .xor .u32 r (IntKind.u32.wrap b.toNat)))
def sumR (s : List UInt8) : Int := s.foldl byte1 4294967295
def sumX (s : List UInt8) : Int := bits .xor .u32 4294967295 (sumR s)
theorem sumR_succ (s : List UInt8) (i : Nat) (h : i < s.length) : sumR (s.take (i + 1)) = byte1 (sumR (s.take i)) (s.getD i 0) := by
  rw [sumR, List.take_succ_eq_append_getElem h, List.foldl_append]
  rw [List.getD_eq_getElem?_getD, List.getElem?_eq_getElem h]; rfl

set_option maxHeartbeats 1000000 in
theorem sum_v (s : List UInt8) (hs : s.length ≤ 100000) : VCalls Try.prog 18 [.pv (.str s)] [] (Ret (.int .u32 (sumX s))) := by
  refine vcalls_drop (fn := Try.f18) Try.func18 rfl (by kernel_rfl) (by simp [Try.f18]) ?_
  simp (config := { maxSteps := 2000000 }) (disch := first | omega | assumption | (simp only [List.length_cons, List.length_nil, Nat.zero_add, Nat.reduceAdd]; done) | (simp only [IntKind.wrap_i64]; omega) | (simp only [List.length_replicate, List.length_set, List.length_append, List.length_cons, List.length_nil, List.length_take, List.length_drop, List.length_map] <;> omega) | fail) only [vop_assign, vcallee_assign, vcallee_value, vcal_fn, strip_pv, strip_fn, optV_none, ev_const, ev_func, ofConst_int, put_some, at_mk, fits_some, guard_none, ↓vrun_nil, ↓code_region, ↓code_seq, ↓onNormal_normal, enum_nil, enum_cons, evG_eq, ↓vrun_cons, ↓run1_some, ↓run2_none, ↓run2_some, ↓run3_some, ↓vcg_none, List.map_nil, List.toList_toArray, List.length_nil, List.map_nil, List.append_nil, Nat.reduceLT, Int.reduceLT, Nat.zero_add, true_and, Bool.true_and, Bool.cond_self, dec_t, Try.f18]
  refine vc_pure remainders_v rfl ?_
  simp (config := { maxSteps := 2000000 }) (disch := first | omega | assumption | (simp only [List.length_cons, List.length_nil, Nat.zero_add, Nat.reduceAdd]; done) | (simp only [IntKind.wrap_i64]; omega) | (simp only [List.length_replicate, List.length_set, List.length_append, List.length_cons, List.length_nil, List.length_take, List.length_drop, List.length_map] <;> omega) | fail) only [vop_move, vcallee_move, vop_assign, vcallee_assign, vop_alloc, vcallee_alloc, vop_store, vcallee_store, vop_builtin, vcallee_builtin, strip_pv, strip_ptr, strip_agg, optV_none, ev_tmp, ev_const, ofConst_int, put_some, put_none, at_mk, fits_some, fits_none, ↓look_cons, ↓vlook_t, ↓vlook_f, guard_none, ↓vrun_nil, ↓code_region, ↓code_seq, ↓code_block, ↓code_loop, ↓onNormal_normal, store_ptr, vst_agg, blk_zero, set_zero, alloc_eq, val1_some, allOne_nil, allOne_cons, one_pv, len_str, vls_str, bi_len, evG_eq, ↓vrun_cons, ↓run1_some, ↓run2_none, ↓run3_some, ↓runK_eq, List.map_nil, V.splice, List.length_cons, List.length_nil, List.map_cons, List.map_nil, List.nil_append, List.append_nil, List.take_zero, List.drop_succ_cons, List.drop_nil, Option.map_some, ↓reduceIte, Nat.reduceAdd, Nat.reduceLT, Nat.reduceBEq, Int.reduceLT, Int.reduceAdd, Int.reduceBEq, Nat.zero_add, true_and, and_self, Bool.true_and, Bool.and_self, cond_true, Bool.cond_self, beq_self_eq_true, Nat.le_refl, Try.vkind9, Try.vt74, Try.vzero74, dec_t, tc_len, tabN_len, tc_one]
  refine vloop (fun i : {i : Nat // i ≤ s.length} => ⟨35, 0, [(9, .int .i64 i.1), (8, .int .i64 s.length), (4, .int .u32 (sumR (s.take i.1))), (3, .ptr 0 0), (0, .pv (.str s))], [⟨74, true, tc (tabN 16)⟩]⟩) (fun i => s.length - i.1) ⟨0, by omega⟩ (by refine ⟨rfl, rfl, by simp, ?_, ?_, .inl rfl⟩ <;> (repeat' apply And.intro) <;> first | rfl | trivial) ?_
  intro i
  obtain ⟨i, hi⟩ := i
  dsimp only
  simp (config := { maxSteps := 2000000 }) (disch := first | omega | assumption | (simp only [List.length_cons, List.length_nil, Nat.zero_add, Nat.reduceAdd]; done) | (simp only [IntKind.wrap_i64]; omega) | (simp only [List.length_replicate, List.length_set, List.length_append, List.length_cons, List.length_nil, List.length_take, List.length_drop, List.length_map] <;> omega) | fail) only [vop_binOp, vcallee_binOp, strip_pv, optV_none, ev_tmp, put_some, at_mk, fits_some, ↓look_cons, ↓vlook_t, ↓vlook_f, guard_none, ↓vrun_nil, ↓code_region, ↓code_seq, ↓onNormal_normal, bin_int, int_lss, evG_eq, ↓vrun_cons, ↓run1_some, ↓run2_none, ↓run3_some, ↓code_cond, ↓vtest_bool, Option.map_some, Nat.reduceLT, Nat.reduceBEq, Int.reduceLT, Int.reduceBEq, true_and, Bool.true_and, Bool.cond_self, beq_self_eq_true, dec_t]
  refine vbr_split (fun hc => ?_) (fun hc => ?_) <;> simp only [decide_eq_true_eq, decide_eq_false_iff_not, Bool.or_eq_true, Bool.and_eq_true, Bool.or_eq_false_iff, Bool.and_eq_false_imp, Bool.not_eq_true', Bool.not_eq_false', beq_iff_eq, beq_eq_false_iff_ne, bne_iff_ne, bne_eq_false_iff_eq, ne_eq] at hc
  · have hlt : i < s.length := by omega
    have hg : s[i]? = some (s.getD i 0) := by rw [List.getD_eq_getElem?_getD, List.getElem?_eq_getElem hlt]; rfl
    have a1 := and15 (bits .xor .u32 (sumR (s.take i)) (IntKind.u32.wrap (s.getD i 0).toNat))
    have a2 := and15 (half (bits .xor .u32 (sumR (s.take i)) (IntKind.u32.wrap (s.getD i 0).toNat)))
    have t1 := tc_get (tabN 16) (bits .and .u32 (bits .xor .u32 (sumR (s.take i)) (IntKind.u32.wrap (s.getD i 0).toNat)) 15).toNat (by rw [tabN_len]; omega)
    have t2 := tc_get (tabN 16) (bits .and .u32 (half (bits .xor .u32 (sumR (s.take i)) (IntKind.u32.wrap (s.getD i 0).toNat))) 15).toNat (by rw [tabN_len]; omega)
    have hh : ∀ r, bits .xor .u32 (r.fdiv (2 ^ min 4 IntKind.u32.bits)) ((tabN 16).getD (bits .and .u32 r 15).toNat 0) = half r := fun _ => rfl
    simp (config := { maxSteps := 2000000 }) (disch := first | omega | assumption | (simp only [List.length_cons, List.length_nil, Nat.zero_add, Nat.reduceAdd]; done) | (simp only [IntKind.wrap_i64]; omega) | (simp only [List.length_replicate, List.length_set, List.length_append, List.length_cons, List.length_nil, List.length_take, List.length_drop, List.length_map] <;> omega) | fail) only [vop_move, vcallee_move, vop_assign, vcallee_assign, vop_load, vcallee_load, vop_binOp, vcallee_binOp, vop_convert, vcallee_convert, vop_indexAddr, vcallee_indexAddr, vop_index, vcallee_index, conv_pv, strip_pv, strip_ptr, optV_none, ev_tmp, ev_const, ofConst_int, put_some, at_mk, fits_some, ↓look_cons, ↓vlook_t, ↓vlook_f, guard_none, ↓vrun_nil, ↓code_skip, ↓code_region, ↓code_seq, ↓code_block, ↓onNormal_normal, ↓onBlock_normal, load_ptr, vld_one, blk_zero, iaddr_ptr, viap_some, index_str, vivs_some, bin_int, int_add, int_and, int_xor, int_shr, conv_int, vci_int, evG_eq, ↓vrun_cons, ↓run1_some, ↓run2_none, ↓run3_some, Option.map_some, Nat.reduceLT, Nat.reduceBEq, Int.reduceToNat, Int.reduceLT, Int.reduceBEq, Int.toNat_natCast, Nat.zero_add, Nat.mul_one, true_and, Bool.true_and, Bool.cond_self, beq_self_eq_true, Try.vkind5, Try.vkind9, Try.vt34, Try.vkind34, Try.velem74, wrap_i64_in, dec_t, hg, t1, t2, hh]
    refine ⟨⟨i + 1, hlt⟩, by show s.length - (i + 1) < s.length - i; omega, ?_⟩
    rw [sumR_succ s i hlt]
    exact (by refine ⟨rfl, rfl, by simp, ?_, ?_, .inr ⟨?_, ?_⟩⟩ <;> (repeat' apply And.intro) <;> first | rfl | trivial | (intro _; first | rfl | apply cells_refs | apply tc_refs))
  · simp (config := { maxSteps := 2000000 }) (disch := first | omega | assumption | (simp only [List.length_cons, List.length_nil, Nat.zero_add, Nat.reduceAdd]; done) | (simp only [IntKind.wrap_i64]; omega) | (simp only [List.length_replicate, List.length_set, List.length_append, List.length_cons, List.length_nil, List.length_take, List.length_drop, List.length_map] <;> omega) | fail) only [vop_move, vcallee_move, vop_assign, vcallee_assign, vop_unOp, vcallee_unOp, strip_pv, optV_none, ev_tmp, put_some, at_mk, fits_some, ↓look_cons, ↓vlook_t, ↓vlook_f, guard_none, ↓vrun_nil, ↓code_region, ↓code_seq, ↓code_exit, ↓code_ret, ↓onNormal_normal, ↓onNormal_exit, ↓onBlock_exit, frz_pv, frzHeap_zero, res_one, vres_tmp, un_xor, evG_eq, ↓vrun_cons, ↓run1_some, ↓run2_none, ↓run3_some, ↓vpost_ret, vfin_some, vfin2_some, at_hp, Option.map_some, ↓reduceIte, Nat.reduceLT, Nat.reduceBEq, Int.reduceLT, Int.reduceBEq, true_and, Bool.true_and, Bool.cond_self, beq_self_eq_true, dec_t, dec_f, Ret, DV.nums]
    rw [List.take_of_length_le (by omega)]
    rfl

theorem acc513 : IntKind.i64.wrap (accX (putL [] 513 2) 0 2) = 513 := by decide +kernel
theorem sum9 : sumX [49, 50, 51, 52, 53, 54, 55, 56, 57] = 3808858755 := by decide +kernel

theorem awake_v : VCalls Try.prog 13 [] [] (Ret (.bool true)) := by
  refine vcalls_drop (fn := Try.f13) Try.func13 rfl (by kernel_rfl) (by simp [Try.f13]) ?_
  simp (config := { maxSteps := 2000000 }) (disch := first | omega | assumption | (simp only [List.length_cons, List.length_nil, Nat.zero_add, Nat.reduceAdd]; done) | (simp only [IntKind.wrap_i64]; omega) | (simp only [List.length_replicate, List.length_set, List.length_append, List.length_cons, List.length_nil, List.length_take, List.length_drop, List.length_map] <;> omega) | fail) only [vop_assign, vcallee_assign, vcallee_value, vcal_fn, strip_pv, strip_fn, optV_none, ev_const, ev_func, ofConst_int, ofConst_bool, ofConst_string, put_some, at_mk, fits_some, guard_none, ↓vrun_nil, ↓code_region, ↓code_seq, ↓onNormal_normal, enum_nil, evG_eq, ↓vrun_cons, ↓run1_some, ↓run2_none, ↓run2_some, ↓run3_some, ↓vcg_none, List.map_nil, List.toList_toArray, List.length_nil, List.map_cons, List.map_nil, List.nil_append, List.append_nil, Nat.reduceLT, Int.reduceLT, true_and, Bool.true_and, Bool.cond_self, dec_t, Try.f13]
  refine vc_pure (put_v [] (by simp) 513 2 (by omega) (by omega)) rfl ?_
  simp (config := { maxSteps := 2000000 }) (disch := first | omega | assumption | (simp only [List.length_cons, List.length_nil, Nat.zero_add, Nat.reduceAdd]; done) | (simp only [IntKind.wrap_i64]; omega) | (simp only [List.length_replicate, List.length_set, List.length_append, List.length_cons, List.length_nil, List.length_take, List.length_drop, List.length_map] <;> omega) | fail) only [vcallee_value, vcal_fn, strip_pv, strip_fn, ev_tmp, ev_const, ev_func, ofConst_int, put_some, at_mk, fits_some, ↓look_cons, ↓vlook_t, guard_none, evG_eq, ↓vrun_cons, ↓run1_some, ↓run2_some, ↓runK_eq, ↓vcg_none, List.map_nil, List.map_cons, List.map_nil, List.nil_append, List.append_nil, Nat.reduceLT, Int.reduceLT, true_and, Bool.true_and, beq_self_eq_true, dec_t]
  have hg := get_v (putL [] 513 2) (by rw [putL_len]; simp) 0 2 (by omega) (by rw [putL_len]; simp)
  rw [acc513] at hg
  refine vc_pure hg rfl ?_
  simp (config := { maxSteps := 2000000 }) (disch := first | omega | assumption | (simp only [List.length_cons, List.length_nil, Nat.zero_add, Nat.reduceAdd]; done) | (simp only [IntKind.wrap_i64]; omega) | (simp only [List.length_replicate, List.length_set, List.length_append, List.length_cons, List.length_nil, List.length_take, List.length_drop, List.length_map] <;> omega) | fail) only [vop_move, vcallee_move, vop_assign, vcallee_assign, vop_extract, vcallee_extract, vcallee_value, vcal_fn, strip_pv, strip_tup, strip_fn, optV_none, ev_tmp, ev_const, ev_func, ofConst_string, put_some, at_mk, fits_some, ↓look_cons, ↓vlook_t, ↓vlook_f, guard_none, ↓vrun_nil, ↓code_region, ↓code_seq, ↓onNormal_normal, ext_tup, evG_eq, ↓vrun_cons, ↓run1_some, ↓run2_none, ↓run2_some, ↓run3_some, ↓runK_eq, ↓vcg_none, List.map_nil, List.getElem?_cons_zero, List.getElem?_cons_succ, List.map_cons, List.map_nil, List.nil_append, List.append_nil, Option.map_some, Nat.reduceLT, Nat.reduceBEq, Int.reduceLT, Int.reduceBEq, true_and, Bool.true_and, Bool.cond_self, beq_self_eq_true, dec_t]
  have hs := sum_v [49, 50, 51, 52, 53, 54, 55, 56, 57] (by simp)
  rw [sum9] at hs
  refine vc_pure hs rfl ?_
  simp (config := { maxSteps := 2000000 }) (disch := first | omega | assumption | (simp only [List.length_cons, List.length_nil, Nat.zero_add, Nat.reduceAdd]; done) | (simp only [IntKind.wrap_i64]; omega) | (simp only [List.length_replicate, List.length_set, List.length_append, List.length_cons, List.length_nil, List.length_take, List.length_drop, List.length_map] <;> omega) | fail) only [vop_move, vcallee_move, vop_assign, vcallee_assign, vop_pick, vcallee_pick, vop_binOp, vcallee_binOp, vpick_bool, strip_pv, strip_opt, vstr_true, optV_none, optV_some, pickV_bool, ev_tmp, ev_const, ofConst_int, ofConst_bool, put_some, at_mk, fits_some, ↓look_cons, ↓vlook_t, ↓vlook_f, guard_none, guard_some, vgof_bool, ↓vrun_nil, ↓code_ret, ↓onNormal_normal, frz_pv, frzHeap_zero, res_one, vres_tmp, bin_int, int_eql, evG_eq, ↓vrun_cons, ↓run1_some, ↓run2_none, ↓run3_some, ↓runK_eq, ↓vpost_ret, vfin_some, vfin2_some, at_hp, List.getElem?_cons_zero, List.getElem?_cons_succ, Option.map_some, Option.bind_some, Nat.reduceLT, Nat.reduceBEq, Int.reduceLT, Int.reduceBEq, and_self, or_true, Bool.not_true, Bool.or_true, Bool.and_self, cond_true, Bool.cond_self, beq_self_eq_true, dec_t, Ret, DV.nums]
end Go.Proofs.Ytmdjgpnonhbfdaa

namespace Go.Proofs.Ytmdjgpnonhbfdaa
open Go.V Go
set_option maxRecDepth 100000
set_option linter.unusedSimpArgs false

def putI (s : List UInt8) (n k : Int) : List UInt8 := if 1 ≤ k ∧ k ≤ 8 then putL s n k.toNat else s
def getI (s : List UInt8) (a k : Int) : Int × Int := if ¬ (1 ≤ k ∧ k ≤ 8) ∨ a < 0 then (0, 1) else if a + k ≤ s.length then (IntKind.i64.wrap (accX s a.toNat k.toNat), 0) else (0, 5)

theorem putI_v (s : List UInt8) (hs : s.length ≤ 100000) (n k : Int) : VCalls Try.prog 14 [.pv (.str s), .int .i64 n, .int .i64 k] [] (Ret (.pv (.str (putI s n k)))) := by
  unfold putI
  by_cases h : 1 ≤ k ∧ k ≤ 8
  · rw [if_pos h]
    have := put_v s hs n k.toNat (by omega) (by omega)
    rwa [show ((k.toNat : Nat) : Int) = k by omega] at this
  · rw [if_neg h]; exact put_out s n k h
theorem rputI_v (s : List UInt8) (hs : s.length ≤ 100000) (n k : Int) : VCalls Try.prog 15 [.pv (.str s), .int .i64 n, .int .i64 k] [] (Ret (.pv (.str (putI s n k)))) := by
  unfold putI
  by_cases h : 1 ≤ k ∧ k ≤ 8
  · rw [if_pos h]
    have := rput_v s hs n k.toNat (by omega) (by omega)
    rwa [show ((k.toNat : Nat) : Int) = k by omega] at this
  · rw [if_neg h]; exact rput_out s n k h
theorem getI_v (s : List UInt8) (hs : s.length ≤ 100000) (a k : Int) : VCalls Try.prog 16 [.pv (.str s), .int .i64 a, .int .i64 k] [] (Ret (.tup [.int .i64 (getI s a k).1, .int .i64 (getI s a k).2])) := by
  unfold getI
  by_cases h : ¬ (1 ≤ k ∧ k ≤ 8) ∨ a < 0
  · rw [if_pos h]; exact get_out s a k h
  · rw [if_neg h]
    by_cases h2 : a + k ≤ s.length
    · rw [if_pos h2]
      have := get_v s hs a.toNat k.toNat (by omega) (by omega)
      rwa [show ((k.toNat : Nat) : Int) = k by omega, show ((a.toNat : Nat) : Int) = a by omega] at this
    · rw [if_neg h2]; exact get_short s a k (by omega) (by omega) h2
theorem rgetI_v (s : List UInt8) (hs : s.length ≤ 100000) (a k : Int) : VCalls Try.prog 17 [.pv (.str s), .int .i64 a, .int .i64 k] [] (Ret (.tup [.int .i64 (getI s a k).1, .int .i64 (getI s a k).2])) := by
  unfold getI
  by_cases h : ¬ (1 ≤ k ∧ k ≤ 8) ∨ a < 0
  · rw [if_pos h]; exact rget_out s a k h
  · rw [if_neg h]
    by_cases h2 : a + k ≤ s.length
    · rw [if_pos h2]
      have := rget_v s hs a.toNat k.toNat (by omega) (by omega)
      rwa [show ((k.toNat : Nat) : Int) = k by omega, show ((a.toNat : Nat) : Int) = a by omega] at this
    · rw [if_neg h2]; exact rget_short s a k (by omega) (by omega) h2

set_option maxHeartbeats 4000000 in
theorem numbers_v (s : List UInt8) (n a k : Int) (b : Int) (hb : 0 ≤ b ∧ b ≤ 255) : VCalls Try.prog 3 [.pv (.str s), .int .i64 n, .int .i64 a, .int .i64 k, .int .u8 b] [] (Ret (.bool true)) := by
  refine vcalls_drop (fn := Try.f3) Try.func3 rfl (by kernel_rfl) (by simp [Try.f3]) ?_
  simp (config := { maxSteps := 2000000 }) (disch := first | omega | assumption | (simp only [List.length_cons, List.length_nil, Nat.zero_add, Nat.reduceAdd]; done) | (simp only [IntKind.wrap_i64]; omega) | (simp only [List.length_replicate, List.length_set, List.length_append, List.length_cons, List.length_nil, List.length_take, List.length_drop, List.length_map] <;> omega) | fail) only [vop_assign, vcallee_assign, vcallee_value, vcal_fn, strip_pv, strip_fn, optV_none, ev_const, ev_func, ofConst_bool, put_some, at_mk, fits_some, guard_none, ↓vrun_nil, ↓code_region, ↓code_seq, ↓onNormal_normal, enum_nil, enum_cons, evG_eq, ↓vrun_cons, ↓run1_some, ↓run2_none, ↓run2_some, ↓run3_some, ↓vcg_none, List.map_nil, List.toList_toArray, List.length_nil, List.map_nil, List.append_nil, Nat.reduceAdd, Nat.reduceLT, Int.reduceLT, Int.reduceAdd, Nat.zero_add, true_and, Bool.true_and, Bool.cond_self, dec_t, Try.f3]
  refine vc_pure awake_v rfl ?_
  by_cases hl : 400 < (s.length : Int)
  · simp (config := { maxSteps := 2000000 }) (disch := first | omega | assumption | (simp only [List.length_cons, List.length_nil, Nat.zero_add, Nat.reduceAdd]; done) | (simp only [IntKind.wrap_i64]; omega) | (simp only [List.length_replicate, List.length_set, List.length_append, List.length_cons, List.length_nil, List.length_take, List.length_drop, List.length_map] <;> omega) | fail) only [vop_move, vcallee_move, vop_assign, vcallee_assign, vop_pick, vcallee_pick, vop_binOp, vcallee_binOp, vop_unOp, vcallee_unOp, vop_builtin, vcallee_builtin, vpick_bool, strip_pv, strip_opt, vstr_true, optV_none, optV_some, pickV_bool, ev_tmp, ev_const, ofConst_int, ofConst_bool, put_some, at_mk, fits_some, ↓look_cons, ↓vlook_t, ↓vlook_f, guard_none, guard_some, vgof_bool, ↓vrun_nil, ↓code_region, ↓code_seq, ↓code_ret, ↓onNormal_normal, ↓onNormal_ret, frz_pv, frzHeap_zero, res_one, vres_tmp, bin_int, int_gtr, un_not, len_str, vls_str, bi_len, evG_eq, ↓vrun_cons, ↓run1_some, ↓run2_none, ↓run3_some, ↓runK_eq, ↓code_cond, ↓vtest_bool, ↓vbr_true, ↓vpost_ret, vfin_some, vfin2_some, at_hp, List.map_nil, List.getElem?_cons_zero, List.getElem?_cons_succ, List.map_cons, List.map_nil, Option.map_some, Option.bind_some, Nat.reduceLT, Nat.reduceBEq, Int.reduceLT, Int.reduceBEq, and_self, or_true, Bool.not_true, Bool.not_false, Bool.or_true, Bool.and_self, Bool.cond_self, beq_self_eq_true, Try.vkind9, dec_t, Ret, DV.nums, hl]
  · simp (config := { maxSteps := 2000000 }) (disch := first | omega | assumption | (simp only [List.length_cons, List.length_nil, Nat.zero_add, Nat.reduceAdd]; done) | (simp only [IntKind.wrap_i64]; omega) | (simp only [List.length_replicate, List.length_set, List.length_append, List.length_cons, List.length_nil, List.length_take, List.length_drop, List.length_map] <;> omega) | fail) only [vop_move, vcallee_move, vop_pick, vcallee_pick, vop_buildSlice, vcallee_buildSlice, vop_binOp, vcallee_binOp, vop_unOp, vcallee_unOp, vop_convert, vcallee_convert, vop_builtin, vcallee_builtin, conv_pv, vpick_bool, strip_pv, strip_own, strip_opt, vstr_true, optV_none, optV_some, pickV_bool, ev_tmp, ev_const, ofConst_int, ofConst_bool, put_some, at_mk, fits_some, ↓look_cons, ↓vlook_t, ↓vlook_f, guard_none, guard_some, vgof_bool, ↓vrun_nil, ↓code_skip, ↓code_region, ↓code_seq, ↓code_block, ↓code_loop, ↓onNormal_normal, allOne_nil, allOne_cons, one_pv, bin_int, int_gtr, int_rem, un_not, vlk_sl, len_own, len_str, vls_str, bi_len, parts_nil, parts_cons, conv_int, vci_int, evG_eq, ↓vrun_cons, ↓run1_some, ↓run2_none, ↓run3_some, ↓runK_eq, ↓code_cond, ↓vtest_bool, ↓vbr_false, List.map_nil, dcells, vfill, vbuildSlice, V.mk, V.splice, List.getElem?_cons_zero, List.getElem?_cons_succ, List.length_cons, List.length_nil, List.map_cons, List.map_nil, List.cons_append, List.nil_append, List.append_nil, List.take_succ_cons, List.take_zero, List.drop_succ_cons, List.drop_zero, List.drop_nil, Option.map_some, Option.bind_some, ↓reduceIte, Nat.reduceAdd, Nat.reduceLT, Nat.reduceLeDiff, Nat.reduceBEq, Int.reduceLT, Int.reduceAdd, Int.reduceBEq, Nat.zero_add, Nat.mul_one, decide_false, true_and, and_self, or_true, Bool.not_true, Bool.not_false, Bool.or_true, Bool.true_and, Bool.and_self, cond_true, cond_false, Bool.cond_self, beq_self_eq_true, Nat.le_refl, Try.vkind3, Try.vzero3, Try.vkind5, Try.vkind9, Try.velem23, Try.vkind23, wrap_i64_in, dec_t, hl]
    have hxs : ([.int .i64 k, .int .i64 (b.tmod 11), .int .i64 8] : List DV) = cells encI [k, b.tmod 11, 8] := rfl
    rw [hxs]
    refine vloopW (fun i : {i : Nat // i ≤ 3} => ⟨88, 0, [(35, .int .i64 i.1), (34, .int .i64 3), (33, .own 0 1 0 3), (0, .pv (.str s)), (1, .int .i64 n), (2, .int .i64 a), (3, .int .i64 k), (4, .int .u8 b)], [⟨3, true, cells encI [k, b.tmod 11, 8]⟩]⟩) (fun i => 3 - i.1) ⟨0, by omega⟩ (.inl (by refine ⟨rfl, rfl, by simp, ?_, ?_, .inr ⟨?_, ?_⟩⟩ <;> (repeat' apply And.intro) <;> first | rfl | trivial | (intro _; first | rfl | apply cells_refs))) ?_
    intro i
    obtain ⟨i, hi⟩ := i
    dsimp only
    simp (config := { maxSteps := 2000000 }) (disch := first | omega | assumption | (simp only [List.length_cons, List.length_nil, Nat.zero_add, Nat.reduceAdd]; done) | (simp only [IntKind.wrap_i64]; omega) | (simp only [List.length_replicate, List.length_set, List.length_append, List.length_cons, List.length_nil, List.length_take, List.length_drop, List.length_map] <;> omega) | fail) only [vop_binOp, vcallee_binOp, strip_pv, optV_none, ev_tmp, put_some, at_mk, fits_some, ↓look_cons, ↓vlook_t, ↓vlook_f, guard_none, ↓vrun_nil, ↓code_region, ↓code_seq, ↓onNormal_normal, bin_int, int_lss, evG_eq, ↓vrun_cons, ↓run1_some, ↓run2_none, ↓run3_some, ↓code_cond, ↓vtest_bool, Option.map_some, Nat.reduceLT, Nat.reduceBEq, Int.reduceLT, Int.reduceBEq, true_and, Bool.true_and, Bool.cond_self, beq_self_eq_true, dec_t]
    refine vbr_split (fun hc => ?_) (fun hc => ?_) <;> simp only [decide_eq_true_eq, decide_eq_false_iff_not, Bool.or_eq_true, Bool.and_eq_true, Bool.or_eq_false_iff, Bool.and_eq_false_imp, Bool.not_eq_true', Bool.not_eq_false', beq_iff_eq, beq_eq_false_iff_ne, bne_iff_ne, bne_eq_false_iff_eq, ne_eq] at hc
    · have hg := cellsI_get [k, b.tmod 11, 8] i (by simp; omega)
      generalize [k, b.tmod 11, 8].getD i 0 = x at hg
      simp (config := { maxSteps := 2000000 }) (disch := first | omega | assumption | (simp only [List.length_cons, List.length_nil, Nat.zero_add, Nat.reduceAdd]; done) | (simp only [IntKind.wrap_i64]; omega) | (simp only [List.length_replicate, List.length_set, List.length_append, List.length_cons, List.length_nil, List.length_take, List.length_drop, List.length_map] <;> omega) | fail) only [vop_move, vcallee_move, vop_assign, vcallee_assign, vop_load, vcallee_load, vop_indexAddr, vcallee_indexAddr, vcallee_value, vcal_fn, strip_pv, strip_ptr, strip_own, strip_fn, optV_none, ev_tmp, ev_func, put_some, at_mk, fits_some, ↓look_cons, ↓vlook_t, ↓vlook_f, guard_none, ↓vrun_nil, ↓code_skip, ↓code_region, ↓code_seq, ↓code_block, ↓onNormal_normal, load_ptr, vld_one, blk_zero, iaddr_own, viao_some, evG_eq, ↓vrun_cons, ↓run1_some, ↓run2_none, ↓run2_some, ↓run3_some, ↓vcg_none, List.map_nil, List.map_cons, List.map_nil, List.nil_append, List.append_nil, Option.map_some, Nat.reduceLT, Nat.reduceBEq, Int.reduceLT, Int.reduceBEq, Int.toNat_natCast, Nat.zero_add, Nat.mul_one, true_and, Bool.true_and, Bool.cond_self, beq_self_eq_true, Try.vt3, Try.velem23, dec_t, hg]
      refine vc_pure (putI_v s (by omega) n x) rfl ?_
      simp (config := { maxSteps := 2000000 }) (disch := first | omega | assumption | (simp only [List.length_cons, List.length_nil, Nat.zero_add, Nat.reduceAdd]; done) | (simp only [IntKind.wrap_i64]; omega) | (simp only [List.length_replicate, List.length_set, List.length_append, List.length_cons, List.length_nil, List.length_take, List.length_drop, List.length_map] <;> omega) | fail) only [vop_move, vcallee_move, vcallee_value, vcal_fn, strip_pv, strip_fn, optV_none, ev_tmp, ev_func, put_some, at_mk, fits_some, ↓look_cons, ↓vlook_t, ↓vlook_f, guard_none, evG_eq, ↓vrun_cons, ↓run1_some, ↓run2_none, ↓run2_some, ↓run3_some, ↓runK_eq, ↓vcg_none, List.map_nil, List.map_cons, List.map_nil, List.nil_append, List.append_nil, Nat.reduceLT, Nat.reduceBEq, Int.reduceLT, Int.reduceBEq, true_and, Bool.true_and, Bool.cond_self, beq_self_eq_true, dec_t]
      refine vc_pure (rputI_v s (by omega) n x) rfl ?_
      simp (config := { maxSteps := 2000000 }) (disch := first | omega | assumption | (simp only [List.length_cons, List.length_nil, Nat.zero_add, Nat.reduceAdd]; done) | (simp only [IntKind.wrap_i64]; omega) | (simp only [List.length_replicate, List.length_set, List.length_append, List.length_cons, List.length_nil, List.length_take, List.length_drop, List.length_map] <;> omega) | fail) only [vop_move, vcallee_move, vop_buildSlice, vcallee_buildSlice, vop_binOp, vcallee_binOp, vop_convert, vcallee_convert, vop_builtin, vcallee_builtin, conv_pv, strip_pv, strip_own, optV_none, ev_tmp, ev_const, ofConst_int, put_some, at_mk, fits_some, ↓look_cons, ↓vlook_t, ↓vlook_f, guard_none, ↓vrun_nil, ↓code_skip, ↓code_region, ↓code_seq, ↓code_block, ↓code_loop, ↓onNormal_normal, allOne_nil, allOne_cons, one_pv, bin_int, bin_str, int_sub, int_quo, str_neq, vlk_sl, len_own, len_str, vls_str, bi_len, parts_nil, parts_cons, conv_int, vci_int, evG_eq, ↓vrun_cons, ↓run1_some, ↓run2_none, ↓run3_some, ↓runK_eq, ↓code_cond, ↓vtest_bool, ↓vbr_false, List.map_nil, dcells, vfill, vbuildSlice, V.mk, V.splice, List.length_cons, List.length_nil, List.map_cons, List.map_nil, List.cons_append, List.nil_append, List.append_nil, List.take_succ_cons, List.take_zero, List.drop_succ_cons, List.drop_zero, List.drop_nil, Option.map_some, ↓reduceIte, Nat.reduceAdd, Nat.reduceLT, Nat.reduceLeDiff, Nat.reduceBEq, Int.reduceLT, Int.reduceAdd, Int.reduceBEq, Nat.zero_add, Nat.mul_one, true_and, and_self, Bool.not_true, Bool.true_and, Bool.and_self, cond_true, Bool.cond_self, beq_self_eq_true, Nat.le_refl, Try.vkind3, Try.vzero3, Try.vkind5, Try.vkind9, Try.velem23, Try.vkind23, wrap_i64_in, dec_t]
      obtain ⟨ys, hys, hyl⟩ : ∃ ys : List Int, ([.int .i64 a, .int .i64 0, .int .i64 (IntKind.i64.wrap (b.tdiv 11)), .int .i64 s.length, .int .i64 (IntKind.i64.wrap (s.length - x))] : List DV) = cells encI ys ∧ ys.length = 5 := ⟨[a, 0, IntKind.i64.wrap (b.tdiv 11), s.length, IntKind.i64.wrap (s.length - x)], rfl, rfl⟩
      rw [hys]
      refine vloop (fun j : {j : Nat // j ≤ 5} => ⟨88, 0, [(60, .int .i64 j.1), (59, .int .i64 5), (58, .own 1 1 0 5), (12, .int .i64 x), (35, .int .i64 i), (34, .int .i64 3), (33, .own 0 1 0 3), (0, .pv (.str s)), (1, .int .i64 n), (2, .int .i64 a), (3, .int .i64 k), (4, .int .u8 b)], [⟨3, true, cells encI [k, b.tmod 11, 8]⟩, ⟨3, true, cells encI ys⟩]⟩) (fun j => 5 - j.1) ⟨0, by omega⟩ (by refine ⟨rfl, rfl, by simp, ?_, ?_, .inr ⟨?_, ?_⟩⟩ <;> (repeat' apply And.intro) <;> first | rfl | trivial | (intro _; first | rfl | apply cells_refs)) ?_
      intro j
      obtain ⟨j, hj⟩ := j
      dsimp only
      simp (config := { maxSteps := 2000000 }) (disch := first | omega | assumption | (simp only [List.length_cons, List.length_nil, Nat.zero_add, Nat.reduceAdd]; done) | (simp only [IntKind.wrap_i64]; omega) | (simp only [List.length_replicate, List.length_set, List.length_append, List.length_cons, List.length_nil, List.length_take, List.length_drop, List.length_map] <;> omega) | fail) only [vop_binOp, vcallee_binOp, strip_pv, optV_none, ev_tmp, put_some, at_mk, fits_some, ↓look_cons, ↓vlook_t, ↓vlook_f, guard_none, ↓vrun_nil, ↓code_region, ↓code_seq, ↓onNormal_normal, bin_int, int_lss, evG_eq, ↓vrun_cons, ↓run1_some, ↓run2_none, ↓run3_some, ↓code_cond, ↓vtest_bool, Option.map_some, Nat.reduceLT, Nat.reduceBEq, Int.reduceLT, Int.reduceBEq, true_and, Bool.true_and, Bool.cond_self, beq_self_eq_true, dec_t]
      refine vbr_split (fun hcj => ?_) (fun hcj => ?_) <;> simp only [decide_eq_true_eq, decide_eq_false_iff_not, Bool.or_eq_true, Bool.and_eq_true, Bool.or_eq_false_iff, Bool.and_eq_false_imp, Bool.not_eq_true', Bool.not_eq_false', beq_iff_eq, beq_eq_false_iff_ne, bne_iff_ne, bne_eq_false_iff_eq, ne_eq] at hcj
      · have hgy := cellsI_get ys j (by omega)
        generalize ys.getD j 0 = y at hgy
        simp (config := { maxSteps := 2000000 }) (disch := first | omega | assumption | (simp only [List.length_cons, List.length_nil, Nat.zero_add, Nat.reduceAdd]; done) | (simp only [IntKind.wrap_i64]; omega) | (simp only [List.length_replicate, List.length_set, List.length_append, List.length_cons, List.length_nil, List.length_take, List.length_drop, List.length_map] <;> omega) | fail) only [vop_move, vcallee_move, vop_assign, vcallee_assign, vop_load, vcallee_load, vop_indexAddr, vcallee_indexAddr, vcallee_value, vcal_fn, strip_pv, strip_ptr, strip_own, strip_fn, optV_none, ev_tmp, ev_func, put_some, at_mk, fits_some, ↓look_cons, ↓vlook_t, ↓vlook_f, guard_none, ↓vrun_nil, ↓code_skip, ↓code_region, ↓code_seq, ↓code_block, ↓onNormal_normal, load_ptr, vld_one, blk_zero, blk_succ, iaddr_own, viao_some, evG_eq, ↓vrun_cons, ↓run1_some, ↓run2_none, ↓run2_some, ↓run3_some, ↓vcg_none, List.map_nil, List.map_cons, List.map_nil, List.nil_append, List.append_nil, Option.map_some, Nat.reduceLT, Nat.reduceBEq, Int.reduceLT, Int.reduceBEq, Int.toNat_natCast, Nat.zero_add, Nat.mul_one, true_and, Bool.true_and, Bool.cond_self, beq_self_eq_true, Try.vt3, Try.velem23, dec_t, hgy]
        refine vc_pure (getI_v s (by omega) y x) rfl ?_
        simp (config := { maxSteps := 2000000 }) (disch := first | omega | assumption | (simp only [List.length_cons, List.length_nil, Nat.zero_add, Nat.reduceAdd]; done) | (simp only [IntKind.wrap_i64]; omega) | (simp only [List.length_replicate, List.length_set, List.length_append, List.length_cons, List.length_nil, List.length_take, List.length_drop, List.length_map] <;> omega) | fail) only [vop_move, vcallee_move, vop_assign, vcallee_assign, vop_extract, vcallee_extract, vcallee_value, vcal_fn, strip_pv, strip_tup, strip_fn, optV_none, ev_tmp, ev_func, put_some, at_mk, fits_some, ↓look_cons, ↓vlook_t, ↓vlook_f, guard_none, ↓vrun_nil, ↓code_region, ↓code_seq, ↓onNormal_normal, ext_tup, evG_eq, ↓vrun_cons, ↓run1_some, ↓run2_none, ↓run2_some, ↓run3_some, ↓runK_eq, ↓vcg_none, List.map_nil, List.getElem?_cons_zero, List.getElem?_cons_succ, List.map_cons, List.map_nil, List.nil_append, List.append_nil, Option.map_some, Nat.reduceLT, Nat.reduceBEq, Int.reduceLT, Int.reduceBEq, true_and, Bool.true_and, Bool.cond_self, beq_self_eq_true, dec_t]
        refine vc_pure (rgetI_v s (by omega) y x) rfl ?_
        simp (config := { maxSteps := 2000000 }) (disch := first | omega | assumption | (simp only [List.length_cons, List.length_nil, Nat.zero_add, Nat.reduceAdd]; done) | (simp only [IntKind.wrap_i64]; omega) | (simp only [List.length_replicate, List.length_set, List.length_append, List.length_cons, List.length_nil, List.length_take, List.length_drop, List.length_map] <;> omega) | fail) only [vop_move, vcallee_move, vop_assign, vcallee_assign, vop_pick, vcallee_pick, vop_binOp, vcallee_binOp, vop_extract, vcallee_extract, vpick_bool, strip_pv, strip_tup, strip_opt, vstr_true, optV_none, optV_some, pickV_bool, ev_tmp, ev_const, ofConst_int, ofConst_bool, put_some, at_mk, fits_some, ↓look_cons, ↓vlook_t, ↓vlook_f, guard_none, guard_some, vgof_bool, ↓vrun_nil, ↓code_skip, ↓code_region, ↓code_seq, ↓onNormal_normal, ↓onBlock_normal, bin_int, int_add, int_neq, ext_tup, evG_eq, ↓vrun_cons, ↓run1_some, ↓run2_none, ↓run3_some, ↓runK_eq, ↓code_cond, ↓vtest_bool, ↓vbr_false, List.getElem?_cons_zero, List.getElem?_cons_succ, Option.map_some, Option.bind_some, Nat.reduceLT, Nat.reduceBEq, Int.reduceLT, Int.reduceBEq, true_and, or_true, Bool.not_true, Bool.not_false, Bool.or_true, Bool.true_and, cond_false, Bool.cond_self, beq_self_eq_true, wrap_i64_in, dec_t, int_bne_f]
        exact ⟨⟨j + 1, by omega⟩, by show 5 - (j + 1) < 5 - j; omega, (by refine ⟨rfl, rfl, by simp, ?_, ?_, .inr ⟨?_, ?_⟩⟩ <;> (repeat' apply And.intro) <;> first | rfl | trivial | (intro _; first | rfl | apply cells_refs))⟩
      · simp (config := { maxSteps := 2000000 }) (disch := first | omega | assumption | (simp only [List.length_cons, List.length_nil, Nat.zero_add, Nat.reduceAdd]; done) | (simp only [IntKind.wrap_i64]; omega) | (simp only [List.length_replicate, List.length_set, List.length_append, List.length_cons, List.length_nil, List.length_take, List.length_drop, List.length_map] <;> omega) | fail) only [vop_move, vcallee_move, vop_binOp, vcallee_binOp, strip_pv, optV_none, ev_tmp, ev_const, ofConst_int, put_some, at_mk, fits_some, ↓look_cons, ↓vlook_t, ↓vlook_f, guard_none, ↓vrun_nil, ↓code_region, ↓code_exit, ↓onNormal_normal, ↓onNormal_exit, ↓onBlock_normal, ↓onBlock_exit, bin_int, int_add, evG_eq, ↓vrun_cons, ↓run1_some, ↓run2_none, ↓run3_some, Option.map_some, ↓reduceIte, Nat.reduceLT, Nat.reduceBEq, Int.reduceLT, Int.reduceBEq, true_and, Bool.true_and, Bool.cond_self, beq_self_eq_true, wrap_i64_in, dec_t, dec_f]
        exact ⟨⟨i + 1, by omega⟩, by show 3 - (i + 1) < 3 - i; omega, .inl (by refine ⟨rfl, rfl, by simp, ?_, ?_, .inr ⟨?_, ?_⟩⟩ <;> (repeat' apply And.intro) <;> first | rfl | trivial | (intro _; first | rfl | apply cells_refs))⟩
    · simp (config := { maxSteps := 2000000 }) (disch := first | omega | assumption | (simp only [List.length_cons, List.length_nil, Nat.zero_add, Nat.reduceAdd]; done) | (simp only [IntKind.wrap_i64]; omega) | (simp only [List.length_replicate, List.length_set, List.length_append, List.length_cons, List.length_nil, List.length_take, List.length_drop, List.length_map] <;> omega) | fail) only [vop_assign, vcallee_assign, strip_pv, optV_none, ev_const, ofConst_bool, put_some, at_mk, fits_some, ↓look_cons, ↓vlook_t, guard_none, ↓vrun_nil, ↓code_region, ↓code_seq, ↓code_exit, ↓code_ret, ↓onNormal_normal, ↓onNormal_exit, ↓onBlock_exit, frz_pv, frzHeap_zero, res_one, vres_tmp, evG_eq, ↓vrun_cons, ↓run1_some, ↓run2_none, ↓run3_some, ↓vpost_ret, vfin_some, vfin2_some, at_hp, ↓reduceIte, Nat.reduceLT, Int.reduceLT, and_self, Bool.and_self, Bool.cond_self, beq_self_eq_true, dec_t, dec_f, Ret, DV.nums]
end Go.Proofs.Ytmdjgpnonhbfdaa

namespace Go.Proofs.Ytmdjgpnonhbfdaa
open Go.V Go
set_option linter.unusedSimpArgs false

def u64N (n : Int) : Nat := (n % 18446744073709551616).toNat
theorem u64N_lt (n : Int) : u64N n < 2 ^ 64 := by unfold u64N; omega
theorem wrap64 (n : Int) : IntKind.u64.wrap n = (u64N n : Int) := by
  unfold u64N
  simp [IntKind.wrap, IntKind.signed, IntKind.bits]; omega
theorem min_bits (i : Nat) (h : i < 8) : min (8 * (i : Int)).toNat IntKind.u64.bits = 8 * i := by
  have e : (8 * (i : Int)).toNat = 8 * i := by omega
  rw [e]; simp [IntKind.bits]; omega
theorem byteI_val (n : Int) (i : Nat) (h : i < 8) : (byteI n i).toNat = u64N n / 2 ^ (8 * i) % 256 := by
  have hx := byteI_eq n i
  unfold byteX at hx
  rw [wrap_u8_eq, wrap64, min_bits i h] at hx
  have e : ((u64N n : Int).fdiv (2 ^ (8 * i))) = ((u64N n / 2 ^ (8 * i) : Nat) : Int) := by
    have e2 : ((2 : Int) ^ (8 * i)) = ((2 ^ (8 * i) : Nat) : Int) := by rw [Int.natCast_pow]; rfl
    rw [e2, Int.fdiv_eq_ediv_of_nonneg _ (Int.natCast_nonneg _)]
    rfl
  rw [e] at hx
  generalize u64N n / 2 ^ (8 * i) = q at hx ⊢
  omega
theorem or_val (x y : Nat) (hx : x < 2 ^ 64) (hy : y < 2 ^ 64) : bits .or .u64 (x : Int) (y : Int) = ((x ||| y : Nat) : Int) := by
  have e : bits .or .u64 (x : Int) (y : Int) = IntKind.u64.wrap ((BitVec.ofInt 64 (x : Int) ||| BitVec.ofInt 64 (y : Int)).toNat : Int) := rfl
  rw [e, BitVec.toNat_or]
  have h1 : (BitVec.ofInt 64 (x : Int)).toNat = x := by simp; omega
  have h2 : (BitVec.ofInt 64 (y : Int)).toNat = y := by simp; omega
  rw [h1, h2, wrap64]
  have h3 : x ||| y < 2 ^ 64 := Nat.or_lt_two_pow hx hy
  unfold u64N; omega
theorem step_val (N i : Nat) : (N % 2 ^ (8 * i)) ||| (N / 2 ^ (8 * i) % 256 * 2 ^ (8 * i)) = N % 2 ^ (8 * (i + 1)) := by
  have h : N % 2 ^ (8 * i) < 2 ^ (8 * i) := Nat.mod_lt _ (Nat.two_pow_pos _)
  rw [Nat.or_comm, Nat.mul_comm, ← Nat.two_pow_add_eq_or_of_lt h]
  have e : 2 ^ (8 * (i + 1)) = 2 ^ (8 * i) * 256 := by rw [Nat.mul_add, Nat.pow_add]
  rw [e, Nat.mod_mul]; omega

theorem putL_get (s t : List UInt8) (n : Int) (k i : Nat) (hi : i < k) : (putL s n k ++ t).getD (s.length + i) 0 = byteI n i := by
  rw [List.getD_eq_getElem?_getD, putL, List.append_assoc, List.getElem?_append_right (by omega), List.getElem?_append_left (by simp; omega)]
  simp [hi]

theorem acc_val (s t : List UInt8) (n : Int) (k : Nat) (hk : k ≤ 8) : ∀ i, i ≤ k → accX (putL s n k ++ t) s.length i = ((u64N n % 2 ^ (8 * i) : Nat) : Int)
  | 0, _ => by simp [accX, Nat.mod_one]
  | i + 1, hi => by
    have ih := acc_val s t n k hk i (by omega)
    have h8 : i < 8 := by omega
    unfold accX
    rw [ih, putL_get s t n k i (by omega), byteI_val n i h8, min_bits i h8]
    have hb : u64N n / 2 ^ (8 * i) % 256 < 256 := Nat.mod_lt _ (by omega)
    have hw : IntKind.u64.wrap ((u64N n / 2 ^ (8 * i) % 256 : Nat) : Int) = ((u64N n / 2 ^ (8 * i) % 256 : Nat) : Int) := by rw [wrap64]; unfold u64N at *; omega
    rw [hw]
    have hp : (2 : Nat) ^ (8 * i) ≤ 2 ^ 56 := Nat.pow_le_pow_right (by omega) (by omega)
    have hlt : u64N n / 2 ^ (8 * i) % 256 * 2 ^ (8 * i) < 2 ^ 64 := by
      have : u64N n / 2 ^ (8 * i) % 256 * 2 ^ (8 * i) ≤ 255 * 2 ^ 56 := Nat.mul_le_mul (by omega) hp
      omega
    have e2 : ((u64N n / 2 ^ (8 * i) % 256 : Nat) : Int) * 2 ^ (8 * i) = ((u64N n / 2 ^ (8 * i) % 256 * 2 ^ (8 * i) : Nat) : Int) := by
      rw [Int.natCast_mul, Int.natCast_pow]; rfl
    rw [e2]
    have hw2 : IntKind.u64.wrap ((u64N n / 2 ^ (8 * i) % 256 * 2 ^ (8 * i) : Nat) : Int) = ((u64N n / 2 ^ (8 * i) % 256 * 2 ^ (8 * i) : Nat) : Int) := by
      generalize u64N n / 2 ^ (8 * i) % 256 * 2 ^ (8 * i) = z at hlt
      rw [wrap64]; unfold u64N; omega
    rw [hw2, or_val _ _ (Nat.lt_of_le_of_lt (Nat.mod_le _ _) (u64N_lt n)) hlt, step_val]

theorem and_val (n : Int) (m : Nat) (hm : m ≤ 56) : bits .and .i64 n (2 ^ m - 1) = ((u64N n % 2 ^ m : Nat) : Int) := by
  have e : bits .and .i64 n (2 ^ m - 1) = IntKind.i64.wrap ((BitVec.ofInt 64 n &&& BitVec.ofInt 64 (2 ^ m - 1)).toNat : Int) := rfl
  have hp : (2 : Nat) ^ m ≤ 2 ^ 56 := Nat.pow_le_pow_right (by omega) hm
  have hp0 : 0 < (2 : Nat) ^ m := Nat.two_pow_pos m
  have e2 : ((2 : Int) ^ m - 1) = ((2 ^ m - 1 : Nat) : Int) := by
    have : ((2 : Int) ^ m) = ((2 ^ m : Nat) : Int) := by rw [Int.natCast_pow]; rfl
    omega
  rw [e, BitVec.toNat_and, e2]
  have h1 : (BitVec.ofInt 64 n).toNat = u64N n := by simp [u64N]
  have h2 : (BitVec.ofInt 64 ((2 ^ m - 1 : Nat) : Int)).toNat = 2 ^ m - 1 := by
    generalize 2 ^ m = z at *
    simp; omega
  rw [h1, h2, Nat.and_two_pow_sub_one_eq_mod]
  have h3 : u64N n % 2 ^ m < 2 ^ m := Nat.mod_lt _ hp0
  rw [IntKind.wrap_i64]
  generalize u64N n % 2 ^ m = q at *
  omega
theorem wrap_back (n : Int) (h : -9223372036854775808 ≤ n ∧ n ≤ 9223372036854775807) : IntKind.i64.wrap ((u64N n % 2 ^ 64 : Nat) : Int) = n := by
  rw [IntKind.wrap_i64]; unfold u64N; omega
theorem wrap_small (n : Int) (m : Nat) (hm : m ≤ 56) : IntKind.i64.wrap ((u64N n % 2 ^ m : Nat) : Int) = ((u64N n % 2 ^ m : Nat) : Int) := by
  have hp : (2 : Nat) ^ m ≤ 2 ^ 56 := Nat.pow_le_pow_right (by omega) hm
  have h3 : u64N n % 2 ^ m < 2 ^ m := Nat.mod_lt _ (Nat.two_pow_pos m)
  rw [IntKind.wrap_i64]
  generalize u64N n % 2 ^ m = q at *
  omega
end Go.Proofs.Ytmdjgpnonhbfdaa

namespace Go.Proofs.Ytmdjgpnonhbfdaa
open Go.V Go
set_option maxRecDepth 100000
set_option pp.deepTerms true
set_option pp.deepTerms.threshold 100000
set_option pp.maxSteps 1000000
set_option pp.proofs false
set_option linter.unusedSimpArgs false

theorem rnd_b (x : BitVec 32) : rnd (x.toNat : Int) = ((rb x).toNat : Int) := by
  have h1 : bits .and .u32 (x.toNat : Int) 1 = ((x &&& 1#32).toNat : Int) := and32 x 1#32
  have h2 : (x.toNat : Int).fdiv 2 = ((x >>> 1).toNat : Int) := shr32 x 1
  have h3 : (x &&& 1#32).toNat = x.toNat % 2 := by rw [BitVec.toNat_and]; exact Nat.and_one_is_mod _
  have h4 : x.getLsbD 0 = decide (x.toNat % 2 = 1) := by simp [BitVec.getLsbD, Nat.testBit_zero]
  unfold rnd rb
  rw [h1, h2, h3, h4]
  by_cases h : x.toNat % 2 = 1
  · rw [if_pos (by omega), if_pos (by simpa using h)]
    exact xor32 _ polyB
  · rw [if_neg (by omega), if_neg (by simpa using h)]; simp
theorem rndN_b (n : Nat) (x : BitVec 32) : rndN n (x.toNat : Int) = ((rbN n x).toNat : Int) := by
  induction n with
  | zero => rfl
  | succ n ih => rw [rndN, ih, rnd_b]; rfl

theorem half_b (x : BitVec 32) : half (x.toNat : Int) = ((rbN 4 x).toNat : Int) := by
  have h1 : bits .and .u32 (x.toNat : Int) 15 = ((x &&& 15#32).toNat : Int) := and32 x 15#32
  have h15 : (x &&& 15#32).toNat < 16 := by rw [BitVec.toNat_and]; exact Nat.lt_succ_of_le Nat.and_le_right
  have h2 : (tabN 16).getD (x &&& 15#32).toNat 0 = ((rbN 4 (x &&& 15#32)).toNat : Int) := by
    rw [← rndN_b]
    simp only [tabN, List.getD_eq_getElem?_getD, List.getElem?_map, List.getElem?_range h15, Option.map_some, Option.getD_some, rem16]
    rw [if_pos h15]
  have h3 : (x.toNat : Int).fdiv (2 ^ min 4 IntKind.u32.bits) = ((x >>> 4).toNat : Int) := shr32 x 4
  have e1 : x = (x &&& 15#32) ^^^ ((x >>> 4) <<< 4) := by
    apply BitVec.eq_of_getLsbD_eq
    intro i hi
    rw [BitVec.getLsbD_xor, BitVec.getLsbD_and, BitVec.getLsbD_shiftLeft, BitVec.getLsbD_ushiftRight]
    by_cases h : i < 4
    · have h15 : (15#32).getLsbD i = true := by
        rcases i with _ | _ | _ | _ | i <;> first | rfl | omega
      simp [h15, h]
    · have h15 : (15#32).getLsbD i = false := by
        have : (15#32).getLsbD i = (15 : Nat).testBit i := by simp [BitVec.getLsbD]
        rw [this]; apply Nat.testBit_lt_two_pow
        exact Nat.lt_of_lt_of_le (show 15 < 2 ^ 4 by omega) (Nat.pow_le_pow_right (by omega) (by omega))
      rw [h15]; simp [h, hi, show 4 + (i - 4) = i by omega]
  have e2 : rbN 4 x = rbN 4 (x &&& 15#32) ^^^ (x >>> 4) := by
    have hs : rbN 4 ((x >>> 4) <<< 4) = x >>> 4 := shl_low _ _ (fun i hi => by rw [BitVec.getLsbD_ushiftRight]; exact BitVec.getLsbD_of_ge _ _ (by omega)) (by omega)
    conv => lhs; rw [e1]
    rw [rbN_xor, hs]
  unfold half
  rw [h1, h3, Int.toNat_natCast, h2, xor32, e2, BitVec.xor_comm]

theorem byte1_b (x : BitVec 32) (b : UInt8) : byte1 (x.toNat : Int) b = ((cb x b).toNat : Int) := by
  unfold byte1
  rw [b32_nat, xor32, half_b, half_b, ← rbN_add]; rfl
theorem fold_b : ∀ (s : List UInt8) (x : BitVec 32), s.foldl byte1 (x.toNat : Int) = ((s.foldl cb x).toNat : Int)
  | [], _ => rfl
  | b :: s, x => by rw [List.foldl_cons, byte1_b, fold_b s, List.foldl_cons]
theorem sumR_b (s : List UInt8) : sumR s = ((s.foldl cb 4294967295#32).toNat : Int) := fold_b s 4294967295#32
theorem sumX_b (s : List UInt8) : sumX s = ((4294967295#32 ^^^ s.foldl cb 4294967295#32).toNat : Int) := by
  rw [sumX, sumR_b]; exact xor32 4294967295#32 _
theorem sumX_in (s : List UInt8) : 0 ≤ sumX s ∧ sumX s < 4294967296 := by
  rw [sumX_b]
  have := (4294967295#32 ^^^ s.foldl cb 4294967295#32).isLt
  omega
theorem sumX_inj {p a b q : List UInt8} (hl : a.length = b.length) (h4 : a.length ≤ 4) (h : sumX (p ++ a ++ q) = sumX (p ++ b ++ q)) : a = b := by
  rw [sumX_b, sumX_b] at h
  have h1 : (4294967295#32 ^^^ (p ++ a ++ q).foldl cb 4294967295#32) = (4294967295#32 ^^^ (p ++ b ++ q).foldl cb 4294967295#32) := BitVec.eq_of_toNat_eq (by omega)
  have h2 := congrArg (4294967295#32 ^^^ ·) h1
  simp only [← BitVec.xor_assoc, BitVec.xor_self, BitVec.zero_xor] at h2
  exact crc_window hl h4 h2

def rstep (r : Int) (b : UInt8) : Int := rndN 8 (bits .xor .u32 r (IntKind.u32.wrap b.toNat))
theorem rstep_eq (x : BitVec 32) (b : UInt8) : rstep (x.toNat : Int) b = byte1 (x.toNat : Int) b := by
  rw [byte1_b, rstep, b32_nat, xor32, rndN_b]; rfl
theorem sumR_succ2 (s : List UInt8) (i : Nat) (h : i < s.length) : sumR (s.take (i + 1)) = rstep (sumR (s.take i)) (s.getD i 0) := by
  rw [sumR_succ s i h, sumR_b (s.take i), rstep_eq]

set_option maxHeartbeats 1000000 in
theorem rsum_v (s : List UInt8) (hs : s.length ≤ 100000) : VCalls Try.prog 25 [.pv (.str s)] [] (Ret (.int .u32 (sumX s))) := by
  refine vcalls_drop (fn := Try.f25) Try.func25 rfl (by kernel_rfl) (by simp [Try.f25]) ?_
  simp (config := { maxSteps := 2000000 }) (disch := first | omega | assumption | (simp only [List.length_cons, List.length_nil, Nat.zero_add, Nat.reduceAdd]; done) | (simp only [IntKind.wrap_i64]; omega) | (simp only [List.length_replicate, List.length_set, List.length_append, List.length_cons, List.length_nil, List.length_take, List.length_drop, List.length_map] <;> omega) | fail) only [vop_assign, vcallee_assign, strip_pv, optV_none, ev_const, ofConst_int, put_some, at_mk, fits_some, guard_none, ↓vrun_nil, ↓code_region, ↓code_seq, ↓code_block, ↓code_loop, ↓onNormal_normal, enum_nil, enum_cons, evG_eq, ↓vrun_cons, ↓run1_some, ↓run2_none, ↓run3_some, List.toList_toArray, List.length_nil, Nat.reduceLT, Int.reduceLT, Nat.zero_add, true_and, Bool.true_and, Bool.cond_self, dec_t, Try.f25]
  refine vloop (fun i : {i : Nat // i ≤ s.length} => ⟨32, 0, [(4, .int .i64 i.1), (3, .int .u32 (sumR (s.take i.1))), (0, .pv (.str s))], []⟩) (fun i => s.length - i.1) ⟨0, by omega⟩ (by refine ⟨rfl, rfl, by simp, ?_, ?_, .inl rfl⟩ <;> (repeat' apply And.intro) <;> first | rfl | trivial) ?_
  intro i
  obtain ⟨i, hi⟩ := i
  dsimp only
  simp (config := { maxSteps := 2000000 }) (disch := first | omega | assumption | (simp only [List.length_cons, List.length_nil, Nat.zero_add, Nat.reduceAdd]; done) | (simp only [IntKind.wrap_i64]; omega) | (simp only [List.length_replicate, List.length_set, List.length_append, List.length_cons, List.length_nil, List.length_take, List.length_drop, List.length_map] <;> omega) | fail) only [vop_move, vcallee_move, vop_binOp, vcallee_binOp, vop_builtin, vcallee_builtin, strip_pv, optV_none, ev_tmp, put_some, at_mk, fits_some, ↓look_cons, ↓vlook_t, ↓vlook_f, guard_none, ↓vrun_nil, ↓code_region, ↓code_seq, ↓onNormal_normal, bin_int, int_lss, len_str, vls_str, bi_len, evG_eq, ↓vrun_cons, ↓run1_some, ↓run2_none, ↓run3_some, ↓code_cond, ↓vtest_bool, List.map_nil, List.map_cons, List.map_nil, Option.map_some, Nat.reduceLT, Nat.reduceBEq, Int.reduceLT, Int.reduceBEq, true_and, Bool.true_and, Bool.cond_self, beq_self_eq_true, Try.vkind9, dec_t]
  refine vbr_split (fun hc => ?_) (fun hc => ?_) <;> simp only [decide_eq_true_eq, decide_eq_false_iff_not, Bool.or_eq_true, Bool.and_eq_true, Bool.or_eq_false_iff, Bool.and_eq_false_imp, Bool.not_eq_true', Bool.not_eq_false', beq_iff_eq, beq_eq_false_iff_ne, bne_iff_ne, bne_eq_false_iff_eq, ne_eq] at hc
  · have hlt : i < s.length := by omega
    have hg : s[i]? = some (s.getD i 0) := by rw [List.getD_eq_getElem?_getD, List.getElem?_eq_getElem hlt]; rfl
    simp (config := { maxSteps := 2000000 }) (disch := first | omega | assumption | (simp only [List.length_cons, List.length_nil, Nat.zero_add, Nat.reduceAdd]; done) | (simp only [IntKind.wrap_i64]; omega) | (simp only [List.length_replicate, List.length_set, List.length_append, List.length_cons, List.length_nil, List.length_take, List.length_drop, List.length_map] <;> omega) | fail) only [vop_move, vcallee_move, vop_assign, vcallee_assign, vop_binOp, vcallee_binOp, vop_convert, vcallee_convert, vop_index, vcallee_index, conv_pv, strip_pv, optV_none, ev_tmp, ev_const, ofConst_int, put_some, at_mk, fits_some, ↓look_cons, ↓vlook_t, ↓vlook_f, guard_none, ↓vrun_nil, ↓code_skip, ↓code_region, ↓code_seq, ↓code_block, ↓code_loop, ↓onNormal_normal, index_str, vivs_some, bin_int, int_xor, conv_int, vci_int, evG_eq, ↓vrun_cons, ↓run1_some, ↓run2_none, ↓run3_some, Option.map_some, Nat.reduceLT, Nat.reduceBEq, Int.reduceLT, Int.reduceBEq, Int.toNat_natCast, true_and, Bool.true_and, Bool.cond_self, beq_self_eq_true, Try.vkind5, Try.vkind9, Try.vkind34, dec_t, hg]
    refine vloop (fun j : {j : Nat // j ≤ 8} => ⟨32, 0, [(5, .int .i64 j.1), (4, .int .i64 i), (3, .int .u32 (rndN j.1 (bits .xor .u32 (sumR (s.take i)) (IntKind.u32.wrap (s.getD i 0).toNat)))), (0, .pv (.str s))], []⟩) (fun j => 8 - j.1) ⟨0, by omega⟩ (by refine ⟨rfl, rfl, by simp, ?_, ?_, .inl rfl⟩ <;> (repeat' apply And.intro) <;> first | rfl | trivial) ?_
    intro j
    obtain ⟨j, hj⟩ := j
    dsimp only
    simp (config := { maxSteps := 2000000 }) (disch := first | omega | assumption | (simp only [List.length_cons, List.length_nil, Nat.zero_add, Nat.reduceAdd]; done) | (simp only [IntKind.wrap_i64]; omega) | (simp only [List.length_replicate, List.length_set, List.length_append, List.length_cons, List.length_nil, List.length_take, List.length_drop, List.length_map] <;> omega) | fail) only [vop_move, vcallee_move, vop_binOp, vcallee_binOp, strip_pv, optV_none, ev_tmp, ev_const, ofConst_int, put_some, at_mk, fits_some, ↓look_cons, ↓vlook_t, guard_none, ↓vrun_nil, ↓code_region, ↓code_seq, ↓onNormal_normal, bin_int, int_lss, evG_eq, ↓vrun_cons, ↓run1_some, ↓run2_none, ↓run3_some, ↓code_cond, ↓vtest_bool, Option.map_some, Nat.reduceLT, Int.reduceLT, true_and, Bool.true_and, Bool.cond_self, beq_self_eq_true, dec_t]
    refine vbr_split (fun hcj => ?_) (fun hcj => ?_) <;> simp only [decide_eq_true_eq, decide_eq_false_iff_not, Bool.or_eq_true, Bool.and_eq_true, Bool.or_eq_false_iff, Bool.and_eq_false_imp, Bool.not_eq_true', Bool.not_eq_false', beq_iff_eq, beq_eq_false_iff_ne, bne_iff_ne, bne_eq_false_iff_eq, ne_eq] at hcj
    · simp (config := { maxSteps := 2000000 }) (disch := first | omega | assumption | (simp only [List.length_cons, List.length_nil, Nat.zero_add, Nat.reduceAdd]; done) | (simp only [IntKind.wrap_i64]; omega) | (simp only [List.length_replicate, List.length_set, List.length_append, List.length_cons, List.length_nil, List.length_take, List.length_drop, List.length_map] <;> omega) | fail) only [vop_move, vcallee_move, vop_binOp, vcallee_binOp, strip_pv, optV_none, ev_tmp, ev_const, ofConst_int, put_some, at_mk, fits_some, ↓look_cons, ↓vlook_t, ↓vlook_f, guard_none, ↓vrun_nil, ↓code_skip, ↓code_region, ↓code_seq, ↓code_block, ↓onNormal_normal, bin_int, int_and, int_eql, evG_eq, ↓vrun_cons, ↓run1_some, ↓run2_none, ↓run3_some, ↓code_cond, ↓vtest_bool, Option.map_some, Nat.reduceLT, Nat.reduceBEq, Int.reduceLT, Int.reduceBEq, true_and, Bool.true_and, Bool.cond_self, beq_self_eq_true, dec_t]
      refine vbr_split (fun hb => ?_) (fun hb => ?_) <;> simp only [decide_eq_true_eq, decide_eq_false_iff_not, Bool.or_eq_true, Bool.and_eq_true, Bool.or_eq_false_iff, Bool.and_eq_false_imp, Bool.not_eq_true', Bool.not_eq_false', beq_iff_eq, beq_eq_false_iff_ne, bne_iff_ne, bne_eq_false_iff_eq, ne_eq] at hb
      · simp (config := { maxSteps := 2000000 }) (disch := first | omega | assumption | (simp only [List.length_cons, List.length_nil, Nat.zero_add, Nat.reduceAdd]; done) | (simp only [IntKind.wrap_i64]; omega) | (simp only [List.length_replicate, List.length_set, List.length_append, List.length_cons, List.length_nil, List.length_take, List.length_drop, List.length_map] <;> omega) | fail) only [vop_move, vcallee_move, vop_assign, vcallee_assign, vop_binOp, vcallee_binOp, strip_pv, optV_none, ev_tmp, ev_const, ofConst_int, put_some, at_mk, fits_some, ↓look_cons, ↓vlook_t, ↓vlook_f, guard_none, ↓vrun_nil, ↓code_region, ↓onNormal_normal, ↓onBlock_normal, bin_int, int_add, int_xor, int_shr, evG_eq, ↓vrun_cons, ↓run1_some, ↓run2_none, ↓run3_some, Option.map_some, Nat.reduceLT, Nat.reduceBEq, Int.reduceToNat, Int.reduceLT, Int.reduceBEq, true_and, Bool.true_and, Bool.cond_self, beq_self_eq_true, wrap_i64_in, dec_t, int_beq_t]
        refine ⟨⟨j + 1, by omega⟩, by show 8 - (j + 1) < 8 - j; omega, ?_⟩
        have e : rndN (j + 1) (bits .xor .u32 (sumR (s.take i)) (IntKind.u32.wrap (s.getD i 0).toNat)) = bits .xor .u32 ((rndN j (bits .xor .u32 (sumR (s.take i)) (IntKind.u32.wrap (s.getD i 0).toNat))).fdiv 2) 2197175160 := by rw [rndN, rnd, if_pos hb]
        rw [e]
        exact (by refine ⟨rfl, rfl, by simp, ?_, ?_, .inl rfl⟩ <;> (repeat' apply And.intro) <;> first | rfl | trivial)
      · simp (config := { maxSteps := 2000000 }) (disch := first | omega | assumption | (simp only [List.length_cons, List.length_nil, Nat.zero_add, Nat.reduceAdd]; done) | (simp only [IntKind.wrap_i64]; omega) | (simp only [List.length_replicate, List.length_set, List.length_append, List.length_cons, List.length_nil, List.length_take, List.length_drop, List.length_map] <;> omega) | fail) only [vop_move, vcallee_move, vop_assign, vcallee_assign, vop_binOp, vcallee_binOp, strip_pv, optV_none, ev_tmp, ev_const, ofConst_int, put_some, at_mk, fits_some, ↓look_cons, ↓vlook_t, ↓vlook_f, guard_none, ↓vrun_nil, ↓code_region, ↓onNormal_normal, ↓onBlock_normal, bin_int, int_add, int_shr, evG_eq, ↓vrun_cons, ↓run1_some, ↓run2_none, ↓run3_some, Option.map_some, Nat.reduceLT, Nat.reduceBEq, Int.reduceToNat, Int.reduceLT, Int.reduceBEq, true_and, Bool.true_and, Bool.cond_self, beq_self_eq_true, wrap_i64_in, dec_t, int_beq_f]
        refine ⟨⟨j + 1, by omega⟩, by show 8 - (j + 1) < 8 - j; omega, ?_⟩
        have e : rndN (j + 1) (bits .xor .u32 (sumR (s.take i)) (IntKind.u32.wrap (s.getD i 0).toNat)) = (rndN j (bits .xor .u32 (sumR (s.take i)) (IntKind.u32.wrap (s.getD i 0).toNat))).fdiv 2 := by rw [rndN, rnd, if_neg hb]
        rw [e]
        exact (by refine ⟨rfl, rfl, by simp, ?_, ?_, .inl rfl⟩ <;> (repeat' apply And.intro) <;> first | rfl | trivial)
    · have hj8 : j = 8 := by omega
      subst hj8
      simp (config := { maxSteps := 2000000 }) (disch := first | omega | assumption | (simp only [List.length_cons, List.length_nil, Nat.zero_add, Nat.reduceAdd]; done) | (simp only [IntKind.wrap_i64]; omega) | (simp only [List.length_replicate, List.length_set, List.length_append, List.length_cons, List.length_nil, List.length_take, List.length_drop, List.length_map] <;> omega) | fail) only [vop_move, vcallee_move, vop_assign, vcallee_assign, vop_binOp, vcallee_binOp, strip_pv, optV_none, ev_tmp, ev_const, ofConst_int, put_some, at_mk, fits_some, ↓look_cons, ↓vlook_t, ↓vlook_f, guard_none, ↓vrun_nil, ↓code_region, ↓code_exit, ↓onNormal_normal, ↓onNormal_exit, ↓onBlock_normal, ↓onBlock_exit, bin_int, int_add, evG_eq, ↓vrun_cons, ↓run1_some, ↓run2_none, ↓run3_some, Option.map_some, ↓reduceIte, Nat.reduceLT, Nat.reduceBEq, Int.reduceLT, Int.reduceBEq, true_and, Bool.true_and, Bool.cond_self, beq_self_eq_true, wrap_i64_in, dec_t, dec_f]
      refine ⟨⟨i + 1, hlt⟩, by show s.length - (i + 1) < s.length - i; omega, ?_⟩
      have e : sumR (s.take (i + 1)) = rndN 8 (bits .xor .u32 (sumR (s.take i)) (IntKind.u32.wrap (s.getD i 0).toNat)) := sumR_succ2 s i hlt
      rw [e]
      exact (by refine ⟨rfl, rfl, by simp, ?_, ?_, .inl rfl⟩ <;> (repeat' apply And.intro) <;> first | rfl | trivial)
  · simp (config := { maxSteps := 2000000 }) (disch := first | omega | assumption | (simp only [List.length_cons, List.length_nil, Nat.zero_add, Nat.reduceAdd]; done) | (simp only [IntKind.wrap_i64]; omega) | (simp only [List.length_replicate, List.length_set, List.length_append, List.length_cons, List.length_nil, List.length_take, List.length_drop, List.length_map] <;> omega) | fail) only [vop_move, vcallee_move, vop_assign, vcallee_assign, vop_unOp, vcallee_unOp, strip_pv, optV_none, ev_tmp, put_some, at_mk, fits_some, ↓look_cons, ↓vlook_t, ↓vlook_f, guard_none, ↓vrun_nil, ↓code_region, ↓code_seq, ↓code_exit, ↓code_ret, ↓onNormal_normal, ↓onNormal_exit, ↓onBlock_exit, frz_pv, frzHeap_zero, res_one, vres_tmp, un_xor, evG_eq, ↓vrun_cons, ↓run1_some, ↓run2_none, ↓run3_some, ↓vpost_ret, vfin_some, vfin2_some, at_hp, Option.map_some, ↓reduceIte, Nat.reduceLT, Nat.reduceBEq, Int.reduceLT, Int.reduceBEq, true_and, Bool.true_and, Bool.cond_self, beq_self_eq_true, dec_t, dec_f, Ret, DV.nums]
    rw [List.take_of_length_le (by omega)]
    rfl
end Go.Proofs.Ytmdjgpnonhbfdaa

namespace Go.Proofs.Ytmdjgpnonhbfdaa
open Go.V Go
set_option maxRecDepth 100000
set_option pp.deepTerms true
set_option pp.deepTerms.threshold 100000
set_option pp.maxSteps 1000000
set_option pp.proofs false
set_option linter.unusedSimpArgs false

/-- The number that some bytes say, lowest first. -/
def leN (s : List UInt8) (a : Nat) : Nat → Nat
  | 0 => 0
  | i + 1 => leN s a i + (s.getD (a + i) 0).toNat * 2 ^ (8 * i)
theorem leN_lt (s : List UInt8) (a : Nat) : ∀ i, leN s a i < 2 ^ (8 * i)
  | 0 => by simp [leN]
  | i + 1 => by
    have ih := leN_lt s a i
    have hb := (s.getD (a + i) 0).toNat_lt
    rw [leN, Nat.mul_add, Nat.pow_add]
    have : (s.getD (a + i) 0).toNat * 2 ^ (8 * i) ≤ 255 * 2 ^ (8 * i) := Nat.mul_le_mul_right _ (by omega)
    omega
theorem accX_leN (s : List UInt8) (a : Nat) : ∀ i, i ≤ 8 → accX s a i = (leN s a i : Int)
  | 0, _ => rfl
  | i + 1, hi => by
    have ih := accX_leN s a i (by omega)
    have hlt := leN_lt s a i
    have hb := (s.getD (a + i) 0).toNat_lt
    unfold accX
    rw [ih, min_bits i (by omega)]
    have hw : IntKind.u64.wrap ((s.getD (a + i) 0).toNat : Int) = ((s.getD (a + i) 0).toNat : Int) := by rw [wrap64]; unfold u64N; omega
    have hp : (2 : Nat) ^ (8 * i) ≤ 2 ^ 56 := Nat.pow_le_pow_right (by omega) (by omega)
    have hm : (s.getD (a + i) 0).toNat * 2 ^ (8 * i) ≤ 255 * 2 ^ 56 := Nat.mul_le_mul (by omega) hp
    have e2 : ((s.getD (a + i) 0).toNat : Int) * 2 ^ (8 * i) = (((s.getD (a + i) 0).toNat * 2 ^ (8 * i) : Nat) : Int) := by
      rw [Int.natCast_mul, Int.natCast_pow]; rfl
    rw [hw, e2]
    have hw2 : IntKind.u64.wrap (((s.getD (a + i) 0).toNat * 2 ^ (8 * i) : Nat) : Int) = (((s.getD (a + i) 0).toNat * 2 ^ (8 * i) : Nat) : Int) := by
      generalize (s.getD (a + i) 0).toNat * 2 ^ (8 * i) = z at hm
      rw [wrap64]; unfold u64N; omega
    have h64 : leN s a i < 2 ^ 64 := Nat.lt_of_lt_of_le hlt (Nat.pow_le_pow_right (by omega) (by omega))
    rw [hw2, or_val _ _ h64 (by omega), leN]
    congr 1
    rw [Nat.or_comm, Nat.mul_comm _ (2 ^ (8 * i)), ← Nat.two_pow_add_eq_or_of_lt hlt, Nat.add_comm]

/-- The four bytes at a place. -/
def n4 (s : List UInt8) (a : Nat) : Nat := leN s a 4
theorem n4_lt (s : List UInt8) (a : Nat) : n4 s a < 4294967296 := leN_lt s a 4
theorem wrap_n4 (s : List UInt8) (a : Nat) : IntKind.i64.wrap (accX s a 4) = (n4 s a : Int) := by
  rw [accX_leN s a 4 (by omega)]
  have := n4_lt s a
  unfold n4 at this ⊢
  rw [IntKind.wrap_i64]; omega
theorem get4 (s : List UInt8) (hs : s.length ≤ 100000) (a : Nat) (hh : a + 4 ≤ s.length) : VCalls Try.prog 16 [.pv (.str s), .int .i64 a, .int .i64 4] [] (Ret (.tup [.int .i64 (n4 s a), .int .i64 0])) := by
  have h := get_v s hs a 4 (by omega) hh
  rwa [wrap_n4] at h
theorem rget4 (s : List UInt8) (hs : s.length ≤ 100000) (a : Nat) (hh : a + 4 ≤ s.length) : VCalls Try.prog 17 [.pv (.str s), .int .i64 a, .int .i64 4] [] (Ret (.tup [.int .i64 (n4 s a), .int .i64 0])) := by
  have h := rget_v s hs a 4 (by omega) hh
  rwa [wrap_n4] at h

/-- A frame. -/
def frm (s : List UInt8) : List UInt8 := if s.length ≤ 8392 then putL (putL [] s.length 4 ++ s) (sumX (putL [] s.length 4 ++ s)) 4 else []

theorem frame_v (s : List UInt8) (hs : s.length ≤ 90000) : VCalls Try.prog 26 [.pv (.str s)] [] (Ret (.pv (.str (frm s)))) := by
  refine vcalls_drop (fn := Try.f26) Try.func26 rfl (by kernel_rfl) (by simp [Try.f26]) ?_
  by_cases h : s.length ≤ 8392
  · have h1 : ¬ 8392 < (s.length : Int) := by omega
    have hl := putL_len [] s.length 4
    simp only [List.length_nil, Nat.zero_add] at hl
    have hl2 : (putL [] s.length 4 ++ s).length ≤ 10000 := by rw [List.length_append, hl]; omega
    simp (config := { maxSteps := 2000000 }) (disch := first | omega | assumption | (simp only [List.length_cons, List.length_nil, Nat.zero_add, Nat.reduceAdd]; done) | (simp only [IntKind.wrap_i64]; omega) | (simp only [List.length_replicate, List.length_set, List.length_append, List.length_cons, List.length_nil, List.length_take, List.length_drop, List.length_map] <;> omega) | fail) only [vop_move, vcallee_move, vop_assign, vcallee_assign, vop_binOp, vcallee_binOp, vop_builtin, vcallee_builtin, vcallee_value, vcal_fn, strip_pv, strip_fn, optV_none, ev_tmp, ev_const, ev_func, ofConst_int, ofConst_string, put_some, at_mk, fits_some, ↓look_cons, ↓vlook_t, ↓vlook_f, guard_none, ↓vrun_nil, ↓code_skip, ↓code_region, ↓code_seq, ↓onNormal_normal, bin_int, int_gtr, len_str, vls_str, bi_len, enum_nil, enum_cons, evG_eq, ↓vrun_cons, ↓run1_some, ↓run2_none, ↓run2_some, ↓run3_some, ↓vcg_none, ↓code_cond, ↓vtest_bool, ↓vbr_false, List.map_nil, List.toList_toArray, List.length_nil, List.map_cons, List.map_nil, List.nil_append, List.append_nil, Option.map_some, Nat.reduceLT, Nat.reduceBEq, Int.reduceLT, Int.reduceBEq, Nat.zero_add, decide_false, true_and, Bool.true_and, Bool.cond_self, beq_self_eq_true, Try.vkind9, dec_t, Try.f26, h1]
    refine vc_pure (put_v [] (by simp) s.length 4 (by omega) (by omega)) rfl ?_
    simp (config := { maxSteps := 2000000 }) (disch := first | omega | assumption | (simp only [List.length_cons, List.length_nil, Nat.zero_add, Nat.reduceAdd]; done) | (simp only [IntKind.wrap_i64]; omega) | (simp only [List.length_replicate, List.length_set, List.length_append, List.length_cons, List.length_nil, List.length_take, List.length_drop, List.length_map] <;> omega) | fail) only [vop_move, vcallee_move, vop_assign, vcallee_assign, vop_binOp, vcallee_binOp, vcallee_value, vcal_fn, strip_pv, strip_fn, optV_none, ev_tmp, ev_func, put_some, at_mk, fits_some, ↓look_cons, ↓vlook_t, ↓vlook_f, guard_none, ↓vrun_nil, ↓code_region, ↓code_seq, ↓onNormal_normal, bin_str, str_add, evG_eq, ↓vrun_cons, ↓run1_some, ↓run2_none, ↓run2_some, ↓run3_some, ↓runK_eq, ↓vcg_none, List.map_nil, List.map_cons, List.map_nil, List.nil_append, List.append_nil, Option.map_some, Nat.reduceLT, Nat.reduceBEq, Int.reduceLT, Int.reduceBEq, true_and, Bool.true_and, Bool.cond_self, beq_self_eq_true, dec_t]
    refine vc_pure (sum_v _ (by omega)) rfl ?_
    have hx := sumX_in (putL [] s.length 4 ++ s)
    simp (config := { maxSteps := 2000000 }) (disch := first | omega | assumption | (simp only [List.length_cons, List.length_nil, Nat.zero_add, Nat.reduceAdd]; done) | (simp only [IntKind.wrap_i64]; omega) | (simp only [List.length_replicate, List.length_set, List.length_append, List.length_cons, List.length_nil, List.length_take, List.length_drop, List.length_map] <;> omega) | fail) only [vop_convert, vcallee_convert, vcallee_value, vcal_fn, conv_pv, strip_pv, strip_fn, optV_none, ev_tmp, ev_const, ev_func, ofConst_int, put_some, at_mk, fits_some, ↓look_cons, ↓vlook_t, ↓vlook_f, guard_none, conv_int, vci_int, evG_eq, ↓vrun_cons, ↓run1_some, ↓run2_none, ↓run2_some, ↓run3_some, ↓runK_eq, ↓vcg_none, List.map_nil, List.map_cons, List.map_nil, List.nil_append, List.append_nil, Nat.reduceLT, Nat.reduceBEq, Int.reduceLT, Int.reduceBEq, true_and, Bool.true_and, Bool.cond_self, beq_self_eq_true, Try.vkind3, Try.vkind34, wrap_i64_in, dec_t]
    refine vc_pure (put_v (putL [] s.length 4 ++ s) (by omega) _ 4 (by omega) (by omega)) rfl ?_
    simp (config := { maxSteps := 2000000 }) (disch := first | omega | assumption | (simp only [List.length_cons, List.length_nil, Nat.zero_add, Nat.reduceAdd]; done) | (simp only [IntKind.wrap_i64]; omega) | (simp only [List.length_replicate, List.length_set, List.length_append, List.length_cons, List.length_nil, List.length_take, List.length_drop, List.length_map] <;> omega) | fail) only [vop_assign, vcallee_assign, strip_pv, optV_none, ev_tmp, put_some, at_mk, fits_some, ↓look_cons, ↓vlook_t, guard_none, ↓vrun_nil, ↓code_ret, ↓onNormal_normal, frz_pv, frzHeap_zero, res_one, vres_tmp, evG_eq, ↓vrun_cons, ↓run1_some, ↓run2_none, ↓run3_some, ↓runK_eq, ↓vpost_ret, vfin_some, vfin2_some, at_hp, ↓reduceIte, Nat.reduceLT, Int.reduceLT, and_self, Bool.and_self, Bool.cond_self, beq_self_eq_true, dec_t, Ret, DV.nums, frm, h]
  · have h1 : 8392 < (s.length : Int) := by omega
    simp (config := { maxSteps := 2000000 }) (disch := first | omega | assumption | (simp only [List.length_cons, List.length_nil, Nat.zero_add, Nat.reduceAdd]; done) | (simp only [IntKind.wrap_i64]; omega) | (simp only [List.length_replicate, List.length_set, List.length_append, List.length_cons, List.length_nil, List.length_take, List.length_drop, List.length_map] <;> omega) | fail) only [vop_move, vcallee_move, vop_assign, vcallee_assign, vop_binOp, vcallee_binOp, vop_builtin, vcallee_builtin, strip_pv, optV_none, ev_tmp, ev_const, ofConst_int, ofConst_string, put_some, at_mk, fits_some, ↓look_cons, ↓vlook_t, ↓vlook_f, guard_none, ↓vrun_nil, ↓code_region, ↓code_seq, ↓code_ret, ↓onNormal_normal, ↓onNormal_ret, frz_pv, frzHeap_zero, res_one, vres_tmp, bin_int, int_gtr, len_str, vls_str, bi_len, enum_nil, enum_cons, evG_eq, ↓vrun_cons, ↓run1_some, ↓run2_none, ↓run3_some, ↓code_cond, ↓vtest_bool, ↓vbr_true, ↓vpost_ret, vfin_some, vfin2_some, at_hp, List.map_nil, List.toList_toArray, List.length_nil, List.map_cons, List.map_nil, Option.map_some, ↓reduceIte, Nat.reduceLT, Nat.reduceBEq, Int.reduceLT, Int.reduceBEq, Nat.zero_add, and_self, Bool.and_self, Bool.cond_self, beq_self_eq_true, Try.vkind9, dec_t, Ret, DV.nums, Try.f26, h1, frm, h]

theorem rframe_v (s : List UInt8) (hs : s.length ≤ 90000) : VCalls Try.prog 20 [.pv (.str s)] [] (Ret (.pv (.str (frm s)))) := by
  refine vcalls_drop (fn := Try.f20) Try.func20 rfl (by kernel_rfl) (by simp [Try.f20]) ?_
  by_cases h : s.length ≤ 8392
  · have h1 : ¬ 8392 < (s.length : Int) := by omega
    have hl := putL_len [] s.length 4
    simp only [List.length_nil, Nat.zero_add] at hl
    have hl2 : (putL [] s.length 4 ++ s).length ≤ 10000 := by rw [List.length_append, hl]; omega
    simp (config := { maxSteps := 2000000 }) (disch := first | omega | assumption | (simp only [List.length_cons, List.length_nil, Nat.zero_add, Nat.reduceAdd]; done) | (simp only [IntKind.wrap_i64]; omega) | (simp only [List.length_replicate, List.length_set, List.length_append, List.length_cons, List.length_nil, List.length_take, List.length_drop, List.length_map] <;> omega) | fail) only [vop_move, vcallee_move, vop_assign, vcallee_assign, vop_binOp, vcallee_binOp, vop_builtin, vcallee_builtin, vcallee_value, vcal_fn, strip_pv, strip_fn, optV_none, ev_tmp, ev_const, ev_func, ofConst_int, ofConst_string, put_some, at_mk, fits_some, ↓look_cons, ↓vlook_t, ↓vlook_f, guard_none, ↓vrun_nil, ↓code_skip, ↓code_region, ↓code_seq, ↓onNormal_normal, bin_int, int_gtr, len_str, vls_str, bi_len, enum_nil, enum_cons, evG_eq, ↓vrun_cons, ↓run1_some, ↓run2_none, ↓run2_some, ↓run3_some, ↓vcg_none, ↓code_cond, ↓vtest_bool, ↓vbr_false, List.map_nil, List.toList_toArray, List.length_nil, List.map_cons, List.map_nil, List.nil_append, List.append_nil, Option.map_some, Nat.reduceLT, Nat.reduceBEq, Int.reduceLT, Int.reduceBEq, Nat.zero_add, decide_false, true_and, Bool.true_and, Bool.cond_self, beq_self_eq_true, Try.vkind9, dec_t, Try.f20, h1]
    refine vc_pure (rput_v [] (by simp) s.length 4 (by omega) (by omega)) rfl ?_
    simp (config := { maxSteps := 2000000 }) (disch := first | omega | assumption | (simp only [List.length_cons, List.length_nil, Nat.zero_add, Nat.reduceAdd]; done) | (simp only [IntKind.wrap_i64]; omega) | (simp only [List.length_replicate, List.length_set, List.length_append, List.length_cons, List.length_nil, List.length_take, List.length_drop, List.length_map] <;> omega) | fail) only [vop_move, vcallee_move, vop_assign, vcallee_assign, vop_binOp, vcallee_binOp, vcallee_value, vcal_fn, strip_pv, strip_fn, optV_none, ev_tmp, ev_func, put_some, at_mk, fits_some, ↓look_cons, ↓vlook_t, ↓vlook_f, guard_none, ↓vrun_nil, ↓code_region, ↓code_seq, ↓onNormal_normal, bin_str, str_add, evG_eq, ↓vrun_cons, ↓run1_some, ↓run2_none, ↓run2_some, ↓run3_some, ↓runK_eq, ↓vcg_none, List.map_nil, List.map_cons, List.map_nil, List.nil_append, List.append_nil, Option.map_some, Nat.reduceLT, Nat.reduceBEq, Int.reduceLT, Int.reduceBEq, true_and, Bool.true_and, Bool.cond_self, beq_self_eq_true, dec_t]
    refine vc_pure (rsum_v _ (by omega)) rfl ?_
    have hx := sumX_in (putL [] s.length 4 ++ s)
    simp (config := { maxSteps := 2000000 }) (disch := first | omega | assumption | (simp only [List.length_cons, List.length_nil, Nat.zero_add, Nat.reduceAdd]; done) | (simp only [IntKind.wrap_i64]; omega) | (simp only [List.length_replicate, List.length_set, List.length_append, List.length_cons, List.length_nil, List.length_take, List.length_drop, List.length_map] <;> omega) | fail) only [vop_convert, vcallee_convert, vcallee_value, vcal_fn, conv_pv, strip_pv, strip_fn, optV_none, ev_tmp, ev_const, ev_func, ofConst_int, put_some, at_mk, fits_some, ↓look_cons, ↓vlook_t, ↓vlook_f, guard_none, conv_int, vci_int, evG_eq, ↓vrun_cons, ↓run1_some, ↓run2_none, ↓run2_some, ↓run3_some, ↓runK_eq, ↓vcg_none, List.map_nil, List.map_cons, List.map_nil, List.nil_append, List.append_nil, Nat.reduceLT, Nat.reduceBEq, Int.reduceLT, Int.reduceBEq, true_and, Bool.true_and, Bool.cond_self, beq_self_eq_true, Try.vkind3, Try.vkind34, wrap_i64_in, dec_t]
    refine vc_pure (rput_v (putL [] s.length 4 ++ s) (by omega) _ 4 (by omega) (by omega)) rfl ?_
    simp (config := { maxSteps := 2000000 }) (disch := first | omega | assumption | (simp only [List.length_cons, List.length_nil, Nat.zero_add, Nat.reduceAdd]; done) | (simp only [IntKind.wrap_i64]; omega) | (simp only [List.length_replicate, List.length_set, List.length_append, List.length_cons, List.length_nil, List.length_take, List.length_drop, List.length_map] <;> omega) | fail) only [vop_assign, vcallee_assign, strip_pv, optV_none, ev_tmp, put_some, at_mk, fits_some, ↓look_cons, ↓vlook_t, guard_none, ↓vrun_nil, ↓code_ret, ↓onNormal_normal, frz_pv, frzHeap_zero, res_one, vres_tmp, evG_eq, ↓vrun_cons, ↓run1_some, ↓run2_none, ↓run3_some, ↓runK_eq, ↓vpost_ret, vfin_some, vfin2_some, at_hp, ↓reduceIte, Nat.reduceLT, Int.reduceLT, and_self, Bool.and_self, Bool.cond_self, beq_self_eq_true, dec_t, Ret, DV.nums, frm, h]
  · have h1 : 8392 < (s.length : Int) := by omega
    simp (config := { maxSteps := 2000000 }) (disch := first | omega | assumption | (simp only [List.length_cons, List.length_nil, Nat.zero_add, Nat.reduceAdd]; done) | (simp only [IntKind.wrap_i64]; omega) | (simp only [List.length_replicate, List.length_set, List.length_append, List.length_cons, List.length_nil, List.length_take, List.length_drop, List.length_map] <;> omega) | fail) only [vop_move, vcallee_move, vop_assign, vcallee_assign, vop_binOp, vcallee_binOp, vop_builtin, vcallee_builtin, strip_pv, optV_none, ev_tmp, ev_const, ofConst_int, ofConst_string, put_some, at_mk, fits_some, ↓look_cons, ↓vlook_t, ↓vlook_f, guard_none, ↓vrun_nil, ↓code_region, ↓code_seq, ↓code_ret, ↓onNormal_normal, ↓onNormal_ret, frz_pv, frzHeap_zero, res_one, vres_tmp, bin_int, int_gtr, len_str, vls_str, bi_len, enum_nil, enum_cons, evG_eq, ↓vrun_cons, ↓run1_some, ↓run2_none, ↓run3_some, ↓code_cond, ↓vtest_bool, ↓vbr_true, ↓vpost_ret, vfin_some, vfin2_some, at_hp, List.map_nil, List.toList_toArray, List.length_nil, List.map_cons, List.map_nil, Option.map_some, ↓reduceIte, Nat.reduceLT, Nat.reduceBEq, Int.reduceLT, Int.reduceBEq, Nat.zero_add, and_self, Bool.and_self, Bool.cond_self, beq_self_eq_true, Try.vkind9, dec_t, Ret, DV.nums, Try.f20, h1, frm, h]

/-- What a frame says. -/
def unf (s : List UInt8) (a : Int) : List UInt8 × Int × Int :=
  if a < 0 ∨ (s.length : Int) < a then ([], 0, 1)
  else if ¬ a.toNat + 4 ≤ s.length then ([], 0, 5)
  else if 8392 < n4 s a.toNat then ([], 0, 2)
  else if ¬ a.toNat + 4 + n4 s a.toNat + 4 ≤ s.length then ([], 0, 5)
  else if ¬ (n4 s (a.toNat + 4 + n4 s a.toNat) : Int) = sumX ((s.take (a.toNat + 4 + n4 s a.toNat)).drop a.toNat) then ([], 0, 3)
  else ((s.take (a.toNat + 4 + n4 s a.toNat)).drop (a.toNat + 4), (a.toNat + 4 + n4 s a.toNat + 4 : Nat), 0)
def unfD (s : List UInt8) (a : Int) : DV := .tup [.pv (.str (unf s a).1), .int .i64 (unf s a).2.1, .int .i64 (unf s a).2.2]

set_option maxHeartbeats 1000000 in
theorem unframe_v (s : List UInt8) (hs : s.length ≤ 50000) (a : Int) : VCalls Try.prog 23 [.pv (.str s), .int .i64 a] [] (Ret (unfD s a)) := by
  refine vcalls_drop (fn := Try.f23) Try.func23 rfl (by kernel_rfl) (by simp [Try.f23]) ?_
  unfold unfD unf
  by_cases h1 : a < 0
  · rw [if_pos (.inl h1)]
    simp (config := { maxSteps := 2000000 }) (disch := first | omega | assumption | (simp only [List.length_cons, List.length_nil, Nat.zero_add, Nat.reduceAdd]; done) | (simp only [IntKind.wrap_i64]; omega) | (simp only [List.length_replicate, List.length_set, List.length_append, List.length_cons, List.length_nil, List.length_take, List.length_drop, List.length_map] <;> omega) | fail) only [vop_move, vcallee_move, vop_assign, vcallee_assign, vop_pick, vcallee_pick, vop_binOp, vcallee_binOp, vop_builtin, vcallee_builtin, vpick_bool, strip_pv, strip_opt, vstr_true, vstr_false, optV_none, optV_some, pickV_bool, ev_tmp, ev_const, ofConst_int, ofConst_bool, ofConst_string, put_some, at_mk, fits_some, ↓look_cons, ↓vlook_t, ↓vlook_f, guard_none, guard_some, vgof_bool, ↓vrun_nil, ↓code_region, ↓code_seq, ↓code_ret, ↓onNormal_normal, ↓onNormal_ret, frz_tup, frzT_pv, allSome_nil, allSome_cons, frzHeap_zero, res_two, vres_tmp, bin_int, int_lss, int_gtr, len_str, vls_str, bi_len, enum_nil, enum_cons, evG_eq, ↓vrun_cons, ↓run1_some, ↓run2_none, ↓run3_some, ↓code_cond, ↓vtest_bool, ↓vbr_true, ↓vpost_ret, vfin_some, vfin2_some, at_hp, List.map_nil, List.toList_toArray, List.getElem?_cons_zero, List.getElem?_cons_succ, List.length_nil, List.map_cons, List.map_nil, Option.map_some, Option.bind_some, Nat.reduceAdd, Nat.reduceLT, Nat.reduceBEq, Int.reduceLT, Int.reduceAdd, Int.reduceBEq, Nat.zero_add, and_self, or_false, or_self, Bool.not_true, Bool.not_false, Bool.or_false, Bool.or_self, Bool.and_self, b_beq_f, cond_true, Bool.cond_self, beq_self_eq_true, DV.wk.go, Try.vkind9, dec_t, dec_f, Ret, DV.nums, DV.nums.go, Try.f23, h1]
  · by_cases h2 : (s.length : Int) < a
    · rw [if_pos (.inr h2)]
      simp (config := { maxSteps := 2000000 }) (disch := first | omega | assumption | (simp only [List.length_cons, List.length_nil, Nat.zero_add, Nat.reduceAdd]; done) | (simp only [IntKind.wrap_i64]; omega) | (simp only [List.length_replicate, List.length_set, List.length_append, List.length_cons, List.length_nil, List.length_take, List.length_drop, List.length_map] <;> omega) | fail) only [vop_move, vcallee_move, vop_assign, vcallee_assign, vop_pick, vcallee_pick, vop_binOp, vcallee_binOp, vop_builtin, vcallee_builtin, vpick_bool, strip_pv, strip_opt, vstr_true, optV_none, optV_some, pickV_bool, ev_tmp, ev_const, ofConst_int, ofConst_bool, ofConst_string, put_some, at_mk, fits_some, ↓look_cons, ↓vlook_t, ↓vlook_f, guard_none, guard_some, vgof_bool, ↓vrun_nil, ↓code_region, ↓code_seq, ↓code_ret, ↓onNormal_normal, ↓onNormal_ret, frz_tup, frzT_pv, allSome_nil, allSome_cons, frzHeap_zero, res_two, vres_tmp, bin_int, int_lss, int_gtr, len_str, vls_str, bi_len, enum_nil, enum_cons, evG_eq, ↓vrun_cons, ↓run1_some, ↓run2_none, ↓run3_some, ↓code_cond, ↓vtest_bool, ↓vbr_true, ↓vpost_ret, vfin_some, vfin2_some, at_hp, List.map_nil, List.toList_toArray, List.getElem?_cons_zero, List.getElem?_cons_succ, List.length_nil, List.map_cons, List.map_nil, Option.map_some, Option.bind_some, Nat.reduceAdd, Nat.reduceLT, Nat.reduceBEq, Int.reduceLT, Int.reduceAdd, Int.reduceBEq, Nat.zero_add, decide_false, and_self, or_true, Bool.not_true, Bool.not_false, Bool.or_true, Bool.and_self, Bool.cond_self, beq_self_eq_true, DV.wk.go, Try.vkind9, dec_t, Ret, DV.nums, DV.nums.go, Try.f23, h1, h2]
    · rw [if_neg (by omega)]
      obtain ⟨k, rfl⟩ : ∃ k : Nat, a = k := ⟨a.toNat, by omega⟩
      rw [Int.toNat_natCast]
      by_cases h3 : k + 4 ≤ s.length
      · rw [if_neg (by omega)]
        have hn := n4_lt s k
        simp (config := { maxSteps := 2000000 }) (disch := first | omega | assumption | (simp only [List.length_cons, List.length_nil, Nat.zero_add, Nat.reduceAdd]; done) | (simp only [IntKind.wrap_i64]; omega) | (simp only [List.length_replicate, List.length_set, List.length_append, List.length_cons, List.length_nil, List.length_take, List.length_drop, List.length_map] <;> omega) | fail) only [vop_move, vcallee_move, vop_assign, vcallee_assign, vop_pick, vcallee_pick, vop_binOp, vcallee_binOp, vop_builtin, vcallee_builtin, vcallee_value, vcal_fn, vpick_bool, strip_pv, strip_fn, strip_opt, vstr_true, optV_none, optV_some, pickV_bool, ev_tmp, ev_const, ev_func, ofConst_int, ofConst_bool, ofConst_string, put_some, at_mk, fits_some, ↓look_cons, ↓vlook_t, ↓vlook_f, guard_none, guard_some, vgof_bool, ↓vrun_nil, ↓code_skip, ↓code_region, ↓code_seq, ↓onNormal_normal, bin_int, int_lss, int_gtr, len_str, vls_str, bi_len, enum_nil, enum_cons, evG_eq, ↓vrun_cons, ↓run1_some, ↓run2_none, ↓run2_some, ↓run3_some, ↓vcg_none, ↓code_cond, ↓vtest_bool, ↓vbr_false, List.map_nil, List.toList_toArray, List.getElem?_cons_zero, List.getElem?_cons_succ, List.length_nil, List.map_cons, List.map_nil, List.nil_append, List.append_nil, Option.map_some, Option.bind_some, Nat.reduceAdd, Nat.reduceLT, Nat.reduceBEq, Int.reduceLT, Int.reduceAdd, Int.reduceBEq, Nat.zero_add, decide_false, true_and, or_true, Bool.not_true, Bool.not_false, Bool.or_true, Bool.true_and, cond_false, Bool.cond_self, beq_self_eq_true, Try.vkind9, dec_t, Try.f23, h1, h2]
        refine vc_pure (get4 s (by omega) k h3) rfl ?_
        by_cases h4 : 8392 < n4 s k
        · rw [if_pos h4]
          have h4' : 8392 < (n4 s k : Int) := by omega
          simp (config := { maxSteps := 2000000 }) (disch := first | omega | assumption | (simp only [List.length_cons, List.length_nil, Nat.zero_add, Nat.reduceAdd]; done) | (simp only [IntKind.wrap_i64]; omega) | (simp only [List.length_replicate, List.length_set, List.length_append, List.length_cons, List.length_nil, List.length_take, List.length_drop, List.length_map] <;> omega) | fail) only [vop_move, vcallee_move, vop_assign, vcallee_assign, vop_binOp, vcallee_binOp, vop_extract, vcallee_extract, strip_pv, strip_tup, optV_none, ev_tmp, ev_const, ofConst_int, ofConst_string, put_some, at_mk, fits_some, ↓look_cons, ↓vlook_t, ↓vlook_f, guard_none, ↓vrun_nil, ↓code_region, ↓code_seq, ↓code_block, ↓code_ret, ↓onNormal_normal, ↓onNormal_ret, ↓onBlock_ret, frz_tup, frzT_pv, allSome_nil, allSome_cons, frzHeap_zero, res_two, vres_tmp, bin_int, int_neq, int_gtr, ext_tup, evG_eq, ↓vrun_cons, ↓run1_some, ↓run2_none, ↓run3_some, ↓runK_eq, ↓code_cond, ↓vtest_bool, ↓vbr_true, ↓vbr_false, ↓vpost_ret, vfin_some, vfin2_some, at_hp, List.map_nil, List.getElem?_cons_zero, List.getElem?_cons_succ, List.map_cons, List.map_nil, Option.map_some, Nat.reduceLT, Nat.reduceBEq, Int.reduceLT, Int.reduceBEq, and_self, Bool.and_self, Bool.cond_self, beq_self_eq_true, DV.wk.go, dec_t, int_bne_f, Ret, DV.nums, DV.nums.go, h4']
        · rw [if_neg h4]
          have h4' : ¬ 8392 < (n4 s k : Int) := by omega
          simp (config := { maxSteps := 2000000 }) (disch := first | omega | assumption | (simp only [List.length_cons, List.length_nil, Nat.zero_add, Nat.reduceAdd]; done) | (simp only [IntKind.wrap_i64]; omega) | (simp only [List.length_replicate, List.length_set, List.length_append, List.length_cons, List.length_nil, List.length_take, List.length_drop, List.length_map] <;> omega) | fail) only [vop_move, vcallee_move, vop_assign, vcallee_assign, vop_binOp, vcallee_binOp, vop_extract, vcallee_extract, vcallee_value, vcal_fn, strip_pv, strip_tup, strip_fn, optV_none, ev_tmp, ev_const, ev_func, ofConst_int, put_some, at_mk, fits_some, ↓look_cons, ↓vlook_t, ↓vlook_f, guard_none, ↓vrun_nil, ↓code_skip, ↓code_region, ↓code_seq, ↓code_block, ↓onNormal_normal, ↓onBlock_normal, bin_int, int_add, int_neq, int_gtr, ext_tup, evG_eq, ↓vrun_cons, ↓run1_some, ↓run2_none, ↓run2_some, ↓run3_some, ↓runK_eq, ↓vcg_none, ↓code_cond, ↓vtest_bool, ↓vbr_false, List.map_nil, List.getElem?_cons_zero, List.getElem?_cons_succ, List.map_cons, List.map_nil, List.nil_append, List.append_nil, Option.map_some, Nat.reduceLT, Nat.reduceBEq, Int.reduceLT, Int.reduceBEq, decide_false, true_and, Bool.true_and, Bool.cond_self, beq_self_eq_true, wrap_i64_in, dec_t, int_bne_f, h4']
          by_cases h5 : k + 4 + n4 s k + 4 ≤ s.length
          · rw [if_neg (by omega)]
            have hg := get4 s (by omega) (k + 4 + n4 s k) h5
            have e : (((k + 4 + n4 s k : Nat)) : Int) = (k : Int) + 4 + (n4 s k : Int) := by omega
            rw [e] at hg
            refine vc_pure hg rfl ?_
            have ht : ((k : Int) + 4 + (n4 s k : Int)).toNat = k + 4 + n4 s k := by omega
            have q1 : (0 : Int) ≤ (k : Int) + 4 + (n4 s k : Int) := by omega
            have q2 : k ≤ k + 4 + n4 s k := by omega
            have q3 : k + 4 + n4 s k ≤ s.length := by omega
            have hx := sumX_in ((s.take (k + 4 + n4 s k)).drop k)
            simp (config := { maxSteps := 2000000 }) (disch := first | omega | assumption | (simp only [List.length_cons, List.length_nil, Nat.zero_add, Nat.reduceAdd]; done) | (simp only [IntKind.wrap_i64]; omega) | (simp only [List.length_replicate, List.length_set, List.length_append, List.length_cons, List.length_nil, List.length_take, List.length_drop, List.length_map] <;> omega) | fail) only [vop_move, vcallee_move, vop_assign, vcallee_assign, vop_binOp, vcallee_binOp, vop_slice, vcallee_slice, vop_extract, vcallee_extract, vcallee_value, vcal_fn, strip_pv, strip_tup, strip_fn, optV_none, ev_tmp, ev_const, ev_func, ofConst_int, put_some, at_mk, fits_some, ↓look_cons, ↓vlook_t, ↓vlook_f, guard_none, ↓vrun_nil, ↓code_region, ↓code_seq, ↓code_block, ↓onNormal_normal, bin_int, int_neq, ext_tup, evG_eq, ↓vrun_cons, ↓run1_some, ↓run2_none, ↓run2_some, ↓run3_some, ↓runK_eq, ↓vcg_none, ↓code_cond, ↓vtest_bool, ↓vbr_false, slice_pv, slice_str_lohi, vsls_some, List.map_nil, List.getElem?_cons_zero, List.getElem?_cons_succ, List.map_cons, List.map_nil, List.nil_append, List.append_nil, Option.map_some, Option.map_none, Nat.reduceLT, Nat.reduceBEq, Int.reduceLT, Int.reduceBEq, Int.toNat_natCast, true_and, Bool.true_and, Bool.cond_self, beq_self_eq_true, Try.vkind9, dec_t, int_bne_f, ht]
            refine vc_pure (sum_v _ (by rw [List.length_drop, List.length_take]; omega)) rfl ?_
            by_cases h6 : (n4 s (k + 4 + n4 s k) : Int) = sumX ((s.take (k + 4 + n4 s k)).drop k)
            · rw [if_neg (by omega)]
              have q4 : ((k : Int) + 4).toNat = k + 4 := by omega
              have q5 : k + 4 ≤ k + 4 + n4 s k := by omega
              have q6 : (0 : Int) ≤ (k : Int) + 4 := by omega
              have e8 : (((k + 4 + n4 s k + 4 : Nat)) : Int) = (k : Int) + 4 + (n4 s k : Int) + 4 := by omega
              simp (config := { maxSteps := 2000000 }) (disch := first | omega | assumption | (simp only [List.length_cons, List.length_nil, Nat.zero_add, Nat.reduceAdd]; done) | (simp only [IntKind.wrap_i64]; omega) | (simp only [List.length_replicate, List.length_set, List.length_append, List.length_cons, List.length_nil, List.length_take, List.length_drop, List.length_map] <;> omega) | fail) only [vop_move, vcallee_move, vop_assign, vcallee_assign, vop_binOp, vcallee_binOp, vop_convert, vcallee_convert, vop_slice, vcallee_slice, conv_pv, strip_pv, optV_none, ev_tmp, ev_const, ofConst_int, put_some, at_mk, fits_some, ↓look_cons, ↓vlook_t, ↓vlook_f, guard_none, ↓vrun_nil, ↓code_skip, ↓code_region, ↓code_seq, ↓code_ret, ↓onNormal_normal, ↓onBlock_normal, frz_tup, frzT_pv, allSome_nil, allSome_cons, frzHeap_zero, res_two, vres_tmp, bin_int, int_add, int_neq, conv_int, vci_int, evG_eq, ↓vrun_cons, ↓run1_some, ↓run2_none, ↓run3_some, ↓runK_eq, ↓code_cond, ↓vtest_bool, ↓vbr_false, ↓vpost_ret, vfin_some, vfin2_some, at_hp, slice_pv, slice_str_lohi, vsls_some, List.map_nil, List.map_cons, List.map_nil, Option.map_some, Option.map_none, Nat.reduceLT, Nat.reduceBEq, Int.reduceLT, Int.reduceBEq, true_and, and_self, Bool.true_and, Bool.and_self, Bool.cond_self, beq_self_eq_true, DV.wk.go, Try.vkind3, Try.vkind9, Try.vkind34, wrap_i64_in, dec_t, int_bne_f, Ret, DV.nums, DV.nums.go, h6, ht, q4]
              rw [e8]
            · rw [if_pos h6]
              simp (config := { maxSteps := 2000000 }) (disch := first | omega | assumption | (simp only [List.length_cons, List.length_nil, Nat.zero_add, Nat.reduceAdd]; done) | (simp only [IntKind.wrap_i64]; omega) | (simp only [List.length_replicate, List.length_set, List.length_append, List.length_cons, List.length_nil, List.length_take, List.length_drop, List.length_map] <;> omega) | fail) only [vop_assign, vcallee_assign, vop_binOp, vcallee_binOp, vop_convert, vcallee_convert, conv_pv, strip_pv, optV_none, ev_tmp, ev_const, ofConst_int, ofConst_string, put_some, at_mk, fits_some, ↓look_cons, ↓vlook_t, ↓vlook_f, guard_none, ↓vrun_nil, ↓code_region, ↓code_seq, ↓code_ret, ↓onNormal_normal, ↓onNormal_ret, ↓onBlock_ret, frz_tup, frzT_pv, allSome_nil, allSome_cons, frzHeap_zero, res_two, vres_tmp, bin_int, int_neq, conv_int, vci_int, evG_eq, ↓vrun_cons, ↓run1_some, ↓run2_none, ↓run3_some, ↓runK_eq, ↓code_cond, ↓vtest_bool, ↓vbr_true, ↓vpost_ret, vfin_some, vfin2_some, at_hp, List.map_nil, List.map_cons, List.map_nil, Option.map_some, Nat.reduceLT, Nat.reduceBEq, Int.reduceLT, Int.reduceBEq, and_self, Bool.and_self, Bool.cond_self, beq_self_eq_true, DV.wk.go, Try.vkind3, Try.vkind34, wrap_i64_in, dec_t, int_bne_t, Ret, DV.nums, DV.nums.go]
          · rw [if_pos (by omega)]
            have hg := get_short s ((k : Int) + 4 + (n4 s k : Int)) 4 (by omega) (by omega) (by omega)
            refine vc_pure hg rfl ?_
            simp (config := { maxSteps := 2000000 }) (disch := first | omega | assumption | (simp only [List.length_cons, List.length_nil, Nat.zero_add, Nat.reduceAdd]; done) | (simp only [IntKind.wrap_i64]; omega) | (simp only [List.length_replicate, List.length_set, List.length_append, List.length_cons, List.length_nil, List.length_take, List.length_drop, List.length_map] <;> omega) | fail) only [vop_move, vcallee_move, vop_assign, vcallee_assign, vop_binOp, vcallee_binOp, vop_extract, vcallee_extract, strip_pv, strip_tup, optV_none, ev_tmp, ev_const, ofConst_int, ofConst_string, put_some, at_mk, fits_some, ↓look_cons, ↓vlook_t, ↓vlook_f, guard_none, ↓vrun_nil, ↓code_region, ↓code_seq, ↓code_block, ↓code_ret, ↓onNormal_normal, ↓onNormal_ret, ↓onBlock_ret, frz_tup, frzT_pv, allSome_nil, allSome_cons, frzHeap_zero, res_two, vres_tmp, bin_int, int_neq, ext_tup, evG_eq, ↓vrun_cons, ↓run1_some, ↓run2_none, ↓run3_some, ↓runK_eq, ↓code_cond, ↓vtest_bool, ↓vbr_true, ↓vpost_ret, vfin_some, vfin2_some, at_hp, List.map_nil, List.getElem?_cons_zero, List.getElem?_cons_succ, List.map_cons, List.map_nil, Option.map_some, Nat.reduceLT, Nat.reduceBEq, Int.reduceLT, Int.reduceBEq, and_self, Bool.and_self, Bool.cond_self, beq_self_eq_true, DV.wk.go, dec_t, int_bne_t, Ret, DV.nums, DV.nums.go]
      · rw [if_pos h3]
        simp (config := { maxSteps := 2000000 }) (disch := first | omega | assumption | (simp only [List.length_cons, List.length_nil, Nat.zero_add, Nat.reduceAdd]; done) | (simp only [IntKind.wrap_i64]; omega) | (simp only [List.length_replicate, List.length_set, List.length_append, List.length_cons, List.length_nil, List.length_take, List.length_drop, List.length_map] <;> omega) | fail) only [vop_move, vcallee_move, vop_assign, vcallee_assign, vop_pick, vcallee_pick, vop_binOp, vcallee_binOp, vop_builtin, vcallee_builtin, vcallee_value, vcal_fn, vpick_bool, strip_pv, strip_fn, strip_opt, vstr_true, optV_none, optV_some, pickV_bool, ev_tmp, ev_const, ev_func, ofConst_int, ofConst_bool, ofConst_string, put_some, at_mk, fits_some, ↓look_cons, ↓vlook_t, ↓vlook_f, guard_none, guard_some, vgof_bool, ↓vrun_nil, ↓code_skip, ↓code_region, ↓code_seq, ↓onNormal_normal, bin_int, int_lss, int_gtr, len_str, vls_str, bi_len, enum_nil, enum_cons, evG_eq, ↓vrun_cons, ↓run1_some, ↓run2_none, ↓run2_some, ↓run3_some, ↓vcg_none, ↓code_cond, ↓vtest_bool, ↓vbr_false, List.map_nil, List.toList_toArray, List.getElem?_cons_zero, List.getElem?_cons_succ, List.length_nil, List.map_cons, List.map_nil, List.nil_append, List.append_nil, Option.map_some, Option.bind_some, Nat.reduceAdd, Nat.reduceLT, Nat.reduceBEq, Int.reduceLT, Int.reduceAdd, Int.reduceBEq, Nat.zero_add, decide_false, true_and, or_true, Bool.not_true, Bool.not_false, Bool.or_true, Bool.true_and, cond_false, Bool.cond_self, beq_self_eq_true, Try.vkind9, dec_t, Try.f23, h1, h2]
        refine vc_pure (get_short s k 4 (by omega) (by omega) (by omega)) rfl ?_
        simp (config := { maxSteps := 2000000 }) (disch := first | omega | assumption | (simp only [List.length_cons, List.length_nil, Nat.zero_add, Nat.reduceAdd]; done) | (simp only [IntKind.wrap_i64]; omega) | (simp only [List.length_replicate, List.length_set, List.length_append, List.length_cons, List.length_nil, List.length_take, List.length_drop, List.length_map] <;> omega) | fail) only [vop_move, vcallee_move, vop_assign, vcallee_assign, vop_binOp, vcallee_binOp, vop_extract, vcallee_extract, strip_pv, strip_tup, optV_none, ev_tmp, ev_const, ofConst_int, ofConst_string, put_some, at_mk, fits_some, ↓look_cons, ↓vlook_t, ↓vlook_f, guard_none, ↓vrun_nil, ↓code_region, ↓code_seq, ↓code_block, ↓code_ret, ↓onNormal_normal, ↓onNormal_ret, ↓onBlock_ret, frz_tup, frzT_pv, allSome_nil, allSome_cons, frzHeap_zero, res_two, vres_tmp, bin_int, int_neq, ext_tup, evG_eq, ↓vrun_cons, ↓run1_some, ↓run2_none, ↓run3_some, ↓runK_eq, ↓code_cond, ↓vtest_bool, ↓vbr_true, ↓vpost_ret, vfin_some, vfin2_some, at_hp, List.map_nil, List.getElem?_cons_zero, List.getElem?_cons_succ, List.map_cons, List.map_nil, Option.map_some, Nat.reduceLT, Nat.reduceBEq, Int.reduceLT, Int.reduceBEq, and_self, Bool.and_self, Bool.cond_self, beq_self_eq_true, DV.wk.go, dec_t, int_bne_t, Ret, DV.nums, DV.nums.go]
set_option maxHeartbeats 1000000 in
theorem runframe_v (s : List UInt8) (hs : s.length ≤ 50000) (a : Int) : VCalls Try.prog 24 [.pv (.str s), .int .i64 a] [] (Ret (unfD s a)) := by
  refine vcalls_drop (fn := Try.f24) Try.func24 rfl (by kernel_rfl) (by simp [Try.f24]) ?_
  unfold unfD unf
  by_cases h1 : a < 0
  · rw [if_pos (.inl h1)]
    simp (config := { maxSteps := 2000000 }) (disch := first | omega | assumption | (simp only [List.length_cons, List.length_nil, Nat.zero_add, Nat.reduceAdd]; done) | (simp only [IntKind.wrap_i64]; omega) | (simp only [List.length_replicate, List.length_set, List.length_append, List.length_cons, List.length_nil, List.length_take, List.length_drop, List.length_map] <;> omega) | fail) only [vop_move, vcallee_move, vop_assign, vcallee_assign, vop_pick, vcallee_pick, vop_binOp, vcallee_binOp, vop_builtin, vcallee_builtin, vpick_bool, strip_pv, strip_opt, vstr_true, vstr_false, optV_none, optV_some, pickV_bool, ev_tmp, ev_const, ofConst_int, ofConst_bool, ofConst_string, put_some, at_mk, fits_some, ↓look_cons, ↓vlook_t, ↓vlook_f, guard_none, guard_some, vgof_bool, ↓vrun_nil, ↓code_region, ↓code_seq, ↓code_ret, ↓onNormal_normal, ↓onNormal_ret, frz_tup, frzT_pv, allSome_nil, allSome_cons, frzHeap_zero, res_two, vres_tmp, bin_int, int_lss, int_gtr, len_str, vls_str, bi_len, enum_nil, enum_cons, evG_eq, ↓vrun_cons, ↓run1_some, ↓run2_none, ↓run3_some, ↓code_cond, ↓vtest_bool, ↓vbr_true, ↓vpost_ret, vfin_some, vfin2_some, at_hp, List.map_nil, List.toList_toArray, List.getElem?_cons_zero, List.getElem?_cons_succ, List.length_nil, List.map_cons, List.map_nil, Option.map_some, Option.bind_some, Nat.reduceAdd, Nat.reduceLT, Nat.reduceBEq, Int.reduceLT, Int.reduceAdd, Int.reduceBEq, Nat.zero_add, and_self, or_false, or_self, Bool.not_true, Bool.not_false, Bool.or_false, Bool.or_self, Bool.and_self, b_beq_f, cond_true, Bool.cond_self, beq_self_eq_true, DV.wk.go, Try.vkind9, dec_t, dec_f, Ret, DV.nums, DV.nums.go, Try.f24, h1]
  · by_cases h2 : (s.length : Int) < a
    · rw [if_pos (.inr h2)]
      simp (config := { maxSteps := 2000000 }) (disch := first | omega | assumption | (simp only [List.length_cons, List.length_nil, Nat.zero_add, Nat.reduceAdd]; done) | (simp only [IntKind.wrap_i64]; omega) | (simp only [List.length_replicate, List.length_set, List.length_append, List.length_cons, List.length_nil, List.length_take, List.length_drop, List.length_map] <;> omega) | fail) only [vop_move, vcallee_move, vop_assign, vcallee_assign, vop_pick, vcallee_pick, vop_binOp, vcallee_binOp, vop_builtin, vcallee_builtin, vpick_bool, strip_pv, strip_opt, vstr_true, optV_none, optV_some, pickV_bool, ev_tmp, ev_const, ofConst_int, ofConst_bool, ofConst_string, put_some, at_mk, fits_some, ↓look_cons, ↓vlook_t, ↓vlook_f, guard_none, guard_some, vgof_bool, ↓vrun_nil, ↓code_region, ↓code_seq, ↓code_ret, ↓onNormal_normal, ↓onNormal_ret, frz_tup, frzT_pv, allSome_nil, allSome_cons, frzHeap_zero, res_two, vres_tmp, bin_int, int_lss, int_gtr, len_str, vls_str, bi_len, enum_nil, enum_cons, evG_eq, ↓vrun_cons, ↓run1_some, ↓run2_none, ↓run3_some, ↓code_cond, ↓vtest_bool, ↓vbr_true, ↓vpost_ret, vfin_some, vfin2_some, at_hp, List.map_nil, List.toList_toArray, List.getElem?_cons_zero, List.getElem?_cons_succ, List.length_nil, List.map_cons, List.map_nil, Option.map_some, Option.bind_some, Nat.reduceAdd, Nat.reduceLT, Nat.reduceBEq, Int.reduceLT, Int.reduceAdd, Int.reduceBEq, Nat.zero_add, decide_false, and_self, or_true, Bool.not_true, Bool.not_false, Bool.or_true, Bool.and_self, Bool.cond_self, beq_self_eq_true, DV.wk.go, Try.vkind9, dec_t, Ret, DV.nums, DV.nums.go, Try.f24, h1, h2]
    · rw [if_neg (by omega)]
      obtain ⟨k, rfl⟩ : ∃ k : Nat, a = k := ⟨a.toNat, by omega⟩
      rw [Int.toNat_natCast]
      by_cases h3 : k + 4 ≤ s.length
      · rw [if_neg (by omega)]
        have hn := n4_lt s k
        simp (config := { maxSteps := 2000000 }) (disch := first | omega | assumption | (simp only [List.length_cons, List.length_nil, Nat.zero_add, Nat.reduceAdd]; done) | (simp only [IntKind.wrap_i64]; omega) | (simp only [List.length_replicate, List.length_set, List.length_append, List.length_cons, List.length_nil, List.length_take, List.length_drop, List.length_map] <;> omega) | fail) only [vop_move, vcallee_move, vop_assign, vcallee_assign, vop_pick, vcallee_pick, vop_binOp, vcallee_binOp, vop_builtin, vcallee_builtin, vcallee_value, vcal_fn, vpick_bool, strip_pv, strip_fn, strip_opt, vstr_true, optV_none, optV_some, pickV_bool, ev_tmp, ev_const, ev_func, ofConst_int, ofConst_bool, ofConst_string, put_some, at_mk, fits_some, ↓look_cons, ↓vlook_t, ↓vlook_f, guard_none, guard_some, vgof_bool, ↓vrun_nil, ↓code_skip, ↓code_region, ↓code_seq, ↓onNormal_normal, bin_int, int_lss, int_gtr, len_str, vls_str, bi_len, enum_nil, enum_cons, evG_eq, ↓vrun_cons, ↓run1_some, ↓run2_none, ↓run2_some, ↓run3_some, ↓vcg_none, ↓code_cond, ↓vtest_bool, ↓vbr_false, List.map_nil, List.toList_toArray, List.getElem?_cons_zero, List.getElem?_cons_succ, List.length_nil, List.map_cons, List.map_nil, List.nil_append, List.append_nil, Option.map_some, Option.bind_some, Nat.reduceAdd, Nat.reduceLT, Nat.reduceBEq, Int.reduceLT, Int.reduceAdd, Int.reduceBEq, Nat.zero_add, decide_false, true_and, or_true, Bool.not_true, Bool.not_false, Bool.or_true, Bool.true_and, cond_false, Bool.cond_self, beq_self_eq_true, Try.vkind9, dec_t, Try.f24, h1, h2]
        refine vc_pure (rget4 s (by omega) k h3) rfl ?_
        by_cases h4 : 8392 < n4 s k
        · rw [if_pos h4]
          have h4' : 8392 < (n4 s k : Int) := by omega
          simp (config := { maxSteps := 2000000 }) (disch := first | omega | assumption | (simp only [List.length_cons, List.length_nil, Nat.zero_add, Nat.reduceAdd]; done) | (simp only [IntKind.wrap_i64]; omega) | (simp only [List.length_replicate, List.length_set, List.length_append, List.length_cons, List.length_nil, List.length_take, List.length_drop, List.length_map] <;> omega) | fail) only [vop_move, vcallee_move, vop_assign, vcallee_assign, vop_binOp, vcallee_binOp, vop_extract, vcallee_extract, strip_pv, strip_tup, optV_none, ev_tmp, ev_const, ofConst_int, ofConst_string, put_some, at_mk, fits_some, ↓look_cons, ↓vlook_t, ↓vlook_f, guard_none, ↓vrun_nil, ↓code_region, ↓code_seq, ↓code_block, ↓code_ret, ↓onNormal_normal, ↓onNormal_ret, ↓onBlock_ret, frz_tup, frzT_pv, allSome_nil, allSome_cons, frzHeap_zero, res_two, vres_tmp, bin_int, int_neq, int_gtr, ext_tup, evG_eq, ↓vrun_cons, ↓run1_some, ↓run2_none, ↓run3_some, ↓runK_eq, ↓code_cond, ↓vtest_bool, ↓vbr_true, ↓vbr_false, ↓vpost_ret, vfin_some, vfin2_some, at_hp, List.map_nil, List.getElem?_cons_zero, List.getElem?_cons_succ, List.map_cons, List.map_nil, Option.map_some, Nat.reduceLT, Nat.reduceBEq, Int.reduceLT, Int.reduceBEq, and_self, Bool.and_self, Bool.cond_self, beq_self_eq_true, DV.wk.go, dec_t, int_bne_f, Ret, DV.nums, DV.nums.go, h4']
        · rw [if_neg h4]
          have h4' : ¬ 8392 < (n4 s k : Int) := by omega
          have hw : IntKind.u32.wrap (n4 s (k + 4 + n4 s k) : Int) = (n4 s (k + 4 + n4 s k) : Int) := by
            have := n4_lt s (k + 4 + n4 s k)
            simp [IntKind.wrap, IntKind.signed, IntKind.bits]; omega
          by_cases h5 : k + 4 + n4 s k + 4 ≤ s.length
          · rw [if_neg (by omega)]
            have hg := rget4 s (by omega) (k + 4 + n4 s k) h5
            have e : (((k + 4 + n4 s k : Nat)) : Int) = (k : Int) + 4 + (n4 s k : Int) := by omega
            rw [e] at hg
            have h5' : ¬ (s.length : Int) - (k : Int) < (n4 s k : Int) + 8 := by omega
            simp (config := { maxSteps := 2000000 }) (disch := first | omega | assumption | (simp only [List.length_cons, List.length_nil, Nat.zero_add, Nat.reduceAdd]; done) | (simp only [IntKind.wrap_i64]; omega) | (simp only [List.length_replicate, List.length_set, List.length_append, List.length_cons, List.length_nil, List.length_take, List.length_drop, List.length_map] <;> omega) | fail) only [vop_move, vcallee_move, vop_assign, vcallee_assign, vop_binOp, vcallee_binOp, vop_extract, vcallee_extract, vop_builtin, vcallee_builtin, vcallee_value, vcal_fn, strip_pv, strip_tup, strip_fn, optV_none, ev_tmp, ev_const, ev_func, ofConst_int, put_some, at_mk, fits_some, ↓look_cons, ↓vlook_t, ↓vlook_f, guard_none, ↓vrun_nil, ↓code_skip, ↓code_region, ↓code_seq, ↓code_block, ↓onNormal_normal, ↓onBlock_normal, bin_int, int_add, int_sub, int_neq, int_lss, int_gtr, ext_tup, len_str, vls_str, bi_len, evG_eq, ↓vrun_cons, ↓run1_some, ↓run2_none, ↓run2_some, ↓run3_some, ↓runK_eq, ↓vcg_none, ↓code_cond, ↓vtest_bool, ↓vbr_false, List.map_nil, List.getElem?_cons_zero, List.getElem?_cons_succ, List.map_cons, List.map_nil, List.nil_append, List.append_nil, Option.map_some, Nat.reduceLT, Nat.reduceBEq, Int.reduceLT, Int.reduceBEq, decide_false, true_and, Bool.true_and, Bool.cond_self, beq_self_eq_true, Try.vkind9, wrap_i64_in, dec_t, int_bne_f, h4', h5']
            refine vc_pure hg rfl ?_
            have ht : ((k : Int) + 4 + (n4 s k : Int)).toNat = k + 4 + n4 s k := by omega
            have q1 : (0 : Int) ≤ (k : Int) + 4 + (n4 s k : Int) := by omega
            have q2 : k ≤ k + 4 + n4 s k := by omega
            have q3 : k + 4 + n4 s k ≤ s.length := by omega
            have hx := sumX_in ((s.take (k + 4 + n4 s k)).drop k)
            simp (config := { maxSteps := 2000000 }) (disch := first | omega | assumption | (simp only [List.length_cons, List.length_nil, Nat.zero_add, Nat.reduceAdd]; done) | (simp only [IntKind.wrap_i64]; omega) | (simp only [List.length_replicate, List.length_set, List.length_append, List.length_cons, List.length_nil, List.length_take, List.length_drop, List.length_map] <;> omega) | fail) only [vop_move, vcallee_move, vop_assign, vcallee_assign, vop_binOp, vcallee_binOp, vop_convert, vcallee_convert, vop_slice, vcallee_slice, vop_extract, vcallee_extract, vcallee_value, vcal_fn, conv_pv, strip_pv, strip_tup, strip_fn, optV_none, ev_tmp, ev_const, ev_func, ofConst_int, put_some, at_mk, fits_some, ↓look_cons, ↓vlook_t, ↓vlook_f, guard_none, ↓vrun_nil, ↓code_region, ↓code_seq, ↓onNormal_normal, bin_int, int_add, ext_tup, conv_int, vci_int, evG_eq, ↓vrun_cons, ↓run1_some, ↓run2_none, ↓run2_some, ↓run3_some, ↓runK_eq, ↓vcg_none, slice_pv, slice_str_lohi, vsls_some, List.map_nil, List.getElem?_cons_zero, List.getElem?_cons_succ, List.map_cons, List.map_nil, List.nil_append, List.append_nil, Option.map_some, Option.map_none, Nat.reduceLT, Nat.reduceBEq, Int.reduceLT, Int.reduceBEq, Int.toNat_natCast, true_and, Bool.true_and, Bool.cond_self, beq_self_eq_true, Try.vkind3, Try.vkind9, Try.vkind34, wrap_i64_in, dec_t, ht, hw]
            refine vc_pure (rsum_v _ (by rw [List.length_drop, List.length_take]; omega)) rfl ?_
            by_cases h6 : (n4 s (k + 4 + n4 s k) : Int) = sumX ((s.take (k + 4 + n4 s k)).drop k)
            · rw [if_neg (by omega)]
              have q4 : ((k : Int) + 4).toNat = k + 4 := by omega
              have q5 : k + 4 ≤ k + 4 + n4 s k := by omega
              have q6 : (0 : Int) ≤ (k : Int) + 4 := by omega
              have e8 : (((k + 4 + n4 s k + 4 : Nat)) : Int) = (k : Int) + 8 + (n4 s k : Int) := by omega
              simp (config := { maxSteps := 2000000 }) (disch := first | omega | assumption | (simp only [List.length_cons, List.length_nil, Nat.zero_add, Nat.reduceAdd]; done) | (simp only [IntKind.wrap_i64]; omega) | (simp only [List.length_replicate, List.length_set, List.length_append, List.length_cons, List.length_nil, List.length_take, List.length_drop, List.length_map] <;> omega) | fail) only [vop_move, vcallee_move, vop_assign, vcallee_assign, vop_binOp, vcallee_binOp, vop_slice, vcallee_slice, strip_pv, optV_none, ev_tmp, ev_const, ofConst_int, put_some, at_mk, fits_some, ↓look_cons, ↓vlook_t, ↓vlook_f, guard_none, ↓vrun_nil, ↓code_skip, ↓code_region, ↓code_seq, ↓code_ret, ↓onNormal_normal, frz_tup, frzT_pv, allSome_nil, allSome_cons, frzHeap_zero, res_two, vres_tmp, bin_int, int_add, int_neq, evG_eq, ↓vrun_cons, ↓run1_some, ↓run2_none, ↓run3_some, ↓runK_eq, ↓code_cond, ↓vtest_bool, ↓vbr_false, ↓vpost_ret, vfin_some, vfin2_some, at_hp, slice_pv, slice_str_lohi, vsls_some, List.map_nil, List.map_cons, List.map_nil, Option.map_some, Option.map_none, Nat.reduceLT, Nat.reduceBEq, Int.reduceLT, Int.reduceBEq, true_and, and_self, Bool.true_and, Bool.and_self, Bool.cond_self, beq_self_eq_true, DV.wk.go, Try.vkind9, wrap_i64_in, dec_t, int_bne_f, Ret, DV.nums, DV.nums.go, h6, ht, q4]
              rw [e8]
            · rw [if_pos h6]
              simp (config := { maxSteps := 2000000 }) (disch := first | omega | assumption | (simp only [List.length_cons, List.length_nil, Nat.zero_add, Nat.reduceAdd]; done) | (simp only [IntKind.wrap_i64]; omega) | (simp only [List.length_replicate, List.length_set, List.length_append, List.length_cons, List.length_nil, List.length_take, List.length_drop, List.length_map] <;> omega) | fail) only [vop_assign, vcallee_assign, vop_binOp, vcallee_binOp, strip_pv, optV_none, ev_tmp, ev_const, ofConst_int, ofConst_string, put_some, at_mk, fits_some, ↓look_cons, ↓vlook_t, ↓vlook_f, guard_none, ↓vrun_nil, ↓code_region, ↓code_seq, ↓code_ret, ↓onNormal_normal, ↓onNormal_ret, frz_tup, frzT_pv, allSome_nil, allSome_cons, frzHeap_zero, res_two, vres_tmp, bin_int, int_neq, evG_eq, ↓vrun_cons, ↓run1_some, ↓run2_none, ↓run3_some, ↓runK_eq, ↓code_cond, ↓vtest_bool, ↓vbr_true, ↓vpost_ret, vfin_some, vfin2_some, at_hp, List.map_nil, List.map_cons, List.map_nil, Option.map_some, Nat.reduceLT, Nat.reduceBEq, Int.reduceLT, Int.reduceBEq, and_self, Bool.and_self, Bool.cond_self, beq_self_eq_true, DV.wk.go, dec_t, int_bne_t, Ret, DV.nums, DV.nums.go]
          · rw [if_pos (by omega)]
            have h5' : (s.length : Int) - (k : Int) < (n4 s k : Int) + 8 := by omega
            simp (config := { maxSteps := 2000000 }) (disch := first | omega | assumption | (simp only [List.length_cons, List.length_nil, Nat.zero_add, Nat.reduceAdd]; done) | (simp only [IntKind.wrap_i64]; omega) | (simp only [List.length_replicate, List.length_set, List.length_append, List.length_cons, List.length_nil, List.length_take, List.length_drop, List.length_map] <;> omega) | fail) only [vop_move, vcallee_move, vop_assign, vcallee_assign, vop_binOp, vcallee_binOp, vop_extract, vcallee_extract, vop_builtin, vcallee_builtin, strip_pv, strip_tup, optV_none, ev_tmp, ev_const, ofConst_int, ofConst_string, put_some, at_mk, fits_some, ↓look_cons, ↓vlook_t, ↓vlook_f, guard_none, ↓vrun_nil, ↓code_region, ↓code_seq, ↓code_block, ↓code_ret, ↓onNormal_normal, ↓onNormal_ret, ↓onBlock_ret, frz_tup, frzT_pv, allSome_nil, allSome_cons, frzHeap_zero, res_two, vres_tmp, bin_int, int_add, int_sub, int_neq, int_lss, int_gtr, ext_tup, len_str, vls_str, bi_len, evG_eq, ↓vrun_cons, ↓run1_some, ↓run2_none, ↓run3_some, ↓runK_eq, ↓code_cond, ↓vtest_bool, ↓vbr_true, ↓vbr_false, ↓vpost_ret, vfin_some, vfin2_some, at_hp, List.map_nil, List.getElem?_cons_zero, List.getElem?_cons_succ, List.map_cons, List.map_nil, Option.map_some, Nat.reduceLT, Nat.reduceBEq, Int.reduceLT, Int.reduceBEq, decide_false, and_self, Bool.and_self, Bool.cond_self, beq_self_eq_true, DV.wk.go, Try.vkind9, wrap_i64_in, dec_t, int_bne_f, Ret, DV.nums, DV.nums.go, h4', h5']
      · rw [if_pos h3]
        simp (config := { maxSteps := 2000000 }) (disch := first | omega | assumption | (simp only [List.length_cons, List.length_nil, Nat.zero_add, Nat.reduceAdd]; done) | (simp only [IntKind.wrap_i64]; omega) | (simp only [List.length_replicate, List.length_set, List.length_append, List.length_cons, List.length_nil, List.length_take, List.length_drop, List.length_map] <;> omega) | fail) only [vop_move, vcallee_move, vop_assign, vcallee_assign, vop_pick, vcallee_pick, vop_binOp, vcallee_binOp, vop_builtin, vcallee_builtin, vcallee_value, vcal_fn, vpick_bool, strip_pv, strip_fn, strip_opt, vstr_true, optV_none, optV_some, pickV_bool, ev_tmp, ev_const, ev_func, ofConst_int, ofConst_bool, ofConst_string, put_some, at_mk, fits_some, ↓look_cons, ↓vlook_t, ↓vlook_f, guard_none, guard_some, vgof_bool, ↓vrun_nil, ↓code_skip, ↓code_region, ↓code_seq, ↓onNormal_normal, bin_int, int_lss, int_gtr, len_str, vls_str, bi_len, enum_nil, enum_cons, evG_eq, ↓vrun_cons, ↓run1_some, ↓run2_none, ↓run2_some, ↓run3_some, ↓vcg_none, ↓code_cond, ↓vtest_bool, ↓vbr_false, List.map_nil, List.toList_toArray, List.getElem?_cons_zero, List.getElem?_cons_succ, List.length_nil, List.map_cons, List.map_nil, List.nil_append, List.append_nil, Option.map_some, Option.bind_some, Nat.reduceAdd, Nat.reduceLT, Nat.reduceBEq, Int.reduceLT, Int.reduceAdd, Int.reduceBEq, Nat.zero_add, decide_false, true_and, or_true, Bool.not_true, Bool.not_false, Bool.or_true, Bool.true_and, cond_false, Bool.cond_self, beq_self_eq_true, Try.vkind9, dec_t, Try.f24, h1, h2]
        refine vc_pure (rget_short s k 4 (by omega) (by omega) (by omega)) rfl ?_
        simp (config := { maxSteps := 2000000 }) (disch := first | omega | assumption | (simp only [List.length_cons, List.length_nil, Nat.zero_add, Nat.reduceAdd]; done) | (simp only [IntKind.wrap_i64]; omega) | (simp only [List.length_replicate, List.length_set, List.length_append, List.length_cons, List.length_nil, List.length_take, List.length_drop, List.length_map] <;> omega) | fail) only [vop_move, vcallee_move, vop_assign, vcallee_assign, vop_binOp, vcallee_binOp, vop_extract, vcallee_extract, strip_pv, strip_tup, optV_none, ev_tmp, ev_const, ofConst_int, ofConst_string, put_some, at_mk, fits_some, ↓look_cons, ↓vlook_t, ↓vlook_f, guard_none, ↓vrun_nil, ↓code_region, ↓code_seq, ↓code_block, ↓code_ret, ↓onNormal_normal, ↓onNormal_ret, ↓onBlock_ret, frz_tup, frzT_pv, allSome_nil, allSome_cons, frzHeap_zero, res_two, vres_tmp, bin_int, int_neq, ext_tup, evG_eq, ↓vrun_cons, ↓run1_some, ↓run2_none, ↓run3_some, ↓runK_eq, ↓code_cond, ↓vtest_bool, ↓vbr_true, ↓vpost_ret, vfin_some, vfin2_some, at_hp, List.map_nil, List.getElem?_cons_zero, List.getElem?_cons_succ, List.map_cons, List.map_nil, Option.map_some, Nat.reduceLT, Nat.reduceBEq, Int.reduceLT, Int.reduceBEq, and_self, Bool.and_self, Bool.cond_self, beq_self_eq_true, DV.wk.go, dec_t, int_bne_t, Ret, DV.nums, DV.nums.go]
end Go.Proofs.Ytmdjgpnonhbfdaa

namespace Go.Proofs.Ytmdjgpnonhbfdaa
open Go.V Go
set_option linter.unusedSimpArgs false

theorem leN_congr {s t : List UInt8} {a b : Nat} : ∀ {k : Nat}, (∀ i, i < k → s.getD (a + i) 0 = t.getD (b + i) 0) → leN s a k = leN t b k
  | 0, _ => rfl
  | k + 1, h => by rw [leN, leN, leN_congr (fun i hi => h i (by omega)), h k (by omega)]
theorem leN_inj {s t : List UInt8} {a b : Nat} : ∀ {k : Nat}, leN s a k = leN t b k → ∀ i, i < k → s.getD (a + i) 0 = t.getD (b + i) 0
  | 0, _, i, hi => by omega
  | k + 1, h, i, hi => by
    rw [leN, leN] at h
    have h1 := leN_lt s a k
    have h2 := leN_lt t b k
    have e1 : leN s a k = leN t b k := by
      have := congrArg (· % 2 ^ (8 * k)) h
      simp only [Nat.add_mul_mod_self_right, Nat.mod_eq_of_lt h1, Nat.mod_eq_of_lt h2] at this
      exact this
    have e2 : (s.getD (a + k) 0).toNat = (t.getD (b + k) 0).toNat := by
      rw [e1] at h
      exact Nat.eq_of_mul_eq_mul_right (Nat.two_pow_pos (8 * k)) (Nat.add_left_cancel h)
    by_cases hik : i = k
    · subst hik; exact UInt8.toNat_inj.1 e2
    · exact leN_inj e1 i (by omega)
theorem leN_put (s t : List UInt8) (n : Int) (k : Nat) (hk : k ≤ 8) : leN (putL s n k ++ t) s.length k = u64N n % 2 ^ (8 * k) := by
  have h := acc_val s t n k hk k (Nat.le_refl _)
  rw [accX_leN _ _ _ hk] at h
  omega

theorem xor8 (x y : UInt8) : bits .xor .u8 (x.toNat : Int) (y.toNat : Int) = ((x ^^^ y).toNat : Int) := by
  show IntKind.u8.wrap ((BitVec.ofInt 8 (x.toNat : Int) ^^^ BitVec.ofInt 8 (y.toNat : Int)).toNat : Int) = _
  have h : ∀ z : UInt8, BitVec.ofInt 8 (z.toNat : Int) = z.toBitVec := fun z => by
    apply BitVec.eq_of_toNat_eq
    have := z.toNat_lt
    simp
  rw [h, h, wrap_u8_eq]
  have e : (x.toBitVec ^^^ y.toBitVec).toNat = (x ^^^ y).toNat := rfl
  have := (x ^^^ y).toNat_lt
  rw [e]; omega
theorem xor_ne (x y : UInt8) (h : y ≠ 0) : x ^^^ y ≠ x := fun e => h (by
  have e2 : x ^^^ (x ^^^ y) = x ^^^ x := by rw [e]
  rwa [← UInt8.xor_assoc, UInt8.xor_self, UInt8.zero_xor] at e2)

/-- A frame: what is summed, and the sum. -/
def hd (p : List UInt8) : List UInt8 := putL [] p.length 4 ++ p
theorem hd_len (p : List UInt8) : (hd p).length = p.length + 4 := by rw [hd, List.length_append, putL_len]; simp; omega
theorem frm_hd (p : List UInt8) (h : p.length ≤ 500) : frm p = putL (hd p) (sumX (hd p)) 4 := by rw [frm, if_pos (by omega)]; rfl
theorem frm_hd2 (p : List UInt8) (h : p.length ≤ 500) : ∃ q, frm p = hd p ++ q ∧ q.length = 4 := by
  rw [frm_hd p h, putL]; exact ⟨_, rfl, by simp⟩
theorem frm_len' (p : List UInt8) (h : p.length ≤ 500) : (frm p).length = p.length + 8 := by
  rw [frm_hd p h, putL_len, hd_len]
theorem frm_n0 (p : List UInt8) (h : p.length ≤ 500) : n4 (frm p) 0 = p.length := by
  obtain ⟨q, hq, _⟩ := frm_hd2 p h
  have := leN_put [] (p ++ q) p.length 4 (by omega)
  rw [hq, n4, hd, List.append_assoc]
  rw [List.length_nil] at this
  rw [this]; unfold u64N; omega
theorem frm_sum (p : List UInt8) (h : p.length ≤ 500) : (n4 (frm p) (p.length + 4) : Int) = sumX (hd p) := by
  have := leN_put (hd p) [] (sumX (hd p)) 4 (by omega)
  have hx := sumX_in (hd p)
  rw [List.append_nil, hd_len] at this
  rw [frm_hd p h, n4, this]; unfold u64N; omega
theorem frm_take (p : List UInt8) (h : p.length ≤ 500) : (frm p).take (p.length + 4) = hd p := by
  obtain ⟨q, hq, _⟩ := frm_hd2 p h
  rw [hq, List.take_left' (hd_len p)]

theorem unf_ok (p : List UInt8) (h : p.length ≤ 500) : unf (frm p) 0 = (p, ((p.length + 8 : Nat) : Int), 0) := by
  have h1 := frm_n0 p h
  have h2 := frm_sum p h
  have h3 := frm_take p h
  have hl := frm_len' p h
  unfold unf
  rw [if_neg (by omega), Int.toNat_zero, if_neg (by omega), h1, if_neg (by omega), if_neg (by omega)]
  rw [show 0 + 4 + p.length = p.length + 4 by omega, h2, h3, List.drop_zero, if_neg (by simp)]
  have hd4 : (hd p).drop 4 = p := by rw [hd]; exact List.drop_left' (by rw [putL_len]; rfl)
  rw [Nat.zero_add, hd4]

theorem unf_cut (p : List UInt8) (h : p.length ≤ 500) (k : Nat) (h4 : 4 ≤ k) (hk : k < p.length + 8) : unf ((frm p).take k) 0 = ([], 0, 5) := by
  have h1 := frm_n0 p h
  have hl := frm_len' p h
  have hl2 : ((frm p).take k).length = k := by rw [List.length_take]; omega
  have h0 : n4 ((frm p).take k) 0 = p.length := by
    rw [← h1]
    refine leN_congr fun i hi => ?_
    rw [List.getD_eq_getElem?_getD, List.getD_eq_getElem?_getD, List.getElem?_take, if_pos (by omega)]
  unfold unf
  rw [if_neg (by omega), Int.toNat_zero, if_neg (by omega), h0, if_neg (by omega), if_pos (by omega)]

theorem unf_bad (p : List UInt8) (h : p.length ≤ 500) (k : Nat) (h4 : 4 ≤ k) (hk : k < p.length + 8) (y : UInt8) (hy : y ≠ 0) : unf ((frm p).set k ((frm p).getD k 0 ^^^ y)) 0 = ([], 0, 3) := by
  have h1 := frm_n0 p h
  have h2 := frm_sum p h
  have h3 := frm_take p h
  have hl := frm_len' p h
  generalize hx : (frm p).getD k 0 ^^^ y = x
  have hne : x ≠ (frm p).getD k 0 := by rw [← hx]; exact xor_ne _ _ hy
  have hl2 : ((frm p).set k x).length = p.length + 8 := by rw [List.length_set, hl]
  have hget : ∀ j, ((frm p).set k x).getD j 0 = if k = j then x else (frm p).getD j 0 := fun j => getD_set _ _ _ _ _ (by omega)
  have h0 : n4 ((frm p).set k x) 0 = p.length := by
    rw [← h1]
    refine leN_congr fun i hi => ?_
    rw [hget, if_neg (by omega)]
  have hs : ¬ (n4 ((frm p).set k x) (p.length + 4) : Int) = sumX (((frm p).set k x).take (p.length + 4)) := by
    by_cases hc : k < p.length + 4
    · have e1 : n4 ((frm p).set k x) (p.length + 4) = n4 (frm p) (p.length + 4) := leN_congr fun i hi => by rw [hget, if_neg (by omega)]
      rw [e1, h2, List.take_set, h3]
      have hkl : k < (hd p).length := by rw [hd_len]; exact hc
      have e2 : hd p = (hd p).take k ++ [(hd p)[k]] ++ (hd p).drop (k + 1) := by
        rw [← List.take_succ_eq_append_getElem hkl, List.take_append_drop]
      have e3 : (hd p).set k x = (hd p).take k ++ [x] ++ (hd p).drop (k + 1) := by
        rw [List.set_eq_take_append_cons_drop, if_pos hkl]; simp
      intro e
      rw [e3] at e
      have e4 : sumX ((hd p).take k ++ [(hd p)[k]] ++ (hd p).drop (k + 1)) = sumX ((hd p).take k ++ [x] ++ (hd p).drop (k + 1)) := by rw [← e2]; exact e
      have := sumX_inj (by simp) (by simp) e4
      simp only [List.cons.injEq, and_true] at this
      apply hne
      rw [← this]
      obtain ⟨q, hq, _⟩ := frm_hd2 p h
      rw [hq, List.getD_eq_getElem?_getD, List.getElem?_append_left hkl, List.getElem?_eq_getElem hkl]; rfl
    · rw [List.take_set_of_le (by omega), h3, ← h2]
      intro e
      have e1 : leN ((frm p).set k x) (p.length + 4) 4 = leN (frm p) (p.length + 4) 4 := by unfold n4 at e; omega
      have := leN_inj e1 (k - (p.length + 4)) (by omega)
      rw [show p.length + 4 + (k - (p.length + 4)) = k by omega, hget, if_pos rfl] at this
      exact hne this
  unfold unf
  rw [if_neg (by omega), Int.toNat_zero, if_neg (by omega), h0, if_neg (by omega), if_neg (by omega)]
  rw [show 0 + 4 + p.length = p.length + 4 by omega, List.drop_zero, if_pos hs]

/-! ### Up to four bytes side by side -/
section
variable (s bs : List UInt8) (k0 : Nat)
def upd : Nat → List UInt8
  | 0 => s
  | i + 1 => if k0 + i < s.length then (upd i).set (k0 + i) ((upd i).getD (k0 + i) 0 ^^^ bs.getD i 0) else upd i
def chg : Nat → Bool
  | 0 => false
  | i + 1 => if k0 + i < s.length then chg i || decide (bs.getD i 0 ≠ 0) else chg i
theorem upd_len : ∀ i, (upd s bs k0 i).length = s.length
  | 0 => rfl
  | i + 1 => by rw [upd]; split <;> simp [upd_len i]
theorem upd_get : ∀ i j, j < s.length → (upd s bs k0 i).getD j 0 = if k0 ≤ j ∧ j < k0 + i then s.getD j 0 ^^^ bs.getD (j - k0) 0 else s.getD j 0
  | 0, j, _ => by rw [upd, if_neg (by omega)]
  | i + 1, j, hj => by
    have ih := upd_get i
    rw [upd]
    split
    · rename_i hlt
      rw [getD_set _ _ _ _ _ (by rw [upd_len]; exact hlt)]
      by_cases e : k0 + i = j
      · subst e
        rw [if_pos rfl, if_pos (by omega), ih _ hj, if_neg (by omega), Nat.add_sub_cancel_left]
      · rw [if_neg e, ih j hj]
        by_cases c : k0 ≤ j ∧ j < k0 + i
        · rw [if_pos c, if_pos (by omega)]
        · rw [if_neg c, if_neg (by omega)]
    · rename_i hlt
      rw [ih j hj]
      by_cases c : k0 ≤ j ∧ j < k0 + i
      · rw [if_pos c, if_pos (by omega)]
      · rw [if_neg c, if_neg (by omega)]
theorem chg_false : ∀ i, chg s bs k0 i = false → ∀ j, j < i → k0 + j < s.length → bs.getD j 0 = 0
  | 0, _, j, hj, _ => by omega
  | i + 1, h, j, hj, hl => by
    rw [chg] at h
    by_cases e : j = i
    · subst e
      rw [if_pos hl] at h
      simpa using (Bool.or_eq_false_iff.1 h).2
    · split at h
      · exact chg_false i (Bool.or_eq_false_iff.1 h).1 j (by omega) hl
      · exact chg_false i h j (by omega) hl
theorem chg_true : ∀ i, chg s bs k0 i = true → ∃ j, j < i ∧ k0 + j < s.length ∧ bs.getD j 0 ≠ 0
  | 0, h => by simp [chg] at h
  | i + 1, h => by
    rw [chg] at h
    split at h
    · rename_i hl
      rcases Bool.or_eq_true_iff.1 h with h | h
      · obtain ⟨j, h1, h2, h3⟩ := chg_true i h; exact ⟨j, by omega, h2, h3⟩
      · exact ⟨i, by omega, hl, by simpa using h⟩
    · obtain ⟨j, h1, h2, h3⟩ := chg_true i h; exact ⟨j, by omega, h2, h3⟩
theorem getD_ext {a b : List UInt8} (hl : a.length = b.length) (h : ∀ j, j < a.length → a.getD j 0 = b.getD j 0) : a = b := by
  apply List.ext_getElem hl
  intro i h1 h2
  have := h i h1
  simpa [List.getD_eq_getElem?_getD, List.getElem?_eq_getElem h1, List.getElem?_eq_getElem h2] using this
theorem upd_sum (hk : k0 < s.length) : decide (sumX (upd s bs k0 4) = sumX s) = !chg s bs k0 4 := by
  have hl := upd_len s bs k0 4
  have hg := upd_get s bs k0 4
  cases hc : chg s bs k0 4 with
  | false =>
    have e : upd s bs k0 4 = s := getD_ext hl fun j hj => by
      rw [hg j (by omega)]
      split
      · rename_i c
        rw [chg_false s bs k0 4 hc (j - k0) (by omega) (by omega), UInt8.xor_zero]
      · rfl
    rw [e]; simp
  | true =>
    obtain ⟨j, hj, hjl, hb⟩ := chg_true s bs k0 4 hc
    simp only [Bool.not_true, decide_eq_false_iff_not]
    generalize upd s bs k0 4 = t at hl hg
    intro e
    have m : ∃ m, m = min 4 (s.length - k0) := ⟨_, rfl⟩
    obtain ⟨m, hm⟩ := m
    have dec : ∀ l : List UInt8, l = l.take k0 ++ (l.drop k0).take m ++ l.drop (k0 + m) := fun l => by
      rw [List.append_assoc, ← List.drop_drop, List.take_append_drop, List.take_append_drop]
    have e1 : t.take k0 = s.take k0 := getD_ext (by simp [hl]) fun i hi => by
      have hi' : i < k0 ∧ i < t.length := by rw [List.length_take] at hi; omega
      rw [List.getD_eq_getElem?_getD, List.getD_eq_getElem?_getD, List.getElem?_take, List.getElem?_take, if_pos hi'.1, if_pos hi'.1, ← List.getD_eq_getElem?_getD, ← List.getD_eq_getElem?_getD, hg i (by omega), if_neg (by omega)]
    have e2 : t.drop (k0 + m) = s.drop (k0 + m) := getD_ext (by simp [hl]) fun i hi => by
      have hi' : i < t.length - (k0 + m) := by simpa [List.length_drop] using hi
      rw [List.getD_eq_getElem?_getD, List.getD_eq_getElem?_getD, List.getElem?_drop, List.getElem?_drop, ← List.getD_eq_getElem?_getD, ← List.getD_eq_getElem?_getD, hg _ (by omega), if_neg (by omega)]
    have e3 : sumX (s.take k0 ++ (t.drop k0).take m ++ s.drop (k0 + m)) = sumX (s.take k0 ++ (s.drop k0).take m ++ s.drop (k0 + m)) := by
      rw [← dec s, ← e, ← e1, ← e2, ← dec t]
    have e4 := sumX_inj (by simp [hl]) (by simp; omega) e3
    have e5 : t = s := by rw [dec t, dec s, e1, e2, e4]
    have := hg (k0 + j) hjl
    rw [if_pos (by omega), e5, Nat.add_sub_cancel_left] at this
    exact xor_ne _ _ hb this.symm
end
end Go.Proofs.Ytmdjgpnonhbfdaa

namespace Go.Proofs.Ytmdjgpnonhbfdaa
open Go.V Go
set_option maxRecDepth 100000
set_option pp.deepTerms true
set_option pp.deepTerms.threshold 100000
set_option pp.maxSteps 1000000
set_option pp.proofs false
set_option linter.unusedSimpArgs false

theorem byte_of (b : Int) (hb : 0 ≤ b ∧ b ≤ 255) : ∃ y : UInt8, b = (y.toNat : Int) := ⟨UInt8.ofNat b.toNat, by simp only [UInt8.toNat_ofNat']; omega⟩
theorem ofNat_byte (y : UInt8) : UInt8.ofNat ((y.toNat : Int)).toNat = y := by simp

set_option maxHeartbeats 4000000 in
theorem damage_v (p : List UInt8) (a : Int) (ha : 0 ≤ a ∧ a ≤ 65535) (b : Int) (hb : 0 ≤ b ∧ b ≤ 255) : VCalls Try.prog 7 [.pv (.str p), .int .u16 a, .int .u8 b] [] (Ret (.bool true)) := by
  refine vcalls_drop (fn := Try.f7) Try.func7 rfl (by kernel_rfl) (by simp [Try.f7]) ?_
  simp (config := { maxSteps := 2000000 }) (disch := first | omega | assumption | (simp only [List.length_cons, List.length_nil, Nat.zero_add, Nat.reduceAdd]; done) | (simp only [IntKind.wrap_i64]; omega) | (simp only [List.length_replicate, List.length_set, List.length_append, List.length_cons, List.length_nil, List.length_take, List.length_drop, List.length_map] <;> omega) | fail) only [vop_assign, vcallee_assign, vcallee_value, vcal_fn, strip_pv, strip_fn, optV_none, ev_const, ev_func, ofConst_bool, put_some, at_mk, fits_some, guard_none, ↓vrun_nil, ↓code_region, ↓code_seq, ↓onNormal_normal, enum_nil, enum_cons, evG_eq, ↓vrun_cons, ↓run1_some, ↓run2_none, ↓run2_some, ↓run3_some, ↓vcg_none, List.map_nil, List.toList_toArray, List.length_nil, List.map_nil, List.append_nil, Nat.reduceAdd, Nat.reduceLT, Int.reduceLT, Int.reduceAdd, Nat.zero_add, true_and, Bool.true_and, Bool.cond_self, dec_t, Try.f7]
  refine vc_pure awake_v rfl ?_
  by_cases h1 : 500 < (p.length : Int)
  · simp (config := { maxSteps := 2000000 }) (disch := first | omega | assumption | (simp only [List.length_cons, List.length_nil, Nat.zero_add, Nat.reduceAdd]; done) | (simp only [IntKind.wrap_i64]; omega) | (simp only [List.length_replicate, List.length_set, List.length_append, List.length_cons, List.length_nil, List.length_take, List.length_drop, List.length_map] <;> omega) | fail) only [vop_move, vcallee_move, vop_assign, vcallee_assign, vop_pick, vcallee_pick, vop_binOp, vcallee_binOp, vop_unOp, vcallee_unOp, vop_builtin, vcallee_builtin, vpick_bool, strip_pv, strip_opt, vstr_true, vstr_false, optV_none, optV_some, pickV_bool, ev_tmp, ev_const, ofConst_int, ofConst_bool, put_some, at_mk, fits_some, ↓look_cons, ↓vlook_t, ↓vlook_f, guard_none, guard_some, vgof_bool, ↓vrun_nil, ↓code_region, ↓code_seq, ↓code_ret, ↓onNormal_normal, ↓onNormal_ret, frz_pv, frzHeap_zero, res_one, vres_tmp, bin_int, int_eql, int_gtr, un_not, len_str, vls_str, bi_len, evG_eq, ↓vrun_cons, ↓run1_some, ↓run2_none, ↓run3_some, ↓runK_eq, ↓code_cond, ↓vtest_bool, ↓vbr_true, ↓vpost_ret, vfin_some, vfin2_some, at_hp, List.map_nil, List.getElem?_cons_zero, List.getElem?_cons_succ, List.map_cons, List.map_nil, Option.map_some, Option.bind_some, Nat.reduceLT, Nat.reduceBEq, Int.reduceLT, Int.reduceBEq, and_self, or_true, or_false, or_self, Bool.not_true, Bool.not_false, Bool.or_true, Bool.or_false, Bool.or_self, Bool.and_self, b_beq_f, cond_true, Bool.cond_self, beq_self_eq_true, Try.vkind9, dec_t, Ret, DV.nums, h1]
  · by_cases h2 : b = 0
    · subst h2
      simp (config := { maxSteps := 2000000 }) (disch := first | omega | assumption | (simp only [List.length_cons, List.length_nil, Nat.zero_add, Nat.reduceAdd]; done) | (simp only [IntKind.wrap_i64]; omega) | (simp only [List.length_replicate, List.length_set, List.length_append, List.length_cons, List.length_nil, List.length_take, List.length_drop, List.length_map] <;> omega) | fail) only [vop_move, vcallee_move, vop_assign, vcallee_assign, vop_pick, vcallee_pick, vop_binOp, vcallee_binOp, vop_unOp, vcallee_unOp, vop_builtin, vcallee_builtin, vpick_bool, strip_pv, strip_opt, vstr_true, optV_none, optV_some, pickV_bool, ev_tmp, ev_const, ofConst_int, ofConst_bool, put_some, at_mk, fits_some, ↓look_cons, ↓vlook_t, ↓vlook_f, guard_none, guard_some, vgof_bool, ↓vrun_nil, ↓code_region, ↓code_seq, ↓code_ret, ↓onNormal_normal, ↓onNormal_ret, frz_pv, frzHeap_zero, res_one, vres_tmp, bin_int, int_eql, int_gtr, un_not, len_str, vls_str, bi_len, evG_eq, ↓vrun_cons, ↓run1_some, ↓run2_none, ↓run3_some, ↓runK_eq, ↓code_cond, ↓vtest_bool, ↓vbr_true, ↓vpost_ret, vfin_some, vfin2_some, at_hp, List.map_nil, List.getElem?_cons_zero, List.getElem?_cons_succ, List.map_cons, List.map_nil, Option.map_some, Option.bind_some, Nat.reduceLT, Nat.reduceBEq, Int.reduceLT, Int.reduceBEq, decide_false, and_self, or_true, Bool.not_true, Bool.not_false, Bool.or_true, Bool.and_self, cond_false, Bool.cond_self, beq_self_eq_true, Try.vkind9, dec_t, Ret, DV.nums, h1]
    · simp (config := { maxSteps := 2000000 }) (disch := first | omega | assumption | (simp only [List.length_cons, List.length_nil, Nat.zero_add, Nat.reduceAdd]; done) | (simp only [IntKind.wrap_i64]; omega) | (simp only [List.length_replicate, List.length_set, List.length_append, List.length_cons, List.length_nil, List.length_take, List.length_drop, List.length_map] <;> omega) | fail) only [vop_move, vcallee_move, vop_pick, vcallee_pick, vop_binOp, vcallee_binOp, vop_unOp, vcallee_unOp, vop_builtin, vcallee_builtin, vcallee_value, vcal_fn, vpick_bool, strip_pv, strip_fn, strip_opt, vstr_true, optV_none, optV_some, pickV_bool, ev_tmp, ev_const, ev_func, ofConst_int, ofConst_bool, put_some, at_mk, fits_some, ↓look_cons, ↓vlook_t, ↓vlook_f, guard_none, guard_some, vgof_bool, ↓vrun_nil, ↓code_skip, ↓code_region, ↓code_seq, ↓onNormal_normal, bin_int, int_eql, int_gtr, un_not, len_str, vls_str, bi_len, evG_eq, ↓vrun_cons, ↓run1_some, ↓run2_none, ↓run2_some, ↓run3_some, ↓runK_eq, ↓vcg_none, ↓code_cond, ↓vtest_bool, ↓vbr_false, List.map_nil, List.getElem?_cons_zero, List.getElem?_cons_succ, List.map_cons, List.map_nil, List.nil_append, List.append_nil, Option.map_some, Option.bind_some, Nat.reduceLT, Nat.reduceBEq, Int.reduceLT, Int.reduceBEq, decide_false, true_and, or_true, Bool.not_true, Bool.not_false, Bool.or_true, Bool.true_and, cond_false, Bool.cond_self, beq_self_eq_true, Try.vkind9, dec_t, int_beq_f, h1]
      refine vc_pure (frame_v p (by omega)) rfl ?_
      have hl := frm_len' p (by omega)
      obtain ⟨k, hk, hk4, hkl⟩ : ∃ k : Nat, 4 + a.tmod (((p.length + 8 : Nat) : Int) - 4) = k ∧ 4 ≤ k ∧ k < p.length + 8 := by
        rw [show ((p.length + 8 : Nat) : Int) - 4 = (p.length : Int) + 8 - 4 by omega]
        refine ⟨(4 + a % ((p.length : Int) + 8 - 4)).toNat, ?_, ?_, ?_⟩
        · rw [tmod_n ha.1]
          have := Int.emod_nonneg a (show (p.length : Int) + 8 - 4 ≠ 0 by omega)
          omega
        · have := Int.emod_nonneg a (show (p.length : Int) + 8 - 4 ≠ 0 by omega)
          omega
        · have := Int.emod_lt_of_pos a (show 0 < (p.length : Int) + 8 - 4 by omega)
          omega
      obtain ⟨y, rfl⟩ := byte_of b hb
      have hy : y ≠ 0 := fun e => h2 (by rw [e]; rfl)
      have u1 := unframe_v (frm p) (by omega) 0
      have u2 := unframe_v ((frm p).take k) (by rw [List.length_take]; omega) 0
      have u3 := unframe_v ((frm p).set k ((frm p).getD k 0 ^^^ y)) (by rw [List.length_set]; omega) 0
      simp only [unfD, unf_ok p (by omega)] at u1
      simp only [unfD, unf_cut p (by omega) k hk4 hkl] at u2
      simp only [unfD, unf_bad p (by omega) k hk4 hkl y hy] at u3
      have es : (frm p).set k ((frm p).getD k 0 ^^^ y) = (frm p).take k ++ [UInt8.ofNat ((frm p).getD k 0 ^^^ y).toNat] ++ ((frm p).take (p.length + 8)).drop (k + 1) := by
        rw [List.set_eq_take_append_cons_drop, if_pos (by omega), List.take_of_length_le (l := frm p) (i := p.length + 8) (by omega)]; simp
      rw [es] at u3
      have hg : (frm p)[k]? = some ((frm p).getD k 0) := by rw [List.getD_eq_getElem?_getD, List.getElem?_eq_getElem (by omega)]; rfl
      have q1 : k ≤ (frm p).length := by omega
      have q2 : k + 1 ≤ (frm p).length := by omega
      have q3 : (0 : Int) ≤ (k : Int) + 1 := by omega
      have q4 : ((k : Int) + 1).toNat = k + 1 := by omega
      simp (config := { maxSteps := 2000000 }) (disch := first | omega | assumption | (simp only [List.length_cons, List.length_nil, Nat.zero_add, Nat.reduceAdd]; done) | (simp only [IntKind.wrap_i64]; omega) | (simp only [List.length_replicate, List.length_set, List.length_append, List.length_cons, List.length_nil, List.length_take, List.length_drop, List.length_map] <;> omega) | fail) only [vop_move, vcallee_move, vop_assign, vcallee_assign, vop_binOp, vcallee_binOp, vop_convert, vcallee_convert, vop_builtin, vcallee_builtin, conv_pv, strip_pv, optV_none, ev_tmp, ev_const, ofConst_int, put_some, at_mk, fits_some, ↓look_cons, ↓vlook_t, ↓vlook_f, guard_none, ↓vrun_nil, ↓code_skip, ↓code_region, ↓code_draw, ↓code_seq, ↓onNormal_normal, bin_int, int_add, int_sub, int_neq, int_rem, len_str, vls_str, bi_len, conv_int, vci_int, evG_eq, ↓vrun_cons, ↓run1_some, ↓run2_none, ↓run3_some, ↓runK_eq, ↓code_cond, ↓vtest_bool, ↓vbr_false, List.map_nil, List.map_cons, List.map_nil, Option.map_some, Nat.reduceLT, Nat.reduceBEq, Int.reduceLT, Int.reduceBEq, true_and, Bool.true_and, Bool.cond_self, beq_self_eq_true, Try.vkind3, Try.vkind9, Try.vkind31, wrap_i64_in, dec_t, int_bne_f, hl, hk]
      refine vspineT [[], [], [0, 1], [], [], [3, 4], [], [3, 4, 5, 6], [3, 4, 5, 6, 7], [3, 4, 5, 6, 7, 8], [0, 1, 2, 3, 4, 5, 6, 7, 8, 9], [], [], [12], [11, 12, 13], [0, 1, 2, 3, 4, 5, 6, 7, 8, 9, 10, 11, 12, 13, 14], [0, 1, 2, 3, 4, 5, 6, 7, 8, 9, 10, 11, 12, 13, 14, 15], [0, 1, 2, 3, 4, 5, 6, 7, 8, 9, 10, 11, 12, 13, 14, 15, 16], [0, 1, 2, 3, 4, 5, 6, 7, 8, 9, 10, 11, 12, 13, 14, 15, 16, 17], [0, 1, 2, 3, 4, 5, 6, 7, 8, 9, 10, 11, 12, 13, 14, 15, 16, 17], [0, 1, 2, 3, 4, 5, 6, 7, 8, 9, 10, 11, 12, 13, 14, 15, 16, 17], [0, 1, 2, 3, 4, 5, 6, 7, 8, 9, 10, 11, 12, 13, 14, 15, 16, 17, 18], [0, 1, 2, 3, 4, 5, 6, 7, 8, 9, 10, 11, 12, 13, 14, 15, 16, 17, 18, 19, 21], [0, 1, 2, 3, 4, 5, 6, 7, 8, 9, 10, 11, 12, 13, 14, 15, 16, 17, 18, 19, 20, 21, 22]] [0, 1, 2, 3, 4, 5, 6, 7, 11, 12, 13, 14] [⟨[], [], 8, [0, 1, 2, 11, 12, 13, 14], [9, 10, 15]⟩, ⟨[], [], 16, [], [17, 18, 19, 20]⟩, ⟨[], [], 21, [19, 20], []⟩, ⟨[], [], 22, [20], []⟩, ⟨[], [], 23, [], []⟩] (by kernel_rfl) (by kernel_rfl) (by kernel_rfl) ?_
      simp (config := { maxSteps := 2000000 }) (disch := first | omega | assumption | (simp only [List.length_cons, List.length_nil, Nat.zero_add, Nat.reduceAdd]; done) | (simp only [IntKind.wrap_i64]; omega) | (simp only [List.length_replicate, List.length_set, List.length_append, List.length_cons, List.length_nil, List.length_take, List.length_drop, List.length_map] <;> omega) | fail) only [vop_move, vcallee_move, foot_move, vop_buildSlice, vcallee_buildSlice, vop_binOp, vcallee_binOp, foot_binOp, vop_convert, vcallee_convert, vop_slice, vcallee_slice, vop_index, vcallee_index, foot_slice, vcallee_value, vcal_fn, conv_own, strip_pv, strip_own, strip_fn, optV_none, ev_tmp, ev_const, ev_func, ofConst_int, put_some, at_mk, fits_some, ↓look_cons, ↓vlook_t, ↓vlook_f, guard_none, ↓vrun_nil, blk_zero, allOne_nil, allOne_cons, one_pv, index_str, vivs_some, bin_int, bin_str, int_add, int_xor, str_add, parts_nil, parts_cons, evG_eq, ↓vrun_cons, ↓run1_some, ↓run2_none, ↓run2_some, ↓run3_some, ↓vcg_none, slice_pv, slice_str_hi, slice_str_lo, vsls_some, List.map_nil, dcells, vfill, vbuildSlice, V.mk, V.splice, List.getElem?_cons_zero, List.getElem?_cons_succ, List.length_cons, List.length_nil, List.map_cons, List.map_nil, List.nil_append, List.append_nil, List.take_zero, List.drop_succ_cons, List.drop_zero, List.drop_nil, Option.map_some, Option.map_none, ↓reduceIte, Nat.reduceLT, Nat.reduceLeDiff, Nat.reduceBEq, Int.reduceLT, Int.reduceBEq, Int.toNat_natCast, Nat.zero_add, Nat.mul_one, true_and, and_self, Bool.true_and, Bool.and_self, cond_true, Bool.cond_self, beq_self_eq_true, Nat.le_refl, ↓vsp_cons, ↓vspK_eq, vspC_true, vspR_eq, pick_nil, pick_cons, pickO_some, creas_nil, agree_nil, agree_cons, agree1_some, sameAt_nil, ptrNo_pv, Try.vzero5, Try.vkind9, Try.velem33, wrap_i64_in, dec_t, hl, hg, q4, conv_bts btsF, vcso_one, xor8]
      refine vc_pure u3 rfl ?_
      simp (config := { maxSteps := 2000000 }) (disch := first | omega | assumption | (simp only [List.length_cons, List.length_nil, Nat.zero_add, Nat.reduceAdd]; done) | (simp only [IntKind.wrap_i64]; omega) | (simp only [List.length_replicate, List.length_set, List.length_append, List.length_cons, List.length_nil, List.length_take, List.length_drop, List.length_map] <;> omega) | fail) only [vop_move, vcallee_move, vop_assign, vcallee_assign, vop_slice, vcallee_slice, vop_extract, vcallee_extract, foot_extract, vcallee_value, vcal_fn, strip_pv, strip_tup, strip_fn, optV_none, ev_tmp, ev_const, ev_func, ofConst_int, put_some, at_mk, fits_some, ↓look_cons, ↓vlook_t, ↓vlook_f, guard_none, ↓vrun_nil, ↓code_region, ↓code_seq, ↓onNormal_normal, ext_tup, evG_eq, ↓vrun_cons, ↓run1_some, ↓run2_none, ↓run2_some, ↓run3_some, ↓runK_eq, ↓vcg_none, slice_pv, slice_str_hi, vsls_some, List.map_nil, List.getElem?_cons_zero, List.getElem?_cons_succ, List.map_cons, List.map_nil, List.nil_append, List.append_nil, List.drop_zero, Option.map_some, Option.map_none, Nat.reduceLT, Nat.reduceBEq, Int.reduceLT, Int.reduceBEq, Int.toNat_natCast, true_and, and_self, Bool.true_and, Bool.and_self, Bool.cond_self, beq_self_eq_true, ↓vsp_nil, ↓vsp_cons, ↓vspK_eq, vspC_true, vspR_eq, pick_nil, pick_cons, pickO_some, creas_nil, agree_nil, agree_cons, agree1_some, sameAt_nil, Try.vkind9, dec_t]
      refine vc_pure u2 rfl ?_
      simp (config := { maxSteps := 2000000 }) (disch := first | omega | assumption | (simp only [List.length_cons, List.length_nil, Nat.zero_add, Nat.reduceAdd]; done) | (simp only [IntKind.wrap_i64]; omega) | (simp only [List.length_replicate, List.length_set, List.length_append, List.length_cons, List.length_nil, List.length_take, List.length_drop, List.length_map] <;> omega) | fail) only [vop_move, vcallee_move, vop_assign, vcallee_assign, vop_extract, vcallee_extract, vcallee_value, vcal_fn, strip_pv, strip_tup, strip_fn, optV_none, ev_tmp, ev_const, ev_func, ofConst_int, put_some, at_mk, fits_some, ↓look_cons, ↓vlook_t, ↓vlook_f, guard_none, ↓vrun_nil, ↓code_region, ↓code_seq, ↓onNormal_normal, ext_tup, evG_eq, ↓vrun_cons, ↓run1_some, ↓run2_none, ↓run2_some, ↓run3_some, ↓runK_eq, ↓vcg_none, List.map_nil, List.getElem?_cons_zero, List.getElem?_cons_succ, List.map_cons, List.map_nil, List.nil_append, List.append_nil, Option.map_some, Nat.reduceLT, Nat.reduceBEq, Int.reduceLT, Int.reduceBEq, true_and, Bool.true_and, Bool.cond_self, beq_self_eq_true, dec_t]
      refine vc_pure u1 rfl ?_
      simp (config := { maxSteps := 2000000 }) (disch := first | omega | assumption | (simp only [List.length_cons, List.length_nil, Nat.zero_add, Nat.reduceAdd]; done) | (simp only [IntKind.wrap_i64]; omega) | (simp only [List.length_replicate, List.length_set, List.length_append, List.length_cons, List.length_nil, List.length_take, List.length_drop, List.length_map] <;> omega) | fail) only [vop_move, vcallee_move, vop_assign, vcallee_assign, vop_pick, vcallee_pick, vop_binOp, vcallee_binOp, vop_extract, vcallee_extract, vop_builtin, vcallee_builtin, vpick_bool, strip_pv, strip_tup, strip_opt, vstr_true, optV_none, optV_some, pickV_bool, ev_tmp, ev_const, ofConst_int, ofConst_bool, put_some, at_mk, fits_some, ↓look_cons, ↓vlook_t, ↓vlook_f, guard_none, guard_some, vgof_bool, ↓vrun_nil, ↓code_region, ↓code_seq, ↓code_ret, ↓onNormal_normal, frz_pv, frzHeap_zero, res_one, vres_tmp, bin_int, bin_str, int_eql, str_eql, ext_tup, len_str, vls_str, bi_len, evG_eq, ↓vrun_cons, ↓run1_some, ↓run2_none, ↓run3_some, ↓runK_eq, ↓vpost_ret, vfin_some, vfin2_some, at_hp, List.map_nil, List.getElem?_cons_zero, List.getElem?_cons_succ, List.map_cons, List.map_nil, Option.map_some, Option.bind_some, Nat.reduceLT, Nat.reduceBEq, Int.reduceLT, Int.reduceBEq, and_self, or_true, Bool.not_true, Bool.or_true, Bool.and_self, cond_true, Bool.cond_self, beq_self_eq_true, Try.vkind9, dec_t, Ret, DV.nums, hl]
end Go.Proofs.Ytmdjgpnonhbfdaa
