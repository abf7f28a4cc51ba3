/-
  Contracts of functions and plain laws. No condition.
-/
import Derived.Test.YtepcgifhpjapkaaGreatProg
import Derived.Test.YtepcgifhpjapkaaGreatV3
import Derived.KernelRfl
import Derived.Test.YtepcgifhpjapkaaGreatV4
import Derived.Test.YtepcgifhpjapkaaGreatV2
set_option linter.unusedSimpArgs false
set_option linter.unusedVariables false
set_option maxRecDepth 100000
set_option maxHeartbeats 8000000
namespace Go.Proofs.YtepcgifhpjapkaaGreat
open Go.V Go
open Tryz (prog)
theorem F:True:=trivial
end Go.Proofs.YtepcgifhpjapkaaGreat
namespace Go.Proofs
open Go.V
theorem Tryz.vt3:vt prog 3 = some none:=by kernel_rfl
theorem Tryz.vkind3:Qad prog 3 = .int .i64:=by kernel_rfl
theorem Tryz.vzero3:QO prog 3 = some [.pv (.lit (.int .i64 0))]:=by kernel_rfl
theorem Tryz.bytes3:QaO prog 3 = some 8:=by kernel_rfl
theorem Tryz.vt4:vt prog 4 = some none:=by kernel_rfl
theorem Tryz.vt5:vt prog 5 = some none:=by kernel_rfl
theorem Tryz.vkind5:Qad prog 5 = .int .u8:=by kernel_rfl
theorem Tryz.vzero5:QO prog 5 = some [.pv (.lit (.int .u8 0))]:=by kernel_rfl
theorem Tryz.bytes5:QaO prog 5 = some 1:=by kernel_rfl
theorem Tryz.vt9:vt prog 9 = some none:=by kernel_rfl
theorem Tryz.vkind9:Qad prog 9 = .str:=by kernel_rfl
theorem Tryz.vzero9:QO prog 9 = some [.pv (.str [])]:=by kernel_rfl
theorem Tryz.bytes9:QaO prog 9 = some 16:=by kernel_rfl
theorem Tryz.vt22:vt prog 22 = some none:=by kernel_rfl
theorem Tryz.velem22:QL prog 22 = some (none,5,1):=by kernel_rfl
theorem Tryz.notInt22:QaG prog 22 = true:=by kernel_rfl
theorem Tryz.vkind22:Qad prog 22 = .sl 5:=by kernel_rfl
theorem Tryz.vt23:vt prog 23 = some none:=by kernel_rfl
theorem Tryz.velem23:QL prog 23 = some (none,60,13):=by kernel_rfl
theorem Tryz.notInt23:QaG prog 23 = true:=by kernel_rfl
theorem Tryz.vkind23:Qad prog 23 = .sl 60:=by kernel_rfl
theorem Tryz.vzero23:QO prog 23 = some [.pv (.slc [])]:=by kernel_rfl
theorem Tryz.vt25:vt prog 25 = some (some 3):=by kernel_rfl
theorem Tryz.vfield25x0:Qe prog 25 0 = some (3,0,1):=by kernel_rfl
theorem Tryz.vfield25x1:Qe prog 25 1 = some (23,1,1):=by kernel_rfl
theorem Tryz.vfield25x2:Qe prog 25 2 = some (3,2,1):=by kernel_rfl
theorem Tryz.vplaces25:Qv prog 25 = some fun j=>([(0,1),(1,1),(2,1)]:List (Nat × Nat))[j]?:=by kernel_rfl
theorem Tryz.vzero25:QO prog 25 = some [.pv (.lit (.int .i64 0)),.pv (.slc []),.pv (.lit (.int .i64 0))]:=by kernel_rfl
theorem Tryz.vt29:vt prog 29 = some none:=by kernel_rfl
theorem Tryz.velem29:QL prog 29 = some (none,182,37):=by kernel_rfl
theorem Tryz.notInt29:QaG prog 29 = true:=by kernel_rfl
theorem Tryz.vkind29:Qad prog 29 = .sl 182:=by kernel_rfl
theorem Tryz.vt31:vt prog 31 = some (some 3):=by kernel_rfl
theorem Tryz.vfield31x0:Qe prog 31 0 = some (3,0,1):=by kernel_rfl
theorem Tryz.vfield31x1:Qe prog 31 1 = some (29,1,1):=by kernel_rfl
theorem Tryz.vfield31x2:Qe prog 31 2 = some (3,2,1):=by kernel_rfl
theorem Tryz.vplaces31:Qv prog 31 = some fun j=>([(0,1),(1,1),(2,1)]:List (Nat × Nat))[j]?:=by kernel_rfl
theorem Tryz.vzero31:QO prog 31 = some [.pv (.lit (.int .i64 0)),.pv (.slc []),.pv (.lit (.int .i64 0))]:=by kernel_rfl
theorem Tryz.vt32:vt prog 32 = some none:=by kernel_rfl
theorem Tryz.velem32:QL prog 32 = some (none,222,4):=by kernel_rfl
theorem Tryz.notInt32:QaG prog 32 = true:=by kernel_rfl
theorem Tryz.vkind32:Qad prog 32 = .sl 222:=by kernel_rfl
theorem Tryz.vt34:vt prog 34 = some (some 2):=by kernel_rfl
theorem Tryz.vfield34x0:Qe prog 34 0 = some (32,0,1):=by kernel_rfl
theorem Tryz.vfield34x1:Qe prog 34 1 = some (32,1,1):=by kernel_rfl
theorem Tryz.vplaces34:Qv prog 34 = some fun j=>([(0,1),(1,1)]:List (Nat × Nat))[j]?:=by kernel_rfl
theorem Tryz.vzero34:QO prog 34 = some [.pv (.slc []),.pv (.slc [])]:=by kernel_rfl
theorem Tryz.vt35:vt prog 35 = some none:=by kernel_rfl
theorem Tryz.velem35:QL prog 35 = some (none,218,6):=by kernel_rfl
theorem Tryz.notInt35:QaG prog 35 = true:=by kernel_rfl
theorem Tryz.vkind35:Qad prog 35 = .sl 218:=by kernel_rfl
theorem Tryz.vt36:vt prog 36 = some none:=by kernel_rfl
theorem Tryz.velem36:QL prog 36 = some (none,278,3):=by kernel_rfl
theorem Tryz.notInt36:QaG prog 36 = true:=by kernel_rfl
theorem Tryz.vkind36:Qad prog 36 = .sl 278:=by kernel_rfl
theorem Tryz.vt38:vt prog 38 = some (some 1):=by kernel_rfl
theorem Tryz.vfield38x0:Qe prog 38 0 = some (36,0,1):=by kernel_rfl
theorem Tryz.vplaces38:Qv prog 38 = some fun j=>([(0,1)]:List (Nat × Nat))[j]?:=by kernel_rfl
theorem Tryz.vzero38:QO prog 38 = some [.pv (.slc [])]:=by kernel_rfl
theorem Tryz.vt39:vt prog 39 = some none:=by kernel_rfl
theorem Tryz.velem39:QL prog 39 = some (none,190,3):=by kernel_rfl
theorem Tryz.notInt39:QaG prog 39 = true:=by kernel_rfl
theorem Tryz.vkind39:Qad prog 39 = .sl 190:=by kernel_rfl
theorem Tryz.vt41:vt prog 41 = some (some 13):=by kernel_rfl
theorem Tryz.vfield41x0:Qe prog 41 0 = some (3,0,1):=by kernel_rfl
theorem Tryz.vfield41x1:Qe prog 41 1 = some (3,1,1):=by kernel_rfl
theorem Tryz.vfield41x2:Qe prog 41 2 = some (25,2,3):=by kernel_rfl
theorem Tryz.vfield41x3:Qe prog 41 3 = some (31,5,3):=by kernel_rfl
theorem Tryz.vfield41x4:Qe prog 41 4 = some (34,8,2):=by kernel_rfl
theorem Tryz.vfield41x5:Qe prog 41 5 = some (35,10,1):=by kernel_rfl
theorem Tryz.vfield41x6:Qe prog 41 6 = some (38,11,1):=by kernel_rfl
theorem Tryz.vfield41x7:Qe prog 41 7 = some (39,12,1):=by kernel_rfl
theorem Tryz.vplaces41:Qv prog 41 = some fun j=>([(0,1),(1,1),(2,3),(5,3),(8,2),(10,1),(11,1),(12,1)]:List (Nat × Nat))[j]?:=by kernel_rfl
theorem Tryz.vzero41:QO prog 41 = some [.pv (.lit (.int .i64 0)),.pv (.lit (.int .i64 0)),.pv (.lit (.int .i64 0)),.pv (.slc []),.pv (.lit (.int .i64 0)),.pv (.lit (.int .i64 0)),.pv (.slc []),.pv (.lit (.int .i64 0)),.pv (.slc []),.pv (.slc []),.pv (.slc []),.pv (.slc []),.pv (.slc [])]:=by kernel_rfl
theorem Tryz.velem44:QL prog 44 = some (none,25,3):=by kernel_rfl
theorem Tryz.vkind44:Qad prog 44 = .sl 25:=by kernel_rfl
theorem Tryz.vt45:vt prog 45 = some none:=by kernel_rfl
theorem Tryz.vzero45:QO prog 45 = some [.pv (.lit (.int .i64 0))]:=by kernel_rfl
theorem Tryz.vt52:vt prog 52 = some none:=by kernel_rfl
theorem Tryz.velem52:QL prog 52 = some (none,3,1):=by kernel_rfl
theorem Tryz.notInt52:QaG prog 52 = true:=by kernel_rfl
theorem Tryz.vkind52:Qad prog 52 = .sl 3:=by kernel_rfl
theorem Tryz.vt54:vt prog 54 = some none:=by kernel_rfl
theorem Tryz.vt56:vt prog 56 = some (some 2):=by kernel_rfl
theorem Tryz.vfield56x0:Qe prog 56 0 = some (4,0,1):=by kernel_rfl
theorem Tryz.vfield56x1:Qe prog 56 1 = some (9,1,1):=by kernel_rfl
theorem Tryz.vplaces56:Qv prog 56 = some fun j=>([(0,1),(1,1)]:List (Nat × Nat))[j]?:=by kernel_rfl
theorem Tryz.vzero56:QO prog 56 = some [.pv (.lit (.bool false)),.pv (.str [])]:=by kernel_rfl
theorem Tryz.leaves56:QaH prog 8 56 = some [(0,0),(1,2)]:=by kernel_rfl
theorem Tryz.eqg56:prog.eqGuardType prog.depth 56 = false:=by kernel_rfl
theorem Tryz.vt58:vt prog 58 = some (some 6):=by kernel_rfl
theorem Tryz.vfield58x0:Qe prog 58 0 = some (3,0,1):=by kernel_rfl
theorem Tryz.vfield58x1:Qe prog 58 1 = some (3,1,1):=by kernel_rfl
theorem Tryz.vfield58x2:Qe prog 58 2 = some (56,2,2):=by kernel_rfl
theorem Tryz.vfield58x3:Qe prog 58 3 = some (56,4,2):=by kernel_rfl
theorem Tryz.vplaces58:Qv prog 58 = some fun j=>([(0,1),(1,1),(2,2),(4,2)]:List (Nat × Nat))[j]?:=by kernel_rfl
theorem Tryz.vzero58:QO prog 58 = some [.pv (.lit (.int .i64 0)),.pv (.lit (.int .i64 0)),.pv (.lit (.bool false)),.pv (.str []),.pv (.lit (.bool false)),.pv (.str [])]:=by kernel_rfl
theorem Tryz.leaves58:QaH prog 8 58 = some [(0,1),(1,1),(2,0),(3,2),(4,0),(5,2)]:=by kernel_rfl
theorem Tryz.eqg58:prog.eqGuardType prog.depth 58 = false:=by kernel_rfl
theorem Tryz.vt60:vt prog 60 = some (some 13):=by kernel_rfl
theorem Tryz.vfield60x0:Qe prog 60 0 = some (3,0,1):=by kernel_rfl
theorem Tryz.vfield60x1:Qe prog 60 1 = some (3,1,1):=by kernel_rfl
theorem Tryz.vfield60x2:Qe prog 60 2 = some (3,2,1):=by kernel_rfl
theorem Tryz.vfield60x3:Qe prog 60 3 = some (3,3,1):=by kernel_rfl
theorem Tryz.vfield60x4:Qe prog 60 4 = some (3,4,1):=by kernel_rfl
theorem Tryz.vfield60x5:Qe prog 60 5 = some (3,5,1):=by kernel_rfl
theorem Tryz.vfield60x6:Qe prog 60 6 = some (58,6,6):=by kernel_rfl
theorem Tryz.vfield60x7:Qe prog 60 7 = some (9,12,1):=by kernel_rfl
theorem Tryz.vplaces60:Qv prog 60 = some fun j=>([(0,1),(1,1),(2,1),(3,1),(4,1),(5,1),(6,6),(12,1)]:List (Nat × Nat))[j]?:=by kernel_rfl
theorem Tryz.vzero60:QO prog 60 = some [.pv (.lit (.int .i64 0)),.pv (.lit (.int .i64 0)),.pv (.lit (.int .i64 0)),.pv (.lit (.int .i64 0)),.pv (.lit (.int .i64 0)),.pv (.lit (.int .i64 0)),.pv (.lit (.int .i64 0)),.pv (.lit (.int .i64 0)),.pv (.lit (.bool false)),.pv (.str []),.pv (.lit (.bool false)),.pv (.str []),.pv (.str [])]:=by kernel_rfl
theorem Tryz.bytes60:QaO prog 60 = some 128:=by kernel_rfl
theorem Tryz.leaves60:QaH prog 8 60 = some [(0,1),(1,1),(2,1),(3,1),(4,1),(5,1),(6,1),(7,1),(8,0),(9,2),(10,0),(11,2),(12,2)]:=by kernel_rfl
theorem Tryz.eqg60:prog.eqGuardType prog.depth 60 = false:=by kernel_rfl
theorem Tryz.vt69:vt prog 69 = some (some 3):=by kernel_rfl
theorem Tryz.velem69:QL prog 69 = some (some 3,3,1):=by kernel_rfl
theorem Tryz.vplaces69:Qv prog 69 = some fun j=>some (j * 1,1):=by kernel_rfl
theorem Tryz.vzero69:QO prog 69 = some [.pv (.lit (.int .i64 0)),.pv (.lit (.int .i64 0)),.pv (.lit (.int .i64 0))]:=by kernel_rfl
theorem Tryz.velem70:QL prog 70 = some (none,69,3):=by kernel_rfl
theorem Tryz.vkind70:Qad prog 70 = .sl 69:=by kernel_rfl
theorem Tryz.vfield78x0:Qe prog 78 0 = some (22,0,1):=by kernel_rfl
theorem Tryz.vfield78x1:Qe prog 78 1 = some (3,1,1):=by kernel_rfl
theorem Tryz.vplaces78:Qv prog 78 = some fun j=>([(0,1),(1,1)]:List (Nat × Nat))[j]?:=by kernel_rfl
theorem Tryz.vzero78:QO prog 78 = some [.pv (.slc []),.pv (.lit (.int .i64 0))]:=by kernel_rfl
theorem Tryz.vt79:vt prog 79 = some none:=by kernel_rfl
theorem Tryz.velem79:QL prog 79 = some (none,9,1):=by kernel_rfl
theorem Tryz.notInt79:QaG prog 79 = true:=by kernel_rfl
theorem Tryz.vkind79:Qad prog 79 = .sl 9:=by kernel_rfl
theorem Tryz.vt80:vt prog 80 = some none:=by kernel_rfl
theorem Tryz.velem80:QL prog 80 = some (none,254,6):=by kernel_rfl
theorem Tryz.notInt80:QaG prog 80 = true:=by kernel_rfl
theorem Tryz.vkind80:Qad prog 80 = .sl 254:=by kernel_rfl
theorem Tryz.vt82:vt prog 82 = some (some 5):=by kernel_rfl
theorem Tryz.vfield82x0:Qe prog 82 0 = some (79,0,1):=by kernel_rfl
theorem Tryz.vfield82x1:Qe prog 82 1 = some (3,1,1):=by kernel_rfl
theorem Tryz.vfield82x2:Qe prog 82 2 = some (52,2,1):=by kernel_rfl
theorem Tryz.vfield82x3:Qe prog 82 3 = some (4,3,1):=by kernel_rfl
theorem Tryz.vfield82x4:Qe prog 82 4 = some (80,4,1):=by kernel_rfl
theorem Tryz.vplaces82:Qv prog 82 = some fun j=>([(0,1),(1,1),(2,1),(3,1),(4,1)]:List (Nat × Nat))[j]?:=by kernel_rfl
theorem Tryz.vzero82:QO prog 82 = some [.pv (.slc []),.pv (.lit (.int .i64 0)),.pv (.slc []),.pv (.lit (.bool false)),.pv (.slc [])]:=by kernel_rfl
theorem Tryz.vt84:vt prog 84 = some (some 18):=by kernel_rfl
theorem Tryz.vfield84x0:Qe prog 84 0 = some (41,0,13):=by kernel_rfl
theorem Tryz.vfield84x1:Qe prog 84 1 = some (82,13,5):=by kernel_rfl
theorem Tryz.vplaces84:Qv prog 84 = some fun j=>([(0,13),(13,5)]:List (Nat × Nat))[j]?:=by kernel_rfl
theorem Tryz.vzero84:QO prog 84 = some [.pv (.lit (.int .i64 0)),.pv (.lit (.int .i64 0)),.pv (.lit (.int .i64 0)),.pv (.slc []),.pv (.lit (.int .i64 0)),.pv (.lit (.int .i64 0)),.pv (.slc []),.pv (.lit (.int .i64 0)),.pv (.slc []),.pv (.slc []),.pv (.slc []),.pv (.slc []),.pv (.slc []),.pv (.slc []),.pv (.lit (.int .i64 0)),.pv (.slc []),.pv (.lit (.bool false)),.pv (.slc [])]:=by kernel_rfl
theorem Tryz.vfield94x0:Qe prog 94 0 = some (3,0,1):=by kernel_rfl
theorem Tryz.vfield94x1:Qe prog 94 1 = some (90,1,1):=by kernel_rfl
theorem Tryz.vfield94x2:Qe prog 94 2 = some (91,2,1):=by kernel_rfl
theorem Tryz.vplaces94:Qv prog 94 = some fun j=>([(0,1),(1,1),(2,1),(3,1)]:List (Nat × Nat))[j]?:=by kernel_rfl
theorem Tryz.vt100:vt prog 100 = some none:=by kernel_rfl
theorem Tryz.vt102:vt prog 102 = some (some 14):=by kernel_rfl
theorem Tryz.vfield102x0:Qe prog 102 0 = some (60,0,13):=by kernel_rfl
theorem Tryz.vfield102x1:Qe prog 102 1 = some (45,13,1):=by kernel_rfl
theorem Tryz.vplaces102:Qv prog 102 = some fun j=>([(0,13),(13,1)]:List (Nat × Nat))[j]?:=by kernel_rfl
theorem Tryz.vzero102:QO prog 102 = some [.pv (.lit (.int .i64 0)),.pv (.lit (.int .i64 0)),.pv (.lit (.int .i64 0)),.pv (.lit (.int .i64 0)),.pv (.lit (.int .i64 0)),.pv (.lit (.int .i64 0)),.pv (.lit (.int .i64 0)),.pv (.lit (.int .i64 0)),.pv (.lit (.bool false)),.pv (.str []),.pv (.lit (.bool false)),.pv (.str []),.pv (.str []),.pv (.lit (.int .i64 0))]:=by kernel_rfl
theorem Tryz.velem109:QL prog 109 = some (none,138,6):=by kernel_rfl
theorem Tryz.notInt109:QaG prog 109 = true:=by kernel_rfl
theorem Tryz.vt110:vt prog 110 = some none:=by kernel_rfl
theorem Tryz.velem110:QL prog 110 = some (none,175,6):=by kernel_rfl
theorem Tryz.notInt110:QaG prog 110 = true:=by kernel_rfl
theorem Tryz.velem113:QL prog 113 = some (none,143,9):=by kernel_rfl
theorem Tryz.notInt113:QaG prog 113 = true:=by kernel_rfl
theorem Tryz.vkind113:Qad prog 113 = .sl 143:=by kernel_rfl
theorem Tryz.vfield119x2:Qe prog 119 2 = some (4,2,1):=by kernel_rfl
theorem Tryz.vfield119x4:Qe prog 119 4 = some (23,4,1):=by kernel_rfl
theorem Tryz.vplaces119:Qv prog 119 = some fun j=>([(0,1),(1,1),(2,1),(3,1),(4,1)]:List (Nat × Nat))[j]?:=by kernel_rfl
theorem Tryz.vzero119:QO prog 119 = some [.pv (.lit (.int .i64 0)),.pv (.lit (.bool false)),.pv (.lit (.bool false)),.pv (.lit (.bool false)),.pv (.slc [])]:=by kernel_rfl
theorem Tryz.vt125:vt prog 125 = some none:=by kernel_rfl
theorem Tryz.vt127:vt prog 127 = some (some 7):=by kernel_rfl
theorem Tryz.vfield127x0:Qe prog 127 0 = some (4,0,1):=by kernel_rfl
theorem Tryz.vfield127x1:Qe prog 127 1 = some (4,1,1):=by kernel_rfl
theorem Tryz.vfield127x2:Qe prog 127 2 = some (4,2,1):=by kernel_rfl
theorem Tryz.vfield127x3:Qe prog 127 3 = some (4,3,1):=by kernel_rfl
theorem Tryz.vfield127x4:Qe prog 127 4 = some (4,4,1):=by kernel_rfl
theorem Tryz.vfield127x5:Qe prog 127 5 = some (54,5,1):=by kernel_rfl
theorem Tryz.vfield127x6:Qe prog 127 6 = some (125,6,1):=by kernel_rfl
theorem Tryz.vplaces127:Qv prog 127 = some fun j=>([(0,1),(1,1),(2,1),(3,1),(4,1),(5,1),(6,1)]:List (Nat × Nat))[j]?:=by kernel_rfl
theorem Tryz.vzero127:QO prog 127 = some [.pv (.lit (.bool false)),.pv (.lit (.bool false)),.pv (.lit (.bool false)),.pv (.lit (.bool false)),.pv (.lit (.bool false)),.pv (.lit .nilFunc),.pv (.lit .nilFunc)]:=by kernel_rfl
theorem Tryz.vt128:vt prog 128 = some (some 63):=by kernel_rfl
theorem Tryz.velem128:QL prog 128 = some (some 9,127,7):=by kernel_rfl
theorem Tryz.vplaces128:Qv prog 128 = some fun j=>some (j * 7,7):=by kernel_rfl
theorem Tryz.vzero128:QO prog 128 = some [.pv (.lit (.bool false)),.pv (.lit (.bool false)),.pv (.lit (.bool false)),.pv (.lit (.bool false)),.pv (.lit (.bool false)),.pv (.lit .nilFunc),.pv (.lit .nilFunc),.pv (.lit (.bool false)),.pv (.lit (.bool false)),.pv (.lit (.bool false)),.pv (.lit (.bool false)),.pv (.lit (.bool false)),.pv (.lit .nilFunc),.pv (.lit .nilFunc),.pv (.lit (.bool false)),.pv (.lit (.bool false)),.pv (.lit (.bool false)),.pv (.lit (.bool false)),.pv (.lit (.bool false)),.pv (.lit .nilFunc),.pv (.lit .nilFunc),.pv (.lit (.bool false)),.pv (.lit (.bool false)),.pv (.lit (.bool false)),.pv (.lit (.bool false)),.pv (.lit (.bool false)),.pv (.lit .nilFunc),.pv (.lit .nilFunc),.pv (.lit (.bool false)),.pv (.lit (.bool false)),.pv (.lit (.bool false)),.pv (.lit (.bool false)),.pv (.lit (.bool false)),.pv (.lit .nilFunc),.pv (.lit .nilFunc),.pv (.lit (.bool false)),.pv (.lit (.bool false)),.pv (.lit (.bool false)),.pv (.lit (.bool false)),.pv (.lit (.bool false)),.pv (.lit .nilFunc),.pv (.lit .nilFunc),.pv (.lit (.bool false)),.pv (.lit (.bool false)),.pv (.lit (.bool false)),.pv (.lit (.bool false)),.pv (.lit (.bool false)),.pv (.lit .nilFunc),.pv (.lit .nilFunc),.pv (.lit (.bool false)),.pv (.lit (.bool false)),.pv (.lit (.bool false)),.pv (.lit (.bool false)),.pv (.lit (.bool false)),.pv (.lit .nilFunc),.pv (.lit .nilFunc),.pv (.lit (.bool false)),.pv (.lit (.bool false)),.pv (.lit (.bool false)),.pv (.lit (.bool false)),.pv (.lit (.bool false)),.pv (.lit .nilFunc),.pv (.lit .nilFunc)]:=by kernel_rfl
theorem Tryz.vfield136x0:Qe prog 136 0 = some (84,0,18):=by kernel_rfl
theorem Tryz.vfield136x1:Qe prog 136 1 = some (52,18,1):=by kernel_rfl
theorem Tryz.vfield136x2:Qe prog 136 2 = some (110,19,1):=by kernel_rfl
theorem Tryz.vfield136x3:Qe prog 136 3 = some (4,20,1):=by kernel_rfl
theorem Tryz.vplaces136:Qv prog 136 = some fun j=>([(0,18),(18,1),(19,1),(20,1)]:List (Nat × Nat))[j]?:=by kernel_rfl
theorem Tryz.vzero136:QO prog 136 = some [.pv (.lit (.int .i64 0)),.pv (.lit (.int .i64 0)),.pv (.lit (.int .i64 0)),.pv (.slc []),.pv (.lit (.int .i64 0)),.pv (.lit (.int .i64 0)),.pv (.slc []),.pv (.lit (.int .i64 0)),.pv (.slc []),.pv (.slc []),.pv (.slc []),.pv (.slc []),.pv (.slc []),.pv (.slc []),.pv (.lit (.int .i64 0)),.pv (.slc []),.pv (.lit (.bool false)),.pv (.slc []),.pv (.slc []),.pv (.slc []),.pv (.lit (.bool false))]:=by kernel_rfl
theorem Tryz.vt138:vt prog 138 = some (some 6):=by kernel_rfl
theorem Tryz.vfield138x0:Qe prog 138 0 = some (3,0,1):=by kernel_rfl
theorem Tryz.vfield138x1:Qe prog 138 1 = some (3,1,1):=by kernel_rfl
theorem Tryz.vfield138x2:Qe prog 138 2 = some (3,2,1):=by kernel_rfl
theorem Tryz.vfield138x3:Qe prog 138 3 = some (56,3,2):=by kernel_rfl
theorem Tryz.vfield138x4:Qe prog 138 4 = some (45,5,1):=by kernel_rfl
theorem Tryz.vplaces138:Qv prog 138 = some fun j=>([(0,1),(1,1),(2,1),(3,2),(5,1)]:List (Nat × Nat))[j]?:=by kernel_rfl
theorem Tryz.vzero138:QO prog 138 = some [.pv (.lit (.int .i64 0)),.pv (.lit (.int .i64 0)),.pv (.lit (.int .i64 0)),.pv (.lit (.bool false)),.pv (.str []),.pv (.lit (.int .i64 0))]:=by kernel_rfl
theorem Tryz.bytes138:QaO prog 138 = some 56:=by kernel_rfl
theorem Tryz.vt141:vt prog 141 = some (some 4):=by kernel_rfl
theorem Tryz.vfield141x0:Qe prog 141 0 = some (3,0,1):=by kernel_rfl
theorem Tryz.vfield141x1:Qe prog 141 1 = some (3,1,1):=by kernel_rfl
theorem Tryz.vfield141x2:Qe prog 141 2 = some (3,2,1):=by kernel_rfl
theorem Tryz.vfield141x3:Qe prog 141 3 = some (9,3,1):=by kernel_rfl
theorem Tryz.vplaces141:Qv prog 141 = some fun j=>([(0,1),(1,1),(2,1),(3,1)]:List (Nat × Nat))[j]?:=by kernel_rfl
theorem Tryz.vzero141:QO prog 141 = some [.pv (.lit (.int .i64 0)),.pv (.lit (.int .i64 0)),.pv (.lit (.int .i64 0)),.pv (.str [])]:=by kernel_rfl
theorem Tryz.leaves141:QaH prog 8 141 = some [(0,1),(1,1),(2,1),(3,2)]:=by kernel_rfl
theorem Tryz.eqg141:prog.eqGuardType prog.depth 141 = false:=by kernel_rfl
theorem Tryz.vt143:vt prog 143 = some (some 9):=by kernel_rfl
theorem Tryz.vfield143x0:Qe prog 143 0 = some (3,0,1):=by kernel_rfl
theorem Tryz.vfield143x1:Qe prog 143 1 = some (3,1,1):=by kernel_rfl
theorem Tryz.vfield143x2:Qe prog 143 2 = some (3,2,1):=by kernel_rfl
theorem Tryz.vfield143x3:Qe prog 143 3 = some (3,3,1):=by kernel_rfl
theorem Tryz.vfield143x4:Qe prog 143 4 = some (3,4,1):=by kernel_rfl
theorem Tryz.vfield143x5:Qe prog 143 5 = some (141,5,4):=by kernel_rfl
theorem Tryz.vplaces143:Qv prog 143 = some fun j=>([(0,1),(1,1),(2,1),(3,1),(4,1),(5,4)]:List (Nat × Nat))[j]?:=by kernel_rfl
theorem Tryz.vzero143:QO prog 143 = some [.pv (.lit (.int .i64 0)),.pv (.lit (.int .i64 0)),.pv (.lit (.int .i64 0)),.pv (.lit (.int .i64 0)),.pv (.lit (.int .i64 0)),.pv (.lit (.int .i64 0)),.pv (.lit (.int .i64 0)),.pv (.lit (.int .i64 0)),.pv (.str [])]:=by kernel_rfl
theorem Tryz.bytes143:QaO prog 143 = some 80:=by kernel_rfl
theorem Tryz.vplaces175:Qv prog 175 = some fun j=>([(0,1),(1,1),(2,1),(3,1),(4,2)]:List (Nat × Nat))[j]?:=by kernel_rfl
theorem Tryz.vzero175:QO prog 175 = some [.pv (.lit (.int .i64 0)),.pv (.lit (.int .i64 0)),.pv (.lit (.int .i64 0)),.pv (.lit (.int .i64 0)),.pv (.lit (.bool false)),.pv (.str [])]:=by kernel_rfl
theorem Tryz.bytes175:QaO prog 175 = some 56:=by kernel_rfl
theorem Tryz.velem176:QL prog 176 = some (some 16,56,2):=by kernel_rfl
theorem Tryz.vt178:vt prog 178 = some (some 34):=by kernel_rfl
theorem Tryz.vfield178x0:Qe prog 178 0 = some (3,0,1):=by kernel_rfl
theorem Tryz.vfield178x1:Qe prog 178 1 = some (3,1,1):=by kernel_rfl
theorem Tryz.vfield178x2:Qe prog 178 2 = some (176,2,32):=by kernel_rfl
theorem Tryz.vplaces178:Qv prog 178 = some fun j=>([(0,1),(1,1),(2,32)]:List (Nat × Nat))[j]?:=by kernel_rfl
theorem Tryz.vzero178:QO prog 178 = some [.pv (.lit (.int .i64 0)),.pv (.lit (.int .i64 0)),.pv (.lit (.bool false)),.pv (.str []),.pv (.lit (.bool false)),.pv (.str []),.pv (.lit (.bool false)),.pv (.str []),.pv (.lit (.bool false)),.pv (.str []),.pv (.lit (.bool false)),.pv (.str []),.pv (.lit (.bool false)),.pv (.str []),.pv (.lit (.bool false)),.pv (.str []),.pv (.lit (.bool false)),.pv (.str []),.pv (.lit (.bool false)),.pv (.str []),.pv (.lit (.bool false)),.pv (.str []),.pv (.lit (.bool false)),.pv (.str []),.pv (.lit (.bool false)),.pv (.str []),.pv (.lit (.bool false)),.pv (.str []),.pv (.lit (.bool false)),.pv (.str []),.pv (.lit (.bool false)),.pv (.str []),.pv (.lit (.bool false)),.pv (.str [])]:=by kernel_rfl
theorem Tryz.vt182:vt prog 182 = some (some 37):=by kernel_rfl
theorem Tryz.vfield182x0:Qe prog 182 0 = some (178,0,34):=by kernel_rfl
theorem Tryz.vfield182x1:Qe prog 182 1 = some (4,34,1):=by kernel_rfl
theorem Tryz.vfield182x2:Qe prog 182 2 = some (3,35,1):=by kernel_rfl
theorem Tryz.vfield182x3:Qe prog 182 3 = some (4,36,1):=by kernel_rfl
theorem Tryz.vplaces182:Qv prog 182 = some fun j=>([(0,34),(34,1),(35,1),(36,1)]:List (Nat × Nat))[j]?:=by kernel_rfl
theorem Tryz.vzero182:QO prog 182 = some [.pv (.lit (.int .i64 0)),.pv (.lit (.int .i64 0)),.pv (.lit (.bool false)),.pv (.str []),.pv (.lit (.bool false)),.pv (.str []),.pv (.lit (.bool false)),.pv (.str []),.pv (.lit (.bool false)),.pv (.str []),.pv (.lit (.bool false)),.pv (.str []),.pv (.lit (.bool false)),.pv (.str []),.pv (.lit (.bool false)),.pv (.str []),.pv (.lit (.bool false)),.pv (.str []),.pv (.lit (.bool false)),.pv (.str []),.pv (.lit (.bool false)),.pv (.str []),.pv (.lit (.bool false)),.pv (.str []),.pv (.lit (.bool false)),.pv (.str []),.pv (.lit (.bool false)),.pv (.str []),.pv (.lit (.bool false)),.pv (.str []),.pv (.lit (.bool false)),.pv (.str []),.pv (.lit (.bool false)),.pv (.str []),.pv (.lit (.bool false)),.pv (.lit (.int .i64 0)),.pv (.lit (.bool false))]:=by kernel_rfl
theorem Tryz.bytes182:QaO prog 182 = some 424:=by kernel_rfl
theorem Tryz.vt190:vt prog 190 = some (some 3):=by kernel_rfl
theorem Tryz.vfield190x0:Qe prog 190 0 = some (3,0,1):=by kernel_rfl
theorem Tryz.vfield190x1:Qe prog 190 1 = some (3,1,1):=by kernel_rfl
theorem Tryz.vfield190x2:Qe prog 190 2 = some (3,2,1):=by kernel_rfl
theorem Tryz.vplaces190:Qv prog 190 = some fun j=>([(0,1),(1,1),(2,1)]:List (Nat × Nat))[j]?:=by kernel_rfl
theorem Tryz.vzero190:QO prog 190 = some [.pv (.lit (.int .i64 0)),.pv (.lit (.int .i64 0)),.pv (.lit (.int .i64 0))]:=by kernel_rfl
theorem Tryz.bytes190:QaO prog 190 = some 24:=by kernel_rfl
theorem Tryz.vt197:vt prog 197 = some (some 2):=by kernel_rfl
theorem Tryz.vfield197x0:Qe prog 197 0 = some (3,0,1):=by kernel_rfl
theorem Tryz.vfield197x1:Qe prog 197 1 = some (3,1,1):=by kernel_rfl
theorem Tryz.vplaces197:Qv prog 197 = some fun j=>([(0,1),(1,1)]:List (Nat × Nat))[j]?:=by kernel_rfl
theorem Tryz.vzero197:QO prog 197 = some [.pv (.lit (.int .i64 0)),.pv (.lit (.int .i64 0))]:=by kernel_rfl
theorem Tryz.leaves197:QaH prog 8 197 = some [(0,1),(1,1)]:=by kernel_rfl
theorem Tryz.eqg197:prog.eqGuardType prog.depth 197 = false:=by kernel_rfl
theorem Tryz.vt210:vt prog 210 = some (some 5):=by kernel_rfl
theorem Tryz.vfield210x0:Qe prog 210 0 = some (3,0,1):=by kernel_rfl
theorem Tryz.vfield210x1:Qe prog 210 1 = some (3,1,1):=by kernel_rfl
theorem Tryz.vfield210x2:Qe prog 210 2 = some (35,2,1):=by kernel_rfl
theorem Tryz.vfield210x3:Qe prog 210 3 = some (39,3,1):=by kernel_rfl
theorem Tryz.vfield210x4:Qe prog 210 4 = some (38,4,1):=by kernel_rfl
theorem Tryz.vplaces210:Qv prog 210 = some fun j=>([(0,1),(1,1),(2,1),(3,1),(4,1)]:List (Nat × Nat))[j]?:=by kernel_rfl
theorem Tryz.vzero210:QO prog 210 = some [.pv (.lit (.int .i64 0)),.pv (.lit (.int .i64 0)),.pv (.slc []),.pv (.slc []),.pv (.slc [])]:=by kernel_rfl
theorem Tryz.vt218:vt prog 218 = some (some 6):=by kernel_rfl
theorem Tryz.vfield218x0:Qe prog 218 0 = some (3,0,1):=by kernel_rfl
theorem Tryz.vfield218x1:Qe prog 218 1 = some (3,1,1):=by kernel_rfl
theorem Tryz.vfield218x2:Qe prog 218 2 = some (3,2,1):=by kernel_rfl
theorem Tryz.vfield218x3:Qe prog 218 3 = some (3,3,1):=by kernel_rfl
theorem Tryz.vfield218x4:Qe prog 218 4 = some (52,4,1):=by kernel_rfl
theorem Tryz.vfield218x5:Qe prog 218 5 = some (52,5,1):=by kernel_rfl
theorem Tryz.vplaces218:Qv prog 218 = some fun j=>([(0,1),(1,1),(2,1),(3,1),(4,1),(5,1)]:List (Nat × Nat))[j]?:=by kernel_rfl
theorem Tryz.vzero218:QO prog 218 = some [.pv (.lit (.int .i64 0)),.pv (.lit (.int .i64 0)),.pv (.lit (.int .i64 0)),.pv (.lit (.int .i64 0)),.pv (.slc []),.pv (.slc [])]:=by kernel_rfl
theorem Tryz.bytes218:QaO prog 218 = some 80:=by kernel_rfl
theorem Tryz.vt222:vt prog 222 = some (some 4):=by kernel_rfl
theorem Tryz.vfield222x0:Qe prog 222 0 = some (3,0,1):=by kernel_rfl
theorem Tryz.vfield222x1:Qe prog 222 1 = some (197,1,2):=by kernel_rfl
theorem Tryz.vfield222x2:Qe prog 222 2 = some (3,3,1):=by kernel_rfl
theorem Tryz.vplaces222:Qv prog 222 = some fun j=>([(0,1),(1,2),(3,1)]:List (Nat × Nat))[j]?:=by kernel_rfl
theorem Tryz.vzero222:QO prog 222 = some [.pv (.lit (.int .i64 0)),.pv (.lit (.int .i64 0)),.pv (.lit (.int .i64 0)),.pv (.lit (.int .i64 0))]:=by kernel_rfl
theorem Tryz.bytes222:QaO prog 222 = some 32:=by kernel_rfl
theorem Tryz.leaves222:QaH prog 8 222 = some [(0,1),(1,1),(2,1),(3,1)]:=by kernel_rfl
theorem Tryz.eqg222:prog.eqGuardType prog.depth 222 = false:=by kernel_rfl
theorem Tryz.vkind249:Qad prog 249 = .int .u32:=by kernel_rfl
theorem Tryz.vzero254:QO prog 254 = some [.pv (.lit (.int .i64 0)),.pv (.lit (.int .i64 0)),.pv (.lit (.int .i64 0)),.pv (.lit (.int .i64 0)),.pv (.lit (.int .i64 0)),.pv (.lit (.int .u8 0))]:=by kernel_rfl
theorem Tryz.bytes254:QaO prog 254 = some 48:=by kernel_rfl
theorem Tryz.vt267:vt prog 267 = some (some 7):=by kernel_rfl
theorem Tryz.vfield267x0:Qe prog 267 0 = some (3,0,1):=by kernel_rfl
theorem Tryz.vfield267x1:Qe prog 267 1 = some (3,1,1):=by kernel_rfl
theorem Tryz.vfield267x2:Qe prog 267 2 = some (3,2,1):=by kernel_rfl
theorem Tryz.vfield267x3:Qe prog 267 3 = some (35,3,1):=by kernel_rfl
theorem Tryz.vfield267x4:Qe prog 267 4 = some (32,4,1):=by kernel_rfl
theorem Tryz.vfield267x5:Qe prog 267 5 = some (39,5,1):=by kernel_rfl
theorem Tryz.vfield267x6:Qe prog 267 6 = some (38,6,1):=by kernel_rfl
theorem Tryz.vplaces267:Qv prog 267 = some fun j=>([(0,1),(1,1),(2,1),(3,1),(4,1),(5,1),(6,1)]:List (Nat × Nat))[j]?:=by kernel_rfl
theorem Tryz.vzero267:QO prog 267 = some [.pv (.lit (.int .i64 0)),.pv (.lit (.int .i64 0)),.pv (.lit (.int .i64 0)),.pv (.slc []),.pv (.slc []),.pv (.slc []),.pv (.slc [])]:=by kernel_rfl
theorem Tryz.vt278:vt prog 278 = some (some 3):=by kernel_rfl
theorem Tryz.vfield278x0:Qe prog 278 0 = some (3,0,1):=by kernel_rfl
theorem Tryz.vfield278x1:Qe prog 278 1 = some (3,1,1):=by kernel_rfl
theorem Tryz.vfield278x2:Qe prog 278 2 = some (3,2,1):=by kernel_rfl
theorem Tryz.vzero278:QO prog 278 = some [.pv (.lit (.int .i64 0)),.pv (.lit (.int .i64 0)),.pv (.lit (.int .i64 0))]:=by kernel_rfl
theorem Tryz.bytes278:QaO prog 278 = some 24:=by kernel_rfl
theorem Tryz.vkind297:Qad prog 297 = .int .u64:=by kernel_rfl
theorem Tryz.vkind298:Qad prog 298 = .int .u64:=by kernel_rfl
theorem Tryz.vfield340x0:Qe prog 340 0 = some (9,0,1):=by kernel_rfl
theorem Tryz.vfield340x1:Qe prog 340 1 = some (3,1,1):=by kernel_rfl
theorem Tryz.vfield340x2:Qe prog 340 2 = some (45,2,1):=by kernel_rfl
theorem Tryz.vplaces340:Qv prog 340 = some fun j=>([(0,1),(1,1),(2,1)]:List (Nat × Nat))[j]?:=by kernel_rfl
theorem Tryz.vzero340:QO prog 340 = some [.pv (.str []),.pv (.lit (.int .i64 0)),.pv (.lit (.int .i64 0))]:=by kernel_rfl
theorem Tryz.vfield350x0:Qe prog 350 0 = some (9,0,1):=by kernel_rfl
theorem Tryz.vfield350x1:Qe prog 350 1 = some (3,1,1):=by kernel_rfl
theorem Tryz.vfield350x2:Qe prog 350 2 = some (4,2,1):=by kernel_rfl
theorem Tryz.vplaces350:Qv prog 350 = some fun j=>([(0,1),(1,1),(2,1)]:List (Nat × Nat))[j]?:=by kernel_rfl
theorem Tryz.vzero350:QO prog 350 = some [.pv (.str []),.pv (.lit (.int .i64 0)),.pv (.lit (.bool false))]:=by kernel_rfl
attribute [go_sem] Tryz.vt3 Tryz.vkind3 Tryz.vzero3 Tryz.bytes3 Tryz.vt4 Tryz.vt5 Tryz.vkind5 Tryz.vzero5 Tryz.bytes5 Tryz.vt9 Tryz.vkind9 Tryz.vzero9 Tryz.bytes9 Tryz.vt22 Tryz.velem22 Tryz.notInt22 Tryz.vkind22 Tryz.vt23 Tryz.velem23 Tryz.notInt23 Tryz.vkind23 Tryz.vzero23 Tryz.vt25 Tryz.vfield25x0 Tryz.vfield25x1 Tryz.vfield25x2 Tryz.vplaces25 Tryz.vzero25 Tryz.vt29 Tryz.velem29 Tryz.notInt29 Tryz.vkind29 Tryz.vt31 Tryz.vfield31x0 Tryz.vfield31x1 Tryz.vfield31x2 Tryz.vplaces31 Tryz.vzero31 Tryz.vt32 Tryz.velem32 Tryz.notInt32 Tryz.vkind32 Tryz.vt34 Tryz.vfield34x0 Tryz.vfield34x1 Tryz.vplaces34 Tryz.vzero34 Tryz.vt35 Tryz.velem35 Tryz.notInt35 Tryz.vkind35 Tryz.vt36 Tryz.velem36 Tryz.notInt36 Tryz.vkind36 Tryz.vt38 Tryz.vfield38x0 Tryz.vplaces38 Tryz.vzero38 Tryz.vt39 Tryz.velem39 Tryz.notInt39 Tryz.vkind39 Tryz.vt41 Tryz.vfield41x0 Tryz.vfield41x1 Tryz.vfield41x2 Tryz.vfield41x3 Tryz.vfield41x4 Tryz.vfield41x5 Tryz.vfield41x6 Tryz.vfield41x7 Tryz.vplaces41 Tryz.vzero41 Tryz.velem44 Tryz.vkind44 Tryz.vt45 Tryz.vzero45 Tryz.vt52 Tryz.velem52 Tryz.notInt52 Tryz.vkind52 Tryz.vt54 Tryz.vt56 Tryz.vfield56x0 Tryz.vfield56x1 Tryz.vplaces56 Tryz.vzero56 Tryz.leaves56 Tryz.eqg56 Tryz.vt58 Tryz.vfield58x0 Tryz.vfield58x1 Tryz.vfield58x2 Tryz.vfield58x3 Tryz.vplaces58 Tryz.vzero58 Tryz.leaves58 Tryz.eqg58 Tryz.vt60 Tryz.vfield60x0 Tryz.vfield60x1 Tryz.vfield60x2 Tryz.vfield60x3 Tryz.vfield60x4 Tryz.vfield60x5 Tryz.vfield60x6 Tryz.vfield60x7 Tryz.vplaces60 Tryz.vzero60 Tryz.bytes60 Tryz.leaves60 Tryz.eqg60 Tryz.vt69 Tryz.velem69 Tryz.vplaces69 Tryz.vzero69 Tryz.velem70 Tryz.vkind70 Tryz.vfield78x0 Tryz.vfield78x1 Tryz.vplaces78 Tryz.vzero78 Tryz.vt79 Tryz.velem79 Tryz.notInt79 Tryz.vkind79 Tryz.vt80 Tryz.velem80 Tryz.notInt80 Tryz.vkind80 Tryz.vt82 Tryz.vfield82x0 Tryz.vfield82x1 Tryz.vfield82x2 Tryz.vfield82x3 Tryz.vfield82x4 Tryz.vplaces82 Tryz.vzero82 Tryz.vt84 Tryz.vfield84x0 Tryz.vfield84x1 Tryz.vplaces84 Tryz.vzero84 Tryz.vfield94x0 Tryz.vfield94x1 Tryz.vfield94x2 Tryz.vplaces94 Tryz.vt100 Tryz.vt102 Tryz.vfield102x0 Tryz.vfield102x1 Tryz.vplaces102 Tryz.vzero102 Tryz.velem109 Tryz.notInt109 Tryz.vt110 Tryz.velem110 Tryz.notInt110 Tryz.velem113 Tryz.notInt113 Tryz.vkind113 Tryz.vfield119x2 Tryz.vfield119x4 Tryz.vplaces119 Tryz.vzero119 Tryz.vt125 Tryz.vt127 Tryz.vfield127x0 Tryz.vfield127x1 Tryz.vfield127x2 Tryz.vfield127x3 Tryz.vfield127x4 Tryz.vfield127x5 Tryz.vfield127x6 Tryz.vplaces127 Tryz.vzero127 Tryz.vt128 Tryz.velem128 Tryz.vplaces128 Tryz.vzero128 Tryz.vfield136x0 Tryz.vfield136x1 Tryz.vfield136x2 Tryz.vfield136x3 Tryz.vplaces136 Tryz.vzero136 Tryz.vt138 Tryz.vfield138x0 Tryz.vfield138x1 Tryz.vfield138x2 Tryz.vfield138x3 Tryz.vfield138x4 Tryz.vplaces138 Tryz.vzero138 Tryz.bytes138 Tryz.vt141 Tryz.vfield141x0 Tryz.vfield141x1 Tryz.vfield141x2 Tryz.vfield141x3 Tryz.vplaces141 Tryz.vzero141 Tryz.leaves141 Tryz.eqg141 Tryz.vt143 Tryz.vfield143x0 Tryz.vfield143x1 Tryz.vfield143x2 Tryz.vfield143x3 Tryz.vfield143x4 Tryz.vfield143x5 Tryz.vplaces143 Tryz.vzero143 Tryz.bytes143 Tryz.vplaces175 Tryz.vzero175 Tryz.bytes175 Tryz.velem176 Tryz.vt178 Tryz.vfield178x0 Tryz.vfield178x1 Tryz.vfield178x2 Tryz.vplaces178 Tryz.vzero178 Tryz.vt182 Tryz.vfield182x0 Tryz.vfield182x1 Tryz.vfield182x2 Tryz.vfield182x3 Tryz.vplaces182 Tryz.vzero182 Tryz.bytes182 Tryz.vt190 Tryz.vfield190x0 Tryz.vfield190x1 Tryz.vfield190x2 Tryz.vplaces190 Tryz.vzero190 Tryz.bytes190 Tryz.vt197 Tryz.vfield197x0 Tryz.vfield197x1 Tryz.vplaces197 Tryz.vzero197 Tryz.leaves197 Tryz.eqg197 Tryz.vt210 Tryz.vfield210x0 Tryz.vfield210x1 Tryz.vfield210x2 Tryz.vfield210x3 Tryz.vfield210x4 Tryz.vplaces210 Tryz.vzero210 Tryz.vt218 Tryz.vfield218x0 Tryz.vfield218x1 Tryz.vfield218x2 Tryz.vfield218x3 Tryz.vfield218x4 Tryz.vfield218x5 Tryz.vplaces218 Tryz.vzero218 Tryz.bytes218 Tryz.vt222 Tryz.vfield222x0 Tryz.vfield222x1 Tryz.vfield222x2 Tryz.vplaces222 Tryz.vzero222 Tryz.bytes222 Tryz.leaves222 Tryz.eqg222 Tryz.vkind249 Tryz.vzero254 Tryz.bytes254 Tryz.vt267 Tryz.vfield267x0 Tryz.vfield267x1 Tryz.vfield267x2 Tryz.vfield267x3 Tryz.vfield267x4 Tryz.vfield267x5 Tryz.vfield267x6 Tryz.vplaces267 Tryz.vzero267 Tryz.vt278 Tryz.vfield278x0 Tryz.vfield278x1 Tryz.vfield278x2 Tryz.vzero278 Tryz.bytes278 Tryz.vkind297 Tryz.vkind298 Tryz.vfield340x0 Tryz.vfield340x1 Tryz.vfield340x2 Tryz.vplaces340 Tryz.vzero340 Tryz.vfield350x0 Tryz.vfield350x1 Tryz.vfield350x2 Tryz.vplaces350 Tryz.vzero350
end Go.Proofs
namespace Go.Proofs.YtepcgifhpjapkaaGreat
open Go.V Go
open Tryz (prog)
section
structure Ce where
  set:Bool
  data:List UInt8
structure Ch where
  pg:Int
  sl:Int
  b:Ce
  a:Ce
structure E where
  lsn:Int
  kind:Int
  tx:Int
  ptx:Int
  ppg:Int
  ref:Int
  c:Ch
  blob:List UInt8
def Ce.d (x:Ce):List DV:=[.bool x.set,.pv (.str x.data)]
def Ch.d (x:Ch):List DV:=[.int .i64 x.pg,.int .i64 x.sl,.bool x.b.set,.pv (.str x.b.data),.bool x.a.set,.pv (.str x.a.data)]
def E.d (x:E):List DV:=[.int .i64 x.lsn,.int .i64 x.kind,.int .i64 x.tx,.int .i64 x.ptx,.int .i64 x.ppg,.int .i64 x.ref,.int .i64 x.c.pg,.int .i64 x.c.sl,.bool x.c.b.set,.pv (.str x.c.b.data),.bool x.c.a.set,.pv (.str x.c.a.data),.pv (.str x.blob)]
def Ce0:Ce:=⟨false,[]⟩
def Ch0:Ch:=⟨0,0,Ce0,Ce0⟩
def E0:E:=⟨0,0,0,0,0,0,Ch0,[]⟩
def Ce.okB (x:Ce):Bool:=decide (x.data.length<=12) && (x.set || x.data == [])
def Ch.okB (x:Ch):Bool:=decide (0<=x.pg) && decide (x.pg < 64) && decide (0<=x.sl) && decide (x.sl < 16) && x.b.okB && x.a.okB
def Ce.no (x:Ce):Bool:=!x.set && x.data == []
def Ch.no (x:Ch):Bool:=x.pg == 0 && x.sl == 0 && x.b.no && x.a.no
def bef (n l:Int):Bool:=decide (0<=n) && decide (n < l)
attribute [local go_sem] Ce.d Ch.d E.d QJ Q3
theorem QnA (x:Ce):VCalls prog 102 [.agg x.d] [] (Ret (.bool x.okB)):=by
  refine dd Tryz.func102 ?_
  (unfold Tryz.f102; refine rn trivial ?_)
  refine rn F ?_
  repeat' (first
    | with_reducible exact ⟨⟩
    | (refine sG F ?_ ?_<;>intro hZ))
  all_goals (first | rfl | (congr 3; rw [Bool.eq_iff_iff]; (try simp only [Ce.okB,decide_eq_true_eq,Bool.and_eq_true,Bool.or_eq_true,Bool.not_eq_true',Bool.not_eq_false',decide_eq_false_iff_not,beq_iff_eq,bne_iff_ne,ne_eq,Bool.false_eq_true,Bool.true_eq_false,iff_true,true_iff,iff_false,false_iff]); first | done | omega | grind))
theorem Qgp (x:Ce):VCalls prog 115 [.agg x.d] [] (Ret (.bool x.okB)):=by
  refine dd Tryz.func115 ?_
  (unfold Tryz.f115; refine rn trivial ?_)
  refine rn F ?_
  repeat' (first
    | with_reducible exact ⟨⟩
    | (refine sG F ?_ ?_<;>intro hZ))
  all_goals (first | rfl | (congr 3; rw [Bool.eq_iff_iff]; (try simp only [Ce.okB,decide_eq_true_eq,Bool.and_eq_true,Bool.or_eq_true,Bool.not_eq_true',Bool.not_eq_false',decide_eq_false_iff_not,beq_iff_eq,bne_iff_ne,ne_eq,Bool.false_eq_true,Bool.true_eq_false,iff_true,true_iff,iff_false,false_iff]); first | done | omega | grind))
theorem QBH (x:Ch):VCalls prog 81 [.agg x.d] [] (Ret (.bool x.no)):=by
  refine dd Tryz.func81 ?_
  (unfold Tryz.f81; refine rn trivial ?_)
  simp only [Ch.no,Ce.no,Bool.and_assoc]
theorem Qjf (n:Int) (x:E):VCalls prog 66 [.int .i64 n,.agg x.d] [] (Ret (.bool (bef n x.lsn))):=by
  refine dd Tryz.func66 ?_
  (unfold Tryz.f66; refine rn trivial ?_)
  refine rn F ?_
  repeat' (first
    | with_reducible exact ⟨⟩
    | (refine sG F ?_ ?_<;>intro hZ))
  all_goals (first | rfl | (congr 3; rw [Bool.eq_iff_iff]; (try simp only [bef,decide_eq_true_eq,Bool.and_eq_true,Bool.or_eq_true,Bool.not_eq_true',Bool.not_eq_false',decide_eq_false_iff_not,beq_iff_eq,bne_iff_ne,ne_eq,Bool.false_eq_true,Bool.true_eq_false,iff_true,true_iff,iff_false,false_iff]); first | done | omega | grind))
theorem Qgq (n l:Int):VCalls prog 79 [.int .i64 n,.int .i64 l] [] (Ret (.bool (bef n l))):=by
  refine dd Tryz.func79 ?_
  (unfold Tryz.f79; refine rn trivial ?_)
  refine rn F ?_
  repeat' (first
    | with_reducible exact ⟨⟩
    | (refine sG F ?_ ?_<;>intro hZ))
  all_goals (first | rfl | (congr 3; rw [Bool.eq_iff_iff]; (try simp only [bef,decide_eq_true_eq,Bool.and_eq_true,Bool.or_eq_true,Bool.not_eq_true',Bool.not_eq_false',decide_eq_false_iff_not,beq_iff_eq,bne_iff_ne,ne_eq,Bool.false_eq_true,Bool.true_eq_false,iff_true,true_iff,iff_false,false_iff]); first | done | omega | grind))
theorem QyQ (n:Int):VCalls prog 101 [.int .i64 n] [] (Ret (.bool (decide (0<=n) && decide (n < 64)))):=by
  refine dd Tryz.func101 ?_
  (unfold Tryz.f101; refine rn trivial ?_)
  refine rn F ?_
  repeat' (first
    | with_reducible exact ⟨⟩
    | (refine sG F ?_ ?_<;>intro hZ))
  all_goals (first | rfl | (congr 3; rw [Bool.eq_iff_iff]; (try simp only [decide_eq_true_eq,Bool.and_eq_true,Bool.or_eq_true,Bool.not_eq_true',Bool.not_eq_false',decide_eq_false_iff_not,beq_iff_eq,bne_iff_ne,ne_eq,Bool.false_eq_true,Bool.true_eq_false,iff_true,true_iff,iff_false,false_iff]); first | done | omega | grind))
theorem Qwq (x:E):VCalls prog 80 [.agg x.d] [] (Ret (.bool true)):=by
  refine dd Tryz.func80 ?_
  (unfold Tryz.f80; refine rn trivial ?_; try with_reducible exact ⟨⟩)
theorem Qqh (x:E):VCalls prog 83 [.agg x.d] [] (Ret (.bool (decide (1<=x.ref) && decide (x.ref<=x.ptx)))):=by
  refine dd Tryz.func83 ?_
  (unfold Tryz.f83; refine rn trivial ?_)
  refine rn F ?_
  repeat' (first
    | with_reducible exact ⟨⟩
    | (refine sG F ?_ ?_<;>intro hZ))
  all_goals (first | rfl | (congr 3; rw [Bool.eq_iff_iff]; (try simp only [decide_eq_true_eq,Bool.and_eq_true,Bool.or_eq_true,Bool.not_eq_true',Bool.not_eq_false',decide_eq_false_iff_not,beq_iff_eq,bne_iff_ne,ne_eq,Bool.false_eq_true,Bool.true_eq_false,iff_true,true_iff,iff_false,false_iff]); first | done | omega | grind))
def Ch.ix (x:Ch):Bool:=x.sl == 0 && x.b.no && x.a.no && decide (0<=x.pg) && decide (x.pg < 64)
theorem Qzs (x:Ch):VCalls prog 84 [.agg x.d] [] (Ret (.bool x.ix)):=by
  refine dd Tryz.func84 ?_
  (unfold Tryz.f84; refine rn trivial ?_)
  refine rn F ?_
  repeat' (first
    | with_reducible exact ⟨⟩
    | (refine sG F ?_ ?_<;>intro hZ))
  all_goals (first | rfl | (congr 3; rw [Bool.eq_iff_iff]; (try simp only [Ch.ix,Ce.no,decide_eq_true_eq,Bool.and_eq_true,Bool.or_eq_true,Bool.not_eq_true',Bool.not_eq_false',decide_eq_false_iff_not,beq_iff_eq,bne_iff_ne,ne_eq,Bool.false_eq_true,Bool.true_eq_false,iff_true,true_iff,iff_false,false_iff]); first | done | omega | grind))
theorem QgX (x:E):VCalls prog 43 [.agg x.d] [] (Ret (.bool (x.kind == 1 || x.kind == 2))):=by
  refine dd Tryz.func43 ?_
  (unfold Tryz.f43; refine rn trivial ?_)
  refine rn F ?_
  repeat' (first
    | with_reducible exact ⟨⟩
    | (refine sG F ?_ ?_<;>intro hZ))
  all_goals (first | rfl | (congr 3; rw [Bool.eq_iff_iff]; (try simp only [decide_eq_true_eq,Bool.and_eq_true,Bool.or_eq_true,Bool.not_eq_true',Bool.not_eq_false',decide_eq_false_iff_not,beq_iff_eq,bne_iff_ne,ne_eq,Bool.false_eq_true,Bool.true_eq_false,iff_true,true_iff,iff_false,false_iff]); first | done | omega | grind))
theorem QaX (x:E):VCalls prog 17 [.agg x.d] [] (Ret (.bool (x.kind == 1 || x.kind == 2))):=by
  refine dd Tryz.func17 ?_
  (unfold Tryz.f17; refine rn trivial ?_)
  refine rn F ?_
  repeat' (first
    | with_reducible exact ⟨⟩
    | (refine sG F ?_ ?_<;>intro hZ))
  all_goals (first | rfl | (congr 3; rw [Bool.eq_iff_iff]; (try simp only [decide_eq_true_eq,Bool.and_eq_true,Bool.or_eq_true,Bool.not_eq_true',Bool.not_eq_false',decide_eq_false_iff_not,beq_iff_eq,bne_iff_ne,ne_eq,Bool.false_eq_true,Bool.true_eq_false,iff_true,true_iff,iff_false,false_iff]); first | done | omega | grind))
theorem QCe (x:Ch):VCalls prog 82 [.agg x.d] [] (Ret (.bool x.okB)):=by
  refine dd Tryz.func82 ?_
  (unfold Tryz.f82; refine rn trivial ?_)
  refine rn F ?_
  repeat' (first
    | with_reducible exact ⟨⟩
    | (refine sG F ?_ ?_<;>intro hZ)
    | refine vp F (QyQ x.pg) ?_
    | refine vp F (QnA x.b) ?_
    | refine vp F (QnA x.a) ?_)
  all_goals (first | rfl | (congr 3; rw [Bool.eq_iff_iff]; (try simp only [Ch.okB,decide_eq_true_eq,Bool.and_eq_true,Bool.or_eq_true,Bool.not_eq_true',Bool.not_eq_false',decide_eq_false_iff_not,beq_iff_eq,bne_iff_ne,ne_eq,Bool.false_eq_true,Bool.true_eq_false,iff_true,true_iff,iff_false,false_iff]); first | done | omega | grind))
theorem Qrn (x:Ch):VCalls prog 100 [.agg x.d] [] (Ret (.bool x.okB)):=by
  refine dd Tryz.func100 ?_
  (unfold Tryz.f100; refine rn trivial ?_)
  refine rn F ?_
  repeat' (first
    | with_reducible exact ⟨⟩
    | (refine sG F ?_ ?_<;>intro hZ)
    | refine vp F (Qgp x.b) ?_
    | refine vp F (Qgp x.a) ?_)
  all_goals (first | rfl | (congr 3; rw [Bool.eq_iff_iff]; (try simp only [Ch.okB,decide_eq_true_eq,Bool.and_eq_true,Bool.or_eq_true,Bool.not_eq_true',Bool.not_eq_false',decide_eq_false_iff_not,beq_iff_eq,bne_iff_ne,ne_eq,Bool.false_eq_true,Bool.true_eq_false,iff_true,true_iff,iff_false,false_iff]); first | done | omega | grind))
def rl (tx ch pg rf bl:Bool) (f g:Nat):List DV:=[.bool tx,.bool ch,.bool pg,.bool rf,.bool bl,.fn (.func f) [] [],.fn (.func g) [] []]
def rl0:List DV:=[.bool false,.bool false,.bool false,.bool false,.bool false,.pv (.lit .nilFunc),.pv (.lit .nilFunc)]
def QuL:List DV:=rl true true false false false 80 81
def Qq3:List DV:=rl false false false false true 80 81
def QBj:List DV:=rl0 ++ rl true false true false false 80 82 ++ rl true true true true false 83 82 ++ QuL ++ QuL ++ QuL ++ Qq3 ++ rl false false false true false 80 84 ++ Qq3
theorem Qye:VCalls prog 67 [] [] (Ret (.agg QBj)):=by
  refine dd Tryz.func67 ?_
  (unfold Tryz.f67; refine rn trivial ?_)
  rfl
end
section
attribute [local go_sem] QBj rl0 rl QuL Qq3
def txB (n:Int):Bool:=decide (1<=n) && decide (n<=1073741824)
def E.kindB (e:E):Bool:=
  if e.kind = 1 then txB e.tx && e.ref == 0 && e.blob == [] && e.c.okB
  else if e.kind = 2 then txB e.tx && e.ptx != 0 && e.blob == [] && decide (1<=e.ref) && decide (e.ref<=e.ptx) && e.c.okB
  else if e.kind = 3\/e.kind = 4\/e.kind = 5 then txB e.tx && e.ptx != 0 && e.ppg == 0 && e.ref == 0 && e.blob == [] && e.c.no
  else if e.kind = 6\/e.kind = 8 then e.tx == 0 && e.ptx == 0 && e.ppg == 0 && e.ref == 0 && decide (e.blob.length<=8192) && e.c.no
  else if e.kind = 7 then e.tx == 0 && e.ptx == 0 && e.ppg == 0 && e.blob == [] && e.c.ix
  else false
def E.okB (e:E):Bool:=decide (1<=e.lsn) && decide (e.lsn<=1099511627776) && bef e.ptx e.lsn && bef e.ppg e.lsn && bef e.ref e.lsn && e.kindB
theorem Qnl (lsn kind tx ptx ppg ref:Int) (c:Ch) (blob:List UInt8):(⟨lsn,kind,tx,ptx,ppg,ref,c,blob⟩:E).kindB =
  if kind = 1 then txB tx && ref == 0 && blob == [] && c.okB
  else if kind = 2 then txB tx && ptx != 0 && blob == [] && decide (1<=ref) && decide (ref<=ptx) && c.okB
  else if kind = 3\/kind = 4\/kind = 5 then txB tx && ptx != 0 && ppg == 0 && ref == 0 && blob == [] && c.no
  else if kind = 6\/kind = 8 then tx == 0 && ptx == 0 && ppg == 0 && ref == 0 && decide (blob.length<=8192) && c.no
  else if kind = 7 then tx == 0 && ptx == 0 && ppg == 0 && blob == [] && c.ix
  else false:=rfl
theorem Qvy {e:E} (h:e.kind < 1\/8 < e.kind):e.kindB = false:=by
  unfold E.kindB; rw [if_neg (by omega),if_neg (by omega),if_neg (by omega),if_neg (by omega),if_neg (by omega)]
theorem QeS (k:Int):(k < 1\/8 < k)\/k = 1\/k = 2\/k = 3\/k = 4\/k = 5\/k = 6\/k = 7\/k = 8:=by omega
theorem Qqe (e:E):VCalls prog 51 [.agg e.d] [] (Ret (.bool e.okB)):=by
  refine dd Tryz.func51 ?_
  obtain ⟨lsn,kind,tx,ptx,ppg,ref,c,blob⟩:=e
  have r1:=Qjf ptx ⟨lsn,kind,tx,ptx,ppg,ref,c,blob⟩
  have r2:=Qjf ppg ⟨lsn,kind,tx,ptx,ppg,ref,c,blob⟩
  have r3:=Qjf ref ⟨lsn,kind,tx,ptx,ppg,ref,c,blob⟩
  have r4:=Qwq ⟨lsn,kind,tx,ptx,ppg,ref,c,blob⟩
  have r5:=Qqh ⟨lsn,kind,tx,ptx,ppg,ref,c,blob⟩
  have q1:=QBH c
  have q2:=QCe c
  have q3:=Qzs c
  have e1:(⟨lsn,kind,tx,ptx,ppg,ref,c,blob⟩:E).okB = (decide (1<=lsn) && decide (lsn<=1099511627776) && bef ptx lsn && bef ppg lsn && bef ref lsn && (⟨lsn,kind,tx,ptx,ppg,ref,c,blob⟩:E).kindB):=rfl
  dsimp only [E.d] at *
  generalize bef ptx lsn = B1 at *
  generalize bef ppg lsn = B2 at *
  generalize bef ref lsn = B3 at *
  have e2:=Qnl lsn kind tx ptx ppg ref c blob
  dsimp only [Ch.d] at q1 q2 q3
  generalize c.no = N at *
  generalize c.okB = K at *
  generalize c.ix = X at *
  have e3:=@Qvy ⟨lsn,kind,tx,ptx,ppg,ref,c,blob⟩
  dsimp only at e3
  generalize (⟨lsn,kind,tx,ptx,ppg,ref,c,blob⟩:E).kindB = Q at *
  generalize (⟨lsn,kind,tx,ptx,ppg,ref,c,blob⟩:E).okB = R at *
  (unfold Tryz.f51; refine rn trivial ?_)
  refine rn F ?_
  repeat' (first
    | with_reducible exact ⟨⟩
    | (refine sG F ?_ ?_<;>intro hZ)
    | (refine sB F ?_ ?_<;>intro hZ)
    | refine vp F (r1) ?_
    | refine vp F (r2) ?_
    | refine vp F (r3) ?_
    | (refine Qb (id:=3) [1,2] [⟨[4],[],0,[1,2],[3]⟩,⟨[4],[4],5,[],[]⟩] (by kernel_rfl) (by kernel_rfl) ?_; refine rn F ?_))
  all_goals first
    | (congr 3; rw [Bool.eq_iff_iff,e1]; simp only [Bool.and_eq_true,decide_eq_true_eq,Bool.false_eq_true,false_iff]; first | omega | (intro h; simp_all; done) | (intro h; rw [e3 (by omega)] at h; simp at h; done))
    | skip
  all_goals
    have hT:R = Q:=by rw [e1]; simp_all
    rcases QeS kind with hk | rfl | rfl | rfl | rfl | rfl | rfl | rfl | rfl
    · omega
  all_goals
    refine rn F ?_
    repeat' (first
      | with_reducible exact ⟨⟩
      | (refine sG F ?_ ?_<;>intro hZ)
      | (refine sB F ?_ ?_<;>intro hZ)
      | refine vp F (Qye) ?_
      | refine vp F (r4) ?_
      | refine vp F (r5) ?_
      | refine vp F (q1) ?_
      | refine vp F (q2) ?_
      | refine vp F (q3) ?_)
  all_goals (try (congr 3; rw [hT,Bool.eq_iff_iff,e2]; clear hT e1 e2 e3 r1 r2 r3 r4 r5 q1 q2 q3; simp [txB]; first | omega | grind))
  all_goals skip
end
section
def encE:Enc E:=⟨13,fun x=>[.lit (.int .i64 x.lsn),.lit (.int .i64 x.kind),.lit (.int .i64 x.tx),.lit (.int .i64 x.ptx),.lit (.int .i64 x.ppg),.lit (.int .i64 x.ref),.lit (.int .i64 x.c.pg),.lit (.int .i64 x.c.sl),.lit (.bool x.c.b.set),.str x.c.b.data,.lit (.bool x.c.a.set),.str x.c.a.data,.str x.blob],by decide,fun _=>rfl⟩
theorem QgI (l:List E):(cells encE l).length = l.length * 13:=QS encE l
theorem QhG (l:List E) (n:Nat) (h:l.length * 13<=n):(cells encE l).take n = cells encE l:=by rw [List.take_of_length_le]; rw [QgI]; exact h
theorem Qho (l:List E) (T:TypeId) (a b:Nat) (h:a<=b/\b<=l.length):QnH (some (none,T,13)) (fz encE l) a b = some (.pv (.sl (fz encE ((l.take b).drop a)))):=QfZ encE l T a b h
theorem Qhn (l:List E):(fz encE l = []\/(fz encE l)[0]?.map List.length = some 13) = True:=Qfh encE l
theorem QhA {n:Nat} {hp:Qa} {len:Nat} {l:List E} (h:l.length = len):QkP n hp 0 13 len (some (cells encE l)) = some (.sl (fz encE l)):=QY encE h
theorem QcW (l:List E) (e:E):cells encE l ++ [.pv (.lit (.int .i64 e.lsn)),.pv (.lit (.int .i64 e.kind)),.pv (.lit (.int .i64 e.tx)),.pv (.lit (.int .i64 e.ptx)),.pv (.lit (.int .i64 e.ppg)),.pv (.lit (.int .i64 e.ref)),.pv (.lit (.int .i64 e.c.pg)),.pv (.lit (.int .i64 e.c.sl)),.pv (.lit (.bool e.c.b.set)),.pv (.str e.c.b.data),.pv (.lit (.bool e.c.a.set)),.pv (.str e.c.a.data),.pv (.str e.blob)] = cells encE (l ++ [e]):=by rw [QE]; rfl
theorem Qk {α:Type} (l:List α) (i:Nat) (h:i < l.length) (d:α):l.getD i d = l[i]:=by rw [List.getD_eq_getElem?_getD,List.getElem?_eq_getElem h]; rfl
structure To (n:Nat) where
  i:Nat
  hi:i<=n
structure Okay (n:Nat) (c:Nat->Bool) where
  i:Nat
  hi:i<=n
  ok:∀ k,k < i->c k = true
def Okay.start (n:Nat) (c:Nat->Bool):Okay n c:=⟨0,Nat.zero_le _,fun k h=>by omega⟩
def Okay.next {n:Nat} {c:Nat->Bool} (s:Okay n c) (h:s.i < n) (hc:c s.i = true):Okay n c:=⟨s.i + 1,h,fun k hk=>by
  rcases Nat.lt_or_ge k s.i with hlt | hge
  · exact s.ok k hlt
  · obtain rfl:k = s.i:=by omega
    exact hc⟩
theorem Okay.all {n:Nat} {c:Nat->Bool} (s:Okay n c) (h:¬ s.i < n):(List.range n).all c = true:=by
  rw [List.all_eq_true]
  intro k hk
  rw [List.mem_range] at hk
  exact s.ok k (by omega)
theorem Qcj {n:Nat} {c:Nat->Bool} {i:Nat} (h:i < n) (hc:c i = false):(List.range n).all c = false:=by
  rw [List.all_eq_false]
  exact ⟨i,List.mem_range.2 h,by rw [hc]; decide⟩
theorem QvP (l:List E) (i:Nat) (h:i < l.length):(fz encE l)[i]? = some [.lit (.int .i64 (l.getD i E0).lsn),.lit (.int .i64 (l.getD i E0).kind),.lit (.int .i64 (l.getD i E0).tx),.lit (.int .i64 (l.getD i E0).ptx),.lit (.int .i64 (l.getD i E0).ppg),.lit (.int .i64 (l.getD i E0).ref),.lit (.int .i64 (l.getD i E0).c.pg),.lit (.int .i64 (l.getD i E0).c.sl),.lit (.bool (l.getD i E0).c.b.set),.str (l.getD i E0).c.b.data,.lit (.bool (l.getD i E0).c.a.set),.str (l.getD i E0).c.a.data,.str (l.getD i E0).blob]:=by rw [Qk l i h]; exact Qh6 encE l i h
structure Lg where
  f:Int
  es:List E
  d:Int
def Lg.c (x:Lg):List DV:=[.int .i64 x.f,.pv (.sl (fz encE x.es)),.int .i64 x.d]
attribute [local go_sem] Lg.c
def Lg0:Lg:=⟨0,[],0⟩
def Lg.hd (x:Lg):Prop:=1<=x.f/\x.f<=1099511627776/\x.es.length<=4096/\x.f - 1<=x.d/\x.d<=x.f + x.es.length - 1
instance (x:Lg):Decidable x.hd:=by unfold Lg.hd; infer_instance
def lgC (x:Lg) (i:Nat):Bool:=decide ((x.es.getD i E0).lsn = x.f + i) && (x.es.getD i E0).okB
def lgB (x:Lg):Bool:=decide x.hd && (List.range x.es.length).all (lgC x)
def Lg.end_ (x:Lg):Int:=x.f + x.es.length - 1
theorem QB {x:Lg} (h:lgB x = true):x.hd:=by unfold lgB at h; simp at h; exact h.1
theorem QwW (x:Lg) (h1 : -1099511627776<=x.f/\x.f<=1099511627776) (h2:x.es.length<=1000000):VCalls prog 41 [.agg x.c] [] (Ret (.int .i64 x.end_)):=by
  refine dd Tryz.func41 ?_
  obtain ⟨f,es,d⟩:=x
  dsimp only at h1 h2
  (unfold Tryz.f41; refine rn trivial ?_)
  (refine rn F ?_; try with_reducible exact ⟨⟩)
  all_goals rfl
theorem Qdh (x:Lg) (hx:x.es.length<=9223372036854775807):VCalls prog 34 [.agg x.c] [] (Ret (.bool (lgB x))):=by
  refine dd Tryz.func34 ?_
  obtain ⟨f,es,d⟩:=x
  dsimp only at hx
  have hr:=fun (i:Nat)=>Qqe (es.getD i E0)
  have c1:=QwW ⟨f,es,d⟩
  have hlg:∀ i,lgC ⟨f,es,d⟩ i = true ↔ (es.getD i E0).lsn = f + i/\(es.getD i E0).okB = true:=fun i=>by simp [lgC]
  have hB:lgB ⟨f,es,d⟩ = (decide (Lg.hd ⟨f,es,d⟩) && (List.range es.length).all (lgC ⟨f,es,d⟩)):=rfl
  have hH:Lg.hd ⟨f,es,d⟩ = (1<=f/\f<=1099511627776/\es.length<=4096/\f - 1<=d/\d<=f + es.length - 1):=rfl
  have no:¬ Lg.hd ⟨f,es,d⟩->lgB ⟨f,es,d⟩ = false:=fun h=>by rw [hB,decide_eq_false h]; rfl
  unfold Lg.c at c1 |-
  unfold Lg.end_ at c1
  unfold E.d at hr
  dsimp only at c1 |-
  generalize lgC ⟨f,es,d⟩ = lc at *
  generalize lgB ⟨f,es,d⟩ = b at *
  (unfold Tryz.f34; refine rn trivial ?_)
  refine rn F ?_
  repeat' (first
    | with_reducible exact ⟨⟩
    | (refine sG F ?_ ?_<;>intro hZ)
    | (refine sB F ?_ ?_<;>intro hZ)
    | refine vp F (c1 (by omega) (by omega)) ?_
    | (refine Qb (id:=1) [0,1,2,3,4,5,6,7,8,9,10,11,12,13,14,15,16,17,18,19,20,21,22,23,24,25] [⟨[],[],26,[0,1,2,3,4,5,6,7,8,9,10,11,12,13,14,15,16,17,18,19,20,21,23,24],[27,28]⟩] (by kernel_rfl) (by kernel_rfl) ?_; refine rn F ?_))
  all_goals first | (rw [no (by rw [hH]; omega)]) | skip
  refine Qg (fun s:Okay es.length lc=>⟨55,0,[(37,.int .i64 s.i),(36,.int .i64 es.length),(35,.pv (.sl (fz encE es))),(1,.ptr 0 0)],[⟨25,true,[.int .i64 f,.pv (.sl (fz encE es)),.int .i64 d]⟩]⟩) (fun s=>es.length - s.i) (Okay.start _ _) (gc [0]) ?_
  intro s
  have hsi:=s.hi
  have hg:=fun h:s.i < es.length=>QvP es s.i h
  have F:=@hg
  refine rn F ?_
  repeat' (first
    | with_reducible exact ⟨⟩
    | (refine sG F ?_ ?_<;>intro hZ)
    | (refine sB F ?_ ?_<;>intro hZ)
    | refine vp F (hr s.i) ?_)
  all_goals first
    | (rw [hB,Qcj (i:=s.i) (by omega) (Bool.eq_false_iff.2 fun h=>by rw [hlg] at h; omega),Bool.and_false])
    | (rw [hB,Qcj (i:=s.i) (by omega) (Bool.eq_false_iff.2 fun h=>by rw [hlg] at h; exact absurd h.2 (by simp_all)),Bool.and_false])
    | (rw [hB,s.all (by omega),decide_eq_true (by rw [hH]; omega)]; rfl)
    | (exact ⟨s.next (by omega) ((hlg _).2 ⟨by omega,by assumption⟩),by show es.length - (s.i + 1) < es.length - s.i; omega,(gc [0])⟩)
    | skip
end
section
attribute [local go_sem] QgI QhG Qho Qhn QhA QcW Tryz.underlying23
theorem QzW (l:List E):VCalls prog 52 [.pv (.sl (fz encE l))] [] (Ret (.pv (.slc (fz encE l)))):=by
  refine dd Tryz.func52 ?_
  have h3:QpF (some (none,60,13)) (fz encE l) 0 l.length l.length = some (.pv (.slc (fz encE l))):=QtH encE l _
  (unfold Tryz.f52; refine rn @h3 ?_; try with_reducible exact ⟨⟩)
def QdV (x:Lg) (e:E):Lg × Int × Int:=if lgB x = false then (Lg0,0,26) else if x.es.length = 4096\/1099511627776 < x.end_ + 1 then (Lg0,0,21)
  else if ({ e with lsn:=x.end_ + 1 }:E).okB = false then (Lg0,0,12) else (⟨x.f,x.es ++ [{ e with lsn:=x.end_ + 1 }],x.d⟩,x.end_ + 1,0)
def QCn (r:Lg × Int × Int):DV:=.tup [.agg r.1.c,.int .i64 r.2.1,.int .i64 r.2.2]
theorem Qwo (x:Lg) (hx:x.es.length<=9223372036854775807) (e:E):VCalls prog 29 [.agg x.c,.agg e.d] [] (Ret (QCn (QdV x e))):=by
  refine VCalls.unwk ?_
  refine dd Tryz.func29 ?_
  obtain ⟨f,es,d⟩:=x
  dsimp only at hx
  have c1:=Qdh ⟨f,es,d⟩ hx
  have c2:=QwW ⟨f,es,d⟩
  have hh:=@QB ⟨f,es,d⟩
  have c3:=Qqe { e with lsn:=f + es.length - 1 + 1 }
  have e0:QdV ⟨f,es,d⟩ e = if lgB ⟨f,es,d⟩ = false then (Lg0,0,26) else if es.length = 4096\/1099511627776 < f + es.length - 1 + 1 then (Lg0,0,21)
    else if ({ e with lsn:=f + es.length - 1 + 1 }:E).okB = false then (Lg0,0,12) else (⟨f,es ++ [{ e with lsn:=f + es.length - 1 + 1 }],d⟩,f + es.length - 1 + 1,0):=rfl
  unfold Lg.hd at hh
  unfold Lg.end_ at c2
  unfold Lg.c at c1 c2 |-
  unfold E.d at c3 |-
  obtain ⟨lsn,kind,tx,ptx,ppg,ref,c,blob⟩:=e
  dsimp only at *
  have c4:=QzW es
  rw [e0]
  have hl:=QcW es ⟨f + es.length - 1 + 1,kind,tx,ptx,ppg,ref,c,blob⟩
  dsimp only at hl
  cases hv:lgB ⟨f,es,d⟩
  · rw [hv] at c1
    (unfold Tryz.f29; refine rn trivial ?_)
    refine rn F ?_
    repeat' (first
      | with_reducible exact ⟨⟩
      | refine vp F (c1) ?_)
    all_goals first | rfl | contradiction
  rw [hv] at c1
  rw [if_neg (by decide)]
  replace hh:=hh hv
  have hb:(es.length + 1) * 128<=140737488355328:=by omega
  by_cases h1:es.length = 4096\/1099511627776 < f + (es.length:Int) - 1 + 1
  · rw [if_pos h1]
    (unfold Tryz.f29; refine rn trivial ?_)
    refine rn F ?_
    repeat' (first
      | with_reducible exact ⟨⟩
      | (refine sG F ?_ ?_<;>intro hZ)
      | refine vp F (c1) ?_
      | refine vp F (c2 (by omega) (by omega)) ?_)
    all_goals first | rfl | contradiction | omega
  rw [if_neg h1]
  generalize (⟨f + es.length - 1 + 1,kind,tx,ptx,ppg,ref,c,blob⟩:E).okB = ok at *
  cases ok
  · rw [if_pos rfl]
    (unfold Tryz.f29; refine rn trivial ?_)
    refine rn F ?_
    repeat' (first
      | with_reducible exact ⟨⟩
      | refine vp F (c1) ?_
      | refine vp F (c2 (by omega) (by omega)) ?_
      | refine vp F (c3) ?_)
    all_goals first | rfl | contradiction | omega
  · rw [if_neg (by decide)]
    (unfold Tryz.f29; refine rn trivial ?_)
    have F:=(And.intro @hl @hb)
    refine rn F ?_
    repeat' (first
      | with_reducible exact ⟨⟩
      | refine vp F (c1) ?_
      | refine vp F (c2 (by omega) (by omega)) ?_
      | refine vp F (c3) ?_
      | refine vp F (c4) ?_
      | (refine Qb (id:=8) [0,1,3] [⟨[4],[],2,[0,3],[]⟩,⟨[4],[4],5,[0,1,3],[6]⟩,⟨[],[],7,[],[]⟩] (by kernel_rfl) (by kernel_rfl) ?_; refine rn F ?_)
      | (refine Qb (id:=9) [0,1,2] [⟨[],[],3,[1,2],[]⟩,⟨[],[],4,[],[]⟩,⟨[],[],5,[],[]⟩] (by kernel_rfl) (by kernel_rfl) ?_; refine rn F ?_))
    all_goals first | rfl | contradiction | omega | skip
end
section
attribute [local go_sem] QgI QhG Qho Qhn QhA QcW
def Q9 (x:Lg) (n:Int):Lg × Int:=if lgB x = false then (Lg0,26) else if x.end_ < n then (Lg0,14) else (⟨x.f,x.es,if n > x.d then n else x.d⟩,0)
def QAB (x:Lg) (n:Int):Lg × Int:=if lgB x = false then (Lg0,26) else if n < x.f\/x.end_ + 1 < n\/1099511627776 < n then (Lg0,1) else if x.d < n - 1 then (Lg0,15) else (⟨n,x.es.drop (n - x.f).toNat,x.d⟩,0)
def lgD (r:Lg × Int):DV:=.tup [.agg r.1.c,.int .i64 r.2]
end
section
attribute [local go_sem] Ce.d Ch.d E.d
theorem Qtz:vt prog 90 = some none:=by kernel_rfl
theorem Qty:vt prog 91 = some none:=by kernel_rfl
theorem um1:prog.underlying 90 = some (.map 3 117):=by kernel_rfl
theorem um2:prog.underlying 91 = some (.map 3 3):=by kernel_rfl
theorem um3:prog.underlying 92 = some (.map 3 4):=by kernel_rfl
theorem Qza:KeyT prog 3 kI:=QvC (by kernel_rfl)
theorem z1:Qpv prog 117 = some (.pointer none):=by kernel_rfl
theorem z2:Qpv prog 3 = some (.int .i64 0):=by kernel_rfl
theorem z3:Qpv prog 4 = some (.bool false):=by kernel_rfl
attribute [local go_sem] Qtz Qty
def ckC (f:Int) (bt bp bu:Nat):List DV:=[.int .i64 f,.pv (.lit (.map (some bt))),.pv (.lit (.map (some bp))),.pv (.lit (.map (some bu)))]
def QkL:List (Int × Int)->Int->Option Int
  | [],_=>none
  | (a,x) :: r,k=>if a = k then some x else QkL r k
def QtB:List (Int × Int)->Int->Int->List (Int × Int)
  | [],k,v=>[(k,v)]
  | (a,x) :: r,k,v=>if a = k then (a,v) :: r else (a,x) :: QtB r k v
def Qmb (L:List (Int × Int)):List (Int × DV):=L.map fun p=>(p.1,.int .i64 p.2)
theorem Qw1 (L:List (Int × Int)) (k:Int):QgP (Qmb L) k = (QkL L k).map fun x=>DV.int .i64 x:=by
  induction L with
  | nil=>rfl
  | cons p r ih =>
    obtain ⟨a,x⟩:=p
    unfold Qmb at ih |-
    simp only [List.map_cons,QgP,QkL,ih]
    split<;>rfl
theorem QBA (L:List (Int × Int)) (k v:Int):Qha (Qmb L) k (.int .i64 v) = Qmb (QtB L k v):=by
  induction L with
  | nil=>rfl
  | cons p r ih =>
    obtain ⟨a,x⟩:=p
    unfold Qmb at ih |-
    simp only [List.map_cons,Qha,QtB]
    split
    · rfl
    · rw [ih]; rfl
theorem QBV (L:List (Int × Int)) (k:Int):(QgP (Qmb L) k).getD (.int .i64 0) = .int .i64 ((QkL L k).getD 0):=by rw [Qw1]; cases QkL L k<;>rfl
theorem QBU (L:List (Int × Int)) (k:Int):(QgP (Qmb L) k).isSome = (QkL L k).isSome:=by rw [Qw1]; cases QkL L k<;>rfl
def pagedB (f:Int) (L:List (Int × Int)) (e:E):Bool:=match QkL L e.c.pg with
  | none=>decide (e.ppg < f)
  | some x=>decide (e.ppg = x)
theorem Qv7 (hp:Qa) (g:MapsD) (kc bt bp bu:Nat) (f:Int) (e:E) (L:List (Int × Int)) (hk:kc < hp.length) (hc:Qf hp kc = some (ckC f bt bp bu)) (hg:(bp,QcQ kI (Qmb L)) ∈ g) :
    VCallsG prog 59 [.ptr kc 0,.agg e.d] hp g (fun r h' g'=>r = .bool (pagedB f L e)/\(∃ x,h' = hp ++ [x])/\g' = g.map fun p=>if p.1 = bp then (bp,QcQ kI (Qmb (QtB L e.c.pg e.lsn))) else p):=by
  refine QeH (fn:=Tryz.f59) Tryz.func59 rfl (by kernel_rfl) (by simp [Tryz.f59]) (fun c=>?_)
  unfold ckC at hc
  refine VWpG.first (Qc c) ?_
  (unfold Tryz.f59; refine rn trivial ?_)
  refine VWpG.seq ?_
  refine VWpG.drawn (k:=7) (f:=6) (Qc c) (by kernel_rfl) (by kernel_rfl) (by kernel_rfl) (by kernel_rfl) rfl ?_; refine QfW (by kernel_rfl) ?_
  refine rn (And.intro @hk @hc) ?_
  refine QgU (zv:=.int .i64 0) (L:=Qmb L) (k:=e.c.pg) rfl rfl um2 Qza (Qd5 z2) (QfE rfl) rfl hg (QdL rfl) ?_
  rw [QBV,QBU]
  refine rn trivial ?_
  refine VWpG.seq ?_
  refine VWpG.drawn (k:=9) (f:=6) (Qc c) (by kernel_rfl) (by kernel_rfl) (by kernel_rfl) (by kernel_rfl) rfl ?_; refine QfW (by kernel_rfl) ?_
  refine rn (And.intro @hk @hc) ?_
  refine Qja (L:=Qmb L) (k:=e.c.pg) rfl rfl um2 Qza rfl hg (QdL rfl) ?_
  refine rn trivial ?_
  rw [QBA]
  refine VWpG.seq ?_
  refine VWpG.first (Qc c) ?_
  refine rn trivial ?_
  refine VWpG.cond rfl (fun hZ=>?_) (fun hZ=>?_)
  · refine VWpG.plain (Qc c) ?_
    refine rn trivial ?_
    refine QdB (by kernel_rfl) (by kernel_rfl) ?_
    refine rn (And.intro @hk @hc) ?_
    refine ⟨?_,_,rfl⟩
    unfold pagedB
    cases h:QkL L e.c.pg with
    | none=>rfl
    | some x=>simp [h] at hZ
  · refine VWpG.plain (Qc c) ?_
    refine rn trivial ?_
    refine VWpG.plain (Qc c) ?_
    refine rn trivial ?_
    refine ⟨?_,_,rfl⟩
    unfold pagedB
    cases h:QkL L e.c.pg with
    | none=>simp [h] at hZ
    | some x=>exact congrArg DV.bool (Bool.beq_eq_decide_eq _ _)
def rnC (last:Int) (ea ab en:Bool) (p:DV):List DV:=[.int .i64 last,.bool ea,.bool ab,.bool en,p]
theorem QsS (hp:Qa) (g:MapsD) (kc bt bp bu:Nat) (f:Int) (e:E) (L:List (Int × DV)) (hk:kc < hp.length) (hc:Qf hp kc = some (ckC f bt bp bu)) (hg:(bt,QcQ kI L) ∈ g) (hn:QgP L e.tx = none) :
    VCallsG prog 58 [.ptr kc 0,.agg e.d] hp g (fun r h' g'=>r = .bool (decide (e.ptx < f))/\(∃ x,h' = hp ++ [x] ++ [⟨119,true,rnC e.lsn (decide (0 < e.ptx)) false false (.pv (.slc []))⟩])/\g' = g.map fun p=>if p.1 = bt then (bt,QcQ kI (Qha L e.tx (.ptr (hp.length + 1) 0))) else p):=by
  refine QeH (fn:=Tryz.f58) Tryz.func58 rfl (by kernel_rfl) (by simp [Tryz.f58]) (fun c=>?_)
  unfold ckC at hc
  refine VWpG.first (Qc c) ?_
  (unfold Tryz.f58; refine rn trivial ?_)
  refine VWpG.seq ?_
  refine VWpG.drawn (k:=6) (f:=6) (Qc c) (by kernel_rfl) (by kernel_rfl) (by kernel_rfl) (by kernel_rfl) rfl ?_; refine QfW (by kernel_rfl) ?_
  refine rn (And.intro @hk @hc) ?_
  refine QgU (zv:=.pointer none) (L:=L) (k:=e.tx) rfl rfl um1 Qza (Qd5 z1) (QfE rfl) rfl hg (QdL rfl) ?_
  rw [hn]
  refine rn trivial ?_
  refine VWpG.seq ?_
  refine VWpG.first (Qc c) ?_
  refine rn trivial ?_
  refine VWpG.cond rfl (fun hZ=>?_) (fun hZ=>?_)
  · refine VWpG.seq ?_
    refine VWpG.drawn (k:=13) (f:=6) (Qc c) (by kernel_rfl) (by kernel_rfl) (by kernel_rfl) (by kernel_rfl) rfl ?_; refine Qpf [0,1,2,3,4,5,6,7,8,9,10,11] [⟨[],[],12,[0,1,2,3,4,5,6,7,8,9,10],[]⟩] (by kernel_rfl) ?_
    refine rn (And.intro @hk @hc) ?_
    refine Qja (L:=L) (k:=e.tx) rfl rfl um1 Qza rfl hg (QdL rfl) ?_
    refine rn trivial ?_
    refine VWpG.plain (Qc c) ?_
    refine rn trivial ?_
    refine QdB (by kernel_rfl) (by kernel_rfl) ?_
    refine rn (And.intro @hk @hc) ?_
    exact ⟨_,rfl⟩
  · simp at hZ
end
def Qwe (n:Int) (i:Nat):Int:=IntKind.u8.wrap ((IntKind.u64.wrap n).fdiv (2 ^ min (8 * (i:Int)).toNat 64))
def Qk2 (n:Int) (i:Nat):UInt8:=UInt8.ofNat (Qwe n i).toNat
theorem QhJ (x:Int):IntKind.u8.wrap x = x % 256:=by
  simp [IntKind.wrap,IntKind.signed,IntKind.bits]
theorem Qwf (n:Int) (i:Nat):Qwe n i = ((Qk2 n i).toNat:Int):=by
  unfold Qk2 Qwe
  rw [QhJ]
  generalize (IntKind.u64.wrap n).fdiv (2 ^ min (8 * (i:Int)).toNat 64) = y
  simp only [UInt8.toNat_ofNat']
  omega
def Qan (s:List UInt8) (n:Int) (k:Nat):List UInt8:=s ++ (List.range k).map (Qk2 n)
theorem Qo (s:List UInt8) (n:Int) (k:Nat):(Qan s n k).length = s.length + k:=by simp [Qan]
theorem Qrw (s:List UInt8) (n:Int) (k:Nat):Qan s n (k + 1) = Qan s n k ++ [Qk2 n k]:=by simp [Qan,List.range_succ]
theorem QED:bts prog 22 9 = true:=by kernel_rfl
theorem QbT (s:List UInt8) (hs:s.length<=1000000000) (n:Int) (k:Nat) (h1:1<=k) (h8:k<=8):VCalls prog 156 [.pv (.str s),.int .i64 n,.int .i64 k] [] (Ret (.pv (.str (Qan s n k)))):=by
  refine dd Tryz.func156 ?_
  simp (config:={ maxSteps:=2000000 }) (implicitDefEqProofs:=false) (disch:=first | omega | assumption | (simp only []; done) | fail) only [go_sem,Nat.reduceAdd,Nat.reduceBEq,Int.reduceAdd,Int.reduceBEq,Tryz.f156]
  refine Qg (fun i:{i:Nat // i<=k}=>⟨32,0,[(7,.int .i64 i.1),(2,.int .i64 k),(0,.pv (.str (Qan s n i.1))),(1,.int .i64 n)],[]⟩) (fun i=>k - i.1) ⟨0,by omega⟩ (.inl (by simpa only [Qan,List.range_zero,List.map_nil,List.append_nil] using (by refine ⟨rfl,rfl,by simp,?_,?_,.inr ⟨?_,?_⟩⟩<;>(repeat' apply And.intro)<;>first | rfl | trivial | (intro _; first | rfl | apply Qo5)))) ?_
  intro i
  obtain ⟨i,hi⟩:=i
  dsimp only
  simp (config:={ maxSteps:=2000000 }) (implicitDefEqProofs:=false) (disch:=first | omega | assumption | (simp only []; done) | fail) only [go_sem,Nat.reduceBEq,Int.reduceBEq]
  refine Qa7 (fun hc=>?_) (fun hc=>?_)<;>simp only [decide_eq_true_eq,decide_eq_false_iff_not,Bool.or_eq_true,Bool.and_eq_true,Bool.or_eq_false_iff,Bool.and_eq_false_imp,Bool.not_eq_true',Bool.not_eq_false',beq_iff_eq,beq_eq_false_iff_ne,bne_iff_ne,bne_eq_false_iff_eq,ne_eq] at hc
  · have hw8:IntKind.u64.wrap (8 * (i:Int)) = 8 * (i:Int):=by simp [IntKind.wrap,IntKind.signed,IntKind.bits]; omega
    have hl:(Qan s n i).length + 1<=9223372036854775807:=by rw [Qo]; omega
    simp (config:={ maxSteps:=2000000 }) (implicitDefEqProofs:=false) (disch:=first | omega | assumption | (simp only []; done) | fail) only [go_sem,V.splice,V.mk,↓reduceIte,Nat.reduceLT,Nat.reduceLeDiff,Nat.reduceBEq,Int.reduceLT,Int.reduceBEq,hw8,Qev QED,QtX]
    refine ⟨⟨i + 1,by omega⟩,by show k - (i + 1) < k - i; omega,?_⟩
    rw [Qrw]
    refine QBW (keep:=[]) rfl rfl rfl (by decide) trivial ?_
    refine ⟨⟨rfl,rfl⟩,⟨rfl,rfl⟩,⟨rfl,rfl⟩,⟨rfl,rfl⟩,trivial⟩
  · simp (config:={ maxSteps:=2000000 }) (implicitDefEqProofs:=false) (disch:=first | omega | assumption | (simp only []; done) | fail) only [go_sem,↓reduceIte,Nat.reduceLT,Nat.reduceBEq,Int.reduceLT,Int.reduceBEq]
    have hik:i = k:=by omega
    rw [hik]
def rnd (r:Int):Int:=if bits .and .u32 r 1 = 1 then bits .xor .u32 (r.fdiv 2) 2197175160 else r.fdiv 2
def Qoj:Nat->Int->Int
  | 0,r=>r
  | n + 1,r=>rnd (Qoj n r)
def QBq (i:Nat):Int:=Qoj 4 i
def QDb (i:Nat):List Int:=(List.range 16).map fun j=>if j < i then QBq j else 0
def QCU (r:Int):Int:=bits .xor .u32 (r.fdiv (2 ^ min 4 32)) ((QDb 16).getD (bits .and .u32 r 15).toNat 0)
def Qpa (r:Int) (b:UInt8):Int:=QCU (QCU (bits .xor .u32 r (IntKind.u32.wrap b.toNat)))
def QlE (s:List UInt8):Int:=s.foldl Qpa 4294967295
def QlD (s:List UInt8):Int:=bits .xor .u32 4294967295 (QlE s)
theorem Qqq (s:List UInt8) (i:Nat) (h:i < s.length):QlE (s.take (i + 1)) = Qpa (QlE (s.take i)) (s.getD i 0):=by
  rw [QlE,List.take_succ_eq_append_getElem h,List.foldl_append]
  rw [List.getD_eq_getElem?_getD,List.getElem?_eq_getElem h]; rfl
theorem QDf (x:BitVec 32):rnd (x.toNat:Int) = ((rb x).toNat:Int):=by
  have h1:bits .and .u32 (x.toNat:Int) 1 = ((x &&& 1#32).toNat:Int):=QCo x 1#32
  have h2:(x.toNat:Int).fdiv 2 = ((x >>> 1).toNat:Int):=QA9 x 1
  have h3:(x &&& 1#32).toNat = x.toNat % 2:=by rw [BitVec.toNat_and]; exact Nat.and_one_is_mod _
  have h4:x.getLsbD 0 = decide (x.toNat % 2 = 1):=by simp [BitVec.getLsbD,Nat.testBit_zero]
  unfold rnd rb
  rw [h1,h2,h3,h4]
  by_cases h:x.toNat % 2 = 1
  · rw [if_pos (by omega),if_pos (by simpa using h)]
    exact Qpx _ polyB
  · rw [if_neg (by omega),if_neg (by simpa using h)]; simp
theorem QwJ (n:Nat) (x:BitVec 32):Qoj n (x.toNat:Int) = ((rbN n x).toNat:Int):=by
  induction n with
  | zero=>rfl
  | succ n ih=>rw [Qoj,ih,QDf]; rfl
theorem Qw0 (x:BitVec 32):QCU (x.toNat:Int) = ((rbN 4 x).toNat:Int):=by
  have h1:bits .and .u32 (x.toNat:Int) 15 = ((x &&& 15#32).toNat:Int):=QCo x 15#32
  have h15:(x &&& 15#32).toNat < 16:=by rw [BitVec.toNat_and]; exact Nat.lt_succ_of_le Nat.and_le_right
  have h2:(QDb 16).getD (x &&& 15#32).toNat 0 = ((rbN 4 (x &&& 15#32)).toNat:Int):=by
    rw [<- QwJ]
    simp only [QDb,List.getD_eq_getElem?_getD,List.getElem?_map,List.getElem?_range h15,Option.map_some,Option.getD_some,QBq]
    rw [if_pos h15]
  have h3:(x.toNat:Int).fdiv (2 ^ min 4 32) = ((x >>> 4).toNat:Int):=QA9 x 4
  have e1:x = (x &&& 15#32) ^^^ ((x >>> 4) <<< 4):=by
    apply BitVec.eq_of_getLsbD_eq
    intro i hi
    rw [BitVec.getLsbD_xor,BitVec.getLsbD_and,BitVec.getLsbD_shiftLeft,BitVec.getLsbD_ushiftRight]
    by_cases h:i < 4
    · have h15:(15#32).getLsbD i = true:=by
        rcases i with _ | _ | _ | _ | i<;>first | rfl | omega
      simp [h15,h]
    · have h15:(15#32).getLsbD i = false:=by
        have:(15#32).getLsbD i = (15:Nat).testBit i:=by simp [BitVec.getLsbD]
        rw [this]; apply Nat.testBit_lt_two_pow
        exact Nat.lt_of_lt_of_le (show 15 < 2 ^ 4 by omega) (Nat.pow_le_pow_right (by omega) (by omega))
      rw [h15]; simp [h,hi,show 4 + (i - 4) = i by omega]
  have e2:rbN 4 x = rbN 4 (x &&& 15#32) ^^^ (x >>> 4):=by
    have hs:rbN 4 ((x >>> 4) <<< 4) = x >>> 4:=Qx4 _ _ (fun i hi=>by rw [BitVec.getLsbD_ushiftRight]; exact BitVec.getLsbD_of_ge _ _ (by omega)) (by omega)
    conv=>lhs; rw [e1]
    rw [QyI,hs]
  unfold QCU
  rw [h1,h3,Int.toNat_natCast,h2,Qpx,e2,BitVec.xor_comm]
theorem Qte (x:BitVec 32) (b:UInt8):Qpa (x.toNat:Int) b = ((cb x b).toNat:Int):=by
  unfold Qpa
  rw [Qtk,Qpx,Qw0,Qw0,<- QyK]; rfl
theorem Qw6:∀ (s:List UInt8) (x:BitVec 32),s.foldl Qpa (x.toNat:Int) = ((s.foldl cb x).toNat:Int)
  | [],_=>rfl
  | b :: s,x=>by rw [List.foldl_cons,Qte,Qw6 s,List.foldl_cons]
theorem QwE (s:List UInt8):QlE s = ((s.foldl cb 4294967295#32).toNat:Int):=Qw6 s 4294967295#32
theorem QA4 (s:List UInt8):QlD s = ((4294967295#32 ^^^ s.foldl cb 4294967295#32).toNat:Int):=by
  rw [QlD,QwE]; exact Qpx 4294967295#32 _
theorem QlC (s:List UInt8):0<=QlD s/\QlD s < 4294967296:=by
  rw [QA4]
  have:=(4294967295#32 ^^^ s.foldl cb 4294967295#32).isLt
  omega
def Qyi (r:Int) (b:UInt8):Int:=Qoj 8 (bits .xor .u32 r (IntKind.u32.wrap b.toNat))
theorem Quo (x:BitVec 32) (b:UInt8):Qyi (x.toNat:Int) b = Qpa (x.toNat:Int) b:=by
  rw [Qte,Qyi,Qtk,Qpx,QwJ]; rfl
theorem Qn0 (s:List UInt8) (i:Nat) (h:i < s.length):QlE (s.take (i + 1)) = Qyi (QlE (s.take i)) (s.getD i 0):=by
  rw [Qqq s i h,QwE (s.take i),Quo]
theorem QmR (s:List UInt8) (hs:s.length<=100000000):VCalls prog 158 [.pv (.str s)] [] (Ret (.int .u32 (QlD s))):=by
  refine dd Tryz.func158 ?_
  simp (config:={ maxSteps:=2000000 }) (implicitDefEqProofs:=false) (disch:=first | omega | assumption | (simp only []; done) | fail) only [go_sem,Tryz.f158]
  refine QxA (fun i:{i:Nat // i<=s.length}=>⟨32,0,[(4,.int .i64 i.1),(3,.int .u32 (QlE (s.take i.1))),(0,.pv (.str s))],[]⟩) (fun i=>s.length - i.1) ⟨0,by omega⟩ (by refine ⟨rfl,rfl,by simp,?_,?_,.inl rfl⟩<;>(repeat' apply And.intro)<;>first | rfl | trivial) ?_
  intro i
  obtain ⟨i,hi⟩:=i
  dsimp only
  simp (config:={ maxSteps:=2000000 }) (implicitDefEqProofs:=false) (disch:=first | omega | assumption | (simp only []; done) | fail) only [go_sem,Nat.reduceBEq,Int.reduceBEq]
  refine Qa7 (fun hc=>?_) (fun hc=>?_)<;>simp only [decide_eq_true_eq,decide_eq_false_iff_not,Bool.or_eq_true,Bool.and_eq_true,Bool.or_eq_false_iff,Bool.and_eq_false_imp,Bool.not_eq_true',Bool.not_eq_false',beq_iff_eq,beq_eq_false_iff_ne,bne_iff_ne,bne_eq_false_iff_eq,ne_eq] at hc
  · have hlt:i < s.length:=by omega
    have hg:s[i]? = some (s.getD i 0):=by rw [List.getD_eq_getElem?_getD,List.getElem?_eq_getElem hlt]; rfl
    simp (config:={ maxSteps:=2000000 }) (implicitDefEqProofs:=false) (disch:=first | omega | assumption | (simp only []; done) | fail) only [go_sem,Nat.reduceBEq,Int.reduceBEq,hg]
    refine QxA (fun j:{j:Nat // j<=8}=>⟨32,0,[(5,.int .i64 j.1),(4,.int .i64 i),(3,.int .u32 (Qoj j.1 (bits .xor .u32 (QlE (s.take i)) (IntKind.u32.wrap (s.getD i 0).toNat)))),(0,.pv (.str s))],[]⟩) (fun j=>8 - j.1) ⟨0,by omega⟩ (by refine ⟨rfl,rfl,by simp,?_,?_,.inl rfl⟩<;>(repeat' apply And.intro)<;>first | rfl | trivial) ?_
    intro j
    obtain ⟨j,hj⟩:=j
    dsimp only
    simp (config:={ maxSteps:=2000000 }) (implicitDefEqProofs:=false) (disch:=first | omega | assumption | (simp only []; done) | fail) only [go_sem]
    refine Qa7 (fun hcj=>?_) (fun hcj=>?_)<;>simp only [decide_eq_true_eq,decide_eq_false_iff_not,Bool.or_eq_true,Bool.and_eq_true,Bool.or_eq_false_iff,Bool.and_eq_false_imp,Bool.not_eq_true',Bool.not_eq_false',beq_iff_eq,beq_eq_false_iff_ne,bne_iff_ne,bne_eq_false_iff_eq,ne_eq] at hcj
    · simp (config:={ maxSteps:=2000000 }) (implicitDefEqProofs:=false) (disch:=first | omega | assumption | (simp only []; done) | fail) only [go_sem,Nat.reduceBEq,Int.reduceBEq]
      refine Qa7 (fun hb=>?_) (fun hb=>?_)<;>simp only [decide_eq_true_eq,decide_eq_false_iff_not,Bool.or_eq_true,Bool.and_eq_true,Bool.or_eq_false_iff,Bool.and_eq_false_imp,Bool.not_eq_true',Bool.not_eq_false',beq_iff_eq,beq_eq_false_iff_ne,bne_iff_ne,bne_eq_false_iff_eq,ne_eq] at hb
      · simp (config:={ maxSteps:=2000000 }) (implicitDefEqProofs:=false) (disch:=first | omega | assumption | (simp only []; done) | fail) only [go_sem,Nat.reduceBEq,Int.reduceToNat,Int.reduceBEq]
        refine ⟨⟨j + 1,by omega⟩,by show 8 - (j + 1) < 8 - j; omega,?_⟩
        have e:Qoj (j + 1) (bits .xor .u32 (QlE (s.take i)) (IntKind.u32.wrap (s.getD i 0).toNat)) = bits .xor .u32 ((Qoj j (bits .xor .u32 (QlE (s.take i)) (IntKind.u32.wrap (s.getD i 0).toNat))).fdiv 2) 2197175160:=by rw [Qoj,rnd,if_pos hb]
        rw [e]
        exact (by refine ⟨rfl,rfl,by simp,?_,?_,.inl rfl⟩<;>(repeat' apply And.intro)<;>first | rfl | trivial)
      · simp (config:={ maxSteps:=2000000 }) (implicitDefEqProofs:=false) (disch:=first | omega | assumption | (simp only []; done) | fail) only [go_sem,Nat.reduceBEq,Int.reduceToNat,Int.reduceBEq]
        refine ⟨⟨j + 1,by omega⟩,by show 8 - (j + 1) < 8 - j; omega,?_⟩
        have e:Qoj (j + 1) (bits .xor .u32 (QlE (s.take i)) (IntKind.u32.wrap (s.getD i 0).toNat)) = (Qoj j (bits .xor .u32 (QlE (s.take i)) (IntKind.u32.wrap (s.getD i 0).toNat))).fdiv 2:=by rw [Qoj,rnd,if_neg hb]
        rw [e]
        exact (by refine ⟨rfl,rfl,by simp,?_,?_,.inl rfl⟩<;>(repeat' apply And.intro)<;>first | rfl | trivial)
    · have hj8:j = 8:=by omega
      subst hj8
      simp (config:={ maxSteps:=2000000 }) (implicitDefEqProofs:=false) (disch:=first | omega | assumption | (simp only []; done) | fail) only [go_sem,↓reduceIte,Nat.reduceBEq,Int.reduceBEq]
      refine ⟨⟨i + 1,hlt⟩,by show s.length - (i + 1) < s.length - i; omega,?_⟩
      have e:QlE (s.take (i + 1)) = Qoj 8 (bits .xor .u32 (QlE (s.take i)) (IntKind.u32.wrap (s.getD i 0).toNat)):=Qn0 s i hlt
      rw [e]
      exact (by refine ⟨rfl,rfl,by simp,?_,?_,.inl rfl⟩<;>(repeat' apply And.intro)<;>first | rfl | trivial)
  · simp (config:={ maxSteps:=2000000 }) (implicitDefEqProofs:=false) (disch:=first | omega | assumption | (simp only []; done) | fail) only [go_sem,↓reduceIte,Nat.reduceLT,Nat.reduceBEq,Int.reduceLT,Int.reduceBEq]
    rw [List.take_of_length_le (by omega)]
    rfl
def frm (s:List UInt8):List UInt8:=if s.length<=8392 then Qan (Qan [] s.length 4 ++ s) (QlD (Qan [] s.length 4 ++ s)) 4 else []
theorem Qm0 (s:List UInt8) (hs:s.length<=90000000):VCalls prog 214 [.pv (.str s)] [] (Ret (.pv (.str (frm s)))):=by
  refine dd Tryz.func214 ?_
  by_cases h:s.length<=8392
  · have h1:¬ 8392 < (s.length:Int):=by omega
    have hl:=Qo [] s.length 4
    simp only [List.length_nil,Nat.zero_add] at hl
    have hl2:(Qan [] s.length 4 ++ s).length<=10000:=by rw [List.length_append,hl]; omega
    simp (config:={ maxSteps:=2000000 }) (implicitDefEqProofs:=false) (disch:=first | omega | assumption | (simp only []; done) | fail) only [go_sem,Nat.reduceBEq,Int.reduceBEq,Tryz.f214,h1]
    refine Qax (QbT [] (by simp) s.length 4 (by omega) (by omega)) rfl ?_
    simp (config:={ maxSteps:=2000000 }) (implicitDefEqProofs:=false) (disch:=first | omega | assumption | (simp only []; done) | fail) only [go_sem,Nat.reduceBEq,Int.reduceBEq]
    refine Qax (QmR _ (by omega)) rfl ?_
    have hx:=QlC (Qan [] s.length 4 ++ s)
    simp (config:={ maxSteps:=2000000 }) (implicitDefEqProofs:=false) (disch:=first | omega | assumption | (simp only []; done) | fail) only [go_sem,Nat.reduceLT,Nat.reduceBEq,Int.reduceLT,Int.reduceBEq]
    refine Qax (QbT (Qan [] s.length 4 ++ s) (by omega) _ 4 (by omega) (by omega)) rfl ?_
    simp (config:={ maxSteps:=2000000 }) (implicitDefEqProofs:=false) (disch:=first | omega | assumption | (simp only []; done) | fail) only [go_sem,↓reduceIte,frm,h]
  · have h1:8392 < (s.length:Int):=by omega
    simp (config:={ maxSteps:=2000000 }) (implicitDefEqProofs:=false) (disch:=first | omega | assumption | (simp only []; done) | fail) only [go_sem,↓reduceIte,Nat.reduceBEq,Int.reduceBEq,Tryz.f214,h1,frm,h]
section
attribute [local go_sem] E.d Ch0 Ce0
theorem Qy8 (l:List UInt8):decide ((l.length:Int)<=8192) = decide (l.length<=8192):=by
  apply decide_eq_decide.2; omega
def E.shp (e:E):E:=
  if e.kind = 1 then ⟨e.lsn,e.kind,e.tx,e.ptx,e.ppg,0,e.c,[]⟩
  else if e.kind = 2 then ⟨e.lsn,e.kind,e.tx,e.ptx,e.ppg,e.ref,e.c,[]⟩
  else if e.kind = 3\/e.kind = 4\/e.kind = 5 then ⟨e.lsn,e.kind,e.tx,e.ptx,0,0,Ch0,[]⟩
  else if e.kind = 6\/e.kind = 8 then ⟨e.lsn,e.kind,0,0,0,0,Ch0,e.blob⟩
  else if e.kind = 7 then ⟨e.lsn,e.kind,0,0,0,e.ref,⟨e.c.pg,0,Ce0,Ce0⟩,[]⟩
  else ⟨e.lsn,e.kind,0,0,0,0,Ch0,[]⟩
def E.shok (e:E):Bool:=
  if e.kind = 1 then e.c.okB && decide (1<=e.tx) && decide (e.tx<=1073741824)
  else if e.kind = 2 then e.c.okB && decide (0 < e.ptx) && decide (1<=e.ref) && decide (e.ref<=e.ptx) && decide (1<=e.tx) && decide (e.tx<=1073741824)
  else if e.kind = 3\/e.kind = 4\/e.kind = 5 then decide (1<=e.tx) && decide (e.tx<=1073741824) && decide (0 < e.ptx)
  else if e.kind = 6\/e.kind = 8 then decide (e.blob.length<=8192)
  else if e.kind = 7 then decide (0<=e.c.pg) && decide (e.c.pg < 64)
  else false
def shD (e:E):DV:=.tup [.agg e.shp.d,.bool e.shok]
theorem QBa (lsn kind tx ptx ppg ref:Int) (c:Ch) (blob:List UInt8):(⟨lsn,kind,tx,ptx,ppg,ref,c,blob⟩:E).shp =
  if kind = 1 then ⟨lsn,kind,tx,ptx,ppg,0,c,[]⟩
  else if kind = 2 then ⟨lsn,kind,tx,ptx,ppg,ref,c,[]⟩
  else if kind = 3\/kind = 4\/kind = 5 then ⟨lsn,kind,tx,ptx,0,0,Ch0,[]⟩
  else if kind = 6\/kind = 8 then ⟨lsn,kind,0,0,0,0,Ch0,blob⟩
  else if kind = 7 then ⟨lsn,kind,0,0,0,ref,⟨c.pg,0,Ce0,Ce0⟩,[]⟩
  else ⟨lsn,kind,0,0,0,0,Ch0,[]⟩:=rfl
theorem Qx3 (lsn kind tx ptx ppg ref:Int) (c:Ch) (blob:List UInt8):(⟨lsn,kind,tx,ptx,ppg,ref,c,blob⟩:E).shok =
  if kind = 1 then c.okB && decide (1<=tx) && decide (tx<=1073741824)
  else if kind = 2 then c.okB && decide (0 < ptx) && decide (1<=ref) && decide (ref<=ptx) && decide (1<=tx) && decide (tx<=1073741824)
  else if kind = 3\/kind = 4\/kind = 5 then decide (1<=tx) && decide (tx<=1073741824) && decide (0 < ptx)
  else if kind = 6\/kind = 8 then decide (blob.length<=8192)
  else if kind = 7 then decide (0<=c.pg) && decide (c.pg < 64)
  else false:=rfl
theorem Qx5 (e:E):VCalls prog 78 [.agg e.d] [] (Ret (shD e)):=by
  refine dd Tryz.func78 ?_
  unfold shD
  obtain ⟨lsn,kind,tx,ptx,ppg,ref,c,blob⟩:=e
  have q1:=Qrn c
  dsimp only [Ch.d] at q1
  rw [QBa,Qx3]
  generalize c.okB = K at *
  rcases QeS kind with hk | rfl | rfl | rfl | rfl | rfl | rfl | rfl | rfl
  · rw [if_neg (by omega),if_neg (by omega),if_neg (by omega),if_neg (by omega),if_neg (by omega),if_neg (by omega),if_neg (by omega),if_neg (by omega),if_neg (by omega),if_neg (by omega)]
    have k1:(kind == 1) = false:=by simp; omega
    have k2:(kind == 2) = false:=by simp; omega
    have k3:(kind == 3) = false:=by simp; omega
    have k4:(kind == 4) = false:=by simp; omega
    have k5:(kind == 5) = false:=by simp; omega
    have k6:(kind == 6) = false:=by simp; omega
    have k7:(kind == 7) = false:=by simp; omega
    have k8:(kind == 8) = false:=by simp; omega
    (unfold Tryz.f78; refine rn (And.intro @k1 (And.intro @k2 (And.intro @k3 (And.intro @k4 (And.intro @k5 (And.intro @k6 (And.intro @k7 @k8))))))) ?_; try with_reducible exact ⟨⟩)
  all_goals
    (unfold Tryz.f78; refine rn trivial ?_)
    refine rn F ?_
    repeat' (first
      | with_reducible exact ⟨⟩
      | (refine sG F ?_ ?_<;>intro hZ)
      | refine vp F (q1) ?_
      | (refine Qb (id:=5) [0,1,2,3,4,5,6,7,8] [⟨[],[],9,[2,3,4,5,6,7],[10]⟩,⟨[],[],11,[4,5,6,7],[12]⟩,⟨[],[],13,[6,7],[14]⟩,⟨[],[],15,[],[]⟩] (by kernel_rfl) (by kernel_rfl) ?_; refine rn F ?_)
      | (refine Qb (id:=10) [0,1,2,3,4,5,6,7,8,9,10,11] [⟨[],[],12,[1,2,3,4,5,6,8,9,10,11],[]⟩,⟨[],[],13,[],[]⟩] (by kernel_rfl) (by kernel_rfl) ?_; refine rn F ?_)
      | (refine Qb (id:=14) [0,1,2,3,4] [⟨[],[],5,[2,3],[6]⟩,⟨[],[],7,[],[]⟩] (by kernel_rfl) (by kernel_rfl) ?_; refine rn F ?_)
      | (refine Qb (id:=15) [0,1,2,3,4,5,6,7,8,9,10,11,12,13] [⟨[],[],14,[1,2,3,4,5,6,7,8,10,11,12,13],[]⟩,⟨[],[],15,[],[]⟩] (by kernel_rfl) (by kernel_rfl) ?_; refine rn F ?_)
      | (refine Qb (id:=19) [0,1,2,3,4] [⟨[],[],5,[1,2,3,4],[]⟩,⟨[],[],6,[],[]⟩] (by kernel_rfl) (by kernel_rfl) ?_; refine rn F ?_)
      | (refine Qb (id:=21) [0,1,2,3,4,5] [⟨[],[],6,[2,3,4],[7,8]⟩,⟨[],[],9,[7],[]⟩] (by kernel_rfl) (by kernel_rfl) ?_; refine rn F ?_)
      | (refine Qb (id:=22) [0,1,2,3,4,5,6,7,8,9,10] [⟨[],[],11,[1,2,3,4,6,7,8,9,10],[]⟩,⟨[],[],12,[],[]⟩] (by kernel_rfl) (by kernel_rfl) ?_; refine rn F ?_))
  all_goals first | rfl | (simp [Ch0,Ce0,Qy8]; done)
def eqE (x y:E):Bool:=x.lsn == y.lsn && (x.kind == y.kind && (x.tx == y.tx && (x.ptx == y.ptx && (x.ppg == y.ppg && (x.ref == y.ref && (x.c.pg == y.c.pg && (x.c.sl == y.c.sl && (x.c.b.set == y.c.b.set && (x.c.b.data == y.c.b.data && (x.c.a.set == y.c.a.set && (x.c.a.data == y.c.a.data && x.blob == y.blob)))))))))))
theorem QCp (x y:E):QJ x.d y.d [(0,1),(1,1),(2,1),(3,1),(4,1),(5,1),(6,1),(7,1),(8,0),(9,2),(10,0),(11,2),(12,2)] = some (eqE x y):=by
  simp [QJ,Q3,E.d,eqE]
def E.okR (e:E):Bool:=e.shok && eqE e.shp e && decide (1<=e.lsn) && decide (e.lsn<=1099511627776) && bef e.ptx e.lsn && bef e.ppg e.lsn && bef e.ref e.lsn
theorem QqC (e:E):VCalls prog 61 [.agg e.d] [] (Ret (.bool e.okR)):=by
  refine dd Tryz.func61 ?_
  have hq:=QCp e.shp e
  have hs:=Qx5 e
  unfold shD at hs
  simp only [E.d] at hq hs
  have b1:=Qgq e.ptx e.lsn
  have b2:=Qgq e.ppg e.lsn
  have b3:=Qgq e.ref e.lsn
  have e1:e.okR = (e.shok && eqE e.shp e && decide (1<=e.lsn) && decide (e.lsn<=1099511627776) && bef e.ptx e.lsn && bef e.ppg e.lsn && bef e.ref e.lsn):=rfl
  generalize e.okR = R at *
  generalize bef e.ptx e.lsn = B1 at *
  generalize bef e.ppg e.lsn = B2 at *
  generalize bef e.ref e.lsn = B3 at *
  generalize e.shp = s at *
  generalize e.shok = ok at *
  generalize eqE s e = q at *
  (unfold Tryz.f61; refine rn trivial ?_)
  have F:=@hq
  refine rn F ?_
  repeat' (first
    | with_reducible exact ⟨⟩
    | (refine sG F ?_ ?_<;>intro hZ)
    | refine vp F (hs) ?_
    | refine vp F (b1) ?_
    | refine vp F (b2) ?_
    | refine vp F (b3) ?_)
  all_goals (congr 3; rw [e1,Bool.eq_iff_iff]; clear e1 b1 b2 b3 hs hq; simp; first | omega | grind)
theorem QBG (e:E):e.okR = e.okB:=by
  obtain ⟨lsn,kind,tx,ptx,ppg,ref,⟨pg,sl,⟨b1,b2⟩,⟨a1,a2⟩⟩,blob⟩:=e
  rw [Bool.eq_iff_iff]
  by_cases h:kind < 1\/8 < kind
  · have e1:E.shok ⟨lsn,kind,tx,ptx,ppg,ref,⟨pg,sl,⟨b1,b2⟩,⟨a1,a2⟩⟩,blob⟩ = false:=by unfold E.shok; rw [if_neg (by dsimp only; omega),if_neg (by dsimp only; omega),if_neg (by dsimp only; omega),if_neg (by dsimp only; omega),if_neg (by dsimp only; omega)]
    have e2:E.kindB ⟨lsn,kind,tx,ptx,ppg,ref,⟨pg,sl,⟨b1,b2⟩,⟨a1,a2⟩⟩,blob⟩ = false:=by unfold E.kindB; rw [if_neg (by dsimp only; omega),if_neg (by dsimp only; omega),if_neg (by dsimp only; omega),if_neg (by dsimp only; omega),if_neg (by dsimp only; omega)]
    simp [E.okR,E.okB,e1,e2]
  · have hk:kind = 1\/kind = 2\/kind = 3\/kind = 4\/kind = 5\/kind = 6\/kind = 7\/kind = 8:=by omega
    rcases hk with hk | hk | hk | hk | hk | hk | hk | hk<;>subst hk
    all_goals
      simp only [E.okR,E.okB,E.shok,E.shp,E.kindB,eqE,bef,txB,Ch.no,Ce.no,Ch.ix,Ch0,Ce0,Bool.and_eq_true,decide_eq_true_eq,beq_iff_eq,bne_iff_ne,Bool.not_eq_true',reduceIte,Int.reduceEq,or_self,or_false,false_or,or_true,true_or]
      grind
theorem Qca (e:E):VCalls prog 61 [.agg e.d] [] (Ret (.bool e.okB)):=by
  rw [<- QBG]; exact QqC e
end
section
structure Tx where
  id:Int
  st:Int
  n:Int
  b:Int
  l:List Int
  s:List Int
def Qae:Enc Tx:=⟨6,fun t=>[.lit (.int .i64 t.id),.lit (.int .i64 t.st),.lit (.int .i64 t.n),.lit (.int .i64 t.b),.sl (fz QN t.l),.sl (fz QN t.s)],by decide,fun _=>rfl⟩
def Tx.d (t:Tx):List DV:=[.int .i64 t.id,.int .i64 t.st,.int .i64 t.n,.int .i64 t.b,.pv (.sl (fz QN t.l)),.pv (.sl (fz QN t.s))]
def Qz6 (l:List Int) (lo hi d:Int) (i:Nat):Bool:=decide (lo<=l.getD i 0) && decide (l.getD i 0<=hi) && (decide (i = 0) || decide (l.getD (i - 1) 0 + d<=l.getD i 0))
def Qpt (l:List Int) (lo hi d:Int):Bool:=(List.range l.length).all (Qz6 l lo hi d)
theorem Qey (l:List Int) (lo hi d:Int) (i:Nat):Qz6 l lo hi d i = true ↔ lo<=l.getD i 0/\l.getD i 0<=hi/\(i = 0\/l.getD (i - 1) 0 + d<=l.getD i 0):=by
  simp only [Qz6,Bool.and_eq_true,Bool.or_eq_true,decide_eq_true_eq,and_assoc]
def Tx.sm (t:Tx):Prop:=t.l.length<=9223372036854775807/\t.s.length<=9223372036854775807
def Tx.hdB (t:Tx):Bool:=decide (1<=t.id) && decide (t.id<=1073741824) && decide (1<=t.st) && decide (t.st<=3) && decide (0<=t.n) && decide (t.n<=1099511627776) && (decide (t.b = 0) || (decide (t.st = 2) && decide (0 < t.b) && decide (t.b<=t.n))) && decide (t.l.length<=4096) && decide (t.s.length<=8)
def Tx.okB (t:Tx):Bool:=t.hdB && Qpt t.l 1 t.n 1 && Qpt t.s 0 t.n 0
def Tx0:Tx:=⟨0,0,0,0,[],[]⟩
def tC (l:List Tx) (i:Nat):Bool:=(l.getD i Tx0).okB && (decide (i = 0) || decide ((l.getD (i - 1) Tx0).id < (l.getD i Tx0).id))
theorem QmM (l:List Tx) (i:Nat):tC l i = true ↔ (l.getD i Tx0).okB = true/\(i = 0\/(l.getD (i - 1) Tx0).id < (l.getD i Tx0).id):=by
  simp only [tC,Bool.and_eq_true,Bool.or_eq_true,decide_eq_true_eq]
def QdF (l:List Tx):Bool:=decide (l.length<=64) && (List.range l.length).all (tC l)
def smL (l:List Tx):Prop:=l.length<=1000000/\∀ t ∈ l,t.sm
theorem Qns (l:List Tx) (i:Nat) (h:i < l.length):(fz Qae l)[i]? = some [.lit (.int .i64 l[i].id),.lit (.int .i64 l[i].st),.lit (.int .i64 l[i].n),.lit (.int .i64 l[i].b),.sl (fz QN l[i].l),.sl (fz QN l[i].s)]:=Qh6 Qae l i h
structure Pass {α:Type} (l:List α) (p:α->Prop) where
  i:Nat
  hi:i<=l.length
  no:∀ x ∈ l.take i,¬ p x
def Pass.start {α:Type} (l:List α) (p:α->Prop):Pass l p:=⟨0,Nat.zero_le _,by simp⟩
def Pass.next {α:Type} {l:List α} {p:α->Prop} (s:Pass l p) (h:s.i < l.length) (hp:¬ p l[s.i]):Pass l p :=
  ⟨s.i + 1,h,fun x hx=>by
    rw [List.take_succ_eq_append_getElem h,List.mem_append] at hx
    rcases hx with hx | hx
    · exact s.no x hx
    · simp at hx; subst hx; exact hp⟩
theorem Pass.all {α:Type} {l:List α} {p:α->Prop} (s:Pass l p) (h:¬ s.i < l.length):∀ x ∈ l,¬ p x:=by
  have:=s.no
  rwa [List.take_of_length_le (by omega)] at this
def Qnn {α:Type} (l:List α) (p:α->Bool):Int:=if l.any p = true then (l.findIdx p:Int) else -1
theorem Qsf {α:Type} (l:List α) (p:α->Bool) (i:Nat) (h:i < l.length) (hx:p l[i] = true) (no:∀ x ∈ l.take i,¬ p x = true):Qnn l p = i:=by
  rw [Qnn,if_pos (List.any_eq_true.2 ⟨l[i],List.getElem_mem h,hx⟩)]
  congr 1
  rw [List.findIdx_eq h]
  refine ⟨hx,fun j hj=>?_⟩
  have:=no l[j] (List.mem_take_iff_getElem.2 ⟨j,by omega,rfl⟩)
  simpa using this
theorem Qse {α:Type} (l:List α) (p:α->Bool):(Qnn l p = -1/\l.find? p = none)\/∃ i,∃ h:i < l.length,Qnn l p = i/\l.find? p = some l[i]:=by
  by_cases ha:l.any p = true
  · obtain ⟨x,hm,hp⟩:=List.any_eq_true.1 ha
    have hlt:=List.findIdx_lt_length_of_exists ⟨x,hm,hp⟩
    refine .inr ⟨l.findIdx p,hlt,by rw [Qnn,if_pos ha],?_⟩
    rw [List.find?_eq_some_iff_getElem]
    refine ⟨List.findIdx_getElem (w:=hlt),_,hlt,rfl,fun j hj=>?_⟩
    have:=List.not_of_lt_findIdx hj
    simpa using this
  · refine .inl ⟨by rw [Qnn,if_neg ha],?_⟩
    rw [List.find?_eq_none]
    intro x hx hp
    exact ha (List.any_eq_true.2 ⟨x,hx,hp⟩)
def lo {α:Type} (l:List α) (f:α->Bool):Nat:=(l.takeWhile f).length
def QEQ {α:Type} (l:List α) (f:α->Bool):Prop:=∀ i j:Nat,∀ hi:i < l.length,∀ hj:j < l.length,i < j->f l[j] = true->f l[i] = true
theorem QDj {α:Type} (l:List α) (f:α->Bool):lo l f<=l.length:=(List.takeWhile_sublist _).length_le
theorem QBM {α:Type} (l:List α) (f:α->Bool) (i:Nat) (hi:i<=l.length) (h1:∀ k,∀ hk:k < l.length,k < i->f l[k] = true) (h2:∀ hi:i < l.length,f l[i] = false):lo l f = i:=by
  unfold lo
  induction l generalizing i with
  | nil=>simp at hi; subst hi; rfl
  | cons a r ih =>
    cases i with
    | zero =>
      have:=h2 (by simp)
      simp only [List.getElem_cons_zero] at this
      rw [List.takeWhile_cons,this]; rfl
    | succ i =>
      have h0:=h1 0 (by simp) (by omega)
      simp only [List.getElem_cons_zero] at h0
      rw [List.takeWhile_cons,h0]
      simp only [if_true,List.length_cons]
      rw [ih i (by simpa using hi) (fun k hk hki=>h1 (k + 1) (by simpa using hk) (by omega)) (fun hi=>h2 (by simpa using hi))]
structure BS {α:Type} (l:List α) (f:α->Bool) where
  i:Nat
  j:Nat
  hij:i<=j
  hj:j<=l.length
  h1:∀ k,∀ hk:k < l.length,k < i->f l[k] = true
  h2:∀ hj:j < l.length,f l[j] = false
def BS.start {α:Type} (l:List α) (f:α->Bool):BS l f:=⟨0,l.length,Nat.zero_le _,Nat.le_refl _,fun k hk h=>by omega,fun h=>by omega⟩
def BS.up {α:Type} {l:List α} {f:α->Bool} (s:BS l f) (hf:QEQ l f) (h:Nat) (h1:s.i<=h) (h2:h < s.j) (hx:f (l[h]'(Nat.lt_of_lt_of_le h2 s.hj)) = true):BS l f :=
  ⟨h + 1,s.j,h2,s.hj,fun k hk hki=>by
    rcases Nat.lt_or_ge k h with hlt | hge
    · exact hf k h hk (Nat.lt_of_lt_of_le h2 s.hj) hlt hx
    · obtain rfl:k = h:=by omega
      exact hx,s.h2⟩
def BS.down {α:Type} {l:List α} {f:α->Bool} (s:BS l f) (h:Nat) (h1:s.i<=h) (h2:h < s.j) (hx:f (l[h]'(Nat.lt_of_lt_of_le h2 s.hj)) = false):BS l f:=
  ⟨s.i,h,h1,Nat.le_of_lt (Nat.lt_of_lt_of_le h2 s.hj),s.h1,fun _=>hx⟩
theorem BS.fin {α:Type} {l:List α} {f:α->Bool} (s:BS l f) (h:¬ s.i < s.j):lo l f = s.i:=by
  have e:s.i = s.j:=by have:=s.hij; omega
  exact QBM l f s.i (by have:=s.hj; omega) s.h1 (fun hi=>by
    have:=s.h2 (e ▸ hi)
    simpa only [e] using this)
theorem QoJ (l:List Tx) (i:Nat) (h:i < l.length):(fz Qae l)[i]? = some [.lit (.int .i64 (l.getD i Tx0).id),.lit (.int .i64 (l.getD i Tx0).st),.lit (.int .i64 (l.getD i Tx0).n),.lit (.int .i64 (l.getD i Tx0).b),.sl (fz QN (l.getD i Tx0).l),.sl (fz QN (l.getD i Tx0).s)]:=by rw [Qk l i h]; exact Qns l i h
attribute [local go_sem] Tx.d Qkv List.length_append List.length_take List.length_drop List.take_length QbP Qbm
theorem QuA (t:Tx) (hs:t.sm):VCalls prog 191 [.agg t.d] [] (Ret (.bool t.okB)):=by
  refine dd Tryz.func191 ?_
  obtain ⟨id,st,n,b,l,s⟩:=t
  obtain ⟨hs1,hs2⟩:=hs
  dsimp only at hs1 hs2
  have e:(⟨id,st,n,b,l,s⟩:Tx).okB = ((⟨id,st,n,b,l,s⟩:Tx).hdB && Qpt l 1 n 1 && Qpt s 0 n 0):=rfl
  have eh:(⟨id,st,n,b,l,s⟩:Tx).hdB = (decide (1<=id) && decide (id<=1073741824) && decide (1<=st) && decide (st<=3) && decide (0<=n) && decide (n<=1099511627776) && (decide (b = 0) || (decide (st = 2) && decide (0 < b) && decide (b<=n))) && decide (l.length<=4096) && decide (s.length<=8)):=rfl
  generalize (⟨id,st,n,b,l,s⟩:Tx).hdB = H at *
  generalize (⟨id,st,n,b,l,s⟩:Tx).okB = K at *
  unfold Tx.d
  (unfold Tryz.f191; refine rn trivial ?_)
  refine rn F ?_
  repeat' (first
    | with_reducible exact ⟨⟩
    | (refine sG F ?_ ?_<;>intro hZ)
    | (refine sB F ?_ ?_<;>intro hZ))
  all_goals first
    | (rw [e,Bool.eq_false_iff.2 (show ¬ H = true from fun h=>by rw [eh] at h; simp only [Bool.and_eq_true,Bool.or_eq_true,decide_eq_true_eq] at h; omega)]; rfl)
    | skip
  all_goals
    have hh:H = true:=by rw [eh]; simp only [Bool.and_eq_true,Bool.or_eq_true,decide_eq_true_eq]; omega
    refine Qg (fun q:Okay l.length (Qz6 l 1 n 1)=>⟨147,0,[(3,.int .i64 q.i),(1,.ptr 0 0)],[⟨218,true,[.int .i64 id,.int .i64 st,.int .i64 n,.int .i64 b,.pv (.sl (fz QN l)),.pv (.sl (fz QN s))]⟩]⟩) (fun q=>l.length - q.i) (Okay.start _ _) (by exact (gc [0])) ?_
    intro q
    have hqi:=q.hi
    have hg:=fun h:q.i < l.length=>QX l q.i h
    have hgp:0 < (q.i:Int)->(q.i:Int) < l.length->(fz QN l)[q.i - 1]? = some [.lit (.int .i64 (l.getD (q.i - 1) 0))]:=fun h h2=>by
      exact QX l (q.i - 1) (by omega)
    have F:=(And.intro @hg @hgp)
    refine rn F ?_
    repeat' (first
      | with_reducible exact ⟨⟩
      | (refine sG F ?_ ?_<;>intro hZ)
      | (refine sB F ?_ ?_<;>intro hZ)
      | (refine Qb (id:=8) [0,1,2,3,4,5,6,7,8,9,10,11,12,13,14,15,16,17,18,19,20,21,22,23,24,25,26,27,28,29,30,31,32,33] [] (by kernel_rfl) (by kernel_rfl) ?_; refine rn F ?_))
    all_goals first
      | (rw [e,Qpt,Qpt,Qcj (n:=l.length) (c:=Qz6 l 1 n 1) (i:=q.i) (by omega) (Bool.eq_false_iff.2 fun h=>by rw [Qey] at h; omega)]; simp)
      | (exact ⟨q.next (by omega) ((Qey _ _ _ _ _).2 (by omega)),by show l.length - (q.i + 1) < l.length - q.i; omega,(gc [0])⟩)
      | skip
    have hL:Qpt l 1 n 1 = true:=q.all (by omega)
    clear hg hgp hqi
    refine Qg (fun q:Okay s.length (Qz6 s 0 n 0)=>⟨147,0,[(4,.int .i64 q.i),(1,.ptr 0 0)],[⟨218,true,[.int .i64 id,.int .i64 st,.int .i64 n,.int .i64 b,.pv (.sl (fz QN l)),.pv (.sl (fz QN s))]⟩]⟩) (fun q=>s.length - q.i) (Okay.start _ _) (by exact (gc [0])) ?_
    intro q
    have hqi:=q.hi
    have hg:=fun h:q.i < s.length=>QX s q.i h
    have hgp:0 < (q.i:Int)->(q.i:Int) < s.length->(fz QN s)[q.i - 1]? = some [.lit (.int .i64 (s.getD (q.i - 1) 0))]:=fun h h2=>by
      exact QX s (q.i - 1) (by omega)
    have F:=(And.intro @hg @hgp)
    refine rn F ?_
    repeat' (first
      | with_reducible exact ⟨⟩
      | (refine sG F ?_ ?_<;>intro hZ)
      | (refine sB F ?_ ?_<;>intro hZ)
      | (refine Qb (id:=13) [0,1,2,3,4,5,6,7,8,9,10,11,12,13,14,15,16,17,18,19,20,21,22,23,24,25,26,27,28,29,30,31,32,33] [] (by kernel_rfl) (by kernel_rfl) ?_; refine rn F ?_))
    all_goals first
      | (rw [e,Qpt,Qpt,Qcj (n:=s.length) (c:=Qz6 s 0 n 0) (i:=q.i) (by omega) (Bool.eq_false_iff.2 fun h=>by rw [Qey] at h; omega)]; simp)
      | (exact ⟨q.next (by omega) ((Qey _ _ _ _ _).2 (by omega)),by show s.length - (q.i + 1) < s.length - q.i; omega,(gc [0])⟩)
      | skip
    rw [e,hh,hL,show Qpt s 0 n 0 = true from q.all (by omega)]
    rfl
theorem Qbs (l:List Tx) (hl:smL l):VCalls prog 146 [.pv (.sl (fz Qae l))] [] (Ret (.bool (QdF l))):=by
  refine dd Tryz.func146 ?_
  obtain ⟨hl,hm⟩:=hl
  have hr:=fun (i:Nat) (h:i < l.length)=>QuA (l.getD i Tx0) (by rw [Qk l i h]; exact hm _ (List.getElem_mem h))
  unfold Tx.d at hr
  (unfold Tryz.f146; refine rn trivial ?_)
  refine rn F ?_
  repeat' (first
    | with_reducible exact ⟨⟩
    | (refine sB F ?_ ?_<;>intro hZ))
  · rw [QdF,decide_eq_false (by omega)]; rfl
  refine Qg (fun s:Okay l.length (tC l)=>⟨37,0,[(3,.int .i64 s.i),(0,.pv (.sl (fz Qae l)))],[]⟩) (fun s=>l.length - s.i) (Okay.start _ _) (gc []) ?_
  intro s
  have hsi:=s.hi
  have hg:=fun h:s.i < l.length=>QoJ l s.i h
  have hgp:0 < (s.i:Int)->(s.i:Int) < l.length->(fz Qae l)[s.i - 1]? = some [.lit (.int .i64 (l.getD (s.i - 1) Tx0).id),.lit (.int .i64 (l.getD (s.i - 1) Tx0).st),.lit (.int .i64 (l.getD (s.i - 1) Tx0).n),.lit (.int .i64 (l.getD (s.i - 1) Tx0).b),.sl (fz QN (l.getD (s.i - 1) Tx0).l),.sl (fz QN (l.getD (s.i - 1) Tx0).s)]:=fun h h2=>by
    exact QoJ l (s.i - 1) (by omega)
  have F:=(And.intro @hg @hgp)
  refine rn F ?_
  repeat' (first
    | with_reducible exact ⟨⟩
    | (refine sG F ?_ ?_<;>intro hZ)
    | (refine sB F ?_ ?_<;>intro hZ)
    | refine vp F (hr s.i (by omega)) ?_
    | (refine Qb (id:=6) [0,1,2,3] [⟨[],[],4,[0,1,2],[5,6,7,8,9,10,11,12,13,14,15,16,17,18,19,20,21,22,23]⟩] (by kernel_rfl) (by kernel_rfl) ?_; refine rn F ?_))
  all_goals first
    | (rw [QdF,Qcj (i:=s.i) (by omega) (Bool.eq_false_iff.2 fun h=>by rw [QmM] at h; omega),Bool.and_false])
    | (rw [QdF,Qcj (i:=s.i) (by omega) (Bool.eq_false_iff.2 fun h=>by rw [QmM] at h; first | exact absurd h.1 (by assumption) | (have h1:=h.1; simp_all)),Bool.and_false])
    | (rw [QdF,s.all (by omega),decide_eq_true (by omega)]; rfl)
    | (exact ⟨s.next (by omega) ((QmM _ _).2 ⟨by assumption,by omega⟩),by show l.length - (s.i + 1) < l.length - s.i; omega,(gc [])⟩)
    | skip
def QdM {α:Type} (l:List α) (p:α->Bool):List α:=l.filter fun x=>!p x
structure DF {α:Type} (l:List α) (p:α->Bool) where
  j:Nat
  hj:j<=l.length
  cur:List α
  hl:cur.length = l.length
  h1:cur.take (QdM (l.take j) p).length = QdM (l.take j) p
  h2:cur.drop j = l.drop j
  h3:(QdM (l.take j) p).length < j
def DF.i {α:Type} {l:List α} {p:α->Bool} (s:DF l p):Nat:=(QdM (l.take s.j) p).length
theorem Qbw {α:Type} (l:List α) (p:α->Bool) (j:Nat) (h:j < l.length):QdM (l.take (j + 1)) p = QdM (l.take j) p ++ (if p l[j] = true then [] else [l[j]]):=by
  rw [List.take_succ_eq_append_getElem h,QdM,List.filter_append]
  cases hp:p l[j]<;>simp [QdM,hp]
theorem QoA {α:Type} (l:List α) (p:α->Bool) (h:∀ x ∈ l,¬ p x = true):QdM l p = l:=by
  rw [QdM,List.filter_eq_self]; intro x hx; simpa using h x hx
def DF.start {α:Type} (l:List α) (p:α->Bool) (i:Nat) (h:i < l.length) (hp:p l[i] = true) (no:∀ x ∈ l.take i,¬ p x = true):DF l p:=
  have e:QdM (l.take (i + 1)) p = l.take i:=by rw [Qbw l p i h,if_pos hp,List.append_nil,QoA _ p no]
  have el:(l.take i).length = i:=by rw [List.length_take]; omega
  ⟨i + 1,h,l,rfl,by rw [e,el],rfl,by rw [e,el]; omega⟩
theorem DF.get {α:Type} {l:List α} {p:α->Bool} (s:DF l p) (h:s.j < l.length) (d:α):s.cur.getD s.j d = l[s.j]:=by
  have:=congrArg (fun x=>x[0]?) s.h2
  simp only [List.getElem?_drop,Nat.add_zero] at this
  rw [List.getD_eq_getElem?_getD,this,List.getElem?_eq_getElem h]; rfl
def DF.out {α:Type} {l:List α} {p:α->Bool} (s:DF l p) (h:s.j < l.length) (hp:p l[s.j] = true):DF l p :=
  have e:QdM (l.take (s.j + 1)) p = QdM (l.take s.j) p:=by rw [Qbw l p s.j h,if_pos hp,List.append_nil]
  ⟨s.j + 1,h,s.cur,s.hl,by rw [e]; exact s.h1,by
    have:=congrArg (List.drop 1) s.h2
    rwa [List.drop_drop,List.drop_drop] at this,by rw [e]; have:=s.h3; omega⟩
theorem QvE {α:Type} (l:List α) (p:α->Bool):(QdM l p).length<=l.length:=List.length_filter_le _ _
theorem Qy7 (l:List Tx):(cells Qae l).length = l.length * 6:=QS Qae l
theorem QAD (l:List Tx) (n:Nat) (h:l.length * 6<=n):(cells Qae l).take n = cells Qae l:=by rw [List.take_of_length_le]; rw [Qy7]; exact h
theorem QA8 (l:List Tx) (T:TypeId) (a b:Nat) (h:a<=b/\b<=l.length):QnH (some (none,T,6)) (fz Qae l) a b = some (.pv (.sl (fz Qae ((l.take b).drop a)))):=QfZ Qae l T a b h
theorem QA7 (l:List Tx):(fz Qae l = []\/(fz Qae l)[0]?.map List.length = some 6) = True:=Qfh Qae l
theorem Qss {n:Nat} {hp:Qa} {len:Nat} {l:List Tx} (h:l.length = len):QkP n hp 0 6 len (some (cells Qae l)) = some (.sl (fz Qae l)):=QY Qae h
theorem QCZ (l:List Tx):DV.wk.go (cells Qae l) = cells Qae l:=Qa2 Qae l fun a p hp=>by
  simp [Qae] at hp; rcases hp with rfl | rfl | rfl | rfl | rfl | rfl<;>rfl
def QAt (r:List Tx × Int):DV:=.tup [.pv (.sl (fz Qae r.1)),.int .i64 r.2]
def idT (l:List Tx) (a:Int):Int:=Qnn l fun t=>t.id == a
def QAw (l:List Tx) (a:Int):Nat:=lo l fun t=>decide (t.id < a)
def QDo (l:List Tx) (t:Tx):List Tx:=l.take (QAw l t.id) ++ t :: l.drop (QAw l t.id)
def Qb5 (l:List Tx) (a:Int):List Tx × Int:=
  if QdF l = false then ([],15) else if a < 1\/1073741824 < a then ([],1) else if 0<=idT l a then ([],25) else if l.length = 64 then ([],21) else (QDo l ⟨a,1,0,0,[],[]⟩,0)
theorem QmL {l:List Tx} (h:QdF l = true):l.length<=64:=by
  simp [QdF] at h; exact h.1
def Qol (l:List Tx) (a:Int):List Tx:=QdM l fun t=>t.id == a
def QgJ (t:Tx) (a:Int):Bool:=decide (0 < t.l.length) && decide (a < t.l.getD (t.l.length - 1) 0)
theorem QDn (l:List Int) (h:0 < l.length):(fz QN l)[((l.length:Int) - 1).toNat]? = some [.lit (.int .i64 (l.getD (l.length - 1) 0))]:=by
  rw [show ((l.length:Int) - 1).toNat = l.length - 1 by omega]; exact QX l (l.length - 1) (by omega)
theorem Q7 (l:List Tx) (a:Int):idT l a = -1\/∃ i,∃ h:i < l.length,idT l a = i/\l[i].id = a:=by
  unfold idT Qnn
  split
  · rename_i h
    obtain ⟨x,hm,hp⟩:=List.any_eq_true.1 h
    have hlt:=List.findIdx_lt_length_of_exists (p:=fun t:Tx=>t.id == a) ⟨x,hm,hp⟩
    have:=List.findIdx_getElem (w:=hlt)
    exact .inr ⟨_,hlt,rfl,by simpa using this⟩
  · exact .inl rfl
def Qs (l:List Tx) (a:Int):Tx × Int:=
  if QdF l = false then (Tx0,15) else if idT l a < 0 then (Tx0,16) else if (l.getD (idT l a).toNat Tx0).st ≠ 1 then (Tx0,15) else (l.getD (idT l a).toNat Tx0,0)
theorem Qds {l:List Tx} {a:Int} (h:(Qs l a).2 = 0):QdF l = true/\∃ i,∃ hi:i < l.length,idT l a = i/\l[i].id = a/\(Qs l a).1 = l[i]:=by
  unfold Qs at h |-
  split at h
  · simp at h
  rename_i h1
  split at h
  · simp at h
  rename_i h2
  split at h
  · simp at h
  rename_i h3
  refine ⟨by simpa using h1,?_⟩
  rcases Q7 l a with h4 | ⟨i,hi,h4,h5⟩
  · omega
  · rw [if_neg h1,if_neg h2,if_neg h3]
    exact ⟨i,hi,h4,h5,by rw [h4,Int.toNat_natCast,Qk l i hi]⟩
theorem QhF (l:List Int) (x:Int):cells QN l ++ [.pv (.lit (.int .i64 x))] = cells QN (l ++ [x]):=by rw [QE]; rfl
theorem QAz (l:List Int):(cells QN l).length = l.length * 1:=QS QN l
theorem QAE (l:List Int) (n:Nat) (h:l.length * 1<=n):(cells QN l).take n = cells QN l:=by rw [List.take_of_length_le]; rw [QAz]; exact h
theorem QAv (l:List Int) (T:TypeId) (a b:Nat) (h:a<=b/\b<=l.length):QnH (some (none,T,1)) (fz QN l) a b = some (.pv (.sl (fz QN ((l.take b).drop a)))):=QfZ QN l T a b h
theorem QAu (l:List Int):(fz QN l = []\/(fz QN l)[0]?.map List.length = some 1) = True:=Qfh QN l
theorem QdE {l:List Tx} (h:QdF l = true) {i:Nat} (hi:i < l.length):l[i].okB = true:=by
  simp only [QdF,Bool.and_eq_true,List.all_eq_true,List.mem_range,decide_eq_true_eq] at h
  have:=((QmM l i).1 (h.2 i hi)).1
  rwa [Qk l i hi] at this
def Qqz (l:List Tx) (a:Int):List Tx × Int:=
  if (Qs l a).2 ≠ 0 then ([],(Qs l a).2) else if (Qs l a).1.s.length = 8 then ([],21) else (l.set (idT l a).toNat { (Qs l a).1 with s:=(Qs l a).1.s ++ [(Qs l a).1.n] },0)
def Qtj (l:List Tx) (a sv:Int):List Tx × Int:=
  if (Qs l a).2 ≠ 0 then ([],(Qs l a).2)
  else if sv < 0\/((Qs l a).1.s.length:Int)<=sv then ([],19)
  else if QgJ (Qs l a).1 ((Qs l a).1.s.getD sv.toNat 0) = true then (l.set (idT l a).toNat { (Qs l a).1 with s:=(Qs l a).1.s.take (sv.toNat + 1),st:=2,b:=(Qs l a).1.s.getD sv.toNat 0 },0)
  else (l.set (idT l a).toNat { (Qs l a).1 with s:=(Qs l a).1.s.take (sv.toNat + 1) },0)
theorem Qk5 {l:List Int} {lo hi:Int} (h:Qpt l lo hi 1 = true):l.Pairwise (· < ·):=by
  simp only [Qpt,List.all_eq_true,List.mem_range] at h
  rw [List.pairwise_iff_getElem]
  have step:∀ i,∀ h2:i + 1 < l.length,l[i] < l[i + 1]:=fun i h2=>by
    have:=(Qey _ _ _ _ _).1 (h (i + 1) h2)
    rw [Qk l (i + 1) h2,Nat.add_sub_cancel,Qk l i (by omega)] at this
    omega
  have all:∀ d i,∀ h2:i + d + 1 < l.length,l[i] < l[i + d + 1]:=fun d=>by
    induction d with
    | zero=>exact step
    | succ d ih=>intro i h2; exact Int.lt_trans (ih i (by omega)) (step (i + d + 1) h2)
  intro i j hi hj hij
  have:=all (j - i - 1) i (by omega)
  simpa only [show i + (j - i - 1) + 1 = j by omega] using this
theorem QyY {t:Tx} (h:t.okB = true):t.l.Pairwise (· < ·):=by
  simp only [Tx.okB,Bool.and_eq_true] at h
  exact Qk5 h.1.2
theorem QeQ {t:Tx} (h:t.okB = true):t.l.length<=4096/\t.s.length<=8:=by
  simp only [Tx.okB,Tx.hdB,Bool.and_eq_true,decide_eq_true_eq] at h
  omega
def Q5 (t:Tx):Tx:=if t.st = 2/\QgJ t t.b = false then { t with st:=1,b:=0 } else t
def QeR (t:Tx) (e:E):Tx:=
  if e.kind = 1 then { t with n:=e.lsn,l:=t.l ++ [e.lsn] }
  else if e.kind = 2 then { t with n:=e.lsn,l:=t.l.filter fun x=>decide (x ≠ e.ref) }
  else { t with n:=e.lsn,st:=3,b:=0,s:=[] }
def Qox (l:List Tx) (i:Nat) (t:Tx) (e:E):List Tx × Int:=
  if e.ptx ≠ t.n\/(e.kind = 2/\e.ref ∉ t.l) then ([],13)
  else if e.kind = 3\/e.kind = 5 then (Qol l e.tx,0)
  else (l.set i (Q5 (QeR t e)),0)
def QbJ (l:List Tx) (e:E):List Tx × Int:=
  if QdF l = false then ([],15) else if e.okB = false then ([],12) else if e.tx = 0 then (l,0) else if idT l e.tx < 0 then ([],16)
  else Qox l (idT l e.tx).toNat (l.getD (idT l e.tx).toNat Tx0) e
theorem Qvj {e:E} (h:e.okB = true) (ht:e.tx ≠ 0):e.kind = 1\/e.kind = 2\/e.kind = 3\/e.kind = 4\/e.kind = 5:=by
  obtain ⟨lsn,kind,tx,ptx,ppg,ref,c,blob⟩:=e
  simp only [E.okB,Bool.and_eq_true] at h
  have h:=h.2
  rw [Qnl] at h
  dsimp only at ht |-
  rcases QeS kind with hk | rfl | rfl | rfl | rfl | rfl | rfl | rfl | rfl
  · rw [if_neg (by omega),if_neg (by omega),if_neg (by omega),if_neg (by omega),if_neg (by omega)] at h; cases h
  all_goals first | omega | (simp at h; omega)
theorem Qvn {l:List Tx} {e:E} (h1:QdF l = true) (h2:e.okB = true) (h3:e.tx ≠ 0) {i:Nat} (hi:i < l.length) (h4:idT l e.tx = i):QbJ l e = Qox l i l[i] e:=by
  unfold QbJ
  rw [if_neg (by rw [h1]; decide),if_neg (by rw [h2]; decide),if_neg h3,h4,if_neg (by omega),Int.toNat_natCast,Qk l i hi]
def w0:List Tx:=[⟨1,1,0,0,[],[]⟩]
def w1:List Tx:=[⟨1,1,1,0,[1],[]⟩]
def w2:List Tx:=[⟨1,1,1,0,[1],[1]⟩]
def w3:List Tx:=[⟨1,1,2,0,[1,2],[1]⟩]
def w4:List Tx:=[⟨1,1,3,0,[1,2,3],[1]⟩]
def w5:List Tx:=[⟨1,2,3,1,[1,2,3],[1]⟩]
end
section
attribute [local go_sem] Ce.d Ch.d E.d QgI QhG Qho Qhn QhA QcW
@[local go_sem] def Ch.inv (x:Ch):Ch:=⟨x.pg,x.sl,x.a,x.b⟩
@[local go_sem] def E.q (x:E):List PV:=[.lit (.int .i64 x.lsn),.lit (.int .i64 x.kind),.lit (.int .i64 x.tx),.lit (.int .i64 x.ptx),.lit (.int .i64 x.ppg),.lit (.int .i64 x.ref),.lit (.int .i64 x.c.pg),.lit (.int .i64 x.c.sl),.lit (.bool x.c.b.set),.str x.c.b.data,.lit (.bool x.c.a.set),.str x.c.a.data,.str x.blob]
@[local go_sem] def l2 (a b:List E):List (List PV):=[[.sl (fz encE a)],[.sl (fz encE b)]]
structure C2 (a b:List E) where
  i:Nat
  hi:i<=2
def C2.n {a b:List E} (s:C2 a b):Nat:=match s.i with | 0=>0 | 1=>a.length | _=>a.length + b.length
def C2.l {a b:List E} (s:C2 a b):List E:=match s.i with | 0=>[] | 1=>a | _=>a ++ b
theorem C2.n1 (a b:List E) (h:1<=2):(⟨1,h⟩:C2 a b).n = a.length:=rfl
theorem C2.n2 (a b:List E) (h:2<=2):(⟨2,h⟩:C2 a b).n = a.length + b.length:=rfl
theorem C2.l0 (a b:List E) (h:0<=2):(⟨0,h⟩:C2 a b).l = []:=rfl
theorem C2.l1 (a b:List E) (h:1<=2):(⟨1,h⟩:C2 a b).l = a:=rfl
theorem C2.l2 (a b:List E) (h:2<=2):(⟨2,h⟩:C2 a b).l = a ++ b:=rfl
end
section
attribute [local go_sem] Ce.d Ch.d E.d QgI QhG Qho Qhn QhA QcW Qtz Qty E.q Ch.inv Nat.not_lt_zero
def QEn (U:List Int):List (Int × DV):=U.map fun x=>(x,.bool true)
def QDg (U:List Int) (x:Int):List Int:=if x ∈ U then U else U ++ [x]
def Qcp (e x:E):Bool:=decide (x.lsn >= e.ref)
def QBd (e x:E):Bool:=decide (x.c.pg = e.c.pg) && decide (x.c.sl = e.c.sl)
def QCL (P:List E) (j:Nat):List E:=P.take j ++ P.drop (j + 1)
def eqC (x y:Ch):Bool:=x.pg == y.pg && (x.sl == y.sl && (x.b.set == y.b.set && (x.b.data == y.b.data && (x.a.set == y.a.set && x.a.data == y.a.data))))
end
section
attribute [local go_sem] Ce.d Ch.d E.d QgI QhG Qho Qhn QhA QcW Qtz Qty E.q Ch.inv Nat.not_lt_zero QJ Q3
end
section
attribute [local go_sem] Ce.d Ch.d E.d QgI QhG Qho Qhn QhA QcW Qtz Qty E.q Nat.not_lt_zero Qaz Qak
def QCv (hp:Qa) (kp:Nat) (P:List E) (p:DV):Prop:=(P = []/\p = .pv (.slc []))\/(p = .own kp 13 0 P.length/\kp < hp.length/\hp[kp]? = some ⟨60,true,cells encE P⟩)
def RunOk (hp:Qa) (k kp:Nat) (la:Int) (ea ab en:Bool) (P:List E):Prop:=k < hp.length/\∃ p,Qf hp k = some (rnC la ea ab en p)/\QCv hp kp P p
def QEr (e:E) (ea ab:Bool) (P:List E):Bool:=(!ab || decide (e.kind = 5)) && (!decide (e.kind = 5) || (ab || ea) && P.isEmpty)
def nP (e:E) (P:List E):List E:=if e.kind = 1 then P ++ [e] else P
def nab (e:E) (ab:Bool):Bool:=ab || decide (e.kind = 4)
def nen (e:E) (en:Bool):Bool:=en || decide (e.kind = 3) || decide (e.kind = 5)
end
section
attribute [local go_sem] Ce.d Ch.d E.d QgI QhG Qho Qhn QhA QcW Qtz Qty E.q Nat.not_lt_zero Qaz Qak
end
section
attribute [local go_sem] Ce.d Ch.d E.d QgI QhG Qho Qhn QhA QcW Qtz Qty E.q Nat.not_lt_zero Qaz Qak
def QCM (f:Int) (U:List Int) (P:List E) (e:E):Bool:=!decide (e.ref ∈ U) && (if P.any (Qcp e) = true then
    (if f<=e.ref then decide ((P.getD (P.findIdx (Qcp e)) E0).lsn = e.ref) && (eqC (P.getD (P.findIdx (Qcp e)) E0).c.inv e.c && !(P.drop (P.findIdx (Qcp e) + 1)).any (QBd e)) else !(P.drop (P.findIdx (Qcp e))).any (QBd e))
  else decide (e.ref < f))
def QDM (f:Int) (P:List E) (e:E):List E:=if f<=e.ref then QCL P (P.findIdx (Qcp e)) else P
theorem RunOk.app {hp r:Qa} {k kp:Nat} {la:Int} {ea ab en:Bool} {P:List E} (h:RunOk hp k kp la ea ab en P):RunOk (hp ++ r) k kp la ea ab en P:=by
  obtain ⟨h1,p,h2,h3⟩:=h
  refine ⟨by rw [List.length_append]; omega,p,by rw [Qbe h1]; exact h2,?_⟩
  rcases h3 with h | ⟨e1,e2,e3⟩
  · exact .inl h
  · exact .inr ⟨e1,by rw [List.length_append]; omega,by rw [List.getElem?_append_left e2]; exact e3⟩
end
section
attribute [local go_sem] Ce.d Ch.d E.d QgI QhG Qho Qhn QhA QcW Qtz Qty E.q Nat.not_lt_zero Qaz Qak
def QeB (x:E):Bool:=x.kind == 1 || x.kind == 2
def ckG (bt bp bu:Nat) (L:List (Int × DV)) (Pg:List (Int × Int)) (U:List Int):MapsD:=[(bt,QcQ kI L),(bp,QcQ kI (Qmb Pg)),(bu,QcQ kI (QEn U))]
def Qub (f:Int) (U:List Int) (e:E) (ea ab:Bool) (P:List E):Bool:=if e.kind = 2 then QCM f U P e else QEr e ea ab P
def Qua (f:Int) (e:E) (P:List E):List E:=if e.kind = 2 then QDM f P e else nP e P
def Qt9 (U:List Int) (e:E):List Int:=if e.kind = 2 then QDg U e.ref else U
end
def RunP (hp:Qa) (k:Nat) (kpo:Option Nat) (la:Int) (ea ab en:Bool) (P:List E):Prop:=k < hp.length/\match kpo with
  | none=>P = []/\Qf hp k = some (rnC la ea ab en (.pv (.slc [])))
  | some kp=>Qf hp k = some (rnC la ea ab en (.own kp 13 0 P.length))/\kp < hp.length/\hp[kp]? = some ⟨60,true,cells encE P⟩
theorem RunP.ok {hp:Qa} {k:Nat} {kpo:Option Nat} {la:Int} {ea ab en:Bool} {P:List E} (h:RunP hp k kpo la ea ab en P):RunOk hp k (kpo.getD (hp.length + 7)) la ea ab en P:=by
  obtain ⟨h1,h2⟩:=h
  cases kpo with
  | none=>exact ⟨h1,_,h2.2,.inl ⟨h2.1,rfl⟩⟩
  | some kp=>exact ⟨h1,_,h2.1,.inr ⟨rfl,h2.2.1,h2.2.2⟩⟩
theorem RunP.fr {hp h':Qa} {A:Nat->Prop} {k:Nat} {kpo:Option Nat} {la:Int} {ea ab en:Bool} {P:List E} (h:RunP hp k kpo la ea ab en P) (hf:FrH hp h' A) (hk:¬ A k) (hkp:∀ kp,kpo = some kp->¬ A kp):RunP h' k kpo la ea ab en P:=by
  obtain ⟨h1,h2⟩:=h
  have hb:=Qpb (hf.same k h1 hk)
  refine ⟨Nat.lt_of_lt_of_le h1 hf.len,?_⟩
  cases kpo with
  | none=>exact ⟨h2.1,by rw [hb]; exact h2.2⟩
  | some kp=>exact ⟨by rw [hb]; exact h2.1,Nat.lt_of_lt_of_le h2.2.1 hf.len,by rw [hf.same kp h2.2.1 (hkp kp rfl)]; exact h2.2.2⟩
structure Tr where
  tx:Int
  last:Int
  ea:Bool
  ab:Bool
  en:Bool
  P:List E
structure Ck where
  T:List Tr
  Pg:List (Int × Int)
  U:List Int
def Qx6:List Tr->Tr->List Tr
  | [],t=>[t]
  | a :: r,t=>if a.tx = t.tx then t :: r else a :: Qx6 r t
def QkT (T:List Tr) (x:Int):Option Tr:=T.find? fun t=>decide (t.tx = x)
def ckB (f:Int) (A:Ck) (e:E):Bool:=if e.tx = 0 then true else match QkT A.T e.tx with
  | some t=>(decide (e.ptx = t.last) && !t.en) && ((!QeB e || pagedB f A.Pg e) && Qub f A.U e t.ea t.ab t.P)
  | none=>decide (e.ptx < f) && ((!QeB e || pagedB f A.Pg e) && Qub f A.U e (decide (0 < e.ptx)) false [])
def ckS (f:Int) (A:Ck) (e:E):Ck:=if e.tx = 0 then A else match QkT A.T e.tx with
  | some t=>⟨Qx6 A.T ⟨e.tx,e.lsn,t.ea,nab e t.ab,nen e t.en,Qua f e t.P⟩,if QeB e = true then QtB A.Pg e.c.pg e.lsn else A.Pg,Qt9 A.U e⟩
  | none=>⟨Qx6 A.T ⟨e.tx,e.lsn,decide (0 < e.ptx),nab e false,nen e false,Qua f e []⟩,if QeB e = true then QtB A.Pg e.c.pg e.lsn else A.Pg,Qt9 A.U e⟩
structure TX where
  t:Tr
  k:Nat
  kp:Option Nat
def TX.pos (x:TX):List Nat:=x.k :: x.kp.toList
def QEs (X:List TX):List (Int × DV):=X.map fun x=>(x.t.tx,.ptr x.k 0)
structure RepX (f:Int) (kc bt bp bu:Nat) (hp:Qa) (X:List TX):Prop where
  hk:kc < hp.length
  hc:Qf hp kc = some (ckC f bt bp bu)
  run:∀ x ∈ X,RunP hp x.k x.kp x.t.last x.t.ea x.t.ab x.t.en x.t.P
  nd:(kc :: X.flatMap TX.pos).Nodup
def Rep (f:Int) (kc bt bp bu:Nat) (n:Nat) (hp:Qa) (g:MapsD) (A:Ck):Prop:=∃ X:List TX,X.map (·.t) = A.T/\g = ckG bt bp bu (QEs X) A.Pg A.U/\RepX f kc bt bp bu hp X/\∀ t ∈ A.T,t.P.length<=n
theorem RunP.ne {hp:Qa} {k kp:Nat} {la:Int} {ea ab en:Bool} {P:List E} (h:RunP hp k (some kp) la ea ab en P):kp ≠ k:=fun e=>by
  obtain ⟨_,h1,_,h2⟩:=h
  rw [e] at h2
  have:=Qje h2
  rw [h1] at this
  have:=congrArg List.length (Option.some.inj this)
  rw [QgI] at this
  simp [rnC] at this
  omega
section
attribute [local go_sem] Ce.d Ch.d E.d QgI QhG Qho Qhn QhA QcW Qtz Qty E.q Nat.not_lt_zero
attribute [local go_sem] Lg.c
theorem QDH:QO prog 94 = some [.pv (.lit (.int .i64 0)),.pv (.lit (.map none)),.pv (.lit (.map none)),.pv (.lit (.map none))]:=by kernel_rfl
attribute [local go_sem] QDH
theorem Rep.app {f:Int} {kc bt bp bu n:Nat} {hp:Qa} {g:MapsD} {A:Ck} (h:Rep f kc bt bp bu n hp g A) (r:Qa):Rep f kc bt bp bu n (hp ++ r) g A:=by
  obtain ⟨X,h1,h2,h3,h4⟩:=h
  refine ⟨X,h1,h2,⟨by rw [List.length_append]; have:=h3.hk; omega,by rw [Qbe h3.hk]; exact h3.hc,fun x hx=>(h3.run x hx).fr ((FrH.refl hp (fun _=>False)).app r) id fun _ _=>id,h3.nd⟩,h4⟩
theorem Rep.le {f:Int} {kc bt bp bu n m:Nat} {hp:Qa} {g:MapsD} {A:Ck} (h:Rep f kc bt bp bu n hp g A) (hm:n<=m):Rep f kc bt bp bu m hp g A:=by
  obtain ⟨X,h1,h2,h3,h4⟩:=h
  exact ⟨X,h1,h2,h3,fun t ht=>Nat.le_trans (h4 t ht) hm⟩
def ckL (f:Int):Ck->List E->Bool
  | _,[]=>true
  | A,e :: r=>ckB f A e && ckL f (ckS f A e) r
def ckA (f:Int):Ck->List E->Ck
  | A,[]=>A
  | A,e :: r=>ckA f (ckS f A e) r
def Ck0:Ck:=⟨[],[],[]⟩
theorem WeakG.trans {γ:Type} {Γ:γ->World->World->Map->Qa->Prop} {S S' S'':St} {g g' g'':γ} (h:WeakG Γ S g S' g') (h':WeakG Γ S' g' S'' g''):WeakG Γ S g S'' g'':=fun O β a w hs=>by
  obtain ⟨β',hs'⟩:=h O β a w hs
  exact h' O β' a w hs'
structure CL (x:Lg) (bt bp bu:Nat) where
  i:Nat
  hi:i<=x.es.length
  hp:Qa
  g:MapsD
  rep:Rep x.f 1 bt bp bu i hp g (ckA x.f Ck0 (x.es.take i))
  ok:ckL x.f Ck0 (x.es.take i) = true
end
def Qlf (s:List UInt8) (a:Nat):Nat->Int
  | 0=>0
  | i + 1=>bits BinOp.or .u64 (Qlf s a i) (IntKind.u64.wrap (IntKind.u64.wrap (s.getD (a + i) 0).toNat * 2 ^ min (8 * (i:Int)).toNat 64))
theorem Qx0 (s:List UInt8) (a i:Nat) (h:a + i < s.length):s[((a:Int) + (i:Int)).toNat]? = some (s.getD (a + i) 0):=by
  have e:((a:Int) + (i:Int)).toNat = a + i:=by omega
  rw [e,List.getD_eq_getElem?_getD,List.getElem?_eq_getElem h]; rfl
theorem Qc9 (s:List UInt8) (a k:Int) (h:1<=k/\k<=8) (h0:0<=a) (hh:¬ a + k<=s.length):VCalls prog 217 [.pv (.str s),.int .i64 a,.int .i64 k] [] (Ret (.tup [.int .i64 0,.int .i64 5])):=by
  refine dd Tryz.func217 ?_
  have h1:¬ k < 1:=by omega
  have h2:¬ 8 < k:=by omega
  have h3:¬ a < 0:=by omega
  by_cases h4:(s.length:Int) < a
  · simp (config:={ maxSteps:=2000000 }) (implicitDefEqProofs:=false) (disch:=first | omega | assumption | (simp only []; done) | fail) only [go_sem,Nat.reduceAdd,Nat.reduceBEq,Int.reduceAdd,Int.reduceBEq,Tryz.f217,h1,h2,h3,h4]
  · have h5:(s.length:Int) - a < k:=by omega
    simp (config:={ maxSteps:=2000000 }) (implicitDefEqProofs:=false) (disch:=first | omega | assumption | (simp only []; done) | fail) only [go_sem,Nat.reduceAdd,Nat.reduceBEq,Int.reduceAdd,Int.reduceBEq,Tryz.f217,h1,h2,h3,h4,h5]
theorem QhY (s:List UInt8) (hs:s.length<=1000000000) (a k:Nat) (h:1<=k/\k<=8) (hh:a + k<=s.length):VCalls prog 217 [.pv (.str s),.int .i64 a,.int .i64 k] [] (Ret (.tup [.int .i64 (IntKind.i64.wrap (Qlf s a k)),.int .i64 0])):=by
  refine dd Tryz.func217 ?_
  have h1:¬ (k:Int) < 1:=by omega
  have h2:¬ 8 < (k:Int):=by omega
  have h3:¬ (a:Int) < 0:=by omega
  have h4:¬ (s.length:Int) < a:=by omega
  have h5:¬ (s.length:Int) - a < k:=by omega
  simp (config:={ maxSteps:=2000000 }) (implicitDefEqProofs:=false) (disch:=first | omega | assumption | (simp only []; done) | fail) only [go_sem,Nat.reduceAdd,Nat.reduceBEq,Int.reduceAdd,Int.reduceBEq,Tryz.f217,h1,h2,h3,h4,h5]
  refine QxA (fun i:{i:Nat // i<=k}=>⟨51,0,[(9,.int .i64 i.1),(2,.int .i64 k),(8,.int .u64 (Qlf s a i.1)),(0,.pv (.str s)),(1,.int .i64 a)],[]⟩) (fun i=>k - i.1) ⟨0,by omega⟩ (by refine ⟨rfl,rfl,by simp,?_,?_,.inl rfl⟩<;>(repeat' apply And.intro)<;>first | rfl | trivial) ?_
  intro i
  obtain ⟨i,hi⟩:=i
  dsimp only
  simp (config:={ maxSteps:=2000000 }) (implicitDefEqProofs:=false) (disch:=first | omega | assumption | (simp only []; done) | fail) only [go_sem,Nat.reduceBEq,Int.reduceBEq]
  refine Qa7 (fun hc=>?_) (fun hc=>?_)<;>simp only [decide_eq_true_eq,decide_eq_false_iff_not,Bool.or_eq_true,Bool.and_eq_true,Bool.or_eq_false_iff,Bool.and_eq_false_imp,Bool.not_eq_true',Bool.not_eq_false',beq_iff_eq,beq_eq_false_iff_ne,bne_iff_ne,bne_eq_false_iff_eq,ne_eq] at hc
  · have hg:s[((a:Int) + (i:Int)).toNat]? = some (s.getD (a + i) 0):=Qx0 s a i (by omega)
    have h0:0<=(a:Int) + (i:Int):=by omega
    have hw8:IntKind.u64.wrap (8 * (i:Int)) = 8 * (i:Int):=by simp [IntKind.wrap,IntKind.signed,IntKind.bits]; omega
    simp (config:={ maxSteps:=2000000 }) (implicitDefEqProofs:=false) (disch:=first | omega | assumption | (simp only []; done) | fail) only [go_sem,Nat.reduceBEq,Int.reduceBEq,hg,hw8]
    exact ⟨⟨i + 1,by omega⟩,by show k - (i + 1) < k - i; omega,(by refine ⟨rfl,rfl,by simp,?_,?_,.inl rfl⟩<;>(repeat' apply And.intro)<;>first | rfl | trivial)⟩
  · simp (config:={ maxSteps:=2000000 }) (implicitDefEqProofs:=false) (disch:=first | omega | assumption | (simp only []; done) | fail) only [go_sem,↓reduceIte,Nat.reduceLT,Nat.reduceBEq,Int.reduceLT,Int.reduceBEq]
    have hik:i = k:=by omega
    rw [hik]
def u64N (n:Int):Nat:=(n % 18446744073709551616).toNat
theorem QxX (n:Int):u64N n < 2 ^ 64:=by unfold u64N; omega
theorem QhK (n:Int):IntKind.u64.wrap n = (u64N n:Int):=by
  unfold u64N
  simp [IntKind.wrap,IntKind.signed,IntKind.bits]; omega
theorem Qi4 (i:Nat) (h:i < 8):min (8 * (i:Int)).toNat 64 = 8 * i:=by
  have e:(8 * (i:Int)).toNat = 8 * i:=by omega
  rw [e]; omega
theorem Qtd (n:Int) (i:Nat) (h:i < 8):(Qk2 n i).toNat = u64N n / 2 ^ (8 * i) % 256:=by
  have hx:=Qwf n i
  unfold Qwe at hx
  rw [QhJ,QhK,Qi4 i h] at hx
  have e:((u64N n:Int).fdiv (2 ^ (8 * i))) = ((u64N n / 2 ^ (8 * i):Nat):Int):=by
    have e2:((2:Int) ^ (8 * i)) = ((2 ^ (8 * i):Nat):Int):=by rw [Int.natCast_pow]; rfl
    rw [e2,Int.fdiv_eq_ediv_of_nonneg _ (Int.natCast_nonneg _)]
    rfl
  rw [e] at hx
  generalize u64N n / 2 ^ (8 * i) = q at hx |-
  omega
theorem QwR (x y:Nat) (hx:x < 2 ^ 64) (hy:y < 2 ^ 64):bits .or .u64 (x:Int) (y:Int) = ((x ||| y:Nat):Int):=by
  have e:bits .or .u64 (x:Int) (y:Int) = IntKind.u64.wrap ((BitVec.ofInt 64 (x:Int) ||| BitVec.ofInt 64 (y:Int)).toNat:Int):=rfl
  rw [e,BitVec.toNat_or]
  have h1:(BitVec.ofInt 64 (x:Int)).toNat = x:=by simp; omega
  have h2:(BitVec.ofInt 64 (y:Int)).toNat = y:=by simp; omega
  rw [h1,h2,QhK]
  have h3:x ||| y < 2 ^ 64:=Nat.or_lt_two_pow hx hy
  unfold u64N; omega
theorem Quf (N i:Nat):(N % 2 ^ (8 * i)) ||| (N / 2 ^ (8 * i) % 256 * 2 ^ (8 * i)) = N % 2 ^ (8 * (i + 1)):=by
  have h:N % 2 ^ (8 * i) < 2 ^ (8 * i):=Nat.mod_lt _ (Nat.two_pow_pos _)
  rw [Nat.or_comm,Nat.mul_comm,<- Nat.two_pow_add_eq_or_of_lt h]
  have e:2 ^ (8 * (i + 1)) = 2 ^ (8 * i) * 256:=by rw [Nat.mul_add,Nat.pow_add]
  rw [e,Nat.mod_mul]; omega
theorem Qu9 (s t:List UInt8) (n:Int) (k i:Nat) (hi:i < k):(Qan s n k ++ t).getD (s.length + i) 0 = Qk2 n i:=by
  rw [List.getD_eq_getElem?_getD,Qan,List.append_assoc,List.getElem?_append_right (by omega),List.getElem?_append_left (by simp; omega)]
  simp [hi]
theorem Qmy (s t:List UInt8) (n:Int) (k:Nat) (hk:k<=8):∀ i,i<=k->Qlf (Qan s n k ++ t) s.length i = ((u64N n % 2 ^ (8 * i):Nat):Int)
  | 0,_=>by simp [Qlf,Nat.mod_one]
  | i + 1,hi=>by
    have ih:=Qmy s t n k hk i (by omega)
    have h8:i < 8:=by omega
    unfold Qlf
    rw [ih,Qu9 s t n k i (by omega),Qtd n i h8,Qi4 i h8]
    have hb:u64N n / 2 ^ (8 * i) % 256 < 256:=Nat.mod_lt _ (by omega)
    have hw:IntKind.u64.wrap ((u64N n / 2 ^ (8 * i) % 256:Nat):Int) = ((u64N n / 2 ^ (8 * i) % 256:Nat):Int):=by rw [QhK]; unfold u64N at *; omega
    rw [hw]
    have hp:(2:Nat) ^ (8 * i)<=2 ^ 56:=Nat.pow_le_pow_right (by omega) (by omega)
    have hlt:u64N n / 2 ^ (8 * i) % 256 * 2 ^ (8 * i) < 2 ^ 64:=by
      have:u64N n / 2 ^ (8 * i) % 256 * 2 ^ (8 * i)<=255 * 2 ^ 56:=Nat.mul_le_mul (by omega) hp
      omega
    have e2:((u64N n / 2 ^ (8 * i) % 256:Nat):Int) * 2 ^ (8 * i) = ((u64N n / 2 ^ (8 * i) % 256 * 2 ^ (8 * i):Nat):Int):=by
      rw [Int.natCast_mul,Int.natCast_pow]; rfl
    rw [e2]
    have hw2:IntKind.u64.wrap ((u64N n / 2 ^ (8 * i) % 256 * 2 ^ (8 * i):Nat):Int) = ((u64N n / 2 ^ (8 * i) % 256 * 2 ^ (8 * i):Nat):Int):=by
      generalize u64N n / 2 ^ (8 * i) % 256 * 2 ^ (8 * i) = z at hlt
      rw [QhK]; unfold u64N; omega
    rw [hw2,QwR _ _ (Nat.lt_of_le_of_lt (Nat.mod_le _ _) (QxX n)) hlt,Quf]
def leN (s:List UInt8) (a:Nat):Nat->Nat
  | 0=>0
  | i + 1=>leN s a i + (s.getD (a + i) 0).toNat * 2 ^ (8 * i)
theorem QkB (s:List UInt8) (a:Nat):∀ i,leN s a i < 2 ^ (8 * i)
  | 0=>by simp [leN]
  | i + 1=>by
    have ih:=QkB s a i
    have hb:=(s.getD (a + i) 0).toNat_lt
    rw [leN,Nat.mul_add,Nat.pow_add]
    have:(s.getD (a + i) 0).toNat * 2 ^ (8 * i)<=255 * 2 ^ (8 * i):=Nat.mul_le_mul_right _ (by omega)
    omega
theorem Qez (s:List UInt8) (a:Nat):∀ i,i<=8->Qlf s a i = (leN s a i:Int)
  | 0,_=>rfl
  | i + 1,hi=>by
    have ih:=Qez s a i (by omega)
    have hlt:=QkB s a i
    have hb:=(s.getD (a + i) 0).toNat_lt
    unfold Qlf
    rw [ih,Qi4 i (by omega)]
    have hw:IntKind.u64.wrap ((s.getD (a + i) 0).toNat:Int) = ((s.getD (a + i) 0).toNat:Int):=by rw [QhK]; unfold u64N; omega
    have hp:(2:Nat) ^ (8 * i)<=2 ^ 56:=Nat.pow_le_pow_right (by omega) (by omega)
    have hm:(s.getD (a + i) 0).toNat * 2 ^ (8 * i)<=255 * 2 ^ 56:=Nat.mul_le_mul (by omega) hp
    have e2:((s.getD (a + i) 0).toNat:Int) * 2 ^ (8 * i) = (((s.getD (a + i) 0).toNat * 2 ^ (8 * i):Nat):Int):=by
      rw [Int.natCast_mul,Int.natCast_pow]; rfl
    rw [hw,e2]
    have hw2:IntKind.u64.wrap (((s.getD (a + i) 0).toNat * 2 ^ (8 * i):Nat):Int) = (((s.getD (a + i) 0).toNat * 2 ^ (8 * i):Nat):Int):=by
      generalize (s.getD (a + i) 0).toNat * 2 ^ (8 * i) = z at hm
      rw [QhK]; unfold u64N; omega
    have h64:leN s a i < 2 ^ 64:=Nat.lt_of_lt_of_le hlt (Nat.pow_le_pow_right (by omega) (by omega))
    rw [hw2,QwR _ _ h64 (by omega),leN]
    congr 1
    rw [Nat.or_comm,Nat.mul_comm _ (2 ^ (8 * i)),<- Nat.two_pow_add_eq_or_of_lt hlt,Nat.add_comm]
def n4 (s:List UInt8) (a:Nat):Nat:=leN s a 4
theorem Qy0 (s:List UInt8) (a:Nat):n4 s a < 4294967296:=QkB s a 4
theorem Qxg (s:List UInt8) (a:Nat):IntKind.i64.wrap (Qlf s a 4) = (n4 s a:Int):=by
  rw [Qez s a 4 (by omega)]
  have:=Qy0 s a
  unfold n4 at this |-
  rw [IntKind.wrap_i64]; omega
theorem QBp (s:List UInt8) (hs:s.length<=100000000) (a:Nat) (hh:a + 4<=s.length):VCalls prog 217 [.pv (.str s),.int .i64 a,.int .i64 4] [] (Ret (.tup [.int .i64 (n4 s a),.int .i64 0])):=by
  have h:=QhY s (by omega) a 4 (by omega) hh
  rwa [Qxg] at h
section
attribute [local go_sem] Tx.d Qy7 QAD QA8 QA7 Qss QAz QAE QAv QAu Qkv List.length_append List.length_take List.length_drop List.take_length QbP Qbm
theorem QfM (l:List Tx) (hl:l.length<=1000000) (a:Int):VCalls prog 147 [.pv (.sl (fz Qae l)),.int .i64 a] [] (Ret (.int .i64 (idT l a))):=by
  refine dd Tryz.func147 ?_
  (unfold Tryz.f147; refine rn trivial ?_)
  refine Qg (fun i:Pass l (fun x=>(x.id == a) = true)=>⟨20,0,[(5,.int .i64 i.i),(0,.pv (.sl (fz Qae l))),(1,.int .i64 a)],[]⟩) (fun i=>l.length - i.i) (Pass.start l _) (gc []) ?_
  intro i
  have hi:=i.hi
  have hg:=fun h:i.i < l.length=>QoJ l i.i h
  have F:=@hg
  refine rn F ?_
  repeat' (first
    | with_reducible exact ⟨⟩
    | (refine sB F ?_ ?_<;>intro hZ))
  · have:=Qsf l (fun x=>x.id == a) i.i (by omega) (by rw [<- Qk l i.i (by omega) Tx0]; simpa using (by assumption:(l.getD i.i Tx0).id = a)) i.no
    rw [idT,this]
  · exact ⟨i.next (by omega) (by rw [<- Qk l i.i (by omega) Tx0]; simpa using (by assumption:¬ (l.getD i.i Tx0).id = a)),by show l.length - (i.i + 1) < l.length - i.i; omega,(gc [])⟩
  · have:=i.all (by omega)
    rw [idT,Qnn,if_neg (by simpa using this)]
theorem QbG (l:List Tx) (hl:l.length<=1000000) (a:Int):VCalls prog 168 [.pv (.sl (fz Qae l)),.int .i64 a] [] (Ret (.int .i64 (idT l a))):=by
  refine dd Tryz.func168 ?_
  have h:=QfM l hl a
  (unfold Tryz.f168; refine rn trivial ?_)
  refine rn F ?_
  repeat' (first
    | with_reducible exact ⟨⟩
    | refine vp F (h) ?_)
theorem QqM (l:List Tx) (hl:l.length<=1000000) (i:Nat) (hi:i < l.length) (t:Tx):VCalls prog 211 [.pv (.sl (fz Qae l)),.int .i64 i,.agg t.d] [] (Ret (.pv (.sl (fz Qae (l.set i t))))):=by
  refine dd Tryz.func211 ?_
  have hb:i * 6 + 6<=l.length * 6:=by omega
  have hse:(cells Qae l).take (i * 6) ++ [.pv (.lit (.int .i64 t.id)),.pv (.lit (.int .i64 t.st)),.pv (.lit (.int .i64 t.n)),.pv (.lit (.int .i64 t.b)),.pv (.sl (fz QN t.l)),.pv (.sl (fz QN t.s))] ++ (cells Qae l).drop (i * 6 + 6) = cells Qae (l.set i t):=QjZ Qae l i t hi
  have hle:(l.set i t).length = l.length:=List.length_set
  (unfold Tryz.f211; refine rn trivial ?_)
  have F:=(And.intro @hb (And.intro @hse @hle))
  (refine rn F ?_; try with_reducible exact ⟨⟩)
theorem Qd8 (t:Tx) (hs:t.sm):VCalls prog 212 [.agg t.d] [] (Ret (.agg (Q5 t).d)):=by
  refine dd Tryz.func212 ?_
  have hg:=fun h:0 < t.l.length=>QDn t.l h
  simp only [Qbm] at hg
  obtain ⟨id,st,n,b,l,s⟩:=t
  obtain ⟨h1,h2⟩:=hs
  dsimp only at h1 h2 hg
  have eS:Q5 ⟨id,st,n,b,l,s⟩ = if st = 2/\QgJ ⟨id,st,n,b,l,s⟩ b = false then ⟨id,1,n,0,l,s⟩ else ⟨id,st,n,b,l,s⟩:=rfl
  have eL:QgJ ⟨id,st,n,b,l,s⟩ b = (decide (0 < l.length) && decide (b < l.getD (l.length - 1) 0)):=rfl
  generalize Q5 ⟨id,st,n,b,l,s⟩ = u at *
  generalize QgJ ⟨id,st,n,b,l,s⟩ b = B at *
  (unfold Tryz.f212; refine rn trivial ?_)
  have F:=@hg
  refine rn F ?_
  repeat' (first
    | with_reducible exact ⟨⟩
    | (refine sG F ?_ ?_<;>intro hZ)
    | (refine sB F ?_ ?_<;>intro hZ)
    | (refine Qb (id:=1) [0,1,2,3,4,5,6,7,8,9,10,11,12,13,14,15,16,17,18,19,20,21] [] (by kernel_rfl) (by kernel_rfl) ?_; refine rn F ?_))
  all_goals first
    | (rw [eS,if_pos ⟨by assumption,by rw [eL,decide_eq_false (show ¬ b < l.getD (l.length - 1) 0 by omega),Bool.and_false]⟩])
    | (rw [eS,if_pos ⟨by assumption,by rw [eL,decide_eq_false (show ¬ 0 < l.length by omega),Bool.false_and]⟩])
    | (rw [eS,if_neg (by rintro ⟨h,_⟩; omega)])
    | (rw [eS,if_neg (by rintro ⟨_,h⟩; rw [eL,decide_eq_true (show b < l.getD (l.length - 1) 0 by omega),decide_eq_true (show 0 < l.length by omega)] at h; cases h)])
theorem QfD (l:List Tx) (t:Tx):cells Qae l ++ [.pv (.lit (.int .i64 t.id)),.pv (.lit (.int .i64 t.st)),.pv (.lit (.int .i64 t.n)),.pv (.lit (.int .i64 t.b)),.pv (.sl (fz QN t.l)),.pv (.sl (fz QN t.s))] = cells Qae (l ++ [t]):=by rw [QE]; rfl
theorem Qrd (l:List Tx) (a:Int):(Qol l a).length<=l.length:=QvE _ _
theorem Qrc (l:List Tx) (a:Int) (i:Nat) (h:i < l.length):Qol (l.take (i + 1)) a = if (l.getD i Tx0).id = a then Qol (l.take i) a else Qol (l.take i) a ++ [l.getD i Tx0]:=by
  rw [Qk l i h]
  unfold Qol
  rw [Qbw l _ i h]
  by_cases hx:l[i].id = a<;>simp [hx]
theorem Qgk (l:List Tx) (hl:l.length<=1000000) (a:Int):VCalls prog 210 [.pv (.sl (fz Qae l)),.int .i64 a] [] (Ret (.pv (.sl (fz Qae (Qol l a))))):=by
  refine dd Tryz.func210 ?_
  (unfold Tryz.f210; refine rn trivial ?_)
  refine VLoop.nilOwn 5 218 6 rfl ?_
  refine Qg (fun s:To l.length=>⟨28,0,[(6,.int .i64 s.i),(5,.own 0 6 0 (Qol (l.take s.i) a).length),(0,.pv (.sl (fz Qae l))),(1,.int .i64 a)],[⟨218,true,cells Qae (Qol (l.take s.i) a)⟩]⟩) (fun s=>l.length - s.i) ⟨0,Nat.zero_le _⟩ (gc [0]) ?_
  intro s
  have hi:=s.hi
  have hg:=fun h:s.i < l.length=>QoJ l s.i h
  have hle:=Qrd (l.take s.i) a
  rw [List.length_take] at hle
  have hb:((Qol (l.take s.i) a).length + 1) * 80<=140737488355328:=by omega
  have hs:=Qrc l a s.i
  have F:=(And.intro @hg (And.intro @hb @QfD))
  refine rn F ?_
  repeat' (first
    | with_reducible exact ⟨⟩
    | (refine sB F ?_ ?_<;>intro hZ))
  · replace hs:=hs (by omega)
    rw [if_neg (by assumption)] at hs
    refine ⟨⟨s.i + 1,by omega⟩,by show l.length - (s.i + 1) < l.length - s.i; omega,?_⟩
    rw [hs,List.length_append]
    exact (gc [2])
  · replace hs:=hs (by omega)
    rw [if_pos (by assumption)] at hs
    refine ⟨⟨s.i + 1,by omega⟩,by show l.length - (s.i + 1) < l.length - s.i; omega,?_⟩
    rw [hs]
    exact (gc [0])
  · rw [List.take_of_length_le (by omega)]
def QiQ (l:List Tx) (a:Int):Int × Int:=
  if QdF l = false then (0,15) else if idT l a < 0 then (0,16) else if (l.getD (idT l a).toNat Tx0).st ≠ 1 then (0,15) else (idT l a,0)
theorem Qkd (l:List Tx) (a:Int):(QiQ l a).2 = (Qs l a).2:=by
  unfold QiQ Qs
  split
  · rfl
  · split
    · rfl
    · split<;>rfl
theorem Qke {l:List Tx} {a:Int} (h:(Qs l a).2 = 0):(QiQ l a).1 = idT l a:=by
  unfold QiQ
  unfold Qs at h
  split at h
  · simp at h
  · rename_i h1
    split at h
    · simp at h
    · rename_i h2
      split at h
      · simp at h
      · rename_i h3
        rw [if_neg h1,if_neg h2,if_neg h3]
theorem Qkc (l:List Tx) (hs:smL l) (a:Int):VCalls prog 239 [.pv (.sl (fz Qae l)),.int .i64 a] [] (Ret (.tup [.int .i64 (QiQ l a).1,.int .i64 (QiQ l a).2])):=by
  refine dd Tryz.func239 ?_
  have c1:=Qbs l hs
  have c2:=QfM l hs.1 a
  unfold QiQ
  rcases Q7 l a with h | ⟨i,hi,h,hid⟩
  · rw [h] at c2 |-
    (unfold Tryz.f239; refine rn trivial ?_)
    refine rn F ?_
    repeat' (first
      | with_reducible exact ⟨⟩
      | (refine sB F ?_ ?_<;>intro hZ)
      | refine vp F (c1) ?_
      | refine vp F (c2) ?_)
    all_goals rfl
  · rw [h] at c2 |-
    have hg:=QoJ l i hi
    rw [Int.toNat_natCast,if_neg (show ¬ (i:Int) < 0 by omega)]
    (unfold Tryz.f239; refine rn trivial ?_)
    have F:=@hg
    refine rn F ?_
    repeat' (first
      | with_reducible exact ⟨⟩
      | (refine sB F ?_ ?_<;>intro hZ)
      | refine vp F (c1) ?_
      | refine vp F (c2) ?_)
    all_goals first | rfl | (rw [if_pos (by assumption)]) | (rw [if_neg (by omega)])
theorem Qyj (l:List Tx) (hs:smL l) (a:Int):VCalls prog 195 [.pv (.sl (fz Qae l)),.int .i64 a] [] (Ret (QAt (Qqz l a))):=by
  refine VCalls.unwk ?_
  refine dd Tryz.func195 ?_
  have c1:=Qkc l hs a
  have hok:=@Qds l a
  rw [Qkd] at c1
  unfold Qqz
  by_cases hz:(Qs l a).2 = 0
  · obtain ⟨hv,i,hi,h1,h2,h3⟩:=hok hz
    rw [Qke hz,h1,hz] at c1
    have hts:=QeQ (QdE hv hi)
    have hg:=Qns l i hi
    have hw:=QqM l hs.1 i hi ⟨l[i].id,l[i].st,l[i].n,l[i].b,l[i].l,l[i].s ++ [l[i].n]⟩
    rw [if_neg (by rw [hz]; simp),h3,h1,Int.toNat_natCast]
    generalize l[i] = t at *
    obtain ⟨id,st,n,b,q,s⟩:=t
    dsimp only at hts hg hw
    (unfold Tryz.f195; refine rn trivial ?_)
    have F:=(And.intro @hg @QhF)
    refine rn F ?_
    repeat' (first
      | with_reducible exact ⟨⟩
      | (refine sB F ?_ ?_<;>intro hZ)
      | refine vp F (c1) ?_
      | (refine QfG [3] _ _ (hw) rfl ⟨⟨by simp,Qq _ _ _⟩,trivial⟩ (by decide) rfl (by simp [DV.nums.go,DV.nums]) ?_ ?_; (focus (refine rd F)); refine rn F ?_)
      | (refine Qb (id:=7) [0,1,3,4] [⟨[5],[],2,[0,3,4],[]⟩,⟨[5],[5],6,[0,1,3,4],[7]⟩,⟨[],[],8,[],[]⟩] (by kernel_rfl) (by kernel_rfl) ?_; refine rn F ?_))
    all_goals first | rfl | (rw [if_pos (by omega)]; rfl) | (rw [if_neg (by omega)]; rfl) | skip
  · generalize Qs l a = r at *
    generalize (QiQ l a).1 = j at *
    rw [if_pos hz]
    (unfold Tryz.f195; refine rn trivial ?_)
    have F:=trivial
    refine rn F ?_
    repeat' (first
      | with_reducible exact ⟨⟩
      | refine vp F (c1) ?_)
    all_goals first | rfl | contradiction | skip
theorem Qpk {l:List Tx} {a:Int} (h:(Qs l a).2 = 0):(Qs l a).1.st = 1/\(Qs l a).1.b = 0:=by
  obtain ⟨hv,i,hi,h1,h2,h3⟩:=Qds h
  have hst:(Qs l a).1.st = 1:=by
    unfold Qs at h |-
    split at h
    · simp at h
    · rename_i q1
      split at h
      · simp at h
      · rename_i q2
        split at h
        · simp at h
        · rename_i q3
          rw [if_neg q1,if_neg q2,if_neg q3]
          simpa using q3
  refine ⟨hst,?_⟩
  have ho:=QdE hv hi
  rw [h3] at hst |-
  simp only [Tx.okB,Tx.hdB,Bool.and_eq_true,Bool.or_eq_true,decide_eq_true_eq] at ho
  omega
theorem QyG (l:List Tx) (hs:smL l) (a sv:Int):VCalls prog 196 [.pv (.sl (fz Qae l)),.int .i64 a,.int .i64 sv] [] (Ret (QAt (Qtj l a sv))):=by
  refine VCalls.unwk ?_
  refine dd Tryz.func196 ?_
  have c1:=Qkc l hs a
  have hok:=@Qds l a
  have hab:=@Qpk l a
  rw [Qkd] at c1
  unfold Qtj
  by_cases hz:(Qs l a).2 = 0
  · obtain ⟨hv,i,hi,h1,h2,h3⟩:=hok hz
    obtain ⟨hst,hb0⟩:=hab hz
    rw [Qke hz,h1,hz] at c1
    have hts:=QeQ (QdE hv hi)
    have hg:=Qns l i hi
    rw [if_neg (by rw [hz]; simp),h3,h1,Int.toNat_natCast]
    rw [h3] at hst hb0
    have hw:=QqM l hs.1 i hi
    by_cases hr:sv < 0\/((l[i].s.length:Int)<=sv)
    · generalize l[i] = t at *
      obtain ⟨id,st,n,b,q,s⟩:=t
      dsimp only at hr hg |-
      rw [if_pos hr]
      (unfold Tryz.f196; refine rn trivial ?_)
      have F:=@hg
      refine rn F ?_
      repeat' (first
        | with_reducible exact ⟨⟩
        | (refine sG F ?_ ?_<;>intro hZ)
        | refine vp F (c1) ?_)
      all_goals first | rfl | (exfalso; omega)
    obtain ⟨k,rfl⟩:∃ k:Nat,sv = k:=⟨sv.toNat,by omega⟩
    have hk:k < l[i].s.length:=by omega
    rw [if_neg (by omega),Int.toNat_natCast]
    have hw2:=hw (Q5 ⟨l[i].id,2,l[i].n,l[i].s.getD k 0,l[i].l,l[i].s.take (k + 1)⟩)
    generalize l[i] = t at *
    obtain ⟨id,st,n,b,q,s⟩:=t
    dsimp only at hts hg hk hst hb0 hw2 |-
    subst hst hb0
    have hse:=Qd8 ⟨id,2,n,s.getD k 0,q,s.take (k + 1)⟩ ⟨by show q.length<=_; omega,by show (s.take (k + 1)).length<=_; rw [List.length_take]; omega⟩
    have eS:Q5 ⟨id,2,n,s.getD k 0,q,s.take (k + 1)⟩ = if QgJ ⟨id,1,n,0,q,s⟩ (s.getD k 0) = true then ⟨id,2,n,s.getD k 0,q,s.take (k + 1)⟩ else ⟨id,1,n,0,q,s.take (k + 1)⟩:=by
      unfold Q5
      have e:QgJ ⟨id,2,n,s.getD k 0,q,s.take (k + 1)⟩ (s.getD k 0) = QgJ ⟨id,1,n,0,q,s⟩ (s.getD k 0):=rfl
      cases hB:QgJ ⟨id,1,n,0,q,s⟩ (s.getD k 0)
      · rw [if_pos ⟨rfl,by rw [<- hB]; exact e⟩]; rfl
      · rw [if_neg (by rintro ⟨_,h⟩; rw [show QgJ ⟨id,2,n,s.getD k 0,q,s.take (k + 1)⟩ (s.getD k 0) = true from e.trans hB] at h; cases h)]; rfl
    have hgc:((cells QN (s.take (k + 1))).drop k).take 1 = [.int .i64 (s.getD k 0)]:=by
      have hgc:(cells QN (s.take (k + 1)))[k]? = some (.int .i64 (s.getD k 0)):=by
        rw [QeZ _ _ (by rw [List.length_take]; omega)]
        simp [List.getD_eq_getElem?_getD,List.getElem?_take]
      obtain ⟨h,e⟩:=List.getElem?_eq_some_iff.1 hgc
      rw [List.drop_eq_getElem_cons h,e]; rfl
    have hgd:(cells QN (s.take (k + 1)))[k]? = some (.int .i64 (s.getD k 0)):=by
      rw [QeZ _ _ (by rw [List.length_take]; omega)]
      simp [List.getD_eq_getElem?_getD,List.getElem?_take]
    have hl1:(s.take (k + 1)).length = k + 1:=by rw [List.length_take]; omega
    have ek:((k:Int) + 1).toNat = k + 1:=by omega
    have fin:(if QgJ ⟨id,1,n,0,q,s⟩ (s.getD k 0) = true then (l.set i ⟨id,2,n,s.getD k 0,q,s.take (k + 1)⟩,(0:Int)) else (l.set i ⟨id,1,n,0,q,s.take (k + 1)⟩,0)) = (l.set i (Q5 ⟨id,2,n,s.getD k 0,q,s.take (k + 1)⟩),0):=by
      rw [eS]; split<;>rfl
    rw [fin]
    clear fin eS
    generalize hT:Q5 ⟨id,2,n,s.getD k 0,q,s.take (k + 1)⟩ = T at *
    (unfold Tryz.f196; refine rn trivial ?_)
    have F:=(And.intro @hg (And.intro @hl1 (And.intro @ek (And.intro @hgc @hgd))))
    refine rn F ?_
    repeat' (first
      | with_reducible exact ⟨⟩
      | refine vp F (c1) ?_
      | (refine QfG [1] _ _ (hse) rfl ⟨⟨by simp,Qq _ _ _⟩,trivial⟩ (by decide) rfl (by simp [DV.nums.go,DV.nums]) ?_ ?_; (focus (refine rd F)); refine rn F ?_)
      | refine vp F (hw2) ?_
      | (refine Qb (id:=8) [0,1,2,3,4,5] [⟨[],[],6,[2,3,4],[7]⟩,⟨[],[],8,[],[]⟩] (by kernel_rfl) (by kernel_rfl) ?_; refine rn F ?_))
    all_goals first | rfl | skip
  · generalize Qs l a = r at *
    generalize (QiQ l a).1 = j at *
    rw [if_pos hz]
    (unfold Tryz.f196; refine rn trivial ?_)
    have F:=trivial
    refine rn F ?_
    repeat' (first
      | with_reducible exact ⟨⟩
      | refine vp F (c1) ?_)
    all_goals first | rfl | contradiction | skip
end
section
attribute [local go_sem] Tx.d Qy7 QAD QA8 QA7 Qss QAz QAE QAv QAu Qkv List.length_append List.length_take List.length_drop List.take_length QbP Qbm Qg3 QcN Qb0 Qaz Qak QmH QjO QfT Qep QdW QcZ QCZ
structure Fr (l:List Tx) (a:Int) where
  j:Nat
  hj:j<=l.length
  lt:∀ k,∀ h:k < l.length,k < j->l[k].id < a
theorem Fr.fin {l:List Tx} {a:Int} (s:Fr l a) (h:∀ h:s.j < l.length,¬ l[s.j].id < a):QAw l a = s.j:=
  QBM l _ s.j s.hj (fun k hk hkj=>decide_eq_true (s.lt k hk hkj)) (fun hj=>decide_eq_false (h hj))
theorem Qt8 {l:List Tx} {j:Nat} (h:j<=l.length):(l.take j).length = j:=by rw [List.length_take]; omega
theorem QlB (l:List Tx) (j:Nat) (h:j < l.length):cells Qae (l.take j) ++ [.pv (.lit (.int .i64 (l.getD j Tx0).id)),.pv (.lit (.int .i64 (l.getD j Tx0).st)),.pv (.lit (.int .i64 (l.getD j Tx0).n)),.pv (.lit (.int .i64 (l.getD j Tx0).b)),.pv (.sl (fz QN (l.getD j Tx0).l)),.pv (.sl (fz QN (l.getD j Tx0).s))] = cells Qae (l.take (j + 1)):=by
  rw [QfD,List.take_succ_eq_append_getElem h,Qk l j h]
theorem Qm7 (l:List Tx) (hs:smL l) (a:Int):VCalls prog 116 [.pv (.sl (fz Qae l)),.int .i64 a] [] (Ret (QAt (Qb5 l a))):=by
  refine VCalls.unwk ?_
  have hl:=hs.1
  have c1:=Qbs l hs
  have c2:=QfM l hl a
  have eS:Qb5 l a = if QdF l = false then ([],15) else if a < 1\/1073741824 < a then ([],1) else if 0<=idT l a then ([],25) else if l.length = 64 then ([],21) else (l.take (QAw l a) ++ ⟨a,1,0,0,[],[]⟩ :: l.drop (QAw l a),0):=rfl
  have hfin:=@Fr.fin l a
  have hp:QAw l a<=l.length:=QDj _ _
  have hsm:=@QmL l
  generalize idT l a = d at *
  generalize Qb5 l a = res at *
  generalize QdF l = T at *
  refine QcA (fn:=Tryz.f116) (c:=Qg3 Tryz.f116) Tryz.func116 rfl (by kernel_rfl) (by simp [Tryz.f116]) ?_
  refine QC6 5 ?_
  generalize hrest:Qhr 5 (Qg3 Tryz.f116) = rest
  (unfold Tryz.f116; refine rn trivial ?_)
  have F:=trivial
  refine rn F ?_
  repeat' (first
    | (refine sG F ?_ ?_<;>intro hZ<;>try with_reducible exact ⟨⟩)
    | (refine sB F ?_ ?_<;>intro hZ<;>try with_reducible exact ⟨⟩)
    | (refine sD F ?_ ?_<;>intro hZ<;>try with_reducible exact ⟨⟩)
    | (refine vp F (c1) ?_; try with_reducible exact ⟨⟩)
    | (refine vd F (c1) ?_; try with_reducible exact ⟨⟩)
    | (refine vl F (c1) ?_; try with_reducible exact ⟨⟩)
    | (refine vp F (c2) ?_; try with_reducible exact ⟨⟩)
    | (refine vd F (c2) ?_; try with_reducible exact ⟨⟩)
    | (refine vl F (c2) ?_; try with_reducible exact ⟨⟩)
    | (refine Qb (id:=14) [0,1,2,5,6,7,8] [⟨[3],[3],4,[1,2,5,6,7,8],[]⟩,⟨[],[],9,[0,1,2,5,6,7],[]⟩,⟨[],[],10,[],[]⟩,⟨[],[],11,[],[]⟩] (by kernel_rfl) (by kernel_rfl) ?_; refine rn F ?_; try with_reducible exact ⟨⟩)
    | (refine QdB (by kernel_rfl) (by kernel_rfl) ?_; refine rn F ?_; try with_reducible exact ⟨⟩))
  all_goals first
    | (rw [eS]; repeat (first | rw [if_pos (by first | assumption | omega)] | rw [if_neg (by first | assumption | omega | (rw [show T = true by assumption]; decide))])
       rfl)
    | skip
  rw [eS]
  repeat (first | rw [if_pos (by first | assumption | omega)] | rw [if_neg (by first | assumption | omega | (rw [show T = true by assumption]; decide))])
  have hsm:=hsm (by assumption)
  refine VLoop.nilOwn 6 218 6 rfl ?_
  refine Qg (fun s:Fr l a=>⟨60,0,[(7,.int .i64 s.j),(6,.own 0 6 0 s.j),(0,.pv (.sl (fz Qae l))),(1,.int .i64 a)],[⟨218,true,cells Qae (l.take s.j)⟩]⟩) (fun s=>l.length - s.j) ⟨0,Nat.zero_le _,fun k _ h=>by omega⟩ (gc [0]) ?_
  intro s
  have hj:=s.hj
  have hlt:=s.lt
  have hf:=hfin s
  have htl:=Qt8 s.hj
  have hg:=fun h:s.j < l.length=>QoJ l s.j h
  have hts:=fun h:s.j < l.length=>QlB l s.j h
  have hcl:(cells Qae (l.take s.j)).length = s.j * 6:=by rw [Qy7,htl]
  have hta:(cells Qae (l.take s.j)).take (s.j * 6) = cells Qae (l.take s.j):=QAD _ _ (by rw [htl]; exact Nat.le_refl _)
  have hb:(s.j + 1) * 80<=140737488355328:=by omega
  have htx:(cells Qae (l.take s.j) ++ ([.pv (.lit (.int .i64 a)),.pv (.lit (.int .i64 1)),.pv (.lit (.int .i64 0)),.pv (.lit (.int .i64 0)),.pv (.slc []),.pv (.slc [])]:List DV)).take ((s.j + 1) * 6) = cells Qae (l.take s.j) ++ [.pv (.lit (.int .i64 a)),.pv (.lit (.int .i64 1)),.pv (.lit (.int .i64 0)),.pv (.lit (.int .i64 0)),.pv (.slc []),.pv (.slc [])]:=by
    rw [List.take_of_length_le]; rw [List.length_append,hcl]; simp; omega
  have hb2:(s.j + 1 + (l.length - s.j)) * 80<=140737488355328:=by omega
  have hb3:(s.j + 1) * 6<=s.j * 6 + 6:=by omega
  have hw:DV.wk.go (cells Qae (l.take s.j) ++ [.pv (.lit (.int .i64 a)),.pv (.lit (.int .i64 1)),.pv (.lit (.int .i64 0)),.pv (.lit (.int .i64 0)),.pv (.slc []),.pv (.slc [])] ++ cells Qae (l.drop s.j)) = cells Qae (l.take s.j ++ ⟨a,1,0,0,[],[]⟩ :: l.drop s.j):=by
    rw [Qww,Qww,QCZ,QCZ,QE,List.append_assoc]
    rfl
  have hfl:(l.take s.j ++ (⟨a,1,0,0,[],[]⟩:Tx) :: l.drop s.j).length = s.j + 1 + (l.length - s.j):=by
    rw [List.length_append,List.length_cons,List.length_drop,htl]; omega
  have F:=(And.intro @hg (And.intro @hts (And.intro @hcl (And.intro @hta (And.intro @hb (And.intro @htx (And.intro @hb2 @hb3)))))))
  refine rn F ?_
  repeat' (first
    | (refine sG F ?_ ?_<;>intro hZ<;>try with_reducible exact ⟨⟩)
    | (refine sB F ?_ ?_<;>intro hZ<;>try with_reducible exact ⟨⟩)
    | (refine sD F ?_ ?_<;>intro hZ<;>try with_reducible exact ⟨⟩)
    | (refine Qb (id:=14) [0,1,2,5,6,7,8] [⟨[3],[3],4,[1,2,5,6,7,8],[]⟩,⟨[],[],9,[0,1,2,5,6,7],[]⟩,⟨[],[],10,[],[]⟩,⟨[],[],11,[],[]⟩] (by kernel_rfl) (by kernel_rfl) ?_; refine rn F ?_; try with_reducible exact ⟨⟩)
    | (refine QdB (by kernel_rfl) (by kernel_rfl) ?_; refine rn F ?_; try with_reducible exact ⟨⟩))
  all_goals first
    | (refine ⟨⟨s.j + 1,by omega,fun k h' hkj=>?_⟩,by show l.length - (s.j + 1) < l.length - s.j; omega,(gc [2])⟩
       rcases Nat.lt_or_ge k s.j with h | h
       · exact hlt k h' h
       · obtain rfl:k = s.j:=by omega
         rw [<- Qk l s.j h' Tx0]
         assumption)
    | (rw [hf (fun h=>by first | (rw [<- Qk l s.j h Tx0]; exact Int.not_lt.2 (by assumption)) | (clear F hg hts hf hlt htx hw; omega))]
       refine QxK ?_
       subst hrest
       simp (config:={ maxSteps:=2000000 }) (implicitDefEqProofs:=false) (disch:=first | omega | assumption) only [go_sem,↓reduceIte,Nat.reduceLT,Nat.reduceBEq,Int.reduceLT,Int.reduceBEq,Tryz.f116,hw,Qss hfl]
       rfl)
end
section
attribute [local go_sem] Tx.d Qy7 QAD QA8 QA7 Qss QAz QAE QAv QAu Qkv List.length_append List.length_take List.length_drop List.take_length QbP Qbm
theorem QsJ (q:List Int) (r:Int) (i:Nat) (h:i < q.length):(q.take (i + 1)).filter (fun x=>decide (x ≠ r)) = (q.take i).filter (fun x=>decide (x ≠ r)) ++ (if q.getD i 0 = r then [] else [q.getD i 0]):=by
  rw [List.take_succ_eq_append_getElem h,List.filter_append,Qk q i h]
  by_cases hx:q[i] = r<;>simp [hx]
theorem QzG (q:List Int) (r:Int) (i:Nat):((q.take i).filter fun x=>decide (x ≠ r)).length<=i:=by
  refine Nat.le_trans (List.length_filter_le _ _) ?_
  rw [List.length_take]; omega
theorem QzH (q:List Int) (r:Int):(q.filter fun x=>decide (x ≠ r)).length = q.length ↔ r ∉ q:=by
  rw [List.length_filter_eq_length_iff]
  constructor
  · intro h hm; simpa using h r hm
  · intro h x hx; exact decide_eq_true fun e=>h (e ▸ hx)
theorem QlN (l:List Tx) (hs:smL l) (e:E):VCalls prog 170 [.pv (.sl (fz Qae l)),.agg e.d] [] (Ret (QAt (QbJ l e))):=by
  refine VCalls.unwk ?_
  have c1:=Qbs l hs
  have c2:=Qca e
  have c3:=QfM l hs.1 e.tx
  have c4:=Qgk l hs.1 e.tx
  have hw:=fun (i:Nat) (hi:i < l.length) (t:Tx)=>QqM l hs.1 i hi t
  have hok:=@Qvj e
  have hat:=@Qvn l e
  have e0:QbJ l e = if QdF l = false then ([],15) else if e.okB = false then ([],12) else if e.tx = 0 then (l,0) else if idT l e.tx < 0 then ([],16)
    else Qox l (idT l e.tx).toNat (l.getD (idT l e.tx).toNat Tx0) e:=rfl
  by_cases hv:QdF l = true
  rotate_left
  · have hv':QdF l = false:=by simpa using hv
    rw [e0,if_pos hv']
    rw [hv'] at c1
    refine dd Tryz.func170 ?_
    unfold E.d
    (unfold Tryz.f170; refine rn trivial ?_)
    refine rn F ?_
    repeat' (first
      | with_reducible exact ⟨⟩
      | refine vp F (c1) ?_)
    rfl
  by_cases hk:e.okB = true
  rotate_left
  · have hk':e.okB = false:=by simpa using hk
    rw [e0,if_neg (by rw [hv]; decide),if_pos hk']
    rw [hv] at c1
    rw [hk'] at c2
    unfold E.d at c2 |-
    refine dd Tryz.func170 ?_
    (unfold Tryz.f170; refine rn trivial ?_)
    refine rn F ?_
    repeat' (first
      | with_reducible exact ⟨⟩
      | refine vp F (c1) ?_
      | refine vp F (c2) ?_)
    rfl
  by_cases ht:e.tx = 0
  · rw [e0,if_neg (by rw [hv]; decide),if_neg (by rw [hk]; decide),if_pos ht]
    rw [hv] at c1
    rw [hk] at c2
    unfold E.d at c2 |-
    refine dd Tryz.func170 ?_
    (unfold Tryz.f170; refine rn trivial ?_)
    have F:=@ht
    refine rn F ?_
    repeat' (first
      | with_reducible exact ⟨⟩
      | refine vp F (c1) ?_
      | refine vl F (c2) ?_)
    rfl
  rw [hv] at c1
  rw [hk] at c2
  rcases Q7 l e.tx with h | ⟨i,hi,h,hid⟩
  · rw [e0,if_neg (by rw [hv]; decide),if_neg (by rw [hk]; decide),if_neg ht,h,if_pos (by decide)]
    rw [h] at c3
    unfold E.d at c2 |-
    refine dd Tryz.func170 ?_
    (unfold Tryz.f170; refine rn trivial ?_)
    have F:=@ht
    refine rn F ?_
    repeat' (first
      | with_reducible exact ⟨⟩
      | refine vp F (c1) ?_
      | refine vp F (c2) ?_
      | refine vp F (c3) ?_)
    all_goals first | rfl | contradiction
  rw [hat hv hk ht hi h]
  have hkk:=hok hk ht
  rw [h] at c3
  have hg:=Qns l i hi
  have hto:=QdE hv hi
  have hso:=QyY hto
  have hle:=QeQ hto
  clear hat e0 hok
  generalize hT:l[i] = t at *
  obtain ⟨id,st,n,b,q,s⟩:=t
  dsimp only at hid hso hle hg
  obtain ⟨lsn,kind,tx,ptx,ppg,ref,c,blob⟩:=e
  dsimp only at hid c4 c3 h hkk ht
  unfold E.d at c2 |-
  dsimp only at c2 |-
  unfold Qox
  dsimp only
  by_cases hp:ptx = n
  rotate_left
  · rw [if_pos (.inl hp)]
    refine dd Tryz.func170 ?_
    (unfold Tryz.f170; refine rn trivial ?_)
    have F:=(And.intro @ht @hg)
    refine rn F ?_
    repeat' (first
      | with_reducible exact ⟨⟩
      | refine vp F (c1) ?_
      | refine vp F (c2) ?_
      | refine vp F (c3) ?_)
    all_goals first | rfl | contradiction | omega
  subst hp
  rcases hkk with rfl | rfl | rfl | rfl | rfl
  · rw [if_neg (by rintro (h | h); exact h rfl; omega),if_neg (by omega)]
    have hwA:=hw i hi (Q5 (QeR ⟨id,st,ptx,b,q,s⟩ ⟨lsn,1,tx,ptx,ppg,ref,c,blob⟩))
    have hse:=Qd8 (QeR ⟨id,st,ptx,b,q,s⟩ ⟨lsn,1,tx,ptx,ppg,ref,c,blob⟩)
    have eN:QeR ⟨id,st,ptx,b,q,s⟩ ⟨lsn,1,tx,ptx,ppg,ref,c,blob⟩ = ⟨id,st,lsn,b,q ++ [lsn],s⟩:=rfl
    rw [eN] at hwA hse |-
    replace hse:=hse ⟨by simp; omega,by show s.length<=_; omega⟩
    generalize Q5 ⟨id,st,lsn,b,q ++ [lsn],s⟩ = u at *
    refine dd Tryz.func170 ?_
    (unfold Tryz.f170; refine rn trivial ?_)
    have F:=(And.intro @ht (And.intro @hg @QhF))
    refine rn F ?_
    repeat' (first
      | with_reducible exact ⟨⟩
      | refine vp F (c1) ?_
      | refine vp F (c2) ?_
      | refine vp F (c3) ?_
      | (refine QfG [4] _ _ (hse) rfl ⟨⟨by simp,Qq _ _ _⟩,trivial⟩ (by decide) rfl (by simp [DV.nums.go,DV.nums]) ?_ ?_; (focus (refine rd F)); refine rn F ?_)
      | refine vp F (hwA) ?_
      | (refine Qb (id:=17) [0,1,3,4] [⟨[5],[],2,[0,3,4],[]⟩,⟨[5],[5],6,[0,1,3,4],[7]⟩,⟨[],[],8,[],[]⟩] (by kernel_rfl) (by kernel_rfl) ?_; refine rn F ?_))
    all_goals first | rfl | skip
  · refine dd Tryz.func170 ?_
    (unfold Tryz.f170; refine rn trivial ?_)
    have F:=(And.intro @ht @hg)
    refine rn F ?_
    repeat' (first
      | with_reducible exact ⟨⟩
      | refine vp F (c1) ?_
      | refine vp F (c2) ?_
      | refine vp F (c3) ?_)
    rotate_left
    all_goals first | contradiction | skip
    refine VLoop.nilOwn 8 3 1 rfl ?_
    refine Qg (fun s0:To q.length=>⟨100,0,[(9,.int .i64 s0.i),(8,.own 2 1 0 ((q.take s0.i).filter fun x=>decide (x ≠ ref)).length),(7,.ptr 1 0),(6,.int .i64 i),(3,.ptr 0 0),(0,.pv (.sl (fz Qae l)))],
      [⟨60,true,[.int .i64 lsn,.int .i64 2,.int .i64 tx,.int .i64 ptx,.int .i64 ppg,.int .i64 ref,.int .i64 c.pg,.int .i64 c.sl,.bool c.b.set,.pv (.str c.b.data),.bool c.a.set,.pv (.str c.a.data),.pv (.str blob)]⟩,
       ⟨218,true,[.int .i64 id,.int .i64 st,.int .i64 lsn,.int .i64 b,.pv (.sl (fz QN q)),.pv (.sl (fz QN s))]⟩,
       ⟨3,true,cells QN ((q.take s0.i).filter fun x=>decide (x ≠ ref))⟩]⟩) (fun s0=>q.length - s0.i) ⟨0,Nat.zero_le _⟩ (gc [0,1,2]) ?_
    intro s0
    have hi0:=s0.hi
    have hgq:=fun h:s0.i < q.length=>QX q s0.i h
    have hfl:=QzG q ref s0.i
    have hfs:=QsJ q ref s0.i
    have hwA:=hw i hi (Q5 (QeR ⟨id,st,ptx,b,q,s⟩ ⟨lsn,2,tx,ptx,ppg,ref,c,blob⟩))
    have hse:=Qd8 (QeR ⟨id,st,ptx,b,q,s⟩ ⟨lsn,2,tx,ptx,ppg,ref,c,blob⟩)
    have eN:QeR ⟨id,st,ptx,b,q,s⟩ ⟨lsn,2,tx,ptx,ppg,ref,c,blob⟩ = ⟨id,st,lsn,b,q.filter fun x=>decide (x ≠ ref),s⟩:=rfl
    have hfq:=QzH q ref
    rw [eN] at hwA hse |-
    have hfl2:(q.filter fun x=>decide (x ≠ ref)).length<=q.length:=List.length_filter_le _ _
    replace hse:=hse ⟨by show (q.filter fun x=>decide (x ≠ ref)).length<=_; omega,by show s.length<=_; omega⟩
    by_cases hc:s0.i < q.length
    · replace hfs:=hfs hc
      generalize ((q.take s0.i).filter fun x=>decide (x ≠ ref)) = out at *
      have hb:(out.length + 1) * 8<=140737488355328:=by omega
      have F:=(And.intro @hgq (And.intro @QhF @hb))
      refine rn F ?_
      repeat' (first
        | with_reducible exact ⟨⟩
        | (refine sB F ?_ ?_<;>intro hZ)
        | (refine Qb (id:=23) [0,1,2,3,4,5,6,7] [] (by kernel_rfl) (by kernel_rfl) ?_; refine rn F ?_))
      · have hf2:(q.take (s0.i + 1)).filter (fun x=>decide ¬x = ref) = out ++ [q.getD s0.i 0]:=by rw [if_neg (by assumption)] at hfs; exact hfs
        refine ⟨⟨s0.i + 1,by omega⟩,by show q.length - (s0.i + 1) < q.length - s0.i; omega,?_⟩
        dsimp only
        rw [hf2,List.length_append]
        exact (gc [0,1,4])
      · have hf2:(q.take (s0.i + 1)).filter (fun x=>decide ¬x = ref) = out:=by rw [if_pos (by assumption),List.append_nil] at hfs; exact hfs
        refine ⟨⟨s0.i + 1,by omega⟩,by show q.length - (s0.i + 1) < q.length - s0.i; omega,?_⟩
        dsimp only
        rw [hf2]
        exact (gc [0,1,2])
    · rw [List.take_of_length_le (by omega)] at *
      generalize (q.filter fun x=>decide (x ≠ ref)) = out at *
      generalize Q5 ⟨id,st,lsn,b,out,s⟩ = u at *
      have F:=trivial
      refine rn F ?_
      repeat' (first
        | with_reducible exact ⟨⟩
        | (refine sB F ?_ ?_<;>intro hZ)
        | (refine QfG [2] _ _ (hse) rfl ⟨⟨by simp,Qq _ _ _⟩,trivial⟩ (by decide) rfl (by simp [DV.nums.go,DV.nums]) ?_ ?_; (focus (refine rd F)); refine rn F ?_)
        | refine vp F (hwA) ?_)
      all_goals first | (rw [if_pos (hfq.1 (by omega))]; rfl) | (rw [if_neg (fun h=>absurd (hfq.2 h) (by omega))]; rfl) | skip
  · rw [if_neg (by rintro (h | h); exact h rfl; omega),if_pos (by omega)]
    refine dd Tryz.func170 ?_
    (unfold Tryz.f170; refine rn trivial ?_)
    have F:=(And.intro @ht @hg)
    refine rn F ?_
    repeat' (first
      | with_reducible exact ⟨⟩
      | refine vp F (c1) ?_
      | refine vp F (c2) ?_
      | refine vp F (c3) ?_
      | refine vp F (c4) ?_)
    all_goals rfl
  · rw [if_neg (by rintro (h | h); exact h rfl; omega),if_neg (by omega)]
    have hwA:=hw i hi (Q5 (QeR ⟨id,st,ptx,b,q,s⟩ ⟨lsn,4,tx,ptx,ppg,ref,c,blob⟩))
    have hse:=Qd8 (QeR ⟨id,st,ptx,b,q,s⟩ ⟨lsn,4,tx,ptx,ppg,ref,c,blob⟩)
    have eN:QeR ⟨id,st,ptx,b,q,s⟩ ⟨lsn,4,tx,ptx,ppg,ref,c,blob⟩ = ⟨id,3,lsn,0,q,[]⟩:=rfl
    rw [eN] at hwA hse |-
    replace hse:=hse ⟨by show q.length<=_; omega,by simp⟩
    have hse2:VCalls prog 212 [.agg [.int .i64 id,.int .i64 3,.int .i64 lsn,.int .i64 0,.pv (.sl (fz QN q)),.pv (.slc [])]] [] (Ret (.agg (Q5 ⟨id,3,lsn,0,q,[]⟩).d)):=VCalls.wkA hse
    generalize Q5 ⟨id,3,lsn,0,q,[]⟩ = u at *
    refine dd Tryz.func170 ?_
    (unfold Tryz.f170; refine rn trivial ?_)
    have F:=(And.intro @ht @hg)
    refine rn F ?_
    repeat' (first
      | with_reducible exact ⟨⟩
      | refine vp F (c1) ?_
      | refine vp F (c2) ?_
      | refine vp F (c3) ?_
      | refine vp F (hse2) ?_
      | refine vp F (hwA) ?_)
    all_goals rfl
  · rw [if_neg (by rintro (h | h); exact h rfl; omega),if_pos (by omega)]
    refine dd Tryz.func170 ?_
    (unfold Tryz.f170; refine rn trivial ?_)
    have F:=(And.intro @ht @hg)
    refine rn F ?_
    repeat' (first
      | with_reducible exact ⟨⟩
      | refine vp F (c1) ?_
      | refine vp F (c2) ?_
      | refine vp F (c3) ?_
      | refine vp F (c4) ?_)
    all_goals rfl
end
attribute [go_sem] Ce.d Ch.d E.d Lg.c Qkv List.length_append List.length_take List.length_drop List.take_length QbP Qbm
attribute [go_sem] QgI QhG Qho Qhn QhA QcW
theorem Okay.no {n:Nat} {c:Nat->Bool} (s:Okay n c) {B:Bool} (h:s.i < n) (hB:B = (List.range n).all c) (hc:c s.i = false):B = false:=by rw [hB,Qcj h hc]
theorem Okay.yes {n:Nat} {c:Nat->Bool} (s:Okay n c) {B:Bool} (h:¬ s.i < n) (hB:B = (List.range n).all c):B = true:=by rw [hB,s.all h]
theorem Okay.dec {n:Nat} {c:Nat->Bool} (s:Okay n c) (h:s.i < n):n - (s.i + 1) < n - s.i:=by omega
structure Pg where
  id:Int
  lsn:Int
  cel:Nat->Ce
def QEC (c:Nat->Ce):List PV:=(List.range 16).flatMap fun i=>[.lit (.bool (c i).set),.str (c i).data]
def Pg.p (x:Pg):List PV:=.lit (.int .i64 x.id) :: .lit (.int .i64 x.lsn) :: QEC x.cel
def Pg.d (x:Pg):List DV:=x.p.map .pv
def Pg0:Pg:=⟨0,0,fun _=>Ce0⟩
structure Fm where
  pg:Pg
  dirty:Bool
  rc:Int
  used:Bool
def Fm.p (f:Fm):List PV:=f.pg.p ++ [.lit (.bool f.dirty),.lit (.int .i64 f.rc),.lit (.bool f.used)]
def Fm.d (f:Fm):List DV:=f.p.map .pv
def Fm0:Fm:=⟨Pg0,false,0,false⟩
def Qb8:Enc Fm:=⟨37,Fm.p,by decide,fun _=>rfl⟩
theorem QCR (l:List Fm):(cells Qb8 l).length = l.length * 37:=QS Qb8 l
theorem QEN (l:List Fm) (n:Nat) (h:l.length * 37<=n):(cells Qb8 l).take n = cells Qb8 l:=by rw [List.take_of_length_le]; rw [QCR]; exact h
theorem QEG (l m:List Fm):cells Qb8 l ++ cells Qb8 m = cells Qb8 (l ++ m):=(QE Qb8 l m).symm
theorem QEl (l:List Fm) (T:TypeId) (a b:Nat) (h:a<=b/\b<=l.length):QnH (some (none,T,37)) (fz Qb8 l) a b = some (.pv (.sl (fz Qb8 ((l.take b).drop a)))):=QfZ Qb8 l T a b h
theorem QEi (l:List Fm):(fz Qb8 l = []\/(fz Qb8 l)[0]?.map List.length = some 37) = True:=Qfh Qb8 l
theorem QDY {n:Nat} {hp:Qa} {len:Nat} {l:List Fm} (h:l.length = len):QkP n hp 0 37 len (some (cells Qb8 l)) = some (.sl (fz Qb8 l)):=QY Qb8 h
theorem QcP {α:Type} (e:Enc α) (l:List α) (d:α) (i:Nat) (h:i < l.length):(fz e l)[i]? = some (e.enc (l.getD i d)):=by rw [Qk l i h d]; exact Qh6 e l i h
theorem QbA (l:List Fm) (i:Nat) (h:i < l.length):(fz Qb8 l)[i]? = some (l.getD i Fm0).p:=QcP Qb8 l Fm0 i h
theorem Qtm (l:List Fm) (f:Fm):cells Qb8 l ++ f.d = cells Qb8 (l ++ [f]):=by rw [QE]; simp [cells,Qb8,Fm.d]
@[go_sem] theorem QEc (x:Fm) {T:TypeId} {i:Int} (h0:0<=i):QAM (some (none,T,37)) (some x.p) i = some (.ip x.p):=Qjx h0 rfl (by decide)
@[go_sem] theorem Pg.p_len (x:Pg):x.p.length = 34:=rfl
@[go_sem] theorem Pg.d_len (x:Pg):x.d.length = 34:=rfl
@[go_sem] theorem Fm.p_len (x:Fm):x.p.length = 37:=rfl
@[go_sem] theorem Fm.d_len (x:Fm):x.d.length = 37:=rfl
@[go_sem] theorem Pg.p_map (x:Pg):x.p.map DV.pv = x.d:=(rfl)
@[go_sem] theorem Fm.p_map (x:Fm):x.p.map DV.pv = x.d:=(rfl)
@[go_sem] theorem Fm.p_take (x:Fm):x.p.take 37 = x.p:=(rfl)
@[go_sem] theorem Fm.d_take (x:Fm):x.d.take 37 = x.d:=(rfl)
@[go_sem] theorem Pg.p_take (x:Pg):x.p.take 34 = x.p:=(rfl)
@[go_sem] theorem Pg.d_take (x:Pg):x.d.take 34 = x.d:=(rfl)
@[go_sem] theorem Fm.p_pg (x:Fm):x.p.take 34 = x.pg.p:=(rfl)
@[go_sem] theorem Fm.d_pg (x:Fm):x.d.take 34 = x.pg.d:=(rfl)
@[go_sem] theorem Fm.p0 (x:Fm):x.p[0]? = some (.lit (.int .i64 x.pg.id)):=(rfl)
theorem Fm.p1 (x:Fm):x.p[1]? = some (.lit (.int .i64 x.pg.lsn)):=(rfl)
@[go_sem] theorem Fm.pd1 (x:Fm):(x.p.drop 1)[0]? = some (.lit (.int .i64 x.pg.lsn)):=(rfl)
@[go_sem] theorem Fm.pd34 (x:Fm):(x.p.drop 34)[0]? = some (.lit (.bool x.dirty)):=(rfl)
@[go_sem] theorem Fm.pd35 (x:Fm):(x.p.drop 35)[0]? = some (.lit (.int .i64 x.rc)):=(rfl)
@[go_sem] theorem Fm.pd36 (x:Fm):(x.p.drop 36)[0]? = some (.lit (.bool x.used)):=(rfl)
@[go_sem] theorem Fm.d0 (x:Fm):x.d[0]? = some (.pv (.lit (.int .i64 x.pg.id))):=(rfl)
@[go_sem] theorem Fm.d1 (x:Fm):x.d[1]? = some (.pv (.lit (.int .i64 x.pg.lsn))):=(rfl)
@[go_sem] theorem Fm.d34 (x:Fm):x.d[34]? = some (.pv (.lit (.bool x.dirty))):=(rfl)
@[go_sem] theorem Fm.d35 (x:Fm):x.d[35]? = some (.pv (.lit (.int .i64 x.rc))):=(rfl)
@[go_sem] theorem Pg.p0 (x:Pg):x.p[0]? = some (.lit (.int .i64 x.id)):=(rfl)
theorem Pg.p1 (x:Pg):x.p[1]? = some (.lit (.int .i64 x.lsn)):=(rfl)
@[go_sem] theorem Pg.d0 (x:Pg):x.d[0]? = some (.pv (.lit (.int .i64 x.id))):=(rfl)
@[go_sem] theorem Pg.d1 (x:Pg):x.d[1]? = some (.pv (.lit (.int .i64 x.lsn))):=(rfl)
@[go_sem] theorem Pg.d_one (x:Pg):Qn x.d = true:=(rfl)
@[go_sem] theorem Fm.d_one (x:Fm):Qn x.d = true:=(rfl)
@[go_sem] theorem Pg.d_nums (x:Pg) (k:Nat->Bool):DV.nums.go k x.d = true:=(rfl)
@[go_sem] theorem Fm.d_nums (x:Fm) (k:Nat->Bool):DV.nums.go k x.d = true:=(rfl)
@[go_sem] theorem Fm.set34 (x:Fm) (b:Bool):x.d.set 34 (.pv (.lit (.bool b))) = Fm.d ⟨x.pg,b,x.rc,x.used⟩:=(rfl)
@[go_sem] theorem Fm.set35 (x:Fm) (b:Int):x.d.set 35 (.pv (.lit (.int .i64 b))) = Fm.d ⟨x.pg,x.dirty,b,x.used⟩:=(rfl)
@[go_sem] theorem Fm.set36 (x:Fm) (b:Bool):x.d.set 36 (.pv (.lit (.bool b))) = Fm.d ⟨x.pg,x.dirty,x.rc,b⟩:=(rfl)
@[go_sem] theorem Fm.setpg (x:Fm) (p:Pg):p.d ++ x.d.drop 34 = Fm.d ⟨p,x.dirty,x.rc,x.used⟩:=(rfl)
@[go_sem] theorem Fm.mk36 (x:Pg) (a c u:Bool) (b:Int):(x.d ++ ([.pv (.lit (.bool a)),.pv (.lit (.int .i64 b)),.pv (.lit (.bool c))]:List DV)).take 36 ++ [.pv (.lit (.bool u))] ++ (x.d ++ ([.pv (.lit (.bool a)),.pv (.lit (.int .i64 b)),.pv (.lit (.bool c))]:List DV)).drop 37 = Fm.d ⟨x,a,b,u⟩:=(rfl)
@[go_sem] theorem Pg.set1 (x:Pg) (b:Int):x.d.set 1 (.pv (.lit (.int .i64 b))) = Pg.d ⟨x.id,b,x.cel⟩:=(rfl)
@[go_sem] theorem Pg.d_drop (x:Pg):x.d.drop 34 = []:=(rfl)
@[go_sem] theorem Fm.d_drop (x:Fm):x.d.drop 37 = []:=(rfl)
theorem QiR (n:Nat) (hp:Qa):∀ l:List PV,Qh ((l.map DV.pv).map (Qcq n hp)) = some (l.map DV.pv)
  | []=>rfl
  | p :: l=>by show Qh (some (.pv p) :: (l.map DV.pv).map (Qcq n hp)) = _; rw [Qfn,QiR n hp l]; rfl
@[go_sem] theorem Pg.d_frz1 (x:Pg) (n:Nat) (hp:Qa):Qh (x.d.map (Qcq n hp)) = some x.d:=QiR n hp x.p
@[go_sem] theorem Fm.d_frz1 (x:Fm) (n:Nat) (hp:Qa):Qh (x.d.map (Qcq n hp)) = some x.d:=QiR n hp x.p
@[go_sem] theorem Pg.d_wk (x:Pg):DV.wk.go x.d = x.d:=(rfl)
@[go_sem] theorem Fm.d_wk (x:Fm):DV.wk.go x.d = x.d:=(rfl)
theorem QnB (x:Pg) (i:Nat) (h:i < 16):(x.d.drop (2 + i * 2)).take 2 = [.pv (.lit (.bool (x.cel i).set)),.pv (.str (x.cel i).data)]:=by
  have:i = 0\/i = 1\/i = 2\/i = 3\/i = 4\/i = 5\/i = 6\/i = 7\/i = 8\/i = 9\/i = 10\/i = 11\/i = 12\/i = 13\/i = 14\/i = 15:=by omega
  rcases this with h | h | h | h | h | h | h | h | h | h | h | h | h | h | h | h<;>subst h<;>rfl
theorem Qtc (x:Pg) (i:Nat) (h:i < 16):x.d[2 + i * 2]? = some (.pv (.lit (.bool (x.cel i).set))):=by
  have:i = 0\/i = 1\/i = 2\/i = 3\/i = 4\/i = 5\/i = 6\/i = 7\/i = 8\/i = 9\/i = 10\/i = 11\/i = 12\/i = 13\/i = 14\/i = 15:=by omega
  rcases this with h | h | h | h | h | h | h | h | h | h | h | h | h | h | h | h<;>subst h<;>rfl
def Pg.setc (x:Pg) (i:Nat) (c:Ce):Pg:=⟨x.id,x.lsn,fun k=>if k = i then c else x.cel k⟩
theorem QzZ (x:Pg) (i:Nat) (h:i < 16) (c:Ce):splice x.d (2 + i * 2) [.pv (.lit (.bool c.set)),.pv (.str c.data)] = (x.setc i c).d:=by
  have:i = 0\/i = 1\/i = 2\/i = 3\/i = 4\/i = 5\/i = 6\/i = 7\/i = 8\/i = 9\/i = 10\/i = 11\/i = 12\/i = 13\/i = 14\/i = 15:=by omega
  rcases this with h | h | h | h | h | h | h | h | h | h | h | h | h | h | h | h<;>subst h<;>rfl
structure Rw where
  lsn:Int
  im:Int
  at_:Int
def QbN:Enc Rw:=⟨3,fun r=>[.lit (.int .i64 r.lsn),.lit (.int .i64 r.im),.lit (.int .i64 r.at_)],by decide,fun _=>rfl⟩
@[go_sem] def Rw.d (r:Rw):List DV:=[.int .i64 r.lsn,.int .i64 r.im,.int .i64 r.at_]
theorem QDV (l:List Rw):(cells QbN l).length = l.length * 3:=QS QbN l
theorem QEK (l:List Rw) (n:Nat) (h:l.length * 3<=n):(cells QbN l).take n = cells QbN l:=by rw [List.take_of_length_le]; rw [QDV]; exact h
theorem QEg (l:List Rw):(fz QbN l = []\/(fz QbN l)[0]?.map List.length = some 3) = True:=Qfh QbN l
theorem QEx {n:Nat} {hp:Qa} {len:Nat} {l:List Rw} (h:l.length = len):QkP n hp 0 3 len (some (cells QbN l)) = some (.sl (fz QbN l)):=QY QbN h
def Rw0:Rw:=⟨0,0,0⟩
theorem QkN (l:List Rw) (i:Nat) (h:i < l.length):(fz QbN l)[i]? = some [.lit (.int .i64 (l.getD i Rw0).lsn),.lit (.int .i64 (l.getD i Rw0).im),.lit (.int .i64 (l.getD i Rw0).at_)]:=QcP QbN l Rw0 i h
theorem QDC (l:List Rw) (a b c:Int):cells QbN l ++ [.pv (.lit (.int .i64 a)),.pv (.lit (.int .i64 b)),.pv (.lit (.int .i64 c))] = cells QbN (l ++ [⟨a,b,c⟩]):=by rw [QE]; rfl
structure Dt where
  pg:Int
  rc:Int
  last:Int
def Qdm:Enc Dt:=⟨3,fun r=>[.lit (.int .i64 r.pg),.lit (.int .i64 r.rc),.lit (.int .i64 r.last)],by decide,fun _=>rfl⟩
@[go_sem] def Dt.d (r:Dt):List DV:=[.int .i64 r.pg,.int .i64 r.rc,.int .i64 r.last]
theorem QDS (l:List Dt):(cells Qdm l).length = l.length * 3:=QS Qdm l
theorem QEH (l:List Dt) (n:Nat) (h:l.length * 3<=n):(cells Qdm l).take n = cells Qdm l:=by rw [List.take_of_length_le]; rw [QDS]; exact h
theorem QEu {n:Nat} {hp:Qa} {len:Nat} {l:List Dt} (h:l.length = len):QkP n hp 0 3 len (some (cells Qdm l)) = some (.sl (fz Qdm l)):=QY Qdm h
def Dt0:Dt:=⟨0,0,0⟩
theorem Qfi (l:List Dt) (i:Nat) (h:i < l.length):(fz Qdm l)[i]? = some [.lit (.int .i64 (l.getD i Dt0).pg),.lit (.int .i64 (l.getD i Dt0).rc),.lit (.int .i64 (l.getD i Dt0).last)]:=QcP Qdm l Dt0 i h
theorem QDz (l:List Dt) (a b c:Int):cells Qdm l ++ [.pv (.lit (.int .i64 a)),.pv (.lit (.int .i64 b)),.pv (.lit (.int .i64 c))] = cells Qdm (l ++ [⟨a,b,c⟩]):=by rw [QE]; rfl
structure Gr where
  tx:Int
  pg:Int
  sl:Int
  md:Int
def Gr0:Gr:=⟨0,0,0,0⟩
def Qao:Enc Gr:=⟨4,fun g=>[.lit (.int .i64 g.tx),.lit (.int .i64 g.pg),.lit (.int .i64 g.sl),.lit (.int .i64 g.md)],by decide,fun _=>rfl⟩
@[go_sem] def Gr.d (g:Gr):List DV:=[.int .i64 g.tx,.int .i64 g.pg,.int .i64 g.sl,.int .i64 g.md]
theorem QDX (l:List Gr):(cells Qao l).length = l.length * 4:=QS Qao l
theorem QEM (l:List Gr) (n:Nat) (h:l.length * 4<=n):(cells Qao l).take n = cells Qao l:=by rw [List.take_of_length_le]; rw [QDX]; exact h
theorem QEF (l m:List Gr):cells Qao l ++ cells Qao m = cells Qao (l ++ m):=(QE Qao l m).symm
theorem QEk (l:List Gr) (T:TypeId) (a b:Nat) (h:a<=b/\b<=l.length):QnH (some (none,T,4)) (fz Qao l) a b = some (.pv (.sl (fz Qao ((l.take b).drop a)))):=QfZ Qao l T a b h
theorem QEh (l:List Gr):(fz Qao l = []\/(fz Qao l)[0]?.map List.length = some 4) = True:=Qfh Qao l
theorem QEz {n:Nat} {hp:Qa} {len:Nat} {l:List Gr} (h:l.length = len):QkP n hp 0 4 len (some (cells Qao l)) = some (.sl (fz Qao l)):=QY Qao h
theorem Qaw (l:List Gr) (i:Nat) (h:i < l.length):(fz Qao l)[i]? = some [.lit (.int .i64 (l.getD i Gr0).tx),.lit (.int .i64 (l.getD i Gr0).pg),.lit (.int .i64 (l.getD i Gr0).sl),.lit (.int .i64 (l.getD i Gr0).md)]:=QcP Qao l Gr0 i h
theorem QDE (l:List Gr) (a b c d:Int):cells Qao l ++ [.pv (.lit (.int .i64 a)),.pv (.lit (.int .i64 b)),.pv (.lit (.int .i64 c)),.pv (.lit (.int .i64 d))] = cells Qao (l ++ [⟨a,b,c,d⟩]):=by rw [QE]; rfl
theorem QeV (l:List E) (i:Nat) (h:i < l.length):(fz encE l)[i]? = some [.lit (.int .i64 (l.getD i E0).lsn),.lit (.int .i64 (l.getD i E0).kind),.lit (.int .i64 (l.getD i E0).tx),.lit (.int .i64 (l.getD i E0).ptx),.lit (.int .i64 (l.getD i E0).ppg),.lit (.int .i64 (l.getD i E0).ref),.lit (.int .i64 (l.getD i E0).c.pg),.lit (.int .i64 (l.getD i E0).c.sl),.lit (.bool (l.getD i E0).c.b.set),.str (l.getD i E0).c.b.data,.lit (.bool (l.getD i E0).c.a.set),.str (l.getD i E0).c.a.data,.str (l.getD i E0).blob]:=QcP encE l E0 i h
theorem QdN (l:List Tx) (i:Nat) (h:i < l.length):(fz Qae l)[i]? = some [.lit (.int .i64 (l.getD i Tx0).id),.lit (.int .i64 (l.getD i Tx0).st),.lit (.int .i64 (l.getD i Tx0).n),.lit (.int .i64 (l.getD i Tx0).b),.sl (fz QN (l.getD i Tx0).l),.sl (fz QN (l.getD i Tx0).s)]:=QcP Qae l Tx0 i h
theorem QC0 (l:List E):DV.wk.go (cells encE l) = cells encE l:=Qa2 encE l fun a p hp=>by
  simp [encE] at hp
  rcases hp with h | h | h | h | h | h | h | h | h | h | h | h | h<;>subst h<;>rfl
theorem QD9 (l:List Gr):DV.wk.go (cells Qao l) = cells Qao l:=Qa2 Qao l fun a p hp=>by
  simp [Qao] at hp
  rcases hp with h | h | h | h<;>subst h<;>rfl
theorem QD6 (l:List Rw):DV.wk.go (cells QbN l) = cells QbN l:=Qa2 QbN l fun a p hp=>by
  simp [QbN] at hp
  rcases hp with h | h | h<;>subst h<;>rfl
theorem QD4 (l:List Dt):DV.wk.go (cells Qdm l) = cells Qdm l:=Qa2 Qdm l fun a p hp=>by
  simp [Qdm] at hp
  rcases hp with h | h | h<;>subst h<;>rfl
theorem QEa (l:List Fm):DV.wk.go (cells Qb8 l) = cells Qb8 l:=Qa2 Qb8 l fun a p hp=>by
  have hm:a.p.map PV.wk = a.p:=rfl
  have hp:p ∈ a.p:=hp
  obtain ⟨i,hi,rfl⟩:=List.getElem_of_mem hp
  have:=congrArg (fun l=>l[i]?) hm
  simpa [hi] using this
attribute [go_sem] QC0 QD9 QD6 QD4 QEa
attribute [go_sem] QCR QEN QEG QEl QEi QDY Qtm QDV QEK QEg QEx QDC QDS QEH QEu QDz QDX QEM QEF QEk QEh QEz QDE
structure Pl where
  size:Int
  fs:List Fm
  hand:Int
@[go_sem] def Pl.d (p:Pl):List DV:=[.int .i64 p.size,.pv (.sl (fz Qb8 p.fs)),.int .i64 p.hand]
def Pl0:Pl:=⟨0,[],0⟩
structure Lk where
  held:List Gr
  wait:List Gr
@[go_sem] def Lk.d (t:Lk):List DV:=[.pv (.sl (fz Qao t.held)),.pv (.sl (fz Qao t.wait))]
section
attribute [local go_sem] Ce.d Ch.d E.d Lg.c QJ Q3 QgI QhG Qho Qhn QhA
def Qhb (f:Int) (es:List E) (a:Int):Bool:=decide (a < f) || decide ((es.length:Int)<=a - f)
def Qdl (f:Int) (es:List E) (a:Int):E:=es.getD (a - f).toNat E0
def Qar (f:Int) (es:List E) (pv:E->Int):Int->Nat->Int
  | a,0=>a
  | a,k + 1=>Qar f es pv (pv (Qdl f es a)) k
def QeA (f:Int) (es:List E) (pv:E->Int) (above:Int):Nat->Int->Nat
  | 0,_=>0
  | n + 1,a=>if above < a then (if Qhb f es a = true then 1 else QeA f es pv above n (pv (Qdl f es a)) + 1) else 0
theorem Qa9 (f:Int) (es:List E) (pv:E->Int):∀ (a:Int) (k:Nat),Qar f es pv a (k + 1) = pv (Qdl f es (Qar f es pv a k))
  | _,0=>rfl
  | a,k + 1=>Qa9 f es pv (pv (Qdl f es a)) k
def Bef (f:Int) (es:List E) (pv:E->Int):Prop:=∀ i,i < es.length->0<=pv (es.getD i E0)/\pv (es.getD i E0) < f + i
theorem Qe2 {f a:Int} {es:List E} (h:Qhb f es a = false):f<=a/\a - f < es.length:=by
  unfold Qhb at h
  simp only [Bool.or_eq_false_iff,decide_eq_false_iff_not] at h
  omega
theorem Qti {f a:Int} {es:List E} {pv:E->Int} (hb:Bef f es pv) (h:Qhb f es a = false):0<=pv (Qdl f es a)/\pv (Qdl f es a) < a:=by
  obtain ⟨h1,h2⟩:=Qe2 h
  have:=hb (a - f).toNat (by omega)
  unfold Qdl
  omega
theorem QdR {f:Int} {es:List E} {pv:E->Int} {above:Int}:∀ {n:Nat} {a:Int} {k:Nat},k < QeA f es pv above n a->above < Qar f es pv a k
  | n + 1,a,k,h=>by
    rw [QeA] at h
    split at h
    · rename_i ha
      split at h
      · obtain rfl:k = 0:=by omega
        exact ha
      · cases k with
        | zero=>exact ha
        | succ k=>exact QdR (n:=n) (a:=pv (Qdl f es a)) (by omega)
    · omega
theorem Qmp {f:Int} {es:List E} {pv:E->Int} {above:Int}:∀ {n:Nat} {a:Int} {k:Nat},k < QeA f es pv above n a->Qhb f es (Qar f es pv a k) = true->k + 1 = QeA f es pv above n a
  | n + 1,a,k,h,hb=>by
    rw [QeA] at h |-
    split at h
    · rename_i ha
      rw [if_pos ha]
      split at h
      · rename_i hb2
        rw [if_pos hb2]; omega
      · rename_i hb2
        rw [if_neg hb2]
        cases k with
        | zero=>exact absurd hb hb2
        | succ k=>rw [Qmp (above:=above) (n:=n) (a:=pv (Qdl f es a)) (by omega) hb]
    · omega
theorem Qjb {f:Int} {es:List E} {pv:E->Int} (hpv:Bef f es pv) {above:Int} (h0:0<=above):∀ {n:Nat} {a:Int},a.toNat < n->(∀ j,j < QeA f es pv above n a->Qhb f es (Qar f es pv a j) = false)->¬ above < Qar f es pv a (QeA f es pv above n a)
  | n + 1,a,hn,hb=>by
    rw [QeA] at hb |-
    split
    · rename_i ha
      rw [if_pos ha] at hb
      split
      · rename_i hb2
        rw [if_pos hb2] at hb
        have:=hb 0 (by omega)
        rw [Qar] at this
        rw [this] at hb2; cases hb2
      · rename_i hb2
        rw [if_neg hb2] at hb
        have hl:=Qti hpv (Bool.eq_false_iff.2 hb2)
        rw [Qar]
        exact Qjb hpv h0 (by omega) fun j hj=>hb (j + 1) (by omega)
    · rename_i ha
      rw [if_neg ha] at hb
      exact ha
theorem QCc {f:Int} {es:List E} {pv:E->Int} (hpv:Bef f es pv) {above:Int} (h0:0<=above) {n:Nat} {a:Int} (hn:a.toNat < n) {k:Nat} (hk:k<=QeA f es pv above n a) (hb:∀ j,j < k->Qhb f es (Qar f es pv a j) = false):decide (above < Qar f es pv a k) = decide (k < QeA f es pv above n a):=by
  by_cases h:k < QeA f es pv above n a
  · rw [decide_eq_true h,decide_eq_true (QdR h)]
  · obtain rfl:k = QeA f es pv above n a:=by omega
    rw [decide_eq_false h,decide_eq_false (Qjb hpv h0 hn hb)]
theorem QdJ {f:Int} {es:List E} {pv:E->Int} (hpv:Bef f es pv) {a:Int}:∀ {k:Nat},(∀ j,j < k->Qhb f es (Qar f es pv a j) = false)->Qar f es pv a k + k<=a/\(k = 0\/0<=Qar f es pv a k)
  | 0,_=>⟨by rw [Qar]; omega,.inl rfl⟩
  | k + 1,h=>by
    have:=QdJ hpv (fun j hj=>h j (Nat.lt_succ_of_lt hj))
    have hl:=Qti hpv (h k (Nat.lt_succ_self k))
    rw [Qa9]
    omega
theorem Qs5 {f:Int} {es:List E} {pv:E->Int} {above:Int} {n:Nat} {a:Int} {k:Nat} (hk:k < QeA f es pv above n a):∀ j,j < k->Qhb f es (Qar f es pv a j) = false:=fun j hj=>by
  cases h:Qhb f es (Qar f es pv a j)
  · rfl
  · have:=Qmp (show j < QeA f es pv above n a by omega) h
    omega
theorem QwP {f:Int} {es:List E} {pv:E->Int} (hpv:Bef f es pv) {above:Int} {n:Nat} {a:Int} {k:Nat} (hk:k < QeA f es pv above n a):Qar f es pv a k<=a:=by
  have:=(QdJ hpv (Qs5 hk)).1
  omega
def QgH (f:Int) (es:List E) (d:Int):List PV:=[.lit (.int .i64 f),.sl (fz encE es),.lit (.int .i64 d)]
def QCV (x:E):List PV:=[.lit (.int .i64 x.lsn),.lit (.int .i64 x.kind),.lit (.int .i64 x.tx),.lit (.int .i64 x.ptx),.lit (.int .i64 x.ppg),.lit (.int .i64 x.ref),.lit (.int .i64 x.c.pg),.lit (.int .i64 x.c.sl),.lit (.bool x.c.b.set),.str x.c.b.data,.lit (.bool x.c.a.set),.str x.c.a.data,.str x.blob]
def QsG (f:Int) (es:List E) (a:Int):DV:=if Qhb f es a = true then .agg (E0.d ++ [.int .i64 14]) else .agg ((Qdl f es a).d ++ [.int .i64 0])
theorem Qtg {f d:Int} {es:List E} {pv:E->Int} {above last:Int} {ff:FuncId} (hpv:Bef f es pv) (hf:1<=f) (hf2:f<=1099511627776) (hl:es.length<=4096) (h0:0<=above) (hlast:last<=9223372036854775807)
    (hff:∀ e:E,VCalls prog ff [.agg e.d] [] (Ret (.int .i64 (pv e)))) :
    QCt prog 65 [.ip [.lit (.int .i64 last)],.ip [.lit (.int .i64 above)],.ip (QgH f es d),.ip [.lit (.func (.func ff) #[] #[])]] (QeA f es pv above (last.toNat + 1) last) (fun k=>#[.int .i64 (Qar f es pv last k),(QsG f es (Qar f es pv last k)).val]):=by
  refine QAV Tryz.func65 rfl rfl rfl rfl rfl rfl rfl rfl rfl rfl rfl rfl rfl rfl rfl ?_ ?_ (fun k=>Qar f es pv last k) _ (fun k=>Qhb f es (Qar f es pv last k)) (fun k=>.agg (Qdl f es (Qar f es pv last k)).d) (fun k=>QsG f es (Qar f es pv last k)) (fun k=>QCV (Qdl f es (Qar f es pv last k))) ff above ?_ ?_ ?_ ?_ ?_ ?_ ?_ ?_ ?_ ?_ ?_ ?_ ?_ ?_ ?_
  · decide +kernel
  · decide +kernel
  · intro k hk
    unfold QsG
    split<;>rfl
  · intro k hk hb
    rfl
  · intro k hk
    rfl
  · intro k hk hb
    exact Qmp hk hb
  · intro k hk
    exact QdR hk
  · intro k hk hb
    show Qar f es pv last (k + 1) < Qar f es pv last k
    exact Qa9 f es pv last k ▸ (Qti hpv hb).2
  · intro l
    rw [Qar]
    (refine rn trivial ?_; try with_reducible exact ⟨⟩)
  · intro l k hk hre
    unfold bkS QgH
    rw [<- QCc hpv h0 (Nat.lt_succ_self _) hk hre]
    (refine rn trivial ?_; try with_reducible exact ⟨⟩)
  · intro l k hk
    have hp:=QwP hpv hk
    have hp1:=QdR hk
    unfold bkS QgH Qhb
    generalize Qar f es pv last k = a at *
    by_cases ha:a < f
    · (refine rn @ha ?_; try with_reducible exact ⟨⟩)
    · (refine rn @ha ?_; try with_reducible exact ⟨⟩)
  · intro l k hk hb
    unfold bkS QgH QsG
    rw [if_pos hb]
    generalize Qar f es pv last k = a at *
    refine rn trivial ?_
    rfl
  · intro l k hk hb
    have hp:=QwP hpv hk
    have hp1:=QdR hk
    obtain ⟨b1,b2⟩:=Qe2 hb
    unfold bkS QgH QCV Qdl
    generalize Qar f es pv last k = a at *
    have hg:=QeV es (a - f).toNat (by omega)
    refine rn @hg ?_
    exact ⟨_,rfl⟩
  · intro l k hk hb
    unfold bkX QgH QsG QCV
    rw [if_neg (by rw [hb]; decide)]
    generalize Qar f es pv last k = a at *
    generalize Qdl f es a = e at *
    (refine rn trivial ?_; try with_reducible exact ⟨⟩)
  · intro n b
    (refine rn trivial ?_; try with_reducible exact ⟨⟩)
  · intro l k hk hb
    unfold bkX QgH QCV
    generalize Qar f es pv last k = a at *
    generalize Qdl f es a = e at *
    (refine rn trivial ?_; try with_reducible exact ⟨⟩)
  · intro k hk hb
    rw [Qa9]
    generalize Qar f es pv last k = a at *
    generalize Qdl f es a = e at *
    have hc:=hff e
    unfold E.d at hc
    refine rn F ?_
    repeat' (first
      | with_reducible exact ⟨⟩
      | refine vp F (hc) ?_)
end
section
attribute [local go_sem] Ce.d Ch.d E.d Lg.c QJ Q3 QgI QhG Qho Qhn QhA
def Qhq (l:List E):Nat->List E
  | 0=>l
  | i + 1=>((Qhq l i).set i ((Qhq l i).getD (l.length - 1 - i) E0)).set (l.length - 1 - i) ((Qhq l i).getD i E0)
theorem Qda (l:List E):∀ i,(Qhq l i).length = l.length
  | 0=>rfl
  | i + 1=>by rw [Qhq,List.length_set,List.length_set,Qda l i]
theorem Qm2 (l:List E):∀ (i:Nat),2 * i<=l.length->∀ j,j < l.length->(Qhq l i).getD j E0 = if j < i\/l.length<=j + i then l.getD (l.length - 1 - j) E0 else l.getD j E0
  | 0,_,j,hj=>by rw [if_neg (by omega)]; rfl
  | i + 1,hi,j,hj=>by
    have ih:=Qm2 l i (by omega)
    have hlen:=Qda l i
    rw [Qhq,List.getD_eq_getElem?_getD,List.getElem?_set,List.length_set,hlen]
    by_cases h1:l.length - 1 - i = j
    · rw [if_pos h1,if_pos (by omega),if_pos (by omega),Option.getD_some,ih i (by omega),if_neg (by omega)]
      congr 1; omega
    · rw [if_neg h1,List.getElem?_set,hlen]
      by_cases h2:i = j
      · rw [if_pos h2,if_pos (by omega),if_pos (by omega),Option.getD_some,ih _ (by omega),if_neg (by omega)]
        congr 1; omega
      · rw [if_neg h2,<- List.getD_eq_getElem?_getD,ih j hj]
        by_cases h3:j < i\/l.length<=j + i
        · rw [if_pos h3,if_pos (by omega)]
        · rw [if_neg h3,if_neg (by omega)]
theorem QuW {l:List E} {i:Nat} (hi:2 * i<=l.length) (h:l.length<=2 * i + 1):Qhq l i = l.reverse:=by
  refine List.ext_getElem (by rw [Qda,List.length_reverse]) fun j h1 h2=>?_
  rw [Qda] at h1
  have:=Qm2 l i hi j h1
  rw [Qk _ _ (by rw [Qda]; exact h1)] at this
  rw [this,List.getElem_reverse]
  split
  · rw [Qk _ _ (by omega)]
  · rw [Qk _ _ h1]
    congr 1; omega
structure RvS (l:List E) where
  i:Nat
  h:2 * i<=l.length
  j:Int
  hj:j = l.length - 1 - i
theorem QDt (l:List E) (i:Nat) (h:i < l.length):((cells encE l).drop (i * 13)).take 13 = (l.getD i E0).d:=by rw [Qk l i h]; exact Qex encE l i h
theorem QmO (l:List E) (i:Nat) (h:i < l.length) (e:E):(cells encE l).take (i * 13) ++ [.pv (.lit (.int .i64 e.lsn)),.pv (.lit (.int .i64 e.kind)),.pv (.lit (.int .i64 e.tx)),.pv (.lit (.int .i64 e.ptx)),.pv (.lit (.int .i64 e.ppg)),.pv (.lit (.int .i64 e.ref)),.pv (.lit (.int .i64 e.c.pg)),.pv (.lit (.int .i64 e.c.sl)),.pv (.lit (.bool e.c.b.set)),.pv (.str e.c.b.data),.pv (.lit (.bool e.c.a.set)),.pv (.str e.c.a.data),.pv (.str e.blob)] ++ (cells encE l).drop (i * 13 + 13) = cells encE (l.set i e):=QjZ encE l i e h
abbrev RvX (l:List E):DV->Qa->Prop:=fun r h'=>∃ B',h' = [B']/\B'.live = true/\DV.nums.go (fun _=>false) B'.cells = true/\r.nums (fun _=>false) = true/\(r = .tup []/\B' = ⟨60,true,cells encE l⟩)
theorem Qq8 (l:List E) (hl:l.length<=4096):VCalls prog 46 [.own 0 13 0 l.length] [⟨60,true,cells encE l⟩] (RvX l.reverse):=by
  refine dk Tryz.func46 ?_
  (unfold Tryz.f46; refine rn trivial ?_)
  refine Qg (fun s:RvS l=>⟨28,1,[(3,.int .i64 s.j),(2,.int .i64 s.i),(0,.own 0 13 0 l.length)],[⟨60,true,cells encE (Qhq l s.i)⟩]⟩) (fun s=>l.length - s.i) ⟨0,by omega,(l.length:Int) - 1,by simp⟩ (gc [0]) ?_
  rintro ⟨i,hi,j,hj⟩
  dsimp only
  have hrl:=Qda l i
  by_cases hc:i < l.length - 1 - i
  · obtain ⟨m,rfl⟩:∃ m:Nat,j = m:=⟨l.length - 1 - i,by omega⟩
    have hm:m = l.length - 1 - i:=by omega
    have hc':(i:Int) < (m:Int):=by omega
    have h1:=QDt (Qhq l i) i (by omega)
    have h2:=QDt (Qhq l i) m (by omega)
    have h3:=QmO (Qhq l i) i (by omega)
    have h4:=fun e=>QmO ((Qhq l i).set i e) m (by rw [List.length_set]; omega)
    have h5:i * 13 + 13<=l.length * 13:=by omega
    have h6:m * 13 + 13<=l.length * 13:=by omega
    have hr:Qhq l (i + 1) = ((Qhq l i).set i ((Qhq l i).getD m E0)).set m ((Qhq l i).getD i E0):=by rw [Qhq,<- hm]
    have h8:=fun e=>@List.length_set _ (Qhq l i) i e
    generalize (Qhq l i).getD i E0 = x at *
    generalize (Qhq l i).getD m E0 = y at *
    have F:=(And.intro @hc' (And.intro @h1 (And.intro @h2 (And.intro @h3 (And.intro @h4 (And.intro @h5 (And.intro @h6 (And.intro @h8 @hrl))))))))
    refine rn F ?_
    repeat' (first
      | with_reducible exact ⟨⟩
      | (refine Qb (id:=3) [0,1,2,3,4,5,6,7,8,9,10,11,12] [⟨[],[],13,[2,3,8,9,10],[14]⟩,⟨[],[],15,[],[]⟩] (by kernel_rfl) (by kernel_rfl) ?_; refine rn F ?_))
    refine ⟨⟨i + 1,by omega,(m:Int) - 1,by omega⟩,by dsimp only; omega,?_⟩
    dsimp only
    rw [hr]
    exact (gc [0])
  · have hc':¬ (i:Int) < j:=by omega
    have F:=@hc'
    refine rn F ?_
    rw [QuW hi (by omega)]
    show QtU _ _ _ (some _)
    refine rn trivial ?_
    exact ⟨_,rfl,rfl,Qq encE _ _,rfl,rfl,rfl⟩
theorem QwA {l:List E} (hl:l.length<=4096) {hp:Qa} {k:Nat} {K:DV->Qa->Prop} (hk:hp[k]? = some ⟨60,true,cells encE l⟩) (hK:K (.tup []) (hp.set k ⟨60,true,cells encE l.reverse⟩)):VCalls prog 46 [.own k 13 0 l.length] hp K:=
  (VCalls.ptr1 (R:=fun r B'=>r = .tup []/\B' = ⟨60,true,cells encE l.reverse⟩) hk rfl (Qq encE _ _) (Qq8 l hl) (by simp [DV.nums.go,DV.nums])).mono fun x h' ⟨B',e1,_,_,e2,e3⟩=>by subst e1 e2 e3; exact hK
theorem QyR (e:E):VCalls prog 45 [.agg e.d] [] (Ret (.int .i64 e.ppg)):=by
  refine dd Tryz.func45 ?_
  (unfold Tryz.f45; refine rn trivial ?_; try with_reducible exact ⟨⟩)
theorem QC9 (e:E):VCalls prog 47 [.agg e.d] [] (Ret (.int .i64 e.ptx)):=by
  refine dd Tryz.func47 ?_
  (unfold Tryz.f47; refine rn trivial ?_; try with_reducible exact ⟨⟩)
def bkH (x:Lg) (last above:Int) (ff:FuncId):Qa:=[⟨25,true,x.c⟩,⟨3,true,[.int .i64 last]⟩,⟨3,true,[.int .i64 above]⟩,⟨100,true,[.fn (.func ff) [] []]⟩]
theorem QCl (x:Lg) (last above:Int) (ff:FuncId):VCalls prog 44 [.agg x.c,.int .i64 last,.int .i64 above,.fn (.func ff) [] []] [] (fun r h'=>r = .fn (.func 65) [] [.ptr 1 0,.ptr 2 0,.ptr 0 0,.ptr 3 0]/\h' = bkH x last above ff):=by
  refine Qb9 (fn:=Tryz.f44) Tryz.func44 rfl (by kernel_rfl) (by simp [Tryz.f44]) ?_
  (unfold Tryz.f44; refine rn trivial ?_)
  rfl
theorem QAT {x:Lg} {last above:Int} {ff:FuncId} {hp:Qa} {K:DV->Qa->Prop} (hK:K (.fn (.func 65) [] [.ptr (hp.length + 1) 0,.ptr (hp.length + 2) 0,.ptr hp.length 0,.ptr (hp.length + 3) 0]) (hp ++ bkH x last above ff)):VCalls prog 44 [.agg x.c,.int .i64 last,.int .i64 above,.fn (.func ff) [] []] hp K:=by
  refine (VCalls.frame [] (by simp) rfl rfl (QCl x last above ff) rfl rfl).mono ?_
  rintro r h2 ⟨r0,h',⟨rfl,rfl⟩,-,rfl,rfl⟩
  have e0:List.map (fun k=>hp[k]?.getD default) (List.range hp.length) = hp:=by
    apply List.ext_getElem (by simp)
    intro i h1 h2
    simp [h2]
  have e1:QT hp [] (bkH x last above ff) = hp ++ bkH x last above ff:=by
    simp [QT,bkH,Lg.c,Qdt,DV.ren,DV.ren.go]
    try exact e0
  have e2:DV.ren (V.back [] hp.length) (.fn (.func 65) [] [.ptr 1 0,.ptr 2 0,.ptr 0 0,.ptr 3 0]) = .fn (.func 65) [] [.ptr (hp.length + 1) 0,.ptr (hp.length + 2) 0,.ptr hp.length 0,.ptr (hp.length + 3) 0]:=by simp [DV.ren,DV.ren.go,V.back]
  rw [e1,e2]; exact hK
end
section
attribute [local go_sem] QaZ
def Pg.numB (p:Pg):Bool:=decide (0<=p.id) && decide (p.id < 64) && decide (0<=p.lsn) && decide (p.lsn<=1099511627776)
def Pg.celC (p:Pg) (i:Nat):Bool:=(p.cel i).okB && !(decide (p.lsn = 0) && (p.cel i).set)
def Pg.celB (p:Pg):Bool:=(List.range 16).all p.celC
def Pg.okB (p:Pg):Bool:=p.numB && p.celB
def QaI (p:Pg):Int:=if p.numB = false then 1 else if p.celB = false then 22 else 0
theorem QwI (p:Pg):VCalls prog 204 [.agg p.d] [] (Ret (.bool p.numB)):=by
  refine dd Tryz.func204 ?_
  (unfold Tryz.f204; refine rn trivial ?_)
  refine rn F ?_
  repeat' (first
    | with_reducible exact ⟨⟩
    | (refine sG F ?_ ?_<;>intro hZ))
  all_goals (first | rfl | (congr 3; rw [Bool.eq_iff_iff]; (try simp only [Pg.numB,decide_eq_true_eq,Bool.and_eq_true,Bool.or_eq_true,Bool.not_eq_true',Bool.not_eq_false',decide_eq_false_iff_not,beq_iff_eq,bne_iff_ne,ne_eq,Bool.false_eq_true,Bool.true_eq_false,iff_true,true_iff,iff_false,false_iff]); first | done | omega | grind))
theorem Qm6 (p:Pg):VCalls prog 205 [.agg p.d] [] (Ret (.bool p.celB)):=by
  refine dd Tryz.func205 ?_
  (unfold Tryz.f205; refine rn trivial ?_)
  refine Qg (fun s:Okay 16 p.celC=>⟨26,0,[(3,.int .i64 s.i),(1,.ptr 0 0)],[⟨178,true,p.d⟩]⟩) (fun s=>16 - s.i) (Okay.start _ _) (gc [0]) ?_
  intro s
  have hsi:=s.hi
  have hg:=fun h:s.i < 16=>QnB p s.i h
  have hg0:=fun h:s.i < 16=>Qtc p s.i h
  have e:p.celC s.i = ((p.cel s.i).okB && !(decide (p.lsn = 0) && (p.cel s.i).set)):=rfl
  have c:=Qgp (p.cel s.i)
  generalize (p.cel s.i).okB = ok at *
  have F:=(And.intro @hg @hg0)
  refine rn F ?_
  repeat' (first
    | with_reducible exact ⟨⟩
    | (refine sG F ?_ ?_<;>intro hZ)
    | (refine sB F ?_ ?_<;>intro hZ)
    | refine vp F (c) ?_)
  all_goals first | (exact congrArg DV.bool (s.no (by omega) rfl (by rw [e]; simp_all )).symm) | (exact congrArg DV.bool (s.yes (by omega) rfl).symm) | (exact ⟨s.next (by omega) (by rw [e]; simp_all ),s.dec (by omega),(gc [ 0])⟩) | skip
theorem QqQ (p:Pg):VCalls prog 154 [.agg p.d] [] (Ret (.bool p.okB)):=by
  refine dd Tryz.func154 ?_
  have c1:=QwI p
  have c2:=Qm6 p
  have e:p.okB = (p.numB && p.celB):=rfl
  generalize p.numB = a at *
  generalize p.celB = b at *
  (unfold Tryz.f154; refine rn trivial ?_)
  refine rn F ?_
  repeat' (first
    | with_reducible exact ⟨⟩
    | (refine sG F ?_ ?_<;>intro hZ)
    | refine vp F (c1) ?_
    | refine vp F (c2) ?_)
  all_goals (rw [e]; simp_all)
theorem Qdb (p:Pg):VCalls prog 155 [.agg p.d] [] (Ret (.int .i64 (QaI p))):=by
  refine dd Tryz.func155 ?_
  have c1:=QwI p
  have c2:=Qm6 p
  have e:QaI p = if p.numB = false then 1 else if p.celB = false then 22 else 0:=rfl
  generalize p.numB = a at *
  generalize p.celB = b at *
  (unfold Tryz.f155; refine rn trivial ?_)
  refine rn F ?_
  repeat' (first
    | with_reducible exact ⟨⟩
    | (refine sB F ?_ ?_<;>intro hZ)
    | refine vp F (c1) ?_
    | refine vp F (c2) ?_)
  all_goals (rw [e]; simp_all)
theorem Qs7 {p:Pg} (h:QaI p = 0):p.okB = true:=by
  unfold QaI at h
  unfold Pg.okB
  split at h
  · simp at h
  split at h
  · simp at h
  · simp_all
end
section
attribute [local go_sem] QaZ
def idF (l:List Fm) (a:Int):Int:=Qnn l fun f=>f.pg.id == a
theorem Qcc (p:Pl) (hl:p.fs.length<=1000000) (a:Int):VCalls prog 123 [.agg p.d,.int .i64 a] [] (Ret (.int .i64 (idF p.fs a))):=by
  refine dd Tryz.func123 ?_
  obtain ⟨z,l,h⟩:=p
  (unfold Tryz.f123; refine rn trivial ?_)
  refine Qg (fun i:Pass l (fun x=>(x.pg.id == a) = true)=>⟨23,0,[(5,.int .i64 i.i),(2,.ptr 0 0),(1,.int .i64 a)],[⟨31,true,Pl.d ⟨z,l,h⟩⟩]⟩) (fun i=>l.length - i.i) (Pass.start l _) (gc [0]) ?_
  intro i
  have hi:=i.hi
  dsimp only at hl
  have hg:=fun h:i.i < l.length=>QbA l i.i h
  have F:=@hg
  refine rn F ?_
  repeat' (first
    | with_reducible exact ⟨⟩
    | (refine sB F ?_ ?_<;>intro hZ))
  · have hq:(l.getD i.i Fm0).pg.id = a:=by assumption
    rw [Qk l i.i (by omega)] at hq
    have:=Qsf l (fun x=>x.pg.id == a) i.i (by omega) (by simpa using hq) i.no
    rw [idF,this]
  · have hq:¬ (l.getD i.i Fm0).pg.id = a:=by assumption
    rw [Qk l i.i (by omega)] at hq
    exact ⟨i.next (by omega) (by simpa using hq),by show l.length - (i.i + 1) < l.length - i.i; omega,(gc [0])⟩
  · have:=i.all (by omega)
    rw [idF,Qnn,if_neg (by simpa using this)]
def QzO (l:List Fm) (i k:Nat):Bool:=!decide ((l.getD k Fm0).pg.id = (l.getD i Fm0).pg.id)
def frC (l:List Fm) (i:Nat):Bool:=(l.getD i Fm0).pg.okB && !((l.getD i Fm0).dirty && (decide ((l.getD i Fm0).rc < 1) || decide ((l.getD i Fm0).pg.lsn < (l.getD i Fm0).rc))) && !(!(l.getD i Fm0).dirty && !decide ((l.getD i Fm0).rc = 0)) && (List.range i).all (QzO l i)
def Pl.hd (p:Pl):Prop:=1<=p.size/\p.size<=64/\p.fs.length<=p.size/\0<=p.hand/\p.hand<=max 0 ((p.fs.length:Int) - 1)
instance (p:Pl):Decidable p.hd:=by unfold Pl.hd; infer_instance
def plB (p:Pl):Bool:=decide p.hd && (List.range p.fs.length).all (frC p.fs)
theorem Qkf {p:Pl} (h:plB p = true):p.hd:=by unfold plB at h; simp at h; exact h.1
theorem Qaj (p:Pl) (hl:p.fs.length<=1000000):VCalls prog 122 [.agg p.d] [] (Ret (.bool (plB p))):=by
  refine dd Tryz.func122 ?_
  obtain ⟨z,l,hn⟩:=p
  dsimp only at hl
  have hB:plB ⟨z,l,hn⟩ = (decide (Pl.hd ⟨z,l,hn⟩) && (List.range l.length).all (frC l)):=rfl
  have hH:Pl.hd ⟨z,l,hn⟩ = (1<=z/\z<=64/\l.length<=z/\0<=hn/\hn<=max 0 ((l.length:Int) - 1)):=rfl
  have hB':Pl.hd ⟨z,l,hn⟩->plB ⟨z,l,hn⟩ = (List.range l.length).all (frC l):=fun h=>by rw [hB,decide_eq_true h,Bool.true_and]
  have no:¬ Pl.hd ⟨z,l,hn⟩->plB ⟨z,l,hn⟩ = false:=fun h=>by rw [hB,decide_eq_false h]; rfl
  generalize plB ⟨z,l,hn⟩ = b at *
  (unfold Tryz.f122; refine rn trivial ?_)
  refine rn F ?_
  repeat' (first
    | with_reducible exact ⟨⟩
    | (refine sG F ?_ ?_<;>intro hZ)
    | (refine sB F ?_ ?_<;>intro hZ))
  all_goals first | (rw [no (by rw [hH]; omega)]) | skip
  refine Qg (fun s:Okay l.length (frC l)=>⟨94,0,[(4,.int .i64 s.i),(3,.int .i64 l.length),(1,.ptr 0 0)],[⟨31,true,Pl.d ⟨z,l,hn⟩⟩]⟩) (fun s=>l.length - s.i) (Okay.start _ _) (gc [0]) ?_
  intro s
  have hsi:=s.hi
  have hg:=fun h:s.i < l.length=>QbA l s.i h
  have c1:=QqQ (l.getD s.i Fm0).pg
  have e:frC l s.i = ((l.getD s.i Fm0).pg.okB && !((l.getD s.i Fm0).dirty && (decide ((l.getD s.i Fm0).rc < 1) || decide ((l.getD s.i Fm0).pg.lsn < (l.getD s.i Fm0).rc))) && !(!(l.getD s.i Fm0).dirty && !decide ((l.getD s.i Fm0).rc = 0)) && (List.range s.i).all (QzO l s.i)):=rfl
  generalize (l.getD s.i Fm0).pg.okB = ok at *
  have F:=@hg
  refine rn F ?_
  repeat' (first
    | with_reducible exact ⟨⟩
    | (refine sG F ?_ ?_<;>intro hZ)
    | (refine sB F ?_ ?_<;>intro hZ)
    | refine vp F (c1) ?_)
  all_goals first
    | (exact congrArg DV.bool (s.no (by omega) (hB' (by rw [hH]; omega)) (by rw [e]; simp_all)).symm)
    | (exact congrArg DV.bool (s.yes (by omega) (hB' (by rw [hH]; omega))).symm)
    | skip
  all_goals
    refine Qg (fun r:Okay s.i (QzO l s.i)=>⟨94,0,[(6,.int .i64 r.i),(5,.ptr 1 0),(4,.int .i64 s.i),(3,.int .i64 l.length),(1,.ptr 0 0)],[⟨31,true,Pl.d ⟨z,l,hn⟩⟩,⟨182,true,(l.getD s.i Fm0).d⟩]⟩) (fun r=>s.i - r.i) (Okay.start _ _) (gc [0,1]) ?_
    intro r
    have hri:=r.hi
    have hk:=fun h:r.i < l.length=>QbA l r.i h
    have e2:QzO l s.i r.i = !decide ((l.getD r.i Fm0).pg.id = (l.getD s.i Fm0).pg.id):=rfl
    have F:=@hk
    refine rn F ?_
    repeat' (first
      | with_reducible exact ⟨⟩
      | (refine sB F ?_ ?_<;>intro hZ)
      | (refine Qb (id:=13) [0,1,2,3,4,5,6,7,8,9,10] [] (by kernel_rfl) (by kernel_rfl) ?_; refine rn F ?_))
  all_goals first
    | (exact congrArg DV.bool (s.no (by omega) (hB' (by rw [hH]; omega)) (by rw [e,Qcj (i:=r.i) (by omega) (by rw [e2]; simp_all),Bool.and_false])).symm)
    | (exact ⟨r.next (by omega) (by rw [e2]; simp_all),r.dec (by omega),(gc [0,1])⟩)
    | (exact ⟨s.next (by omega) (by rw [e,r.all (by omega)]; simp_all),s.dec (by omega),(gc [0])⟩)
    | skip
end
section
attribute [local go_sem] QaZ
def Qbd (p:Pl) (a:Int):Int:=if plB p = true then idF p.fs a else -1
theorem QbY (l:List Fm) (a:Int):idF l a = -1\/∃ i:Nat,∃ _:i < l.length,idF l a = i/\(l.getD i Fm0).pg.id = a:=by
  rcases Qse l (fun f=>f.pg.id == a) with ⟨h,_⟩ | ⟨i,hi,h,hf⟩
  · exact .inl h
  · refine .inr ⟨i,hi,h,?_⟩
    have:=List.find?_some hf
    rw [Qk l i hi]; simpa using this
theorem Qcg (p:Pl) (a:Int):Qbd p a = -1\/(plB p = true/\∃ i:Nat,∃ _:i < p.fs.length,Qbd p a = i/\idF p.fs a = i/\(p.fs.getD i Fm0).pg.id = a):=by
  unfold Qbd
  split
  · rename_i hv
    rcases QbY p.fs a with h | ⟨i,hi,h,hx⟩
    · exact .inl h
    · exact .inr ⟨hv,i,hi,h,h,hx⟩
  · exact .inl rfl
def Qnq (p:Pl) (a:Int):Pg × Bool:=if Qbd p a < 0 then (Pg0,false) else ((p.fs.getD (Qbd p a).toNat Fm0).pg,true)
theorem Qcb (p:Pl) (hl:p.fs.length<=1000000) (a:Int):VCalls prog 106 [.agg p.d,.int .i64 a] [] (Ret (.int .i64 (Qbd p a))):=by
  refine dd Tryz.func106 ?_
  have c1:=Qaj p hl
  have c2:=Qcc p hl a
  unfold Qbd
  generalize plB p = b at *
  (unfold Tryz.f106; refine rn trivial ?_)
  refine rn F ?_
  repeat' (first
    | with_reducible exact ⟨⟩
    | (refine sB F ?_ ?_<;>intro hZ)
    | refine vp F (c1) ?_
    | refine vp F (c2) ?_)
  all_goals (simp_all)
theorem Qgl (p:Pl) (hl:p.fs.length<=1000000) (a:Int):VCalls prog 120 [.agg p.d,.int .i64 a] [] (Ret (.tup [.agg (Qnq p a).1.d,.bool (Qnq p a).2])):=by
  refine dd Tryz.func120 ?_
  have c1:=Qcb p hl a
  unfold Qnq
  rcases Qcg p a with h | ⟨_,i,hi,h,_⟩
  · rw [h] at c1 |-
    (unfold Tryz.f120; refine rn trivial ?_)
    refine rn F ?_
    repeat' (first
      | with_reducible exact ⟨⟩
      | refine vp F (c1) ?_)
    all_goals rfl
  · rw [h] at c1 |-
    rw [if_neg (by omega),Int.toNat_natCast]
    have hg:=QbA p.fs i hi
    generalize p.fs.getD i Fm0 = f at *
    (unfold Tryz.f120; refine rn trivial ?_)
    have F:=@hg
    refine rn F ?_
    repeat' (first
      | with_reducible exact ⟨⟩
      | refine vp F (c1) ?_)
theorem Qx9 (l:List Fm) (i:Nat) (f:Fm) (hi:i < l.length):(cells Qb8 l).take (i * 37) ++ f.d ++ (cells Qb8 l).drop (i * 37 + 37) = cells Qb8 (l.set i f):=QjZ Qb8 l i f hi
theorem QiL (p:Pl) (hl:p.fs.length<=1000000) (i:Nat) (hi:i < p.fs.length) (f:Fm):VCalls prog 208 [.agg p.d,.int .i64 i,.agg f.d] [] (Ret (.agg (Pl.d ⟨p.size,p.fs.set i f,p.hand⟩))):=by
  refine dd Tryz.func208 ?_
  obtain ⟨z,l,hn⟩:=p
  dsimp only at hl hi
  have hb:i * 37 + 37<=l.length * 37:=by omega
  have hse:=Qx9 l i f hi
  have hle:(l.set i f).length = l.length:=List.length_set
  (unfold Tryz.f208; refine rn trivial ?_)
  have F:=(And.intro @hb (And.intro @hse @hle))
  (refine rn F ?_; try with_reducible exact ⟨⟩)
def QAW (p:Pl) (a:Int):Pl:=if Qbd p a < 0 then p else ⟨p.size,p.fs.set (Qbd p a).toNat ⟨(p.fs.getD (Qbd p a).toNat Fm0).pg,(p.fs.getD (Qbd p a).toNat Fm0).dirty,(p.fs.getD (Qbd p a).toNat Fm0).rc,true⟩,p.hand⟩
theorem Qyo (p:Pl) (hl:p.fs.length<=1000000) (a:Int):VCalls prog 241 [.agg p.d,.int .i64 a] [] (Ret (.agg (QAW p a).d)):=by
  refine dd Tryz.func241 ?_
  have c1:=Qcb p hl a
  unfold QAW
  rcases Qcg p a with h | ⟨_,i,hi,h,_⟩
  · rw [h] at c1 |-
    (unfold Tryz.f241; refine rn trivial ?_)
    refine rn F ?_
    repeat' (first
      | with_reducible exact ⟨⟩
      | refine vp F (c1) ?_)
    all_goals rfl
  · rw [h] at c1 |-
    rw [if_neg (by omega),Int.toNat_natCast]
    have hg:=QbA p.fs i hi
    have c2:=QiL p hl i hi ⟨(p.fs.getD i Fm0).pg,(p.fs.getD i Fm0).dirty,(p.fs.getD i Fm0).rc,true⟩
    generalize p.fs.getD i Fm0 = f at *
    (unfold Tryz.f241; refine rn trivial ?_)
    have F:=@hg
    refine rn F ?_
    repeat' (first
      | with_reducible exact ⟨⟩
      | refine vp F (c1) ?_
      | refine vp F (c2) ?_)
def QlV (n:Int):Pl × Int:=if n < 1\/64 < n then (Pl0,1) else (⟨n,[],0⟩,0)
theorem QqR (n:Int):VCalls prog 85 [.int .i64 n] [] (Ret (.tup [.agg (QlV n).1.d,.int .i64 (QlV n).2])):=by
  refine dk Tryz.func85 ?_
  unfold QlV
  (unfold Tryz.f85; refine rn trivial ?_)
  refine rn F ?_
  repeat' (first
    | with_reducible exact ⟨⟩
    | (refine sG F ?_ ?_<;>intro hZ)
    | (refine sB F ?_ ?_<;>intro hZ))
  all_goals first | (rw [if_pos (by omega)]; rfl) | (rw [if_neg (by omega)]; rfl)
def Qpp (p:Pl) (x:Pg):Pl × Int:=
  if plB p = false then (Pl0,15) else if QaI x ≠ 0 then (Pl0,QaI x) else if 0<=idF p.fs x.id then (Pl0,25) else if (p.fs.length:Int) = p.size then (Pl0,21)
  else (⟨p.size,p.fs ++ [⟨x,false,0,true⟩],p.hand⟩,0)
theorem Qyq (p:Pl) (hl:p.fs.length<=100000) (x:Pg):VCalls prog 184 [.agg p.d,.agg x.d] [] (Ret (.tup [.agg (Qpp p x).1.d,.int .i64 (Qpp p x).2])):=by
  refine dk Tryz.func184 ?_
  have c1:=Qaj p (by omega)
  have c2:=Qdb x
  have c3:=Qcc p (by omega) x.id
  have e:Qpp p x = if plB p = false then (Pl0,15) else if QaI x ≠ 0 then (Pl0,QaI x) else if 0<=idF p.fs x.id then (Pl0,25) else if (p.fs.length:Int) = p.size then (Pl0,21)
    else (⟨p.size,p.fs ++ [⟨x,false,0,true⟩],p.hand⟩,0):=rfl
  generalize Qpp p x = r at *
  generalize plB p = b at *
  generalize QaI x = k at *
  generalize idF p.fs x.id = m at *
  have hb:(p.fs.length + 1) * 304<=140737488355328:=by omega
  (unfold Tryz.f184; refine rn trivial ?_)
  have F:=@hb
  refine rn F ?_
  repeat' (first
    | with_reducible exact ⟨⟩
    | (refine sB F ?_ ?_<;>intro hZ)
    | refine vp F (c1) ?_
    | refine vp F (c2) ?_
    | refine vp F (c3) ?_
    | (refine Qb (id:=10) [0,1,3,4] [⟨[5],[],2,[0,3,4],[]⟩,⟨[5],[5],6,[0,1,3,4],[7]⟩,⟨[],[],8,[],[]⟩] (by kernel_rfl) (by kernel_rfl) ?_; refine rn F ?_))
  all_goals first | (first | (rw [e]; simp (disch:=first | assumption | omega | exact rfl | exact nf (by assumption) | exact nt (by assumption) | decide | fail) only [if_pos,if_neg]; first | done | rfl) | (rw [e]; simp (disch:=first | assumption | omega | exact rfl | exact nf (by assumption) | exact nt (by assumption) | decide | (simp_all; done) | fail) only [if_pos,if_neg]; first | done | rfl)) | skip
end
section
attribute [local go_sem] QaZ
def QAs (f:Fm) (x:Pg):Fm:=⟨x,true,if f.dirty = true then f.rc else x.lsn,true⟩
def QxU (p:Pl) (x:Pg):Pl × Int:=
  if plB p = false then (Pl0,15) else if QaI x ≠ 0 then (Pl0,QaI x) else if idF p.fs x.id < 0 then (Pl0,18)
  else if x.lsn<=(p.fs.getD (idF p.fs x.id).toNat Fm0).pg.lsn then (Pl0,8)
  else (⟨p.size,p.fs.set (idF p.fs x.id).toNat (QAs (p.fs.getD (idF p.fs x.id).toNat Fm0) x),p.hand⟩,0)
theorem Qyp (p:Pl) (hl:p.fs.length<=100000) (x:Pg):VCalls prog 234 [.agg p.d,.agg x.d] [] (Ret (.tup [.agg (QxU p x).1.d,.int .i64 (QxU p x).2])):=by
  refine dk Tryz.func234 ?_
  have c1:=Qaj p (by omega)
  have c2:=Qdb x
  have c3:=Qcc p (by omega) x.id
  have c4:=QiL p (by omega)
  have e:QxU p x = if plB p = false then (Pl0,15) else if QaI x ≠ 0 then (Pl0,QaI x) else if idF p.fs x.id < 0 then (Pl0,18)
    else if x.lsn<=(p.fs.getD (idF p.fs x.id).toNat Fm0).pg.lsn then (Pl0,8)
    else (⟨p.size,p.fs.set (idF p.fs x.id).toNat (QAs (p.fs.getD (idF p.fs x.id).toNat Fm0) x),p.hand⟩,0):=rfl
  have hi:=QbY p.fs x.id
  generalize QxU p x = r at *
  generalize plB p = b at *
  generalize QaI x = k at *
  rcases hi with h | ⟨i,hi,h,_⟩
  · rw [h] at c3 e
    (unfold Tryz.f234; refine rn trivial ?_)
    refine rn F ?_
    repeat' (first
      | with_reducible exact ⟨⟩
      | (refine sB F ?_ ?_<;>intro hZ)
      | refine vp F (c1) ?_
      | refine vp F (c2) ?_
      | refine vp F (c3) ?_)
    all_goals first | (first | (rw [e]; simp (disch:=first | assumption | omega | exact rfl | exact nf (by assumption) | exact nt (by assumption) | decide | fail) only [if_pos,if_neg]; first | done | rfl) | (rw [e]; simp (disch:=first | assumption | omega | exact rfl | exact nf (by assumption) | exact nt (by assumption) | decide | (simp_all; done) | fail) only [if_pos,if_neg]; first | done | rfl)) | skip
  · rw [h] at c3 e
    rw [Int.toNat_natCast] at e
    have hg:=QbA p.fs i hi
    have e2:∀ f:Fm,f.dirty = true->QAs f x = ⟨x,true,f.rc,true⟩:=fun f h=>by unfold QAs; rw [if_pos h]
    have e3:∀ f:Fm,¬ f.dirty = true->QAs f x = ⟨x,true,x.lsn,true⟩:=fun f h=>by unfold QAs; rw [if_neg h]
    have c4:=fun f=>c4 i hi f
    generalize p.fs.getD i Fm0 = f at *
    (unfold Tryz.f234; refine rn trivial ?_)
    have F:=@hg
    refine rn F ?_
    repeat' (first
      | with_reducible exact ⟨⟩
      | (refine sB F ?_ ?_<;>intro hZ)
      | refine vp F (c1) ?_
      | refine vp F (c2) ?_
      | refine vp F (c3) ?_
      | refine vp F (c4 ⟨_,_,_,_⟩) ?_)
    all_goals first | (first | (rw [e]; simp (disch:=first | assumption | omega | exact rfl | exact nf (by assumption) | exact nt (by assumption) | decide | fail) only [if_pos,if_neg]; first | done | rfl) | (rw [e]; simp (disch:=first | assumption | omega | exact rfl | exact nf (by assumption) | exact nt (by assumption) | decide | (simp_all; done) | fail) only [if_pos,if_neg]; first | done | rfl)) | (first | (rw [e,e2 f (by assumption)]; simp (disch:=first | assumption | omega | exact rfl | exact nf (by assumption) | exact nt (by assumption) | decide | fail) only [if_pos,if_neg]; first | done | rfl) | (rw [e,e2 f (by assumption)]; simp (disch:=first | assumption | omega | exact rfl | exact nf (by assumption) | exact nt (by assumption) | decide | (simp_all; done) | fail) only [if_pos,if_neg]; first | done | rfl)) | (first | (rw [e,e3 f (by simp_all)]; simp (disch:=first | assumption | omega | exact rfl | exact nf (by assumption) | exact nt (by assumption) | decide | fail) only [if_pos,if_neg]; first | done | rfl) | (rw [e,e3 f (by simp_all)]; simp (disch:=first | assumption | omega | exact rfl | exact nf (by assumption) | exact nt (by assumption) | decide | (simp_all; done) | fail) only [if_pos,if_neg]; first | done | rfl)) | skip
def Qfl (f:Fm) (n:Int):Fm:=if f.pg.lsn = n then ⟨f.pg,false,0,f.used⟩ else if f.rc<=n then ⟨f.pg,f.dirty,n + 1,f.used⟩ else f
def QbB (p:Pl) (a n:Int):Pl × Int:=
  if plB p = false then (Pl0,15) else if idF p.fs a < 0 then (Pl0,18)
  else if (p.fs.getD (idF p.fs a).toNat Fm0).pg.lsn < n then (Pl0,9)
  else if (p.fs.getD (idF p.fs a).toNat Fm0).dirty = false then (p,0)
  else (⟨p.size,p.fs.set (idF p.fs a).toNat (Qfl (p.fs.getD (idF p.fs a).toNat Fm0) n),p.hand⟩,0)
theorem QqT (p:Pl) (hl:p.fs.length<=100000) (a n:Int) (hn:n<=1099511627776) (hn0:0<=n):VCalls prog 163 [.agg p.d,.int .i64 a,.int .i64 n] [] (Ret (.tup [.agg (QbB p a n).1.d,.int .i64 (QbB p a n).2])):=by
  refine dk Tryz.func163 ?_
  have c1:=Qaj p (by omega)
  have c3:=Qcc p (by omega) a
  have c4:=QiL p (by omega)
  have e:QbB p a n = if plB p = false then (Pl0,15) else if idF p.fs a < 0 then (Pl0,18)
    else if (p.fs.getD (idF p.fs a).toNat Fm0).pg.lsn < n then (Pl0,9)
    else if (p.fs.getD (idF p.fs a).toNat Fm0).dirty = false then (p,0)
    else (⟨p.size,p.fs.set (idF p.fs a).toNat (Qfl (p.fs.getD (idF p.fs a).toNat Fm0) n),p.hand⟩,0):=rfl
  have hi:=QbY p.fs a
  generalize QbB p a n = r at *
  generalize plB p = b at *
  rcases hi with h | ⟨i,hi,h,_⟩
  · rw [h] at c3 e
    (unfold Tryz.f163; refine rn trivial ?_)
    refine rn F ?_
    repeat' (first
      | with_reducible exact ⟨⟩
      | (refine sB F ?_ ?_<;>intro hZ)
      | refine vp F (c1) ?_
      | refine vp F (c3) ?_)
    all_goals first | (first | (rw [e]; simp (disch:=first | assumption | omega | exact rfl | exact nf (by assumption) | exact nt (by assumption) | decide | fail) only [if_pos,if_neg]; first | done | rfl) | (rw [e]; simp (disch:=first | assumption | omega | exact rfl | exact nf (by assumption) | exact nt (by assumption) | decide | (simp_all; done) | fail) only [if_pos,if_neg]; first | done | rfl)) | skip
  · rw [h] at c3 e
    rw [Int.toNat_natCast] at e
    have hg:=QbA p.fs i hi
    have c4:=fun f=>c4 i hi f
    generalize p.fs.getD i Fm0 = f at *
    obtain ⟨pg,dirty,rc,used⟩:=f
    have e1:pg.lsn = n->Qfl ⟨pg,dirty,rc,used⟩ n = ⟨pg,false,0,used⟩:=fun h=>if_pos h
    have e2:¬ pg.lsn = n->rc<=n->Qfl ⟨pg,dirty,rc,used⟩ n = ⟨pg,dirty,n + 1,used⟩:=fun h h2=>by unfold Qfl; rw [if_neg h,if_pos h2]
    have e3:¬ pg.lsn = n->¬ rc<=n->Qfl ⟨pg,dirty,rc,used⟩ n = ⟨pg,dirty,rc,used⟩:=fun h h2=>by unfold Qfl; rw [if_neg h,if_neg h2]
    cases dirty
    all_goals
      (unfold Tryz.f163; refine rn trivial ?_)
      have F:=@hg
      refine rn F ?_
      repeat' (first
        | with_reducible exact ⟨⟩
        | (refine sB F ?_ ?_<;>intro hZ)
        | refine vp F (c1) ?_
        | refine vp F (c3) ?_
        | refine vp F (c4 ⟨_,_,_,_⟩) ?_)
    all_goals first | (first | (rw [e]; simp (disch:=first | assumption | omega | exact rfl | exact nf (by assumption) | exact nt (by assumption) | decide | fail) only [if_pos,if_neg]; first | done | rfl) | (rw [e]; simp (disch:=first | assumption | omega | exact rfl | exact nf (by assumption) | exact nt (by assumption) | decide | (simp_all; done) | fail) only [if_pos,if_neg]; first | done | rfl)) | (first | (rw [e,e1 (by omega)]; simp (disch:=first | assumption | omega | exact rfl | exact nf (by assumption) | exact nt (by assumption) | decide | fail) only [if_pos,if_neg]; first | done | rfl) | (rw [e,e1 (by omega)]; simp (disch:=first | assumption | omega | exact rfl | exact nf (by assumption) | exact nt (by assumption) | decide | (simp_all; done) | fail) only [if_pos,if_neg]; first | done | rfl)) | (first | (rw [e,e2 (by omega) (by omega)]; simp (disch:=first | assumption | omega | exact rfl | exact nf (by assumption) | exact nt (by assumption) | decide | fail) only [if_pos,if_neg]; first | done | rfl) | (rw [e,e2 (by omega) (by omega)]; simp (disch:=first | assumption | omega | exact rfl | exact nf (by assumption) | exact nt (by assumption) | decide | (simp_all; done) | fail) only [if_pos,if_neg]; first | done | rfl)) | (first | (rw [e,e3 (by omega) (by omega)]; simp (disch:=first | assumption | omega | exact rfl | exact nf (by assumption) | exact nt (by assumption) | decide | fail) only [if_pos,if_neg]; first | done | rfl) | (rw [e,e3 (by omega) (by omega)]; simp (disch:=first | assumption | omega | exact rfl | exact nf (by assumption) | exact nt (by assumption) | decide | (simp_all; done) | fail) only [if_pos,if_neg]; first | done | rfl)) | skip
def Qhz (n:Nat) (i h:Int):Int:=if (n:Int)<=(if i < h then h - 1 else h) then 0 else (if i < h then h - 1 else h)
def Qmm (p:Pl) (a:Int):Pl × Int:=
  if plB p = false then (Pl0,15) else if idF p.fs a < 0 then (Pl0,18)
  else if (p.fs.getD (idF p.fs a).toNat Fm0).dirty = true then (Pl0,23)
  else (⟨p.size,p.fs.take (idF p.fs a).toNat ++ p.fs.drop ((idF p.fs a).toNat + 1),Qhz (p.fs.length - 1) (idF p.fs a) p.hand⟩,0)
theorem QuF (p:Pl) (hl:p.fs.length<=100000) (a:Int):VCalls prog 227 [.agg p.d,.int .i64 a] [] (Ret (.tup [.agg (Qmm p a).1.d,.int .i64 (Qmm p a).2])):=by
  refine dk Tryz.func227 ?_
  have c1:=Qaj p (by omega)
  have c3:=Qcc p (by omega) a
  have e:Qmm p a = if plB p = false then (Pl0,15) else if idF p.fs a < 0 then (Pl0,18)
    else if (p.fs.getD (idF p.fs a).toNat Fm0).dirty = true then (Pl0,23)
    else (⟨p.size,p.fs.take (idF p.fs a).toNat ++ p.fs.drop ((idF p.fs a).toNat + 1),Qhz (p.fs.length - 1) (idF p.fs a) p.hand⟩,0):=rfl
  have hi:=QbY p.fs a
  have hh:=@Qkf p
  generalize Qmm p a = r at *
  generalize plB p = b at *
  rcases hi with h | ⟨i,hi,h,_⟩
  · rw [h] at c3 e
    (unfold Tryz.f227; refine rn trivial ?_)
    refine rn F ?_
    repeat' (first
      | with_reducible exact ⟨⟩
      | (refine sB F ?_ ?_<;>intro hZ)
      | refine vp F (c1) ?_
      | refine vp F (c3) ?_)
    all_goals first | (first | (rw [e]; simp (disch:=first | assumption | omega | exact rfl | exact nf (by assumption) | exact nt (by assumption) | decide | fail) only [if_pos,if_neg]; first | done | rfl) | (rw [e]; simp (disch:=first | assumption | omega | exact rfl | exact nf (by assumption) | exact nt (by assumption) | decide | (simp_all; done) | fail) only [if_pos,if_neg]; first | done | rfl)) | skip
  · rw [h] at c3 e
    rw [Int.toNat_natCast] at e
    cases b
    · (unfold Tryz.f227; refine rn trivial ?_; try with_reducible exact ⟨⟩)
      refine rn F ?_
      repeat' (first
        | with_reducible exact ⟨⟩
        | refine vp F (c1) ?_)
      all_goals (first | (rw [e]; simp (disch:=first | assumption | omega | exact rfl | exact nf (by assumption) | exact nt (by assumption) | decide | fail) only [if_pos,if_neg]; first | done | rfl) | (rw [e]; simp (disch:=first | assumption | omega | exact rfl | exact nf (by assumption) | exact nt (by assumption) | decide | (simp_all; done) | fail) only [if_pos,if_neg]; first | done | rfl))
    have hh:=hh rfl
    obtain ⟨z,l,hn⟩:=p
    dsimp only at hl e hi
    simp only [Pl.hd] at hh
    have hg:=QbA l i hi
    have hb:(i + (l.length - (i + 1))) * 304<=140737488355328:=by omega
    have hb1:i * 304<=140737488355328:=by omega
    have hmin:min i l.length = i:=by omega
    have e1:(i:Int) < hn->¬ ((l.length - 1:Nat):Int)<=hn - 1->Qhz (l.length - 1) i hn = hn - 1:=fun h h2=>by unfold Qhz; rw [if_pos h,if_neg h2]
    have e2:¬ (i:Int) < hn->¬ ((l.length - 1:Nat):Int)<=hn->Qhz (l.length - 1) i hn = hn:=fun h h2=>by unfold Qhz; rw [if_neg h,if_neg h2]
    have e3:(i:Int) < hn->((l.length - 1:Nat):Int)<=hn - 1->Qhz (l.length - 1) i hn = 0:=fun h h2=>by unfold Qhz; rw [if_pos h,if_pos h2]
    have e4:¬ (i:Int) < hn->((l.length - 1:Nat):Int)<=hn->Qhz (l.length - 1) i hn = 0:=fun h h2=>by unfold Qhz; rw [if_neg h,if_pos h2]
    generalize l.getD i Fm0 = f at *
    (unfold Tryz.f227; refine rn trivial ?_)
    have F:=(And.intro @hg (And.intro @hb (And.intro @hb1 @hmin)))
    refine rn F ?_
    repeat' (first
      | with_reducible exact ⟨⟩
      | (refine sB F ?_ ?_<;>intro hZ)
      | refine vp F (c1) ?_
      | refine vp F (c3) ?_
      | (refine Qb (id:=8) [0,1,2,3,5,6,7,8,9] [⟨[],[],4,[0,1,2,5,6,7,8,9],[]⟩,⟨[],[],10,[0,1,2,3,5,6,7,8],[11]⟩,⟨[],[],12,[],[]⟩] (by kernel_rfl) (by kernel_rfl) ?_; refine rn F ?_))
    all_goals first | (first | (rw [e]; simp (disch:=first | assumption | omega | exact rfl | exact nf (by assumption) | exact nt (by assumption) | decide | fail) only [if_pos,if_neg]; first | done | rfl) | (rw [e]; simp (disch:=first | assumption | omega | exact rfl | exact nf (by assumption) | exact nt (by assumption) | decide | (simp_all; done) | fail) only [if_pos,if_neg]; first | done | rfl)) | (first | (rw [e,e1 (by omega) (by omega)]; simp (disch:=first | assumption | omega | exact rfl | exact nf (by assumption) | exact nt (by assumption) | decide | fail) only [if_pos,if_neg]; first | done | rfl) | (rw [e,e1 (by omega) (by omega)]; simp (disch:=first | assumption | omega | exact rfl | exact nf (by assumption) | exact nt (by assumption) | decide | (simp_all; done) | fail) only [if_pos,if_neg]; first | done | rfl)) | (first | (rw [e,e2 (by omega) (by omega)]; simp (disch:=first | assumption | omega | exact rfl | exact nf (by assumption) | exact nt (by assumption) | decide | fail) only [if_pos,if_neg]; first | done | rfl) | (rw [e,e2 (by omega) (by omega)]; simp (disch:=first | assumption | omega | exact rfl | exact nf (by assumption) | exact nt (by assumption) | decide | (simp_all; done) | fail) only [if_pos,if_neg]; first | done | rfl)) | (first | (rw [e,e3 (by omega) (by omega)]; simp (disch:=first | assumption | omega | exact rfl | exact nf (by assumption) | exact nt (by assumption) | decide | fail) only [if_pos,if_neg]; first | done | rfl) | (rw [e,e3 (by omega) (by omega)]; simp (disch:=first | assumption | omega | exact rfl | exact nf (by assumption) | exact nt (by assumption) | decide | (simp_all; done) | fail) only [if_pos,if_neg]; first | done | rfl)) | (first | (rw [e,e4 (by omega) (by omega)]; simp (disch:=first | assumption | omega | exact rfl | exact nf (by assumption) | exact nt (by assumption) | decide | fail) only [if_pos,if_neg]; first | done | rfl) | (rw [e,e4 (by omega) (by omega)]; simp (disch:=first | assumption | omega | exact rfl | exact nf (by assumption) | exact nt (by assumption) | decide | (simp_all; done) | fail) only [if_pos,if_neg]; first | done | rfl)) | skip
end
section
attribute [local go_sem] QaZ
def Fm.clr (f:Fm):Fm:=⟨f.pg,f.dirty,f.rc,false⟩
def SameF (l m:List Fm):Prop:=m.map Fm.clr = l.map Fm.clr
theorem QfU (l:List Fm) (i:Nat):(l.map Fm.clr).getD i Fm0 = (l.getD i Fm0).clr:=by
  rw [List.getD_eq_getElem?_getD,List.getD_eq_getElem?_getD,List.getElem?_map]; cases l[i]?<;>rfl
theorem QsA (l:List Fm) (i:Nat):frC (l.map Fm.clr) i = frC l i:=by
  have h:QzO (l.map Fm.clr) i = QzO l i:=by funext k; simp only [QzO,QfU]; rfl
  simp only [frC,h,QfU]; rfl
theorem SameF.len {l m:List Fm} (h:SameF l m):m.length = l.length:=by have:=congrArg List.length h; simpa using this
theorem SameF.refl (l:List Fm):SameF l l:=rfl
theorem SameF.trans {a b c:List Fm} (h:SameF a b) (g:SameF b c):SameF a c:=Eq.trans (b:=b.map Fm.clr) g h
theorem SameF.at_ {l m:List Fm} (h:SameF l m) (i:Nat):(m.getD i Fm0).clr = (l.getD i Fm0).clr:=by
  rw [<- QfU,<- QfU,show m.map Fm.clr = l.map Fm.clr from h]
theorem SameF.frC {l m:List Fm} (h:SameF l m):frC m = frC l:=by
  funext i; rw [<- QsA m,<- QsA l,show m.map Fm.clr = l.map Fm.clr from h]
theorem SameF.plB {p q:Pl} (h:SameF p.fs q.fs) (hs:q.size = p.size) (hh:0<=q.hand/\q.hand<=max 0 ((p.fs.length:Int) - 1)) (hp:plB p = true):plB q = true:=by
  have h1:=Qkf hp
  simp only [Pl.hd] at h1
  have hl:=h.len
  unfold Proofs.YtepcgifhpjapkaaGreat.plB at hp |-
  rw [h.frC,hl,decide_eq_true (by simp only [Pl.hd]; omega)]
  simp only [Bool.and_eq_true] at hp
  simpa using hp.2
theorem Qsg (l:List Fm) (a:Int):idF (l.map Fm.clr) a = idF l a:=by
  unfold idF Qnn
  rw [List.any_map,List.findIdx_map]; rfl
theorem SameF.idF {l m:List Fm} (h:SameF l m) (a:Int):idF m a = idF l a:=by
  rw [<- Qsg m,<- Qsg l,show m.map Fm.clr = l.map Fm.clr from h]
theorem SameF.set (l:List Fm) (i:Nat) (b:Bool):SameF l (l.set i ⟨(l.getD i Fm0).pg,(l.getD i Fm0).dirty,(l.getD i Fm0).rc,b⟩):=by
  unfold SameF
  rw [List.map_set]
  rcases Nat.lt_or_ge i l.length with h | h
  · have:(⟨(l.getD i Fm0).pg,(l.getD i Fm0).dirty,(l.getD i Fm0).rc,b⟩:Fm).clr = (l.map Fm.clr)[i]'(by simpa using h):=by
      rw [Qk l i h,List.getElem_map]; rfl
    rw [this,List.set_getElem_self]
  · rw [List.set_eq_of_length_le (by simpa using h)]
def Qt2 (l:List Fm):Nat:=l.countP (·.used)
theorem Qqg (l:List Fm) (i:Nat) (h:i < l.length) (hu:(l.getD i Fm0).used = true):Qt2 (l.set i ⟨(l.getD i Fm0).pg,(l.getD i Fm0).dirty,(l.getD i Fm0).rc,false⟩) < Qt2 l:=by
  unfold Qt2
  rw [List.countP_set h]
  rw [Qk l i h] at *
  have:0 < l.countP (·.used):=List.countP_pos_iff.2 ⟨l[i],List.getElem_mem h,hu⟩
  simp only [hu,if_true]
  simp
  omega
structure Vic (p:Pl) where
  q:Pl
  ok:plB q = true
  sm:SameF p.fs q.fs
  sz:q.size = p.size
  ne:0 < q.fs.length
def QDJ (p:Pl) (a:Pl × Int × Int):Prop:=(a.2.2 = 0->plB p = true/\plB a.1 = true/\SameF p.fs a.1.fs/\a.1.size = p.size/\∃ i,i < a.1.fs.length/\a.2.1 = (a.1.fs.getD i Fm0).pg.id)/\(plB p = true->0 < p.fs.length->a.2.2 = 0)/\a.1.fs.length<=p.fs.length
def QDK (a:Pl × Int × Int):DV:=.tup [.agg a.1.d,.int .i64 a.2.1,.int .i64 a.2.2]
theorem Qym (p:Pl) (hl:p.fs.length<=100000):VCalls prog 226 [.agg p.d] [] (QC QDK (QDJ p)):=by
  refine dk Tryz.func226 ?_
  have c1:=Qaj p (by omega)
  cases hb:plB p
  · rw [hb] at c1
    (unfold Tryz.f226; refine rn trivial ?_)
    refine rn F ?_
    repeat' (first
      | with_reducible exact ⟨⟩
      | refine vp F (c1) ?_)
    all_goals exact ⟨rfl,rfl,(Pl0,0,15),rfl,by simp [QDJ,hb,Pl0]⟩
  · rw [hb] at c1
    (unfold Tryz.f226; refine rn trivial ?_)
    refine rn F ?_
    repeat' (first
      | with_reducible exact ⟨⟩
      | (refine sB F ?_ ?_<;>intro hZ)
      | refine vp F (c1) ?_)
    · exact ⟨rfl,rfl,(Pl0,0,18),rfl,fun h=>absurd h (by decide),fun _ h=>by omega,Nat.zero_le _⟩
    refine Qg (fun s:Vic p=>⟨51,0,[(2,.ptr 1 0),(1,.ptr 0 0)],[⟨31,true,s.q.d⟩,⟨31,true,[.int .i64 0,.pv (.slc []),.int .i64 0]⟩]⟩) (fun s=>Qt2 s.q.fs) ⟨p,hb,SameF.refl _,rfl,by omega⟩ (gc [0,1]) ?_
    intro s
    obtain ⟨q,ok,sm,sz,ne⟩:=s
    obtain ⟨qz,l,hn⟩:=q
    dsimp only at ok sm sz ne |-
    have hh:=Qkf ok
    have hlen:=sm.len
    simp only [Pl.hd] at hh
    obtain ⟨i,rfl⟩:∃ i:Nat,hn = i:=⟨hn.toNat,by omega⟩
    have hi:i < l.length:=by omega
    have hg:=QbA l i hi
    have c2:=fun f=>QiL ⟨qz,l,i⟩ (by dsimp only; omega) i hi f
    have hst:=SameF.set l i false
    have hus:=Qqg l i hi
    have hmod:((i:Int) + 1).tmod (l.length:Int) = ((i + 1) % l.length:Nat):=Int.ofNat_tmod (i + 1) l.length
    have hml:(i + 1) % l.length < l.length:=Nat.mod_lt _ ne
    have hle:∀ f,(l.set i f).length = l.length:=fun f=>List.length_set
    generalize hf:l.getD i Fm0 = f at *
    have F:=(And.intro @hg @hle)
    refine rn F ?_
    repeat' (first
      | with_reducible exact ⟨⟩
      | (refine sB F ?_ ?_<;>intro hZ)
      | refine vp F (c2 ⟨_,_,_,_⟩) ?_
      | (refine Qb (id:=10) [0,1,2,3,4,5,6,7,8] [⟨[],[],9,[1,2,3,4,5,6,7,8],[]⟩,⟨[],[],10,[],[]⟩,⟨[],[],11,[],[]⟩] (by kernel_rfl) (by kernel_rfl) ?_; refine rn F ?_))
    · rw [hmod]
      refine ⟨⟨⟨qz,l.set i ⟨f.pg,f.dirty,f.rc,false⟩,((i + 1) % l.length:Nat)⟩,(sm.trans hst).plB sz ?_ hb,sm.trans hst,sz,?_⟩,hus (by assumption),(gc [0,1])⟩
      · dsimp only at hlen |-; omega
      · rw [hle]; exact ne
    · exact ⟨rfl,rfl,(⟨qz,l,i⟩,f.pg.id,0),rfl,fun _=>⟨hb,ok,sm,sz,i,hi,by rw [hf]⟩,fun _ _=>rfl,by dsimp only at hlen |-; omega⟩
theorem QqS (p:Pl) (hl:p.fs.length<=100000):VCalls prog 164 [.agg p.d] [] (QC (fun l:List Dt=>.pv (.sl (fz Qdm l))) fun l=>l.length<=64):=by
  refine dk Tryz.func164 ?_
  have c1:=Qaj p (by omega)
  have c2:=Qcc p (by omega)
  generalize plB p = b at *
  (unfold Tryz.f164; refine rn trivial ?_)
  refine rn F ?_
  repeat' (first
    | with_reducible exact ⟨⟩
    | (refine sB F ?_ ?_<;>intro hZ)
    | refine vp F (c1) ?_)
  · exact ⟨rfl,rfl,[],rfl,Nat.zero_le _⟩
  refine VLoop.nilOwn 3 190 3 rfl ?_
  refine rn trivial ?_
  refine Qg (fun s:{s:Nat × List Dt // s.1<=64/\s.2.length<=s.1}=>⟨45,0,[(4,.int .i64 s.1.1),(3,.own 1 3 0 s.1.2.length),(1,.ptr 0 0)],[⟨31,true,p.d⟩,⟨190,true,cells Qdm s.1.2⟩]⟩) (fun s=>64 - s.1.1) ⟨(0,[]),by simp⟩ (gc [0,1]) ?_
  rintro ⟨⟨i,out⟩,hi,ho⟩
  dsimp only at hi ho |-
  have c3:=c2 i
  rcases QbY p.fs i with h | ⟨j,hj,h,_⟩
  all_goals rw [h] at c3
  · skip
    refine rn F ?_
    repeat' (first
      | with_reducible exact ⟨⟩
      | (refine sB F ?_ ?_<;>intro hZ)
      | refine vp F (c3) ?_)
    · exact ⟨⟨(i + 1,out),by dsimp only; omega,by dsimp only; omega⟩,by dsimp only; omega,(gc [0,1])⟩
    · exact ⟨rfl,rfl,out,rfl,by omega⟩
  · have hg:=QbA p.fs j hj
    have hb:(out.length + 1) * 24<=140737488355328:=by omega
    generalize p.fs.getD j Fm0 = f at *
    have F:=(And.intro @hg @hb)
    refine rn F ?_
    repeat' (first
      | with_reducible exact ⟨⟩
      | (refine sB F ?_ ?_<;>intro hZ)
      | refine vp F (c3) ?_
      | (refine Qb (id:=9) [0,1,2,3,4,5,6,7,8,9,10,11,12,13,14,15] [⟨[16],[16],17,[1,2,3,4,5,6,7,8,9,10,11,12,13,14,15],[]⟩,⟨[],[],18,[],[]⟩] (by kernel_rfl) (by kernel_rfl) ?_; refine rn F ?_))
    · exact ⟨⟨(i + 1,out ++ [⟨i,f.rc,f.pg.lsn⟩]),by dsimp only; omega,by simp; omega⟩,by dsimp only; omega,by dsimp only; rw [List.length_append]; exact (gc [0,3])⟩
    · exact ⟨⟨(i + 1,out),by dsimp only; omega,by dsimp only; omega⟩,by dsimp only; omega,(gc [0,1])⟩
    · exact ⟨rfl,rfl,out,rfl,by omega⟩
end
theorem QeN (x:Lg) (h1 : -1099511627776<=x.f/\x.f<=1099511627776) (h2:x.es.length<=1000000):VCalls prog 40 [.agg x.c] [] (Ret (.int .i64 x.end_)):=by
  refine dd Tryz.func40 ?_
  unfold Lg.end_
  (unfold Tryz.f40; refine rn trivial ?_; try with_reducible exact ⟨⟩)
theorem QrY {x:Lg} (h:lgB x = true):x.end_<=1099511627776:=by
  have hd:=QB h
  unfold Lg.hd at hd
  unfold Lg.end_
  unfold lgB at h
  simp only [Bool.and_eq_true,List.all_eq_true] at h
  by_cases h0:x.es.length = 0
  · omega
  · have:=h.2 (x.es.length - 1) (List.mem_range.2 (by omega))
    unfold lgC at this
    simp only [Bool.and_eq_true,decide_eq_true_eq] at this
    obtain ⟨h3,h4⟩:=this
    generalize x.es.getD (x.es.length - 1) E0 = e at *
    unfold E.okB at h4
    simp only [Bool.and_eq_true,decide_eq_true_eq] at h4
    omega
theorem QV (x:Lg) (hx:x.es.length<=9223372036854775807):VCalls prog 36 [.agg x.c] [] (Ret (.bool (lgB x))):=by
  refine dd Tryz.func36 ?_
  obtain ⟨f,es,d⟩:=x
  dsimp only at hx
  have c1:=QeN ⟨f,es,d⟩
  unfold Lg.end_ at c1
  dsimp only at c1
  have hB:lgB ⟨f,es,d⟩ = (decide (Lg.hd ⟨f,es,d⟩) && (List.range es.length).all (lgC ⟨f,es,d⟩)):=rfl
  have hH:Lg.hd ⟨f,es,d⟩ = (1<=f/\f<=1099511627776/\es.length<=4096/\f - 1<=d/\d<=f + es.length - 1):=rfl
  have hB':Lg.hd ⟨f,es,d⟩->lgB ⟨f,es,d⟩ = (List.range es.length).all (lgC ⟨f,es,d⟩):=fun h=>by rw [hB,decide_eq_true h,Bool.true_and]
  have no:¬ Lg.hd ⟨f,es,d⟩->lgB ⟨f,es,d⟩ = false:=fun h=>by rw [hB,decide_eq_false h]; rfl
  have hlc:∀ i,lgC ⟨f,es,d⟩ i = (decide ((es.getD i E0).lsn = f + i) && (es.getD i E0).okB):=fun _=>rfl
  generalize lgB ⟨f,es,d⟩ = b at *
  generalize lgC ⟨f,es,d⟩ = lc at *
  (unfold Tryz.f36; refine rn trivial ?_)
  refine rn F ?_
  repeat' (first
    | with_reducible exact ⟨⟩
    | (refine sG F ?_ ?_<;>intro hZ)
    | (refine sB F ?_ ?_<;>intro hZ)
    | refine vp F (c1 (by omega) (by omega)) ?_
    | (refine Qb (id:=1) [0,1,2,3,4,5,6,7,8,9,10,11,12,13,14,15,16,17,18,19,20,21,22,23,24,25] [⟨[],[],26,[0,1,2,3,4,5,6,7,8,9,10,11,12,13,14,15,16,17,18,19,20,21,23,24],[27,28]⟩] (by kernel_rfl) (by kernel_rfl) ?_; refine rn F ?_))
  all_goals first | (rw [no (by rw [hH]; omega)]) | skip
  refine Qg (fun s:Okay es.length lc=>⟨60,0,[(3,.int .i64 s.i),(1,.ptr 0 0)],[⟨25,true,Lg.c ⟨f,es,d⟩⟩]⟩) (fun s=>es.length - s.i) (Okay.start _ _) (gc [0]) ?_
  intro s
  have hsi:=s.hi
  have hg:=fun h:s.i < es.length=>QeV es s.i h
  have c2:=Qca (es.getD s.i E0)
  have e:=hlc s.i
  generalize (es.getD s.i E0).okB = ok at *
  have F:=@hg
  refine rn F ?_
  repeat' (first
    | with_reducible exact ⟨⟩
    | (refine sG F ?_ ?_<;>intro hZ)
    | (refine sB F ?_ ?_<;>intro hZ)
    | refine vp F (c2) ?_
    | (refine Qb (id:=6) [0,1,2,3,4,5,6,7,8,9,10,11,12,13,14,15,16] [⟨[],[],17,[0,1,2,3,4,5,6,7,8,9,10,12,13,14,15],[18,19]⟩] (by kernel_rfl) (by kernel_rfl) ?_; refine rn F ?_))
  all_goals first
    | (exact congrArg DV.bool (s.no (by omega) (hB' (by rw [hH]; omega)) (by rw [e]; first | (rw [decide_eq_false (by omega)]; rfl) | simp_all)).symm)
    | (exact congrArg DV.bool (s.yes (by omega) (hB' (by rw [hH]; omega))).symm)
    | (exact ⟨s.next (by omega) (by rw [e]; simp_all),s.dec (by omega),(gc [0])⟩)
    | skip
section
attribute [local go_sem] Ce.d Ch.d E.d Lg.c QJ Q3
def exE (es:List E) (i:Nat) (p:E->Bool):Bool:=!(List.range i).all fun k=>!p (es.getD k E0)
theorem Qdk (es:List E) (i:Nat) (p:E->Bool):exE es (i + 1) p = (exE es i p || p (es.getD i E0)):=by
  unfold exE
  rw [List.range_succ,List.all_append]
  simp [Bool.not_and]
def undp (n:Int) (x:E):Bool:=decide (x.kind = 2) && decide (x.ref = n)
def QmC (es:List E) (i:Nat) (n:Int):Bool:=exE es i (undp n)
def Qcl (es:List E) (pg:Int):Nat->Int
  | 0=>0
  | k + 1=>if QeB (es.getD k E0) = true/\(es.getD k E0).c.pg = pg then (es.getD k E0).lsn else Qcl es pg k
def Qce (es:List E) (tx:Int):Nat->Int
  | 0=>0
  | k + 1=>if (es.getD k E0).tx = tx then (es.getD k E0).lsn else Qce es tx k
def Qtv (es:List E) (tx:Int):Nat->Bool
  | 0=>false
  | k + 1=>if (es.getD k E0).tx = tx then (Qtv es tx k || decide ((es.getD k E0).kind = 4)) else Qtv es tx k
def QvZ (tx:Int) (x:E):Bool:=decide (x.tx = tx) && (decide (x.kind = 3) || decide (x.kind = 5))
def QtE (f tx:Int) (x:E):Bool:=decide (x.tx = tx) && (decide (0 < x.ptx) && decide (x.ptx < f))
attribute [local go_sem] Qg3 QcN Qb0 Qaz Qak
end
section
attribute [local go_sem] Ce.d Ch.d E.d Lg.c QJ Q3
attribute [local go_sem] Qg3 QcN Qb0 Qaz Qak
end
section
attribute [local go_sem] Ce.d Ch.d E.d Lg.c QJ Q3
attribute [local go_sem] Qg3 QcN Qb0 Qaz Qak
end
theorem Qg8 (a b c d:Int):QJ [.pv (.lit (.int .i64 a)),.pv (.lit (.int .i64 b))] [.pv (.lit (.int .i64 c)),.pv (.lit (.int .i64 d))] [(0,1),(1,1)] = some (decide (a = c) && decide (b = d)):=by simp [QJ,Q3,Bool.beq_eq_decide_eq]
def grB (g:Gr):Bool:=decide (1<=g.tx) && decide (g.tx<=1073741824) && decide (0<=g.pg) && decide (g.pg < 64) && decide (0<=g.sl) && decide (g.sl < 16) && (decide (g.md = 1) || decide (g.md = 2))
def Qy3 (a b:Gr):Bool:=if a.pg ≠ b.pg then decide (a.pg < b.pg) else if a.sl ≠ b.sl then decide (a.sl < b.sl) else decide (a.tx < b.tx)
def QCb (a b:Gr):Bool:=!decide (a.tx = b.tx) && (decide (a.pg = b.pg) && decide (a.sl = b.sl)) && (decide (a.md = 2) || decide (b.md = 2))
theorem Qq6 (g:Gr):VCalls prog 222 [.agg g.d] [] (Ret (.bool (grB g))):=by
  refine dd Tryz.func222 ?_
  (unfold Tryz.f222; refine rn trivial ?_)
  refine rn F ?_
  repeat' (first
    | with_reducible exact ⟨⟩
    | (refine sG F ?_ ?_<;>intro hZ))
  all_goals (first | rfl | (congr 3; rw [Bool.eq_iff_iff]; (try simp only [grB,decide_eq_true_eq,Bool.and_eq_true,Bool.or_eq_true,Bool.not_eq_true',Bool.not_eq_false',decide_eq_false_iff_not,beq_iff_eq,bne_iff_ne,ne_eq,Bool.false_eq_true,Bool.true_eq_false,iff_true,true_iff,iff_false,false_iff]); first | done | omega | grind))
theorem QmW (a b:Gr):VCalls prog 223 [.agg a.d,.agg b.d] [] (Ret (.bool (Qy3 a b))):=by
  refine dd Tryz.func223 ?_
  have e:Qy3 a b = if a.pg ≠ b.pg then decide (a.pg < b.pg) else if a.sl ≠ b.sl then decide (a.sl < b.sl) else decide (a.tx < b.tx):=rfl
  generalize Qy3 a b = r at *
  (unfold Tryz.f223; refine rn trivial ?_)
  refine rn F ?_
  repeat' (first
    | with_reducible exact ⟨⟩
    | (refine sB F ?_ ?_<;>intro hZ))
  all_goals first | (first | (rw [e]; simp (disch:=first | assumption | omega | exact rfl | exact nf (by assumption) | exact nt (by assumption) | decide | fail) only [if_pos,if_neg]; first | done | rfl) | (rw [e]; simp (disch:=first | assumption | omega | exact rfl | exact nf (by assumption) | exact nt (by assumption) | decide | (simp_all; done) | fail) only [if_pos,if_neg]; first | done | rfl)) | skip
theorem QfO (a b:Gr):VCalls prog 202 [.agg a.d,.agg b.d] [] (Ret (.bool (QCb a b))):=by
  refine dd Tryz.func202 ?_
  (unfold Tryz.f202; refine rn trivial ?_)
  have F:=@Qg8
  refine rn F ?_
  repeat' (first
    | with_reducible exact ⟨⟩
    | (refine sG F ?_ ?_<;>intro hZ))
  all_goals (unfold QCb; simp_all [Bool.beq_eq_decide_eq])
def QAA (tx pg sl:Int) (g:Gr):Bool:=decide (g.tx = tx) && (decide (g.pg = pg) && decide (g.sl = sl))
def QAy (l:List Gr) (tx pg sl:Int):Int:=match l.find? (QAA tx pg sl) with | some g=>g.md | none=>0
theorem QlO (t:Lk) (hs:t.held.length<=1000000) (tx pg sl:Int):VCalls prog 224 [.agg t.d,.int .i64 tx,.agg [.int .i64 pg,.int .i64 sl]] [] (Ret (.int .i64 (QAy t.held tx pg sl))):=by
  refine dd Tryz.func224 ?_
  obtain ⟨l,w⟩:=t
  dsimp only at hs |-
  (unfold Tryz.f224; refine rn trivial ?_)
  refine Qg (fun s:Pass l (fun x=>QAA tx pg sl x = true)=>⟨39,0,[(7,.int .i64 s.i),(5,.ptr 1 0),(3,.ptr 0 0),(1,.int .i64 tx)],[⟨34,true,[.pv (.sl (fz Qao l)),.pv (.sl (fz Qao w))]⟩,⟨197,true,[.int .i64 pg,.int .i64 sl]⟩]⟩) (fun s=>l.length - s.i) (Pass.start l _) (gc [0,1]) ?_
  intro s
  have hsi:=s.hi
  have hg:=fun h:s.i < l.length=>Qaw l s.i h
  have hkey:s.i < l.length->QAA tx pg sl (l.getD s.i Gr0) = QAA tx pg sl (l[s.i]?.getD Gr0):=fun _=>by rw [List.getD_eq_getElem?_getD]
  have hk0:QAA tx pg sl (l.getD s.i Gr0) = (decide ((l.getD s.i Gr0).tx = tx) && (decide ((l.getD s.i Gr0).pg = pg) && decide ((l.getD s.i Gr0).sl = sl))):=rfl
  have F:=(And.intro @hg @Qg8)
  refine rn F ?_
  repeat' (first
    | with_reducible exact ⟨⟩
    | (refine sG F ?_ ?_<;>intro hZ)
    | (refine sB F ?_ ?_<;>intro hZ)
    | (refine Qb (id:=4) [0,1,2,3,4,5,6,7,8,9,10,11,12,13,14,15,16,17] [] (by kernel_rfl) (by kernel_rfl) ?_; refine rn F ?_))
  all_goals first
    | (have h:=s.all (by omega)
       rw [QAy,List.find?_eq_none.2 h])
    | (have hlt:s.i < l.length:=by omega
       have hk:QAA tx pg sl l[s.i] = true:=by rw [<- Qk l s.i hlt Gr0,hk0]; simp_all
       rw [Qk l s.i hlt,QAy,List.find?_eq_some_iff_getElem.2 ⟨hk,s.i,hlt,rfl,fun j hj=>by simpa using s.no l[j] (List.mem_take_iff_getElem.2 ⟨j,by omega,rfl⟩)⟩])
    | (have hlt:s.i < l.length:=by omega
       exact ⟨s.next hlt (by rw [<- Qk l s.i hlt Gr0,hk0]; simp_all),by show l.length - (s.i + 1) < l.length - s.i; omega,(gc [0,1])⟩)
    | skip
theorem QiN (l:List Gr) (hl:l.length<=100000) (tx:Int) (one:Bool) (pg sl:Int):VCalls prog 186 [.pv (.sl (fz Qao l)),.int .i64 tx,.bool one,.agg [.int .i64 pg,.int .i64 sl]] [] (QC (fun m:List Gr=>.pv (.sl (fz Qao m))) fun m=>m.length<=l.length):=by
  refine dd Tryz.func186 ?_
  (unfold Tryz.f186; refine rn trivial ?_)
  refine VLoop.nilOwn 9 222 4 rfl ?_
  refine rn trivial ?_
  refine Qg (fun s:{s:Nat × List Gr // s.1<=l.length/\s.2.length<=s.1}=>⟨44,0,[(10,.int .i64 s.1.1),(9,.own 1 4 0 s.1.2.length),(7,.ptr 0 0),(2,.bool one),(1,.int .i64 tx),(0,.pv (.sl (fz Qao l)))],[⟨197,true,[.int .i64 pg,.int .i64 sl]⟩,⟨222,true,cells Qao s.1.2⟩]⟩) (fun s=>l.length - s.1.1) ⟨(0,[]),by simp⟩ (gc [0,1]) ?_
  rintro ⟨⟨i,out⟩,hi,ho⟩
  dsimp only at hi ho |-
  have hg:=fun h:i < l.length=>Qaw l i h
  have hb:(out.length + 1) * 32<=140737488355328:=by omega
  have F:=(And.intro @hg (And.intro @hb @Qg8))
  refine rn F ?_
  repeat' (first
    | with_reducible exact ⟨⟩
    | (refine sG F ?_ ?_<;>intro hZ)
    | (refine sB F ?_ ?_<;>intro hZ)
    | (refine Qb (id:=5) [0,1,2,3,4,5,6,7,8,9,10,11,12,13,14,15,16,17,18] [] (by kernel_rfl) (by kernel_rfl) ?_; refine rn F ?_))
  all_goals first
    | exact ⟨rfl,rfl,out,rfl,by omega⟩
    | exact ⟨⟨(i + 1,out),by dsimp only; omega,by dsimp only; omega⟩,by dsimp only; omega,(gc [0,1])⟩
    | exact ⟨⟨(i + 1,out ++ [⟨(l.getD i Gr0).tx,(l.getD i Gr0).pg,(l.getD i Gr0).sl,(l.getD i Gr0).md⟩]),by dsimp only; omega,by simp; omega⟩,by dsimp only; omega,by dsimp only; rw [List.length_append]; exact (gc [0,3])⟩
    | skip
theorem QyL (t:Lk) (hs:t.held.length<=100000/\t.wait.length<=100000) (i:Nat) (hi:i < t.wait.length):VCalls prog 232 [.agg t.d,.int .i64 i] [] (QC (fun b:Bool=>.bool b) fun _=>True):=by
  refine dd Tryz.func232 ?_
  obtain ⟨l,w⟩:=t
  dsimp only at hs hi |-
  have hw:=Qaw w i hi
  have c:=fun a=>QfO a (w.getD i Gr0)
  (unfold Tryz.f232; refine rn trivial ?_)
  refine Qg (fun s:To l.length=>⟨41,0,[(5,.int .i64 s.i),(2,.ptr 0 0),(1,.int .i64 i)],[⟨34,true,[.pv (.sl (fz Qao l)),.pv (.sl (fz Qao w))]⟩]⟩) (fun s=>l.length - s.i) ⟨0,Nat.zero_le _⟩ (gc [0]) ?_
  intro s
  have hsi:=s.hi
  have hg:=fun h:s.i < l.length=>Qaw l s.i h
  have c1:=c (l.getD s.i Gr0)
  have F:=(And.intro @hg @hw)
  refine rn F ?_
  repeat' (first
    | with_reducible exact ⟨⟩
    | (refine sB F ?_ ?_<;>intro hZ)
    | refine vp F (c1) ?_
    | (refine Qb (id:=4) [0,1,2,3,4,5,6,7,8,9] [⟨[],[],10,[0,1,2,3,5,6,7,8],[]⟩] (by kernel_rfl) (by kernel_rfl) ?_; refine rn F ?_))
  all_goals first
    | exact ⟨rfl,rfl,_,rfl,trivial⟩
    | exact ⟨⟨s.i + 1,by omega⟩,by dsimp only; omega,(gc [0])⟩
    | skip
  refine Qg (fun s:To i=>⟨41,0,[(6,.int .i64 s.i),(2,.ptr 0 0),(1,.int .i64 i)],[⟨34,true,[.pv (.sl (fz Qao l)),.pv (.sl (fz Qao w))]⟩]⟩) (fun s=>i - s.i) ⟨0,Nat.zero_le _⟩ (gc [0]) ?_
  intro s
  have hsi:=s.hi
  have hg:=fun h:s.i < w.length=>Qaw w s.i h
  have c1:=c (w.getD s.i Gr0)
  have F:=(And.intro @hg @hw)
  refine rn F ?_
  repeat' (first
    | with_reducible exact ⟨⟩
    | (refine sB F ?_ ?_<;>intro hZ)
    | refine vp F (c1) ?_
    | (refine Qb (id:=9) [0,1,2,3,4,5,6,7,8,9] [⟨[],[],10,[0,1,2,3,5,6,7,8],[]⟩] (by kernel_rfl) (by kernel_rfl) ?_; refine rn F ?_))
  all_goals first
    | exact ⟨rfl,rfl,_,rfl,trivial⟩
    | exact ⟨⟨s.i + 1,by omega⟩,by dsimp only; omega,(gc [0])⟩
    | skip
theorem Qyz (l:List Gr) (hl:l.length<=100000) (g:Gr):VCalls prog 233 [.pv (.sl (fz Qao l)),.agg g.d] [] (QC (fun m:List Gr=>.pv (.sl (fz Qao m))) fun m=>m.length<=l.length + 1):=by
  refine dd Tryz.func233 ?_
  (unfold Tryz.f233; refine rn trivial ?_)
  refine VLoop.nilOwn 5 222 4 rfl ?_
  refine rn trivial ?_
  refine Qg (fun s:{s:Nat × List Gr × Bool // s.1<=l.length/\s.2.1.length<=s.1 + 1/\(s.2.2 = false->s.2.1.length<=s.1)}=>⟨61,0,[(7,.int .i64 s.1.1),(6,.bool s.1.2.2),(5,.own 1 4 0 s.1.2.1.length),(3,.ptr 0 0),(0,.pv (.sl (fz Qao l)))],[⟨222,true,g.d⟩,⟨222,true,cells Qao s.1.2.1⟩]⟩) (fun s=>l.length - s.1.1) ⟨(0,[],false),by simp⟩ (gc [0,1]) ?_
  rintro ⟨⟨i,out,dn⟩,hi,ho,hd⟩
  dsimp only at hi ho hd |-
  have hg:=fun h:i < l.length=>Qaw l i h
  have c:=QmW (l.getD i Gr0) g
  have hb:(out.length + 1) * 32<=140737488355328:=by omega
  have hb2:(out.length + 1 + 1) * 32<=140737488355328:=Nat.le_trans (Nat.mul_le_mul_right 32 (show out.length + 1 + 1<=100003 by omega)) (by decide)
  cases dn
  all_goals
    simp only [forall_const,reduceCtorEq,false_implies] at hd
    have F:=(And.intro @hg (And.intro @hb (And.intro @hb2 @Qg8)))
    refine rn F ?_
    repeat' (first
      | with_reducible exact ⟨⟩
      | (refine sG F ?_ ?_<;>intro hZ)
      | (refine sB F ?_ ?_<;>intro hZ)
      | refine vp F (c) ?_
      | (refine Qb (id:=6) [0,1,2,3,4,5,6,7] [⟨[],[],8,[0,1,3,4,5],[9,10]⟩] (by kernel_rfl) (by kernel_rfl) ?_; refine rn F ?_)
      | (refine Qb (id:=9) [0,1,2,3,4,5,6,7,8,9,10,11,12,13,14,15,16,17] [] (by kernel_rfl) (by kernel_rfl) ?_; refine rn F ?_))
  all_goals first
    | exact ⟨rfl,rfl,out,rfl,by omega⟩
    | exact ⟨rfl,rfl,out ++ [g],rfl,by simp; omega⟩
    | exact ⟨⟨(i + 1,out,false),by dsimp only; omega,by dsimp only; (try rw [List.length_nil]); omega,by dsimp only; (try rw [List.length_nil]); first | omega | (intro h; omega) | (intro h; cases h)⟩,by dsimp only; omega,by dsimp only; (try rw [List.length_nil]); exact (gc [0,1])⟩
    | exact ⟨⟨(i + 1,out ++ [⟨(l.getD i Gr0).tx,(l.getD i Gr0).pg,(l.getD i Gr0).sl,(l.getD i Gr0).md⟩],false),by dsimp only; omega,by dsimp only; (try rw [List.length_append,List.length_cons,List.length_nil]); omega,by dsimp only; (try rw [List.length_append,List.length_cons,List.length_nil]); first | omega | (intro h; omega) | (intro h; cases h)⟩,by dsimp only; omega,by dsimp only; (try rw [List.length_append,List.length_cons,List.length_nil]); exact (gc [0,3])⟩
    | exact ⟨⟨(i + 1,out,true),by dsimp only; omega,by dsimp only; (try rw [List.length_nil]); omega,by dsimp only; (try rw [List.length_nil]); first | omega | (intro h; omega) | (intro h; cases h)⟩,by dsimp only; omega,by dsimp only; (try rw [List.length_nil]); exact (gc [0,1])⟩
    | exact ⟨⟨(i + 1,out ++ [⟨(l.getD i Gr0).tx,(l.getD i Gr0).pg,(l.getD i Gr0).sl,(l.getD i Gr0).md⟩],true),by dsimp only; omega,by dsimp only; (try rw [List.length_append,List.length_cons,List.length_nil]); omega,by dsimp only; (try rw [List.length_append,List.length_cons,List.length_nil]); first | omega | (intro h; omega) | (intro h; cases h)⟩,by dsimp only; omega,by dsimp only; (try rw [List.length_append,List.length_cons,List.length_nil]); exact (gc [0,3])⟩
    | exact ⟨⟨(i + 1,out ++ [g],true),by dsimp only; omega,by dsimp only; (try rw [List.length_append,List.length_cons,List.length_nil]); omega,by dsimp only; (try rw [List.length_append,List.length_cons,List.length_nil]); first | omega | (intro h; omega) | (intro h; cases h)⟩,by dsimp only; omega,by dsimp only; (try rw [List.length_append,List.length_cons,List.length_nil]); exact (gc [0,3])⟩
    | exact ⟨⟨(i + 1,out ++ [g] ++ [⟨(l.getD i Gr0).tx,(l.getD i Gr0).pg,(l.getD i Gr0).sl,(l.getD i Gr0).md⟩],true),by dsimp only; omega,by dsimp only; (try rw [List.length_append,List.length_append,List.length_cons,List.length_nil,List.length_cons,List.length_nil]); omega,by dsimp only; (try rw [List.length_append,List.length_append,List.length_cons,List.length_nil,List.length_cons,List.length_nil]); first | omega | (intro h; omega) | (intro h; cases h)⟩,by dsimp only; omega,by dsimp only; (try rw [List.length_append,List.length_append,List.length_cons,List.length_nil,List.length_cons,List.length_nil]); exact (gc [0,5])⟩
    | skip
section
attribute [local go_sem] Qbc
def Lk.sum (t:Lk):Nat:=t.held.length + t.wait.length
theorem Qd7 (t:Lk) (hs:t.sum<=5000):VCalls prog 185 [.agg t.d] [] (QC (fun u:Lk=>.agg u.d) fun u=>u.sum<=t.sum):=by
  refine dk Tryz.func185 ?_
  (unfold Tryz.f185; refine rn trivial ?_)
  refine QAK (fun s:{s:Lk × Nat // s.2<=s.1.wait.length/\s.1.sum<=t.sum}=>⟨36,0,[(3,.int .i64 s.1.2),(2,.ptr 1 0),(1,.ptr 0 0)],[⟨34,true,s.1.1.d⟩,⟨34,true,[.pv (.slc []),.pv (.slc [])]⟩]⟩) (fun s=>s.1.1.wait.length * 5001 + (s.1.1.wait.length - s.1.2)) ⟨(t,0),Nat.zero_le _,Nat.le_refl _⟩ (.inl (by exact (gc [0,1]))) ?_
  rintro ⟨⟨⟨l,w⟩,i⟩,hi,hsum⟩
  unfold Lk.sum at *
  dsimp only at hi hsum |-
  have hgx:=fun h:i < w.length=>Qaw w i h
  have c1:=fun h:i < w.length=>QyL ⟨l,w⟩ ⟨by dsimp only; omega,by dsimp only; omega⟩ i h
  have c2:=Qyz l (by omega)
  have hb:(i + (w.length - (i + 1))) * 32<=140737488355328:=by omega
  have hb1:i * 32<=140737488355328:=by omega
  have hmin:i < w.length->min i w.length = i:=fun h=>by omega
  have F:=(And.intro @hgx (And.intro @hb (And.intro @hb1 @hmin)))
  refine rn F ?_
  repeat' (first
    | with_reducible exact ⟨⟩
    | (refine sB F ?_ ?_<;>intro hZ)
    | (refine Qj (c1 (by omega)) rfl ?_; rintro b -; refine rn F ?_)
    | (refine Qj (c2 ⟨_,_,_,_⟩) rfl ?_; rintro m hm; refine rn F ?_)
    | (refine Qb (id:=5) [0,1,2,3,4,5,6] [⟨[],[],7,[0,2,3,4,5],[8]⟩,⟨[],[],9,[],[]⟩] (by kernel_rfl) (by kernel_rfl) ?_; refine rn F ?_)
    | (refine Qb (id:=6) [0,1,2,3,5,6,7,8,9] [⟨[],[],4,[0,1,2,5,6,7,8,9],[]⟩,⟨[],[],10,[0,1,2,3,5,6,7,8],[11]⟩,⟨[],[],12,[],[]⟩] (by kernel_rfl) (by kernel_rfl) ?_; refine rn F ?_))
  · have hl:(w.take i ++ w.drop (i + 1)).length = i + (w.length - (i + 1)):=by rw [List.length_append,List.length_take,List.length_drop]; omega
    refine ⟨⟨(⟨m,w.take i ++ w.drop (i + 1)⟩,0),Nat.zero_le _,by dsimp only; rw [hl]; omega⟩,by dsimp only; rw [hl]; omega,?_⟩
    dsimp only
    generalize w.take i ++ w.drop (i + 1) = L at *
    generalize i + (w.length - (i + 1)) = n at *
    refine .inr ⟨2,⟨36,0,[(3,.int .i64 0),(2,.ptr 1 0),(1,.ptr 0 0)],[⟨34,true,[.pv (.sl (fz Qao m)),.own 2 4 0 n]⟩,⟨34,true,[.pv (.slc []),.pv (.slc [])]⟩,⟨222,true,cells Qao L⟩]⟩,(gc [0,1,3]),⟨rfl,rfl,Nat.zero_le _,by simp,?_,⟨rfl,rfl,rfl,trivial⟩⟩⟩
    (refine rn @hl ?_; try with_reducible exact ⟨⟩)
  · exact ⟨⟨(⟨l,w⟩,i + 1),by dsimp only; omega,by dsimp only; omega⟩,by dsimp only; omega,.inl (gc [0,1])⟩
  · exact ⟨rfl,rfl,⟨l,w⟩,rfl,hsum⟩
theorem QuE (t:Lk) (hs:t.sum<=5000) (g:Gr):VCalls prog 240 [.agg t.d,.agg g.d] [] (QC (fun n:Nat=>.int .i64 n) fun n=>n<=t.wait.length):=by
  refine dd Tryz.func240 ?_
  unfold Lk.sum at hs
  have c1:=QlO t (by omega)
  obtain ⟨l,w⟩:=t
  dsimp only at hs c1 |-
  generalize hm:QAy l = M at *
  (unfold Tryz.f240; refine rn trivial ?_)
  refine rn F ?_
  repeat' (first
    | with_reducible exact ⟨⟩
    | (refine sB F ?_ ?_<;>intro hZ)
    | refine vp F (c1 _ _ _) ?_)
  · exact ⟨rfl,rfl,w.length,rfl,Nat.le_refl _⟩
  refine Qg (fun s:To w.length=>⟨47,0,[(5,.int .i64 s.i),(3,.ptr 1 0),(2,.ptr 0 0)],[⟨34,true,[.pv (.sl (fz Qao l)),.pv (.sl (fz Qao w))]⟩,⟨222,true,g.d⟩]⟩) (fun s=>w.length - s.i) ⟨0,Nat.zero_le _⟩ (gc [0,1]) ?_
  intro s
  have hsi:=s.hi
  have hg:=fun h:s.i < w.length=>Qaw w s.i h
  have F:=(And.intro @hg @Qg8)
  refine rn F ?_
  repeat' (first
    | with_reducible exact ⟨⟩
    | (refine sG F ?_ ?_<;>intro hZ)
    | (refine sB F ?_ ?_<;>intro hZ)
    | refine vp F (c1 _ _ _) ?_)
  all_goals first
    | exact ⟨rfl,rfl,s.i,rfl,by omega⟩
    | exact ⟨⟨s.i + 1,by omega⟩,by dsimp only; omega,(gc [0,1])⟩
    | exact ⟨rfl,rfl,w.length,rfl,Nat.le_refl _⟩
    | skip
end
theorem QaU (t:Lk) (hs:t.sum<=100000):VCalls prog 177 [.agg t.d] [] (QC (fun b:Bool=>.bool b) fun b=>b = true->t.sum<=1024):=by
  refine dd Tryz.func177 ?_
  unfold Lk.sum at *
  have cm:=QlO t (by omega)
  obtain ⟨l,w⟩:=t
  dsimp only at hs cm |-
  generalize hM:QAy l = M at *
  (unfold Tryz.f177; refine rn trivial ?_)
  refine rn F ?_
  repeat' (first
    | with_reducible exact ⟨⟩
    | (refine sB F ?_ ?_<;>intro hZ))
  · exact ⟨rfl,rfl,false,rfl,fun h=>by cases h⟩
  refine Qg (fun s:To l.length=>⟨121,0,[(3,.int .i64 s.i),(1,.ptr 0 0)],[⟨34,true,[.pv (.sl (fz Qao l)),.pv (.sl (fz Qao w))]⟩]⟩) (fun s=>l.length - s.i) ⟨0,Nat.zero_le _⟩ (gc [0]) ?_
  rintro ⟨i,hi⟩
  dsimp only
  have hg:=fun h:i < l.length=>Qaw l i h
  have hgp:=fun h:i - 1 < l.length=>Qaw l (i - 1) h
  have c1:=Qq6 (l.getD i Gr0)
  have c2:=QmW (l.getD (i - 1) Gr0) (l.getD i Gr0)
  have c3:=fun a=>QfO a (l.getD i Gr0)
  have F:=(And.intro @hg @hgp)
  refine rn F ?_
  repeat' (first
    | with_reducible exact ⟨⟩
    | (refine sG F ?_ ?_<;>intro hZ)
    | (refine sB F ?_ ?_<;>intro hZ)
    | refine vp F (c1) ?_
    | refine vp F (c2) ?_
    | (refine QbE (id:=6) [[],[0],[],[0,1,2],[0,1,2,3],[0,1,2,3,4],[0,1,2,3,4,5],[0,1,2,3,4,5,6],[0,1,2,3,4,5,6,7],[0,1,2,3,4,5,6,7,8],[0,1,2,3,4,5,6,7,8,9],[0,1,2,3,4,5,6,7,8,9,10],[0,1,2,3,4,5,6,7,8,9,10,11],[0,1,2,3,4,5,6,7,8,9,10],[0,1,2,3,4,5,6,7,8,9,10,13],[0,1,2,3,4,5,6,7,8,9,10,11,12,13,14],[0,1,2,3,4,5,6,7,8,9,10,11,12,13,14,15],[0,1,2,3,4,5,6,7,8,9,10],[0,1,2,3,4,5,6,7,8,9,10,17],[0,1,2,3,4,5,6,7,8,9,10],[0,1,2,3,4,5,6,7,8,9,10,17,18,19],[0,1,2,3,4,5,6,7,8,9,10,17,18,19,20],[0,1,2,3,4,5,6,7,8,9,10,11,12,13,14,15,16,17,18,19,20,21],[0,1,2,3,4,5,6,7,8,9,10,11,12,13,14,15,16,17,18,19,20,21,22],[0,1,2,3,4,5,6,7,8,9,10,11,12,13,14,15,16,17,18,19,20,21,22,23],[0,1,2,3,4,5,6,7,8,9,10,11,12,13,14,15,16,17,18,19,20,21,22,23,24]] [0,1,2,3,4] [⟨[],[],5,[],[6,7,8,9,10,11,12,13,14,15,16,17,18,19,20,21]⟩,⟨[],[],22,[],[23,24,25]⟩] (by kernel_rfl) (by kernel_rfl) (by kernel_rfl) ?_; refine rn F ?_))
  all_goals first
    | exact ⟨rfl,rfl,false,rfl,fun h=>by cases h⟩
    | skip
  rotate_left 2
  · refine Qg (fun s:To w.length=>⟨121,0,[(5,.int .i64 s.i),(1,.ptr 0 0)],[⟨34,true,[.pv (.sl (fz Qao l)),.pv (.sl (fz Qao w))]⟩]⟩) (fun s=>w.length - s.i) ⟨0,Nat.zero_le _⟩ (gc [0]) ?_
    rintro ⟨j,hj⟩
    dsimp only
    have hw:=fun h:j < w.length=>Qaw w j h
    have d1:=Qq6 (w.getD j Gr0)
    have F:=(And.intro @hw @Qg8)
    refine rn F ?_
    repeat' (first
      | with_reducible exact ⟨⟩
      | (refine sG F ?_ ?_<;>intro hZ)
      | (refine sB F ?_ ?_<;>intro hZ)
      | refine vp F (d1) ?_
      | refine vp F (cm _ _ _) ?_
      | (refine QbE (id:=17) [[],[0],[0,1],[0,1,2],[0,1,2,3],[0,1,2,3],[0,1,2,3,5],[0,1,2,3],[0,1,2,3,7],[0,1,2,3,4,5,6,7,8],[0,1,2,3],[0,1,2,3,10],[0,1,2,3,4,5,6,7,8,9,10,11],[0,1,2,3,4,5,6,7,8,9,10,11,12]] [0] [⟨[],[],1,[],[2,3,4,5,6,7,8,10,11]⟩,⟨[],[],9,[10,11],[12,13]⟩] (by kernel_rfl) (by kernel_rfl) (by kernel_rfl) ?_; refine rn F ?_))
    all_goals first
      | exact ⟨rfl,rfl,false,rfl,fun h=>by cases h⟩
      | exact ⟨rfl,rfl,true,rfl,fun _=>by omega⟩
      | skip
    all_goals
      refine Qg (fun s:To j=>⟨121,0,[(7,.int .i64 s.i),(6,.ptr 1 0),(5,.int .i64 j),(1,.ptr 0 0)],[⟨34,true,[.pv (.sl (fz Qao l)),.pv (.sl (fz Qao w))]⟩,⟨222,true,Gr.d ⟨(w.getD j Gr0).tx,(w.getD j Gr0).pg,(w.getD j Gr0).sl,(w.getD j Gr0).md⟩⟩]⟩) (fun s=>j - s.i) ⟨0,Nat.zero_le _⟩ (gc [0,1]) ?_
      rintro ⟨k,hk⟩
      dsimp only
      have hx:=fun h:k < w.length=>Qaw w k h
      have F:=@hx
      refine rn F ?_
      repeat' (first
        | with_reducible exact ⟨⟩
        | (refine sB F ?_ ?_<;>intro hZ)
        | (refine Qb (id:=22) [0,1,2,3,4,5,6,7,8] [] (by kernel_rfl) (by kernel_rfl) ?_; refine rn F ?_))
    all_goals first
      | exact ⟨rfl,rfl,false,rfl,fun h=>by cases h⟩
      | exact ⟨⟨k + 1,by omega⟩,by dsimp only; omega,(gc [0,1])⟩
      | exact ⟨⟨j + 1,by omega⟩,by dsimp only; omega,(gc [0])⟩
      | skip
  all_goals
    refine Qg (fun s:To i=>⟨121,0,[(4,.int .i64 ((s.i:Int) - 1)),(3,.int .i64 i),(1,.ptr 0 0)],[⟨34,true,[.pv (.sl (fz Qao l)),.pv (.sl (fz Qao w))]⟩]⟩) (fun s=>s.i) ⟨i,Nat.le_refl _⟩ (gc [0]) ?_
    rintro ⟨r,hr⟩
    dsimp only
    have hx:=fun h:r - 1 < l.length=>Qaw l (r - 1) h
    have c4:=c3 (l.getD (r - 1) Gr0)
    have F:=(And.intro @hg (And.intro @hx @Qg8))
    refine rn F ?_
    repeat' (first
      | with_reducible exact ⟨⟩
      | (refine sG F ?_ ?_<;>intro hZ)
      | (refine sB F ?_ ?_<;>intro hZ)
      | refine vp F (c4) ?_
      | (refine Qb (id:=9) [0,1,2,3,4,5,6,7,8,9,10,11,12,13,14,15,16] [] (by kernel_rfl) (by kernel_rfl) ?_; refine rn F ?_)
      | (refine Qb (id:=11) [0,1,2,3,4,5,6,7,8,9] [⟨[],[],10,[0,1,2,3,5,6,7,8],[]⟩] (by kernel_rfl) (by kernel_rfl) ?_; refine rn F ?_))
  all_goals first
    | exact ⟨rfl,rfl,false,rfl,fun h=>by cases h⟩
    | exact ⟨⟨i + 1,by omega⟩,by dsimp only; omega,(gc [0])⟩
    | (refine ⟨⟨r - 1,by omega⟩,by dsimp only; omega,?_⟩
       dsimp only
       rw [show ((r - 1:Nat):Int) - 1 = (r:Int) - 1 - 1 by omega]
       exact (gc [0]))
    | skip
theorem Qc6 (t:Lk) (hs:t.sum<=5000) (tx:Int):VCalls prog 151 [.agg t.d,.int .i64 tx] [] (QC (fun a:Gr × Bool=>.tup [.agg a.1.d,.bool a.2]) fun _=>True):=by
  refine dd Tryz.func151 ?_
  have c1:=QaU t (by omega)
  unfold Lk.sum at *
  obtain ⟨l,w⟩:=t
  dsimp only at hs c1 |-
  (unfold Tryz.f151; refine rn trivial ?_)
  refine rn F ?_
  repeat' (first
    | with_reducible exact ⟨⟩
    | (refine sB F ?_ ?_<;>intro hZ)
    | (refine Qj (c1) rfl ?_; rintro b hb; refine rn F ?_))
  all_goals first
    | exact ⟨rfl,rfl,(Gr0,false),rfl,trivial⟩
    | skip
  refine Qg (fun s:To w.length=>⟨30,0,[(6,.int .i64 s.i),(4,.ptr 1 0),(2,.ptr 0 0),(1,.int .i64 tx)],[⟨34,true,[.pv (.sl (fz Qao l)),.pv (.sl (fz Qao w))]⟩,⟨222,true,[.int .i64 0,.int .i64 0,.int .i64 0,.int .i64 0]⟩]⟩) (fun s=>w.length - s.i) ⟨0,Nat.zero_le _⟩ (gc [0,1]) ?_
  rintro ⟨i,hi⟩
  dsimp only
  have hg:=fun h:i < w.length=>Qaw w i h
  have F:=@hg
  refine rn F ?_
  repeat' (first
    | with_reducible exact ⟨⟩
    | (refine sB F ?_ ?_<;>intro hZ))
  all_goals first
    | exact ⟨⟨i + 1,by omega⟩,by dsimp only; omega,(gc [0,1])⟩
    | exact ⟨rfl,rfl,(Gr0,false),rfl,trivial⟩
    | exact ⟨rfl,rfl,(w.getD i Gr0,true),rfl,trivial⟩
    | skip
theorem Qc8 (t:Lk) (hs:t.sum<=5000) (tx:Int):VCalls prog 143 [.agg t.d,.int .i64 tx] [] (QC (fun u:Lk=>.agg u.d) fun u=>u.sum<=t.sum):=by
  refine dd Tryz.func143 ?_
  have c1:=QaU t (by omega)
  have c4:=Qd7
  unfold Lk.sum at *
  obtain ⟨l,w⟩:=t
  dsimp only at hs c1 |-
  have c2:=fun a=>QiN l (by omega) a
  have c3:=fun a=>QiN w (by omega) a
  (unfold Tryz.f143; refine rn trivial ?_)
  refine rn F ?_
  repeat' (first
    | with_reducible exact ⟨⟩
    | (refine sB F ?_ ?_<;>intro hZ)
    | (refine Qj (c1) rfl ?_; rintro b hb; refine rn F ?_)
    | (refine Qj (c2 _ _ _ _) rfl ?_; rintro m1 hm1; refine rn F ?_)
    | (refine Qj (c3 _ _ _ _) rfl ?_; rintro m2 hm2; refine rn F ?_)
    | (refine Qj (c4 ⟨_,_⟩ (by dsimp only; omega)) rfl ?_; rintro u hu; refine rn F ?_)
    | (refine Qb (id:=3) [0,1,2,3,5,6,7,8] [⟨[],[],4,[0,5,6,7,8],[]⟩,⟨[],[],9,[0,1,2,3,5],[10]⟩,⟨[],[],11,[0,1,2,3,5,6,7,8],[]⟩,⟨[],[],12,[],[]⟩] (by kernel_rfl) (by kernel_rfl) ?_; refine rn F ?_))
  all_goals first
    | exact ⟨rfl,rfl,⟨l,w⟩,rfl,Nat.le_refl _⟩
    | (exact ⟨rfl,rfl,u,rfl,by dsimp only at hu; omega⟩)
    | skip
theorem Qro (t:Lk) (hs:t.sum<=5000) (tx:Int):VCalls prog 237 [.agg t.d,.int .i64 tx] [] (QC (fun u:Lk=>.agg u.d) fun u=>u.sum<=t.sum):=by
  refine dd Tryz.func237 ?_
  have c1:=QaU t (by omega)
  have c4:=Qd7
  unfold Lk.sum at *
  obtain ⟨l,w⟩:=t
  dsimp only at hs c1 |-
  have c3:=fun a=>QiN w (by omega) a
  (unfold Tryz.f237; refine rn trivial ?_)
  refine rn F ?_
  repeat' (first
    | with_reducible exact ⟨⟩
    | (refine sB F ?_ ?_<;>intro hZ)
    | (refine Qj (c1) rfl ?_; rintro b hb; refine rn F ?_)
    | (refine Qj (c3 _ _ _ _) rfl ?_; rintro m2 hm2; refine rn F ?_)
    | (refine Qj (c4 ⟨_,_⟩ (by dsimp only; omega)) rfl ?_; rintro u hu; refine rn F ?_)
    | (refine Qb (id:=3) [0,1,2,3,4,5] [⟨[],[],6,[0,1,2],[7]⟩,⟨[],[],8,[0,1,2,3,4,5],[]⟩,⟨[],[],9,[],[]⟩] (by kernel_rfl) (by kernel_rfl) ?_; refine rn F ?_))
  all_goals first
    | exact ⟨rfl,rfl,⟨l,w⟩,rfl,Nat.le_refl _⟩
    | (exact ⟨rfl,rfl,u,rfl,by dsimp only at hu; omega⟩)
    | skip
theorem Qri (t:Lk) (hs:t.sum<=5000) (tx pg sl:Int):VCalls prog 190 [.agg t.d,.int .i64 tx,.agg [.int .i64 pg,.int .i64 sl]] [] (QC (fun u:Lk=>.agg u.d) fun u=>u.sum<=t.sum):=by
  refine dd Tryz.func190 ?_
  have c1:=QaU t (by omega)
  have c4:=Qd7
  unfold Lk.sum at *
  obtain ⟨l,w⟩:=t
  dsimp only at hs c1 |-
  have c2:=fun a=>QiN l (by omega) a
  (unfold Tryz.f190; refine rn trivial ?_)
  refine rn F ?_
  repeat' (first
    | with_reducible exact ⟨⟩
    | (refine sB F ?_ ?_<;>intro hZ)
    | (refine Qj (c1) rfl ?_; rintro b hb; refine rn F ?_)
    | (refine Qj (c2 _ _ _ _) rfl ?_; rintro m1 hm1; refine rn F ?_)
    | (refine Qj (c4 ⟨_,_⟩ (by dsimp only; omega)) rfl ?_; rintro u hu; refine rn F ?_)
    | (refine Qb (id:=3) [0,1,2,3,5,6] [⟨[],[],4,[0,5,6],[7]⟩,⟨[],[],8,[0,1,2,3,5,6],[]⟩,⟨[],[],9,[],[]⟩] (by kernel_rfl) (by kernel_rfl) ?_; refine rn F ?_))
  all_goals first
    | exact ⟨rfl,rfl,⟨l,w⟩,rfl,Nat.le_refl _⟩
    | (exact ⟨rfl,rfl,u,rfl,by dsimp only at hu; omega⟩)
    | skip
def QDQ (a:Lk × Bool × Int):DV:=.tup [.agg a.1.d,.bool a.2.1,.int .i64 a.2.2]
def Lk0:Lk:=⟨[],[]⟩
theorem Qtp (a b c d a' b' c' d':Int):QJ [.pv (.lit (.int .i64 a)),.pv (.lit (.int .i64 b)),.pv (.lit (.int .i64 c)),.pv (.lit (.int .i64 d))] [.pv (.lit (.int .i64 a')),.pv (.lit (.int .i64 b')),.pv (.lit (.int .i64 c')),.pv (.lit (.int .i64 d'))] [(0,1),(1,1),(2,1),(3,1)] = some (decide (a = a') && decide (b = b') && decide (c = c') && decide (d = d')):=by simp [QJ,Q3,Bool.beq_eq_decide_eq,Bool.and_assoc]
theorem Qoh (t:Lk) (hs:t.sum<=4000) (g:Gr):VCalls prog 198 [.agg t.d,.agg g.d] [] (QC QDQ fun a=>a.1.sum<=1024):=by
  refine dk Tryz.func198 ?_
  have c1:=QaU t (by omega)
  have c2:=Qq6 g
  have c3:=Qc6 t (by omega) g.tx
  have c4:=Qd7
  have c5:=QuE t (by omega) g
  have c6:=fun (u:Lk) (h:u.held.length<=1000000)=>QlO u h
  unfold Lk.sum at *
  obtain ⟨l,w⟩:=t
  dsimp only at hs c1 c5 |-
  generalize QAy = M at *
  (unfold Tryz.f198; refine rn trivial ?_)
  have F:=@Qtp
  refine rn F ?_
  repeat' (first
    | with_reducible exact ⟨⟩
    | (refine sG F ?_ ?_<;>intro hZ)
    | (refine sB F ?_ ?_<;>intro hZ)
    | (refine Qj (c1) rfl ?_; rintro b hb; refine rn F ?_)
    | refine vp F (c2) ?_
    | (refine Qj (c3) rfl ?_; rintro ⟨g0,b0⟩ -; refine rn F ?_)
    | (refine vp F (c6 ⟨_,_⟩ (by first | (dsimp only; omega) | (dsimp only at hu |-; simp only [List.length_append,List.length_take,List.length_drop,List.length_cons,List.length_nil] at hu; omega)) _ _ _) ?_)
    | (refine Qj (c5) rfl ?_; rintro n hn; refine rn F ?_)
    | (refine QiB [7] _ _ (c4 ⟨l,w.take n ++ [⟨g.tx,g.pg,g.sl,g.md⟩] ++ w.drop n⟩ (by dsimp only; simp only [List.length_append,List.length_take,List.length_drop,List.length_cons,List.length_nil]; omega)) rfl ⟨⟨by simp,Qq _ _ _⟩,trivial⟩ (by decide) rfl (by simp [DV.nums.go,DV.nums]) ?_ ?_; (focus (refine rd F)); rintro ⟨ul,uw⟩ hu; refine rn F ?_)
    | (refine Qb (id:=10) [0,1,2,3,4,6,7] [⟨[],[],5,[1,3,6,7],[8]⟩] (by kernel_rfl) (by kernel_rfl) ?_; refine rn F ?_)
    | (refine Qb (id:=15) [0,1,2,3,5,8,9,10,11] [⟨[6],[],4,[0,1,2,5,8,9,10,11],[]⟩,⟨[6],[6],7,[0,1,2,3,5,8,9,10,11],[]⟩,⟨[],[],12,[0,1,2,3,5,8,9,10],[13]⟩,⟨[],[],14,[],[]⟩] (by kernel_rfl) (by kernel_rfl) ?_; refine rn F ?_)
    | (refine Qb (id:=17) [0,1,2,3,4,5,7,8] [⟨[],[],6,[0,2,4,7,8],[9]⟩,⟨[],[],10,[1,2,3,4,5,7,8,9],[]⟩,⟨[],[],11,[],[]⟩,⟨[],[],12,[],[]⟩] (by kernel_rfl) (by kernel_rfl) ?_; refine rn F ?_))
  all_goals first
    | exact ⟨rfl,rfl,(⟨ul,uw⟩,_,_),rfl,by have:=hb (by first | assumption | rfl); dsimp only [List.length_append] at hu |-; simp only [List.length_append,List.length_take,List.length_drop,List.length_cons,List.length_nil] at hu; omega⟩
    | exact ⟨rfl,rfl,(Lk0,false,_),rfl,by simp [Lk0]⟩
    | exact ⟨rfl,rfl,(⟨l,w⟩,_,_),rfl,hb (by first | assumption | rfl)⟩
    | skip
end Go.Proofs.YtepcgifhpjapkaaGreat

