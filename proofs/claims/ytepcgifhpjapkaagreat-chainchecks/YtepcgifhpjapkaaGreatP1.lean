/-
  Contracts of functions and plain laws. No condition.
-/
import Derived.Test.YtepcgifhpjapkaaGreatProg
import Derived.Test.YtepcgifhpjapkaaGreatV3
import Derived.KernelRfl
set_option linter.unusedSimpArgs false
set_option linter.unusedVariables false
set_option maxRecDepth 100000
set_option maxHeartbeats 8000000
namespace Go.Proofs.YtepcgifhpjapkaaGreat
open Go.V Go
open Tryz (prog)
theorem F:True:=trivial
end Go.Proofs.YtepcgifhpjapkaaGreat
namespace Go.Proofs
open Go.V
theorem Tryz.vt3:vt prog 3 = some none:=by kernel_rfl
theorem Tryz.vkind3:Qac prog 3 = .int .i64:=by kernel_rfl
theorem Tryz.vzero3:QL prog 3 = some [.pv (.lit (.int .i64 0))]:=by kernel_rfl
theorem Tryz.bytes3:QaI prog 3 = some 8:=by kernel_rfl
theorem Tryz.vt4:vt prog 4 = some none:=by kernel_rfl
theorem Tryz.vt5:vt prog 5 = some none:=by kernel_rfl
theorem Tryz.vkind5:Qac prog 5 = .int .u8:=by kernel_rfl
theorem Tryz.vzero5:QL prog 5 = some [.pv (.lit (.int .u8 0))]:=by kernel_rfl
theorem Tryz.bytes5:QaI prog 5 = some 1:=by kernel_rfl
theorem Tryz.vt9:vt prog 9 = some none:=by kernel_rfl
theorem Tryz.vkind9:Qac prog 9 = .str:=by kernel_rfl
theorem Tryz.vzero9:QL prog 9 = some [.pv (.str [])]:=by kernel_rfl
theorem Tryz.bytes9:QaI prog 9 = some 16:=by kernel_rfl
theorem Tryz.vt22:vt prog 22 = some none:=by kernel_rfl
theorem Tryz.velem22:QD prog 22 = some (none,5,1):=by kernel_rfl
theorem Tryz.notInt22:QaM prog 22 = true:=by kernel_rfl
theorem Tryz.vkind22:Qac prog 22 = .sl 5:=by kernel_rfl
theorem Tryz.vt23:vt prog 23 = some none:=by kernel_rfl
theorem Tryz.velem23:QD prog 23 = some (none,60,13):=by kernel_rfl
theorem Tryz.notInt23:QaM prog 23 = true:=by kernel_rfl
theorem Tryz.vkind23:Qac prog 23 = .sl 60:=by kernel_rfl
theorem Tryz.vzero23:QL prog 23 = some [.pv (.slc [])]:=by kernel_rfl
theorem Tryz.vt25:vt prog 25 = some (some 3):=by kernel_rfl
theorem Tryz.vfield25x0:Qf prog 25 0 = some (3,0,1):=by kernel_rfl
theorem Tryz.vfield25x1:Qf prog 25 1 = some (23,1,1):=by kernel_rfl
theorem Tryz.vfield25x2:Qf prog 25 2 = some (3,2,1):=by kernel_rfl
theorem Tryz.vplaces25:Qz prog 25 = some fun j=>([(0,1),(1,1),(2,1)]:List (Nat × Nat))[j]?:=by kernel_rfl
theorem Tryz.vzero25:QL prog 25 = some [.pv (.lit (.int .i64 0)),.pv (.slc []),.pv (.lit (.int .i64 0))]:=by kernel_rfl
theorem Tryz.vt29:vt prog 29 = some none:=by kernel_rfl
theorem Tryz.velem29:QD prog 29 = some (none,182,37):=by kernel_rfl
theorem Tryz.notInt29:QaM prog 29 = true:=by kernel_rfl
theorem Tryz.vkind29:Qac prog 29 = .sl 182:=by kernel_rfl
theorem Tryz.vt31:vt prog 31 = some (some 3):=by kernel_rfl
theorem Tryz.vfield31x0:Qf prog 31 0 = some (3,0,1):=by kernel_rfl
theorem Tryz.vfield31x1:Qf prog 31 1 = some (29,1,1):=by kernel_rfl
theorem Tryz.vfield31x2:Qf prog 31 2 = some (3,2,1):=by kernel_rfl
theorem Tryz.vplaces31:Qz prog 31 = some fun j=>([(0,1),(1,1),(2,1)]:List (Nat × Nat))[j]?:=by kernel_rfl
theorem Tryz.vzero31:QL prog 31 = some [.pv (.lit (.int .i64 0)),.pv (.slc []),.pv (.lit (.int .i64 0))]:=by kernel_rfl
theorem Tryz.vt32:vt prog 32 = some none:=by kernel_rfl
theorem Tryz.velem32:QD prog 32 = some (none,222,4):=by kernel_rfl
theorem Tryz.notInt32:QaM prog 32 = true:=by kernel_rfl
theorem Tryz.vkind32:Qac prog 32 = .sl 222:=by kernel_rfl
theorem Tryz.vt34:vt prog 34 = some (some 2):=by kernel_rfl
theorem Tryz.vfield34x0:Qf prog 34 0 = some (32,0,1):=by kernel_rfl
theorem Tryz.vfield34x1:Qf prog 34 1 = some (32,1,1):=by kernel_rfl
theorem Tryz.vplaces34:Qz prog 34 = some fun j=>([(0,1),(1,1)]:List (Nat × Nat))[j]?:=by kernel_rfl
theorem Tryz.vzero34:QL prog 34 = some [.pv (.slc []),.pv (.slc [])]:=by kernel_rfl
theorem Tryz.vt35:vt prog 35 = some none:=by kernel_rfl
theorem Tryz.velem35:QD prog 35 = some (none,218,6):=by kernel_rfl
theorem Tryz.notInt35:QaM prog 35 = true:=by kernel_rfl
theorem Tryz.vkind35:Qac prog 35 = .sl 218:=by kernel_rfl
theorem Tryz.vt36:vt prog 36 = some none:=by kernel_rfl
theorem Tryz.velem36:QD prog 36 = some (none,278,3):=by kernel_rfl
theorem Tryz.notInt36:QaM prog 36 = true:=by kernel_rfl
theorem Tryz.vkind36:Qac prog 36 = .sl 278:=by kernel_rfl
theorem Tryz.vt38:vt prog 38 = some (some 1):=by kernel_rfl
theorem Tryz.vfield38x0:Qf prog 38 0 = some (36,0,1):=by kernel_rfl
theorem Tryz.vplaces38:Qz prog 38 = some fun j=>([(0,1)]:List (Nat × Nat))[j]?:=by kernel_rfl
theorem Tryz.vzero38:QL prog 38 = some [.pv (.slc [])]:=by kernel_rfl
theorem Tryz.vt39:vt prog 39 = some none:=by kernel_rfl
theorem Tryz.velem39:QD prog 39 = some (none,190,3):=by kernel_rfl
theorem Tryz.notInt39:QaM prog 39 = true:=by kernel_rfl
theorem Tryz.vkind39:Qac prog 39 = .sl 190:=by kernel_rfl
theorem Tryz.vt41:vt prog 41 = some (some 13):=by kernel_rfl
theorem Tryz.vfield41x0:Qf prog 41 0 = some (3,0,1):=by kernel_rfl
theorem Tryz.vfield41x1:Qf prog 41 1 = some (3,1,1):=by kernel_rfl
theorem Tryz.vfield41x2:Qf prog 41 2 = some (25,2,3):=by kernel_rfl
theorem Tryz.vfield41x3:Qf prog 41 3 = some (31,5,3):=by kernel_rfl
theorem Tryz.vfield41x4:Qf prog 41 4 = some (34,8,2):=by kernel_rfl
theorem Tryz.vfield41x5:Qf prog 41 5 = some (35,10,1):=by kernel_rfl
theorem Tryz.vfield41x6:Qf prog 41 6 = some (38,11,1):=by kernel_rfl
theorem Tryz.vfield41x7:Qf prog 41 7 = some (39,12,1):=by kernel_rfl
theorem Tryz.vplaces41:Qz prog 41 = some fun j=>([(0,1),(1,1),(2,3),(5,3),(8,2),(10,1),(11,1),(12,1)]:List (Nat × Nat))[j]?:=by kernel_rfl
theorem Tryz.vzero41:QL prog 41 = some [.pv (.lit (.int .i64 0)),.pv (.lit (.int .i64 0)),.pv (.lit (.int .i64 0)),.pv (.slc []),.pv (.lit (.int .i64 0)),.pv (.lit (.int .i64 0)),.pv (.slc []),.pv (.lit (.int .i64 0)),.pv (.slc []),.pv (.slc []),.pv (.slc []),.pv (.slc []),.pv (.slc [])]:=by kernel_rfl
theorem Tryz.velem44:QD prog 44 = some (none,25,3):=by kernel_rfl
theorem Tryz.vkind44:Qac prog 44 = .sl 25:=by kernel_rfl
theorem Tryz.vt45:vt prog 45 = some none:=by kernel_rfl
theorem Tryz.vt52:vt prog 52 = some none:=by kernel_rfl
theorem Tryz.velem52:QD prog 52 = some (none,3,1):=by kernel_rfl
theorem Tryz.notInt52:QaM prog 52 = true:=by kernel_rfl
theorem Tryz.vkind52:Qac prog 52 = .sl 3:=by kernel_rfl
theorem Tryz.vt54:vt prog 54 = some none:=by kernel_rfl
theorem Tryz.vt56:vt prog 56 = some (some 2):=by kernel_rfl
theorem Tryz.vfield56x0:Qf prog 56 0 = some (4,0,1):=by kernel_rfl
theorem Tryz.vfield56x1:Qf prog 56 1 = some (9,1,1):=by kernel_rfl
theorem Tryz.vplaces56:Qz prog 56 = some fun j=>([(0,1),(1,1)]:List (Nat × Nat))[j]?:=by kernel_rfl
theorem Tryz.vzero56:QL prog 56 = some [.pv (.lit (.bool false)),.pv (.str [])]:=by kernel_rfl
theorem Tryz.leaves56:QaN prog 8 56 = some [(0,0),(1,2)]:=by kernel_rfl
theorem Tryz.eqg56:prog.eqGuardType prog.depth 56 = false:=by kernel_rfl
theorem Tryz.vt58:vt prog 58 = some (some 6):=by kernel_rfl
theorem Tryz.vfield58x0:Qf prog 58 0 = some (3,0,1):=by kernel_rfl
theorem Tryz.vfield58x1:Qf prog 58 1 = some (3,1,1):=by kernel_rfl
theorem Tryz.vfield58x2:Qf prog 58 2 = some (56,2,2):=by kernel_rfl
theorem Tryz.vfield58x3:Qf prog 58 3 = some (56,4,2):=by kernel_rfl
theorem Tryz.vplaces58:Qz prog 58 = some fun j=>([(0,1),(1,1),(2,2),(4,2)]:List (Nat × Nat))[j]?:=by kernel_rfl
theorem Tryz.vzero58:QL prog 58 = some [.pv (.lit (.int .i64 0)),.pv (.lit (.int .i64 0)),.pv (.lit (.bool false)),.pv (.str []),.pv (.lit (.bool false)),.pv (.str [])]:=by kernel_rfl
theorem Tryz.leaves58:QaN prog 8 58 = some [(0,1),(1,1),(2,0),(3,2),(4,0),(5,2)]:=by kernel_rfl
theorem Tryz.eqg58:prog.eqGuardType prog.depth 58 = false:=by kernel_rfl
theorem Tryz.vt60:vt prog 60 = some (some 13):=by kernel_rfl
theorem Tryz.vfield60x0:Qf prog 60 0 = some (3,0,1):=by kernel_rfl
theorem Tryz.vfield60x1:Qf prog 60 1 = some (3,1,1):=by kernel_rfl
theorem Tryz.vfield60x2:Qf prog 60 2 = some (3,2,1):=by kernel_rfl
theorem Tryz.vfield60x3:Qf prog 60 3 = some (3,3,1):=by kernel_rfl
theorem Tryz.vfield60x4:Qf prog 60 4 = some (3,4,1):=by kernel_rfl
theorem Tryz.vfield60x5:Qf prog 60 5 = some (3,5,1):=by kernel_rfl
theorem Tryz.vfield60x6:Qf prog 60 6 = some (58,6,6):=by kernel_rfl
theorem Tryz.vfield60x7:Qf prog 60 7 = some (9,12,1):=by kernel_rfl
theorem Tryz.vplaces60:Qz prog 60 = some fun j=>([(0,1),(1,1),(2,1),(3,1),(4,1),(5,1),(6,6),(12,1)]:List (Nat × Nat))[j]?:=by kernel_rfl
theorem Tryz.vzero60:QL prog 60 = some [.pv (.lit (.int .i64 0)),.pv (.lit (.int .i64 0)),.pv (.lit (.int .i64 0)),.pv (.lit (.int .i64 0)),.pv (.lit (.int .i64 0)),.pv (.lit (.int .i64 0)),.pv (.lit (.int .i64 0)),.pv (.lit (.int .i64 0)),.pv (.lit (.bool false)),.pv (.str []),.pv (.lit (.bool false)),.pv (.str []),.pv (.str [])]:=by kernel_rfl
theorem Tryz.bytes60:QaI prog 60 = some 128:=by kernel_rfl
theorem Tryz.leaves60:QaN prog 8 60 = some [(0,1),(1,1),(2,1),(3,1),(4,1),(5,1),(6,1),(7,1),(8,0),(9,2),(10,0),(11,2),(12,2)]:=by kernel_rfl
theorem Tryz.eqg60:prog.eqGuardType prog.depth 60 = false:=by kernel_rfl
theorem Tryz.vfield78x0:Qf prog 78 0 = some (22,0,1):=by kernel_rfl
theorem Tryz.vfield78x1:Qf prog 78 1 = some (3,1,1):=by kernel_rfl
theorem Tryz.vplaces78:Qz prog 78 = some fun j=>([(0,1),(1,1)]:List (Nat × Nat))[j]?:=by kernel_rfl
theorem Tryz.vzero78:QL prog 78 = some [.pv (.slc []),.pv (.lit (.int .i64 0))]:=by kernel_rfl
theorem Tryz.vt79:vt prog 79 = some none:=by kernel_rfl
theorem Tryz.velem79:QD prog 79 = some (none,9,1):=by kernel_rfl
theorem Tryz.notInt79:QaM prog 79 = true:=by kernel_rfl
theorem Tryz.vkind79:Qac prog 79 = .sl 9:=by kernel_rfl
theorem Tryz.vt80:vt prog 80 = some none:=by kernel_rfl
theorem Tryz.velem80:QD prog 80 = some (none,254,6):=by kernel_rfl
theorem Tryz.notInt80:QaM prog 80 = true:=by kernel_rfl
theorem Tryz.vkind80:Qac prog 80 = .sl 254:=by kernel_rfl
theorem Tryz.vt82:vt prog 82 = some (some 5):=by kernel_rfl
theorem Tryz.vfield82x0:Qf prog 82 0 = some (79,0,1):=by kernel_rfl
theorem Tryz.vfield82x1:Qf prog 82 1 = some (3,1,1):=by kernel_rfl
theorem Tryz.vfield82x2:Qf prog 82 2 = some (52,2,1):=by kernel_rfl
theorem Tryz.vfield82x3:Qf prog 82 3 = some (4,3,1):=by kernel_rfl
theorem Tryz.vfield82x4:Qf prog 82 4 = some (80,4,1):=by kernel_rfl
theorem Tryz.vplaces82:Qz prog 82 = some fun j=>([(0,1),(1,1),(2,1),(3,1),(4,1)]:List (Nat × Nat))[j]?:=by kernel_rfl
theorem Tryz.vzero82:QL prog 82 = some [.pv (.slc []),.pv (.lit (.int .i64 0)),.pv (.slc []),.pv (.lit (.bool false)),.pv (.slc [])]:=by kernel_rfl
theorem Tryz.vt84:vt prog 84 = some (some 18):=by kernel_rfl
theorem Tryz.vfield84x0:Qf prog 84 0 = some (41,0,13):=by kernel_rfl
theorem Tryz.vfield84x1:Qf prog 84 1 = some (82,13,5):=by kernel_rfl
theorem Tryz.vplaces84:Qz prog 84 = some fun j=>([(0,13),(13,5)]:List (Nat × Nat))[j]?:=by kernel_rfl
theorem Tryz.vzero84:QL prog 84 = some [.pv (.lit (.int .i64 0)),.pv (.lit (.int .i64 0)),.pv (.lit (.int .i64 0)),.pv (.slc []),.pv (.lit (.int .i64 0)),.pv (.lit (.int .i64 0)),.pv (.slc []),.pv (.lit (.int .i64 0)),.pv (.slc []),.pv (.slc []),.pv (.slc []),.pv (.slc []),.pv (.slc []),.pv (.slc []),.pv (.lit (.int .i64 0)),.pv (.slc []),.pv (.lit (.bool false)),.pv (.slc [])]:=by kernel_rfl
theorem Tryz.vfield94x0:Qf prog 94 0 = some (3,0,1):=by kernel_rfl
theorem Tryz.vfield94x1:Qf prog 94 1 = some (90,1,1):=by kernel_rfl
theorem Tryz.vfield94x2:Qf prog 94 2 = some (91,2,1):=by kernel_rfl
theorem Tryz.vfield94x3:Qf prog 94 3 = some (92,3,1):=by kernel_rfl
theorem Tryz.vplaces94:Qz prog 94 = some fun j=>([(0,1),(1,1),(2,1),(3,1)]:List (Nat × Nat))[j]?:=by kernel_rfl
theorem Tryz.velem109:QD prog 109 = some (none,138,6):=by kernel_rfl
theorem Tryz.notInt109:QaM prog 109 = true:=by kernel_rfl
theorem Tryz.vt110:vt prog 110 = some none:=by kernel_rfl
theorem Tryz.velem110:QD prog 110 = some (none,175,6):=by kernel_rfl
theorem Tryz.notInt110:QaM prog 110 = true:=by kernel_rfl
theorem Tryz.velem113:QD prog 113 = some (none,143,9):=by kernel_rfl
theorem Tryz.notInt113:QaM prog 113 = true:=by kernel_rfl
theorem Tryz.vkind113:Qac prog 113 = .sl 143:=by kernel_rfl
theorem Tryz.vfield119x0:Qf prog 119 0 = some (3,0,1):=by kernel_rfl
theorem Tryz.vfield119x1:Qf prog 119 1 = some (4,1,1):=by kernel_rfl
theorem Tryz.vfield119x2:Qf prog 119 2 = some (4,2,1):=by kernel_rfl
theorem Tryz.vfield119x3:Qf prog 119 3 = some (4,3,1):=by kernel_rfl
theorem Tryz.vfield119x4:Qf prog 119 4 = some (23,4,1):=by kernel_rfl
theorem Tryz.vplaces119:Qz prog 119 = some fun j=>([(0,1),(1,1),(2,1),(3,1),(4,1)]:List (Nat × Nat))[j]?:=by kernel_rfl
theorem Tryz.vzero119:QL prog 119 = some [.pv (.lit (.int .i64 0)),.pv (.lit (.bool false)),.pv (.lit (.bool false)),.pv (.lit (.bool false)),.pv (.slc [])]:=by kernel_rfl
theorem Tryz.vt125:vt prog 125 = some none:=by kernel_rfl
theorem Tryz.vt127:vt prog 127 = some (some 7):=by kernel_rfl
theorem Tryz.vfield127x0:Qf prog 127 0 = some (4,0,1):=by kernel_rfl
theorem Tryz.vfield127x1:Qf prog 127 1 = some (4,1,1):=by kernel_rfl
theorem Tryz.vfield127x2:Qf prog 127 2 = some (4,2,1):=by kernel_rfl
theorem Tryz.vfield127x3:Qf prog 127 3 = some (4,3,1):=by kernel_rfl
theorem Tryz.vfield127x4:Qf prog 127 4 = some (4,4,1):=by kernel_rfl
theorem Tryz.vfield127x5:Qf prog 127 5 = some (54,5,1):=by kernel_rfl
theorem Tryz.vfield127x6:Qf prog 127 6 = some (125,6,1):=by kernel_rfl
theorem Tryz.vplaces127:Qz prog 127 = some fun j=>([(0,1),(1,1),(2,1),(3,1),(4,1),(5,1),(6,1)]:List (Nat × Nat))[j]?:=by kernel_rfl
theorem Tryz.vzero127:QL prog 127 = some [.pv (.lit (.bool false)),.pv (.lit (.bool false)),.pv (.lit (.bool false)),.pv (.lit (.bool false)),.pv (.lit (.bool false)),.pv (.lit .nilFunc),.pv (.lit .nilFunc)]:=by kernel_rfl
theorem Tryz.vt128:vt prog 128 = some (some 63):=by kernel_rfl
theorem Tryz.velem128:QD prog 128 = some (some 9,127,7):=by kernel_rfl
theorem Tryz.vplaces128:Qz prog 128 = some fun j=>some (j * 7,7):=by kernel_rfl
theorem Tryz.vzero128:QL prog 128 = some [.pv (.lit (.bool false)),.pv (.lit (.bool false)),.pv (.lit (.bool false)),.pv (.lit (.bool false)),.pv (.lit (.bool false)),.pv (.lit .nilFunc),.pv (.lit .nilFunc),.pv (.lit (.bool false)),.pv (.lit (.bool false)),.pv (.lit (.bool false)),.pv (.lit (.bool false)),.pv (.lit (.bool false)),.pv (.lit .nilFunc),.pv (.lit .nilFunc),.pv (.lit (.bool false)),.pv (.lit (.bool false)),.pv (.lit (.bool false)),.pv (.lit (.bool false)),.pv (.lit (.bool false)),.pv (.lit .nilFunc),.pv (.lit .nilFunc),.pv (.lit (.bool false)),.pv (.lit (.bool false)),.pv (.lit (.bool false)),.pv (.lit (.bool false)),.pv (.lit (.bool false)),.pv (.lit .nilFunc),.pv (.lit .nilFunc),.pv (.lit (.bool false)),.pv (.lit (.bool false)),.pv (.lit (.bool false)),.pv (.lit (.bool false)),.pv (.lit (.bool false)),.pv (.lit .nilFunc),.pv (.lit .nilFunc),.pv (.lit (.bool false)),.pv (.lit (.bool false)),.pv (.lit (.bool false)),.pv (.lit (.bool false)),.pv (.lit (.bool false)),.pv (.lit .nilFunc),.pv (.lit .nilFunc),.pv (.lit (.bool false)),.pv (.lit (.bool false)),.pv (.lit (.bool false)),.pv (.lit (.bool false)),.pv (.lit (.bool false)),.pv (.lit .nilFunc),.pv (.lit .nilFunc),.pv (.lit (.bool false)),.pv (.lit (.bool false)),.pv (.lit (.bool false)),.pv (.lit (.bool false)),.pv (.lit (.bool false)),.pv (.lit .nilFunc),.pv (.lit .nilFunc),.pv (.lit (.bool false)),.pv (.lit (.bool false)),.pv (.lit (.bool false)),.pv (.lit (.bool false)),.pv (.lit (.bool false)),.pv (.lit .nilFunc),.pv (.lit .nilFunc)]:=by kernel_rfl
theorem Tryz.vfield136x0:Qf prog 136 0 = some (84,0,18):=by kernel_rfl
theorem Tryz.vfield136x1:Qf prog 136 1 = some (52,18,1):=by kernel_rfl
theorem Tryz.vfield136x2:Qf prog 136 2 = some (110,19,1):=by kernel_rfl
theorem Tryz.vfield136x3:Qf prog 136 3 = some (4,20,1):=by kernel_rfl
theorem Tryz.vplaces136:Qz prog 136 = some fun j=>([(0,18),(18,1),(19,1),(20,1)]:List (Nat × Nat))[j]?:=by kernel_rfl
theorem Tryz.vzero136:QL prog 136 = some [.pv (.lit (.int .i64 0)),.pv (.lit (.int .i64 0)),.pv (.lit (.int .i64 0)),.pv (.slc []),.pv (.lit (.int .i64 0)),.pv (.lit (.int .i64 0)),.pv (.slc []),.pv (.lit (.int .i64 0)),.pv (.slc []),.pv (.slc []),.pv (.slc []),.pv (.slc []),.pv (.slc []),.pv (.slc []),.pv (.lit (.int .i64 0)),.pv (.slc []),.pv (.lit (.bool false)),.pv (.slc []),.pv (.slc []),.pv (.slc []),.pv (.lit (.bool false))]:=by kernel_rfl
theorem Tryz.vt138:vt prog 138 = some (some 6):=by kernel_rfl
theorem Tryz.vfield138x0:Qf prog 138 0 = some (3,0,1):=by kernel_rfl
theorem Tryz.vfield138x1:Qf prog 138 1 = some (3,1,1):=by kernel_rfl
theorem Tryz.vfield138x2:Qf prog 138 2 = some (3,2,1):=by kernel_rfl
theorem Tryz.vfield138x3:Qf prog 138 3 = some (56,3,2):=by kernel_rfl
theorem Tryz.vfield138x4:Qf prog 138 4 = some (45,5,1):=by kernel_rfl
theorem Tryz.vplaces138:Qz prog 138 = some fun j=>([(0,1),(1,1),(2,1),(3,2),(5,1)]:List (Nat × Nat))[j]?:=by kernel_rfl
theorem Tryz.vzero138:QL prog 138 = some [.pv (.lit (.int .i64 0)),.pv (.lit (.int .i64 0)),.pv (.lit (.int .i64 0)),.pv (.lit (.bool false)),.pv (.str []),.pv (.lit (.int .i64 0))]:=by kernel_rfl
theorem Tryz.bytes138:QaI prog 138 = some 56:=by kernel_rfl
theorem Tryz.vt141:vt prog 141 = some (some 4):=by kernel_rfl
theorem Tryz.vfield141x0:Qf prog 141 0 = some (3,0,1):=by kernel_rfl
theorem Tryz.vfield141x1:Qf prog 141 1 = some (3,1,1):=by kernel_rfl
theorem Tryz.vfield141x2:Qf prog 141 2 = some (3,2,1):=by kernel_rfl
theorem Tryz.vfield141x3:Qf prog 141 3 = some (9,3,1):=by kernel_rfl
theorem Tryz.vplaces141:Qz prog 141 = some fun j=>([(0,1),(1,1),(2,1),(3,1)]:List (Nat × Nat))[j]?:=by kernel_rfl
theorem Tryz.vzero141:QL prog 141 = some [.pv (.lit (.int .i64 0)),.pv (.lit (.int .i64 0)),.pv (.lit (.int .i64 0)),.pv (.str [])]:=by kernel_rfl
theorem Tryz.leaves141:QaN prog 8 141 = some [(0,1),(1,1),(2,1),(3,2)]:=by kernel_rfl
theorem Tryz.eqg141:prog.eqGuardType prog.depth 141 = false:=by kernel_rfl
theorem Tryz.vt143:vt prog 143 = some (some 9):=by kernel_rfl
theorem Tryz.vfield143x0:Qf prog 143 0 = some (3,0,1):=by kernel_rfl
theorem Tryz.vfield143x1:Qf prog 143 1 = some (3,1,1):=by kernel_rfl
theorem Tryz.vfield143x2:Qf prog 143 2 = some (3,2,1):=by kernel_rfl
theorem Tryz.vfield143x3:Qf prog 143 3 = some (3,3,1):=by kernel_rfl
theorem Tryz.vfield143x4:Qf prog 143 4 = some (3,4,1):=by kernel_rfl
theorem Tryz.vfield143x5:Qf prog 143 5 = some (141,5,4):=by kernel_rfl
theorem Tryz.vplaces143:Qz prog 143 = some fun j=>([(0,1),(1,1),(2,1),(3,1),(4,1),(5,4)]:List (Nat × Nat))[j]?:=by kernel_rfl
theorem Tryz.vzero143:QL prog 143 = some [.pv (.lit (.int .i64 0)),.pv (.lit (.int .i64 0)),.pv (.lit (.int .i64 0)),.pv (.lit (.int .i64 0)),.pv (.lit (.int .i64 0)),.pv (.lit (.int .i64 0)),.pv (.lit (.int .i64 0)),.pv (.lit (.int .i64 0)),.pv (.str [])]:=by kernel_rfl
theorem Tryz.bytes143:QaI prog 143 = some 80:=by kernel_rfl
theorem Tryz.velem166:QD prog 166 = some (none,23,1):=by kernel_rfl
theorem Tryz.vkind166:Qac prog 166 = .sl 23:=by kernel_rfl
theorem Tryz.vplaces175:Qz prog 175 = some fun j=>([(0,1),(1,1),(2,1),(3,1),(4,2)]:List (Nat × Nat))[j]?:=by kernel_rfl
theorem Tryz.vzero175:QL prog 175 = some [.pv (.lit (.int .i64 0)),.pv (.lit (.int .i64 0)),.pv (.lit (.int .i64 0)),.pv (.lit (.int .i64 0)),.pv (.lit (.bool false)),.pv (.str [])]:=by kernel_rfl
theorem Tryz.bytes175:QaI prog 175 = some 56:=by kernel_rfl
theorem Tryz.velem176:QD prog 176 = some (some 16,56,2):=by kernel_rfl
theorem Tryz.vt178:vt prog 178 = some (some 34):=by kernel_rfl
theorem Tryz.vfield178x0:Qf prog 178 0 = some (3,0,1):=by kernel_rfl
theorem Tryz.vfield178x1:Qf prog 178 1 = some (3,1,1):=by kernel_rfl
theorem Tryz.vfield178x2:Qf prog 178 2 = some (176,2,32):=by kernel_rfl
theorem Tryz.vplaces178:Qz prog 178 = some fun j=>([(0,1),(1,1),(2,32)]:List (Nat × Nat))[j]?:=by kernel_rfl
theorem Tryz.vzero178:QL prog 178 = some [.pv (.lit (.int .i64 0)),.pv (.lit (.int .i64 0)),.pv (.lit (.bool false)),.pv (.str []),.pv (.lit (.bool false)),.pv (.str []),.pv (.lit (.bool false)),.pv (.str []),.pv (.lit (.bool false)),.pv (.str []),.pv (.lit (.bool false)),.pv (.str []),.pv (.lit (.bool false)),.pv (.str []),.pv (.lit (.bool false)),.pv (.str []),.pv (.lit (.bool false)),.pv (.str []),.pv (.lit (.bool false)),.pv (.str []),.pv (.lit (.bool false)),.pv (.str []),.pv (.lit (.bool false)),.pv (.str []),.pv (.lit (.bool false)),.pv (.str []),.pv (.lit (.bool false)),.pv (.str []),.pv (.lit (.bool false)),.pv (.str []),.pv (.lit (.bool false)),.pv (.str []),.pv (.lit (.bool false)),.pv (.str [])]:=by kernel_rfl
theorem Tryz.vt182:vt prog 182 = some (some 37):=by kernel_rfl
theorem Tryz.vfield182x0:Qf prog 182 0 = some (178,0,34):=by kernel_rfl
theorem Tryz.vfield182x1:Qf prog 182 1 = some (4,34,1):=by kernel_rfl
theorem Tryz.vfield182x2:Qf prog 182 2 = some (3,35,1):=by kernel_rfl
theorem Tryz.vfield182x3:Qf prog 182 3 = some (4,36,1):=by kernel_rfl
theorem Tryz.vplaces182:Qz prog 182 = some fun j=>([(0,34),(34,1),(35,1),(36,1)]:List (Nat × Nat))[j]?:=by kernel_rfl
theorem Tryz.vzero182:QL prog 182 = some [.pv (.lit (.int .i64 0)),.pv (.lit (.int .i64 0)),.pv (.lit (.bool false)),.pv (.str []),.pv (.lit (.bool false)),.pv (.str []),.pv (.lit (.bool false)),.pv (.str []),.pv (.lit (.bool false)),.pv (.str []),.pv (.lit (.bool false)),.pv (.str []),.pv (.lit (.bool false)),.pv (.str []),.pv (.lit (.bool false)),.pv (.str []),.pv (.lit (.bool false)),.pv (.str []),.pv (.lit (.bool false)),.pv (.str []),.pv (.lit (.bool false)),.pv (.str []),.pv (.lit (.bool false)),.pv (.str []),.pv (.lit (.bool false)),.pv (.str []),.pv (.lit (.bool false)),.pv (.str []),.pv (.lit (.bool false)),.pv (.str []),.pv (.lit (.bool false)),.pv (.str []),.pv (.lit (.bool false)),.pv (.str []),.pv (.lit (.bool false)),.pv (.lit (.int .i64 0)),.pv (.lit (.bool false))]:=by kernel_rfl
theorem Tryz.bytes182:QaI prog 182 = some 424:=by kernel_rfl
theorem Tryz.vt190:vt prog 190 = some (some 3):=by kernel_rfl
theorem Tryz.vfield190x0:Qf prog 190 0 = some (3,0,1):=by kernel_rfl
theorem Tryz.vfield190x1:Qf prog 190 1 = some (3,1,1):=by kernel_rfl
theorem Tryz.vfield190x2:Qf prog 190 2 = some (3,2,1):=by kernel_rfl
theorem Tryz.vplaces190:Qz prog 190 = some fun j=>([(0,1),(1,1),(2,1)]:List (Nat × Nat))[j]?:=by kernel_rfl
theorem Tryz.vzero190:QL prog 190 = some [.pv (.lit (.int .i64 0)),.pv (.lit (.int .i64 0)),.pv (.lit (.int .i64 0))]:=by kernel_rfl
theorem Tryz.bytes190:QaI prog 190 = some 24:=by kernel_rfl
theorem Tryz.vt197:vt prog 197 = some (some 2):=by kernel_rfl
theorem Tryz.vfield197x0:Qf prog 197 0 = some (3,0,1):=by kernel_rfl
theorem Tryz.vfield197x1:Qf prog 197 1 = some (3,1,1):=by kernel_rfl
theorem Tryz.vplaces197:Qz prog 197 = some fun j=>([(0,1),(1,1)]:List (Nat × Nat))[j]?:=by kernel_rfl
theorem Tryz.vzero197:QL prog 197 = some [.pv (.lit (.int .i64 0)),.pv (.lit (.int .i64 0))]:=by kernel_rfl
theorem Tryz.leaves197:QaN prog 8 197 = some [(0,1),(1,1)]:=by kernel_rfl
theorem Tryz.eqg197:prog.eqGuardType prog.depth 197 = false:=by kernel_rfl
theorem Tryz.vt210:vt prog 210 = some (some 5):=by kernel_rfl
theorem Tryz.vfield210x0:Qf prog 210 0 = some (3,0,1):=by kernel_rfl
theorem Tryz.vfield210x1:Qf prog 210 1 = some (3,1,1):=by kernel_rfl
theorem Tryz.vfield210x2:Qf prog 210 2 = some (35,2,1):=by kernel_rfl
theorem Tryz.vfield210x3:Qf prog 210 3 = some (39,3,1):=by kernel_rfl
theorem Tryz.vfield210x4:Qf prog 210 4 = some (38,4,1):=by kernel_rfl
theorem Tryz.vplaces210:Qz prog 210 = some fun j=>([(0,1),(1,1),(2,1),(3,1),(4,1)]:List (Nat × Nat))[j]?:=by kernel_rfl
theorem Tryz.vzero210:QL prog 210 = some [.pv (.lit (.int .i64 0)),.pv (.lit (.int .i64 0)),.pv (.slc []),.pv (.slc []),.pv (.slc [])]:=by kernel_rfl
theorem Tryz.vt218:vt prog 218 = some (some 6):=by kernel_rfl
theorem Tryz.vfield218x0:Qf prog 218 0 = some (3,0,1):=by kernel_rfl
theorem Tryz.vfield218x1:Qf prog 218 1 = some (3,1,1):=by kernel_rfl
theorem Tryz.vfield218x2:Qf prog 218 2 = some (3,2,1):=by kernel_rfl
theorem Tryz.vfield218x3:Qf prog 218 3 = some (3,3,1):=by kernel_rfl
theorem Tryz.vfield218x4:Qf prog 218 4 = some (52,4,1):=by kernel_rfl
theorem Tryz.vfield218x5:Qf prog 218 5 = some (52,5,1):=by kernel_rfl
theorem Tryz.vplaces218:Qz prog 218 = some fun j=>([(0,1),(1,1),(2,1),(3,1),(4,1),(5,1)]:List (Nat × Nat))[j]?:=by kernel_rfl
theorem Tryz.vzero218:QL prog 218 = some [.pv (.lit (.int .i64 0)),.pv (.lit (.int .i64 0)),.pv (.lit (.int .i64 0)),.pv (.lit (.int .i64 0)),.pv (.slc []),.pv (.slc [])]:=by kernel_rfl
theorem Tryz.bytes218:QaI prog 218 = some 80:=by kernel_rfl
theorem Tryz.vt222:vt prog 222 = some (some 4):=by kernel_rfl
theorem Tryz.vfield222x0:Qf prog 222 0 = some (3,0,1):=by kernel_rfl
theorem Tryz.vfield222x1:Qf prog 222 1 = some (197,1,2):=by kernel_rfl
theorem Tryz.vfield222x2:Qf prog 222 2 = some (3,3,1):=by kernel_rfl
theorem Tryz.vplaces222:Qz prog 222 = some fun j=>([(0,1),(1,2),(3,1)]:List (Nat × Nat))[j]?:=by kernel_rfl
theorem Tryz.vzero222:QL prog 222 = some [.pv (.lit (.int .i64 0)),.pv (.lit (.int .i64 0)),.pv (.lit (.int .i64 0)),.pv (.lit (.int .i64 0))]:=by kernel_rfl
theorem Tryz.bytes222:QaI prog 222 = some 32:=by kernel_rfl
theorem Tryz.leaves222:QaN prog 8 222 = some [(0,1),(1,1),(2,1),(3,1)]:=by kernel_rfl
theorem Tryz.eqg222:prog.eqGuardType prog.depth 222 = false:=by kernel_rfl
theorem Tryz.vkind249:Qac prog 249 = .int .u32:=by kernel_rfl
theorem Tryz.vzero254:QL prog 254 = some [.pv (.lit (.int .i64 0)),.pv (.lit (.int .i64 0)),.pv (.lit (.int .i64 0)),.pv (.lit (.int .i64 0)),.pv (.lit (.int .i64 0)),.pv (.lit (.int .u8 0))]:=by kernel_rfl
theorem Tryz.bytes254:QaI prog 254 = some 48:=by kernel_rfl
theorem Tryz.vt267:vt prog 267 = some (some 7):=by kernel_rfl
theorem Tryz.vfield267x0:Qf prog 267 0 = some (3,0,1):=by kernel_rfl
theorem Tryz.vfield267x1:Qf prog 267 1 = some (3,1,1):=by kernel_rfl
theorem Tryz.vfield267x2:Qf prog 267 2 = some (3,2,1):=by kernel_rfl
theorem Tryz.vfield267x3:Qf prog 267 3 = some (35,3,1):=by kernel_rfl
theorem Tryz.vfield267x4:Qf prog 267 4 = some (32,4,1):=by kernel_rfl
theorem Tryz.vfield267x5:Qf prog 267 5 = some (39,5,1):=by kernel_rfl
theorem Tryz.vfield267x6:Qf prog 267 6 = some (38,6,1):=by kernel_rfl
theorem Tryz.vplaces267:Qz prog 267 = some fun j=>([(0,1),(1,1),(2,1),(3,1),(4,1),(5,1),(6,1)]:List (Nat × Nat))[j]?:=by kernel_rfl
theorem Tryz.vzero267:QL prog 267 = some [.pv (.lit (.int .i64 0)),.pv (.lit (.int .i64 0)),.pv (.lit (.int .i64 0)),.pv (.slc []),.pv (.slc []),.pv (.slc []),.pv (.slc [])]:=by kernel_rfl
theorem Tryz.vt278:vt prog 278 = some (some 3):=by kernel_rfl
theorem Tryz.vfield278x0:Qf prog 278 0 = some (3,0,1):=by kernel_rfl
theorem Tryz.vfield278x1:Qf prog 278 1 = some (3,1,1):=by kernel_rfl
theorem Tryz.vfield278x2:Qf prog 278 2 = some (3,2,1):=by kernel_rfl
theorem Tryz.vzero278:QL prog 278 = some [.pv (.lit (.int .i64 0)),.pv (.lit (.int .i64 0)),.pv (.lit (.int .i64 0))]:=by kernel_rfl
theorem Tryz.bytes278:QaI prog 278 = some 24:=by kernel_rfl
theorem Tryz.vkind297:Qac prog 297 = .int .u64:=by kernel_rfl
theorem Tryz.vkind298:Qac prog 298 = .int .u64:=by kernel_rfl
theorem Tryz.vfield340x0:Qf prog 340 0 = some (9,0,1):=by kernel_rfl
theorem Tryz.vfield340x1:Qf prog 340 1 = some (3,1,1):=by kernel_rfl
theorem Tryz.vfield340x2:Qf prog 340 2 = some (45,2,1):=by kernel_rfl
theorem Tryz.vplaces340:Qz prog 340 = some fun j=>([(0,1),(1,1),(2,1)]:List (Nat × Nat))[j]?:=by kernel_rfl
theorem Tryz.vzero340:QL prog 340 = some [.pv (.str []),.pv (.lit (.int .i64 0)),.pv (.lit (.int .i64 0))]:=by kernel_rfl
theorem Tryz.vfield350x0:Qf prog 350 0 = some (9,0,1):=by kernel_rfl
theorem Tryz.vfield350x1:Qf prog 350 1 = some (3,1,1):=by kernel_rfl
theorem Tryz.vfield350x2:Qf prog 350 2 = some (4,2,1):=by kernel_rfl
theorem Tryz.vplaces350:Qz prog 350 = some fun j=>([(0,1),(1,1),(2,1)]:List (Nat × Nat))[j]?:=by kernel_rfl
theorem Tryz.vzero350:QL prog 350 = some [.pv (.str []),.pv (.lit (.int .i64 0)),.pv (.lit (.bool false))]:=by kernel_rfl
attribute [go_sem] Tryz.vt3 Tryz.vkind3 Tryz.vzero3 Tryz.bytes3 Tryz.vt4 Tryz.vt5 Tryz.vkind5 Tryz.vzero5 Tryz.bytes5 Tryz.vt9 Tryz.vkind9 Tryz.vzero9 Tryz.bytes9 Tryz.vt22 Tryz.velem22 Tryz.notInt22 Tryz.vkind22 Tryz.vt23 Tryz.velem23 Tryz.notInt23 Tryz.vkind23 Tryz.vzero23 Tryz.vt25 Tryz.vfield25x0 Tryz.vfield25x1 Tryz.vfield25x2 Tryz.vplaces25 Tryz.vzero25 Tryz.vt29 Tryz.velem29 Tryz.notInt29 Tryz.vkind29 Tryz.vt31 Tryz.vfield31x0 Tryz.vfield31x1 Tryz.vfield31x2 Tryz.vplaces31 Tryz.vzero31 Tryz.vt32 Tryz.velem32 Tryz.notInt32 Tryz.vkind32 Tryz.vt34 Tryz.vfield34x0 Tryz.vfield34x1 Tryz.vplaces34 Tryz.vzero34 Tryz.vt35 Tryz.velem35 Tryz.notInt35 Tryz.vkind35 Tryz.vt36 Tryz.velem36 Tryz.notInt36 Tryz.vkind36 Tryz.vt38 Tryz.vfield38x0 Tryz.vplaces38 Tryz.vzero38 Tryz.vt39 Tryz.velem39 Tryz.notInt39 Tryz.vkind39 Tryz.vt41 Tryz.vfield41x0 Tryz.vfield41x1 Tryz.vfield41x2 Tryz.vfield41x3 Tryz.vfield41x4 Tryz.vfield41x5 Tryz.vfield41x6 Tryz.vfield41x7 Tryz.vplaces41 Tryz.vzero41 Tryz.velem44 Tryz.vkind44 Tryz.vt45 Tryz.vt52 Tryz.velem52 Tryz.notInt52 Tryz.vkind52 Tryz.vt54 Tryz.vt56 Tryz.vfield56x0 Tryz.vfield56x1 Tryz.vplaces56 Tryz.vzero56 Tryz.leaves56 Tryz.eqg56 Tryz.vt58 Tryz.vfield58x0 Tryz.vfield58x1 Tryz.vfield58x2 Tryz.vfield58x3 Tryz.vplaces58 Tryz.vzero58 Tryz.leaves58 Tryz.eqg58 Tryz.vt60 Tryz.vfield60x0 Tryz.vfield60x1 Tryz.vfield60x2 Tryz.vfield60x3 Tryz.vfield60x4 Tryz.vfield60x5 Tryz.vfield60x6 Tryz.vfield60x7 Tryz.vplaces60 Tryz.vzero60 Tryz.bytes60 Tryz.leaves60 Tryz.eqg60 Tryz.vfield78x0 Tryz.vfield78x1 Tryz.vplaces78 Tryz.vzero78 Tryz.vt79 Tryz.velem79 Tryz.notInt79 Tryz.vkind79 Tryz.vt80 Tryz.velem80 Tryz.notInt80 Tryz.vkind80 Tryz.vt82 Tryz.vfield82x0 Tryz.vfield82x1 Tryz.vfield82x2 Tryz.vfield82x3 Tryz.vfield82x4 Tryz.vplaces82 Tryz.vzero82 Tryz.vt84 Tryz.vfield84x0 Tryz.vfield84x1 Tryz.vplaces84 Tryz.vzero84 Tryz.vfield94x0 Tryz.vfield94x1 Tryz.vfield94x2 Tryz.vfield94x3 Tryz.vplaces94 Tryz.velem109 Tryz.notInt109 Tryz.vt110 Tryz.velem110 Tryz.notInt110 Tryz.velem113 Tryz.notInt113 Tryz.vkind113 Tryz.vfield119x0 Tryz.vfield119x1 Tryz.vfield119x2 Tryz.vfield119x3 Tryz.vfield119x4 Tryz.vplaces119 Tryz.vzero119 Tryz.vt125 Tryz.vt127 Tryz.vfield127x0 Tryz.vfield127x1 Tryz.vfield127x2 Tryz.vfield127x3 Tryz.vfield127x4 Tryz.vfield127x5 Tryz.vfield127x6 Tryz.vplaces127 Tryz.vzero127 Tryz.vt128 Tryz.velem128 Tryz.vplaces128 Tryz.vzero128 Tryz.vfield136x0 Tryz.vfield136x1 Tryz.vfield136x2 Tryz.vfield136x3 Tryz.vplaces136 Tryz.vzero136 Tryz.vt138 Tryz.vfield138x0 Tryz.vfield138x1 Tryz.vfield138x2 Tryz.vfield138x3 Tryz.vfield138x4 Tryz.vplaces138 Tryz.vzero138 Tryz.bytes138 Tryz.vt141 Tryz.vfield141x0 Tryz.vfield141x1 Tryz.vfield141x2 Tryz.vfield141x3 Tryz.vplaces141 Tryz.vzero141 Tryz.leaves141 Tryz.eqg141 Tryz.vt143 Tryz.vfield143x0 Tryz.vfield143x1 Tryz.vfield143x2 Tryz.vfield143x3 Tryz.vfield143x4 Tryz.vfield143x5 Tryz.vplaces143 Tryz.vzero143 Tryz.bytes143 Tryz.velem166 Tryz.vkind166 Tryz.vplaces175 Tryz.vzero175 Tryz.bytes175 Tryz.velem176 Tryz.vt178 Tryz.vfield178x0 Tryz.vfield178x1 Tryz.vfield178x2 Tryz.vplaces178 Tryz.vzero178 Tryz.vt182 Tryz.vfield182x0 Tryz.vfield182x1 Tryz.vfield182x2 Tryz.vfield182x3 Tryz.vplaces182 Tryz.vzero182 Tryz.bytes182 Tryz.vt190 Tryz.vfield190x0 Tryz.vfield190x1 Tryz.vfield190x2 Tryz.vplaces190 Tryz.vzero190 Tryz.bytes190 Tryz.vt197 Tryz.vfield197x0 Tryz.vfield197x1 Tryz.vplaces197 Tryz.vzero197 Tryz.leaves197 Tryz.eqg197 Tryz.vt210 Tryz.vfield210x0 Tryz.vfield210x1 Tryz.vfield210x2 Tryz.vfield210x3 Tryz.vfield210x4 Tryz.vplaces210 Tryz.vzero210 Tryz.vt218 Tryz.vfield218x0 Tryz.vfield218x1 Tryz.vfield218x2 Tryz.vfield218x3 Tryz.vfield218x4 Tryz.vfield218x5 Tryz.vplaces218 Tryz.vzero218 Tryz.bytes218 Tryz.vt222 Tryz.vfield222x0 Tryz.vfield222x1 Tryz.vfield222x2 Tryz.vplaces222 Tryz.vzero222 Tryz.bytes222 Tryz.leaves222 Tryz.eqg222 Tryz.vkind249 Tryz.vzero254 Tryz.bytes254 Tryz.vt267 Tryz.vfield267x0 Tryz.vfield267x1 Tryz.vfield267x2 Tryz.vfield267x3 Tryz.vfield267x4 Tryz.vfield267x5 Tryz.vfield267x6 Tryz.vplaces267 Tryz.vzero267 Tryz.vt278 Tryz.vfield278x0 Tryz.vfield278x1 Tryz.vfield278x2 Tryz.vzero278 Tryz.bytes278 Tryz.vkind297 Tryz.vkind298 Tryz.vfield340x0 Tryz.vfield340x1 Tryz.vfield340x2 Tryz.vplaces340 Tryz.vzero340 Tryz.vfield350x0 Tryz.vfield350x1 Tryz.vfield350x2 Tryz.vplaces350 Tryz.vzero350
end Go.Proofs
namespace Go.Proofs.YtepcgifhpjapkaaGreat
open Go.V Go
open Tryz (prog)
section
structure Ce where
  set:Bool
  data:List UInt8
structure Ch where
  pg:Int
  sl:Int
  b:Ce
  a:Ce
structure E where
  lsn:Int
  kind:Int
  tx:Int
  ptx:Int
  ppg:Int
  ref:Int
  c:Ch
  blob:List UInt8
def Ce.d (x:Ce):List DV:=[.bool x.set,.pv (.str x.data)]
def Ch.d (x:Ch):List DV:=[.int .i64 x.pg,.int .i64 x.sl,.bool x.b.set,.pv (.str x.b.data),.bool x.a.set,.pv (.str x.a.data)]
def E.d (x:E):List DV:=[.int .i64 x.lsn,.int .i64 x.kind,.int .i64 x.tx,.int .i64 x.ptx,.int .i64 x.ppg,.int .i64 x.ref,.int .i64 x.c.pg,.int .i64 x.c.sl,.bool x.c.b.set,.pv (.str x.c.b.data),.bool x.c.a.set,.pv (.str x.c.a.data),.pv (.str x.blob)]
def Ce0:Ce:=⟨false,[]⟩
def Ch0:Ch:=⟨0,0,Ce0,Ce0⟩
def E0:E:=⟨0,0,0,0,0,0,Ch0,[]⟩
def Ce.okB (x:Ce):Bool:=decide (x.data.length<=12) && (x.set || x.data == [])
def Ch.okB (x:Ch):Bool:=decide (0<=x.pg) && decide (x.pg < 64) && decide (0<=x.sl) && decide (x.sl < 16) && x.b.okB && x.a.okB
def Ce.no (x:Ce):Bool:=!x.set && x.data == []
def Ch.no (x:Ch):Bool:=x.pg == 0 && x.sl == 0 && x.b.no && x.a.no
def bef (n l:Int):Bool:=decide (0<=n) && decide (n < l)
attribute [local go_sem] Ce.d Ch.d E.d QT QaO
theorem QnO (x:Ce):VCalls prog 102 [.agg x.d] [] (Ret (.bool x.okB)):=by
  refine dd Tryz.func102 ?_
  (unfold Tryz.f102; refine rn trivial ?_)
  refine rn F ?_
  repeat' (first
    | with_reducible exact ⟨⟩
    | (refine sG F ?_ ?_<;>intro hZ))
  all_goals (first | rfl | (congr 3; rw [Bool.eq_iff_iff]; (try simp only [Ce.okB,decide_eq_true_eq,Bool.and_eq_true,Bool.or_eq_true,Bool.not_eq_true',Bool.not_eq_false',decide_eq_false_iff_not,beq_iff_eq,bne_iff_ne,ne_eq,Bool.false_eq_true,Bool.true_eq_false,iff_true,true_iff,iff_false,false_iff]); first | done | omega | grind))
theorem Qgs (x:Ce):VCalls prog 115 [.agg x.d] [] (Ret (.bool x.okB)):=by
  refine dd Tryz.func115 ?_
  (unfold Tryz.f115; refine rn trivial ?_)
  refine rn F ?_
  repeat' (first
    | with_reducible exact ⟨⟩
    | (refine sG F ?_ ?_<;>intro hZ))
  all_goals (first | rfl | (congr 3; rw [Bool.eq_iff_iff]; (try simp only [Ce.okB,decide_eq_true_eq,Bool.and_eq_true,Bool.or_eq_true,Bool.not_eq_true',Bool.not_eq_false',decide_eq_false_iff_not,beq_iff_eq,bne_iff_ne,ne_eq,Bool.false_eq_true,Bool.true_eq_false,iff_true,true_iff,iff_false,false_iff]); first | done | omega | grind))
theorem QCc (x:Ch):VCalls prog 81 [.agg x.d] [] (Ret (.bool x.no)):=by
  refine dd Tryz.func81 ?_
  (unfold Tryz.f81; refine rn trivial ?_)
  simp only [Ch.no,Ce.no,Bool.and_assoc]
theorem Qjd (n:Int) (x:E):VCalls prog 66 [.int .i64 n,.agg x.d] [] (Ret (.bool (bef n x.lsn))):=by
  refine dd Tryz.func66 ?_
  (unfold Tryz.f66; refine rn trivial ?_)
  refine rn F ?_
  repeat' (first
    | with_reducible exact ⟨⟩
    | (refine sG F ?_ ?_<;>intro hZ))
  all_goals (first | rfl | (congr 3; rw [Bool.eq_iff_iff]; (try simp only [bef,decide_eq_true_eq,Bool.and_eq_true,Bool.or_eq_true,Bool.not_eq_true',Bool.not_eq_false',decide_eq_false_iff_not,beq_iff_eq,bne_iff_ne,ne_eq,Bool.false_eq_true,Bool.true_eq_false,iff_true,true_iff,iff_false,false_iff]); first | done | omega | grind))
theorem Qgt (n l:Int):VCalls prog 79 [.int .i64 n,.int .i64 l] [] (Ret (.bool (bef n l))):=by
  refine dd Tryz.func79 ?_
  (unfold Tryz.f79; refine rn trivial ?_)
  refine rn F ?_
  repeat' (first
    | with_reducible exact ⟨⟩
    | (refine sG F ?_ ?_<;>intro hZ))
  all_goals (first | rfl | (congr 3; rw [Bool.eq_iff_iff]; (try simp only [bef,decide_eq_true_eq,Bool.and_eq_true,Bool.or_eq_true,Bool.not_eq_true',Bool.not_eq_false',decide_eq_false_iff_not,beq_iff_eq,bne_iff_ne,ne_eq,Bool.false_eq_true,Bool.true_eq_false,iff_true,true_iff,iff_false,false_iff]); first | done | omega | grind))
theorem Qzo (n:Int):VCalls prog 101 [.int .i64 n] [] (Ret (.bool (decide (0<=n) && decide (n < 64)))):=by
  refine dd Tryz.func101 ?_
  (unfold Tryz.f101; refine rn trivial ?_)
  refine rn F ?_
  repeat' (first
    | with_reducible exact ⟨⟩
    | (refine sG F ?_ ?_<;>intro hZ))
  all_goals (first | rfl | (congr 3; rw [Bool.eq_iff_iff]; (try simp only [decide_eq_true_eq,Bool.and_eq_true,Bool.or_eq_true,Bool.not_eq_true',Bool.not_eq_false',decide_eq_false_iff_not,beq_iff_eq,bne_iff_ne,ne_eq,Bool.false_eq_true,Bool.true_eq_false,iff_true,true_iff,iff_false,false_iff]); first | done | omega | grind))
theorem QwZ (x:E):VCalls prog 80 [.agg x.d] [] (Ret (.bool true)):=by
  refine dd Tryz.func80 ?_
  (unfold Tryz.f80; refine rn trivial ?_; try with_reducible exact ⟨⟩)
theorem QqO (x:E):VCalls prog 83 [.agg x.d] [] (Ret (.bool (decide (1<=x.ref) && decide (x.ref<=x.ptx)))):=by
  refine dd Tryz.func83 ?_
  (unfold Tryz.f83; refine rn trivial ?_)
  refine rn F ?_
  repeat' (first
    | with_reducible exact ⟨⟩
    | (refine sG F ?_ ?_<;>intro hZ))
  all_goals (first | rfl | (congr 3; rw [Bool.eq_iff_iff]; (try simp only [decide_eq_true_eq,Bool.and_eq_true,Bool.or_eq_true,Bool.not_eq_true',Bool.not_eq_false',decide_eq_false_iff_not,beq_iff_eq,bne_iff_ne,ne_eq,Bool.false_eq_true,Bool.true_eq_false,iff_true,true_iff,iff_false,false_iff]); first | done | omega | grind))
def Ch.ix (x:Ch):Bool:=x.sl == 0 && x.b.no && x.a.no && decide (0<=x.pg) && decide (x.pg < 64)
theorem QzX (x:Ch):VCalls prog 84 [.agg x.d] [] (Ret (.bool x.ix)):=by
  refine dd Tryz.func84 ?_
  (unfold Tryz.f84; refine rn trivial ?_)
  refine rn F ?_
  repeat' (first
    | with_reducible exact ⟨⟩
    | (refine sG F ?_ ?_<;>intro hZ))
  all_goals (first | rfl | (congr 3; rw [Bool.eq_iff_iff]; (try simp only [Ch.ix,Ce.no,decide_eq_true_eq,Bool.and_eq_true,Bool.or_eq_true,Bool.not_eq_true',Bool.not_eq_false',decide_eq_false_iff_not,beq_iff_eq,bne_iff_ne,ne_eq,Bool.false_eq_true,Bool.true_eq_false,iff_true,true_iff,iff_false,false_iff]); first | done | omega | grind))
theorem Qlc (x:E):VCalls prog 43 [.agg x.d] [] (Ret (.bool (x.kind == 1 || x.kind == 2))):=by
  refine dd Tryz.func43 ?_
  (unfold Tryz.f43; refine rn trivial ?_)
  refine rn F ?_
  repeat' (first
    | with_reducible exact ⟨⟩
    | (refine sG F ?_ ?_<;>intro hZ))
  all_goals (first | rfl | (congr 3; rw [Bool.eq_iff_iff]; (try simp only [decide_eq_true_eq,Bool.and_eq_true,Bool.or_eq_true,Bool.not_eq_true',Bool.not_eq_false',decide_eq_false_iff_not,beq_iff_eq,bne_iff_ne,ne_eq,Bool.false_eq_true,Bool.true_eq_false,iff_true,true_iff,iff_false,false_iff]); first | done | omega | grind))
theorem Qa9 (x:E):VCalls prog 17 [.agg x.d] [] (Ret (.bool (x.kind == 1 || x.kind == 2))):=by
  refine dd Tryz.func17 ?_
  (unfold Tryz.f17; refine rn trivial ?_)
  refine rn F ?_
  repeat' (first
    | with_reducible exact ⟨⟩
    | (refine sG F ?_ ?_<;>intro hZ))
  all_goals (first | rfl | (congr 3; rw [Bool.eq_iff_iff]; (try simp only [decide_eq_true_eq,Bool.and_eq_true,Bool.or_eq_true,Bool.not_eq_true',Bool.not_eq_false',decide_eq_false_iff_not,beq_iff_eq,bne_iff_ne,ne_eq,Bool.false_eq_true,Bool.true_eq_false,iff_true,true_iff,iff_false,false_iff]); first | done | omega | grind))
theorem QCK (x:Ch):VCalls prog 82 [.agg x.d] [] (Ret (.bool x.okB)):=by
  refine dd Tryz.func82 ?_
  (unfold Tryz.f82; refine rn trivial ?_)
  refine rn F ?_
  repeat' (first
    | with_reducible exact ⟨⟩
    | (refine sG F ?_ ?_<;>intro hZ)
    | refine vp F (Qzo x.pg) ?_
    | refine vp F (QnO x.b) ?_
    | refine vp F (QnO x.a) ?_)
  all_goals (first | rfl | (congr 3; rw [Bool.eq_iff_iff]; (try simp only [Ch.okB,decide_eq_true_eq,Bool.and_eq_true,Bool.or_eq_true,Bool.not_eq_true',Bool.not_eq_false',decide_eq_false_iff_not,beq_iff_eq,bne_iff_ne,ne_eq,Bool.false_eq_true,Bool.true_eq_false,iff_true,true_iff,iff_false,false_iff]); first | done | omega | grind))
theorem QrU (x:Ch):VCalls prog 100 [.agg x.d] [] (Ret (.bool x.okB)):=by
  refine dd Tryz.func100 ?_
  (unfold Tryz.f100; refine rn trivial ?_)
  refine rn F ?_
  repeat' (first
    | with_reducible exact ⟨⟩
    | (refine sG F ?_ ?_<;>intro hZ)
    | refine vp F (Qgs x.b) ?_
    | refine vp F (Qgs x.a) ?_)
  all_goals (first | rfl | (congr 3; rw [Bool.eq_iff_iff]; (try simp only [Ch.okB,decide_eq_true_eq,Bool.and_eq_true,Bool.or_eq_true,Bool.not_eq_true',Bool.not_eq_false',decide_eq_false_iff_not,beq_iff_eq,bne_iff_ne,ne_eq,Bool.false_eq_true,Bool.true_eq_false,iff_true,true_iff,iff_false,false_iff]); first | done | omega | grind))
def rl (tx ch pg rf bl:Bool) (f g:Nat):List DV:=[.bool tx,.bool ch,.bool pg,.bool rf,.bool bl,.fn (.func f) [] [],.fn (.func g) [] []]
def rl0:List DV:=[.bool false,.bool false,.bool false,.bool false,.bool false,.pv (.lit .nilFunc),.pv (.lit .nilFunc)]
def Qvi:List DV:=rl true true false false false 80 81
def Qrz:List DV:=rl false false false false true 80 81
def QBM:List DV:=rl0 ++ rl true false true false false 80 82 ++ rl true true true true false 83 82 ++ Qvi ++ Qvi ++ Qvi ++ Qrz ++ rl false false false true false 80 84 ++ Qrz
theorem QyJ:VCalls prog 67 [] [] (Ret (.agg QBM)):=by
  refine dd Tryz.func67 ?_
  (unfold Tryz.f67; refine rn trivial ?_)
  rfl
end
section
attribute [local go_sem] QBM rl0 rl Qvi Qrz
def txB (n:Int):Bool:=decide (1<=n) && decide (n<=1073741824)
def E.kindB (e:E):Bool:=
  if e.kind = 1 then txB e.tx && e.ref == 0 && e.blob == [] && e.c.okB
  else if e.kind = 2 then txB e.tx && e.ptx != 0 && e.blob == [] && decide (1<=e.ref) && decide (e.ref<=e.ptx) && e.c.okB
  else if e.kind = 3\/e.kind = 4\/e.kind = 5 then txB e.tx && e.ptx != 0 && e.ppg == 0 && e.ref == 0 && e.blob == [] && e.c.no
  else if e.kind = 6\/e.kind = 8 then e.tx == 0 && e.ptx == 0 && e.ppg == 0 && e.ref == 0 && decide (e.blob.length<=8192) && e.c.no
  else if e.kind = 7 then e.tx == 0 && e.ptx == 0 && e.ppg == 0 && e.blob == [] && e.c.ix
  else false
def E.okB (e:E):Bool:=decide (1<=e.lsn) && decide (e.lsn<=1099511627776) && bef e.ptx e.lsn && bef e.ppg e.lsn && bef e.ref e.lsn && e.kindB
theorem Qnz (lsn kind tx ptx ppg ref:Int) (c:Ch) (blob:List UInt8):(⟨lsn,kind,tx,ptx,ppg,ref,c,blob⟩:E).kindB =
  if kind = 1 then txB tx && ref == 0 && blob == [] && c.okB
  else if kind = 2 then txB tx && ptx != 0 && blob == [] && decide (1<=ref) && decide (ref<=ptx) && c.okB
  else if kind = 3\/kind = 4\/kind = 5 then txB tx && ptx != 0 && ppg == 0 && ref == 0 && blob == [] && c.no
  else if kind = 6\/kind = 8 then tx == 0 && ptx == 0 && ppg == 0 && ref == 0 && decide (blob.length<=8192) && c.no
  else if kind = 7 then tx == 0 && ptx == 0 && ppg == 0 && blob == [] && c.ix
  else false:=rfl
theorem Qv8 {e:E} (h:e.kind < 1\/8 < e.kind):e.kindB = false:=by
  unfold E.kindB; rw [if_neg (by omega),if_neg (by omega),if_neg (by omega),if_neg (by omega),if_neg (by omega)]
theorem Qe1 (k:Int):(k < 1\/8 < k)\/k = 1\/k = 2\/k = 3\/k = 4\/k = 5\/k = 6\/k = 7\/k = 8:=by omega
theorem QqL (e:E):VCalls prog 51 [.agg e.d] [] (Ret (.bool e.okB)):=by
  refine dd Tryz.func51 ?_
  obtain ⟨lsn,kind,tx,ptx,ppg,ref,c,blob⟩:=e
  have r1:=Qjd ptx ⟨lsn,kind,tx,ptx,ppg,ref,c,blob⟩
  have r2:=Qjd ppg ⟨lsn,kind,tx,ptx,ppg,ref,c,blob⟩
  have r3:=Qjd ref ⟨lsn,kind,tx,ptx,ppg,ref,c,blob⟩
  have r4:=QwZ ⟨lsn,kind,tx,ptx,ppg,ref,c,blob⟩
  have r5:=QqO ⟨lsn,kind,tx,ptx,ppg,ref,c,blob⟩
  have q1:=QCc c
  have q2:=QCK c
  have q3:=QzX c
  have e1:(⟨lsn,kind,tx,ptx,ppg,ref,c,blob⟩:E).okB = (decide (1<=lsn) && decide (lsn<=1099511627776) && bef ptx lsn && bef ppg lsn && bef ref lsn && (⟨lsn,kind,tx,ptx,ppg,ref,c,blob⟩:E).kindB):=rfl
  dsimp only [E.d] at *
  generalize bef ptx lsn = B1 at *
  generalize bef ppg lsn = B2 at *
  generalize bef ref lsn = B3 at *
  have e2:=Qnz lsn kind tx ptx ppg ref c blob
  dsimp only [Ch.d] at q1 q2 q3
  generalize c.no = N at *
  generalize c.okB = K at *
  generalize c.ix = X at *
  have e3:=@Qv8 ⟨lsn,kind,tx,ptx,ppg,ref,c,blob⟩
  dsimp only at e3
  generalize (⟨lsn,kind,tx,ptx,ppg,ref,c,blob⟩:E).kindB = Q at *
  generalize (⟨lsn,kind,tx,ptx,ppg,ref,c,blob⟩:E).okB = R at *
  (unfold Tryz.f51; refine rn trivial ?_)
  refine rn F ?_
  repeat' (first
    | with_reducible exact ⟨⟩
    | (refine sG F ?_ ?_<;>intro hZ)
    | (refine sB F ?_ ?_<;>intro hZ)
    | refine vp F (r1) ?_
    | refine vp F (r2) ?_
    | refine vp F (r3) ?_
    | (refine Qd (id:=3) [1,2] [⟨[4],[],0,[1,2],[3]⟩,⟨[4],[4],5,[],[]⟩] (by kernel_rfl) (by kernel_rfl) ?_; refine rn F ?_))
  all_goals first
    | (congr 3; rw [Bool.eq_iff_iff,e1]; simp only [Bool.and_eq_true,decide_eq_true_eq,Bool.false_eq_true,false_iff]; first | omega | (intro h; simp_all; done) | (intro h; rw [e3 (by omega)] at h; simp at h; done))
    | skip
  all_goals
    have hT:R = Q:=by rw [e1]; simp_all
    rcases Qe1 kind with hk | rfl | rfl | rfl | rfl | rfl | rfl | rfl | rfl
    · omega
  all_goals
    refine rn F ?_
    repeat' (first
      | with_reducible exact ⟨⟩
      | (refine sG F ?_ ?_<;>intro hZ)
      | (refine sB F ?_ ?_<;>intro hZ)
      | refine vp F (QyJ) ?_
      | refine vp F (r4) ?_
      | refine vp F (r5) ?_
      | refine vp F (q1) ?_
      | refine vp F (q2) ?_
      | refine vp F (q3) ?_)
  all_goals (try (congr 3; rw [hT,Bool.eq_iff_iff,e2]; clear hT e1 e2 e3 r1 r2 r3 r4 r5 q1 q2 q3; simp [txB]; first | omega | grind))
  all_goals skip
end
section
def encE:Enc E:=⟨13,fun x=>[.lit (.int .i64 x.lsn),.lit (.int .i64 x.kind),.lit (.int .i64 x.tx),.lit (.int .i64 x.ptx),.lit (.int .i64 x.ppg),.lit (.int .i64 x.ref),.lit (.int .i64 x.c.pg),.lit (.int .i64 x.c.sl),.lit (.bool x.c.b.set),.str x.c.b.data,.lit (.bool x.c.a.set),.str x.c.a.data,.str x.blob],by decide,fun _=>rfl⟩
theorem Qjo (l:List E):(cells encE l).length = l.length * 13:=QG encE l
theorem QpV (l:List E) (n:Nat) (h:l.length * 13<=n):(cells encE l).take n = cells encE l:=by rw [List.take_of_length_le]; rw [Qjo]; exact h
theorem QpU (l m:List E):cells encE l ++ cells encE m = cells encE (l ++ m):=(Qx encE l m).symm
theorem QpN (l:List E):(fz encE l = []\/(fz encE l)[0]?.map List.length = some 13) = True:=Qfl encE l
theorem QpQ {n:Nat} {hp:Qa} {len:Nat} {l:List E} (h:l.length = len):QgN n hp 0 13 len (some (cells encE l)) = some (.sl (fz encE l)):=QU encE h
theorem Qfb (l:List E) (e:E):cells encE l ++ [.pv (.lit (.int .i64 e.lsn)),.pv (.lit (.int .i64 e.kind)),.pv (.lit (.int .i64 e.tx)),.pv (.lit (.int .i64 e.ptx)),.pv (.lit (.int .i64 e.ppg)),.pv (.lit (.int .i64 e.ref)),.pv (.lit (.int .i64 e.c.pg)),.pv (.lit (.int .i64 e.c.sl)),.pv (.lit (.bool e.c.b.set)),.pv (.str e.c.b.data),.pv (.lit (.bool e.c.a.set)),.pv (.str e.c.a.data),.pv (.str e.blob)] = cells encE (l ++ [e]):=by rw [Qx]; rfl
theorem Qn {α:Type} (l:List α) (i:Nat) (h:i < l.length) (d:α):l.getD i d = l[i]:=by rw [List.getD_eq_getElem?_getD,List.getElem?_eq_getElem h]; rfl
structure To (n:Nat) where
  i:Nat
  hi:i<=n
structure Okay (n:Nat) (c:Nat->Bool) where
  i:Nat
  hi:i<=n
  ok:∀ k,k < i->c k = true
def Okay.start (n:Nat) (c:Nat->Bool):Okay n c:=⟨0,Nat.zero_le _,fun k h=>by omega⟩
def Okay.next {n:Nat} {c:Nat->Bool} (s:Okay n c) (h:s.i < n) (hc:c s.i = true):Okay n c:=⟨s.i + 1,h,fun k hk=>by
  rcases Nat.lt_or_ge k s.i with hlt | hge
  · exact s.ok k hlt
  · obtain rfl:k = s.i:=by omega
    exact hc⟩
theorem Okay.all {n:Nat} {c:Nat->Bool} (s:Okay n c) (h:¬ s.i < n):(List.range n).all c = true:=by
  rw [List.all_eq_true]
  intro k hk
  rw [List.mem_range] at hk
  exact s.ok k (by omega)
theorem Qbd {n:Nat} {c:Nat->Bool} {i:Nat} (h:i < n) (hc:c i = false):(List.range n).all c = false:=by
  rw [List.all_eq_false]
  exact ⟨i,List.mem_range.2 h,by rw [hc]; decide⟩
theorem Qz2 (l:List E) (i:Nat) (h:i < l.length):(fz encE l)[i]? = some [.lit (.int .i64 (l.getD i E0).lsn),.lit (.int .i64 (l.getD i E0).kind),.lit (.int .i64 (l.getD i E0).tx),.lit (.int .i64 (l.getD i E0).ptx),.lit (.int .i64 (l.getD i E0).ppg),.lit (.int .i64 (l.getD i E0).ref),.lit (.int .i64 (l.getD i E0).c.pg),.lit (.int .i64 (l.getD i E0).c.sl),.lit (.bool (l.getD i E0).c.b.set),.str (l.getD i E0).c.b.data,.lit (.bool (l.getD i E0).c.a.set),.str (l.getD i E0).c.a.data,.str (l.getD i E0).blob]:=by rw [Qn l i h]; exact QhZ encE l i h
structure Lg where
  f:Int
  es:List E
  d:Int
def Lg.c (x:Lg):List DV:=[.int .i64 x.f,.pv (.sl (fz encE x.es)),.int .i64 x.d]
attribute [local go_sem] Lg.c
def Lg0:Lg:=⟨0,[],0⟩
def Lg.hd (x:Lg):Prop:=1<=x.f/\x.f<=1099511627776/\x.es.length<=4096/\x.f - 1<=x.d/\x.d<=x.f + x.es.length - 1
instance (x:Lg):Decidable x.hd:=by unfold Lg.hd; infer_instance
def lgC (x:Lg) (i:Nat):Bool:=decide ((x.es.getD i E0).lsn = x.f + i) && (x.es.getD i E0).okB
def lgB (x:Lg):Bool:=decide x.hd && (List.range x.es.length).all (lgC x)
def Lg.end_ (x:Lg):Int:=x.f + x.es.length - 1
theorem QaC {x:Lg} (h:lgB x = true):x.hd:=by unfold lgB at h; simp at h; exact h.1
theorem Qxq (x:Lg) (h1 : -1099511627776<=x.f/\x.f<=1099511627776) (h2:x.es.length<=1000000):VCalls prog 41 [.agg x.c] [] (Ret (.int .i64 x.end_)):=by
  refine dd Tryz.func41 ?_
  obtain ⟨f,es,d⟩:=x
  dsimp only at h1 h2
  (unfold Tryz.f41; refine rn trivial ?_)
  (refine rn F ?_; try with_reducible exact ⟨⟩)
  all_goals rfl
theorem QnB (x:Lg) (hx:x.es.length<=9223372036854775807):VCalls prog 34 [.agg x.c] [] (Ret (.bool (lgB x))):=by
  refine dd Tryz.func34 ?_
  obtain ⟨f,es,d⟩:=x
  dsimp only at hx
  have hr:=fun (i:Nat)=>QqL (es.getD i E0)
  have c1:=Qxq ⟨f,es,d⟩
  have hlg:∀ i,lgC ⟨f,es,d⟩ i = true ↔ (es.getD i E0).lsn = f + i/\(es.getD i E0).okB = true:=fun i=>by simp [lgC]
  have hB:lgB ⟨f,es,d⟩ = (decide (Lg.hd ⟨f,es,d⟩) && (List.range es.length).all (lgC ⟨f,es,d⟩)):=rfl
  have hH:Lg.hd ⟨f,es,d⟩ = (1<=f/\f<=1099511627776/\es.length<=4096/\f - 1<=d/\d<=f + es.length - 1):=rfl
  have no:¬ Lg.hd ⟨f,es,d⟩->lgB ⟨f,es,d⟩ = false:=fun h=>by rw [hB,decide_eq_false h]; rfl
  unfold Lg.c at c1 |-
  unfold Lg.end_ at c1
  unfold E.d at hr
  dsimp only at c1 |-
  generalize lgC ⟨f,es,d⟩ = lc at *
  generalize lgB ⟨f,es,d⟩ = b at *
  (unfold Tryz.f34; refine rn trivial ?_)
  refine rn F ?_
  repeat' (first
    | with_reducible exact ⟨⟩
    | (refine sG F ?_ ?_<;>intro hZ)
    | (refine sB F ?_ ?_<;>intro hZ)
    | refine vp F (c1 (by omega) (by omega)) ?_
    | (refine Qd (id:=1) [0,1,2,3,4,5,6,7,8,9,10,11,12,13,14,15,16,17,18,19,20,21,22,23,24,25] [⟨[],[],26,[0,1,2,3,4,5,6,7,8,9,10,11,12,13,14,15,16,17,18,19,20,21,23,24],[27,28]⟩] (by kernel_rfl) (by kernel_rfl) ?_; refine rn F ?_))
  all_goals first | (rw [no (by rw [hH]; omega)]) | skip
  refine Qh (fun s:Okay es.length lc=>⟨55,0,[(37,.int .i64 s.i),(36,.int .i64 es.length),(35,.pv (.sl (fz encE es))),(1,.ptr 0 0)],[⟨25,true,[.int .i64 f,.pv (.sl (fz encE es)),.int .i64 d]⟩]⟩) (fun s=>es.length - s.i) (Okay.start _ _) (gc [0]) ?_
  intro s
  have hsi:=s.hi
  have hg:=fun h:s.i < es.length=>Qz2 es s.i h
  have F:=@hg
  refine rn F ?_
  repeat' (first
    | with_reducible exact ⟨⟩
    | (refine sG F ?_ ?_<;>intro hZ)
    | (refine sB F ?_ ?_<;>intro hZ)
    | refine vp F (hr s.i) ?_)
  all_goals first
    | (rw [hB,Qbd (i:=s.i) (by omega) (Bool.eq_false_iff.2 fun h=>by rw [hlg] at h; omega),Bool.and_false])
    | (rw [hB,Qbd (i:=s.i) (by omega) (Bool.eq_false_iff.2 fun h=>by rw [hlg] at h; exact absurd h.2 (by simp_all)),Bool.and_false])
    | (rw [hB,s.all (by omega),decide_eq_true (by rw [hH]; omega)]; rfl)
    | (exact ⟨s.next (by omega) ((hlg _).2 ⟨by omega,by assumption⟩),by show es.length - (s.i + 1) < es.length - s.i; omega,(gc [0])⟩)
    | skip
end
section
attribute [local go_sem] Qjo QpV QpU QpN QpQ Qfb Tryz.underlying23
abbrev noK:Nat->Bool:=fun _=>false
theorem QnM (l:List E) (hl:l.length<=1000000):VCalls prog 42 [.pv (.sl (fz encE l))] [] (Qg6 noK [] 13 l.length 60 (cells encE l)):=by
  refine VCalls.newSl ?_
  by_cases hz:l = []
  · subst hz
    refine VCalls.open0 fun ad cap hs=>?_
    refine Qa4 (fn:=Tryz.f42) Tryz.func42 rfl (by kernel_rfl) (by simp [Tryz.f42]) ?_
    (unfold Tryz.f42; refine rn trivial ?_)
    refine Qat (fun h=>?_) (fun h=>?_)
    · (refine rn trivial ?_; try with_reducible exact ⟨⟩)
      exact ⟨by simp,.inl ⟨rfl,rfl,rfl⟩⟩
    · (refine rn trivial ?_; try with_reducible exact ⟨⟩)
      exact ⟨by simp,.inr ⟨_,.inl rfl,by simp,rfl,rfl⟩⟩
  · have hp:0 < l.length:=List.length_pos_iff.2 hz
    refine Qa4 (fn:=Tryz.f42) Tryz.func42 rfl (by kernel_rfl) (by simp [Tryz.f42]) ?_
    have h0:=Qwe encE l hp
    have hx:(fz encE l)[0]?.map List.length = some 13:=QnG encE l hp
    have hb:l.length * 128<=140737488355328:=by omega
    have hfl:pvs (fz encE l) = cells encE l:=Qi3 encE l
    (unfold Tryz.f42; refine rn (And.intro @h0 (And.intro @hx (And.intro @hb @hfl))) ?_)
    exact ⟨by simp,.inr ⟨_,.inl rfl,by simp,rfl,Qr _ _ _⟩⟩
theorem QAq (l:List E):VCalls prog 52 [.pv (.sl (fz encE l))] [] (Ret (.pv (.slc (fz encE l)))):=by
  refine dd Tryz.func52 ?_
  have h3:Qp7 (some (none,60,13)) (fz encE l) 0 l.length l.length = some (.pv (.slc (fz encE l))):=Que encE l _
  (unfold Tryz.f52; refine rn @h3 ?_; try with_reducible exact ⟨⟩)
def Qd2 (x:Lg) (e:E):Lg × Int × Int:=if lgB x = false then (Lg0,0,26) else if x.es.length = 4096\/1099511627776 < x.end_ + 1 then (Lg0,0,21)
  else if ({ e with lsn:=x.end_ + 1 }:E).okB = false then (Lg0,0,12) else (⟨x.f,x.es ++ [{ e with lsn:=x.end_ + 1 }],x.d⟩,x.end_ + 1,0)
def QCT (r:Lg × Int × Int):DV:=.tup [.agg r.1.c,.int .i64 r.2.1,.int .i64 r.2.2]
theorem QwX (x:Lg) (hx:x.es.length<=9223372036854775807) (e:E):VCalls prog 29 [.agg x.c,.agg e.d] [] (Ret (QCT (Qd2 x e))):=by
  refine VCalls.unwk ?_
  refine dd Tryz.func29 ?_
  obtain ⟨f,es,d⟩:=x
  dsimp only at hx
  have c1:=QnB ⟨f,es,d⟩ hx
  have c2:=Qxq ⟨f,es,d⟩
  have hh:=@QaC ⟨f,es,d⟩
  have c3:=QqL { e with lsn:=f + es.length - 1 + 1 }
  have e0:Qd2 ⟨f,es,d⟩ e = if lgB ⟨f,es,d⟩ = false then (Lg0,0,26) else if es.length = 4096\/1099511627776 < f + es.length - 1 + 1 then (Lg0,0,21)
    else if ({ e with lsn:=f + es.length - 1 + 1 }:E).okB = false then (Lg0,0,12) else (⟨f,es ++ [{ e with lsn:=f + es.length - 1 + 1 }],d⟩,f + es.length - 1 + 1,0):=rfl
  unfold Lg.hd at hh
  unfold Lg.end_ at c2
  unfold Lg.c at c1 c2 |-
  unfold E.d at c3 |-
  obtain ⟨lsn,kind,tx,ptx,ppg,ref,c,blob⟩:=e
  dsimp only at *
  have c4:=QAq es
  rw [e0]
  have hl:=Qfb es ⟨f + es.length - 1 + 1,kind,tx,ptx,ppg,ref,c,blob⟩
  dsimp only at hl
  cases hv:lgB ⟨f,es,d⟩
  · rw [hv] at c1
    (unfold Tryz.f29; refine rn trivial ?_)
    refine rn F ?_
    repeat' (first
      | with_reducible exact ⟨⟩
      | refine vp F (c1) ?_)
    all_goals first | rfl | contradiction
  rw [hv] at c1
  rw [if_neg (by decide)]
  replace hh:=hh hv
  have hb:(es.length + 1) * 128<=140737488355328:=by omega
  by_cases h1:es.length = 4096\/1099511627776 < f + (es.length:Int) - 1 + 1
  · rw [if_pos h1]
    (unfold Tryz.f29; refine rn trivial ?_)
    refine rn F ?_
    repeat' (first
      | with_reducible exact ⟨⟩
      | (refine sG F ?_ ?_<;>intro hZ)
      | refine vp F (c1) ?_
      | refine vp F (c2 (by omega) (by omega)) ?_)
    all_goals first | rfl | contradiction | omega
  rw [if_neg h1]
  generalize (⟨f + es.length - 1 + 1,kind,tx,ptx,ppg,ref,c,blob⟩:E).okB = ok at *
  cases ok
  · rw [if_pos rfl]
    (unfold Tryz.f29; refine rn trivial ?_)
    refine rn F ?_
    repeat' (first
      | with_reducible exact ⟨⟩
      | refine vp F (c1) ?_
      | refine vp F (c2 (by omega) (by omega)) ?_
      | refine vp F (c3) ?_)
    all_goals first | rfl | contradiction | omega
  · rw [if_neg (by decide)]
    (unfold Tryz.f29; refine rn trivial ?_)
    have F:=(And.intro @hl @hb)
    refine rn F ?_
    repeat' (first
      | with_reducible exact ⟨⟩
      | refine vp F (c1) ?_
      | refine vp F (c2 (by omega) (by omega)) ?_
      | refine vp F (c3) ?_
      | refine vp F (c4) ?_
      | (refine Qd (id:=8) [0,1,3] [⟨[4],[],2,[0,3],[]⟩,⟨[4],[4],5,[0,1,3],[6]⟩,⟨[],[],7,[],[]⟩] (by kernel_rfl) (by kernel_rfl) ?_; refine rn F ?_)
      | (refine Qd (id:=9) [0,1,2] [⟨[],[],3,[1,2],[]⟩,⟨[],[],4,[],[]⟩,⟨[],[],5,[],[]⟩] (by kernel_rfl) (by kernel_rfl) ?_; refine rn F ?_))
    all_goals first | rfl | contradiction | omega | skip
end
section
attribute [local go_sem] Qjo QpV QpU QpN QpQ Qfb
def QaG (x:Lg) (n:Int):Lg × Int:=if lgB x = false then (Lg0,26) else if x.end_ < n then (Lg0,14) else (⟨x.f,x.es,if n > x.d then n else x.d⟩,0)
def lgD (r:Lg × Int):DV:=.tup [.agg r.1.c,.int .i64 r.2]
end
def QwM (n:Int) (i:Nat):Int:=IntKind.u8.wrap ((IntKind.u64.wrap n).fdiv (2 ^ min (8 * (i:Int)).toNat 64))
def Qlf (n:Int) (i:Nat):UInt8:=UInt8.ofNat (QwM n i).toNat
theorem QhB (x:Int):IntKind.u8.wrap x = x % 256:=by
  simp [IntKind.wrap,IntKind.signed,IntKind.bits]
theorem QwN (n:Int) (i:Nat):QwM n i = ((Qlf n i).toNat:Int):=by
  unfold Qlf QwM
  rw [QhB]
  generalize (IntKind.u64.wrap n).fdiv (2 ^ min (8 * (i:Int)).toNat 64) = y
  simp only [UInt8.toNat_ofNat']
  omega
def Qao (s:List UInt8) (n:Int) (k:Nat):List UInt8:=s ++ (List.range k).map (Qlf n)
theorem Qq (s:List UInt8) (n:Int) (k:Nat):(Qao s n k).length = s.length + k:=by simp [Qao]
theorem Qr3 (s:List UInt8) (n:Int) (k:Nat):Qao s n (k + 1) = Qao s n k ++ [Qlf n k]:=by simp [Qao,List.range_succ]
theorem QE6:bts prog 22 9 = true:=by kernel_rfl
theorem Qb7 (s:List UInt8) (hs:s.length<=1000000000) (n:Int) (k:Nat) (h1:1<=k) (h8:k<=8):VCalls prog 156 [.pv (.str s),.int .i64 n,.int .i64 k] [] (Ret (.pv (.str (Qao s n k)))):=by
  refine dd Tryz.func156 ?_
  simp (config:={ maxSteps:=2000000 }) (implicitDefEqProofs:=false) (disch:=first | omega | assumption | (simp only []; done) | fail) only [go_sem,Nat.reduceAdd,Nat.reduceBEq,Int.reduceAdd,Int.reduceBEq,Tryz.f156]
  refine Qh (fun i:{i:Nat // i<=k}=>⟨32,0,[(7,.int .i64 i.1),(2,.int .i64 k),(0,.pv (.str (Qao s n i.1))),(1,.int .i64 n)],[]⟩) (fun i=>k - i.1) ⟨0,by omega⟩ (.inl (by simpa only [Qao,List.range_zero,List.map_nil,List.append_nil] using (by refine ⟨rfl,rfl,by simp,?_,?_,.inr ⟨?_,?_⟩⟩<;>(repeat' apply And.intro)<;>first | rfl | trivial | (intro _; first | rfl | apply Qpt)))) ?_
  intro i
  obtain ⟨i,hi⟩:=i
  dsimp only
  simp (config:={ maxSteps:=2000000 }) (implicitDefEqProofs:=false) (disch:=first | omega | assumption | (simp only []; done) | fail) only [go_sem,Nat.reduceBEq,Int.reduceBEq]
  refine Qat (fun hc=>?_) (fun hc=>?_)<;>simp only [decide_eq_true_eq,decide_eq_false_iff_not,Bool.or_eq_true,Bool.and_eq_true,Bool.or_eq_false_iff,Bool.and_eq_false_imp,Bool.not_eq_true',Bool.not_eq_false',beq_iff_eq,beq_eq_false_iff_ne,bne_iff_ne,bne_eq_false_iff_eq,ne_eq] at hc
  · have hw8:IntKind.u64.wrap (8 * (i:Int)) = 8 * (i:Int):=by simp [IntKind.wrap,IntKind.signed,IntKind.bits]; omega
    have hl:(Qao s n i).length + 1<=9223372036854775807:=by rw [Qq]; omega
    simp (config:={ maxSteps:=2000000 }) (implicitDefEqProofs:=false) (disch:=first | omega | assumption | (simp only []; done) | fail) only [go_sem,V.splice,V.mk,↓reduceIte,Nat.reduceLT,Nat.reduceLeDiff,Nat.reduceBEq,Int.reduceLT,Int.reduceBEq,hw8,QeC QE6,Quu]
    refine ⟨⟨i + 1,by omega⟩,by show k - (i + 1) < k - i; omega,?_⟩
    rw [Qr3]
    refine QCu (keep:=[]) rfl rfl rfl (by decide) trivial ?_
    refine ⟨⟨rfl,rfl⟩,⟨rfl,rfl⟩,⟨rfl,rfl⟩,⟨rfl,rfl⟩,trivial⟩
  · simp (config:={ maxSteps:=2000000 }) (implicitDefEqProofs:=false) (disch:=first | omega | assumption | (simp only []; done) | fail) only [go_sem,↓reduceIte,Nat.reduceLT,Nat.reduceBEq,Int.reduceLT,Int.reduceBEq]
    have hik:i = k:=by omega
    rw [hik]
def Qly (s:List UInt8) (a:Nat):Nat->Int
  | 0=>0
  | i + 1=>bits BinOp.or .u64 (Qly s a i) (IntKind.u64.wrap (IntKind.u64.wrap (s.getD (a + i) 0).toNat * 2 ^ min (8 * (i:Int)).toNat 64))
theorem Qyw (s:List UInt8) (a i:Nat) (h:a + i < s.length):s[((a:Int) + (i:Int)).toNat]? = some (s.getD (a + i) 0):=by
  have e:((a:Int) + (i:Int)).toNat = a + i:=by omega
  rw [e,List.getD_eq_getElem?_getD,List.getElem?_eq_getElem h]; rfl
theorem Qdm (s:List UInt8) (a k:Int) (h:1<=k/\k<=8) (h0:0<=a) (hh:¬ a + k<=s.length):VCalls prog 217 [.pv (.str s),.int .i64 a,.int .i64 k] [] (Ret (.tup [.int .i64 0,.int .i64 5])):=by
  refine dd Tryz.func217 ?_
  have h1:¬ k < 1:=by omega
  have h2:¬ 8 < k:=by omega
  have h3:¬ a < 0:=by omega
  by_cases h4:(s.length:Int) < a
  · simp (config:={ maxSteps:=2000000 }) (implicitDefEqProofs:=false) (disch:=first | omega | assumption | (simp only []; done) | fail) only [go_sem,Nat.reduceAdd,Nat.reduceBEq,Int.reduceAdd,Int.reduceBEq,Tryz.f217,h1,h2,h3,h4]
  · have h5:(s.length:Int) - a < k:=by omega
    simp (config:={ maxSteps:=2000000 }) (implicitDefEqProofs:=false) (disch:=first | omega | assumption | (simp only []; done) | fail) only [go_sem,Nat.reduceAdd,Nat.reduceBEq,Int.reduceAdd,Int.reduceBEq,Tryz.f217,h1,h2,h3,h4,h5]
theorem QhR (s:List UInt8) (hs:s.length<=1000000000) (a k:Nat) (h:1<=k/\k<=8) (hh:a + k<=s.length):VCalls prog 217 [.pv (.str s),.int .i64 a,.int .i64 k] [] (Ret (.tup [.int .i64 (IntKind.i64.wrap (Qly s a k)),.int .i64 0])):=by
  refine dd Tryz.func217 ?_
  have h1:¬ (k:Int) < 1:=by omega
  have h2:¬ 8 < (k:Int):=by omega
  have h3:¬ (a:Int) < 0:=by omega
  have h4:¬ (s.length:Int) < a:=by omega
  have h5:¬ (s.length:Int) - a < k:=by omega
  simp (config:={ maxSteps:=2000000 }) (implicitDefEqProofs:=false) (disch:=first | omega | assumption | (simp only []; done) | fail) only [go_sem,Nat.reduceAdd,Nat.reduceBEq,Int.reduceAdd,Int.reduceBEq,Tryz.f217,h1,h2,h3,h4,h5]
  refine Qqs (fun i:{i:Nat // i<=k}=>⟨51,0,[(9,.int .i64 i.1),(2,.int .i64 k),(8,.int .u64 (Qly s a i.1)),(0,.pv (.str s)),(1,.int .i64 a)],[]⟩) (fun i=>k - i.1) ⟨0,by omega⟩ (by refine ⟨rfl,rfl,by simp,?_,?_,.inl rfl⟩<;>(repeat' apply And.intro)<;>first | rfl | trivial) ?_
  intro i
  obtain ⟨i,hi⟩:=i
  dsimp only
  simp (config:={ maxSteps:=2000000 }) (implicitDefEqProofs:=false) (disch:=first | omega | assumption | (simp only []; done) | fail) only [go_sem,Nat.reduceBEq,Int.reduceBEq]
  refine Qat (fun hc=>?_) (fun hc=>?_)<;>simp only [decide_eq_true_eq,decide_eq_false_iff_not,Bool.or_eq_true,Bool.and_eq_true,Bool.or_eq_false_iff,Bool.and_eq_false_imp,Bool.not_eq_true',Bool.not_eq_false',beq_iff_eq,beq_eq_false_iff_ne,bne_iff_ne,bne_eq_false_iff_eq,ne_eq] at hc
  · have hg:s[((a:Int) + (i:Int)).toNat]? = some (s.getD (a + i) 0):=Qyw s a i (by omega)
    have h0:0<=(a:Int) + (i:Int):=by omega
    have hw8:IntKind.u64.wrap (8 * (i:Int)) = 8 * (i:Int):=by simp [IntKind.wrap,IntKind.signed,IntKind.bits]; omega
    simp (config:={ maxSteps:=2000000 }) (implicitDefEqProofs:=false) (disch:=first | omega | assumption | (simp only []; done) | fail) only [go_sem,Nat.reduceBEq,Int.reduceBEq,hg,hw8]
    exact ⟨⟨i + 1,by omega⟩,by show k - (i + 1) < k - i; omega,(by refine ⟨rfl,rfl,by simp,?_,?_,.inl rfl⟩<;>(repeat' apply And.intro)<;>first | rfl | trivial)⟩
  · simp (config:={ maxSteps:=2000000 }) (implicitDefEqProofs:=false) (disch:=first | omega | assumption | (simp only []; done) | fail) only [go_sem,↓reduceIte,Nat.reduceLT,Nat.reduceBEq,Int.reduceLT,Int.reduceBEq]
    have hik:i = k:=by omega
    rw [hik]
def u64N (n:Int):Nat:=(n % 18446744073709551616).toNat
theorem Qyt (n:Int):u64N n < 2 ^ 64:=by unfold u64N; omega
theorem QhC (n:Int):IntKind.u64.wrap n = (u64N n:Int):=by
  unfold u64N
  simp [IntKind.wrap,IntKind.signed,IntKind.bits]; omega
theorem QiX (i:Nat) (h:i < 8):min (8 * (i:Int)).toNat 64 = 8 * i:=by
  have e:(8 * (i:Int)).toNat = 8 * i:=by omega
  rw [e]; omega
theorem QtP (n:Int) (i:Nat) (h:i < 8):(Qlf n i).toNat = u64N n / 2 ^ (8 * i) % 256:=by
  have hx:=QwN n i
  unfold QwM at hx
  rw [QhB,QhC,QiX i h] at hx
  have e:((u64N n:Int).fdiv (2 ^ (8 * i))) = ((u64N n / 2 ^ (8 * i):Nat):Int):=by
    have e2:((2:Int) ^ (8 * i)) = ((2 ^ (8 * i):Nat):Int):=by rw [Int.natCast_pow]; rfl
    rw [e2,Int.fdiv_eq_ediv_of_nonneg _ (Int.natCast_nonneg _)]
    rfl
  rw [e] at hx
  generalize u64N n / 2 ^ (8 * i) = q at hx |-
  omega
theorem Qxm (x y:Nat) (hx:x < 2 ^ 64) (hy:y < 2 ^ 64):bits .or .u64 (x:Int) (y:Int) = ((x ||| y:Nat):Int):=by
  have e:bits .or .u64 (x:Int) (y:Int) = IntKind.u64.wrap ((BitVec.ofInt 64 (x:Int) ||| BitVec.ofInt 64 (y:Int)).toNat:Int):=rfl
  rw [e,BitVec.toNat_or]
  have h1:(BitVec.ofInt 64 (x:Int)).toNat = x:=by simp; omega
  have h2:(BitVec.ofInt 64 (y:Int)).toNat = y:=by simp; omega
  rw [h1,h2,QhC]
  have h3:x ||| y < 2 ^ 64:=Nat.or_lt_two_pow hx hy
  unfold u64N; omega
theorem QuK (N i:Nat):(N % 2 ^ (8 * i)) ||| (N / 2 ^ (8 * i) % 256 * 2 ^ (8 * i)) = N % 2 ^ (8 * (i + 1)):=by
  have h:N % 2 ^ (8 * i) < 2 ^ (8 * i):=Nat.mod_lt _ (Nat.two_pow_pos _)
  rw [Nat.or_comm,Nat.mul_comm,<- Nat.two_pow_add_eq_or_of_lt h]
  have e:2 ^ (8 * (i + 1)) = 2 ^ (8 * i) * 256:=by rw [Nat.mul_add,Nat.pow_add]
  rw [e,Nat.mod_mul]; omega
theorem QvG (s t:List UInt8) (n:Int) (k i:Nat) (hi:i < k):(Qao s n k ++ t).getD (s.length + i) 0 = Qlf n i:=by
  rw [List.getD_eq_getElem?_getD,Qao,List.append_assoc,List.getElem?_append_right (by omega),List.getElem?_append_left (by simp; omega)]
  simp [hi]
theorem QmQ (s t:List UInt8) (n:Int) (k:Nat) (hk:k<=8):∀ i,i<=k->Qly (Qao s n k ++ t) s.length i = ((u64N n % 2 ^ (8 * i):Nat):Int)
  | 0,_=>by simp [Qly,Nat.mod_one]
  | i + 1,hi=>by
    have ih:=QmQ s t n k hk i (by omega)
    have h8:i < 8:=by omega
    unfold Qly
    rw [ih,QvG s t n k i (by omega),QtP n i h8,QiX i h8]
    have hb:u64N n / 2 ^ (8 * i) % 256 < 256:=Nat.mod_lt _ (by omega)
    have hw:IntKind.u64.wrap ((u64N n / 2 ^ (8 * i) % 256:Nat):Int) = ((u64N n / 2 ^ (8 * i) % 256:Nat):Int):=by rw [QhC]; unfold u64N at *; omega
    rw [hw]
    have hp:(2:Nat) ^ (8 * i)<=2 ^ 56:=Nat.pow_le_pow_right (by omega) (by omega)
    have hlt:u64N n / 2 ^ (8 * i) % 256 * 2 ^ (8 * i) < 2 ^ 64:=by
      have:u64N n / 2 ^ (8 * i) % 256 * 2 ^ (8 * i)<=255 * 2 ^ 56:=Nat.mul_le_mul (by omega) hp
      omega
    have e2:((u64N n / 2 ^ (8 * i) % 256:Nat):Int) * 2 ^ (8 * i) = ((u64N n / 2 ^ (8 * i) % 256 * 2 ^ (8 * i):Nat):Int):=by
      rw [Int.natCast_mul,Int.natCast_pow]; rfl
    rw [e2]
    have hw2:IntKind.u64.wrap ((u64N n / 2 ^ (8 * i) % 256 * 2 ^ (8 * i):Nat):Int) = ((u64N n / 2 ^ (8 * i) % 256 * 2 ^ (8 * i):Nat):Int):=by
      generalize u64N n / 2 ^ (8 * i) % 256 * 2 ^ (8 * i) = z at hlt
      rw [QhC]; unfold u64N; omega
    rw [hw2,Qxm _ _ (Nat.lt_of_le_of_lt (Nat.mod_le _ _) (Qyt n)) hlt,QuK]
def rnd (r:Int):Int:=if bits .and .u32 r 1 = 1 then bits .xor .u32 (r.fdiv 2) 2197175160 else r.fdiv 2
def QoB:Nat->Int->Int
  | 0,r=>r
  | n + 1,r=>rnd (QoB n r)
def QBS (i:Nat):Int:=QoB 4 i
def QDD (i:Nat):List Int:=(List.range 16).map fun j=>if j < i then QBS j else 0
def QDm (r:Int):Int:=bits .xor .u32 (r.fdiv (2 ^ min 4 32)) ((QDD 16).getD (bits .and .u32 r 15).toNat 0)
def Qpz (r:Int) (b:UInt8):Int:=QDm (QDm (bits .xor .u32 r (IntKind.u32.wrap b.toNat)))
def QlY (s:List UInt8):Int:=s.foldl Qpz 4294967295
def QlX (s:List UInt8):Int:=bits .xor .u32 4294967295 (QlY s)
theorem QqW (s:List UInt8) (i:Nat) (h:i < s.length):QlY (s.take (i + 1)) = Qpz (QlY (s.take i)) (s.getD i 0):=by
  rw [QlY,List.take_succ_eq_append_getElem h,List.foldl_append]
  rw [List.getD_eq_getElem?_getD,List.getElem?_eq_getElem h]; rfl
theorem QDK (x:BitVec 32):rnd (x.toNat:Int) = ((rb x).toNat:Int):=by
  have h1:bits .and .u32 (x.toNat:Int) 1 = ((x &&& 1#32).toNat:Int):=QCU x 1#32
  have h2:(x.toNat:Int).fdiv 2 = ((x >>> 1).toNat:Int):=QBC x 1
  have h3:(x &&& 1#32).toNat = x.toNat % 2:=by rw [BitVec.toNat_and]; exact Nat.and_one_is_mod _
  have h4:x.getLsbD 0 = decide (x.toNat % 2 = 1):=by simp [BitVec.getLsbD,Nat.testBit_zero]
  unfold rnd rb
  rw [h1,h2,h3,h4]
  by_cases h:x.toNat % 2 = 1
  · rw [if_pos (by omega),if_pos (by simpa using h)]
    exact QpY _ polyB
  · rw [if_neg (by omega),if_neg (by simpa using h)]; simp
theorem Qxh (n:Nat) (x:BitVec 32):QoB n (x.toNat:Int) = ((rbN n x).toNat:Int):=by
  induction n with
  | zero=>rfl
  | succ n ih=>rw [QoB,ih,QDK]; rfl
theorem Qxu (x:BitVec 32):QDm (x.toNat:Int) = ((rbN 4 x).toNat:Int):=by
  have h1:bits .and .u32 (x.toNat:Int) 15 = ((x &&& 15#32).toNat:Int):=QCU x 15#32
  have h15:(x &&& 15#32).toNat < 16:=by rw [BitVec.toNat_and]; exact Nat.lt_succ_of_le Nat.and_le_right
  have h2:(QDD 16).getD (x &&& 15#32).toNat 0 = ((rbN 4 (x &&& 15#32)).toNat:Int):=by
    rw [<- Qxh]
    simp only [QDD,List.getD_eq_getElem?_getD,List.getElem?_map,List.getElem?_range h15,Option.map_some,Option.getD_some,QBS]
    rw [if_pos h15]
  have h3:(x.toNat:Int).fdiv (2 ^ min 4 32) = ((x >>> 4).toNat:Int):=QBC x 4
  have e1:x = (x &&& 15#32) ^^^ ((x >>> 4) <<< 4):=by
    apply BitVec.eq_of_getLsbD_eq
    intro i hi
    rw [BitVec.getLsbD_xor,BitVec.getLsbD_and,BitVec.getLsbD_shiftLeft,BitVec.getLsbD_ushiftRight]
    by_cases h:i < 4
    · have h15:(15#32).getLsbD i = true:=by
        rcases i with _ | _ | _ | _ | i<;>first | rfl | omega
      simp [h15,h]
    · have h15:(15#32).getLsbD i = false:=by
        have:(15#32).getLsbD i = (15:Nat).testBit i:=by simp [BitVec.getLsbD]
        rw [this]; apply Nat.testBit_lt_two_pow
        exact Nat.lt_of_lt_of_le (show 15 < 2 ^ 4 by omega) (Nat.pow_le_pow_right (by omega) (by omega))
      rw [h15]; simp [h,hi,show 4 + (i - 4) = i by omega]
  have e2:rbN 4 x = rbN 4 (x &&& 15#32) ^^^ (x >>> 4):=by
    have hs:rbN 4 ((x >>> 4) <<< 4) = x >>> 4:=QyA _ _ (fun i hi=>by rw [BitVec.getLsbD_ushiftRight]; exact BitVec.getLsbD_of_ge _ _ (by omega)) (by omega)
    conv=>lhs; rw [e1]
    rw [Qzf,hs]
  unfold QDm
  rw [h1,h3,Int.toNat_natCast,h2,QpY,e2,BitVec.xor_comm]
theorem QtQ (x:BitVec 32) (b:UInt8):Qpz (x.toNat:Int) b = ((cb x b).toNat:Int):=by
  unfold Qpz
  rw [QtT,QpY,Qxu,Qxu,<- Qzh]; rfl
theorem Qxz:∀ (s:List UInt8) (x:BitVec 32),s.foldl Qpz (x.toNat:Int) = ((s.foldl cb x).toNat:Int)
  | [],_=>rfl
  | b :: s,x=>by rw [List.foldl_cons,QtQ,Qxz s,List.foldl_cons]
theorem Qxd (s:List UInt8):QlY s = ((s.foldl cb 4294967295#32).toNat:Int):=Qxz s 4294967295#32
theorem QBy (s:List UInt8):QlX s = ((4294967295#32 ^^^ s.foldl cb 4294967295#32).toNat:Int):=by
  rw [QlX,Qxd]; exact QpY 4294967295#32 _
theorem QlW (s:List UInt8):0<=QlX s/\QlX s < 4294967296:=by
  rw [QBy]
  have:=(4294967295#32 ^^^ s.foldl cb 4294967295#32).isLt
  omega
def QyP (r:Int) (b:UInt8):Int:=QoB 8 (bits .xor .u32 r (IntKind.u32.wrap b.toNat))
theorem QuW (x:BitVec 32) (b:UInt8):QyP (x.toNat:Int) b = Qpz (x.toNat:Int) b:=by
  rw [QtQ,QyP,QtT,QpY,Qxh]; rfl
theorem Qoi (s:List UInt8) (i:Nat) (h:i < s.length):QlY (s.take (i + 1)) = QyP (QlY (s.take i)) (s.getD i 0):=by
  rw [QqW s i h,Qxd (s.take i),QuW]
theorem Qm6 (s:List UInt8) (hs:s.length<=100000000):VCalls prog 158 [.pv (.str s)] [] (Ret (.int .u32 (QlX s))):=by
  refine dd Tryz.func158 ?_
  simp (config:={ maxSteps:=2000000 }) (implicitDefEqProofs:=false) (disch:=first | omega | assumption | (simp only []; done) | fail) only [go_sem,Tryz.f158]
  refine Qqs (fun i:{i:Nat // i<=s.length}=>⟨32,0,[(4,.int .i64 i.1),(3,.int .u32 (QlY (s.take i.1))),(0,.pv (.str s))],[]⟩) (fun i=>s.length - i.1) ⟨0,by omega⟩ (by refine ⟨rfl,rfl,by simp,?_,?_,.inl rfl⟩<;>(repeat' apply And.intro)<;>first | rfl | trivial) ?_
  intro i
  obtain ⟨i,hi⟩:=i
  dsimp only
  simp (config:={ maxSteps:=2000000 }) (implicitDefEqProofs:=false) (disch:=first | omega | assumption | (simp only []; done) | fail) only [go_sem,Nat.reduceBEq,Int.reduceBEq]
  refine Qat (fun hc=>?_) (fun hc=>?_)<;>simp only [decide_eq_true_eq,decide_eq_false_iff_not,Bool.or_eq_true,Bool.and_eq_true,Bool.or_eq_false_iff,Bool.and_eq_false_imp,Bool.not_eq_true',Bool.not_eq_false',beq_iff_eq,beq_eq_false_iff_ne,bne_iff_ne,bne_eq_false_iff_eq,ne_eq] at hc
  · have hlt:i < s.length:=by omega
    have hg:s[i]? = some (s.getD i 0):=by rw [List.getD_eq_getElem?_getD,List.getElem?_eq_getElem hlt]; rfl
    simp (config:={ maxSteps:=2000000 }) (implicitDefEqProofs:=false) (disch:=first | omega | assumption | (simp only []; done) | fail) only [go_sem,Nat.reduceBEq,Int.reduceBEq,hg]
    refine Qqs (fun j:{j:Nat // j<=8}=>⟨32,0,[(5,.int .i64 j.1),(4,.int .i64 i),(3,.int .u32 (QoB j.1 (bits .xor .u32 (QlY (s.take i)) (IntKind.u32.wrap (s.getD i 0).toNat)))),(0,.pv (.str s))],[]⟩) (fun j=>8 - j.1) ⟨0,by omega⟩ (by refine ⟨rfl,rfl,by simp,?_,?_,.inl rfl⟩<;>(repeat' apply And.intro)<;>first | rfl | trivial) ?_
    intro j
    obtain ⟨j,hj⟩:=j
    dsimp only
    simp (config:={ maxSteps:=2000000 }) (implicitDefEqProofs:=false) (disch:=first | omega | assumption | (simp only []; done) | fail) only [go_sem]
    refine Qat (fun hcj=>?_) (fun hcj=>?_)<;>simp only [decide_eq_true_eq,decide_eq_false_iff_not,Bool.or_eq_true,Bool.and_eq_true,Bool.or_eq_false_iff,Bool.and_eq_false_imp,Bool.not_eq_true',Bool.not_eq_false',beq_iff_eq,beq_eq_false_iff_ne,bne_iff_ne,bne_eq_false_iff_eq,ne_eq] at hcj
    · simp (config:={ maxSteps:=2000000 }) (implicitDefEqProofs:=false) (disch:=first | omega | assumption | (simp only []; done) | fail) only [go_sem,Nat.reduceBEq,Int.reduceBEq]
      refine Qat (fun hb=>?_) (fun hb=>?_)<;>simp only [decide_eq_true_eq,decide_eq_false_iff_not,Bool.or_eq_true,Bool.and_eq_true,Bool.or_eq_false_iff,Bool.and_eq_false_imp,Bool.not_eq_true',Bool.not_eq_false',beq_iff_eq,beq_eq_false_iff_ne,bne_iff_ne,bne_eq_false_iff_eq,ne_eq] at hb
      · simp (config:={ maxSteps:=2000000 }) (implicitDefEqProofs:=false) (disch:=first | omega | assumption | (simp only []; done) | fail) only [go_sem,Nat.reduceBEq,Int.reduceToNat,Int.reduceBEq]
        refine ⟨⟨j + 1,by omega⟩,by show 8 - (j + 1) < 8 - j; omega,?_⟩
        have e:QoB (j + 1) (bits .xor .u32 (QlY (s.take i)) (IntKind.u32.wrap (s.getD i 0).toNat)) = bits .xor .u32 ((QoB j (bits .xor .u32 (QlY (s.take i)) (IntKind.u32.wrap (s.getD i 0).toNat))).fdiv 2) 2197175160:=by rw [QoB,rnd,if_pos hb]
        rw [e]
        exact (by refine ⟨rfl,rfl,by simp,?_,?_,.inl rfl⟩<;>(repeat' apply And.intro)<;>first | rfl | trivial)
      · simp (config:={ maxSteps:=2000000 }) (implicitDefEqProofs:=false) (disch:=first | omega | assumption | (simp only []; done) | fail) only [go_sem,Nat.reduceBEq,Int.reduceToNat,Int.reduceBEq]
        refine ⟨⟨j + 1,by omega⟩,by show 8 - (j + 1) < 8 - j; omega,?_⟩
        have e:QoB (j + 1) (bits .xor .u32 (QlY (s.take i)) (IntKind.u32.wrap (s.getD i 0).toNat)) = (QoB j (bits .xor .u32 (QlY (s.take i)) (IntKind.u32.wrap (s.getD i 0).toNat))).fdiv 2:=by rw [QoB,rnd,if_neg hb]
        rw [e]
        exact (by refine ⟨rfl,rfl,by simp,?_,?_,.inl rfl⟩<;>(repeat' apply And.intro)<;>first | rfl | trivial)
    · have hj8:j = 8:=by omega
      subst hj8
      simp (config:={ maxSteps:=2000000 }) (implicitDefEqProofs:=false) (disch:=first | omega | assumption | (simp only []; done) | fail) only [go_sem,↓reduceIte,Nat.reduceBEq,Int.reduceBEq]
      refine ⟨⟨i + 1,hlt⟩,by show s.length - (i + 1) < s.length - i; omega,?_⟩
      have e:QlY (s.take (i + 1)) = QoB 8 (bits .xor .u32 (QlY (s.take i)) (IntKind.u32.wrap (s.getD i 0).toNat)):=Qoi s i hlt
      rw [e]
      exact (by refine ⟨rfl,rfl,by simp,?_,?_,.inl rfl⟩<;>(repeat' apply And.intro)<;>first | rfl | trivial)
  · simp (config:={ maxSteps:=2000000 }) (implicitDefEqProofs:=false) (disch:=first | omega | assumption | (simp only []; done) | fail) only [go_sem,↓reduceIte,Nat.reduceLT,Nat.reduceBEq,Int.reduceLT,Int.reduceBEq]
    rw [List.take_of_length_le (by omega)]
    rfl
def frm (s:List UInt8):List UInt8:=if s.length<=8392 then Qao (Qao [] s.length 4 ++ s) (QlX (Qao [] s.length 4 ++ s)) 4 else []
theorem Qnd (s:List UInt8) (hs:s.length<=90000000):VCalls prog 214 [.pv (.str s)] [] (Ret (.pv (.str (frm s)))):=by
  refine dd Tryz.func214 ?_
  by_cases h:s.length<=8392
  · have h1:¬ 8392 < (s.length:Int):=by omega
    have hl:=Qq [] s.length 4
    simp only [List.length_nil,Nat.zero_add] at hl
    have hl2:(Qao [] s.length 4 ++ s).length<=10000:=by rw [List.length_append,hl]; omega
    simp (config:={ maxSteps:=2000000 }) (implicitDefEqProofs:=false) (disch:=first | omega | assumption | (simp only []; done) | fail) only [go_sem,Nat.reduceBEq,Int.reduceBEq,Tryz.f214,h1]
    refine Qas (Qb7 [] (by simp) s.length 4 (by omega) (by omega)) rfl ?_
    simp (config:={ maxSteps:=2000000 }) (implicitDefEqProofs:=false) (disch:=first | omega | assumption | (simp only []; done) | fail) only [go_sem,Nat.reduceBEq,Int.reduceBEq]
    refine Qas (Qm6 _ (by omega)) rfl ?_
    have hx:=QlW (Qao [] s.length 4 ++ s)
    simp (config:={ maxSteps:=2000000 }) (implicitDefEqProofs:=false) (disch:=first | omega | assumption | (simp only []; done) | fail) only [go_sem,Nat.reduceLT,Nat.reduceBEq,Int.reduceLT,Int.reduceBEq]
    refine Qas (Qb7 (Qao [] s.length 4 ++ s) (by omega) _ 4 (by omega) (by omega)) rfl ?_
    simp (config:={ maxSteps:=2000000 }) (implicitDefEqProofs:=false) (disch:=first | omega | assumption | (simp only []; done) | fail) only [go_sem,↓reduceIte,frm,h]
  · have h1:8392 < (s.length:Int):=by omega
    simp (config:={ maxSteps:=2000000 }) (implicitDefEqProofs:=false) (disch:=first | omega | assumption | (simp only []; done) | fail) only [go_sem,↓reduceIte,Nat.reduceBEq,Int.reduceBEq,Tryz.f214,h1,frm,h]
def leN (s:List UInt8) (a:Nat):Nat->Nat
  | 0=>0
  | i + 1=>leN s a i + (s.getD (a + i) 0).toNat * 2 ^ (8 * i)
theorem QkO (s:List UInt8) (a:Nat):∀ i,leN s a i < 2 ^ (8 * i)
  | 0=>by simp [leN]
  | i + 1=>by
    have ih:=QkO s a i
    have hb:=(s.getD (a + i) 0).toNat_lt
    rw [leN,Nat.mul_add,Nat.pow_add]
    have:(s.getD (a + i) 0).toNat * 2 ^ (8 * i)<=255 * 2 ^ (8 * i):=Nat.mul_le_mul_right _ (by omega)
    omega
theorem QeG (s:List UInt8) (a:Nat):∀ i,i<=8->Qly s a i = (leN s a i:Int)
  | 0,_=>rfl
  | i + 1,hi=>by
    have ih:=QeG s a i (by omega)
    have hlt:=QkO s a i
    have hb:=(s.getD (a + i) 0).toNat_lt
    unfold Qly
    rw [ih,QiX i (by omega)]
    have hw:IntKind.u64.wrap ((s.getD (a + i) 0).toNat:Int) = ((s.getD (a + i) 0).toNat:Int):=by rw [QhC]; unfold u64N; omega
    have hp:(2:Nat) ^ (8 * i)<=2 ^ 56:=Nat.pow_le_pow_right (by omega) (by omega)
    have hm:(s.getD (a + i) 0).toNat * 2 ^ (8 * i)<=255 * 2 ^ 56:=Nat.mul_le_mul (by omega) hp
    have e2:((s.getD (a + i) 0).toNat:Int) * 2 ^ (8 * i) = (((s.getD (a + i) 0).toNat * 2 ^ (8 * i):Nat):Int):=by
      rw [Int.natCast_mul,Int.natCast_pow]; rfl
    rw [hw,e2]
    have hw2:IntKind.u64.wrap (((s.getD (a + i) 0).toNat * 2 ^ (8 * i):Nat):Int) = (((s.getD (a + i) 0).toNat * 2 ^ (8 * i):Nat):Int):=by
      generalize (s.getD (a + i) 0).toNat * 2 ^ (8 * i) = z at hm
      rw [QhC]; unfold u64N; omega
    have h64:leN s a i < 2 ^ 64:=Nat.lt_of_lt_of_le hlt (Nat.pow_le_pow_right (by omega) (by omega))
    rw [hw2,Qxm _ _ h64 (by omega),leN]
    congr 1
    rw [Nat.or_comm,Nat.mul_comm _ (2 ^ (8 * i)),<- Nat.two_pow_add_eq_or_of_lt hlt,Nat.add_comm]
def n4 (s:List UInt8) (a:Nat):Nat:=leN s a 4
theorem Qzw (s:List UInt8) (a:Nat):n4 s a < 4294967296:=QkO s a 4
theorem QxL (s:List UInt8) (a:Nat):IntKind.i64.wrap (Qly s a 4) = (n4 s a:Int):=by
  rw [QeG s a 4 (by omega)]
  have:=Qzw s a
  unfold n4 at this |-
  rw [IntKind.wrap_i64]; omega
theorem QBR (s:List UInt8) (hs:s.length<=100000000) (a:Nat) (hh:a + 4<=s.length):VCalls prog 217 [.pv (.str s),.int .i64 a,.int .i64 4] [] (Ret (.tup [.int .i64 (n4 s a),.int .i64 0])):=by
  have h:=QhR s (by omega) a 4 (by omega) hh
  rwa [QxL] at h
section
attribute [local go_sem] E.d Ch0 Ce0
theorem QzE (l:List UInt8):decide ((l.length:Int)<=8192) = decide (l.length<=8192):=by
  apply decide_eq_decide.2; omega
def E.shp (e:E):E:=
  if e.kind = 1 then ⟨e.lsn,e.kind,e.tx,e.ptx,e.ppg,0,e.c,[]⟩
  else if e.kind = 2 then ⟨e.lsn,e.kind,e.tx,e.ptx,e.ppg,e.ref,e.c,[]⟩
  else if e.kind = 3\/e.kind = 4\/e.kind = 5 then ⟨e.lsn,e.kind,e.tx,e.ptx,0,0,Ch0,[]⟩
  else if e.kind = 6\/e.kind = 8 then ⟨e.lsn,e.kind,0,0,0,0,Ch0,e.blob⟩
  else if e.kind = 7 then ⟨e.lsn,e.kind,0,0,0,e.ref,⟨e.c.pg,0,Ce0,Ce0⟩,[]⟩
  else ⟨e.lsn,e.kind,0,0,0,0,Ch0,[]⟩
def E.shok (e:E):Bool:=
  if e.kind = 1 then e.c.okB && decide (1<=e.tx) && decide (e.tx<=1073741824)
  else if e.kind = 2 then e.c.okB && decide (0 < e.ptx) && decide (1<=e.ref) && decide (e.ref<=e.ptx) && decide (1<=e.tx) && decide (e.tx<=1073741824)
  else if e.kind = 3\/e.kind = 4\/e.kind = 5 then decide (1<=e.tx) && decide (e.tx<=1073741824) && decide (0 < e.ptx)
  else if e.kind = 6\/e.kind = 8 then decide (e.blob.length<=8192)
  else if e.kind = 7 then decide (0<=e.c.pg) && decide (e.c.pg < 64)
  else false
def shD (e:E):DV:=.tup [.agg e.shp.d,.bool e.shok]
theorem QBD (lsn kind tx ptx ppg ref:Int) (c:Ch) (blob:List UInt8):(⟨lsn,kind,tx,ptx,ppg,ref,c,blob⟩:E).shp =
  if kind = 1 then ⟨lsn,kind,tx,ptx,ppg,0,c,[]⟩
  else if kind = 2 then ⟨lsn,kind,tx,ptx,ppg,ref,c,[]⟩
  else if kind = 3\/kind = 4\/kind = 5 then ⟨lsn,kind,tx,ptx,0,0,Ch0,[]⟩
  else if kind = 6\/kind = 8 then ⟨lsn,kind,0,0,0,0,Ch0,blob⟩
  else if kind = 7 then ⟨lsn,kind,0,0,0,ref,⟨c.pg,0,Ce0,Ce0⟩,[]⟩
  else ⟨lsn,kind,0,0,0,0,Ch0,[]⟩:=rfl
theorem Qyz (lsn kind tx ptx ppg ref:Int) (c:Ch) (blob:List UInt8):(⟨lsn,kind,tx,ptx,ppg,ref,c,blob⟩:E).shok =
  if kind = 1 then c.okB && decide (1<=tx) && decide (tx<=1073741824)
  else if kind = 2 then c.okB && decide (0 < ptx) && decide (1<=ref) && decide (ref<=ptx) && decide (1<=tx) && decide (tx<=1073741824)
  else if kind = 3\/kind = 4\/kind = 5 then decide (1<=tx) && decide (tx<=1073741824) && decide (0 < ptx)
  else if kind = 6\/kind = 8 then decide (blob.length<=8192)
  else if kind = 7 then decide (0<=c.pg) && decide (c.pg < 64)
  else false:=rfl
theorem QyB (e:E):VCalls prog 78 [.agg e.d] [] (Ret (shD e)):=by
  refine dd Tryz.func78 ?_
  unfold shD
  obtain ⟨lsn,kind,tx,ptx,ppg,ref,c,blob⟩:=e
  have q1:=QrU c
  dsimp only [Ch.d] at q1
  rw [QBD,Qyz]
  generalize c.okB = K at *
  rcases Qe1 kind with hk | rfl | rfl | rfl | rfl | rfl | rfl | rfl | rfl
  · rw [if_neg (by omega),if_neg (by omega),if_neg (by omega),if_neg (by omega),if_neg (by omega),if_neg (by omega),if_neg (by omega),if_neg (by omega),if_neg (by omega),if_neg (by omega)]
    have k1:(kind == 1) = false:=by simp; omega
    have k2:(kind == 2) = false:=by simp; omega
    have k3:(kind == 3) = false:=by simp; omega
    have k4:(kind == 4) = false:=by simp; omega
    have k5:(kind == 5) = false:=by simp; omega
    have k6:(kind == 6) = false:=by simp; omega
    have k7:(kind == 7) = false:=by simp; omega
    have k8:(kind == 8) = false:=by simp; omega
    (unfold Tryz.f78; refine rn (And.intro @k1 (And.intro @k2 (And.intro @k3 (And.intro @k4 (And.intro @k5 (And.intro @k6 (And.intro @k7 @k8))))))) ?_; try with_reducible exact ⟨⟩)
  all_goals
    (unfold Tryz.f78; refine rn trivial ?_)
    refine rn F ?_
    repeat' (first
      | with_reducible exact ⟨⟩
      | (refine sG F ?_ ?_<;>intro hZ)
      | refine vp F (q1) ?_
      | (refine Qd (id:=5) [0,1,2,3,4,5,6,7,8] [⟨[],[],9,[2,3,4,5,6,7],[10]⟩,⟨[],[],11,[4,5,6,7],[12]⟩,⟨[],[],13,[6,7],[14]⟩,⟨[],[],15,[],[]⟩] (by kernel_rfl) (by kernel_rfl) ?_; refine rn F ?_)
      | (refine Qd (id:=10) [0,1,2,3,4,5,6,7,8,9,10,11] [⟨[],[],12,[1,2,3,4,5,6,8,9,10,11],[]⟩,⟨[],[],13,[],[]⟩] (by kernel_rfl) (by kernel_rfl) ?_; refine rn F ?_)
      | (refine Qd (id:=14) [0,1,2,3,4] [⟨[],[],5,[2,3],[6]⟩,⟨[],[],7,[],[]⟩] (by kernel_rfl) (by kernel_rfl) ?_; refine rn F ?_)
      | (refine Qd (id:=15) [0,1,2,3,4,5,6,7,8,9,10,11,12,13] [⟨[],[],14,[1,2,3,4,5,6,7,8,10,11,12,13],[]⟩,⟨[],[],15,[],[]⟩] (by kernel_rfl) (by kernel_rfl) ?_; refine rn F ?_)
      | (refine Qd (id:=19) [0,1,2,3,4] [⟨[],[],5,[1,2,3,4],[]⟩,⟨[],[],6,[],[]⟩] (by kernel_rfl) (by kernel_rfl) ?_; refine rn F ?_)
      | (refine Qd (id:=21) [0,1,2,3,4,5] [⟨[],[],6,[2,3,4],[7,8]⟩,⟨[],[],9,[7],[]⟩] (by kernel_rfl) (by kernel_rfl) ?_; refine rn F ?_)
      | (refine Qd (id:=22) [0,1,2,3,4,5,6,7,8,9,10] [⟨[],[],11,[1,2,3,4,6,7,8,9,10],[]⟩,⟨[],[],12,[],[]⟩] (by kernel_rfl) (by kernel_rfl) ?_; refine rn F ?_))
  all_goals first | rfl | (simp [Ch0,Ce0,QzE]; done)
def eqE (x y:E):Bool:=x.lsn == y.lsn && (x.kind == y.kind && (x.tx == y.tx && (x.ptx == y.ptx && (x.ppg == y.ppg && (x.ref == y.ref && (x.c.pg == y.c.pg && (x.c.sl == y.c.sl && (x.c.b.set == y.c.b.set && (x.c.b.data == y.c.b.data && (x.c.a.set == y.c.a.set && (x.c.a.data == y.c.a.data && x.blob == y.blob)))))))))))
theorem QCV (x y:E):QT x.d y.d [(0,1),(1,1),(2,1),(3,1),(4,1),(5,1),(6,1),(7,1),(8,0),(9,2),(10,0),(11,2),(12,2)] = some (eqE x y):=by
  simp [QT,QaO,E.d,eqE]
def E.okR (e:E):Bool:=e.shok && eqE e.shp e && decide (1<=e.lsn) && decide (e.lsn<=1099511627776) && bef e.ptx e.lsn && bef e.ppg e.lsn && bef e.ref e.lsn
theorem Qq8 (e:E):VCalls prog 61 [.agg e.d] [] (Ret (.bool e.okR)):=by
  refine dd Tryz.func61 ?_
  have hq:=QCV e.shp e
  have hs:=QyB e
  unfold shD at hs
  simp only [E.d] at hq hs
  have b1:=Qgt e.ptx e.lsn
  have b2:=Qgt e.ppg e.lsn
  have b3:=Qgt e.ref e.lsn
  have e1:e.okR = (e.shok && eqE e.shp e && decide (1<=e.lsn) && decide (e.lsn<=1099511627776) && bef e.ptx e.lsn && bef e.ppg e.lsn && bef e.ref e.lsn):=rfl
  generalize e.okR = R at *
  generalize bef e.ptx e.lsn = B1 at *
  generalize bef e.ppg e.lsn = B2 at *
  generalize bef e.ref e.lsn = B3 at *
  generalize e.shp = s at *
  generalize e.shok = ok at *
  generalize eqE s e = q at *
  (unfold Tryz.f61; refine rn trivial ?_)
  have F:=@hq
  refine rn F ?_
  repeat' (first
    | with_reducible exact ⟨⟩
    | (refine sG F ?_ ?_<;>intro hZ)
    | refine vp F (hs) ?_
    | refine vp F (b1) ?_
    | refine vp F (b2) ?_
    | refine vp F (b3) ?_)
  all_goals (congr 3; rw [e1,Bool.eq_iff_iff]; clear e1 b1 b2 b3 hs hq; simp; first | omega | grind)
theorem QB7 (e:E):e.okR = e.okB:=by
  obtain ⟨lsn,kind,tx,ptx,ppg,ref,⟨pg,sl,⟨b1,b2⟩,⟨a1,a2⟩⟩,blob⟩:=e
  rw [Bool.eq_iff_iff]
  by_cases h:kind < 1\/8 < kind
  · have e1:E.shok ⟨lsn,kind,tx,ptx,ppg,ref,⟨pg,sl,⟨b1,b2⟩,⟨a1,a2⟩⟩,blob⟩ = false:=by unfold E.shok; rw [if_neg (by dsimp only; omega),if_neg (by dsimp only; omega),if_neg (by dsimp only; omega),if_neg (by dsimp only; omega),if_neg (by dsimp only; omega)]
    have e2:E.kindB ⟨lsn,kind,tx,ptx,ppg,ref,⟨pg,sl,⟨b1,b2⟩,⟨a1,a2⟩⟩,blob⟩ = false:=by unfold E.kindB; rw [if_neg (by dsimp only; omega),if_neg (by dsimp only; omega),if_neg (by dsimp only; omega),if_neg (by dsimp only; omega),if_neg (by dsimp only; omega)]
    simp [E.okR,E.okB,e1,e2]
  · have hk:kind = 1\/kind = 2\/kind = 3\/kind = 4\/kind = 5\/kind = 6\/kind = 7\/kind = 8:=by omega
    rcases hk with hk | hk | hk | hk | hk | hk | hk | hk<;>subst hk
    all_goals
      simp only [E.okR,E.okB,E.shok,E.shp,E.kindB,eqE,bef,txB,Ch.no,Ce.no,Ch.ix,Ch0,Ce0,Bool.and_eq_true,decide_eq_true_eq,beq_iff_eq,bne_iff_ne,Bool.not_eq_true',reduceIte,Int.reduceEq,or_self,or_false,false_or,or_true,true_or]
      grind
theorem Qcq (e:E):VCalls prog 61 [.agg e.d] [] (Ret (.bool e.okB)):=by
  rw [<- QB7]; exact Qq8 e
end
section
structure Tx where
  id:Int
  st:Int
  n:Int
  b:Int
  l:List Int
  s:List Int
def Qah:Enc Tx:=⟨6,fun t=>[.lit (.int .i64 t.id),.lit (.int .i64 t.st),.lit (.int .i64 t.n),.lit (.int .i64 t.b),.sl (fz Q0 t.l),.sl (fz Q0 t.s)],by decide,fun _=>rfl⟩
def Tx.d (t:Tx):List DV:=[.int .i64 t.id,.int .i64 t.st,.int .i64 t.n,.int .i64 t.b,.pv (.sl (fz Q0 t.l)),.pv (.sl (fz Q0 t.s))]
def QAB (l:List Int) (lo hi d:Int) (i:Nat):Bool:=decide (lo<=l.getD i 0) && decide (l.getD i 0<=hi) && (decide (i = 0) || decide (l.getD (i - 1) 0 + d<=l.getD i 0))
def QpT (l:List Int) (lo hi d:Int):Bool:=(List.range l.length).all (QAB l lo hi d)
theorem QeF (l:List Int) (lo hi d:Int) (i:Nat):QAB l lo hi d i = true ↔ lo<=l.getD i 0/\l.getD i 0<=hi/\(i = 0\/l.getD (i - 1) 0 + d<=l.getD i 0):=by
  simp only [QAB,Bool.and_eq_true,Bool.or_eq_true,decide_eq_true_eq,and_assoc]
def Tx.sm (t:Tx):Prop:=t.l.length<=9223372036854775807/\t.s.length<=9223372036854775807
def Tx.hdB (t:Tx):Bool:=decide (1<=t.id) && decide (t.id<=1073741824) && decide (1<=t.st) && decide (t.st<=3) && decide (0<=t.n) && decide (t.n<=1099511627776) && (decide (t.b = 0) || (decide (t.st = 2) && decide (0 < t.b) && decide (t.b<=t.n))) && decide (t.l.length<=4096) && decide (t.s.length<=8)
def Tx.okB (t:Tx):Bool:=t.hdB && QpT t.l 1 t.n 1 && QpT t.s 0 t.n 0
def Tx0:Tx:=⟨0,0,0,0,[],[]⟩
def tC (l:List Tx) (i:Nat):Bool:=(l.getD i Tx0).okB && (decide (i = 0) || decide ((l.getD (i - 1) Tx0).id < (l.getD i Tx0).id))
theorem Qm1 (l:List Tx) (i:Nat):tC l i = true ↔ (l.getD i Tx0).okB = true/\(i = 0\/(l.getD (i - 1) Tx0).id < (l.getD i Tx0).id):=by
  simp only [tC,Bool.and_eq_true,Bool.or_eq_true,decide_eq_true_eq]
def QdM (l:List Tx):Bool:=decide (l.length<=64) && (List.range l.length).all (tC l)
def smL (l:List Tx):Prop:=l.length<=1000000/\∀ t ∈ l,t.sm
theorem QnH (l:List Tx) (i:Nat) (h:i < l.length):(fz Qah l)[i]? = some [.lit (.int .i64 l[i].id),.lit (.int .i64 l[i].st),.lit (.int .i64 l[i].n),.lit (.int .i64 l[i].b),.sl (fz Q0 l[i].l),.sl (fz Q0 l[i].s)]:=QhZ Qah l i h
structure Pass {α:Type} (l:List α) (p:α->Prop) where
  i:Nat
  hi:i<=l.length
  no:∀ x ∈ l.take i,¬ p x
def Pass.start {α:Type} (l:List α) (p:α->Prop):Pass l p:=⟨0,Nat.zero_le _,by simp⟩
def Pass.next {α:Type} {l:List α} {p:α->Prop} (s:Pass l p) (h:s.i < l.length) (hp:¬ p l[s.i]):Pass l p :=
  ⟨s.i + 1,h,fun x hx=>by
    rw [List.take_succ_eq_append_getElem h,List.mem_append] at hx
    rcases hx with hx | hx
    · exact s.no x hx
    · simp at hx; subst hx; exact hp⟩
theorem Pass.all {α:Type} {l:List α} {p:α->Prop} (s:Pass l p) (h:¬ s.i < l.length):∀ x ∈ l,¬ p x:=by
  have:=s.no
  rwa [List.take_of_length_le (by omega)] at this
def Qg7 {α:Type} (l:List α) (p:α->Bool):Int:=if l.any p = true then (l.findIdx p:Int) else -1
theorem Qmv {α:Type} (l:List α) (p:α->Bool) (i:Nat) (h:i < l.length) (hx:p l[i] = true) (no:∀ x ∈ l.take i,¬ p x = true):Qg7 l p = i:=by
  rw [Qg7,if_pos (List.any_eq_true.2 ⟨l[i],List.getElem_mem h,hx⟩)]
  congr 1
  rw [List.findIdx_eq h]
  refine ⟨hx,fun j hj=>?_⟩
  have:=no l[j] (List.mem_take_iff_getElem.2 ⟨j,by omega,rfl⟩)
  simpa using this
theorem QsO {α:Type} (l:List α) (p:α->Bool):(Qg7 l p = -1/\l.find? p = none)\/∃ i,∃ h:i < l.length,Qg7 l p = i/\l.find? p = some l[i]:=by
  by_cases ha:l.any p = true
  · obtain ⟨x,hm,hp⟩:=List.any_eq_true.1 ha
    have hlt:=List.findIdx_lt_length_of_exists ⟨x,hm,hp⟩
    refine .inr ⟨l.findIdx p,hlt,by rw [Qg7,if_pos ha],?_⟩
    rw [List.find?_eq_some_iff_getElem]
    refine ⟨List.findIdx_getElem (w:=hlt),_,hlt,rfl,fun j hj=>?_⟩
    have:=List.not_of_lt_findIdx hj
    simpa using this
  · refine .inl ⟨by rw [Qg7,if_neg ha],?_⟩
    rw [List.find?_eq_none]
    intro x hx hp
    exact ha (List.any_eq_true.2 ⟨x,hx,hp⟩)
def lo {α:Type} (l:List α) (f:α->Bool):Nat:=(l.takeWhile f).length
def QFi {α:Type} (l:List α) (f:α->Bool):Prop:=∀ i j:Nat,∀ hi:i < l.length,∀ hj:j < l.length,i < j->f l[j] = true->f l[i] = true
theorem QDN {α:Type} (l:List α) (f:α->Bool):lo l f<=l.length:=(List.takeWhile_sublist _).length_le
theorem QCh {α:Type} (l:List α) (f:α->Bool) (i:Nat) (hi:i<=l.length) (h1:∀ k,∀ hk:k < l.length,k < i->f l[k] = true) (h2:∀ hi:i < l.length,f l[i] = false):lo l f = i:=by
  unfold lo
  induction l generalizing i with
  | nil=>simp at hi; subst hi; rfl
  | cons a r ih =>
    cases i with
    | zero =>
      have:=h2 (by simp)
      simp only [List.getElem_cons_zero] at this
      rw [List.takeWhile_cons,this]; rfl
    | succ i =>
      have h0:=h1 0 (by simp) (by omega)
      simp only [List.getElem_cons_zero] at h0
      rw [List.takeWhile_cons,h0]
      simp only [if_true,List.length_cons]
      rw [ih i (by simpa using hi) (fun k hk hki=>h1 (k + 1) (by simpa using hk) (by omega)) (fun hi=>h2 (by simpa using hi))]
structure BS {α:Type} (l:List α) (f:α->Bool) where
  i:Nat
  j:Nat
  hij:i<=j
  hj:j<=l.length
  h1:∀ k,∀ hk:k < l.length,k < i->f l[k] = true
  h2:∀ hj:j < l.length,f l[j] = false
def BS.start {α:Type} (l:List α) (f:α->Bool):BS l f:=⟨0,l.length,Nat.zero_le _,Nat.le_refl _,fun k hk h=>by omega,fun h=>by omega⟩
def BS.up {α:Type} {l:List α} {f:α->Bool} (s:BS l f) (hf:QFi l f) (h:Nat) (h1:s.i<=h) (h2:h < s.j) (hx:f (l[h]'(Nat.lt_of_lt_of_le h2 s.hj)) = true):BS l f :=
  ⟨h + 1,s.j,h2,s.hj,fun k hk hki=>by
    rcases Nat.lt_or_ge k h with hlt | hge
    · exact hf k h hk (Nat.lt_of_lt_of_le h2 s.hj) hlt hx
    · obtain rfl:k = h:=by omega
      exact hx,s.h2⟩
theorem BS.fin {α:Type} {l:List α} {f:α->Bool} (s:BS l f) (h:¬ s.i < s.j):lo l f = s.i:=by
  have e:s.i = s.j:=by have:=s.hij; omega
  exact QCh l f s.i (by have:=s.hj; omega) s.h1 (fun hi=>by
    have:=s.h2 (e ▸ hi)
    simpa only [e] using this)
theorem Qo2 (l:List Tx) (i:Nat) (h:i < l.length):(fz Qah l)[i]? = some [.lit (.int .i64 (l.getD i Tx0).id),.lit (.int .i64 (l.getD i Tx0).st),.lit (.int .i64 (l.getD i Tx0).n),.lit (.int .i64 (l.getD i Tx0).b),.sl (fz Q0 (l.getD i Tx0).l),.sl (fz Q0 (l.getD i Tx0).s)]:=by rw [Qn l i h]; exact QnH l i h
attribute [local go_sem] Tx.d QkI List.length_append List.length_take List.length_drop List.take_length Qb3 Qbt
theorem Qu8 (t:Tx) (hs:t.sm):VCalls prog 191 [.agg t.d] [] (Ret (.bool t.okB)):=by
  refine dd Tryz.func191 ?_
  obtain ⟨id,st,n,b,l,s⟩:=t
  obtain ⟨hs1,hs2⟩:=hs
  dsimp only at hs1 hs2
  have e:(⟨id,st,n,b,l,s⟩:Tx).okB = ((⟨id,st,n,b,l,s⟩:Tx).hdB && QpT l 1 n 1 && QpT s 0 n 0):=rfl
  have eh:(⟨id,st,n,b,l,s⟩:Tx).hdB = (decide (1<=id) && decide (id<=1073741824) && decide (1<=st) && decide (st<=3) && decide (0<=n) && decide (n<=1099511627776) && (decide (b = 0) || (decide (st = 2) && decide (0 < b) && decide (b<=n))) && decide (l.length<=4096) && decide (s.length<=8)):=rfl
  generalize (⟨id,st,n,b,l,s⟩:Tx).hdB = H at *
  generalize (⟨id,st,n,b,l,s⟩:Tx).okB = K at *
  unfold Tx.d
  (unfold Tryz.f191; refine rn trivial ?_)
  refine rn F ?_
  repeat' (first
    | with_reducible exact ⟨⟩
    | (refine sG F ?_ ?_<;>intro hZ)
    | (refine sB F ?_ ?_<;>intro hZ))
  all_goals first
    | (rw [e,Bool.eq_false_iff.2 (show ¬ H = true from fun h=>by rw [eh] at h; simp only [Bool.and_eq_true,Bool.or_eq_true,decide_eq_true_eq] at h; omega)]; rfl)
    | skip
  all_goals
    have hh:H = true:=by rw [eh]; simp only [Bool.and_eq_true,Bool.or_eq_true,decide_eq_true_eq]; omega
    refine Qh (fun q:Okay l.length (QAB l 1 n 1)=>⟨147,0,[(3,.int .i64 q.i),(1,.ptr 0 0)],[⟨218,true,[.int .i64 id,.int .i64 st,.int .i64 n,.int .i64 b,.pv (.sl (fz Q0 l)),.pv (.sl (fz Q0 s))]⟩]⟩) (fun q=>l.length - q.i) (Okay.start _ _) (by exact (gc [0])) ?_
    intro q
    have hqi:=q.hi
    have hg:=fun h:q.i < l.length=>QZ l q.i h
    have hgp:0 < (q.i:Int)->(q.i:Int) < l.length->(fz Q0 l)[q.i - 1]? = some [.lit (.int .i64 (l.getD (q.i - 1) 0))]:=fun h h2=>by
      exact QZ l (q.i - 1) (by omega)
    have F:=(And.intro @hg @hgp)
    refine rn F ?_
    repeat' (first
      | with_reducible exact ⟨⟩
      | (refine sG F ?_ ?_<;>intro hZ)
      | (refine sB F ?_ ?_<;>intro hZ)
      | (refine Qd (id:=8) [0,1,2,3,4,5,6,7,8,9,10,11,12,13,14,15,16,17,18,19,20,21,22,23,24,25,26,27,28,29,30,31,32,33] [] (by kernel_rfl) (by kernel_rfl) ?_; refine rn F ?_))
    all_goals first
      | (rw [e,QpT,QpT,Qbd (n:=l.length) (c:=QAB l 1 n 1) (i:=q.i) (by omega) (Bool.eq_false_iff.2 fun h=>by rw [QeF] at h; omega)]; simp)
      | (exact ⟨q.next (by omega) ((QeF _ _ _ _ _).2 (by omega)),by show l.length - (q.i + 1) < l.length - q.i; omega,(gc [0])⟩)
      | skip
    have hL:QpT l 1 n 1 = true:=q.all (by omega)
    clear hg hgp hqi
    refine Qh (fun q:Okay s.length (QAB s 0 n 0)=>⟨147,0,[(4,.int .i64 q.i),(1,.ptr 0 0)],[⟨218,true,[.int .i64 id,.int .i64 st,.int .i64 n,.int .i64 b,.pv (.sl (fz Q0 l)),.pv (.sl (fz Q0 s))]⟩]⟩) (fun q=>s.length - q.i) (Okay.start _ _) (by exact (gc [0])) ?_
    intro q
    have hqi:=q.hi
    have hg:=fun h:q.i < s.length=>QZ s q.i h
    have hgp:0 < (q.i:Int)->(q.i:Int) < s.length->(fz Q0 s)[q.i - 1]? = some [.lit (.int .i64 (s.getD (q.i - 1) 0))]:=fun h h2=>by
      exact QZ s (q.i - 1) (by omega)
    have F:=(And.intro @hg @hgp)
    refine rn F ?_
    repeat' (first
      | with_reducible exact ⟨⟩
      | (refine sG F ?_ ?_<;>intro hZ)
      | (refine sB F ?_ ?_<;>intro hZ)
      | (refine Qd (id:=13) [0,1,2,3,4,5,6,7,8,9,10,11,12,13,14,15,16,17,18,19,20,21,22,23,24,25,26,27,28,29,30,31,32,33] [] (by kernel_rfl) (by kernel_rfl) ?_; refine rn F ?_))
    all_goals first
      | (rw [e,QpT,QpT,Qbd (n:=s.length) (c:=QAB s 0 n 0) (i:=q.i) (by omega) (Bool.eq_false_iff.2 fun h=>by rw [QeF] at h; omega)]; simp)
      | (exact ⟨q.next (by omega) ((QeF _ _ _ _ _).2 (by omega)),by show s.length - (q.i + 1) < s.length - q.i; omega,(gc [0])⟩)
      | skip
    rw [e,hh,hL,show QpT s 0 n 0 = true from q.all (by omega)]
    rfl
theorem QbC (l:List Tx) (hl:smL l):VCalls prog 146 [.pv (.sl (fz Qah l))] [] (Ret (.bool (QdM l))):=by
  refine dd Tryz.func146 ?_
  obtain ⟨hl,hm⟩:=hl
  have hr:=fun (i:Nat) (h:i < l.length)=>Qu8 (l.getD i Tx0) (by rw [Qn l i h]; exact hm _ (List.getElem_mem h))
  unfold Tx.d at hr
  (unfold Tryz.f146; refine rn trivial ?_)
  refine rn F ?_
  repeat' (first
    | with_reducible exact ⟨⟩
    | (refine sB F ?_ ?_<;>intro hZ))
  · rw [QdM,decide_eq_false (by omega)]; rfl
  refine Qh (fun s:Okay l.length (tC l)=>⟨37,0,[(3,.int .i64 s.i),(0,.pv (.sl (fz Qah l)))],[]⟩) (fun s=>l.length - s.i) (Okay.start _ _) (gc []) ?_
  intro s
  have hsi:=s.hi
  have hg:=fun h:s.i < l.length=>Qo2 l s.i h
  have hgp:0 < (s.i:Int)->(s.i:Int) < l.length->(fz Qah l)[s.i - 1]? = some [.lit (.int .i64 (l.getD (s.i - 1) Tx0).id),.lit (.int .i64 (l.getD (s.i - 1) Tx0).st),.lit (.int .i64 (l.getD (s.i - 1) Tx0).n),.lit (.int .i64 (l.getD (s.i - 1) Tx0).b),.sl (fz Q0 (l.getD (s.i - 1) Tx0).l),.sl (fz Q0 (l.getD (s.i - 1) Tx0).s)]:=fun h h2=>by
    exact Qo2 l (s.i - 1) (by omega)
  have F:=(And.intro @hg @hgp)
  refine rn F ?_
  repeat' (first
    | with_reducible exact ⟨⟩
    | (refine sG F ?_ ?_<;>intro hZ)
    | (refine sB F ?_ ?_<;>intro hZ)
    | refine vp F (hr s.i (by omega)) ?_
    | (refine Qd (id:=6) [0,1,2,3] [⟨[],[],4,[0,1,2],[5,6,7,8,9,10,11,12,13,14,15,16,17,18,19,20,21,22,23]⟩] (by kernel_rfl) (by kernel_rfl) ?_; refine rn F ?_))
  all_goals first
    | (rw [QdM,Qbd (i:=s.i) (by omega) (Bool.eq_false_iff.2 fun h=>by rw [Qm1] at h; omega),Bool.and_false])
    | (rw [QdM,Qbd (i:=s.i) (by omega) (Bool.eq_false_iff.2 fun h=>by rw [Qm1] at h; first | exact absurd h.1 (by assumption) | (have h1:=h.1; simp_all)),Bool.and_false])
    | (rw [QdM,s.all (by omega),decide_eq_true (by omega)]; rfl)
    | (exact ⟨s.next (by omega) ((Qm1 _ _).2 ⟨by assumption,by omega⟩),by show l.length - (s.i + 1) < l.length - s.i; omega,(gc [])⟩)
    | skip
def QdU {α:Type} (l:List α) (p:α->Bool):List α:=l.filter fun x=>!p x
structure DF {α:Type} (l:List α) (p:α->Bool) where
  j:Nat
  hj:j<=l.length
  cur:List α
  hl:cur.length = l.length
  h1:cur.take (QdU (l.take j) p).length = QdU (l.take j) p
  h2:cur.drop j = l.drop j
  h3:(QdU (l.take j) p).length < j
def DF.i {α:Type} {l:List α} {p:α->Bool} (s:DF l p):Nat:=(QdU (l.take s.j) p).length
theorem QbI {α:Type} (l:List α) (p:α->Bool) (j:Nat) (h:j < l.length):QdU (l.take (j + 1)) p = QdU (l.take j) p ++ (if p l[j] = true then [] else [l[j]]):=by
  rw [List.take_succ_eq_append_getElem h,QdU,List.filter_append]
  cases hp:p l[j]<;>simp [QdU,hp]
theorem QoU {α:Type} (l:List α) (p:α->Bool) (h:∀ x ∈ l,¬ p x = true):QdU l p = l:=by
  rw [QdU,List.filter_eq_self]; intro x hx; simpa using h x hx
def DF.start {α:Type} (l:List α) (p:α->Bool) (i:Nat) (h:i < l.length) (hp:p l[i] = true) (no:∀ x ∈ l.take i,¬ p x = true):DF l p:=
  have e:QdU (l.take (i + 1)) p = l.take i:=by rw [QbI l p i h,if_pos hp,List.append_nil,QoU _ p no]
  have el:(l.take i).length = i:=by rw [List.length_take]; omega
  ⟨i + 1,h,l,rfl,by rw [e,el],rfl,by rw [e,el]; omega⟩
theorem DF.get {α:Type} {l:List α} {p:α->Bool} (s:DF l p) (h:s.j < l.length) (d:α):s.cur.getD s.j d = l[s.j]:=by
  have:=congrArg (fun x=>x[0]?) s.h2
  simp only [List.getElem?_drop,Nat.add_zero] at this
  rw [List.getD_eq_getElem?_getD,this,List.getElem?_eq_getElem h]; rfl
def DF.out {α:Type} {l:List α} {p:α->Bool} (s:DF l p) (h:s.j < l.length) (hp:p l[s.j] = true):DF l p :=
  have e:QdU (l.take (s.j + 1)) p = QdU (l.take s.j) p:=by rw [QbI l p s.j h,if_pos hp,List.append_nil]
  ⟨s.j + 1,h,s.cur,s.hl,by rw [e]; exact s.h1,by
    have:=congrArg (List.drop 1) s.h2
    rwa [List.drop_drop,List.drop_drop] at this,by rw [e]; have:=s.h3; omega⟩
theorem Qwd {α:Type} (l:List α) (p:α->Bool):(QdU l p).length<=l.length:=List.length_filter_le _ _
theorem QzD (l:List Tx):(cells Qah l).length = l.length * 6:=QG Qah l
theorem QA9 (l:List Tx) (n:Nat) (h:l.length * 6<=n):(cells Qah l).take n = cells Qah l:=by rw [List.take_of_length_le]; rw [QzD]; exact h
theorem QBB (l:List Tx) (T:TypeId) (a b:Nat) (h:a<=b/\b<=l.length):Qlr (some (none,T,6)) (fz Qah l) a b = some (.pv (.sl (fz Qah ((l.take b).drop a)))):=Qid Qah l T a b h
theorem QBA (l:List Tx):(fz Qah l = []\/(fz Qah l)[0]?.map List.length = some 6) = True:=Qfl Qah l
theorem Qs0 {n:Nat} {hp:Qa} {len:Nat} {l:List Tx} (h:l.length = len):QgN n hp 0 6 len (some (cells Qah l)) = some (.sl (fz Qah l)):=QU Qah h
theorem QDt (l:List Tx):DV.wk.go (cells Qah l) = cells Qah l:=Qbe Qah l fun a p hp=>by
  simp [Qah] at hp; rcases hp with rfl | rfl | rfl | rfl | rfl | rfl<;>rfl
def QA3 (r:List Tx × Int):DV:=.tup [.pv (.sl (fz Qah r.1)),.int .i64 r.2]
def idT (l:List Tx) (a:Int):Int:=Qg7 l fun t=>t.id == a
def QA4 (l:List Tx) (a:Int):Nat:=lo l fun t=>decide (t.id < a)
def QDT (l:List Tx) (t:Tx):List Tx:=l.take (QA4 l t.id) ++ t :: l.drop (QA4 l t.id)
def Qcl (l:List Tx) (a:Int):List Tx × Int:=
  if QdM l = false then ([],15) else if a < 1\/1073741824 < a then ([],1) else if 0<=idT l a then ([],25) else if l.length = 64 then ([],21) else (QDT l ⟨a,1,0,0,[],[]⟩,0)
theorem Qm0 {l:List Tx} (h:QdM l = true):l.length<=64:=by
  simp [QdM] at h; exact h.1
def QoE (l:List Tx) (a:Int):List Tx:=QdU l fun t=>t.id == a
def QgG (t:Tx) (a:Int):Bool:=decide (0 < t.l.length) && decide (a < t.l.getD (t.l.length - 1) 0)
theorem QDS (l:List Int) (h:0 < l.length):(fz Q0 l)[((l.length:Int) - 1).toNat]? = some [.lit (.int .i64 (l.getD (l.length - 1) 0))]:=by
  rw [show ((l.length:Int) - 1).toNat = l.length - 1 by omega]; exact QZ l (l.length - 1) (by omega)
theorem Q8 (l:List Tx) (a:Int):idT l a = -1\/∃ i,∃ h:i < l.length,idT l a = i/\l[i].id = a:=by
  unfold idT Qg7
  split
  · rename_i h
    obtain ⟨x,hm,hp⟩:=List.any_eq_true.1 h
    have hlt:=List.findIdx_lt_length_of_exists (p:=fun t:Tx=>t.id == a) ⟨x,hm,hp⟩
    have:=List.findIdx_getElem (w:=hlt)
    exact .inr ⟨_,hlt,rfl,by simpa using this⟩
  · exact .inl rfl
def Qu (l:List Tx) (a:Int):Tx × Int:=
  if QdM l = false then (Tx0,15) else if idT l a < 0 then (Tx0,16) else if (l.getD (idT l a).toNat Tx0).st ≠ 1 then (Tx0,15) else (l.getD (idT l a).toNat Tx0,0)
theorem Qdz {l:List Tx} {a:Int} (h:(Qu l a).2 = 0):QdM l = true/\∃ i,∃ hi:i < l.length,idT l a = i/\l[i].id = a/\(Qu l a).1 = l[i]:=by
  unfold Qu at h |-
  split at h
  · simp at h
  rename_i h1
  split at h
  · simp at h
  rename_i h2
  split at h
  · simp at h
  rename_i h3
  refine ⟨by simpa using h1,?_⟩
  rcases Q8 l a with h4 | ⟨i,hi,h4,h5⟩
  · omega
  · rw [if_neg h1,if_neg h2,if_neg h3]
    exact ⟨i,hi,h4,h5,by rw [h4,Int.toNat_natCast,Qn l i hi]⟩
theorem Qlk (l:List Int) (x:Int):cells Q0 l ++ [.pv (.lit (.int .i64 x))] = cells Q0 (l ++ [x]):=by rw [Qx]; rfl
theorem QDi (l:List Int):(cells Q0 l).length = l.length * 1:=QG Q0 l
theorem QDp (l:List Int) (n:Nat) (h:l.length * 1<=n):(cells Q0 l).take n = cells Q0 l:=by rw [List.take_of_length_le]; rw [QDi]; exact h
theorem QDg (l:List Int) (T:TypeId) (a b:Nat) (h:a<=b/\b<=l.length):Qlr (some (none,T,1)) (fz Q0 l) a b = some (.pv (.sl (fz Q0 ((l.take b).drop a)))):=Qid Q0 l T a b h
theorem QDf (l:List Int):(fz Q0 l = []\/(fz Q0 l)[0]?.map List.length = some 1) = True:=Qfl Q0 l
theorem QdL {l:List Tx} (h:QdM l = true) {i:Nat} (hi:i < l.length):l[i].okB = true:=by
  simp only [QdM,Bool.and_eq_true,List.all_eq_true,List.mem_range,decide_eq_true_eq] at h
  have:=((Qm1 l i).1 (h.2 i hi)).1
  rwa [Qn l i hi] at this
def Qq6 (l:List Tx) (a:Int):List Tx × Int:=
  if (Qu l a).2 ≠ 0 then ([],(Qu l a).2) else if (Qu l a).1.s.length = 8 then ([],21) else (l.set (idT l a).toNat { (Qu l a).1 with s:=(Qu l a).1.s ++ [(Qu l a).1.n] },0)
def QtS (l:List Tx) (a sv:Int):List Tx × Int:=
  if (Qu l a).2 ≠ 0 then ([],(Qu l a).2)
  else if sv < 0\/((Qu l a).1.s.length:Int)<=sv then ([],19)
  else if QgG (Qu l a).1 ((Qu l a).1.s.getD sv.toNat 0) = true then (l.set (idT l a).toNat { (Qu l a).1 with s:=(Qu l a).1.s.take (sv.toNat + 1),st:=2,b:=(Qu l a).1.s.getD sv.toNat 0 },0)
  else (l.set (idT l a).toNat { (Qu l a).1 with s:=(Qu l a).1.s.take (sv.toNat + 1) },0)
theorem Qli {l:List Int} {lo hi:Int} (h:QpT l lo hi 1 = true):l.Pairwise (· < ·):=by
  simp only [QpT,List.all_eq_true,List.mem_range] at h
  rw [List.pairwise_iff_getElem]
  have step:∀ i,∀ h2:i + 1 < l.length,l[i] < l[i + 1]:=fun i h2=>by
    have:=(QeF _ _ _ _ _).1 (h (i + 1) h2)
    rw [Qn l (i + 1) h2,Nat.add_sub_cancel,Qn l i (by omega)] at this
    omega
  have all:∀ d i,∀ h2:i + d + 1 < l.length,l[i] < l[i + d + 1]:=fun d=>by
    induction d with
    | zero=>exact step
    | succ d ih=>intro i h2; exact Int.lt_trans (ih i (by omega)) (step (i + d + 1) h2)
  intro i j hi hj hij
  have:=all (j - i - 1) i (by omega)
  simpa only [show i + (j - i - 1) + 1 = j by omega] using this
theorem Qzv {t:Tx} (h:t.okB = true):t.l.Pairwise (· < ·):=by
  simp only [Tx.okB,Bool.and_eq_true] at h
  exact Qli h.1.2
theorem QeX {t:Tx} (h:t.okB = true):t.l.length<=4096/\t.s.length<=8:=by
  simp only [Tx.okB,Tx.hdB,Bool.and_eq_true,decide_eq_true_eq] at h
  omega
def Q5 (t:Tx):Tx:=if t.st = 2/\QgG t t.b = false then { t with st:=1,b:=0 } else t
def QeY (t:Tx) (e:E):Tx:=
  if e.kind = 1 then { t with n:=e.lsn,l:=t.l ++ [e.lsn] }
  else if e.kind = 2 then { t with n:=e.lsn,l:=t.l.filter fun x=>decide (x ≠ e.ref) }
  else { t with n:=e.lsn,st:=3,b:=0,s:=[] }
def QoR (l:List Tx) (i:Nat) (t:Tx) (e:E):List Tx × Int:=
  if e.ptx ≠ t.n\/(e.kind = 2/\e.ref ∉ t.l) then ([],13)
  else if e.kind = 3\/e.kind = 5 then (QoE l e.tx,0)
  else (l.set i (Q5 (QeY t e)),0)
def QbX (l:List Tx) (e:E):List Tx × Int:=
  if QdM l = false then ([],15) else if e.okB = false then ([],12) else if e.tx = 0 then (l,0) else if idT l e.tx < 0 then ([],16)
  else QoR l (idT l e.tx).toNat (l.getD (idT l e.tx).toNat Tx0) e
theorem QvT {e:E} (h:e.okB = true) (ht:e.tx ≠ 0):e.kind = 1\/e.kind = 2\/e.kind = 3\/e.kind = 4\/e.kind = 5:=by
  obtain ⟨lsn,kind,tx,ptx,ppg,ref,c,blob⟩:=e
  simp only [E.okB,Bool.and_eq_true] at h
  have h:=h.2
  rw [Qnz] at h
  dsimp only at ht |-
  rcases Qe1 kind with hk | rfl | rfl | rfl | rfl | rfl | rfl | rfl | rfl
  · rw [if_neg (by omega),if_neg (by omega),if_neg (by omega),if_neg (by omega),if_neg (by omega)] at h; cases h
  all_goals first | omega | (simp at h; omega)
theorem QvW {l:List Tx} {e:E} (h1:QdM l = true) (h2:e.okB = true) (h3:e.tx ≠ 0) {i:Nat} (hi:i < l.length) (h4:idT l e.tx = i):QbX l e = QoR l i l[i] e:=by
  unfold QbX
  rw [if_neg (by rw [h1]; decide),if_neg (by rw [h2]; decide),if_neg h3,h4,if_neg (by omega),Int.toNat_natCast,Qn l i hi]
def w0:List Tx:=[⟨1,1,0,0,[],[]⟩]
def w1:List Tx:=[⟨1,1,1,0,[1],[]⟩]
def w2:List Tx:=[⟨1,1,1,0,[1],[1]⟩]
def w3:List Tx:=[⟨1,1,2,0,[1,2],[1]⟩]
def w4:List Tx:=[⟨1,1,3,0,[1,2,3],[1]⟩]
def w5:List Tx:=[⟨1,2,3,1,[1,2,3],[1]⟩]
end
section
attribute [local go_sem] Tx.d QzD QA9 QBB QBA Qs0 QDi QDp QDg QDf QkI List.length_append List.length_take List.length_drop List.take_length Qb3 Qbt
theorem QfM (l:List Tx) (hl:l.length<=1000000) (a:Int):VCalls prog 147 [.pv (.sl (fz Qah l)),.int .i64 a] [] (Ret (.int .i64 (idT l a))):=by
  refine dd Tryz.func147 ?_
  (unfold Tryz.f147; refine rn trivial ?_)
  refine Qh (fun i:Pass l (fun x=>(x.id == a) = true)=>⟨20,0,[(5,.int .i64 i.i),(0,.pv (.sl (fz Qah l))),(1,.int .i64 a)],[]⟩) (fun i=>l.length - i.i) (Pass.start l _) (gc []) ?_
  intro i
  have hi:=i.hi
  have hg:=fun h:i.i < l.length=>Qo2 l i.i h
  have F:=@hg
  refine rn F ?_
  repeat' (first
    | with_reducible exact ⟨⟩
    | (refine sB F ?_ ?_<;>intro hZ))
  · have:=Qmv l (fun x=>x.id == a) i.i (by omega) (by rw [<- Qn l i.i (by omega) Tx0]; simpa using (by assumption:(l.getD i.i Tx0).id = a)) i.no
    rw [idT,this]
  · exact ⟨i.next (by omega) (by rw [<- Qn l i.i (by omega) Tx0]; simpa using (by assumption:¬ (l.getD i.i Tx0).id = a)),by show l.length - (i.i + 1) < l.length - i.i; omega,(gc [])⟩
  · have:=i.all (by omega)
    rw [idT,Qg7,if_neg (by simpa using this)]
theorem QbV (l:List Tx) (hl:l.length<=1000000) (a:Int):VCalls prog 168 [.pv (.sl (fz Qah l)),.int .i64 a] [] (Ret (.int .i64 (idT l a))):=by
  refine dd Tryz.func168 ?_
  have h:=QfM l hl a
  (unfold Tryz.f168; refine rn trivial ?_)
  refine rn F ?_
  repeat' (first
    | with_reducible exact ⟨⟩
    | refine vp F (h) ?_)
theorem Qri (l:List Tx) (hl:l.length<=1000000) (i:Nat) (hi:i < l.length) (t:Tx):VCalls prog 211 [.pv (.sl (fz Qah l)),.int .i64 i,.agg t.d] [] (Ret (.pv (.sl (fz Qah (l.set i t))))):=by
  refine dd Tryz.func211 ?_
  have hb:i * 6 + 6<=l.length * 6:=by omega
  have hse:(cells Qah l).take (i * 6) ++ [.pv (.lit (.int .i64 t.id)),.pv (.lit (.int .i64 t.st)),.pv (.lit (.int .i64 t.n)),.pv (.lit (.int .i64 t.b)),.pv (.sl (fz Q0 t.l)),.pv (.sl (fz Q0 t.s))] ++ (cells Qah l).drop (i * 6 + 6) = cells Qah (l.set i t):=Qm2 Qah l i t hi
  have hle:(l.set i t).length = l.length:=List.length_set
  (unfold Tryz.f211; refine rn trivial ?_)
  have F:=(And.intro @hb (And.intro @hse @hle))
  (refine rn F ?_; try with_reducible exact ⟨⟩)
theorem Qeg (t:Tx) (hs:t.sm):VCalls prog 212 [.agg t.d] [] (Ret (.agg (Q5 t).d)):=by
  refine dd Tryz.func212 ?_
  have hg:=fun h:0 < t.l.length=>QDS t.l h
  simp only [Qbt] at hg
  obtain ⟨id,st,n,b,l,s⟩:=t
  obtain ⟨h1,h2⟩:=hs
  dsimp only at h1 h2 hg
  have eS:Q5 ⟨id,st,n,b,l,s⟩ = if st = 2/\QgG ⟨id,st,n,b,l,s⟩ b = false then ⟨id,1,n,0,l,s⟩ else ⟨id,st,n,b,l,s⟩:=rfl
  have eL:QgG ⟨id,st,n,b,l,s⟩ b = (decide (0 < l.length) && decide (b < l.getD (l.length - 1) 0)):=rfl
  generalize Q5 ⟨id,st,n,b,l,s⟩ = u at *
  generalize QgG ⟨id,st,n,b,l,s⟩ b = B at *
  (unfold Tryz.f212; refine rn trivial ?_)
  have F:=@hg
  refine rn F ?_
  repeat' (first
    | with_reducible exact ⟨⟩
    | (refine sG F ?_ ?_<;>intro hZ)
    | (refine sB F ?_ ?_<;>intro hZ)
    | (refine Qd (id:=1) [0,1,2,3,4,5,6,7,8,9,10,11,12,13,14,15,16,17,18,19,20,21] [] (by kernel_rfl) (by kernel_rfl) ?_; refine rn F ?_))
  all_goals first
    | (rw [eS,if_pos ⟨by assumption,by rw [eL,decide_eq_false (show ¬ b < l.getD (l.length - 1) 0 by omega),Bool.and_false]⟩])
    | (rw [eS,if_pos ⟨by assumption,by rw [eL,decide_eq_false (show ¬ 0 < l.length by omega),Bool.false_and]⟩])
    | (rw [eS,if_neg (by rintro ⟨h,_⟩; omega)])
    | (rw [eS,if_neg (by rintro ⟨_,h⟩; rw [eL,decide_eq_true (show b < l.getD (l.length - 1) 0 by omega),decide_eq_true (show 0 < l.length by omega)] at h; cases h)])
theorem QfG (l:List Tx) (t:Tx):cells Qah l ++ [.pv (.lit (.int .i64 t.id)),.pv (.lit (.int .i64 t.st)),.pv (.lit (.int .i64 t.n)),.pv (.lit (.int .i64 t.b)),.pv (.sl (fz Q0 t.l)),.pv (.sl (fz Q0 t.s))] = cells Qah (l ++ [t]):=by rw [Qx]; rfl
theorem QrI (l:List Tx) (a:Int):(QoE l a).length<=l.length:=Qwd _ _
theorem QrH (l:List Tx) (a:Int) (i:Nat) (h:i < l.length):QoE (l.take (i + 1)) a = if (l.getD i Tx0).id = a then QoE (l.take i) a else QoE (l.take i) a ++ [l.getD i Tx0]:=by
  rw [Qn l i h]
  unfold QoE
  rw [QbI l _ i h]
  by_cases hx:l[i].id = a<;>simp [hx]
theorem Qgn (l:List Tx) (hl:l.length<=1000000) (a:Int):VCalls prog 210 [.pv (.sl (fz Qah l)),.int .i64 a] [] (Ret (.pv (.sl (fz Qah (QoE l a))))):=by
  refine dd Tryz.func210 ?_
  (unfold Tryz.f210; refine rn trivial ?_)
  refine VLoop.nilOwn 5 218 6 rfl ?_
  refine Qh (fun s:To l.length=>⟨28,0,[(6,.int .i64 s.i),(5,.own 0 6 0 (QoE (l.take s.i) a).length),(0,.pv (.sl (fz Qah l))),(1,.int .i64 a)],[⟨218,true,cells Qah (QoE (l.take s.i) a)⟩]⟩) (fun s=>l.length - s.i) ⟨0,Nat.zero_le _⟩ (gc [0]) ?_
  intro s
  have hi:=s.hi
  have hg:=fun h:s.i < l.length=>Qo2 l s.i h
  have hle:=QrI (l.take s.i) a
  rw [List.length_take] at hle
  have hb:((QoE (l.take s.i) a).length + 1) * 80<=140737488355328:=by omega
  have hs:=QrH l a s.i
  have F:=(And.intro @hg (And.intro @hb @QfG))
  refine rn F ?_
  repeat' (first
    | with_reducible exact ⟨⟩
    | (refine sB F ?_ ?_<;>intro hZ))
  · replace hs:=hs (by omega)
    rw [if_neg (by assumption)] at hs
    refine ⟨⟨s.i + 1,by omega⟩,by show l.length - (s.i + 1) < l.length - s.i; omega,?_⟩
    rw [hs,List.length_append]
    exact (gc [2])
  · replace hs:=hs (by omega)
    rw [if_pos (by assumption)] at hs
    refine ⟨⟨s.i + 1,by omega⟩,by show l.length - (s.i + 1) < l.length - s.i; omega,?_⟩
    rw [hs]
    exact (gc [0])
  · rw [List.take_of_length_le (by omega)]
def QiM (l:List Tx) (a:Int):Int × Int:=
  if QdM l = false then (0,15) else if idT l a < 0 then (0,16) else if (l.getD (idT l a).toNat Tx0).st ≠ 1 then (0,15) else (idT l a,0)
theorem Qkl (l:List Tx) (a:Int):(QiM l a).2 = (Qu l a).2:=by
  unfold QiM Qu
  split
  · rfl
  · split
    · rfl
    · split<;>rfl
theorem Qkm {l:List Tx} {a:Int} (h:(Qu l a).2 = 0):(QiM l a).1 = idT l a:=by
  unfold QiM
  unfold Qu at h
  split at h
  · simp at h
  · rename_i h1
    split at h
    · simp at h
    · rename_i h2
      split at h
      · simp at h
      · rename_i h3
        rw [if_neg h1,if_neg h2,if_neg h3]
theorem Qkk (l:List Tx) (hs:smL l) (a:Int):VCalls prog 239 [.pv (.sl (fz Qah l)),.int .i64 a] [] (Ret (.tup [.int .i64 (QiM l a).1,.int .i64 (QiM l a).2])):=by
  refine dd Tryz.func239 ?_
  have c1:=QbC l hs
  have c2:=QfM l hs.1 a
  unfold QiM
  rcases Q8 l a with h | ⟨i,hi,h,hid⟩
  · rw [h] at c2 |-
    (unfold Tryz.f239; refine rn trivial ?_)
    refine rn F ?_
    repeat' (first
      | with_reducible exact ⟨⟩
      | (refine sB F ?_ ?_<;>intro hZ)
      | refine vp F (c1) ?_
      | refine vp F (c2) ?_)
    all_goals rfl
  · rw [h] at c2 |-
    have hg:=Qo2 l i hi
    rw [Int.toNat_natCast,if_neg (show ¬ (i:Int) < 0 by omega)]
    (unfold Tryz.f239; refine rn trivial ?_)
    have F:=@hg
    refine rn F ?_
    repeat' (first
      | with_reducible exact ⟨⟩
      | (refine sB F ?_ ?_<;>intro hZ)
      | refine vp F (c1) ?_
      | refine vp F (c2) ?_)
    all_goals first | rfl | (rw [if_pos (by assumption)]) | (rw [if_neg (by omega)])
theorem QyQ (l:List Tx) (hs:smL l) (a:Int):VCalls prog 195 [.pv (.sl (fz Qah l)),.int .i64 a] [] (Ret (QA3 (Qq6 l a))):=by
  refine VCalls.unwk ?_
  refine dd Tryz.func195 ?_
  have c1:=Qkk l hs a
  have hok:=@Qdz l a
  rw [Qkl] at c1
  unfold Qq6
  by_cases hz:(Qu l a).2 = 0
  · obtain ⟨hv,i,hi,h1,h2,h3⟩:=hok hz
    rw [Qkm hz,h1,hz] at c1
    have hts:=QeX (QdL hv hi)
    have hg:=QnH l i hi
    have hw:=Qri l hs.1 i hi ⟨l[i].id,l[i].st,l[i].n,l[i].b,l[i].l,l[i].s ++ [l[i].n]⟩
    rw [if_neg (by rw [hz]; simp),h3,h1,Int.toNat_natCast]
    generalize l[i] = t at *
    obtain ⟨id,st,n,b,q,s⟩:=t
    dsimp only at hts hg hw
    (unfold Tryz.f195; refine rn trivial ?_)
    have F:=(And.intro @hg @Qlk)
    refine rn F ?_
    repeat' (first
      | with_reducible exact ⟨⟩
      | (refine sB F ?_ ?_<;>intro hZ)
      | refine vp F (c1) ?_
      | (refine QfI [3] _ _ (hw) rfl ⟨⟨by simp,Qr _ _ _⟩,trivial⟩ (by decide) rfl (by simp [DV.nums.go,DV.nums]) ?_ ?_; (focus (refine rd F)); refine rn F ?_)
      | (refine Qd (id:=7) [0,1,3,4] [⟨[5],[],2,[0,3,4],[]⟩,⟨[5],[5],6,[0,1,3,4],[7]⟩,⟨[],[],8,[],[]⟩] (by kernel_rfl) (by kernel_rfl) ?_; refine rn F ?_))
    all_goals first | rfl | (rw [if_pos (by omega)]; rfl) | (rw [if_neg (by omega)]; rfl) | skip
  · generalize Qu l a = r at *
    generalize (QiM l a).1 = j at *
    rw [if_pos hz]
    (unfold Tryz.f195; refine rn trivial ?_)
    have F:=trivial
    refine rn F ?_
    repeat' (first
      | with_reducible exact ⟨⟩
      | refine vp F (c1) ?_)
    all_goals first | rfl | contradiction | skip
theorem QpJ {l:List Tx} {a:Int} (h:(Qu l a).2 = 0):(Qu l a).1.st = 1/\(Qu l a).1.b = 0:=by
  obtain ⟨hv,i,hi,h1,h2,h3⟩:=Qdz h
  have hst:(Qu l a).1.st = 1:=by
    unfold Qu at h |-
    split at h
    · simp at h
    · rename_i q1
      split at h
      · simp at h
      · rename_i q2
        split at h
        · simp at h
        · rename_i q3
          rw [if_neg q1,if_neg q2,if_neg q3]
          simpa using q3
  refine ⟨hst,?_⟩
  have ho:=QdL hv hi
  rw [h3] at hst |-
  simp only [Tx.okB,Tx.hdB,Bool.and_eq_true,Bool.or_eq_true,decide_eq_true_eq] at ho
  omega
theorem Qzd (l:List Tx) (hs:smL l) (a sv:Int):VCalls prog 196 [.pv (.sl (fz Qah l)),.int .i64 a,.int .i64 sv] [] (Ret (QA3 (QtS l a sv))):=by
  refine VCalls.unwk ?_
  refine dd Tryz.func196 ?_
  have c1:=Qkk l hs a
  have hok:=@Qdz l a
  have hab:=@QpJ l a
  rw [Qkl] at c1
  unfold QtS
  by_cases hz:(Qu l a).2 = 0
  · obtain ⟨hv,i,hi,h1,h2,h3⟩:=hok hz
    obtain ⟨hst,hb0⟩:=hab hz
    rw [Qkm hz,h1,hz] at c1
    have hts:=QeX (QdL hv hi)
    have hg:=QnH l i hi
    rw [if_neg (by rw [hz]; simp),h3,h1,Int.toNat_natCast]
    rw [h3] at hst hb0
    have hw:=Qri l hs.1 i hi
    by_cases hr:sv < 0\/((l[i].s.length:Int)<=sv)
    · generalize l[i] = t at *
      obtain ⟨id,st,n,b,q,s⟩:=t
      dsimp only at hr hg |-
      rw [if_pos hr]
      (unfold Tryz.f196; refine rn trivial ?_)
      have F:=@hg
      refine rn F ?_
      repeat' (first
        | with_reducible exact ⟨⟩
        | (refine sG F ?_ ?_<;>intro hZ)
        | refine vp F (c1) ?_)
      all_goals first | rfl | (exfalso; omega)
    obtain ⟨k,rfl⟩:∃ k:Nat,sv = k:=⟨sv.toNat,by omega⟩
    have hk:k < l[i].s.length:=by omega
    rw [if_neg (by omega),Int.toNat_natCast]
    have hw2:=hw (Q5 ⟨l[i].id,2,l[i].n,l[i].s.getD k 0,l[i].l,l[i].s.take (k + 1)⟩)
    generalize l[i] = t at *
    obtain ⟨id,st,n,b,q,s⟩:=t
    dsimp only at hts hg hk hst hb0 hw2 |-
    subst hst hb0
    have hse:=Qeg ⟨id,2,n,s.getD k 0,q,s.take (k + 1)⟩ ⟨by show q.length<=_; omega,by show (s.take (k + 1)).length<=_; rw [List.length_take]; omega⟩
    have eS:Q5 ⟨id,2,n,s.getD k 0,q,s.take (k + 1)⟩ = if QgG ⟨id,1,n,0,q,s⟩ (s.getD k 0) = true then ⟨id,2,n,s.getD k 0,q,s.take (k + 1)⟩ else ⟨id,1,n,0,q,s.take (k + 1)⟩:=by
      unfold Q5
      have e:QgG ⟨id,2,n,s.getD k 0,q,s.take (k + 1)⟩ (s.getD k 0) = QgG ⟨id,1,n,0,q,s⟩ (s.getD k 0):=rfl
      cases hB:QgG ⟨id,1,n,0,q,s⟩ (s.getD k 0)
      · rw [if_pos ⟨rfl,by rw [<- hB]; exact e⟩]; rfl
      · rw [if_neg (by rintro ⟨_,h⟩; rw [show QgG ⟨id,2,n,s.getD k 0,q,s.take (k + 1)⟩ (s.getD k 0) = true from e.trans hB] at h; cases h)]; rfl
    have hgc:((cells Q0 (s.take (k + 1))).drop k).take 1 = [.int .i64 (s.getD k 0)]:=by
      have hgc:(cells Q0 (s.take (k + 1)))[k]? = some (.int .i64 (s.getD k 0)):=by
        rw [Qe9 _ _ (by rw [List.length_take]; omega)]
        simp [List.getD_eq_getElem?_getD,List.getElem?_take]
      obtain ⟨h,e⟩:=List.getElem?_eq_some_iff.1 hgc
      rw [List.drop_eq_getElem_cons h,e]; rfl
    have hgd:(cells Q0 (s.take (k + 1)))[k]? = some (.int .i64 (s.getD k 0)):=by
      rw [Qe9 _ _ (by rw [List.length_take]; omega)]
      simp [List.getD_eq_getElem?_getD,List.getElem?_take]
    have hl1:(s.take (k + 1)).length = k + 1:=by rw [List.length_take]; omega
    have ek:((k:Int) + 1).toNat = k + 1:=by omega
    have fin:(if QgG ⟨id,1,n,0,q,s⟩ (s.getD k 0) = true then (l.set i ⟨id,2,n,s.getD k 0,q,s.take (k + 1)⟩,(0:Int)) else (l.set i ⟨id,1,n,0,q,s.take (k + 1)⟩,0)) = (l.set i (Q5 ⟨id,2,n,s.getD k 0,q,s.take (k + 1)⟩),0):=by
      rw [eS]; split<;>rfl
    rw [fin]
    clear fin eS
    generalize hT:Q5 ⟨id,2,n,s.getD k 0,q,s.take (k + 1)⟩ = T at *
    (unfold Tryz.f196; refine rn trivial ?_)
    have F:=(And.intro @hg (And.intro @hl1 (And.intro @ek (And.intro @hgc @hgd))))
    refine rn F ?_
    repeat' (first
      | with_reducible exact ⟨⟩
      | refine vp F (c1) ?_
      | (refine QfI [1] _ _ (hse) rfl ⟨⟨by simp,Qr _ _ _⟩,trivial⟩ (by decide) rfl (by simp [DV.nums.go,DV.nums]) ?_ ?_; (focus (refine rd F)); refine rn F ?_)
      | refine vp F (hw2) ?_
      | (refine Qd (id:=8) [0,1,2,3,4,5] [⟨[],[],6,[2,3,4],[7]⟩,⟨[],[],8,[],[]⟩] (by kernel_rfl) (by kernel_rfl) ?_; refine rn F ?_))
    all_goals first | rfl | skip
  · generalize Qu l a = r at *
    generalize (QiM l a).1 = j at *
    rw [if_pos hz]
    (unfold Tryz.f196; refine rn trivial ?_)
    have F:=trivial
    refine rn F ?_
    repeat' (first
      | with_reducible exact ⟨⟩
      | refine vp F (c1) ?_)
    all_goals first | rfl | contradiction | skip
end
section
attribute [local go_sem] Tx.d QzD QA9 QBB QBA Qs0 QDi QDp QDg QDf QkI List.length_append List.length_take List.length_drop List.take_length Qb3 Qbt Qcz QcZ Qcf QaU Qay QmX QjT QfU Qex Qd3 Qda QDt
structure Fr (l:List Tx) (a:Int) where
  j:Nat
  hj:j<=l.length
  lt:∀ k,∀ h:k < l.length,k < j->l[k].id < a
theorem Fr.fin {l:List Tx} {a:Int} (s:Fr l a) (h:∀ h:s.j < l.length,¬ l[s.j].id < a):QA4 l a = s.j:=
  QCh l _ s.j s.hj (fun k hk hkj=>decide_eq_true (s.lt k hk hkj)) (fun hj=>decide_eq_false (h hj))
theorem QuG {l:List Tx} {j:Nat} (h:j<=l.length):(l.take j).length = j:=by rw [List.length_take]; omega
theorem QlV (l:List Tx) (j:Nat) (h:j < l.length):cells Qah (l.take j) ++ [.pv (.lit (.int .i64 (l.getD j Tx0).id)),.pv (.lit (.int .i64 (l.getD j Tx0).st)),.pv (.lit (.int .i64 (l.getD j Tx0).n)),.pv (.lit (.int .i64 (l.getD j Tx0).b)),.pv (.sl (fz Q0 (l.getD j Tx0).l)),.pv (.sl (fz Q0 (l.getD j Tx0).s))] = cells Qah (l.take (j + 1)):=by
  rw [QfG,List.take_succ_eq_append_getElem h,Qn l j h]
theorem Qnj (l:List Tx) (hs:smL l) (a:Int):VCalls prog 116 [.pv (.sl (fz Qah l)),.int .i64 a] [] (Ret (QA3 (Qcl l a))):=by
  refine VCalls.unwk ?_
  have hl:=hs.1
  have c1:=QbC l hs
  have c2:=QfM l hl a
  have eS:Qcl l a = if QdM l = false then ([],15) else if a < 1\/1073741824 < a then ([],1) else if 0<=idT l a then ([],25) else if l.length = 64 then ([],21) else (l.take (QA4 l a) ++ ⟨a,1,0,0,[],[]⟩ :: l.drop (QA4 l a),0):=rfl
  have hfin:=@Fr.fin l a
  have hp:QA4 l a<=l.length:=QDN _ _
  have hsm:=@Qm0 l
  generalize idT l a = d at *
  generalize Qcl l a = res at *
  generalize QdM l = T at *
  refine QbM (fn:=Tryz.f116) (c:=Qcz Tryz.f116) Tryz.func116 rfl (by kernel_rfl) (by simp [Tryz.f116]) ?_
  refine QBm 5 ?_
  generalize hrest:Qct 5 (Qcz Tryz.f116) = rest
  (unfold Tryz.f116; refine rn trivial ?_)
  have F:=trivial
  refine rn F ?_
  repeat' (first
    | (refine sG F ?_ ?_<;>intro hZ<;>try with_reducible exact ⟨⟩)
    | (refine sB F ?_ ?_<;>intro hZ<;>try with_reducible exact ⟨⟩)
    | (refine sD F ?_ ?_<;>intro hZ<;>try with_reducible exact ⟨⟩)
    | (refine vp F (c1) ?_; try with_reducible exact ⟨⟩)
    | (refine vd F (c1) ?_; try with_reducible exact ⟨⟩)
    | (refine vl F (c1) ?_; try with_reducible exact ⟨⟩)
    | (refine vp F (c2) ?_; try with_reducible exact ⟨⟩)
    | (refine vd F (c2) ?_; try with_reducible exact ⟨⟩)
    | (refine vl F (c2) ?_; try with_reducible exact ⟨⟩)
    | (refine Qd (id:=14) [0,1,2,5,6,7,8] [⟨[3],[3],4,[1,2,5,6,7,8],[]⟩,⟨[],[],9,[0,1,2,5,6,7],[]⟩,⟨[],[],10,[],[]⟩,⟨[],[],11,[],[]⟩] (by kernel_rfl) (by kernel_rfl) ?_; refine rn F ?_; try with_reducible exact ⟨⟩)
    | (refine QdJ (by kernel_rfl) (by kernel_rfl) ?_; refine rn F ?_; try with_reducible exact ⟨⟩))
  all_goals first
    | (rw [eS]; repeat (first | rw [if_pos (by first | assumption | omega)] | rw [if_neg (by first | assumption | omega | (rw [show T = true by assumption]; decide))])
       rfl)
    | skip
  rw [eS]
  repeat (first | rw [if_pos (by first | assumption | omega)] | rw [if_neg (by first | assumption | omega | (rw [show T = true by assumption]; decide))])
  have hsm:=hsm (by assumption)
  refine VLoop.nilOwn 6 218 6 rfl ?_
  refine Qh (fun s:Fr l a=>⟨60,0,[(7,.int .i64 s.j),(6,.own 0 6 0 s.j),(0,.pv (.sl (fz Qah l))),(1,.int .i64 a)],[⟨218,true,cells Qah (l.take s.j)⟩]⟩) (fun s=>l.length - s.j) ⟨0,Nat.zero_le _,fun k _ h=>by omega⟩ (gc [0]) ?_
  intro s
  have hj:=s.hj
  have hlt:=s.lt
  have hf:=hfin s
  have htl:=QuG s.hj
  have hg:=fun h:s.j < l.length=>Qo2 l s.j h
  have hts:=fun h:s.j < l.length=>QlV l s.j h
  have hcl:(cells Qah (l.take s.j)).length = s.j * 6:=by rw [QzD,htl]
  have hta:(cells Qah (l.take s.j)).take (s.j * 6) = cells Qah (l.take s.j):=QA9 _ _ (by rw [htl]; exact Nat.le_refl _)
  have hb:(s.j + 1) * 80<=140737488355328:=by omega
  have htx:(cells Qah (l.take s.j) ++ ([.pv (.lit (.int .i64 a)),.pv (.lit (.int .i64 1)),.pv (.lit (.int .i64 0)),.pv (.lit (.int .i64 0)),.pv (.slc []),.pv (.slc [])]:List DV)).take ((s.j + 1) * 6) = cells Qah (l.take s.j) ++ [.pv (.lit (.int .i64 a)),.pv (.lit (.int .i64 1)),.pv (.lit (.int .i64 0)),.pv (.lit (.int .i64 0)),.pv (.slc []),.pv (.slc [])]:=by
    rw [List.take_of_length_le]; rw [List.length_append,hcl]; simp; omega
  have hb2:(s.j + 1 + (l.length - s.j)) * 80<=140737488355328:=by omega
  have hb3:(s.j + 1) * 6<=s.j * 6 + 6:=by omega
  have hw:DV.wk.go (cells Qah (l.take s.j) ++ [.pv (.lit (.int .i64 a)),.pv (.lit (.int .i64 1)),.pv (.lit (.int .i64 0)),.pv (.lit (.int .i64 0)),.pv (.slc []),.pv (.slc [])] ++ cells Qah (l.drop s.j)) = cells Qah (l.take s.j ++ ⟨a,1,0,0,[],[]⟩ :: l.drop s.j):=by
    rw [Qw5,Qw5,QDt,QDt,Qx,List.append_assoc]
    rfl
  have hfl:(l.take s.j ++ (⟨a,1,0,0,[],[]⟩:Tx) :: l.drop s.j).length = s.j + 1 + (l.length - s.j):=by
    rw [List.length_append,List.length_cons,List.length_drop,htl]; omega
  have F:=(And.intro @hg (And.intro @hts (And.intro @hcl (And.intro @hta (And.intro @hb (And.intro @htx (And.intro @hb2 @hb3)))))))
  refine rn F ?_
  repeat' (first
    | (refine sG F ?_ ?_<;>intro hZ<;>try with_reducible exact ⟨⟩)
    | (refine sB F ?_ ?_<;>intro hZ<;>try with_reducible exact ⟨⟩)
    | (refine sD F ?_ ?_<;>intro hZ<;>try with_reducible exact ⟨⟩)
    | (refine Qd (id:=14) [0,1,2,5,6,7,8] [⟨[3],[3],4,[1,2,5,6,7,8],[]⟩,⟨[],[],9,[0,1,2,5,6,7],[]⟩,⟨[],[],10,[],[]⟩,⟨[],[],11,[],[]⟩] (by kernel_rfl) (by kernel_rfl) ?_; refine rn F ?_; try with_reducible exact ⟨⟩)
    | (refine QdJ (by kernel_rfl) (by kernel_rfl) ?_; refine rn F ?_; try with_reducible exact ⟨⟩))
  all_goals first
    | (refine ⟨⟨s.j + 1,by omega,fun k h' hkj=>?_⟩,by show l.length - (s.j + 1) < l.length - s.j; omega,(gc [2])⟩
       rcases Nat.lt_or_ge k s.j with h | h
       · exact hlt k h' h
       · obtain rfl:k = s.j:=by omega
         rw [<- Qn l s.j h' Tx0]
         assumption)
    | (rw [hf (fun h=>by first | (rw [<- Qn l s.j h Tx0]; exact Int.not_lt.2 (by assumption)) | (clear F hg hts hf hlt htx hw; omega))]
       refine Qye ?_
       subst hrest
       simp (config:={ maxSteps:=2000000 }) (implicitDefEqProofs:=false) (disch:=first | omega | assumption) only [go_sem,↓reduceIte,Nat.reduceLT,Nat.reduceBEq,Int.reduceLT,Int.reduceBEq,Tryz.f116,hw,Qs0 hfl]
       rfl)
end
section
attribute [local go_sem] Tx.d QzD QA9 QBB QBA Qs0 QDi QDp QDg QDf QkI List.length_append List.length_take List.length_drop List.take_length Qb3 Qbt
theorem Qti (q:List Int) (r:Int) (i:Nat) (h:i < q.length):(q.take (i + 1)).filter (fun x=>decide (x ≠ r)) = (q.take i).filter (fun x=>decide (x ≠ r)) ++ (if q.getD i 0 = r then [] else [q.getD i 0]):=by
  rw [List.take_succ_eq_append_getElem h,List.filter_append,Qn q i h]
  by_cases hx:q[i] = r<;>simp [hx]
theorem QAe (q:List Int) (r:Int) (i:Nat):((q.take i).filter fun x=>decide (x ≠ r)).length<=i:=by
  refine Nat.le_trans (List.length_filter_le _ _) ?_
  rw [List.length_take]; omega
theorem QAf (q:List Int) (r:Int):(q.filter fun x=>decide (x ≠ r)).length = q.length ↔ r ∉ q:=by
  rw [List.length_filter_eq_length_iff]
  constructor
  · intro h hm; simpa using h r hm
  · intro h x hx; exact decide_eq_true fun e=>h (e ▸ hx)
theorem Ql8 (l:List Tx) (hs:smL l) (e:E):VCalls prog 170 [.pv (.sl (fz Qah l)),.agg e.d] [] (Ret (QA3 (QbX l e))):=by
  refine VCalls.unwk ?_
  have c1:=QbC l hs
  have c2:=Qcq e
  have c3:=QfM l hs.1 e.tx
  have c4:=Qgn l hs.1 e.tx
  have hw:=fun (i:Nat) (hi:i < l.length) (t:Tx)=>Qri l hs.1 i hi t
  have hok:=@QvT e
  have hat:=@QvW l e
  have e0:QbX l e = if QdM l = false then ([],15) else if e.okB = false then ([],12) else if e.tx = 0 then (l,0) else if idT l e.tx < 0 then ([],16)
    else QoR l (idT l e.tx).toNat (l.getD (idT l e.tx).toNat Tx0) e:=rfl
  by_cases hv:QdM l = true
  rotate_left
  · have hv':QdM l = false:=by simpa using hv
    rw [e0,if_pos hv']
    rw [hv'] at c1
    refine dd Tryz.func170 ?_
    unfold E.d
    (unfold Tryz.f170; refine rn trivial ?_)
    refine rn F ?_
    repeat' (first
      | with_reducible exact ⟨⟩
      | refine vp F (c1) ?_)
    rfl
  by_cases hk:e.okB = true
  rotate_left
  · have hk':e.okB = false:=by simpa using hk
    rw [e0,if_neg (by rw [hv]; decide),if_pos hk']
    rw [hv] at c1
    rw [hk'] at c2
    unfold E.d at c2 |-
    refine dd Tryz.func170 ?_
    (unfold Tryz.f170; refine rn trivial ?_)
    refine rn F ?_
    repeat' (first
      | with_reducible exact ⟨⟩
      | refine vp F (c1) ?_
      | refine vp F (c2) ?_)
    rfl
  by_cases ht:e.tx = 0
  · rw [e0,if_neg (by rw [hv]; decide),if_neg (by rw [hk]; decide),if_pos ht]
    rw [hv] at c1
    rw [hk] at c2
    unfold E.d at c2 |-
    refine dd Tryz.func170 ?_
    (unfold Tryz.f170; refine rn trivial ?_)
    have F:=@ht
    refine rn F ?_
    repeat' (first
      | with_reducible exact ⟨⟩
      | refine vp F (c1) ?_
      | refine vl F (c2) ?_)
    rfl
  rw [hv] at c1
  rw [hk] at c2
  rcases Q8 l e.tx with h | ⟨i,hi,h,hid⟩
  · rw [e0,if_neg (by rw [hv]; decide),if_neg (by rw [hk]; decide),if_neg ht,h,if_pos (by decide)]
    rw [h] at c3
    unfold E.d at c2 |-
    refine dd Tryz.func170 ?_
    (unfold Tryz.f170; refine rn trivial ?_)
    have F:=@ht
    refine rn F ?_
    repeat' (first
      | with_reducible exact ⟨⟩
      | refine vp F (c1) ?_
      | refine vp F (c2) ?_
      | refine vp F (c3) ?_)
    all_goals first | rfl | contradiction
  rw [hat hv hk ht hi h]
  have hkk:=hok hk ht
  rw [h] at c3
  have hg:=QnH l i hi
  have hto:=QdL hv hi
  have hso:=Qzv hto
  have hle:=QeX hto
  clear hat e0 hok
  generalize hT:l[i] = t at *
  obtain ⟨id,st,n,b,q,s⟩:=t
  dsimp only at hid hso hle hg
  obtain ⟨lsn,kind,tx,ptx,ppg,ref,c,blob⟩:=e
  dsimp only at hid c4 c3 h hkk ht
  unfold E.d at c2 |-
  dsimp only at c2 |-
  unfold QoR
  dsimp only
  by_cases hp:ptx = n
  rotate_left
  · rw [if_pos (.inl hp)]
    refine dd Tryz.func170 ?_
    (unfold Tryz.f170; refine rn trivial ?_)
    have F:=(And.intro @ht @hg)
    refine rn F ?_
    repeat' (first
      | with_reducible exact ⟨⟩
      | refine vp F (c1) ?_
      | refine vp F (c2) ?_
      | refine vp F (c3) ?_)
    all_goals first | rfl | contradiction | omega
  subst hp
  rcases hkk with rfl | rfl | rfl | rfl | rfl
  · rw [if_neg (by rintro (h | h); exact h rfl; omega),if_neg (by omega)]
    have hwA:=hw i hi (Q5 (QeY ⟨id,st,ptx,b,q,s⟩ ⟨lsn,1,tx,ptx,ppg,ref,c,blob⟩))
    have hse:=Qeg (QeY ⟨id,st,ptx,b,q,s⟩ ⟨lsn,1,tx,ptx,ppg,ref,c,blob⟩)
    have eN:QeY ⟨id,st,ptx,b,q,s⟩ ⟨lsn,1,tx,ptx,ppg,ref,c,blob⟩ = ⟨id,st,lsn,b,q ++ [lsn],s⟩:=rfl
    rw [eN] at hwA hse |-
    replace hse:=hse ⟨by simp; omega,by show s.length<=_; omega⟩
    generalize Q5 ⟨id,st,lsn,b,q ++ [lsn],s⟩ = u at *
    refine dd Tryz.func170 ?_
    (unfold Tryz.f170; refine rn trivial ?_)
    have F:=(And.intro @ht (And.intro @hg @Qlk))
    refine rn F ?_
    repeat' (first
      | with_reducible exact ⟨⟩
      | refine vp F (c1) ?_
      | refine vp F (c2) ?_
      | refine vp F (c3) ?_
      | (refine QfI [4] _ _ (hse) rfl ⟨⟨by simp,Qr _ _ _⟩,trivial⟩ (by decide) rfl (by simp [DV.nums.go,DV.nums]) ?_ ?_; (focus (refine rd F)); refine rn F ?_)
      | refine vp F (hwA) ?_
      | (refine Qd (id:=17) [0,1,3,4] [⟨[5],[],2,[0,3,4],[]⟩,⟨[5],[5],6,[0,1,3,4],[7]⟩,⟨[],[],8,[],[]⟩] (by kernel_rfl) (by kernel_rfl) ?_; refine rn F ?_))
    all_goals first | rfl | skip
  · refine dd Tryz.func170 ?_
    (unfold Tryz.f170; refine rn trivial ?_)
    have F:=(And.intro @ht @hg)
    refine rn F ?_
    repeat' (first
      | with_reducible exact ⟨⟩
      | refine vp F (c1) ?_
      | refine vp F (c2) ?_
      | refine vp F (c3) ?_)
    rotate_left
    all_goals first | contradiction | skip
    refine VLoop.nilOwn 8 3 1 rfl ?_
    refine Qh (fun s0:To q.length=>⟨100,0,[(9,.int .i64 s0.i),(8,.own 2 1 0 ((q.take s0.i).filter fun x=>decide (x ≠ ref)).length),(7,.ptr 1 0),(6,.int .i64 i),(3,.ptr 0 0),(0,.pv (.sl (fz Qah l)))],
      [⟨60,true,[.int .i64 lsn,.int .i64 2,.int .i64 tx,.int .i64 ptx,.int .i64 ppg,.int .i64 ref,.int .i64 c.pg,.int .i64 c.sl,.bool c.b.set,.pv (.str c.b.data),.bool c.a.set,.pv (.str c.a.data),.pv (.str blob)]⟩,
       ⟨218,true,[.int .i64 id,.int .i64 st,.int .i64 lsn,.int .i64 b,.pv (.sl (fz Q0 q)),.pv (.sl (fz Q0 s))]⟩,
       ⟨3,true,cells Q0 ((q.take s0.i).filter fun x=>decide (x ≠ ref))⟩]⟩) (fun s0=>q.length - s0.i) ⟨0,Nat.zero_le _⟩ (gc [0,1,2]) ?_
    intro s0
    have hi0:=s0.hi
    have hgq:=fun h:s0.i < q.length=>QZ q s0.i h
    have hfl:=QAe q ref s0.i
    have hfs:=Qti q ref s0.i
    have hwA:=hw i hi (Q5 (QeY ⟨id,st,ptx,b,q,s⟩ ⟨lsn,2,tx,ptx,ppg,ref,c,blob⟩))
    have hse:=Qeg (QeY ⟨id,st,ptx,b,q,s⟩ ⟨lsn,2,tx,ptx,ppg,ref,c,blob⟩)
    have eN:QeY ⟨id,st,ptx,b,q,s⟩ ⟨lsn,2,tx,ptx,ppg,ref,c,blob⟩ = ⟨id,st,lsn,b,q.filter fun x=>decide (x ≠ ref),s⟩:=rfl
    have hfq:=QAf q ref
    rw [eN] at hwA hse |-
    have hfl2:(q.filter fun x=>decide (x ≠ ref)).length<=q.length:=List.length_filter_le _ _
    replace hse:=hse ⟨by show (q.filter fun x=>decide (x ≠ ref)).length<=_; omega,by show s.length<=_; omega⟩
    by_cases hc:s0.i < q.length
    · replace hfs:=hfs hc
      generalize ((q.take s0.i).filter fun x=>decide (x ≠ ref)) = out at *
      have hb:(out.length + 1) * 8<=140737488355328:=by omega
      have F:=(And.intro @hgq (And.intro @Qlk @hb))
      refine rn F ?_
      repeat' (first
        | with_reducible exact ⟨⟩
        | (refine sB F ?_ ?_<;>intro hZ)
        | (refine Qd (id:=23) [0,1,2,3,4,5,6,7] [] (by kernel_rfl) (by kernel_rfl) ?_; refine rn F ?_))
      · have hf2:(q.take (s0.i + 1)).filter (fun x=>decide ¬x = ref) = out ++ [q.getD s0.i 0]:=by rw [if_neg (by assumption)] at hfs; exact hfs
        refine ⟨⟨s0.i + 1,by omega⟩,by show q.length - (s0.i + 1) < q.length - s0.i; omega,?_⟩
        dsimp only
        rw [hf2,List.length_append]
        exact (gc [0,1,4])
      · have hf2:(q.take (s0.i + 1)).filter (fun x=>decide ¬x = ref) = out:=by rw [if_pos (by assumption),List.append_nil] at hfs; exact hfs
        refine ⟨⟨s0.i + 1,by omega⟩,by show q.length - (s0.i + 1) < q.length - s0.i; omega,?_⟩
        dsimp only
        rw [hf2]
        exact (gc [0,1,2])
    · rw [List.take_of_length_le (by omega)] at *
      generalize (q.filter fun x=>decide (x ≠ ref)) = out at *
      generalize Q5 ⟨id,st,lsn,b,out,s⟩ = u at *
      have F:=trivial
      refine rn F ?_
      repeat' (first
        | with_reducible exact ⟨⟩
        | (refine sB F ?_ ?_<;>intro hZ)
        | (refine QfI [2] _ _ (hse) rfl ⟨⟨by simp,Qr _ _ _⟩,trivial⟩ (by decide) rfl (by simp [DV.nums.go,DV.nums]) ?_ ?_; (focus (refine rd F)); refine rn F ?_)
        | refine vp F (hwA) ?_)
      all_goals first | (rw [if_pos (hfq.1 (by omega))]; rfl) | (rw [if_neg (fun h=>absurd (hfq.2 h) (by omega))]; rfl) | skip
  · rw [if_neg (by rintro (h | h); exact h rfl; omega),if_pos (by omega)]
    refine dd Tryz.func170 ?_
    (unfold Tryz.f170; refine rn trivial ?_)
    have F:=(And.intro @ht @hg)
    refine rn F ?_
    repeat' (first
      | with_reducible exact ⟨⟩
      | refine vp F (c1) ?_
      | refine vp F (c2) ?_
      | refine vp F (c3) ?_
      | refine vp F (c4) ?_)
    all_goals rfl
  · rw [if_neg (by rintro (h | h); exact h rfl; omega),if_neg (by omega)]
    have hwA:=hw i hi (Q5 (QeY ⟨id,st,ptx,b,q,s⟩ ⟨lsn,4,tx,ptx,ppg,ref,c,blob⟩))
    have hse:=Qeg (QeY ⟨id,st,ptx,b,q,s⟩ ⟨lsn,4,tx,ptx,ppg,ref,c,blob⟩)
    have eN:QeY ⟨id,st,ptx,b,q,s⟩ ⟨lsn,4,tx,ptx,ppg,ref,c,blob⟩ = ⟨id,3,lsn,0,q,[]⟩:=rfl
    rw [eN] at hwA hse |-
    replace hse:=hse ⟨by show q.length<=_; omega,by simp⟩
    have hse2:VCalls prog 212 [.agg [.int .i64 id,.int .i64 3,.int .i64 lsn,.int .i64 0,.pv (.sl (fz Q0 q)),.pv (.slc [])]] [] (Ret (.agg (Q5 ⟨id,3,lsn,0,q,[]⟩).d)):=VCalls.wkA hse
    generalize Q5 ⟨id,3,lsn,0,q,[]⟩ = u at *
    refine dd Tryz.func170 ?_
    (unfold Tryz.f170; refine rn trivial ?_)
    have F:=(And.intro @ht @hg)
    refine rn F ?_
    repeat' (first
      | with_reducible exact ⟨⟩
      | refine vp F (c1) ?_
      | refine vp F (c2) ?_
      | refine vp F (c3) ?_
      | refine vp F (hse2) ?_
      | refine vp F (hwA) ?_)
    all_goals rfl
  · rw [if_neg (by rintro (h | h); exact h rfl; omega),if_pos (by omega)]
    refine dd Tryz.func170 ?_
    (unfold Tryz.f170; refine rn trivial ?_)
    have F:=(And.intro @ht @hg)
    refine rn F ?_
    repeat' (first
      | with_reducible exact ⟨⟩
      | refine vp F (c1) ?_
      | refine vp F (c2) ?_
      | refine vp F (c3) ?_
      | refine vp F (c4) ?_)
    all_goals rfl
end
attribute [go_sem] Ce.d Ch.d E.d Lg.c QkI List.length_append List.length_take List.length_drop List.take_length Qb3 Qbt
attribute [go_sem] Qjo QpV QpU QpN QpQ Qfb
theorem Okay.no {n:Nat} {c:Nat->Bool} (s:Okay n c) {B:Bool} (h:s.i < n) (hB:B = (List.range n).all c) (hc:c s.i = false):B = false:=by rw [hB,Qbd h hc]
theorem Okay.yes {n:Nat} {c:Nat->Bool} (s:Okay n c) {B:Bool} (h:¬ s.i < n) (hB:B = (List.range n).all c):B = true:=by rw [hB,s.all h]
theorem Okay.dec {n:Nat} {c:Nat->Bool} (s:Okay n c) (h:s.i < n):n - (s.i + 1) < n - s.i:=by omega
structure Pg where
  id:Int
  lsn:Int
  cel:Nat->Ce
def QE5 (c:Nat->Ce):List PV:=(List.range 16).flatMap fun i=>[.lit (.bool (c i).set),.str (c i).data]
def Pg.p (x:Pg):List PV:=.lit (.int .i64 x.id) :: .lit (.int .i64 x.lsn) :: QE5 x.cel
def Pg.d (x:Pg):List DV:=x.p.map .pv
def Pg0:Pg:=⟨0,0,fun _=>Ce0⟩
structure Fm where
  pg:Pg
  dirty:Bool
  rc:Int
  used:Bool
def Fm.p (f:Fm):List PV:=f.pg.p ++ [.lit (.bool f.dirty),.lit (.int .i64 f.rc),.lit (.bool f.used)]
def Fm.d (f:Fm):List DV:=f.p.map .pv
def Fm0:Fm:=⟨Pg0,false,0,false⟩
def Qcn:Enc Fm:=⟨37,Fm.p,by decide,fun _=>rfl⟩
theorem QDj (l:List Fm):(cells Qcn l).length = l.length * 37:=QG Qcn l
theorem QFg (l:List Fm) (n:Nat) (h:l.length * 37<=n):(cells Qcn l).take n = cells Qcn l:=by rw [List.take_of_length_le]; rw [QDj]; exact h
theorem QE9 (l m:List Fm):cells Qcn l ++ cells Qcn m = cells Qcn (l ++ m):=(Qx Qcn l m).symm
theorem QES (l:List Fm) (T:TypeId) (a b:Nat) (h:a<=b/\b<=l.length):Qlr (some (none,T,37)) (fz Qcn l) a b = some (.pv (.sl (fz Qcn ((l.take b).drop a)))):=Qid Qcn l T a b h
theorem QEP (l:List Fm):(fz Qcn l = []\/(fz Qcn l)[0]?.map List.length = some 37) = True:=Qfl Qcn l
theorem QDn {n:Nat} {hp:Qa} {len:Nat} {l:List Fm} (h:l.length = len):QgN n hp 0 37 len (some (cells Qcn l)) = some (.sl (fz Qcn l)):=QU Qcn h
theorem Qc1 {α:Type} (e:Enc α) (l:List α) (d:α) (i:Nat) (h:i < l.length):(fz e l)[i]? = some (e.enc (l.getD i d)):=by rw [Qn l i h d]; exact QhZ e l i h
theorem QbP (l:List Fm) (i:Nat) (h:i < l.length):(fz Qcn l)[i]? = some (l.getD i Fm0).p:=Qc1 Qcn l Fm0 i h
theorem QtU (l:List Fm) (f:Fm):cells Qcn l ++ f.d = cells Qcn (l ++ [f]):=by rw [Qx]; simp [cells,Qcn,Fm.d]
@[go_sem] theorem QEJ (x:Fm) {T:TypeId} {i:Int} (h0:0<=i):QBg (some (none,T,37)) (some x.p) i = some (.ip x.p):=QjA h0 rfl (by decide)
@[go_sem] theorem Pg.p_len (x:Pg):x.p.length = 34:=rfl
@[go_sem] theorem Pg.d_len (x:Pg):x.d.length = 34:=rfl
@[go_sem] theorem Fm.p_len (x:Fm):x.p.length = 37:=rfl
@[go_sem] theorem Fm.d_len (x:Fm):x.d.length = 37:=rfl
@[go_sem] theorem Pg.p_map (x:Pg):x.p.map DV.pv = x.d:=(rfl)
@[go_sem] theorem Fm.p_map (x:Fm):x.p.map DV.pv = x.d:=(rfl)
@[go_sem] theorem Fm.p_take (x:Fm):x.p.take 37 = x.p:=(rfl)
@[go_sem] theorem Fm.d_take (x:Fm):x.d.take 37 = x.d:=(rfl)
@[go_sem] theorem Pg.p_take (x:Pg):x.p.take 34 = x.p:=(rfl)
@[go_sem] theorem Pg.d_take (x:Pg):x.d.take 34 = x.d:=(rfl)
@[go_sem] theorem Fm.p_pg (x:Fm):x.p.take 34 = x.pg.p:=(rfl)
@[go_sem] theorem Fm.d_pg (x:Fm):x.d.take 34 = x.pg.d:=(rfl)
@[go_sem] theorem Fm.p0 (x:Fm):x.p[0]? = some (.lit (.int .i64 x.pg.id)):=(rfl)
theorem Fm.p1 (x:Fm):x.p[1]? = some (.lit (.int .i64 x.pg.lsn)):=(rfl)
@[go_sem] theorem Fm.pd1 (x:Fm):(x.p.drop 1)[0]? = some (.lit (.int .i64 x.pg.lsn)):=(rfl)
@[go_sem] theorem Fm.pd34 (x:Fm):(x.p.drop 34)[0]? = some (.lit (.bool x.dirty)):=(rfl)
@[go_sem] theorem Fm.pd35 (x:Fm):(x.p.drop 35)[0]? = some (.lit (.int .i64 x.rc)):=(rfl)
@[go_sem] theorem Fm.pd36 (x:Fm):(x.p.drop 36)[0]? = some (.lit (.bool x.used)):=(rfl)
@[go_sem] theorem Fm.d0 (x:Fm):x.d[0]? = some (.pv (.lit (.int .i64 x.pg.id))):=(rfl)
@[go_sem] theorem Fm.d1 (x:Fm):x.d[1]? = some (.pv (.lit (.int .i64 x.pg.lsn))):=(rfl)
@[go_sem] theorem Fm.d34 (x:Fm):x.d[34]? = some (.pv (.lit (.bool x.dirty))):=(rfl)
@[go_sem] theorem Fm.d35 (x:Fm):x.d[35]? = some (.pv (.lit (.int .i64 x.rc))):=(rfl)
@[go_sem] theorem Pg.p0 (x:Pg):x.p[0]? = some (.lit (.int .i64 x.id)):=(rfl)
theorem Pg.p1 (x:Pg):x.p[1]? = some (.lit (.int .i64 x.lsn)):=(rfl)
@[go_sem] theorem Pg.d0 (x:Pg):x.d[0]? = some (.pv (.lit (.int .i64 x.id))):=(rfl)
@[go_sem] theorem Pg.d1 (x:Pg):x.d[1]? = some (.pv (.lit (.int .i64 x.lsn))):=(rfl)
@[go_sem] theorem Pg.d_one (x:Pg):Qo x.d = true:=(rfl)
@[go_sem] theorem Fm.d_one (x:Fm):Qo x.d = true:=(rfl)
@[go_sem] theorem Pg.d_nums (x:Pg) (k:Nat->Bool):DV.nums.go k x.d = true:=(rfl)
@[go_sem] theorem Fm.d_nums (x:Fm) (k:Nat->Bool):DV.nums.go k x.d = true:=(rfl)
@[go_sem] theorem Fm.set34 (x:Fm) (b:Bool):x.d.set 34 (.pv (.lit (.bool b))) = Fm.d ⟨x.pg,b,x.rc,x.used⟩:=(rfl)
@[go_sem] theorem Fm.set35 (x:Fm) (b:Int):x.d.set 35 (.pv (.lit (.int .i64 b))) = Fm.d ⟨x.pg,x.dirty,b,x.used⟩:=(rfl)
@[go_sem] theorem Fm.set36 (x:Fm) (b:Bool):x.d.set 36 (.pv (.lit (.bool b))) = Fm.d ⟨x.pg,x.dirty,x.rc,b⟩:=(rfl)
@[go_sem] theorem Fm.setpg (x:Fm) (p:Pg):p.d ++ x.d.drop 34 = Fm.d ⟨p,x.dirty,x.rc,x.used⟩:=(rfl)
@[go_sem] theorem Fm.mk36 (x:Pg) (a c u:Bool) (b:Int):(x.d ++ ([.pv (.lit (.bool a)),.pv (.lit (.int .i64 b)),.pv (.lit (.bool c))]:List DV)).take 36 ++ [.pv (.lit (.bool u))] ++ (x.d ++ ([.pv (.lit (.bool a)),.pv (.lit (.int .i64 b)),.pv (.lit (.bool c))]:List DV)).drop 37 = Fm.d ⟨x,a,b,u⟩:=(rfl)
@[go_sem] theorem Pg.set1 (x:Pg) (b:Int):x.d.set 1 (.pv (.lit (.int .i64 b))) = Pg.d ⟨x.id,b,x.cel⟩:=(rfl)
@[go_sem] theorem Pg.d_drop (x:Pg):x.d.drop 34 = []:=(rfl)
@[go_sem] theorem Fm.d_drop (x:Fm):x.d.drop 37 = []:=(rfl)
theorem QiN (n:Nat) (hp:Qa):∀ l:List PV,Qg ((l.map DV.pv).map (QcF n hp)) = some (l.map DV.pv)
  | []=>rfl
  | p :: l=>by show Qg (some (.pv p) :: (l.map DV.pv).map (QcF n hp)) = _; rw [Qfr,QiN n hp l]; rfl
@[go_sem] theorem Pg.d_frz1 (x:Pg) (n:Nat) (hp:Qa):Qg (x.d.map (QcF n hp)) = some x.d:=QiN n hp x.p
@[go_sem] theorem Fm.d_frz1 (x:Fm) (n:Nat) (hp:Qa):Qg (x.d.map (QcF n hp)) = some x.d:=QiN n hp x.p
@[go_sem] theorem Pg.d_wk (x:Pg):DV.wk.go x.d = x.d:=(rfl)
@[go_sem] theorem Fm.d_wk (x:Fm):DV.wk.go x.d = x.d:=(rfl)
theorem QnP (x:Pg) (i:Nat) (h:i < 16):(x.d.drop (2 + i * 2)).take 2 = [.pv (.lit (.bool (x.cel i).set)),.pv (.str (x.cel i).data)]:=by
  have:i = 0\/i = 1\/i = 2\/i = 3\/i = 4\/i = 5\/i = 6\/i = 7\/i = 8\/i = 9\/i = 10\/i = 11\/i = 12\/i = 13\/i = 14\/i = 15:=by omega
  rcases this with h | h | h | h | h | h | h | h | h | h | h | h | h | h | h | h<;>subst h<;>rfl
theorem QtO (x:Pg) (i:Nat) (h:i < 16):x.d[2 + i * 2]? = some (.pv (.lit (.bool (x.cel i).set))):=by
  have:i = 0\/i = 1\/i = 2\/i = 3\/i = 4\/i = 5\/i = 6\/i = 7\/i = 8\/i = 9\/i = 10\/i = 11\/i = 12\/i = 13\/i = 14\/i = 15:=by omega
  rcases this with h | h | h | h | h | h | h | h | h | h | h | h | h | h | h | h<;>subst h<;>rfl
def Pg.setc (x:Pg) (i:Nat) (c:Ce):Pg:=⟨x.id,x.lsn,fun k=>if k = i then c else x.cel k⟩
theorem QAu (x:Pg) (i:Nat) (h:i < 16) (c:Ce):splice x.d (2 + i * 2) [.pv (.lit (.bool c.set)),.pv (.str c.data)] = (x.setc i c).d:=by
  have:i = 0\/i = 1\/i = 2\/i = 3\/i = 4\/i = 5\/i = 6\/i = 7\/i = 8\/i = 9\/i = 10\/i = 11\/i = 12\/i = 13\/i = 14\/i = 15:=by omega
  rcases this with h | h | h | h | h | h | h | h | h | h | h | h | h | h | h | h<;>subst h<;>rfl
structure Rw where
  lsn:Int
  im:Int
  at_:Int
def Qb1:Enc Rw:=⟨3,fun r=>[.lit (.int .i64 r.lsn),.lit (.int .i64 r.im),.lit (.int .i64 r.at_)],by decide,fun _=>rfl⟩
@[go_sem] def Rw.d (r:Rw):List DV:=[.int .i64 r.lsn,.int .i64 r.im,.int .i64 r.at_]
theorem QEq (l:List Rw):(cells Qb1 l).length = l.length * 3:=QG Qb1 l
theorem QFd (l:List Rw) (n:Nat) (h:l.length * 3<=n):(cells Qb1 l).take n = cells Qb1 l:=by rw [List.take_of_length_le]; rw [QEq]; exact h
theorem QEN (l:List Rw):(fz Qb1 l = []\/(fz Qb1 l)[0]?.map List.length = some 3) = True:=Qfl Qb1 l
theorem QE0 {n:Nat} {hp:Qa} {len:Nat} {l:List Rw} (h:l.length = len):QgN n hp 0 3 len (some (cells Qb1 l)) = some (.sl (fz Qb1 l)):=QU Qb1 h
def Rw0:Rw:=⟨0,0,0⟩
theorem QkZ (l:List Rw) (i:Nat) (h:i < l.length):(fz Qb1 l)[i]? = some [.lit (.int .i64 (l.getD i Rw0).lsn),.lit (.int .i64 (l.getD i Rw0).im),.lit (.int .i64 (l.getD i Rw0).at_)]:=Qc1 Qb1 l Rw0 i h
theorem QD9 (l:List Rw) (a b c:Int):cells Qb1 l ++ [.pv (.lit (.int .i64 a)),.pv (.lit (.int .i64 b)),.pv (.lit (.int .i64 c))] = cells Qb1 (l ++ [⟨a,b,c⟩]):=by rw [Qx]; rfl
structure Dt where
  pg:Int
  rc:Int
  last:Int
def Qdt:Enc Dt:=⟨3,fun r=>[.lit (.int .i64 r.pg),.lit (.int .i64 r.rc),.lit (.int .i64 r.last)],by decide,fun _=>rfl⟩
@[go_sem] def Dt.d (r:Dt):List DV:=[.int .i64 r.pg,.int .i64 r.rc,.int .i64 r.last]
theorem QEn (l:List Dt):(cells Qdt l).length = l.length * 3:=QG Qdt l
theorem QFa (l:List Dt) (n:Nat) (h:l.length * 3<=n):(cells Qdt l).take n = cells Qdt l:=by rw [List.take_of_length_le]; rw [QEn]; exact h
theorem QEX {n:Nat} {hp:Qa} {len:Nat} {l:List Dt} (h:l.length = len):QgN n hp 0 3 len (some (cells Qdt l)) = some (.sl (fz Qdt l)):=QU Qdt h
def Dt0:Dt:=⟨0,0,0⟩
theorem Qfm (l:List Dt) (i:Nat) (h:i < l.length):(fz Qdt l)[i]? = some [.lit (.int .i64 (l.getD i Dt0).pg),.lit (.int .i64 (l.getD i Dt0).rc),.lit (.int .i64 (l.getD i Dt0).last)]:=Qc1 Qdt l Dt0 i h
theorem QD6 (l:List Dt) (a b c:Int):cells Qdt l ++ [.pv (.lit (.int .i64 a)),.pv (.lit (.int .i64 b)),.pv (.lit (.int .i64 c))] = cells Qdt (l ++ [⟨a,b,c⟩]):=by rw [Qx]; rfl
structure Gr where
  tx:Int
  pg:Int
  sl:Int
  md:Int
def Gr0:Gr:=⟨0,0,0,0⟩
def Qap:Enc Gr:=⟨4,fun g=>[.lit (.int .i64 g.tx),.lit (.int .i64 g.pg),.lit (.int .i64 g.sl),.lit (.int .i64 g.md)],by decide,fun _=>rfl⟩
@[go_sem] def Gr.d (g:Gr):List DV:=[.int .i64 g.tx,.int .i64 g.pg,.int .i64 g.sl,.int .i64 g.md]
theorem QEs (l:List Gr):(cells Qap l).length = l.length * 4:=QG Qap l
theorem QFf (l:List Gr) (n:Nat) (h:l.length * 4<=n):(cells Qap l).take n = cells Qap l:=by rw [List.take_of_length_le]; rw [QEs]; exact h
theorem QE8 (l m:List Gr):cells Qap l ++ cells Qap m = cells Qap (l ++ m):=(Qx Qap l m).symm
theorem QER (l:List Gr) (T:TypeId) (a b:Nat) (h:a<=b/\b<=l.length):Qlr (some (none,T,4)) (fz Qap l) a b = some (.pv (.sl (fz Qap ((l.take b).drop a)))):=Qid Qap l T a b h
theorem QEO (l:List Gr):(fz Qap l = []\/(fz Qap l)[0]?.map List.length = some 4) = True:=Qfl Qap l
theorem QE2 {n:Nat} {hp:Qa} {len:Nat} {l:List Gr} (h:l.length = len):QgN n hp 0 4 len (some (cells Qap l)) = some (.sl (fz Qap l)):=QU Qap h
theorem QaD (l:List Gr) (i:Nat) (h:i < l.length):(fz Qap l)[i]? = some [.lit (.int .i64 (l.getD i Gr0).tx),.lit (.int .i64 (l.getD i Gr0).pg),.lit (.int .i64 (l.getD i Gr0).sl),.lit (.int .i64 (l.getD i Gr0).md)]:=Qc1 Qap l Gr0 i h
theorem QEb (l:List Gr) (a b c d:Int):cells Qap l ++ [.pv (.lit (.int .i64 a)),.pv (.lit (.int .i64 b)),.pv (.lit (.int .i64 c)),.pv (.lit (.int .i64 d))] = cells Qap (l ++ [⟨a,b,c,d⟩]):=by rw [Qx]; rfl
theorem QdB (l:List E) (i:Nat) (h:i < l.length):(fz encE l)[i]? = some [.lit (.int .i64 (l.getD i E0).lsn),.lit (.int .i64 (l.getD i E0).kind),.lit (.int .i64 (l.getD i E0).tx),.lit (.int .i64 (l.getD i E0).ptx),.lit (.int .i64 (l.getD i E0).ppg),.lit (.int .i64 (l.getD i E0).ref),.lit (.int .i64 (l.getD i E0).c.pg),.lit (.int .i64 (l.getD i E0).c.sl),.lit (.bool (l.getD i E0).c.b.set),.str (l.getD i E0).c.b.data,.lit (.bool (l.getD i E0).c.a.set),.str (l.getD i E0).c.a.data,.str (l.getD i E0).blob]:=Qc1 encE l E0 i h
theorem QdV (l:List Tx) (i:Nat) (h:i < l.length):(fz Qah l)[i]? = some [.lit (.int .i64 (l.getD i Tx0).id),.lit (.int .i64 (l.getD i Tx0).st),.lit (.int .i64 (l.getD i Tx0).n),.lit (.int .i64 (l.getD i Tx0).b),.sl (fz Q0 (l.getD i Tx0).l),.sl (fz Q0 (l.getD i Tx0).s)]:=Qc1 Qah l Tx0 i h
theorem QDu (l:List E):DV.wk.go (cells encE l) = cells encE l:=Qbe encE l fun a p hp=>by
  simp [encE] at hp
  rcases hp with h | h | h | h | h | h | h | h | h | h | h | h | h<;>subst h<;>rfl
theorem QEG (l:List Gr):DV.wk.go (cells Qap l) = cells Qap l:=Qbe Qap l fun a p hp=>by
  simp [Qap] at hp
  rcases hp with h | h | h | h<;>subst h<;>rfl
theorem QED (l:List Rw):DV.wk.go (cells Qb1 l) = cells Qb1 l:=Qbe Qb1 l fun a p hp=>by
  simp [Qb1] at hp
  rcases hp with h | h | h<;>subst h<;>rfl
theorem QEB (l:List Dt):DV.wk.go (cells Qdt l) = cells Qdt l:=Qbe Qdt l fun a p hp=>by
  simp [Qdt] at hp
  rcases hp with h | h | h<;>subst h<;>rfl
theorem QEH (l:List Fm):DV.wk.go (cells Qcn l) = cells Qcn l:=Qbe Qcn l fun a p hp=>by
  have hm:a.p.map PV.wk = a.p:=rfl
  have hp:p ∈ a.p:=hp
  obtain ⟨i,hi,rfl⟩:=List.getElem_of_mem hp
  have:=congrArg (fun l=>l[i]?) hm
  simpa [hi] using this
attribute [go_sem] QDu QEG QED QEB QEH
attribute [go_sem] QDj QFg QE9 QES QEP QDn QtU QEq QFd QEN QE0 QD9 QEn QFa QEX QD6 QEs QFf QE8 QER QEO QE2 QEb
structure Pl where
  size:Int
  fs:List Fm
  hand:Int
@[go_sem] def Pl.d (p:Pl):List DV:=[.int .i64 p.size,.pv (.sl (fz Qcn p.fs)),.int .i64 p.hand]
def Pl0:Pl:=⟨0,[],0⟩
structure Lk where
  held:List Gr
  wait:List Gr
@[go_sem] def Lk.d (t:Lk):List DV:=[.pv (.sl (fz Qap t.held)),.pv (.sl (fz Qap t.wait))]
def cb (c:C):Blk:=⟨78,true,cc c⟩
abbrev CX (R:DV->Prop):DV->Qa->Prop:=fun r h'=>∃ B',h' = [B']/\B'.live = true/\DV.nums.go (fun _=>false) B'.cells = true/\r.nums (fun _=>false) = true/\(R r/\∃ c',B' = cb c')
theorem QO {g:FuncId} {args:List DV} {hp:Qa} {k:Nat} {c:C} {R:DV->Prop} {K:DV->Qa->Prop} (h:VCalls prog g (args.map (DV.ren fun _=>0)) [cb c] (CX R)) (hk:hp[k]? = some (cb c))
    (ha:DV.nums.go (fun i=>i == k) args = true) (hK:∀ r c',R r->K r (hp.set k (cb c'))):VCalls prog g args hp K:=
  (VCalls.ptr1 (R:=fun r B'=>R r/\∃ c',B' = cb c') hk rfl (QaE c) h ha).mono fun r h' ⟨B',e1,_,_,e2,e3⟩=>by subst e1; obtain ⟨c',rfl⟩:=e3; exact hK r c' e2
abbrev Nx (n:Nat):DV->Prop:=fun r=>∃ x:Nat,r = .int .i64 x/\x < n
theorem QiW (c:C) (n:Nat) (h1:1<=n) (hn:n<=256):VCalls prog 20 [.ptr 0 0,.int .i64 n] [cb c] (CX (Nx n)):=by
  refine dd Tryz.func20 ?_
  have ha:=c.ha
  have hl:=c.hl
  simp (config:={ maxSteps:=2000000 }) (implicitDefEqProofs:=false) (disch:=first | omega | assumption | (simp only []; done) | fail) only [go_sem,Nat.reduceAdd,Int.reduceAdd,Tryz.f20,cb,cc]
  refine QdJ (by kernel_rfl) (by kernel_rfl) ?_
  by_cases a:c.at_ < c.l.length
  · simp (config:={ maxSteps:=2000000 }) (implicitDefEqProofs:=false) (disch:=first | omega | assumption | (simp only []; done) | fail) only [go_sem,↓reduceIte,reduceCtorEq,Nat.reduceAdd,Nat.reduceBEq,Int.reduceAdd,Int.reduceBEq]
    refine QdJ (by kernel_rfl) (by kernel_rfl) ?_
    have hg:=Qmy c.l c.at_ a
    have hh:(c.l.getD c.at_ 0).toNat < 256:=UInt8.toNat_lt _
    simp (config:={ maxSteps:=2000000 }) (implicitDefEqProofs:=false) (disch:=first | omega | assumption | (simp only [List.length_cons,List.length_nil,Nat.zero_add]; done) | fail) only [go_sem,↓reduceIte,reduceCtorEq,Nat.reduceAdd,Nat.reduceLT,Nat.reduceBEq,Int.reduceLT,Int.reduceAdd,Int.reduceBEq,hg]
    obtain ⟨y,hy,hlt⟩:=QiA (c.l.getD c.at_ 0).toNat n h1
    refine ⟨_,rfl,rfl,rfl,rfl,⟨y,by rw [hy],hlt⟩,⟨c.l,c.at_ + 1,a,hl⟩,rfl⟩
  · simp (config:={ maxSteps:=2000000 }) (implicitDefEqProofs:=false) (disch:=first | omega | assumption | (simp only []; done) | fail) only [go_sem,↓reduceIte,reduceCtorEq,Nat.reduceAdd,Nat.reduceBEq,Int.reduceAdd,Int.reduceBEq]
    exact ⟨_,rfl,rfl,rfl,rfl,⟨0,rfl,h1⟩,c,rfl⟩
theorem QW (c:C) (n:Nat) (h1:1<=n) (hn:n<=1000000000):VCalls prog 20 [.ptr 0 0,.int .i64 n] [cb c] (CX (Nx n)):=by
  by_cases hs:n<=256
  · exact QiW c n h1 hs
  refine dd Tryz.func20 ?_
  have ha:=c.ha
  have hl:=c.hl
  simp (config:={ maxSteps:=2000000 }) (implicitDefEqProofs:=false) (disch:=first | omega | assumption | (simp only []; done) | fail) only [go_sem,Nat.reduceAdd,Int.reduceAdd,Tryz.f20,cb,cc]
  refine QdJ (by kernel_rfl) (by kernel_rfl) ?_
  by_cases a:c.at_ < c.l.length
  · simp (config:={ maxSteps:=2000000 }) (implicitDefEqProofs:=false) (disch:=first | omega | assumption | (simp only []; done) | fail) only [go_sem,↓reduceIte,reduceCtorEq,Nat.reduceAdd,Nat.reduceBEq,Int.reduceAdd,Int.reduceBEq]
    refine QdJ (by kernel_rfl) (by kernel_rfl) ?_
    have hg:=Qmy c.l c.at_ a
    have hh:(c.l.getD c.at_ 0).toNat < 256:=UInt8.toNat_lt _
    generalize hx:(c.l.getD c.at_ 0).toNat = x at hg hh
    simp (config:={ maxSteps:=2000000 }) (implicitDefEqProofs:=false) (disch:=first | omega | assumption | (simp only [List.length_cons,List.length_nil,Nat.zero_add]; done) | fail) only [go_sem,↓reduceIte,reduceCtorEq,Nat.reduceAdd,Nat.reduceLT,Nat.reduceBEq,Int.reduceLT,Int.reduceAdd,Int.reduceBEq,hg]
    refine QO (k:=0) (c:=⟨c.l,c.at_ + 1,a,hl⟩) (QiW _ 256 (by omega) (by omega)) rfl rfl ?_
    rintro r c' ⟨z,rfl,hz⟩
    simp (config:={ maxSteps:=2000000 }) (implicitDefEqProofs:=false) (disch:=first | omega | assumption | (simp only []; done) | fail) only [go_sem,Nat.reduceBEq,Int.reduceBEq,cb,cc]
    obtain ⟨y,hy,hlt⟩:=QiA (256 * x + z) n h1
    have e:(256 * (x:Int) + (z:Int)) = ((256 * x + z:Nat):Int):=by omega
    refine ⟨_,rfl,rfl,rfl,rfl,⟨y,by rw [e,hy],hlt⟩,c',rfl⟩
  · simp (config:={ maxSteps:=2000000 }) (implicitDefEqProofs:=false) (disch:=first | omega | assumption | (simp only []; done) | fail) only [go_sem,↓reduceIte,reduceCtorEq,Nat.reduceAdd,Nat.reduceBEq,Int.reduceAdd,Int.reduceBEq]
    exact ⟨_,rfl,rfl,rfl,rfl,⟨0,rfl,h1⟩,c,rfl⟩
theorem Qxn (c:C) (m:Int) (h1:1<=m) (hn:m<=1000000000):VCalls prog 20 [.ptr 0 0,.int .i64 m] [cb c] (CX (Nx m.toNat)):=by
  have h:=QW c m.toNat (by omega) (by omega)
  rwa [show ((m.toNat:Nat):Int) = m by omega] at h
theorem QCE (l:List UInt8) (most:Nat) (hm:1<=most) (h:most<=1000000) (hl:l.length<=9223372036854775807):VCalls prog 8 [.pv (.sl (fz Qe7 l)),.int .i64 most] [] fun r h'=>∃ B,h' = [B]/\r = .ptr 0 0/\B.live = true/\DV.nums.go (fun _=>false) B.cells = true/\∃ c,B = cb c:=by
  refine Qa4 (fn:=Tryz.f8) Tryz.func8 rfl (by kernel_rfl) (by simp [Tryz.f8]) ?_
  simp (config:={ maxSteps:=2000000 }) (implicitDefEqProofs:=false) (disch:=first | omega | assumption | (simp only []; done) | fail) only [go_sem,Nat.reduceAdd,Nat.reduceBEq,Int.reduceAdd,Int.reduceBEq,Tryz.f8]
  refine Qat (fun hc=>?_) (fun hc=>?_)<;>simp only [decide_eq_true_eq,decide_eq_false_iff_not,Bool.or_eq_true,Bool.and_eq_true,Bool.or_eq_false_iff,Bool.and_eq_false_imp,Bool.not_eq_true',Bool.not_eq_false',beq_iff_eq,beq_eq_false_iff_ne,bne_iff_ne,bne_eq_false_iff_eq,ne_eq] at hc
  · have hx:(fz Qe7 l)[0]?.map List.length = some 1:=QnG Qe7 l (by omega)
    have ht:(fz Qe7 l).take most = fz Qe7 (l.take most):=QsX Qe7 l most
    have hh:most<=(fz Qe7 l).length:=by rw [QkY]; omega
    have h0:(0:Nat)<=most:=by omega
    simp (config:={ maxSteps:=2000000 }) (implicitDefEqProofs:=false) (disch:=first | omega | assumption | (simp only []; done) | fail) only [go_sem,V.splice,↓reduceIte,Nat.reduceAdd,Nat.reduceLT,Nat.reduceLeDiff,Nat.reduceBEq,Int.reduceLT,Int.reduceAdd,Int.reduceBEq,ht]
    exact ⟨_,rfl,rfl,rfl,⟨l.take most,0,by omega,by rw [List.length_take]; omega⟩,rfl⟩
  · simp (config:={ maxSteps:=2000000 }) (implicitDefEqProofs:=false) (disch:=first | omega | assumption | (simp only []; done) | fail) only [go_sem,V.splice,↓reduceIte,Nat.reduceAdd,Nat.reduceLT,Nat.reduceLeDiff,Nat.reduceBEq,Int.reduceLT,Int.reduceAdd,Int.reduceBEq]
    exact ⟨_,rfl,rfl,rfl,⟨l,0,by omega,by omega⟩,rfl⟩
theorem Qyl {l:List UInt8} {most:Nat} {hp:Qa} {K:DV->Qa->Prop} (hm:1<=most) (h:most<=1000000) (hl:l.length<=9223372036854775807) (hK:∀ c,K (.ptr hp.length 0) (hp ++ [cb c])):VCalls prog 8 [.pv (.sl (fz Qe7 l)),.int .i64 most] hp K:=
  (VCalls.new (QCE l most hm h hl) rfl).mono fun r h' ⟨B,e1,e2,_,_,c,e3⟩=>by subst e1 e2 e3; exact hK c
theorem QsH (c:C):VCalls prog 32 [.ptr 0 0] [cb c] (CX fun r=>∃ n:Int,r = .int .i64 n/\-9223372036854775808<=n/\n<=9223372036854775807):=by
  refine dd Tryz.func32 ?_
  simp (config:={ maxSteps:=2000000 }) (implicitDefEqProofs:=false) (disch:=first | omega | assumption | (simp only []; done) | fail) only [go_sem,Nat.reduceBEq,Int.reduceNeg,Int.reduceBEq,Tryz.f32]
  refine QO (k:=0) (c:=c) (QW c 10 (by omega) (by omega)) rfl rfl ?_
  rintro _ c1 ⟨z,rfl,hz⟩
  (try simp (config:={ maxSteps:=2000000 }) (implicitDefEqProofs:=false) (disch:=first | omega | assumption | (simp only []; done) | fail) only [go_sem,Int.reduceNeg])
  repeat' (first
    | (refine Qf2 (fun hZ=>?_) (fun hZ=>?_)<;>(try rw [hZ])<;>(try simp only [decide_eq_true_eq,decide_eq_false_iff_not,Bool.or_eq_true,Bool.and_eq_true,Bool.or_eq_false_iff,Bool.and_eq_false_imp,Bool.not_eq_true',Bool.not_eq_false',beq_iff_eq,beq_eq_false_iff_ne,bne_iff_ne,bne_eq_false_iff_eq,ne_eq,Bool.not_eq_eq_eq_not,Bool.not_true,Bool.not_false] at hZ)<;>(try (first | rw [(hZ:_ = false)] | rw [(hZ:_ = true)]))<;>skip)
    | (refine Qat (fun hZ=>?_) (fun hZ=>?_)<;>(try rw [hZ])<;>(try simp only [decide_eq_true_eq,decide_eq_false_iff_not,Bool.or_eq_true,Bool.and_eq_true,Bool.or_eq_false_iff,Bool.and_eq_false_imp,Bool.not_eq_true',Bool.not_eq_false',beq_iff_eq,beq_eq_false_iff_ne,bne_iff_ne,bne_eq_false_iff_eq,ne_eq,Bool.not_eq_eq_eq_not,Bool.not_true,Bool.not_false] at hZ)<;>(try (first | rw [(hZ:_ = false)] | rw [(hZ:_ = true)]))<;>(try simp (config:={ maxSteps:=2000000 }) (implicitDefEqProofs:=false) (disch:=first | omega | assumption | (simp only []; done) | fail) only [go_sem,V.splice,V.mk,↓reduceIte,Nat.reduceAdd,Nat.reduceLT,Nat.reduceLeDiff,Nat.reduceBEq,Int.reduceLT,Int.reduceNeg,Int.reduceAdd,Int.reduceBEq]))
    | (refine QhI (fun hZ=>?_) (fun hZ=>?_)<;>(try rw [hZ])<;>(try simp only [decide_eq_true_eq,decide_eq_false_iff_not,Bool.or_eq_true,Bool.and_eq_true,Bool.or_eq_false_iff,Bool.and_eq_false_imp,Bool.not_eq_true',Bool.not_eq_false',beq_iff_eq,beq_eq_false_iff_ne,bne_iff_ne,bne_eq_false_iff_eq,ne_eq,Bool.not_eq_eq_eq_not,Bool.not_true,Bool.not_false] at hZ)<;>(try (first | rw [(hZ:_ = false)] | rw [(hZ:_ = true)]))<;>skip))
  · refine QO (k:=0) (c:=c1) (QW c1 3 (by omega) (by omega)) rfl rfl ?_
    rintro _ c2 ⟨y,rfl,hy⟩
    simp (config:={ maxSteps:=2000000 }) (implicitDefEqProofs:=false) (disch:=first | omega | assumption | (simp only []; done) | fail) only [go_sem,Int.reduceNeg]
    exact ⟨_,rfl,rfl,QaE _,rfl,⟨_,rfl,by omega,by omega⟩,c2,rfl⟩
  · refine QO (k:=0) (c:=c1) (QW c1 16 (by omega) (by omega)) rfl rfl ?_
    rintro _ c2 ⟨y,rfl,hy⟩
    have h:y = 0\/y = 1\/y = 2\/y = 3\/y = 4\/y = 5\/y = 6\/y = 7\/y = 8\/y = 9\/y = 10\/y = 11\/y = 12\/y = 13\/y = 14\/y = 15:=by omega
    rcases h with rfl | rfl | rfl | rfl | rfl | rfl | rfl | rfl | rfl | rfl | rfl | rfl | rfl | rfl | rfl | rfl<;>(simp (config:={ maxSteps:=2000000 }) (implicitDefEqProofs:=false) (disch:=first | omega | assumption | (simp only []; done) | fail) only [go_sem,Nat.reduceBEq,Int.reduceNeg,Int.reduceBEq]; exact ⟨_,rfl,rfl,QaE _,rfl,⟨_,rfl,by omega,by omega⟩,c2,rfl⟩)
  · refine QO (k:=0) (c:=c1) (QW c1 20 (by omega) (by omega)) rfl rfl ?_
    rintro _ c2 ⟨y,rfl,hy⟩
    simp (config:={ maxSteps:=2000000 }) (implicitDefEqProofs:=false) (disch:=first | omega | assumption | (simp only []; done) | fail) only [go_sem,Int.reduceNeg]
    exact ⟨_,rfl,rfl,QaE _,rfl,⟨_,rfl,by omega,by omega⟩,c2,rfl⟩
theorem QDo:bts prog 22 9 = true:=by kernel_rfl
section
attribute [local go_sem] cb cc
theorem QCN (b:Int) (hb:0<=b/\b<=255):∃ y:UInt8,b = (y.toNat:Int):=⟨UInt8.ofNat b.toNat,by simp only [UInt8.toNat_ofNat']; omega⟩
theorem Qsr {α:Type} {n:Nat} {A B:α} (hn:n<=1000000000):(if 0<=(n:Int)/\((1:Nat):Int) * n<=281474976710656/\(n:Int)<=9223372036854775807 then A else B) = A:=
  if_pos ⟨by omega,by omega,by omega⟩
abbrev Dx (n:Nat):DV->Prop:=fun r=>∃ t:List UInt8,r = .pv (.str t)/\t.length<=n
structure DSt (n:Nat) where
  c:C
  l:List UInt8
  hl:l.length<=n
theorem Qtt (c:C):VCalls prog 57 [.ptr 0 0] [cb c] (CX (Dx 13)):=by
  refine dd Tryz.func57 ?_
  (unfold Tryz.f57; refine rn trivial ?_)
  refine QO (k:=0) (c:=c) (QW c 5 (by omega) (by omega)) rfl rfl ?_
  rintro _ c1 ⟨z,rfl,hz⟩
  refine rn trivial ?_
  refine QO (k:=0) (c:=c1) (QW c1 6 (by omega) (by omega)) rfl rfl ?_
  rintro _ c2 ⟨z2,rfl,hz2⟩
  have hcw:=fun (hp:Qa) (k o n:Nat)=>QeC (hp:=hp) (k:=k) (off:=o) (len:=n) QDo
  have mk:=fun (n:Nat) (h:n<=1000000000) (A B:Option (DV × Qa))=>Qsr (n:=n) (A:=A) (B:=B) h
  refine rn F ?_
  repeat' (first
    | with_reducible exact ⟨⟩
    | (refine sB F ?_ ?_<;>intro hZ))
  case' refine_1=>
    refine QO (k:=0) (c:=c2) (QW c2 14 (by omega) (by omega)) rfl rfl ?_
    rintro _ c3 ⟨n,rfl,hn⟩
  case' refine_2=>
    obtain ⟨n,rfl,hn⟩:∃ n:Nat,n = z/\n < 14:=⟨z,rfl,by omega⟩
    obtain ⟨c3,rfl⟩:∃ c3,c3 = c2:=⟨c2,rfl⟩
  all_goals
    have hm:=fun A B=>mk n (by omega) A B
    have hr:List.replicate 0 (0:UInt8) = []:=rfl
    refine rn (And.intro @hm @hr) ?_
    refine Qh (fun i:DSt n=>⟨29,1,[(5,.int .i64 i.l.length),(3,.int .i64 n),(4,.own 1 1 0 i.l.length),(0,.ptr 0 0)],[cb i.c,⟨5,true,cells Qe7 i.l⟩]⟩) (fun i=>n - i.l.length) ⟨c3,[],Nat.zero_le _⟩ (gc [0,1]) ?_
    rintro ⟨c4,l,hl⟩
    dsimp only
    have hvc:=fun hp:Qa=>@Qde hp l _ rfl
    by_cases hc:l.length < n
    · skip
      refine rn F ?_
      refine QO (k:=0) (c:=c4) (QW c4 3 (by omega) (by omega)) rfl rfl ?_
      rintro r c5 ⟨y,rfl,hy⟩
      obtain ⟨u,hu⟩:∃ u:UInt8,97 + (y:Int) = (u.toNat:Int):=QCN _ (by omega)
      have e2:cells Qe7 l ++ [.pv (.lit (.int .u8 u.toNat))] = cells Qe7 (l ++ [u]):=(Qx Qe7 l [u]).symm
      have e3:(cells Qe7 l).take l.length = cells Qe7 l:=by rw [List.take_of_length_le]; rw [Qdw]; exact Nat.le_refl _
      have hub:u.toNat < 256:=u.toNat_lt
      have hs2:l.length<=140737488355327:=by omega
      refine rn (And.intro @hu (And.intro @hs2 (And.intro @e3 @e2))) ?_
      have hl2:(l ++ [u]).length = l.length + 1:=by simp
      refine ⟨⟨c5,l ++ [u],by rw [hl2]; omega⟩,by dsimp only; rw [hl2]; omega,?_⟩
      dsimp only
      rw [hl2]
      exact (gc [0,3])
    · skip
      have F:=(And.intro @hcw @hvc)
      refine rn F ?_
      exact ⟨_,rfl,rfl,QaE _,rfl,⟨_,rfl,by omega⟩,c4,rfl⟩
end
section
attribute [local go_sem] cb cc Ce.d Ch.d
abbrev ChX:DV->Prop:=fun r=>∃ x:Ch,r = .agg x.d
abbrev EX:DV->Prop:=fun r=>∃ x:E,r = .agg x.d
theorem Qmo (c:C) (x:Ch):VCalls prog 56 [.ptr 0 0,.agg x.d] [cb c] (CX ChX):=by
  refine dd Tryz.func56 ?_
  obtain ⟨pg,sl,⟨b1,b2⟩,⟨a1,a2⟩⟩:=x
  (unfold Tryz.f56; refine rn trivial ?_)
  refine rn F ?_
  repeat' (first
    | with_reducible exact ⟨⟩
    | (refine sB F ?_ ?_<;>intro hZ)
    | (refine QO (k:=0) (QW _ 4 (by omega) (by omega)) rfl rfl ?_; rintro _ _ ⟨_,rfl,_⟩; refine rn F ?_)
    | (refine QO (k:=0) (QW _ 2 (by omega) (by omega)) rfl rfl ?_; rintro _ _ ⟨_,rfl,_⟩; refine rn F ?_)
    | (refine QO (k:=0) (QsH _) rfl rfl ?_; rintro _ _ ⟨_,rfl,_⟩; refine rn F ?_)
    | (refine QO (k:=0) (Qtt _) rfl rfl ?_; rintro _ _ ⟨_,rfl,_⟩; refine rn F ?_))
  all_goals exact ⟨_,rfl,rfl,QaE _,rfl,⟨⟨_,_,⟨_,_⟩,⟨_,_⟩⟩,rfl⟩,_,rfl⟩
theorem QoO (c:C) (x:E):VCalls prog 33 [.ptr 0 0,.agg x.d] [cb c] (CX EX):=by
  refine dd Tryz.func33 ?_
  unfold E.d
  obtain ⟨lsn,kind,tx,ptx,ppg,ref,⟨pg,sl,⟨b1,b2⟩,⟨a1,a2⟩⟩,blob⟩:=x
  (unfold Tryz.f33; refine rn trivial ?_)
  have hcw:=fun (hp:Qa) (k o n:Nat)=>QeC (hp:=hp) (k:=k) (off:=o) (len:=n) QDo
  refine rn F ?_
  repeat' (first
    | with_reducible exact ⟨⟩
    | (refine sB F ?_ ?_<;>intro hZ)
    | (refine QO (k:=0) (QW _ 9 (by omega) (by omega)) rfl rfl ?_; rintro _ _ ⟨_,rfl,_⟩; refine rn F ?_)
    | (refine QO (k:=0) (QW _ 11 (by omega) (by omega)) rfl rfl ?_; rintro _ _ ⟨_,rfl,_⟩; refine rn F ?_)
    | (refine QO (k:=0) (QsH _) rfl rfl ?_; rintro _ _ ⟨_,rfl,_⟩; refine rn F ?_)
    | (refine QO (k:=0) (Qmo _ ⟨pg,sl,⟨b1,b2⟩,⟨a1,a2⟩⟩) rfl rfl ?_; rintro _ _ ⟨_,rfl,_⟩; refine rn F ?_)
    | (refine QO (k:=0) (Qtt _) rfl rfl ?_; rintro _ _ ⟨_,rfl,_⟩; refine rn F ?_))
  all_goals first
    | exact ⟨_,rfl,rfl,QaE _,rfl,⟨⟨_,_,_,_,_,_,⟨_,_,⟨_,_⟩,⟨_,_⟩⟩,_⟩,rfl⟩,_,rfl⟩
    | skip
  · refine QO (k:=0) (QW _ 2 (by omega) (by omega)) rfl rfl ?_
    rintro _ c2 ⟨n,rfl,hn⟩
    obtain ⟨m,hm,hm1⟩:∃ m:Nat,8192 + (n:Int) = m/\m<=9000:=⟨8192 + n,by omega,by omega⟩
    have hrl:(List.replicate m (0:UInt8)).length = m:=List.length_replicate
    have hvc:=fun hp:Qa=>@Qde hp _ _ hrl
    have F:=(And.intro @hm (And.intro @hm1 (And.intro @hcw @hvc)))
    refine rn F ?_
    exact ⟨_,rfl,rfl,QaE _,rfl,⟨⟨_,_,_,_,_,_,⟨_,_,⟨_,_⟩,⟨_,_⟩⟩,_⟩,rfl⟩,_,rfl⟩
end
section
attribute [local go_sem] cb cc Lg.c
theorem gE (l:List E) (i j:Nat) (h:i < l.length) (hj:j < 13):(cells encE l)[i * 13 + j]? = ((encE.enc (l.getD i E0)).map DV.pv)[j]?:=by
  have:=QfZ encE l i h
  rw [Qn l i h]
  rw [<- this,List.getElem?_take,if_pos (show j < encE.sz from hj),List.getElem?_drop]; rfl
theorem gE0 (l:List E) (i:Nat) (h:i < l.length):(cells encE l)[i * 13]? = some (.pv (.lit (.int .i64 (l.getD i E0).lsn))):=gE l i 0 h (by decide)
theorem sE3 (l:List E) (i:Nat) (h:i < l.length) (x:Int):(cells encE l).set (i * 13 + 3) (.pv (.lit (.int .i64 x))) = cells encE (l.set i { l.getD i E0 with ptx:=x }):=QEj encE l i 3 _ _ h (by decide) (by rw [Qn l i h]; rfl)
theorem sE4 (l:List E) (i:Nat) (h:i < l.length) (x:Int):(cells encE l).set (i * 13 + 4) (.pv (.lit (.int .i64 x))) = cells encE (l.set i { l.getD i E0 with ppg:=x }):=QEj encE l i 4 _ _ h (by decide) (by rw [Qn l i h]; rfl)
theorem QyF (l:List E) (i:Nat) (h:i < l.length) (e:E):(cells encE l).take (i * 13) ++ [.pv (.lit (.int .i64 e.lsn)),.pv (.lit (.int .i64 e.kind)),.pv (.lit (.int .i64 e.tx)),.pv (.lit (.int .i64 e.ptx)),.pv (.lit (.int .i64 e.ppg)),.pv (.lit (.int .i64 e.ref)),.pv (.lit (.int .i64 e.c.pg)),.pv (.lit (.int .i64 e.c.sl)),.pv (.lit (.bool e.c.b.set)),.pv (.str e.c.b.data),.pv (.lit (.bool e.c.a.set)),.pv (.str e.c.a.data),.pv (.str e.blob)] ++ (cells encE l).drop (i * 13 + 13) = cells encE (l.set i e):=Qm2 encE l i e h
theorem elE (l:List E) (i:Nat) (h:i < l.length):((cells encE l).drop (i * 13)).take 13 = (l.getD i E0).d:=by rw [Qn l i h]; exact QfZ encE l i h
end
section
attribute [local go_sem] Qbb
def Pg.numB (p:Pg):Bool:=decide (0<=p.id) && decide (p.id < 64) && decide (0<=p.lsn) && decide (p.lsn<=1099511627776)
def Pg.celC (p:Pg) (i:Nat):Bool:=(p.cel i).okB && !(decide (p.lsn = 0) && (p.cel i).set)
def Pg.celB (p:Pg):Bool:=(List.range 16).all p.celC
def Pg.okB (p:Pg):Bool:=p.numB && p.celB
def QaP (p:Pg):Int:=if p.numB = false then 1 else if p.celB = false then 22 else 0
theorem Qxg (p:Pg):VCalls prog 204 [.agg p.d] [] (Ret (.bool p.numB)):=by
  refine dd Tryz.func204 ?_
  (unfold Tryz.f204; refine rn trivial ?_)
  refine rn F ?_
  repeat' (first
    | with_reducible exact ⟨⟩
    | (refine sG F ?_ ?_<;>intro hZ))
  all_goals (first | rfl | (congr 3; rw [Bool.eq_iff_iff]; (try simp only [Pg.numB,decide_eq_true_eq,Bool.and_eq_true,Bool.or_eq_true,Bool.not_eq_true',Bool.not_eq_false',decide_eq_false_iff_not,beq_iff_eq,bne_iff_ne,ne_eq,Bool.false_eq_true,Bool.true_eq_false,iff_true,true_iff,iff_false,false_iff]); first | done | omega | grind))
theorem Qni (p:Pg):VCalls prog 205 [.agg p.d] [] (Ret (.bool p.celB)):=by
  refine dd Tryz.func205 ?_
  (unfold Tryz.f205; refine rn trivial ?_)
  refine Qh (fun s:Okay 16 p.celC=>⟨26,0,[(3,.int .i64 s.i),(1,.ptr 0 0)],[⟨178,true,p.d⟩]⟩) (fun s=>16 - s.i) (Okay.start _ _) (gc [0]) ?_
  intro s
  have hsi:=s.hi
  have hg:=fun h:s.i < 16=>QnP p s.i h
  have hg0:=fun h:s.i < 16=>QtO p s.i h
  have e:p.celC s.i = ((p.cel s.i).okB && !(decide (p.lsn = 0) && (p.cel s.i).set)):=rfl
  have c:=Qgs (p.cel s.i)
  generalize (p.cel s.i).okB = ok at *
  have F:=(And.intro @hg @hg0)
  refine rn F ?_
  repeat' (first
    | with_reducible exact ⟨⟩
    | (refine sG F ?_ ?_<;>intro hZ)
    | (refine sB F ?_ ?_<;>intro hZ)
    | refine vp F (c) ?_)
  all_goals first | (exact congrArg DV.bool (s.no (by omega) rfl (by rw [e]; simp_all )).symm) | (exact congrArg DV.bool (s.yes (by omega) rfl).symm) | (exact ⟨s.next (by omega) (by rw [e]; simp_all ),s.dec (by omega),(gc [ 0])⟩) | skip
theorem Qrm (p:Pg):VCalls prog 154 [.agg p.d] [] (Ret (.bool p.okB)):=by
  refine dd Tryz.func154 ?_
  have c1:=Qxg p
  have c2:=Qni p
  have e:p.okB = (p.numB && p.celB):=rfl
  generalize p.numB = a at *
  generalize p.celB = b at *
  (unfold Tryz.f154; refine rn trivial ?_)
  refine rn F ?_
  repeat' (first
    | with_reducible exact ⟨⟩
    | (refine sG F ?_ ?_<;>intro hZ)
    | refine vp F (c1) ?_
    | refine vp F (c2) ?_)
  all_goals (rw [e]; simp_all)
theorem Qdn (p:Pg):VCalls prog 155 [.agg p.d] [] (Ret (.int .i64 (QaP p))):=by
  refine dd Tryz.func155 ?_
  have c1:=Qxg p
  have c2:=Qni p
  have e:QaP p = if p.numB = false then 1 else if p.celB = false then 22 else 0:=rfl
  generalize p.numB = a at *
  generalize p.celB = b at *
  (unfold Tryz.f155; refine rn trivial ?_)
  refine rn F ?_
  repeat' (first
    | with_reducible exact ⟨⟩
    | (refine sB F ?_ ?_<;>intro hZ)
    | refine vp F (c1) ?_
    | refine vp F (c2) ?_)
  all_goals (rw [e]; simp_all)
theorem QtK {p:Pg} (h:QaP p = 0):p.okB = true:=by
  unfold QaP at h
  unfold Pg.okB
  split at h
  · simp at h
  split at h
  · simp at h
  · simp_all
end
section
attribute [local go_sem] Qbb
def idF (l:List Fm) (a:Int):Int:=Qg7 l fun f=>f.pg.id == a
theorem Qcs (p:Pl) (hl:p.fs.length<=1000000) (a:Int):VCalls prog 123 [.agg p.d,.int .i64 a] [] (Ret (.int .i64 (idF p.fs a))):=by
  refine dd Tryz.func123 ?_
  obtain ⟨z,l,h⟩:=p
  (unfold Tryz.f123; refine rn trivial ?_)
  refine Qh (fun i:Pass l (fun x=>(x.pg.id == a) = true)=>⟨23,0,[(5,.int .i64 i.i),(2,.ptr 0 0),(1,.int .i64 a)],[⟨31,true,Pl.d ⟨z,l,h⟩⟩]⟩) (fun i=>l.length - i.i) (Pass.start l _) (gc [0]) ?_
  intro i
  have hi:=i.hi
  dsimp only at hl
  have hg:=fun h:i.i < l.length=>QbP l i.i h
  have F:=@hg
  refine rn F ?_
  repeat' (first
    | with_reducible exact ⟨⟩
    | (refine sB F ?_ ?_<;>intro hZ))
  · have hq:(l.getD i.i Fm0).pg.id = a:=by assumption
    rw [Qn l i.i (by omega)] at hq
    have:=Qmv l (fun x=>x.pg.id == a) i.i (by omega) (by simpa using hq) i.no
    rw [idF,this]
  · have hq:¬ (l.getD i.i Fm0).pg.id = a:=by assumption
    rw [Qn l i.i (by omega)] at hq
    exact ⟨i.next (by omega) (by simpa using hq),by show l.length - (i.i + 1) < l.length - i.i; omega,(gc [0])⟩
  · have:=i.all (by omega)
    rw [idF,Qg7,if_neg (by simpa using this)]
def QAl (l:List Fm) (i k:Nat):Bool:=!decide ((l.getD k Fm0).pg.id = (l.getD i Fm0).pg.id)
def frC (l:List Fm) (i:Nat):Bool:=(l.getD i Fm0).pg.okB && !((l.getD i Fm0).dirty && (decide ((l.getD i Fm0).rc < 1) || decide ((l.getD i Fm0).pg.lsn < (l.getD i Fm0).rc))) && !(!(l.getD i Fm0).dirty && !decide ((l.getD i Fm0).rc = 0)) && (List.range i).all (QAl l i)
def Pl.hd (p:Pl):Prop:=1<=p.size/\p.size<=64/\p.fs.length<=p.size/\0<=p.hand/\p.hand<=max 0 ((p.fs.length:Int) - 1)
instance (p:Pl):Decidable p.hd:=by unfold Pl.hd; infer_instance
def plB (p:Pl):Bool:=decide p.hd && (List.range p.fs.length).all (frC p.fs)
theorem Qkq {p:Pl} (h:plB p = true):p.hd:=by unfold plB at h; simp at h; exact h.1
theorem Qam (p:Pl) (hl:p.fs.length<=1000000):VCalls prog 122 [.agg p.d] [] (Ret (.bool (plB p))):=by
  refine dd Tryz.func122 ?_
  obtain ⟨z,l,hn⟩:=p
  dsimp only at hl
  have hB:plB ⟨z,l,hn⟩ = (decide (Pl.hd ⟨z,l,hn⟩) && (List.range l.length).all (frC l)):=rfl
  have hH:Pl.hd ⟨z,l,hn⟩ = (1<=z/\z<=64/\l.length<=z/\0<=hn/\hn<=max 0 ((l.length:Int) - 1)):=rfl
  have hB':Pl.hd ⟨z,l,hn⟩->plB ⟨z,l,hn⟩ = (List.range l.length).all (frC l):=fun h=>by rw [hB,decide_eq_true h,Bool.true_and]
  have no:¬ Pl.hd ⟨z,l,hn⟩->plB ⟨z,l,hn⟩ = false:=fun h=>by rw [hB,decide_eq_false h]; rfl
  generalize plB ⟨z,l,hn⟩ = b at *
  (unfold Tryz.f122; refine rn trivial ?_)
  refine rn F ?_
  repeat' (first
    | with_reducible exact ⟨⟩
    | (refine sG F ?_ ?_<;>intro hZ)
    | (refine sB F ?_ ?_<;>intro hZ))
  all_goals first | (rw [no (by rw [hH]; omega)]) | skip
  refine Qh (fun s:Okay l.length (frC l)=>⟨94,0,[(4,.int .i64 s.i),(3,.int .i64 l.length),(1,.ptr 0 0)],[⟨31,true,Pl.d ⟨z,l,hn⟩⟩]⟩) (fun s=>l.length - s.i) (Okay.start _ _) (gc [0]) ?_
  intro s
  have hsi:=s.hi
  have hg:=fun h:s.i < l.length=>QbP l s.i h
  have c1:=Qrm (l.getD s.i Fm0).pg
  have e:frC l s.i = ((l.getD s.i Fm0).pg.okB && !((l.getD s.i Fm0).dirty && (decide ((l.getD s.i Fm0).rc < 1) || decide ((l.getD s.i Fm0).pg.lsn < (l.getD s.i Fm0).rc))) && !(!(l.getD s.i Fm0).dirty && !decide ((l.getD s.i Fm0).rc = 0)) && (List.range s.i).all (QAl l s.i)):=rfl
  generalize (l.getD s.i Fm0).pg.okB = ok at *
  have F:=@hg
  refine rn F ?_
  repeat' (first
    | with_reducible exact ⟨⟩
    | (refine sG F ?_ ?_<;>intro hZ)
    | (refine sB F ?_ ?_<;>intro hZ)
    | refine vp F (c1) ?_)
  all_goals first
    | (exact congrArg DV.bool (s.no (by omega) (hB' (by rw [hH]; omega)) (by rw [e]; simp_all)).symm)
    | (exact congrArg DV.bool (s.yes (by omega) (hB' (by rw [hH]; omega))).symm)
    | skip
  all_goals
    refine Qh (fun r:Okay s.i (QAl l s.i)=>⟨94,0,[(6,.int .i64 r.i),(5,.ptr 1 0),(4,.int .i64 s.i),(3,.int .i64 l.length),(1,.ptr 0 0)],[⟨31,true,Pl.d ⟨z,l,hn⟩⟩,⟨182,true,(l.getD s.i Fm0).d⟩]⟩) (fun r=>s.i - r.i) (Okay.start _ _) (gc [0,1]) ?_
    intro r
    have hri:=r.hi
    have hk:=fun h:r.i < l.length=>QbP l r.i h
    have e2:QAl l s.i r.i = !decide ((l.getD r.i Fm0).pg.id = (l.getD s.i Fm0).pg.id):=rfl
    have F:=@hk
    refine rn F ?_
    repeat' (first
      | with_reducible exact ⟨⟩
      | (refine sB F ?_ ?_<;>intro hZ)
      | (refine Qd (id:=13) [0,1,2,3,4,5,6,7,8,9,10] [] (by kernel_rfl) (by kernel_rfl) ?_; refine rn F ?_))
  all_goals first
    | (exact congrArg DV.bool (s.no (by omega) (hB' (by rw [hH]; omega)) (by rw [e,Qbd (i:=r.i) (by omega) (by rw [e2]; simp_all),Bool.and_false])).symm)
    | (exact ⟨r.next (by omega) (by rw [e2]; simp_all),r.dec (by omega),(gc [0,1])⟩)
    | (exact ⟨s.next (by omega) (by rw [e,r.all (by omega)]; simp_all),s.dec (by omega),(gc [0])⟩)
    | skip
end
section
attribute [local go_sem] Qbb
def Qbo (p:Pl) (a:Int):Int:=if plB p = true then idF p.fs a else -1
theorem Qce (l:List Fm) (a:Int):idF l a = -1\/∃ i:Nat,∃ _:i < l.length,idF l a = i/\(l.getD i Fm0).pg.id = a:=by
  rcases QsO l (fun f=>f.pg.id == a) with ⟨h,_⟩ | ⟨i,hi,h,hf⟩
  · exact .inl h
  · refine .inr ⟨i,hi,h,?_⟩
    have:=List.find?_some hf
    rw [Qn l i hi]; simpa using this
theorem Qcw (p:Pl) (a:Int):Qbo p a = -1\/(plB p = true/\∃ i:Nat,∃ _:i < p.fs.length,Qbo p a = i/\idF p.fs a = i/\(p.fs.getD i Fm0).pg.id = a):=by
  unfold Qbo
  split
  · rename_i hv
    rcases Qce p.fs a with h | ⟨i,hi,h,hx⟩
    · exact .inl h
    · exact .inr ⟨hv,i,hi,h,h,hx⟩
  · exact .inl rfl
def QnF (p:Pl) (a:Int):Pg × Bool:=if Qbo p a < 0 then (Pg0,false) else ((p.fs.getD (Qbo p a).toNat Fm0).pg,true)
theorem Qcr (p:Pl) (hl:p.fs.length<=1000000) (a:Int):VCalls prog 106 [.agg p.d,.int .i64 a] [] (Ret (.int .i64 (Qbo p a))):=by
  refine dd Tryz.func106 ?_
  have c1:=Qam p hl
  have c2:=Qcs p hl a
  unfold Qbo
  generalize plB p = b at *
  (unfold Tryz.f106; refine rn trivial ?_)
  refine rn F ?_
  repeat' (first
    | with_reducible exact ⟨⟩
    | (refine sB F ?_ ?_<;>intro hZ)
    | refine vp F (c1) ?_
    | refine vp F (c2) ?_)
  all_goals (simp_all)
theorem Qgo (p:Pl) (hl:p.fs.length<=1000000) (a:Int):VCalls prog 120 [.agg p.d,.int .i64 a] [] (Ret (.tup [.agg (QnF p a).1.d,.bool (QnF p a).2])):=by
  refine dd Tryz.func120 ?_
  have c1:=Qcr p hl a
  unfold QnF
  rcases Qcw p a with h | ⟨_,i,hi,h,_⟩
  · rw [h] at c1 |-
    (unfold Tryz.f120; refine rn trivial ?_)
    refine rn F ?_
    repeat' (first
      | with_reducible exact ⟨⟩
      | refine vp F (c1) ?_)
    all_goals rfl
  · rw [h] at c1 |-
    rw [if_neg (by omega),Int.toNat_natCast]
    have hg:=QbP p.fs i hi
    generalize p.fs.getD i Fm0 = f at *
    (unfold Tryz.f120; refine rn trivial ?_)
    have F:=@hg
    refine rn F ?_
    repeat' (first
      | with_reducible exact ⟨⟩
      | refine vp F (c1) ?_)
theorem QyE (l:List Fm) (i:Nat) (f:Fm) (hi:i < l.length):(cells Qcn l).take (i * 37) ++ f.d ++ (cells Qcn l).drop (i * 37 + 37) = cells Qcn (l.set i f):=Qm2 Qcn l i f hi
theorem QiG (p:Pl) (hl:p.fs.length<=1000000) (i:Nat) (hi:i < p.fs.length) (f:Fm):VCalls prog 208 [.agg p.d,.int .i64 i,.agg f.d] [] (Ret (.agg (Pl.d ⟨p.size,p.fs.set i f,p.hand⟩))):=by
  refine dd Tryz.func208 ?_
  obtain ⟨z,l,hn⟩:=p
  dsimp only at hl hi
  have hb:i * 37 + 37<=l.length * 37:=by omega
  have hse:=QyE l i f hi
  have hle:(l.set i f).length = l.length:=List.length_set
  (unfold Tryz.f208; refine rn trivial ?_)
  have F:=(And.intro @hb (And.intro @hse @hle))
  (refine rn F ?_; try with_reducible exact ⟨⟩)
def QBq (p:Pl) (a:Int):Pl:=if Qbo p a < 0 then p else ⟨p.size,p.fs.set (Qbo p a).toNat ⟨(p.fs.getD (Qbo p a).toNat Fm0).pg,(p.fs.getD (Qbo p a).toNat Fm0).dirty,(p.fs.getD (Qbo p a).toNat Fm0).rc,true⟩,p.hand⟩
theorem QyV (p:Pl) (hl:p.fs.length<=1000000) (a:Int):VCalls prog 241 [.agg p.d,.int .i64 a] [] (Ret (.agg (QBq p a).d)):=by
  refine dd Tryz.func241 ?_
  have c1:=Qcr p hl a
  unfold QBq
  rcases Qcw p a with h | ⟨_,i,hi,h,_⟩
  · rw [h] at c1 |-
    (unfold Tryz.f241; refine rn trivial ?_)
    refine rn F ?_
    repeat' (first
      | with_reducible exact ⟨⟩
      | refine vp F (c1) ?_)
    all_goals rfl
  · rw [h] at c1 |-
    rw [if_neg (by omega),Int.toNat_natCast]
    have hg:=QbP p.fs i hi
    have c2:=QiG p hl i hi ⟨(p.fs.getD i Fm0).pg,(p.fs.getD i Fm0).dirty,(p.fs.getD i Fm0).rc,true⟩
    generalize p.fs.getD i Fm0 = f at *
    (unfold Tryz.f241; refine rn trivial ?_)
    have F:=@hg
    refine rn F ?_
    repeat' (first
      | with_reducible exact ⟨⟩
      | refine vp F (c1) ?_
      | refine vp F (c2) ?_)
def Qmf (n:Int):Pl × Int:=if n < 1\/64 < n then (Pl0,1) else (⟨n,[],0⟩,0)
theorem Qrn (n:Int):VCalls prog 85 [.int .i64 n] [] (Ret (.tup [.agg (Qmf n).1.d,.int .i64 (Qmf n).2])):=by
  refine dk Tryz.func85 ?_
  unfold Qmf
  (unfold Tryz.f85; refine rn trivial ?_)
  refine rn F ?_
  repeat' (first
    | with_reducible exact ⟨⟩
    | (refine sG F ?_ ?_<;>intro hZ)
    | (refine sB F ?_ ?_<;>intro hZ))
  all_goals first | (rw [if_pos (by omega)]; rfl) | (rw [if_neg (by omega)]; rfl)
def QpO (p:Pl) (x:Pg):Pl × Int:=
  if plB p = false then (Pl0,15) else if QaP x ≠ 0 then (Pl0,QaP x) else if 0<=idF p.fs x.id then (Pl0,25) else if (p.fs.length:Int) = p.size then (Pl0,21)
  else (⟨p.size,p.fs ++ [⟨x,false,0,true⟩],p.hand⟩,0)
theorem QyX (p:Pl) (hl:p.fs.length<=100000) (x:Pg):VCalls prog 184 [.agg p.d,.agg x.d] [] (Ret (.tup [.agg (QpO p x).1.d,.int .i64 (QpO p x).2])):=by
  refine dk Tryz.func184 ?_
  have c1:=Qam p (by omega)
  have c2:=Qdn x
  have c3:=Qcs p (by omega) x.id
  have e:QpO p x = if plB p = false then (Pl0,15) else if QaP x ≠ 0 then (Pl0,QaP x) else if 0<=idF p.fs x.id then (Pl0,25) else if (p.fs.length:Int) = p.size then (Pl0,21)
    else (⟨p.size,p.fs ++ [⟨x,false,0,true⟩],p.hand⟩,0):=rfl
  generalize QpO p x = r at *
  generalize plB p = b at *
  generalize QaP x = k at *
  generalize idF p.fs x.id = m at *
  have hb:(p.fs.length + 1) * 304<=140737488355328:=by omega
  (unfold Tryz.f184; refine rn trivial ?_)
  have F:=@hb
  refine rn F ?_
  repeat' (first
    | with_reducible exact ⟨⟩
    | (refine sB F ?_ ?_<;>intro hZ)
    | refine vp F (c1) ?_
    | refine vp F (c2) ?_
    | refine vp F (c3) ?_
    | (refine Qd (id:=10) [0,1,3,4] [⟨[5],[],2,[0,3,4],[]⟩,⟨[5],[5],6,[0,1,3,4],[7]⟩,⟨[],[],8,[],[]⟩] (by kernel_rfl) (by kernel_rfl) ?_; refine rn F ?_))
  all_goals first | (first | (rw [e]; simp (disch:=first | assumption | omega | exact rfl | exact nf (by assumption) | exact nt (by assumption) | decide | fail) only [if_pos,if_neg]; first | done | rfl) | (rw [e]; simp (disch:=first | assumption | omega | exact rfl | exact nf (by assumption) | exact nt (by assumption) | decide | (simp_all; done) | fail) only [if_pos,if_neg]; first | done | rfl)) | skip
end
section
attribute [local go_sem] Qbb
def QA2 (f:Fm) (x:Pg):Fm:=⟨x,true,if f.dirty = true then f.rc else x.lsn,true⟩
def Qyp (p:Pl) (x:Pg):Pl × Int:=
  if plB p = false then (Pl0,15) else if QaP x ≠ 0 then (Pl0,QaP x) else if idF p.fs x.id < 0 then (Pl0,18)
  else if x.lsn<=(p.fs.getD (idF p.fs x.id).toNat Fm0).pg.lsn then (Pl0,8)
  else (⟨p.size,p.fs.set (idF p.fs x.id).toNat (QA2 (p.fs.getD (idF p.fs x.id).toNat Fm0) x),p.hand⟩,0)
theorem QyW (p:Pl) (hl:p.fs.length<=100000) (x:Pg):VCalls prog 234 [.agg p.d,.agg x.d] [] (Ret (.tup [.agg (Qyp p x).1.d,.int .i64 (Qyp p x).2])):=by
  refine dk Tryz.func234 ?_
  have c1:=Qam p (by omega)
  have c2:=Qdn x
  have c3:=Qcs p (by omega) x.id
  have c4:=QiG p (by omega)
  have e:Qyp p x = if plB p = false then (Pl0,15) else if QaP x ≠ 0 then (Pl0,QaP x) else if idF p.fs x.id < 0 then (Pl0,18)
    else if x.lsn<=(p.fs.getD (idF p.fs x.id).toNat Fm0).pg.lsn then (Pl0,8)
    else (⟨p.size,p.fs.set (idF p.fs x.id).toNat (QA2 (p.fs.getD (idF p.fs x.id).toNat Fm0) x),p.hand⟩,0):=rfl
  have hi:=Qce p.fs x.id
  generalize Qyp p x = r at *
  generalize plB p = b at *
  generalize QaP x = k at *
  rcases hi with h | ⟨i,hi,h,_⟩
  · rw [h] at c3 e
    (unfold Tryz.f234; refine rn trivial ?_)
    refine rn F ?_
    repeat' (first
      | with_reducible exact ⟨⟩
      | (refine sB F ?_ ?_<;>intro hZ)
      | refine vp F (c1) ?_
      | refine vp F (c2) ?_
      | refine vp F (c3) ?_)
    all_goals first | (first | (rw [e]; simp (disch:=first | assumption | omega | exact rfl | exact nf (by assumption) | exact nt (by assumption) | decide | fail) only [if_pos,if_neg]; first | done | rfl) | (rw [e]; simp (disch:=first | assumption | omega | exact rfl | exact nf (by assumption) | exact nt (by assumption) | decide | (simp_all; done) | fail) only [if_pos,if_neg]; first | done | rfl)) | skip
  · rw [h] at c3 e
    rw [Int.toNat_natCast] at e
    have hg:=QbP p.fs i hi
    have e2:∀ f:Fm,f.dirty = true->QA2 f x = ⟨x,true,f.rc,true⟩:=fun f h=>by unfold QA2; rw [if_pos h]
    have e3:∀ f:Fm,¬ f.dirty = true->QA2 f x = ⟨x,true,x.lsn,true⟩:=fun f h=>by unfold QA2; rw [if_neg h]
    have c4:=fun f=>c4 i hi f
    generalize p.fs.getD i Fm0 = f at *
    (unfold Tryz.f234; refine rn trivial ?_)
    have F:=@hg
    refine rn F ?_
    repeat' (first
      | with_reducible exact ⟨⟩
      | (refine sB F ?_ ?_<;>intro hZ)
      | refine vp F (c1) ?_
      | refine vp F (c2) ?_
      | refine vp F (c3) ?_
      | refine vp F (c4 ⟨_,_,_,_⟩) ?_)
    all_goals first | (first | (rw [e]; simp (disch:=first | assumption | omega | exact rfl | exact nf (by assumption) | exact nt (by assumption) | decide | fail) only [if_pos,if_neg]; first | done | rfl) | (rw [e]; simp (disch:=first | assumption | omega | exact rfl | exact nf (by assumption) | exact nt (by assumption) | decide | (simp_all; done) | fail) only [if_pos,if_neg]; first | done | rfl)) | (first | (rw [e,e2 f (by assumption)]; simp (disch:=first | assumption | omega | exact rfl | exact nf (by assumption) | exact nt (by assumption) | decide | fail) only [if_pos,if_neg]; first | done | rfl) | (rw [e,e2 f (by assumption)]; simp (disch:=first | assumption | omega | exact rfl | exact nf (by assumption) | exact nt (by assumption) | decide | (simp_all; done) | fail) only [if_pos,if_neg]; first | done | rfl)) | (first | (rw [e,e3 f (by simp_all)]; simp (disch:=first | assumption | omega | exact rfl | exact nf (by assumption) | exact nt (by assumption) | decide | fail) only [if_pos,if_neg]; first | done | rfl) | (rw [e,e3 f (by simp_all)]; simp (disch:=first | assumption | omega | exact rfl | exact nf (by assumption) | exact nt (by assumption) | decide | (simp_all; done) | fail) only [if_pos,if_neg]; first | done | rfl)) | skip
def Qfp (f:Fm) (n:Int):Fm:=if f.pg.lsn = n then ⟨f.pg,false,0,f.used⟩ else if f.rc<=n then ⟨f.pg,f.dirty,n + 1,f.used⟩ else f
def QbQ (p:Pl) (a n:Int):Pl × Int:=
  if plB p = false then (Pl0,15) else if idF p.fs a < 0 then (Pl0,18)
  else if (p.fs.getD (idF p.fs a).toNat Fm0).pg.lsn < n then (Pl0,9)
  else if (p.fs.getD (idF p.fs a).toNat Fm0).dirty = false then (p,0)
  else (⟨p.size,p.fs.set (idF p.fs a).toNat (Qfp (p.fs.getD (idF p.fs a).toNat Fm0) n),p.hand⟩,0)
theorem Qrp (p:Pl) (hl:p.fs.length<=100000) (a n:Int) (hn:n<=1099511627776) (hn0:0<=n):VCalls prog 163 [.agg p.d,.int .i64 a,.int .i64 n] [] (Ret (.tup [.agg (QbQ p a n).1.d,.int .i64 (QbQ p a n).2])):=by
  refine dk Tryz.func163 ?_
  have c1:=Qam p (by omega)
  have c3:=Qcs p (by omega) a
  have c4:=QiG p (by omega)
  have e:QbQ p a n = if plB p = false then (Pl0,15) else if idF p.fs a < 0 then (Pl0,18)
    else if (p.fs.getD (idF p.fs a).toNat Fm0).pg.lsn < n then (Pl0,9)
    else if (p.fs.getD (idF p.fs a).toNat Fm0).dirty = false then (p,0)
    else (⟨p.size,p.fs.set (idF p.fs a).toNat (Qfp (p.fs.getD (idF p.fs a).toNat Fm0) n),p.hand⟩,0):=rfl
  have hi:=Qce p.fs a
  generalize QbQ p a n = r at *
  generalize plB p = b at *
  rcases hi with h | ⟨i,hi,h,_⟩
  · rw [h] at c3 e
    (unfold Tryz.f163; refine rn trivial ?_)
    refine rn F ?_
    repeat' (first
      | with_reducible exact ⟨⟩
      | (refine sB F ?_ ?_<;>intro hZ)
      | refine vp F (c1) ?_
      | refine vp F (c3) ?_)
    all_goals first | (first | (rw [e]; simp (disch:=first | assumption | omega | exact rfl | exact nf (by assumption) | exact nt (by assumption) | decide | fail) only [if_pos,if_neg]; first | done | rfl) | (rw [e]; simp (disch:=first | assumption | omega | exact rfl | exact nf (by assumption) | exact nt (by assumption) | decide | (simp_all; done) | fail) only [if_pos,if_neg]; first | done | rfl)) | skip
  · rw [h] at c3 e
    rw [Int.toNat_natCast] at e
    have hg:=QbP p.fs i hi
    have c4:=fun f=>c4 i hi f
    generalize p.fs.getD i Fm0 = f at *
    obtain ⟨pg,dirty,rc,used⟩:=f
    have e1:pg.lsn = n->Qfp ⟨pg,dirty,rc,used⟩ n = ⟨pg,false,0,used⟩:=fun h=>if_pos h
    have e2:¬ pg.lsn = n->rc<=n->Qfp ⟨pg,dirty,rc,used⟩ n = ⟨pg,dirty,n + 1,used⟩:=fun h h2=>by unfold Qfp; rw [if_neg h,if_pos h2]
    have e3:¬ pg.lsn = n->¬ rc<=n->Qfp ⟨pg,dirty,rc,used⟩ n = ⟨pg,dirty,rc,used⟩:=fun h h2=>by unfold Qfp; rw [if_neg h,if_neg h2]
    cases dirty
    all_goals
      (unfold Tryz.f163; refine rn trivial ?_)
      have F:=@hg
      refine rn F ?_
      repeat' (first
        | with_reducible exact ⟨⟩
        | (refine sB F ?_ ?_<;>intro hZ)
        | refine vp F (c1) ?_
        | refine vp F (c3) ?_
        | refine vp F (c4 ⟨_,_,_,_⟩) ?_)
    all_goals first | (first | (rw [e]; simp (disch:=first | assumption | omega | exact rfl | exact nf (by assumption) | exact nt (by assumption) | decide | fail) only [if_pos,if_neg]; first | done | rfl) | (rw [e]; simp (disch:=first | assumption | omega | exact rfl | exact nf (by assumption) | exact nt (by assumption) | decide | (simp_all; done) | fail) only [if_pos,if_neg]; first | done | rfl)) | (first | (rw [e,e1 (by omega)]; simp (disch:=first | assumption | omega | exact rfl | exact nf (by assumption) | exact nt (by assumption) | decide | fail) only [if_pos,if_neg]; first | done | rfl) | (rw [e,e1 (by omega)]; simp (disch:=first | assumption | omega | exact rfl | exact nf (by assumption) | exact nt (by assumption) | decide | (simp_all; done) | fail) only [if_pos,if_neg]; first | done | rfl)) | (first | (rw [e,e2 (by omega) (by omega)]; simp (disch:=first | assumption | omega | exact rfl | exact nf (by assumption) | exact nt (by assumption) | decide | fail) only [if_pos,if_neg]; first | done | rfl) | (rw [e,e2 (by omega) (by omega)]; simp (disch:=first | assumption | omega | exact rfl | exact nf (by assumption) | exact nt (by assumption) | decide | (simp_all; done) | fail) only [if_pos,if_neg]; first | done | rfl)) | (first | (rw [e,e3 (by omega) (by omega)]; simp (disch:=first | assumption | omega | exact rfl | exact nf (by assumption) | exact nt (by assumption) | decide | fail) only [if_pos,if_neg]; first | done | rfl) | (rw [e,e3 (by omega) (by omega)]; simp (disch:=first | assumption | omega | exact rfl | exact nf (by assumption) | exact nt (by assumption) | decide | (simp_all; done) | fail) only [if_pos,if_neg]; first | done | rfl)) | skip
def Qhs (n:Nat) (i h:Int):Int:=if (n:Int)<=(if i < h then h - 1 else h) then 0 else (if i < h then h - 1 else h)
def QmF (p:Pl) (a:Int):Pl × Int:=
  if plB p = false then (Pl0,15) else if idF p.fs a < 0 then (Pl0,18)
  else if (p.fs.getD (idF p.fs a).toNat Fm0).dirty = true then (Pl0,23)
  else (⟨p.size,p.fs.take (idF p.fs a).toNat ++ p.fs.drop ((idF p.fs a).toNat + 1),Qhs (p.fs.length - 1) (idF p.fs a) p.hand⟩,0)
theorem Qvd (p:Pl) (hl:p.fs.length<=100000) (a:Int):VCalls prog 227 [.agg p.d,.int .i64 a] [] (Ret (.tup [.agg (QmF p a).1.d,.int .i64 (QmF p a).2])):=by
  refine dk Tryz.func227 ?_
  have c1:=Qam p (by omega)
  have c3:=Qcs p (by omega) a
  have e:QmF p a = if plB p = false then (Pl0,15) else if idF p.fs a < 0 then (Pl0,18)
    else if (p.fs.getD (idF p.fs a).toNat Fm0).dirty = true then (Pl0,23)
    else (⟨p.size,p.fs.take (idF p.fs a).toNat ++ p.fs.drop ((idF p.fs a).toNat + 1),Qhs (p.fs.length - 1) (idF p.fs a) p.hand⟩,0):=rfl
  have hi:=Qce p.fs a
  have hh:=@Qkq p
  generalize QmF p a = r at *
  generalize plB p = b at *
  rcases hi with h | ⟨i,hi,h,_⟩
  · rw [h] at c3 e
    (unfold Tryz.f227; refine rn trivial ?_)
    refine rn F ?_
    repeat' (first
      | with_reducible exact ⟨⟩
      | (refine sB F ?_ ?_<;>intro hZ)
      | refine vp F (c1) ?_
      | refine vp F (c3) ?_)
    all_goals first | (first | (rw [e]; simp (disch:=first | assumption | omega | exact rfl | exact nf (by assumption) | exact nt (by assumption) | decide | fail) only [if_pos,if_neg]; first | done | rfl) | (rw [e]; simp (disch:=first | assumption | omega | exact rfl | exact nf (by assumption) | exact nt (by assumption) | decide | (simp_all; done) | fail) only [if_pos,if_neg]; first | done | rfl)) | skip
  · rw [h] at c3 e
    rw [Int.toNat_natCast] at e
    cases b
    · (unfold Tryz.f227; refine rn trivial ?_; try with_reducible exact ⟨⟩)
      refine rn F ?_
      repeat' (first
        | with_reducible exact ⟨⟩
        | refine vp F (c1) ?_)
      all_goals (first | (rw [e]; simp (disch:=first | assumption | omega | exact rfl | exact nf (by assumption) | exact nt (by assumption) | decide | fail) only [if_pos,if_neg]; first | done | rfl) | (rw [e]; simp (disch:=first | assumption | omega | exact rfl | exact nf (by assumption) | exact nt (by assumption) | decide | (simp_all; done) | fail) only [if_pos,if_neg]; first | done | rfl))
    have hh:=hh rfl
    obtain ⟨z,l,hn⟩:=p
    dsimp only at hl e hi
    simp only [Pl.hd] at hh
    have hg:=QbP l i hi
    have hb:(i + (l.length - (i + 1))) * 304<=140737488355328:=by omega
    have hb1:i * 304<=140737488355328:=by omega
    have hmin:min i l.length = i:=by omega
    have e1:(i:Int) < hn->¬ ((l.length - 1:Nat):Int)<=hn - 1->Qhs (l.length - 1) i hn = hn - 1:=fun h h2=>by unfold Qhs; rw [if_pos h,if_neg h2]
    have e2:¬ (i:Int) < hn->¬ ((l.length - 1:Nat):Int)<=hn->Qhs (l.length - 1) i hn = hn:=fun h h2=>by unfold Qhs; rw [if_neg h,if_neg h2]
    have e3:(i:Int) < hn->((l.length - 1:Nat):Int)<=hn - 1->Qhs (l.length - 1) i hn = 0:=fun h h2=>by unfold Qhs; rw [if_pos h,if_pos h2]
    have e4:¬ (i:Int) < hn->((l.length - 1:Nat):Int)<=hn->Qhs (l.length - 1) i hn = 0:=fun h h2=>by unfold Qhs; rw [if_neg h,if_pos h2]
    generalize l.getD i Fm0 = f at *
    (unfold Tryz.f227; refine rn trivial ?_)
    have F:=(And.intro @hg (And.intro @hb (And.intro @hb1 @hmin)))
    refine rn F ?_
    repeat' (first
      | with_reducible exact ⟨⟩
      | (refine sB F ?_ ?_<;>intro hZ)
      | refine vp F (c1) ?_
      | refine vp F (c3) ?_
      | (refine Qd (id:=8) [0,1,2,3,5,6,7,8,9] [⟨[],[],4,[0,1,2,5,6,7,8,9],[]⟩,⟨[],[],10,[0,1,2,3,5,6,7,8],[11]⟩,⟨[],[],12,[],[]⟩] (by kernel_rfl) (by kernel_rfl) ?_; refine rn F ?_))
    all_goals first | (first | (rw [e]; simp (disch:=first | assumption | omega | exact rfl | exact nf (by assumption) | exact nt (by assumption) | decide | fail) only [if_pos,if_neg]; first | done | rfl) | (rw [e]; simp (disch:=first | assumption | omega | exact rfl | exact nf (by assumption) | exact nt (by assumption) | decide | (simp_all; done) | fail) only [if_pos,if_neg]; first | done | rfl)) | (first | (rw [e,e1 (by omega) (by omega)]; simp (disch:=first | assumption | omega | exact rfl | exact nf (by assumption) | exact nt (by assumption) | decide | fail) only [if_pos,if_neg]; first | done | rfl) | (rw [e,e1 (by omega) (by omega)]; simp (disch:=first | assumption | omega | exact rfl | exact nf (by assumption) | exact nt (by assumption) | decide | (simp_all; done) | fail) only [if_pos,if_neg]; first | done | rfl)) | (first | (rw [e,e2 (by omega) (by omega)]; simp (disch:=first | assumption | omega | exact rfl | exact nf (by assumption) | exact nt (by assumption) | decide | fail) only [if_pos,if_neg]; first | done | rfl) | (rw [e,e2 (by omega) (by omega)]; simp (disch:=first | assumption | omega | exact rfl | exact nf (by assumption) | exact nt (by assumption) | decide | (simp_all; done) | fail) only [if_pos,if_neg]; first | done | rfl)) | (first | (rw [e,e3 (by omega) (by omega)]; simp (disch:=first | assumption | omega | exact rfl | exact nf (by assumption) | exact nt (by assumption) | decide | fail) only [if_pos,if_neg]; first | done | rfl) | (rw [e,e3 (by omega) (by omega)]; simp (disch:=first | assumption | omega | exact rfl | exact nf (by assumption) | exact nt (by assumption) | decide | (simp_all; done) | fail) only [if_pos,if_neg]; first | done | rfl)) | (first | (rw [e,e4 (by omega) (by omega)]; simp (disch:=first | assumption | omega | exact rfl | exact nf (by assumption) | exact nt (by assumption) | decide | fail) only [if_pos,if_neg]; first | done | rfl) | (rw [e,e4 (by omega) (by omega)]; simp (disch:=first | assumption | omega | exact rfl | exact nf (by assumption) | exact nt (by assumption) | decide | (simp_all; done) | fail) only [if_pos,if_neg]; first | done | rfl)) | skip
end
section
attribute [local go_sem] Qbb
def Fm.clr (f:Fm):Fm:=⟨f.pg,f.dirty,f.rc,false⟩
def SameF (l m:List Fm):Prop:=m.map Fm.clr = l.map Fm.clr
theorem QfW (l:List Fm) (i:Nat):(l.map Fm.clr).getD i Fm0 = (l.getD i Fm0).clr:=by
  rw [List.getD_eq_getElem?_getD,List.getD_eq_getElem?_getD,List.getElem?_map]; cases l[i]?<;>rfl
theorem Qta (l:List Fm) (i:Nat):frC (l.map Fm.clr) i = frC l i:=by
  have h:QAl (l.map Fm.clr) i = QAl l i:=by funext k; simp only [QAl,QfW]; rfl
  simp only [frC,h,QfW]; rfl
theorem SameF.len {l m:List Fm} (h:SameF l m):m.length = l.length:=by have:=congrArg List.length h; simpa using this
theorem SameF.refl (l:List Fm):SameF l l:=rfl
theorem SameF.trans {a b c:List Fm} (h:SameF a b) (g:SameF b c):SameF a c:=Eq.trans (b:=b.map Fm.clr) g h
theorem SameF.at_ {l m:List Fm} (h:SameF l m) (i:Nat):(m.getD i Fm0).clr = (l.getD i Fm0).clr:=by
  rw [<- QfW,<- QfW,show m.map Fm.clr = l.map Fm.clr from h]
theorem SameF.frC {l m:List Fm} (h:SameF l m):frC m = frC l:=by
  funext i; rw [<- Qta m,<- Qta l,show m.map Fm.clr = l.map Fm.clr from h]
theorem SameF.plB {p q:Pl} (h:SameF p.fs q.fs) (hs:q.size = p.size) (hh:0<=q.hand/\q.hand<=max 0 ((p.fs.length:Int) - 1)) (hp:plB p = true):plB q = true:=by
  have h1:=Qkq hp
  simp only [Pl.hd] at h1
  have hl:=h.len
  unfold Proofs.YtepcgifhpjapkaaGreat.plB at hp |-
  rw [h.frC,hl,decide_eq_true (by simp only [Pl.hd]; omega)]
  simp only [Bool.and_eq_true] at hp
  simpa using hp.2
theorem QsP (l:List Fm) (a:Int):idF (l.map Fm.clr) a = idF l a:=by
  unfold idF Qg7
  rw [List.any_map,List.findIdx_map]; rfl
theorem SameF.idF {l m:List Fm} (h:SameF l m) (a:Int):idF m a = idF l a:=by
  rw [<- QsP m,<- QsP l,show m.map Fm.clr = l.map Fm.clr from h]
theorem SameF.set (l:List Fm) (i:Nat) (b:Bool):SameF l (l.set i ⟨(l.getD i Fm0).pg,(l.getD i Fm0).dirty,(l.getD i Fm0).rc,b⟩):=by
  unfold SameF
  rw [List.map_set]
  rcases Nat.lt_or_ge i l.length with h | h
  · have:(⟨(l.getD i Fm0).pg,(l.getD i Fm0).dirty,(l.getD i Fm0).rc,b⟩:Fm).clr = (l.map Fm.clr)[i]'(by simpa using h):=by
      rw [Qn l i h,List.getElem_map]; rfl
    rw [this,List.set_getElem_self]
  · rw [List.set_eq_of_length_le (by simpa using h)]
def QuA (l:List Fm):Nat:=l.countP (·.used)
theorem QqN (l:List Fm) (i:Nat) (h:i < l.length) (hu:(l.getD i Fm0).used = true):QuA (l.set i ⟨(l.getD i Fm0).pg,(l.getD i Fm0).dirty,(l.getD i Fm0).rc,false⟩) < QuA l:=by
  unfold QuA
  rw [List.countP_set h]
  rw [Qn l i h] at *
  have:0 < l.countP (·.used):=List.countP_pos_iff.2 ⟨l[i],List.getElem_mem h,hu⟩
  simp only [hu,if_true]
  simp
  omega
structure Vic (p:Pl) where
  q:Pl
  ok:plB q = true
  sm:SameF p.fs q.fs
  sz:q.size = p.size
  ne:0 < q.fs.length
def QEf (p:Pl) (a:Pl × Int × Int):Prop:=(a.2.2 = 0->plB p = true/\plB a.1 = true/\SameF p.fs a.1.fs/\a.1.size = p.size/\∃ i,i < a.1.fs.length/\a.2.1 = (a.1.fs.getD i Fm0).pg.id)/\(plB p = true->0 < p.fs.length->a.2.2 = 0)/\a.1.fs.length<=p.fs.length
def QEg (a:Pl × Int × Int):DV:=.tup [.agg a.1.d,.int .i64 a.2.1,.int .i64 a.2.2]
theorem QyT (p:Pl) (hl:p.fs.length<=100000):VCalls prog 226 [.agg p.d] [] (QF QEg (QEf p)):=by
  refine dk Tryz.func226 ?_
  have c1:=Qam p (by omega)
  cases hb:plB p
  · rw [hb] at c1
    (unfold Tryz.f226; refine rn trivial ?_)
    refine rn F ?_
    repeat' (first
      | with_reducible exact ⟨⟩
      | refine vp F (c1) ?_)
    all_goals exact ⟨rfl,rfl,(Pl0,0,15),rfl,by simp [QEf,hb,Pl0]⟩
  · rw [hb] at c1
    (unfold Tryz.f226; refine rn trivial ?_)
    refine rn F ?_
    repeat' (first
      | with_reducible exact ⟨⟩
      | (refine sB F ?_ ?_<;>intro hZ)
      | refine vp F (c1) ?_)
    · exact ⟨rfl,rfl,(Pl0,0,18),rfl,fun h=>absurd h (by decide),fun _ h=>by omega,Nat.zero_le _⟩
    refine Qh (fun s:Vic p=>⟨51,0,[(2,.ptr 1 0),(1,.ptr 0 0)],[⟨31,true,s.q.d⟩,⟨31,true,[.int .i64 0,.pv (.slc []),.int .i64 0]⟩]⟩) (fun s=>QuA s.q.fs) ⟨p,hb,SameF.refl _,rfl,by omega⟩ (gc [0,1]) ?_
    intro s
    obtain ⟨q,ok,sm,sz,ne⟩:=s
    obtain ⟨qz,l,hn⟩:=q
    dsimp only at ok sm sz ne |-
    have hh:=Qkq ok
    have hlen:=sm.len
    simp only [Pl.hd] at hh
    obtain ⟨i,rfl⟩:∃ i:Nat,hn = i:=⟨hn.toNat,by omega⟩
    have hi:i < l.length:=by omega
    have hg:=QbP l i hi
    have c2:=fun f=>QiG ⟨qz,l,i⟩ (by dsimp only; omega) i hi f
    have hst:=SameF.set l i false
    have hus:=QqN l i hi
    have hmod:((i:Int) + 1).tmod (l.length:Int) = ((i + 1) % l.length:Nat):=Int.ofNat_tmod (i + 1) l.length
    have hml:(i + 1) % l.length < l.length:=Nat.mod_lt _ ne
    have hle:∀ f,(l.set i f).length = l.length:=fun f=>List.length_set
    generalize hf:l.getD i Fm0 = f at *
    have F:=(And.intro @hg @hle)
    refine rn F ?_
    repeat' (first
      | with_reducible exact ⟨⟩
      | (refine sB F ?_ ?_<;>intro hZ)
      | refine vp F (c2 ⟨_,_,_,_⟩) ?_
      | (refine Qd (id:=10) [0,1,2,3,4,5,6,7,8] [⟨[],[],9,[1,2,3,4,5,6,7,8],[]⟩,⟨[],[],10,[],[]⟩,⟨[],[],11,[],[]⟩] (by kernel_rfl) (by kernel_rfl) ?_; refine rn F ?_))
    · rw [hmod]
      refine ⟨⟨⟨qz,l.set i ⟨f.pg,f.dirty,f.rc,false⟩,((i + 1) % l.length:Nat)⟩,(sm.trans hst).plB sz ?_ hb,sm.trans hst,sz,?_⟩,hus (by assumption),(gc [0,1])⟩
      · dsimp only at hlen |-; omega
      · rw [hle]; exact ne
    · exact ⟨rfl,rfl,(⟨qz,l,i⟩,f.pg.id,0),rfl,fun _=>⟨hb,ok,sm,sz,i,hi,by rw [hf]⟩,fun _ _=>rfl,by dsimp only at hlen |-; omega⟩
theorem Qro (p:Pl) (hl:p.fs.length<=100000):VCalls prog 164 [.agg p.d] [] (QF (fun l:List Dt=>.pv (.sl (fz Qdt l))) fun l=>l.length<=64):=by
  refine dk Tryz.func164 ?_
  have c1:=Qam p (by omega)
  have c2:=Qcs p (by omega)
  generalize plB p = b at *
  (unfold Tryz.f164; refine rn trivial ?_)
  refine rn F ?_
  repeat' (first
    | with_reducible exact ⟨⟩
    | (refine sB F ?_ ?_<;>intro hZ)
    | refine vp F (c1) ?_)
  · exact ⟨rfl,rfl,[],rfl,Nat.zero_le _⟩
  refine VLoop.nilOwn 3 190 3 rfl ?_
  refine rn trivial ?_
  refine Qh (fun s:{s:Nat × List Dt // s.1<=64/\s.2.length<=s.1}=>⟨45,0,[(4,.int .i64 s.1.1),(3,.own 1 3 0 s.1.2.length),(1,.ptr 0 0)],[⟨31,true,p.d⟩,⟨190,true,cells Qdt s.1.2⟩]⟩) (fun s=>64 - s.1.1) ⟨(0,[]),by simp⟩ (gc [0,1]) ?_
  rintro ⟨⟨i,out⟩,hi,ho⟩
  dsimp only at hi ho |-
  have c3:=c2 i
  rcases Qce p.fs i with h | ⟨j,hj,h,_⟩
  all_goals rw [h] at c3
  · skip
    refine rn F ?_
    repeat' (first
      | with_reducible exact ⟨⟩
      | (refine sB F ?_ ?_<;>intro hZ)
      | refine vp F (c3) ?_)
    · exact ⟨⟨(i + 1,out),by dsimp only; omega,by dsimp only; omega⟩,by dsimp only; omega,(gc [0,1])⟩
    · exact ⟨rfl,rfl,out,rfl,by omega⟩
  · have hg:=QbP p.fs j hj
    have hb:(out.length + 1) * 24<=140737488355328:=by omega
    generalize p.fs.getD j Fm0 = f at *
    have F:=(And.intro @hg @hb)
    refine rn F ?_
    repeat' (first
      | with_reducible exact ⟨⟩
      | (refine sB F ?_ ?_<;>intro hZ)
      | refine vp F (c3) ?_
      | (refine Qd (id:=9) [0,1,2,3,4,5,6,7,8,9,10,11,12,13,14,15] [⟨[16],[16],17,[1,2,3,4,5,6,7,8,9,10,11,12,13,14,15],[]⟩,⟨[],[],18,[],[]⟩] (by kernel_rfl) (by kernel_rfl) ?_; refine rn F ?_))
    · exact ⟨⟨(i + 1,out ++ [⟨i,f.rc,f.pg.lsn⟩]),by dsimp only; omega,by simp; omega⟩,by dsimp only; omega,by dsimp only; rw [List.length_append]; exact (gc [0,3])⟩
    · exact ⟨⟨(i + 1,out),by dsimp only; omega,by dsimp only; omega⟩,by dsimp only; omega,(gc [0,1])⟩
    · exact ⟨rfl,rfl,out,rfl,by omega⟩
end
theorem Qgp (x:Lg) (h1 : -1099511627776<=x.f/\x.f<=1099511627776) (h2:x.es.length<=1000000):VCalls prog 40 [.agg x.c] [] (Ret (.int .i64 x.end_)):=by
  refine dd Tryz.func40 ?_
  unfold Lg.end_
  (unfold Tryz.f40; refine rn trivial ?_; try with_reducible exact ⟨⟩)
theorem Qsx {x:Lg} (h:lgB x = true):x.end_<=1099511627776:=by
  have hd:=QaC h
  unfold Lg.hd at hd
  unfold Lg.end_
  unfold lgB at h
  simp only [Bool.and_eq_true,List.all_eq_true] at h
  by_cases h0:x.es.length = 0
  · omega
  · have:=h.2 (x.es.length - 1) (List.mem_range.2 (by omega))
    unfold lgC at this
    simp only [Bool.and_eq_true,decide_eq_true_eq] at this
    obtain ⟨h3,h4⟩:=this
    generalize x.es.getD (x.es.length - 1) E0 = e at *
    unfold E.okB at h4
    simp only [Bool.and_eq_true,decide_eq_true_eq] at h4
    omega
theorem Qad (x:Lg) (hx:x.es.length<=9223372036854775807):VCalls prog 36 [.agg x.c] [] (Ret (.bool (lgB x))):=by
  refine dd Tryz.func36 ?_
  obtain ⟨f,es,d⟩:=x
  dsimp only at hx
  have c1:=Qgp ⟨f,es,d⟩
  unfold Lg.end_ at c1
  dsimp only at c1
  have hB:lgB ⟨f,es,d⟩ = (decide (Lg.hd ⟨f,es,d⟩) && (List.range es.length).all (lgC ⟨f,es,d⟩)):=rfl
  have hH:Lg.hd ⟨f,es,d⟩ = (1<=f/\f<=1099511627776/\es.length<=4096/\f - 1<=d/\d<=f + es.length - 1):=rfl
  have hB':Lg.hd ⟨f,es,d⟩->lgB ⟨f,es,d⟩ = (List.range es.length).all (lgC ⟨f,es,d⟩):=fun h=>by rw [hB,decide_eq_true h,Bool.true_and]
  have no:¬ Lg.hd ⟨f,es,d⟩->lgB ⟨f,es,d⟩ = false:=fun h=>by rw [hB,decide_eq_false h]; rfl
  have hlc:∀ i,lgC ⟨f,es,d⟩ i = (decide ((es.getD i E0).lsn = f + i) && (es.getD i E0).okB):=fun _=>rfl
  generalize lgB ⟨f,es,d⟩ = b at *
  generalize lgC ⟨f,es,d⟩ = lc at *
  (unfold Tryz.f36; refine rn trivial ?_)
  refine rn F ?_
  repeat' (first
    | with_reducible exact ⟨⟩
    | (refine sG F ?_ ?_<;>intro hZ)
    | (refine sB F ?_ ?_<;>intro hZ)
    | refine vp F (c1 (by omega) (by omega)) ?_
    | (refine Qd (id:=1) [0,1,2,3,4,5,6,7,8,9,10,11,12,13,14,15,16,17,18,19,20,21,22,23,24,25] [⟨[],[],26,[0,1,2,3,4,5,6,7,8,9,10,11,12,13,14,15,16,17,18,19,20,21,23,24],[27,28]⟩] (by kernel_rfl) (by kernel_rfl) ?_; refine rn F ?_))
  all_goals first | (rw [no (by rw [hH]; omega)]) | skip
  refine Qh (fun s:Okay es.length lc=>⟨60,0,[(3,.int .i64 s.i),(1,.ptr 0 0)],[⟨25,true,Lg.c ⟨f,es,d⟩⟩]⟩) (fun s=>es.length - s.i) (Okay.start _ _) (gc [0]) ?_
  intro s
  have hsi:=s.hi
  have hg:=fun h:s.i < es.length=>QdB es s.i h
  have c2:=Qcq (es.getD s.i E0)
  have e:=hlc s.i
  generalize (es.getD s.i E0).okB = ok at *
  have F:=@hg
  refine rn F ?_
  repeat' (first
    | with_reducible exact ⟨⟩
    | (refine sG F ?_ ?_<;>intro hZ)
    | (refine sB F ?_ ?_<;>intro hZ)
    | refine vp F (c2) ?_
    | (refine Qd (id:=6) [0,1,2,3,4,5,6,7,8,9,10,11,12,13,14,15,16] [⟨[],[],17,[0,1,2,3,4,5,6,7,8,9,10,12,13,14,15],[18,19]⟩] (by kernel_rfl) (by kernel_rfl) ?_; refine rn F ?_))
  all_goals first
    | (exact congrArg DV.bool (s.no (by omega) (hB' (by rw [hH]; omega)) (by rw [e]; first | (rw [decide_eq_false (by omega)]; rfl) | simp_all)).symm)
    | (exact congrArg DV.bool (s.yes (by omega) (hB' (by rw [hH]; omega))).symm)
    | (exact ⟨s.next (by omega) (by rw [e]; simp_all),s.dec (by omega),(gc [0])⟩)
    | skip
section
set_option pp.deepTerms true
set_option pp.deepTerms.threshold 100000
set_option pp.maxSteps 1000000
set_option pp.proofs false
attribute [local go_sem] Ce.d Ch.d E.d
theorem Qw8:vt prog 90 = some none:=by kernel_rfl
theorem Qw7:vt prog 91 = some none:=by kernel_rfl
theorem Qw6:vt prog 92 = some none:=by kernel_rfl
theorem um1:prog.underlying 90 = some (.map 3 117):=by kernel_rfl
theorem um2:prog.underlying 91 = some (.map 3 3):=by kernel_rfl
theorem um3:prog.underlying 92 = some (.map 3 4):=by kernel_rfl
theorem Qjp:KeyT prog 3 kI:=Qwb (by kernel_rfl)
theorem z1:QpW prog 117 = some (.pointer none):=by kernel_rfl
theorem z2:QpW prog 3 = some (.int .i64 0):=by kernel_rfl
theorem z3:QpW prog 4 = some (.bool false):=by kernel_rfl
attribute [local go_sem] Qw8 Qw7 Qw6
def ckC (f:Int) (bt bp bu:Nat):List DV:=[.int .i64 f,.pv (.lit (.map (some bt))),.pv (.lit (.map (some bp))),.pv (.lit (.map (some bu)))]
def Qlv:List (Int × Int)->Int->Option Int
  | [],_=>none
  | (a,x) :: r,k=>if a = k then some x else Qlv r k
def QpP:List (Int × Int)->Int->Int->List (Int × Int)
  | [],k,v=>[(k,v)]
  | (a,x) :: r,k,v=>if a = k then (a,v) :: r else (a,x) :: QpP r k v
def QoY (L:List (Int × Int)):List (Int × DV):=L.map fun p=>(p.1,.int .i64 p.2)
theorem Qxv (L:List (Int × Int)) (k:Int):QdA (QoY L) k = (Qlv L k).map fun x=>DV.int .i64 x:=by
  induction L with
  | nil=>rfl
  | cons p r ih =>
    obtain ⟨a,x⟩:=p
    unfold QoY at ih |-
    simp only [List.map_cons,QdA,Qlv,ih]
    split<;>rfl
theorem QB1 (L:List (Int × Int)) (k v:Int):Qgu (QoY L) k (.int .i64 v) = QoY (QpP L k v):=by
  induction L with
  | nil=>rfl
  | cons p r ih =>
    obtain ⟨a,x⟩:=p
    unfold QoY at ih |-
    simp only [List.map_cons,Qgu,QpP]
    split
    · rfl
    · rw [ih]; rfl
theorem QCt (L:List (Int × Int)) (k:Int):(QdA (QoY L) k).getD (.int .i64 0) = .int .i64 ((Qlv L k).getD 0):=by rw [Qxv]; cases Qlv L k<;>rfl
theorem QCs (L:List (Int × Int)) (k:Int):(QdA (QoY L) k).isSome = (Qlv L k).isSome:=by rw [Qxv]; cases Qlv L k<;>rfl
def pagedB (f:Int) (L:List (Int × Int)) (e:E):Bool:=match Qlv L e.c.pg with
  | none=>decide (e.ppg < f)
  | some x=>decide (e.ppg = x)
theorem QwF (hp:Qa) (g:MapsD) (kc bt bp bu:Nat) (f:Int) (e:E) (L:List (Int × Int)) (hk:kc < hp.length) (hc:Qb hp kc = some (ckC f bt bp bu)) (hg:(bp,Qbp kI (QoY L)) ∈ g) :
    VCallsG prog 59 [.ptr kc 0,.agg e.d] hp g (fun r h' g'=>r = .bool (pagedB f L e)/\(∃ x,h' = hp ++ [x])/\g' = g.map fun p=>if p.1 = bp then (bp,Qbp kI (QoY (QpP L e.c.pg e.lsn))) else p):=by
  refine Q4 (fn:=Tryz.f59) Tryz.func59 rfl (by kernel_rfl) (by simp [Tryz.f59]) (fun c=>?_)
  unfold ckC at hc
  refine VWpG.first (Qc c) ?_
  (unfold Tryz.f59; refine rn trivial ?_)
  refine VWpG.seq ?_
  refine VWpG.drawn (k:=7) (f:=6) (Qc c) (by kernel_rfl) (by kernel_rfl) (by kernel_rfl) (by kernel_rfl) rfl ?_; refine QX (by kernel_rfl) ?_
  refine rn (And.intro @hk @hc) ?_
  refine Qd0 (zv:=.int .i64 0) (L:=QoY L) (k:=e.c.pg) rfl rfl um2 Qjp (Qau z2) (QaR rfl) rfl hg (Qan rfl) ?_
  rw [QCt,QCs]
  refine rn trivial ?_
  refine VWpG.seq ?_
  refine VWpG.drawn (k:=9) (f:=6) (Qc c) (by kernel_rfl) (by kernel_rfl) (by kernel_rfl) (by kernel_rfl) rfl ?_; refine QX (by kernel_rfl) ?_
  refine rn (And.intro @hk @hc) ?_
  refine Qcx (L:=QoY L) (k:=e.c.pg) rfl rfl um2 Qjp rfl hg (Qan rfl) ?_
  refine rn trivial ?_
  rw [QB1]
  refine VWpG.seq ?_
  refine VWpG.first (Qc c) ?_
  refine rn trivial ?_
  refine VWpG.cond rfl (fun hZ=>?_) (fun hZ=>?_)
  · refine VWpG.plain (Qc c) ?_
    refine rn trivial ?_
    refine QdJ (by kernel_rfl) (by kernel_rfl) ?_
    refine rn (And.intro @hk @hc) ?_
    refine ⟨?_,_,rfl⟩
    unfold pagedB
    cases h:Qlv L e.c.pg with
    | none=>rfl
    | some x=>simp [h] at hZ
  · refine VWpG.plain (Qc c) ?_
    refine rn trivial ?_
    refine VWpG.plain (Qc c) ?_
    refine rn trivial ?_
    refine ⟨?_,_,rfl⟩
    unfold pagedB
    cases h:Qlv L e.c.pg with
    | none=>simp [h] at hZ
    | some x=>exact congrArg DV.bool (Bool.beq_eq_decide_eq _ _)
def rnC (last:Int) (ea ab en:Bool) (p:DV):List DV:=[.int .i64 last,.bool ea,.bool ab,.bool en,p]
theorem Qtw (hp:Qa) (g:MapsD) (kc bt bp bu:Nat) (f:Int) (e:E) (L:List (Int × DV)) (hk:kc < hp.length) (hc:Qb hp kc = some (ckC f bt bp bu)) (hg:(bt,Qbp kI L) ∈ g) (hn:QdA L e.tx = none) :
    VCallsG prog 58 [.ptr kc 0,.agg e.d] hp g (fun r h' g'=>r = .bool (decide (e.ptx < f))/\(∃ x,h' = hp ++ [x] ++ [⟨119,true,rnC e.lsn (decide (0 < e.ptx)) false false (.pv (.slc []))⟩])/\g' = g.map fun p=>if p.1 = bt then (bt,Qbp kI (Qgu L e.tx (.ptr (hp.length + 1) 0))) else p):=by
  refine Q4 (fn:=Tryz.f58) Tryz.func58 rfl (by kernel_rfl) (by simp [Tryz.f58]) (fun c=>?_)
  unfold ckC at hc
  refine VWpG.first (Qc c) ?_
  (unfold Tryz.f58; refine rn trivial ?_)
  refine VWpG.seq ?_
  refine VWpG.drawn (k:=6) (f:=6) (Qc c) (by kernel_rfl) (by kernel_rfl) (by kernel_rfl) (by kernel_rfl) rfl ?_; refine QX (by kernel_rfl) ?_
  refine rn (And.intro @hk @hc) ?_
  refine Qd0 (zv:=.pointer none) (L:=L) (k:=e.tx) rfl rfl um1 Qjp (Qau z1) (QaR rfl) rfl hg (Qan rfl) ?_
  rw [hn]
  refine rn trivial ?_
  refine VWpG.seq ?_
  refine VWpG.first (Qc c) ?_
  refine rn trivial ?_
  refine VWpG.cond rfl (fun hZ=>?_) (fun hZ=>?_)
  · refine VWpG.seq ?_
    refine VWpG.drawn (k:=13) (f:=6) (Qc c) (by kernel_rfl) (by kernel_rfl) (by kernel_rfl) (by kernel_rfl) rfl ?_; refine QpE [0,1,2,3,4,5,6,7,8,9,10,11] [⟨[],[],12,[0,1,2,3,4,5,6,7,8,9,10],[]⟩] (by kernel_rfl) ?_
    refine rn (And.intro @hk @hc) ?_
    refine Qcx (L:=L) (k:=e.tx) rfl rfl um1 Qjp rfl hg (Qan rfl) ?_
    refine rn trivial ?_
    refine VWpG.plain (Qc c) ?_
    refine rn trivial ?_
    refine QdJ (by kernel_rfl) (by kernel_rfl) ?_
    refine rn (And.intro @hk @hc) ?_
    exact ⟨_,rfl⟩
  · simp at hZ
theorem Qtv (hp:Qa) (g:MapsD) (kc bt bp bu:Nat) (f:Int) (e:E) (L:List (Int × DV)) (hk:kc < hp.length) (hc:Qb hp kc = some (ckC f bt bp bu)) (hg:(bt,Qbp kI L) ∈ g) (k:Nat) (la:Int) (ea ab en:Bool) (p:DV) (hkl:k < hp.length) (hb:Qb hp k = some (rnC la ea ab en p)) (hn:QdA L e.tx = some (.ptr k 0)) :
    VCallsG prog 58 [.ptr kc 0,.agg e.d] hp g (fun r h' g'=>r = .bool (decide (e.ptx = la) && !en)/\(∃ x,h' = Qj hp k (rnC e.lsn ea ab en p) ++ [x])/\g' = g):=by
  refine Q4 (fn:=Tryz.f58) Tryz.func58 rfl (by kernel_rfl) (by simp [Tryz.f58]) (fun c=>?_)
  unfold ckC at hc
  unfold rnC at hb
  refine VWpG.first (Qc c) ?_
  (unfold Tryz.f58; refine rn trivial ?_)
  refine VWpG.seq ?_
  refine VWpG.drawn (k:=6) (f:=6) (Qc c) (by kernel_rfl) (by kernel_rfl) (by kernel_rfl) (by kernel_rfl) rfl ?_; refine QX (by kernel_rfl) ?_
  refine rn (And.intro @hk @hc) ?_
  refine Qd0 (zv:=.pointer none) (L:=L) (k:=e.tx) rfl rfl um1 Qjp (Qau z1) (QaR rfl) rfl hg (Qan rfl) ?_
  rw [hn]
  refine rn trivial ?_
  refine VWpG.seq ?_
  refine VWpG.first (Qc c) ?_
  refine rn trivial ?_
  refine VWpG.cond rfl (fun hZ=>?_) (fun hZ=>?_)
  · simp at hZ
  refine VWpG.plain (Qc c) ?_
  refine rn trivial ?_
  refine VWpG.plain (Qc c) ?_
  have F:=(And.intro @hk (And.intro @hc (And.intro @hkl @hb)))
  refine rn F ?_
  repeat' (first
    | with_reducible exact ⟨⟩
    | (refine sG F ?_ ?_<;>intro hZ)
    | (refine Qd (id:=5) [0,1,2,3,4,5,6,7,8,9,10,11,12,13] [⟨[],[],14,[],[]⟩] (by kernel_rfl) (by kernel_rfl) ?_; refine rn F ?_))
  all_goals exact ⟨_,rfl⟩
end
section
set_option pp.deepTerms true
set_option pp.deepTerms.threshold 100000
set_option pp.maxSteps 1000000
set_option pp.proofs false
attribute [local go_sem] Ce.d Ch.d E.d Qjo QpV QpU QpN QpQ Qfb
theorem Qcb (l:List E) (hl:l.length<=1000000) (g:FuncId) (caps:List DV) (hc:DV.nums.go (fun _=>false) caps = true) (p:E->Bool) (hf:∀ x,VCalls prog g (.agg x.d :: caps) [] (Ret (.bool (p x)))) :
    VCalls prog 72 [.pv (.sl (fz encE l)),.fn (.func g) [] caps] [] (Ret (.int .i64 (Qg7 l p))):=by
  refine dd Tryz.func72 ?_
  have hf':=hf
  unfold E.d at hf
  (unfold Tryz.f72; refine rn trivial ?_)
  refine Qqs (fun i:Pass l (fun x=>p x = true)=>⟨19,0,[(8,.int .i64 i.i),(7,.int .i64 l.length),(0,.pv (.sl (fz encE l))),(1,.fn (.func g) [] caps)],[]⟩) (fun i=>l.length - i.i) (Pass.start l _) (by refine ⟨rfl,rfl,by simp,?_,?_,.inl rfl⟩<;>(repeat' apply And.intro)<;>first | rfl | trivial) ?_
  intro i
  have hi:=i.hi
  refine rn trivial ?_
  refine Qat (fun hc1=>?_) (fun hc1=>?_)<;>simp only [decide_eq_true_eq,decide_eq_false_iff_not,Bool.or_eq_true,Bool.and_eq_true,Bool.or_eq_false_iff,Bool.and_eq_false_imp,Bool.not_eq_true',Bool.not_eq_false',beq_iff_eq,beq_eq_false_iff_ne,bne_iff_ne,bne_eq_false_iff_eq,ne_eq] at hc1
  · have hlt:i.i < l.length:=by omega
    have hg:=Qz2 l i.i hlt
    have hm:=hf (l.getD i.i E0)
    have hgd:=Qn l i.i hlt E0
    refine rn @hg ?_
    refine Qas hm (by simpa [DV.nums.go,DV.nums] using hc) ?_
    refine rn trivial ?_
    refine Qat (fun hx=>?_) (fun hx=>?_)
    · (refine rn trivial ?_; try with_reducible exact ⟨⟩)
      rw [Qmv l p i.i hlt (by rw [<- hgd]; exact hx) i.no]
    · (refine rn trivial ?_; try with_reducible exact ⟨⟩)
      exact ⟨i.next hlt (by rw [<- hgd,hx]; simp),by show l.length - (i.i + 1) < l.length - i.i; omega,(by refine ⟨rfl,rfl,by simp,?_,?_,.inl rfl⟩<;>(repeat' apply And.intro)<;>first | rfl | trivial)⟩
  · (refine rn trivial ?_; try with_reducible exact ⟨⟩)
    have:=i.all (by omega)
    rw [Qg7,if_neg (by simpa using this)]
theorem Qbm (l:List E) (hl:l.length<=1000000) (g:FuncId) (caps:List DV) (hc:DV.nums.go (fun _=>false) caps = true) (p:E->Bool) (hf:∀ x,VCalls prog g (.agg x.d :: caps) [] (Ret (.bool (p x)))) :
    VCalls prog 76 [.pv (.sl (fz encE l)),.fn (.func g) [] caps] [] (Ret (.bool (l.any p))):=by
  refine dd Tryz.func76 ?_
  have hi:=Qcb l hl g caps hc p hf
  (unfold Tryz.f76; refine rn trivial ?_)
  refine Qas hi (by simpa [DV.nums.go,DV.nums] using hc) ?_
  by_cases ha:l.any p = true
  · rw [Qg7,if_pos ha]
    (refine rn @ha ?_; try with_reducible exact ⟨⟩)
  · have ha':l.any p = false:=by simpa using ha
    rw [Qg7,if_neg ha]
    (refine rn @ha' ?_; try with_reducible exact ⟨⟩)
@[local go_sem] def Ch.inv (x:Ch):Ch:=⟨x.pg,x.sl,x.a,x.b⟩
theorem QkS (x:Ch):VCalls prog 74 [.agg x.d] [] (Ret (.agg x.inv.d)):=by
  refine dd Tryz.func74 ?_
  (unfold Tryz.f74; refine rn trivial ?_; try with_reducible exact ⟨⟩)
@[local go_sem] def E.q (x:E):List PV:=[.lit (.int .i64 x.lsn),.lit (.int .i64 x.kind),.lit (.int .i64 x.tx),.lit (.int .i64 x.ptx),.lit (.int .i64 x.ppg),.lit (.int .i64 x.ref),.lit (.int .i64 x.c.pg),.lit (.int .i64 x.c.sl),.lit (.bool x.c.b.set),.str x.c.b.data,.lit (.bool x.c.a.set),.str x.c.a.data,.str x.blob]
theorem Qgc (x:E) (e:E):VCalls prog 73 [.agg x.d,.ip e.q] [] (Ret (.bool (decide (x.lsn >= e.ref)))):=by
  refine dd Tryz.func73 ?_
  (unfold Tryz.f73; refine rn trivial ?_; try with_reducible exact ⟨⟩)
theorem Qgb (x:E) (e:E):VCalls prog 77 [.agg x.d,.ip e.q] [] (Ret (.bool (decide (x.c.pg = e.c.pg) && decide (x.c.sl = e.c.sl)))):=by
  refine dd Tryz.func77 ?_
  (unfold Tryz.f77; refine rn trivial ?_)
  refine rn F ?_
  repeat' (first
    | with_reducible exact ⟨⟩
    | (refine sG F ?_ ?_<;>intro hZ))
  all_goals exact congrArg DV.bool (Bool.beq_eq_decide_eq _ _)
def zE:List DV:=[.pv (.lit (.int .i64 0)),.pv (.lit (.int .i64 0)),.pv (.lit (.int .i64 0)),.pv (.lit (.int .i64 0)),.pv (.lit (.int .i64 0)),.pv (.lit (.int .i64 0)),.pv (.lit (.int .i64 0)),.pv (.lit (.int .i64 0)),.pv (.lit (.bool false)),.pv (.str []),.pv (.lit (.bool false)),.pv (.str []),.pv (.str [])]
theorem Qz0 (n:Int) (h0:0<=n) (h1:n<=100000):VCalls prog 99 [.pv (.slc []),.int .i64 n] [] (Qg6 noK [] 13 0 60 []):=by
  refine VCalls.newSl_cut (t:=mk zE n.toNat) (VCalls.newSl ?_)
  refine Qf6 (fn:=Tryz.f99) Tryz.func99 rfl (by kernel_rfl) (by simp [Tryz.f99]) (fun c=>?_)
  have hn:¬ n < 0:=by omega
  have hs:n - (0 - ((0:Nat):Int)) = n:=by omega
  refine VWpG.first (Qc c) ?_
  (unfold Tryz.f99; refine rn trivial ?_)
  refine VWpG.seq ?_
  refine VWpG.first (Qc c) ?_
  refine rn @hn ?_
  refine VWpG.cond rfl (fun hZ=>?_) (fun hZ=>?_)
  · simp at hZ
  refine VWpG.plain (Qc c) ?_
  refine rn trivial ?_
  refine VWpG.seq ?_
  refine VWpG.seq ?_
  refine VWpG.cut1 (Qc c) 2 [] ?_
  refine rn trivial ?_
  refine Qcu rfl (fun c=>by simp) (Qi8 (Qc c) rfl (Qld (x:=.tmp 9) rfl Tryz.velem23 rfl) ?_)
  refine rn trivial ?_
  rw [hs]
  refine VWpG.first (Qc c) ?_
  refine rn trivial ?_
  refine VWpG.cond rfl (fun hZ=>?_) (fun hZ=>?_)
  · have hn0:0 < n:=by simpa using hZ
    refine VWpG.cut1 (Qc c) 2 [0,1] ?_
    refine rn trivial ?_
    refine Qcu rfl (fun c=>by simp) (Qi8 (Qc c) rfl (Qld (x:=.tmp 18) rfl Tryz.velem23 rfl) (Qdb ?_))
    refine rn trivial ?_
    refine Qcu rfl (fun c=>by simp) (Qi8 (Qc c) rfl (Ql2 (x:=.tmp 17) (y:=.tmp 19) rfl Tryz.velem23 rfl rfl) (Qdb ?_))
    refine rn trivial ?_
    refine Qcu rfl (fun c=>by simp) (Qi8 (Qc c) rfl (Qlj (x:=.tmp 20) (y:=.tmp 21) (z:=zE) (l:=n) rfl Tryz.velem23 (by kernel_rfl) Tryz.bytes60 Tryz.vzero60 hn0 (by omega) (by decide) rfl rfl (by decide) (by omega) rfl rfl) ?_)
    refine rn trivial ?_
    refine VWpG.plain (Qc c) ?_
    refine rn trivial ?_
    exact ⟨by simp,.inr ⟨_,.inl rfl,by simp,rfl,Qsp _ _ rfl _⟩⟩
  · have hn0:n = 0:=by simp at hZ; omega
    subst hn0
    refine VWpG.plain (Qc c) ?_
    refine rn trivial ?_
    refine VWpG.plain (Qc c) ?_
    refine rn trivial ?_
    exact ⟨by simp,.inl ⟨rfl,rfl,rfl⟩⟩
@[local go_sem] def l2 (a b:List E):List (List PV):=[[.sl (fz encE a)],[.sl (fz encE b)]]
structure C2 (a b:List E) where
  i:Nat
  hi:i<=2
def C2.n {a b:List E} (s:C2 a b):Nat:=match s.i with | 0=>0 | 1=>a.length | _=>a.length + b.length
def C2.l {a b:List E} (s:C2 a b):List E:=match s.i with | 0=>[] | 1=>a | _=>a ++ b
theorem C2.n0 (a b:List E) (h:0<=2):(⟨0,h⟩:C2 a b).n = 0:=rfl
theorem C2.n1 (a b:List E) (h:1<=2):(⟨1,h⟩:C2 a b).n = a.length:=rfl
theorem C2.n2 (a b:List E) (h:2<=2):(⟨2,h⟩:C2 a b).n = a.length + b.length:=rfl
theorem C2.l0 (a b:List E) (h:0<=2):(⟨0,h⟩:C2 a b).l = []:=rfl
theorem C2.l1 (a b:List E) (h:1<=2):(⟨1,h⟩:C2 a b).l = a:=rfl
theorem C2.l2 (a b:List E) (h:2<=2):(⟨2,h⟩:C2 a b).l = a ++ b:=rfl
theorem Qlb (a b:List E) (h:a.length + b.length<=100000):VCalls prog 75 [.pv (.sl (l2 a b))] [] (Qg6 noK [] 13 (a.length + b.length) 60 (cells encE (a ++ b))):=by
  refine VCalls.newSl ?_
  refine Qa4 (fn:=Tryz.f75) Tryz.func75 rfl (by kernel_rfl) (by simp [Tryz.f75]) ?_
  (unfold Tryz.f75; refine rn trivial ?_)
  refine Qqs (fun s:C2 a b=>⟨36,0,[(11,.int .i64 s.i),(10,.int .i64 2),(9,.pv (.sl (l2 a b))),(3,.int .i64 s.n),(0,.pv (.sl (l2 a b)))],[]⟩) (fun s=>2 - s.i) ⟨0,by omega⟩ (by refine ⟨rfl,rfl,by simp,?_,?_,.inl rfl⟩<;>(repeat' apply And.intro)<;>first | rfl | trivial) ?_
  rintro ⟨i,hi⟩
  have hh:i = 0\/i = 1\/i = 2:=by omega
  have q0:((0:Nat):Int) + a.length = a.length:=by omega
  have q1:¬ ((a.length:Int) < 0):=by omega
  have q2:¬ (((a.length + b.length:Nat):Int) < 0):=by omega
  have q3:(a.length:Int) + b.length = ((a.length + b.length:Nat):Int):=by omega
  rcases hh with rfl | rfl | rfl
  · (refine rn (And.intro (C2.n0 a b) (And.intro @q0 @q1)) ?_; try with_reducible exact ⟨⟩)
    exact ⟨⟨1,by omega⟩,by dsimp only; omega,(by refine ⟨rfl,rfl,by simp,?_,?_,.inl rfl⟩<;>(repeat' apply And.intro)<;>first | rfl | trivial)⟩
  · (refine rn (And.intro (C2.n1 a b) (And.intro @q2 @q3)) ?_; try with_reducible exact ⟨⟩)
    exact ⟨⟨2,by omega⟩,by dsimp only; omega,(by refine ⟨rfl,rfl,by simp,?_,?_,.inl rfl⟩<;>(repeat' apply And.intro)<;>first | rfl | trivial)⟩
  · (refine rn ((C2.n2 a b)) ?_; try with_reducible exact ⟨⟩)
    refine Qyk (Qz0 _ (by omega) (by omega)) rfl rfl ?_
    refine rn trivial ?_
    refine Qh (fun s:C2 a b=>⟨36,0,[(27,.int .i64 s.i),(26,.int .i64 2),(25,.pv (.sl (l2 a b))),(6,.own 0 13 0 s.n)],[⟨60,true,cells encE s.l⟩]⟩) (fun s=>2 - s.i) ⟨0,by omega⟩ (gc [0]) ?_
    rintro ⟨i,hi⟩
    have hh:i = 0\/i = 1\/i = 2:=by omega
    have ha:=Qi3 encE a
    have hb:=Qi3 encE b
    have m1:a.length * 128<=140737488355328:=by omega
    have m2:(a.length + b.length) * 128<=140737488355328:=by omega
    rcases hh with rfl | rfl | rfl
    · (refine rn (And.intro (C2.l0 a b) (And.intro (C2.n0 a b) (And.intro @ha @m1))) ?_; try with_reducible exact ⟨⟩)
      exact ⟨⟨1,by omega⟩,by dsimp only; omega,(gc [1])⟩
    · (refine rn (And.intro (C2.l1 a b) (And.intro (C2.n1 a b) (And.intro @hb @m2))) ?_; try with_reducible exact ⟨⟩)
      exact ⟨⟨2,by omega⟩,by dsimp only; omega,(gc [1])⟩
    · (refine rn (And.intro (C2.l2 a b) ((C2.n2 a b))) ?_; try with_reducible exact ⟨⟩)
      exact ⟨by simp,.inr ⟨0,.inl rfl,by simp,rfl,Qr _ _ _⟩⟩
end
section
attribute [local go_sem] Ce.d Ch.d E.d Qjo QpV QpU QpN QpQ Qfb Qw8 Qw7 Qw6 E.q Ch.inv Nat.not_lt_zero
def Qdh (U:List Int):List (Int × DV):=U.map fun x=>(x,.bool true)
def Qno (U:List Int) (x:Int):List Int:=if x ∈ U then U else U ++ [x]
theorem QkX (U:List Int) (x:Int):(QdA (Qdh U) x).getD (.bool false) = .bool (decide (x ∈ U)):=by
  induction U with
  | nil=>rfl
  | cons a r ih =>
    unfold Qdh at ih |-
    simp only [List.map_cons,QdA]
    by_cases h:a = x
    · subst h; simp
    · rw [if_neg h,ih]; congr 1; simp [Ne.symm h]
theorem Qko (U:List Int) (x:Int):Qgu (Qdh U) x (.bool true) = Qdh (Qno U x):=by
  induction U with
  | nil=>rfl
  | cons a r ih =>
    unfold Qdh Qno at ih |-
    simp only [List.map_cons,Qgu]
    by_cases h:a = x
    · subst h; simp
    · rw [if_neg h,ih]
      by_cases hr:x ∈ r
      · simp [hr]
      · simp [hr,Ne.symm h]
def Q3 (e x:E):Bool:=decide (x.lsn >= e.ref)
def QcS (e x:E):Bool:=decide (x.c.pg = e.c.pg) && decide (x.c.sl = e.c.sl)
theorem Qpi (hp:Qa) (g:MapsD) (kc bt bp bu:Nat) (f:Int) (e:E) (U:List Int) (hk:kc < hp.length) (hc:Qb hp kc = some (ckC f bt bp bu)) (hg:(bu,Qbp kI (Qdh U)) ∈ g) (kt:Nat) (la:Int) (ea ab en:Bool) (hkt:kt < hp.length) (ht:Qb hp kt = some (rnC la ea ab en (.pv (.slc [])))) :
    VCallsG prog 60 [.ptr kc 0,.ptr kt 0,.agg e.d] hp g (fun r h' g'=>∃ b,r = .bool b/\b = (decide (e.ref < f) && !decide (e.ref ∈ U))/\(b = true->(∃ x,h' = hp ++ [x])/\g' = g.map fun p=>if p.1 = bu then (bu,Qbp kI (Qdh (Qno U e.ref))) else p)):=by
  refine Q4 (fn:=Tryz.f60) Tryz.func60 rfl (by kernel_rfl) (by simp [Tryz.f60]) (fun c=>?_)
  unfold ckC at hc
  unfold rnC at ht
  refine VWpG.first (Qc c) ?_
  (unfold Tryz.f60; refine rn trivial ?_)
  refine VWpG.seq ?_
  refine VWpG.drawn (k:=6) (f:=6) (Qc c) (by kernel_rfl) (by kernel_rfl) (by kernel_rfl) (by kernel_rfl) rfl ?_; refine QX (by kernel_rfl) ?_
  refine rn (And.intro @hk @hc) ?_
  refine Qbl (zv:=.bool false) (L:=Qdh U) (k:=e.ref) rfl rfl um3 Qjp (Qau z3) (QaR rfl) rfl hg (Qan rfl) ?_
  rw [show (DV.pv (.lit (.bool false))) = .bool false from rfl,QkX]
  refine rn trivial ?_
  refine VWpG.seq ?_
  refine VWpG.drawn (k:=6) (f:=6) (Qc c) (by kernel_rfl) (by kernel_rfl) (by kernel_rfl) (by kernel_rfl) rfl ?_; refine QX (by kernel_rfl) ?_
  refine rn (And.intro @hk @hc) ?_
  refine Qcx (L:=Qdh U) (k:=e.ref) rfl rfl um3 Qjp rfl hg (Qan rfl) ?_
  refine rn trivial ?_
  rw [show (DV.pv (.lit (.bool true))) = .bool true from rfl,Qko]
  have hi:=Qcb [] (by decide) 73 [.ip e.q] rfl (Q3 e) (fun x=>Qgc x e)
  have hco:=Qbm [] (by decide) 77 [.ip e.q] rfl (QcS e) (fun x=>Qgb x e)
  have hi':VCalls prog 72 [.pv (.slc []),.fn (.func 73) [] [.ip e.q]] [] (Ret (.int .i64 (-1))):=VCalls.wkA hi
  have hco':VCalls prog 76 [.pv (.sl []),.fn (.func 77) [] [.ip e.q]] [] (Ret (.bool false)):=hco
  refine VWpG.plain (Qc c) ?_
  have F:=(And.intro @hk (And.intro @hc (And.intro @hkt @ht)))
  refine rn F ?_
  repeat' (first
    | with_reducible exact ⟨⟩
    | (refine sG F ?_ ?_<;>intro hZ)
    | (refine sB F ?_ ?_<;>intro hZ)
    | refine vl F (hi') ?_
    | refine vl F (hco') ?_
    | (refine Qd (id:=7) [0,1,2,3,4,5,6] [] (by kernel_rfl) (by kernel_rfl) ?_; refine rn F ?_)
    | (refine Qd (id:=8) [0,1,2,3,4,5,6,7,8,9,10,11,12,13,14,15,16,18,19] [⟨[],[],17,[0,1,2,3,4,5,6,7,8,9,10,11,13,14,15,18,19],[20,21]⟩] (by kernel_rfl) (by kernel_rfl) ?_; refine rn F ?_))
  all_goals exact ⟨_,rfl,rfl,fun _=>⟨_,rfl⟩⟩
theorem QfX {n:Nat} {hp:Qa} {l:List E} {i len off:Nat} (ho:off = i * 13) (h:i + len<=l.length):QgN n hp off 13 len (some (cells encE l)) = some (.sl (fz encE ((l.drop i).take len))):=by
  subst ho
  have h0:=Qpu encE (n:=n) (hp:=hp) (len:=len) (l:=(l.drop i).take len) (m:=(l.drop i).drop len) (by simp; omega)
  rw [List.take_append_drop] at h0
  have e:(encE.sz) = 13:=rfl
  rw [e] at h0
  have hd:(cells encE l).drop (i * 13) = cells encE (l.drop i):=Qe8 encE l i
  simp only [QgN] at h0 |-
  rw [hd]
  rw [List.drop_zero,if_pos ⟨by rw [Qjo,List.length_drop]; omega,by decide⟩] at h0
  rw [if_pos ⟨by rw [Qjo]; omega,by decide⟩]
  exact h0
theorem Qwu (l:List E):∀ d ∈ cells encE l,d.flat = true:=Qpv encE l fun a _ p hp=>by
  simp only [encE,List.mem_cons,List.not_mem_nil,or_false] at hp
  rcases hp with rfl | rfl | rfl | rfl | rfl | rfl | rfl | rfl | rfl | rfl | rfl | rfl | rfl<;>rfl
theorem atE (l:List E) (i:Nat) (h:i < l.length):((cells encE l).drop (i * 13)).take 13 = (l.getD i E0).d:=by rw [Qn l i h]; exact QfZ encE l i h
theorem QEx (l:List E) (i:Nat) (h:i < l.length):(cells encE l)[i * 13]? = some (.pv (.lit (.int .i64 (l.getD i E0).lsn))):=by
  have h2:=congrArg (fun x=>x[0]?) (atE l i h)
  simp only [List.getElem?_take,List.getElem?_drop,Nat.add_zero] at h2
  rw [if_pos (by decide)] at h2
  exact h2
theorem QEw (l:List E) (i:Nat) (h:i < l.length):((cells encE l).drop (i * 13 + 6)).take 6 = (l.getD i E0).c.d:=by
  have h2:=congrArg (fun x=>(x.drop 6).take 6) (atE l i h)
  simp only [List.drop_take,List.drop_drop,List.take_take] at h2
  exact h2
theorem Qwr {hp:Qa} {k off i len f:Nat} {l:List E} (hb:Qb hp k = some (cells encE l)) (ho:off = i * 13) (h:i + len<=l.length):QgM 0 hp (f + 1) (.own k 13 off len) = some (.sl (fz encE ((l.drop i).take len))):=by
  subst ho
  have hd:(cells encE l).drop (i * 13) = cells encE (l.drop i):=Qe8 encE l i
  have h1:=Qdv encE 0 hp f ((l.drop i).take len)
  have hr:rows 13 len (cells encE (l.drop i)) = rows 13 len (cells encE ((l.drop i).take len)):=by
    conv=>lhs; rw [<- List.take_append_drop len (l.drop i),Qx]
    exact Qkf _ _ _ _ (by rw [Qjo,List.length_take,List.length_drop,Nat.min_eq_left (by omega)]; exact Nat.le_refl _)
  have hl:((l.drop i).take len).length = len:=by simp; omega
  rw [hl] at h1
  simp only [QgM,hb,Nat.not_lt_zero,if_false]
  rw [if_pos ⟨by rw [Qjo]; omega,by decide⟩,hd,hr]
  exact congrArg (Option.map PV.sl) h1
theorem QsY {hp:Qa} {k:Nat} {d1 d2:DV} {p1 p2:PV} (hb:Qb hp k = some [d1,d2]) (h1:QgM 0 hp 3 d1 = some p1) (h2:QgM 0 hp 3 d2 = some p2):Qlw hp (.own k 1 0 2) = some (.pv (.sl [[p1],[p2]])):=by
  rw [Qk1,QcF,if_neg (Nat.not_lt_zero _),QnI,if_neg (Nat.not_lt_zero _),hb]
  simp [QgN,rows,h1,h2,Qg]
def Qoe (P:List E) (j:Nat):List E:=P.take j ++ P.drop (j + 1)
def eqC (x y:Ch):Bool:=x.pg == y.pg && (x.sl == y.sl && (x.b.set == y.b.set && (x.b.data == y.b.data && (x.a.set == y.a.set && x.a.data == y.a.data))))
end
section
attribute [local go_sem] Ce.d Ch.d E.d Qjo QpV QpU QpN QpQ Qfb Qw8 Qw7 Qw6 E.q Ch.inv Nat.not_lt_zero QT QaO
theorem Qph (hp:Qa) (g:MapsD) (kc bt bp bu:Nat) (f:Int) (e:E) (U:List Int) (hk:kc < hp.length) (hc:Qb hp kc = some (ckC f bt bp bu)) (hg:(bu,Qbp kI (Qdh U)) ∈ g) (kt kp:Nat) (la:Int) (ea ab en:Bool) (P:List E) (hPl:P.length<=10000)
    (hkt:kt < hp.length) (ht:Qb hp kt = some (rnC la ea ab en (.own kp 13 0 P.length))) (hkp:kp < hp.length) (hpb:hp[kp]? = some ⟨60,true,cells encE P⟩) (hne:kt ≠ kp)
    (ha:P.any (Q3 e) = true) (hfe:¬ f<=e.ref) :
    VCallsG prog 60 [.ptr kc 0,.ptr kt 0,.agg e.d] hp g (fun r h' g'=>∃ b,r = .bool b/\b = (!decide (e.ref ∈ U) && !(P.drop (P.findIdx (Q3 e))).any (QcS e))/\(b = true->(∃ x,h' = hp ++ [x])/\g' = g.map fun p=>if p.1 = bu then (bu,Qbp kI (Qdh (Qno U e.ref))) else p)):=by
  refine Q4 (fn:=Tryz.f60) Tryz.func60 rfl (by kernel_rfl) (by simp [Tryz.f60]) (fun c=>?_)
  have hpc:Qb hp kp = some (cells encE P):=Qdx hpb
  unfold ckC at hc
  unfold rnC at ht
  refine VWpG.first (Qc c) ?_
  (unfold Tryz.f60; refine rn trivial ?_)
  refine VWpG.seq ?_
  refine VWpG.drawn (k:=6) (f:=6) (Qc c) (by kernel_rfl) (by kernel_rfl) (by kernel_rfl) (by kernel_rfl) rfl ?_; refine QX (by kernel_rfl) ?_
  refine rn (And.intro @hk @hc) ?_
  refine Qbl (zv:=.bool false) (L:=Qdh U) (k:=e.ref) rfl rfl um3 Qjp (Qau z3) (QaR rfl) rfl hg (Qan rfl) ?_
  rw [show (DV.pv (.lit (.bool false))) = .bool false from rfl,QkX]
  refine rn trivial ?_
  refine VWpG.seq ?_
  refine VWpG.drawn (k:=6) (f:=6) (Qc c) (by kernel_rfl) (by kernel_rfl) (by kernel_rfl) (by kernel_rfl) rfl ?_; refine QX (by kernel_rfl) ?_
  refine rn (And.intro @hk @hc) ?_
  refine Qcx (L:=Qdh U) (k:=e.ref) rfl rfl um3 Qjp rfl hg (Qan rfl) ?_
  refine rn trivial ?_
  rw [show (DV.pv (.lit (.bool true))) = .bool true from rfl,Qko]
  have hj:P.findIdx (Q3 e) < P.length:=List.findIdx_lt_length_of_exists (by simpa using ha)
  have hi:=Qcb P (by omega) 73 [.ip e.q] rfl (Q3 e) (fun x=>Qgc x e)
  rw [Qg7,if_pos ha] at hi
  generalize P.findIdx (Q3 e) = j at *
  have hco:=Qbm (P.drop j) (by simp; omega) 77 [.ip e.q] rfl (QcS e) (fun x=>Qgb x e)
  have hfr:∀ hp',QgN 0 hp' (j * 13) 13 (P.length - j) (some (cells encE P)) = some (.sl (fz encE (P.drop j))):=fun hp'=>by
    rw [QfX (i:=j) (len:=P.length - j) rfl (by omega),List.take_of_length_le (by simp)]
  have hj0:¬ ((j:Int) < 0):=by omega
  refine VWpG.plain (Qc c) ?_
  have F:=(And.intro @hk (And.intro @hc (And.intro @hkt (And.intro @ht (And.intro @hkp (And.intro @hpc (And.intro @hpb (And.intro @hj (And.intro @hj0 (And.intro @hfr @hfe))))))))))
  refine rn F ?_
  repeat' (first
    | with_reducible exact ⟨⟩
    | (refine sG F ?_ ?_<;>intro hZ)
    | refine vl F (hi) ?_
    | refine vl F (hco) ?_
    | (refine Qd (id:=7) [0,1,2,3,4,5,6] [] (by kernel_rfl) (by kernel_rfl) ?_; refine rn F ?_))
  all_goals exact ⟨_,rfl,rfl,fun _=>⟨_,rfl⟩⟩
theorem Qpf (hp:Qa) (g:MapsD) (kc bt bp bu:Nat) (f:Int) (e:E) (U:List Int) (hk:kc < hp.length) (hc:Qb hp kc = some (ckC f bt bp bu)) (hg:(bu,Qbp kI (Qdh U)) ∈ g) (kt kp:Nat) (la:Int) (ea ab en:Bool) (P:List E) (hPl:P.length<=10000)
    (hkt:kt < hp.length) (ht:Qb hp kt = some (rnC la ea ab en (.own kp 13 0 P.length))) (hkp:kp < hp.length) (hpb:hp[kp]? = some ⟨60,true,cells encE P⟩) (hne:kt ≠ kp)
    (ha:P.any (Q3 e) = false) :
    VCallsG prog 60 [.ptr kc 0,.ptr kt 0,.agg e.d] hp g (fun r h' g'=>∃ b,r = .bool b/\b = (decide (e.ref < f) && !decide (e.ref ∈ U))/\(b = true->(∃ x,h' = hp ++ [x])/\g' = g.map fun p=>if p.1 = bu then (bu,Qbp kI (Qdh (Qno U e.ref))) else p)):=by
  refine Q4 (fn:=Tryz.f60) Tryz.func60 rfl (by kernel_rfl) (by simp [Tryz.f60]) (fun c=>?_)
  have hpc:Qb hp kp = some (cells encE P):=Qdx hpb
  unfold ckC at hc
  unfold rnC at ht
  refine VWpG.first (Qc c) ?_
  (unfold Tryz.f60; refine rn trivial ?_)
  refine VWpG.seq ?_
  refine VWpG.drawn (k:=6) (f:=6) (Qc c) (by kernel_rfl) (by kernel_rfl) (by kernel_rfl) (by kernel_rfl) rfl ?_; refine QX (by kernel_rfl) ?_
  refine rn (And.intro @hk @hc) ?_
  refine Qbl (zv:=.bool false) (L:=Qdh U) (k:=e.ref) rfl rfl um3 Qjp (Qau z3) (QaR rfl) rfl hg (Qan rfl) ?_
  rw [show (DV.pv (.lit (.bool false))) = .bool false from rfl,QkX]
  refine rn trivial ?_
  refine VWpG.seq ?_
  refine VWpG.drawn (k:=6) (f:=6) (Qc c) (by kernel_rfl) (by kernel_rfl) (by kernel_rfl) (by kernel_rfl) rfl ?_; refine QX (by kernel_rfl) ?_
  refine rn (And.intro @hk @hc) ?_
  refine Qcx (L:=Qdh U) (k:=e.ref) rfl rfl um3 Qjp rfl hg (Qan rfl) ?_
  refine rn trivial ?_
  rw [show (DV.pv (.lit (.bool true))) = .bool true from rfl,Qko]
  have hi:=Qcb P (by omega) 73 [.ip e.q] rfl (Q3 e) (fun x=>Qgc x e)
  rw [Qg7,if_neg (by rw [ha]; simp)] at hi
  have hco:VCalls prog 76 [.pv (.sl []),.fn (.func 77) [] [.ip e.q]] [] (Ret (.bool false)):=Qbm [] (by decide) 77 [.ip e.q] rfl (QcS e) (fun x=>Qgb x e)
  refine VWpG.plain (Qc c) ?_
  have F:=(And.intro @hk (And.intro @hc (And.intro @hkt (And.intro @ht (And.intro @hkp (And.intro @hpc @hpb))))))
  refine rn F ?_
  repeat' (first
    | with_reducible exact ⟨⟩
    | (refine sG F ?_ ?_<;>intro hZ)
    | (refine sB F ?_ ?_<;>intro hZ)
    | refine vl F (hi) ?_
    | refine vl F (hco) ?_
    | (refine Qd (id:=7) [0,1,2,3,4,5,6] [] (by kernel_rfl) (by kernel_rfl) ?_; refine rn F ?_)
    | (refine Qd (id:=8) [0,1,2,3,4,5,6,7,8,9,10,11,12,13,14,15,16,18,19] [⟨[],[],17,[0,1,2,3,4,5,6,7,8,9,10,11,13,14,15,18,19],[20,21]⟩] (by kernel_rfl) (by kernel_rfl) ?_; refine rn F ?_))
  all_goals exact ⟨_,rfl,rfl,fun _=>⟨_,rfl⟩⟩
theorem Qpg (hp:Qa) (g:MapsD) (kc bt bp bu:Nat) (f:Int) (e:E) (U:List Int) (hk:kc < hp.length) (hc:Qb hp kc = some (ckC f bt bp bu)) (hg:(bu,Qbp kI (Qdh U)) ∈ g) (kt kp:Nat) (la:Int) (ea ab en:Bool) (P:List E) (hPl:P.length<=10000)
    (hkt:kt < hp.length) (ht:Qb hp kt = some (rnC la ea ab en (.own kp 13 0 P.length))) (hkp:kp < hp.length) (hpb:hp[kp]? = some ⟨60,true,cells encE P⟩) (hne:kt ≠ kp)
    (ha:P.any (Q3 e) = true) (hfe:f<=e.ref) (hj1:P.findIdx (Q3 e) + 1 < P.length) :
    VCallsG prog 60 [.ptr kc 0,.ptr kt 0,.agg e.d] hp g (fun r h' g'=>∃ b,r = .bool b/\b = (decide ((P.getD (P.findIdx (Q3 e)) E0).lsn = e.ref) && (eqC (P.getD (P.findIdx (Q3 e)) E0).c.inv e.c && (!decide (e.ref ∈ U) && !(P.drop (P.findIdx (Q3 e) + 1)).any (QcS e))))/\(b = true->(∃ x y z,h' = Qj hp kt (rnC la ea ab en (.own (hp.length + 3) 13 0 (P.length - 1))) ++ [x,y,z,⟨60,true,cells encE (Qoe P (P.findIdx (Q3 e)))⟩])/\g' = g.map fun p=>if p.1 = bu then (bu,Qbp kI (Qdh (Qno U e.ref))) else p)):=by
  refine Q4 (fn:=Tryz.f60) Tryz.func60 rfl (by kernel_rfl) (by simp [Tryz.f60]) (fun c=>?_)
  have hpc:Qb hp kp = some (cells encE P):=Qdx hpb
  unfold ckC at hc
  unfold rnC at ht
  refine VWpG.first (Qc c) ?_
  (unfold Tryz.f60; refine rn trivial ?_)
  refine VWpG.seq ?_
  refine VWpG.drawn (k:=6) (f:=6) (Qc c) (by kernel_rfl) (by kernel_rfl) (by kernel_rfl) (by kernel_rfl) rfl ?_; refine QX (by kernel_rfl) ?_
  refine rn (And.intro @hk @hc) ?_
  refine Qbl (zv:=.bool false) (L:=Qdh U) (k:=e.ref) rfl rfl um3 Qjp (Qau z3) (QaR rfl) rfl hg (Qan rfl) ?_
  rw [show (DV.pv (.lit (.bool false))) = .bool false from rfl,QkX]
  refine rn trivial ?_
  refine VWpG.seq ?_
  refine VWpG.drawn (k:=6) (f:=6) (Qc c) (by kernel_rfl) (by kernel_rfl) (by kernel_rfl) (by kernel_rfl) rfl ?_; refine QX (by kernel_rfl) ?_
  refine rn (And.intro @hk @hc) ?_
  refine Qcx (L:=Qdh U) (k:=e.ref) rfl rfl um3 Qjp rfl hg (Qan rfl) ?_
  refine rn trivial ?_
  rw [show (DV.pv (.lit (.bool true))) = .bool true from rfl,Qko]
  have hj:P.findIdx (Q3 e) < P.length:=List.findIdx_lt_length_of_exists (by simpa using ha)
  have hi:=Qcb P (by omega) 73 [.ip e.q] rfl (Q3 e) (fun x=>Qgc x e)
  rw [Qg7,if_pos ha] at hi
  generalize P.findIdx (Q3 e) = j at *
  have hco:=Qbm (P.drop (j + 1)) (by simp; omega) 77 [.ip e.q] rfl (QcS e) (fun x=>Qgb x e)
  have hcl:=QnM (P.drop (j + 1)) (by simp; omega)
  have hcc:=Qlb (P.take j) (P.drop (j + 1)) (by simp; omega)
  have hl1:(P.drop (j + 1)).length = P.length - j - 1:=by simp; omega
  have hl2:(P.take j).length + (P.drop (j + 1)).length = P.length - 1:=by simp; omega
  rw [hl1] at hcl
  rw [hl2] at hcc
  have hfr:∀ hp',QgN 0 hp' (j * 13 + 13) 13 (P.length - j - 1) (some (cells encE P)) = some (.sl (fz encE (P.drop (j + 1)))):=fun hp'=>by
    rw [QfX (i:=j + 1) (len:=P.length - j - 1) (by omega) (by omega),List.take_of_length_le (by simp; omega)]
  have hft:∀ hp',QgN 0 hp' 0 13 j (some (cells encE P)) = some (.sl (fz encE (P.take j))):=fun hp'=>by
    rw [QfX (i:=0) (len:=j) rfl (by omega)]; simp
  have hj0:¬ ((j:Int) < 0):=by omega
  have hA0:=QEx P j hj
  have hA6:=QEw P j hj
  have hlen:j * 13 + 6 + 6<=P.length * 13:=by omega
  have hlen0:¬ ((P.length - j:Nat):Int) = 0:=by omega
  generalize P.getD j E0 = x at *
  unfold Ch.d at hA6
  refine VWpG.plain (Qc c) ?_
  have F:=(And.intro @hk (And.intro @hc (And.intro @hkt (And.intro @ht (And.intro @hkp (And.intro @hpc (And.intro @hpb (And.intro @hj (And.intro @hj0 (And.intro @hfr (And.intro @hft (And.intro @hfe (And.intro @hA0 (And.intro @hA6 (And.intro @hj1 (And.intro @hlen (And.intro @hl1 (And.intro @hl2 (And.intro @hlen0 @hne)))))))))))))))))))
  refine rn F ?_
  repeat' (first
    | with_reducible exact ⟨⟩
    | (refine sG F ?_ ?_<;>intro hZ)
    | (refine sB F ?_ ?_<;>intro hZ)
    | refine vl F (hi) ?_
    | (refine QfH (hcl) ?_ (Qwu _) ?_; (focus (refine rd F)); refine rn F ?_)
    | refine vp F (QkS x.c) ?_
    | (refine Qd (id:=7) [0,1,2,3,4,5,6] [] (by kernel_rfl) (by kernel_rfl) ?_; refine rn F ?_)
    | (refine Qd (id:=8) [0,1,2,3,4,5,6,7,8,9,10,11,12,13,14,15,16,18,19] [⟨[],[],17,[0,1,2,3,4,5,6,7,8,9,10,11,13,14,15,18,19],[20,21]⟩] (by kernel_rfl) (by kernel_rfl) ?_; refine rn F ?_))
  · refine ⟨_,rfl,?_,fun h=>by cases h⟩
    rw [show eqC { pg:=x.c.pg,sl:=x.c.sl,b:=x.c.a,a:=x.c.b } e.c = false from ?_]
    · rfl
    · unfold eqC; rw [Bool.eq_false_iff]; intro h; simp at h; exact hZ h.1 h.2.1 h.2.2.1 h.2.2.2.1 h.2.2.2.2.1 h.2.2.2.2.2
  · rw [show eqC { pg:=x.c.pg,sl:=x.c.sl,b:=x.c.a,a:=x.c.b } e.c = true from by unfold eqC; simp; exact hZ]
    have hjt:P.length - 1 = (P.take j).length + (P.drop (j + 1)).length:=hl2.symm
    refine QfH hcc (congrArg (fun o=>Qg [o]) (QsY (d1:=.own kp 13 0 j) (d2:=.own (hp.length + 1) 13 0 (P.length - j - 1)) (p1:=.sl (fz encE (P.take j))) (p2:=.sl (fz encE (P.drop (j + 1)))) ?_ ?_ ?_)) (Qwu _) ?_
    · (refine rn (And.intro @hk @hkp) ?_; try with_reducible exact ⟨⟩)
    · refine (Qwr (i:=0) (l:=P) ?_ rfl (by omega)).trans (by simp)
      (refine rn (And.intro @hkp @hpc) ?_; try with_reducible exact ⟨⟩)
    · refine (Qwr (i:=0) (l:=P.drop (j + 1)) ?_ rfl (by simp; omega)).trans (by rw [<- hl1,List.drop_zero,List.take_length])
      (refine rn (And.intro @hkp @hpc) ?_; try with_reducible exact ⟨⟩)
    refine rn (And.intro @hk (And.intro @hc (And.intro @hkt (And.intro @ht (And.intro @hkp (And.intro @hpc (And.intro @hpb @hne))))))) ?_
    obtain ⟨hp2,hS⟩:∃ h,h = Qj hp kt (rnC la ea ab en (.own (hp.length + 1 + 1 + 1) 13 0 (P.length - 1))):=⟨_,rfl⟩
    have hS0:=hS
    unfold rnC at hS
    rw [<- hS]
    have hlp:hp2.length = hp.length:=by rw [hS,Qal]
    have F:=(And.intro @hk (And.intro @hlp @hl1))
    refine rn F ?_
    repeat' (first
      | with_reducible exact ⟨⟩
      | (refine sG F ?_ ?_<;>intro hZ)
      | refine vl F (hco) ?_)
    · exact ⟨_,rfl,rfl,fun _=>⟨_,_,_,by rw [hS0]; simp only [List.append_assoc,List.cons_append,List.nil_append]; rfl⟩⟩
    · exact ⟨_,rfl,rfl,fun h=>by cases h⟩
  · exact ⟨_,rfl,rfl,fun h=>by cases h⟩
theorem Qpe (hp:Qa) (g:MapsD) (kc bt bp bu:Nat) (f:Int) (e:E) (U:List Int) (hk:kc < hp.length) (hc:Qb hp kc = some (ckC f bt bp bu)) (hg:(bu,Qbp kI (Qdh U)) ∈ g) (kt kp:Nat) (la:Int) (ea ab en:Bool) (P:List E) (hPl:P.length<=10000)
    (hkt:kt < hp.length) (ht:Qb hp kt = some (rnC la ea ab en (.own kp 13 0 P.length))) (hkp:kp < hp.length) (hpb:hp[kp]? = some ⟨60,true,cells encE P⟩) (hne:kt ≠ kp)
    (ha:P.any (Q3 e) = true) (hfe:f<=e.ref) (hj1:P.findIdx (Q3 e) + 1 = P.length) :
    VCallsG prog 60 [.ptr kc 0,.ptr kt 0,.agg e.d] hp g (fun r h' g'=>∃ b,r = .bool b/\b = (decide ((P.getD (P.findIdx (Q3 e)) E0).lsn = e.ref) && (eqC (P.getD (P.findIdx (Q3 e)) E0).c.inv e.c && (!decide (e.ref ∈ U) && !(P.drop (P.findIdx (Q3 e) + 1)).any (QcS e))))/\(b = true->(∃ x y z,h' = Qj hp kt (rnC la ea ab en (.own (hp.length + 3) 13 0 (P.length - 1))) ++ [x,y,z,⟨60,true,cells encE (Qoe P (P.findIdx (Q3 e)))⟩])/\g' = g.map fun p=>if p.1 = bu then (bu,Qbp kI (Qdh (Qno U e.ref))) else p)):=by
  refine Q4 (fn:=Tryz.f60) Tryz.func60 rfl (by kernel_rfl) (by simp [Tryz.f60]) (fun c=>?_)
  have hpc:Qb hp kp = some (cells encE P):=Qdx hpb
  unfold ckC at hc
  unfold rnC at ht
  refine VWpG.first (Qc c) ?_
  (unfold Tryz.f60; refine rn trivial ?_)
  refine VWpG.seq ?_
  refine VWpG.drawn (k:=6) (f:=6) (Qc c) (by kernel_rfl) (by kernel_rfl) (by kernel_rfl) (by kernel_rfl) rfl ?_; refine QX (by kernel_rfl) ?_
  refine rn (And.intro @hk @hc) ?_
  refine Qbl (zv:=.bool false) (L:=Qdh U) (k:=e.ref) rfl rfl um3 Qjp (Qau z3) (QaR rfl) rfl hg (Qan rfl) ?_
  rw [show (DV.pv (.lit (.bool false))) = .bool false from rfl,QkX]
  refine rn trivial ?_
  refine VWpG.seq ?_
  refine VWpG.drawn (k:=6) (f:=6) (Qc c) (by kernel_rfl) (by kernel_rfl) (by kernel_rfl) (by kernel_rfl) rfl ?_; refine QX (by kernel_rfl) ?_
  refine rn (And.intro @hk @hc) ?_
  refine Qcx (L:=Qdh U) (k:=e.ref) rfl rfl um3 Qjp rfl hg (Qan rfl) ?_
  refine rn trivial ?_
  rw [show (DV.pv (.lit (.bool true))) = .bool true from rfl,Qko]
  have hj:P.findIdx (Q3 e) < P.length:=List.findIdx_lt_length_of_exists (by simpa using ha)
  have hi:=Qcb P (by omega) 73 [.ip e.q] rfl (Q3 e) (fun x=>Qgc x e)
  rw [Qg7,if_pos ha] at hi
  generalize P.findIdx (Q3 e) = j at *
  have hd0:P.drop (j + 1) = []:=List.drop_of_length_le (by omega)
  rw [hd0]
  have hco:VCalls prog 76 [.pv (.sl (fz encE [])),.fn (.func 77) [] [.ip e.q]] [] (Ret (.bool false)):=Qbm [] (by decide) 77 [.ip e.q] rfl (QcS e) (fun x=>Qgb x e)
  have hcl:VCalls prog 42 [.pv (.sl [])] [] (Qg6 noK [] 13 0 60 (cells encE [])):=QnM [] (by decide)
  have hcc:=Qlb (P.take j) [] (by simp; omega)
  have hl2:(P.take j).length + ([]:List E).length = P.length - 1:=by simp; omega
  rw [hl2] at hcc
  have hnj:P.length - j = 1:=by omega
  have hun:Qoe P j = P.take j ++ []:=by unfold Qoe; rw [hd0]
  rw [hun]
  have hft:∀ hp',QgN 0 hp' 0 13 j (some (cells encE P)) = some (.sl (fz encE (P.take j))):=fun hp'=>by
    rw [QfX (i:=0) (len:=j) rfl (by omega)]; simp
  have hj0:¬ ((j:Int) < 0):=by omega
  have hA0:=QEx P j hj
  have hA6:=QEw P j hj
  have hlen:j * 13 + 6 + 6<=P.length * 13:=by omega
  have hlen0:¬ ((P.length - j:Nat):Int) = 0:=by omega
  generalize P.getD j E0 = x at *
  unfold Ch.d at hA6
  refine VWpG.plain (Qc c) ?_
  have F:=(And.intro @hk (And.intro @hc (And.intro @hkt (And.intro @ht (And.intro @hkp (And.intro @hpc (And.intro @hpb (And.intro @hj (And.intro @hj0 (And.intro @hft (And.intro @hfe (And.intro @hA0 (And.intro @hA6 (And.intro @hlen (And.intro @hnj @hne)))))))))))))))
  refine rn F ?_
  repeat' (first
    | with_reducible exact ⟨⟩
    | (refine sG F ?_ ?_<;>intro hZ)
    | (refine sB F ?_ ?_<;>intro hZ)
    | refine vl F (hi) ?_
    | (refine QfH (hcl) ?_ (Qwu _) ?_; (focus (refine rd F)); refine rn F ?_)
    | refine vp F (QkS x.c) ?_
    | (refine Qd (id:=7) [0,1,2,3,4,5,6] [] (by kernel_rfl) (by kernel_rfl) ?_; refine rn F ?_)
    | (refine Qd (id:=8) [0,1,2,3,4,5,6,7,8,9,10,11,12,13,14,15,16,18,19] [⟨[],[],17,[0,1,2,3,4,5,6,7,8,9,10,11,13,14,15,18,19],[20,21]⟩] (by kernel_rfl) (by kernel_rfl) ?_; refine rn F ?_))
  · refine ⟨_,rfl,?_,fun h=>by cases h⟩
    rw [show eqC { pg:=x.c.pg,sl:=x.c.sl,b:=x.c.a,a:=x.c.b } e.c = false from ?_]
    · rfl
    · unfold eqC; rw [Bool.eq_false_iff]; intro h; simp at h; exact hZ h.1 h.2.1 h.2.2.1 h.2.2.2.1 h.2.2.2.2.1 h.2.2.2.2.2
  · rw [show eqC { pg:=x.c.pg,sl:=x.c.sl,b:=x.c.a,a:=x.c.b } e.c = true from by unfold eqC; simp; exact hZ]
    refine QfH hcc (congrArg (fun o=>Qg [o]) (QsY (d1:=.own kp 13 0 j) (d2:=.own (hp.length + 1) 13 0 0) (p1:=.sl (fz encE (P.take j))) (p2:=.sl (fz encE [])) ?_ ?_ ?_)) (Qwu _) ?_
    · (refine rn (And.intro @hk @hkp) ?_; try with_reducible exact ⟨⟩)
    · refine (Qwr (i:=0) (l:=P) ?_ rfl (by omega)).trans (by simp)
      (refine rn (And.intro @hkp @hpc) ?_; try with_reducible exact ⟨⟩)
    · refine (Qwr (i:=0) (l:=[]) ?_ rfl (by simp)).trans (by simp)
      (refine rn (And.intro @hkp @hpc) ?_; try with_reducible exact ⟨⟩)
    refine rn (And.intro @hk (And.intro @hc (And.intro @hkt (And.intro @ht (And.intro @hkp (And.intro @hpc (And.intro @hpb @hne))))))) ?_
    obtain ⟨hp2,hS⟩:∃ h,h = Qj hp kt (rnC la ea ab en (.own (hp.length + 1 + 1 + 1) 13 0 (P.length - 1))):=⟨_,rfl⟩
    have hS0:=hS
    unfold rnC at hS
    rw [<- hS]
    have hlp:hp2.length = hp.length:=by rw [hS,Qal]
    have F:=(And.intro @hk @hlp)
    refine rn F ?_
    repeat' (first
      | with_reducible exact ⟨⟩
      | (refine sG F ?_ ?_<;>intro hZ)
      | refine vl F (hco) ?_)
    · exact ⟨_,rfl,rfl,fun _=>⟨_,_,_,by rw [hS0]; simp only [List.append_assoc,List.cons_append,List.nil_append]; rfl⟩⟩
    · exact ⟨_,rfl,rfl,fun h=>by cases h⟩
  · exact ⟨_,rfl,rfl,fun h=>by cases h⟩
end
end Go.Proofs.YtepcgifhpjapkaaGreat

