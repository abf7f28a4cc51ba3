/-
  Contracts of functions and plain laws. No condition.
-/
import Derived.Test.YtdkdbodcffiiaaaGreatProg
import Derived.Test.YtdkdbodcffiiaaaGreatV3
import Derived.KernelRfl
import Derived.Test.YtdkdbodcffiiaaaGreatV4
set_option linter.unusedSimpArgs false
set_option linter.unusedVariables false
set_option linter.defProp false
set_option maxRecDepth 100000
set_option maxHeartbeats 8000000
set_option autoImplicit true
set_option relaxedAutoImplicit true
open And renaming intro->Ja
open Bool renaming and_eq_true->Jb,not_eq_false'->Je,or_eq_true->Jf,not_eq_true'->Jg,eq_iff_iff->Jk,false_eq_true->Jl,and_eq_false_imp->Jm,true_eq_false->Jn,or_eq_false_iff->Jo,eq_false_iff->Jw,and_false->JH,not_eq_eq_eq_not->JN,beq_eq_decide_eq->J3,not_false->J7,not_true->Kb,true_and->Ko
open Int renaming reduceBEq->Jd,toNat_natCast->Jp,reduceAdd->Js,reduceLT->JA,reduceNeg->JK,natCast_pow->JZ,natCast_mul->Kf,reduceToNat->Kh
open List renaming getD_eq_getElem?_getD->Jh,take_of_length_le->Ji,length_take->Jj,length_append->Jq,take_succ_eq_append_getElem->Jt,findIdx_lt_length_of_exists->Ju,range->Jv,getElem?_eq_getElem->Jx,length_drop->Jy,append_assoc->JB,take_length->JC,length->JD,getElem?_take->JJ,mem_range->JL,length_filter_le->JM,all_eq_true->JP,any_eq_true->JQ,length_cons->JR,not_mem_nil->JS,map_cons->JT,append_nil->JU,mem_cons->JW,getElem_mem->JX,getElem_cons_zero->JY,length_nil->J0,length_set->J2,take_append_drop->J4,findIdx_getElem->J5,drop_drop->J6,takeWhile_cons->J8,filter_append->J9,getElem?_drop->Ka,getElem?_map->Kc,cons_append->Ke,foldl_cons->Kg,nil_append->Kj,drop_zero->Kl
open Nat renaming reduceBEq->Jc,reduceAdd->Jr,reduceLT->Jz,zero_le->JE,not_lt_zero->JF,pow_le_pow_right->JG,lt_of_lt_of_le->JI,reduceLeDiff->JO,two_pow_add_eq_or_of_lt->JV,lt_or_ge->J1,zero_add->Kd,le_refl->Ki,mul_le_mul->Kk,mod_lt->Km,mul_comm->Kp,add_zero->Kq,or_comm->Kr,mul_add->Ks,pow_add->Kt
namespace Go.Proofs.YtdkdbodcffiiaaaGreat
open Go.V Go
open Tryz (prog)
def F:True:=trivial
end Go.Proofs.YtdkdbodcffiiaaaGreat
namespace Go.Proofs
open Go.V
theorem Tryz.vt3:vt prog 3 = some none:=by kernel_rfl
theorem Tryz.vkind3:Q6 prog 3 = .int .i64:=by kernel_rfl
theorem Tryz.vzero3:QK prog 3 = some [.pv (.lit (.int .i64 0))]:=by kernel_rfl
theorem Tryz.bytes3:QaL prog 3 = some 8:=by kernel_rfl
theorem Tryz.vt4:vt prog 4 = some none:=by kernel_rfl
theorem Tryz.vkind4:Q6 prog 4 = .bool:=by kernel_rfl
theorem Tryz.vt5:vt prog 5 = some none:=by kernel_rfl
theorem Tryz.vkind5:Q6 prog 5 = .int .u8:=by kernel_rfl
theorem Tryz.vzero5:QK prog 5 = some [.pv (.lit (.int .u8 0))]:=by kernel_rfl
theorem Tryz.bytes5:QaL prog 5 = some 1:=by kernel_rfl
theorem Tryz.vt9:vt prog 9 = some none:=by kernel_rfl
theorem Tryz.vkind9:Q6 prog 9 = .str:=by kernel_rfl
theorem Tryz.vzero9:QK prog 9 = some [.pv (.str [])]:=by kernel_rfl
theorem Tryz.bytes9:QaL prog 9 = some 16:=by kernel_rfl
theorem Tryz.vt22:vt prog 22 = some none:=by kernel_rfl
theorem Tryz.velem22:QF prog 22 = some (none,5,1):=by kernel_rfl
theorem Tryz.notInt22:QaQ prog 22 = true:=by kernel_rfl
theorem Tryz.vkind22:Q6 prog 22 = .sl 5:=by kernel_rfl
theorem Tryz.vt24:vt prog 24 = some (some 2):=by kernel_rfl
theorem Tryz.vfield24x0:Qe prog 24 0 = some (4,0,1):=by kernel_rfl
theorem Tryz.vfield24x1:Qe prog 24 1 = some (9,1,1):=by kernel_rfl
theorem Tryz.vplaces24:Qx prog 24 = some fun j=>([(0,1),(1,1)]:List (Nat × Nat))[j]?:=by kernel_rfl
theorem Tryz.vzero24:QK prog 24 = some [.pv (.lit (.bool false)),.pv (.str [])]:=by kernel_rfl
theorem Tryz.leaves24:QaJ prog 8 24 = some [(0,0),(1,2)]:=by kernel_rfl
theorem Tryz.eqg24:prog.eqGuardType prog.depth 24 = false:=by kernel_rfl
theorem Tryz.vt26:vt prog 26 = some (some 6):=by kernel_rfl
theorem Tryz.vfield26x0:Qe prog 26 0 = some (3,0,1):=by kernel_rfl
theorem Tryz.vfield26x1:Qe prog 26 1 = some (3,1,1):=by kernel_rfl
theorem Tryz.vfield26x2:Qe prog 26 2 = some (3,2,1):=by kernel_rfl
theorem Tryz.vfield26x3:Qe prog 26 3 = some (3,3,1):=by kernel_rfl
theorem Tryz.vfield26x4:Qe prog 26 4 = some (24,4,2):=by kernel_rfl
theorem Tryz.vplaces26:Qx prog 26 = some fun j=>([(0,1),(1,1),(2,1),(3,1),(4,2)]:List (Nat × Nat))[j]?:=by kernel_rfl
theorem Tryz.vzero26:QK prog 26 = some [.pv (.lit (.int .i64 0)),.pv (.lit (.int .i64 0)),.pv (.lit (.int .i64 0)),.pv (.lit (.int .i64 0)),.pv (.lit (.bool false)),.pv (.str [])]:=by kernel_rfl
theorem Tryz.bytes26:QaL prog 26 = some 56:=by kernel_rfl
theorem Tryz.vt30:vt prog 30 = some none:=by kernel_rfl
theorem Tryz.velem30:QF prog 30 = some (none,73,13):=by kernel_rfl
theorem Tryz.notInt30:QaQ prog 30 = true:=by kernel_rfl
theorem Tryz.vkind30:Q6 prog 30 = .sl 73:=by kernel_rfl
theorem Tryz.vzero30:QK prog 30 = some [.pv (.slc [])]:=by kernel_rfl
theorem Tryz.vt32:vt prog 32 = some (some 3):=by kernel_rfl
theorem Tryz.vfield32x0:Qe prog 32 0 = some (3,0,1):=by kernel_rfl
theorem Tryz.vfield32x1:Qe prog 32 1 = some (30,1,1):=by kernel_rfl
theorem Tryz.vfield32x2:Qe prog 32 2 = some (3,2,1):=by kernel_rfl
theorem Tryz.vplaces32:Qx prog 32 = some fun j=>([(0,1),(1,1),(2,1)]:List (Nat × Nat))[j]?:=by kernel_rfl
theorem Tryz.vzero32:QK prog 32 = some [.pv (.lit (.int .i64 0)),.pv (.slc []),.pv (.lit (.int .i64 0))]:=by kernel_rfl
theorem Tryz.vt33:vt prog 33 = some none:=by kernel_rfl
theorem Tryz.velem33:QF prog 33 = some (none,179,37):=by kernel_rfl
theorem Tryz.notInt33:QaQ prog 33 = true:=by kernel_rfl
theorem Tryz.vkind33:Q6 prog 33 = .sl 179:=by kernel_rfl
theorem Tryz.vt35:vt prog 35 = some (some 3):=by kernel_rfl
theorem Tryz.vfield35x0:Qe prog 35 0 = some (3,0,1):=by kernel_rfl
theorem Tryz.vfield35x1:Qe prog 35 1 = some (33,1,1):=by kernel_rfl
theorem Tryz.vfield35x2:Qe prog 35 2 = some (3,2,1):=by kernel_rfl
theorem Tryz.vplaces35:Qx prog 35 = some fun j=>([(0,1),(1,1),(2,1)]:List (Nat × Nat))[j]?:=by kernel_rfl
theorem Tryz.vzero35:QK prog 35 = some [.pv (.lit (.int .i64 0)),.pv (.slc []),.pv (.lit (.int .i64 0))]:=by kernel_rfl
theorem Tryz.vt36:vt prog 36 = some none:=by kernel_rfl
theorem Tryz.velem36:QF prog 36 = some (none,219,4):=by kernel_rfl
theorem Tryz.notInt36:QaQ prog 36 = true:=by kernel_rfl
theorem Tryz.vkind36:Q6 prog 36 = .sl 219:=by kernel_rfl
theorem Tryz.vt38:vt prog 38 = some (some 2):=by kernel_rfl
theorem Tryz.vfield38x0:Qe prog 38 0 = some (36,0,1):=by kernel_rfl
theorem Tryz.vfield38x1:Qe prog 38 1 = some (36,1,1):=by kernel_rfl
theorem Tryz.vplaces38:Qx prog 38 = some fun j=>([(0,1),(1,1)]:List (Nat × Nat))[j]?:=by kernel_rfl
theorem Tryz.vzero38:QK prog 38 = some [.pv (.slc []),.pv (.slc [])]:=by kernel_rfl
theorem Tryz.vt39:vt prog 39 = some none:=by kernel_rfl
theorem Tryz.velem39:QF prog 39 = some (none,215,6):=by kernel_rfl
theorem Tryz.notInt39:QaQ prog 39 = true:=by kernel_rfl
theorem Tryz.vkind39:Q6 prog 39 = .sl 215:=by kernel_rfl
theorem Tryz.vt40:vt prog 40 = some none:=by kernel_rfl
theorem Tryz.velem40:QF prog 40 = some (none,281,3):=by kernel_rfl
theorem Tryz.notInt40:QaQ prog 40 = true:=by kernel_rfl
theorem Tryz.vkind40:Q6 prog 40 = .sl 281:=by kernel_rfl
theorem Tryz.vt42:vt prog 42 = some (some 1):=by kernel_rfl
theorem Tryz.vfield42x0:Qe prog 42 0 = some (40,0,1):=by kernel_rfl
theorem Tryz.vplaces42:Qx prog 42 = some fun j=>([(0,1)]:List (Nat × Nat))[j]?:=by kernel_rfl
theorem Tryz.vzero42:QK prog 42 = some [.pv (.slc [])]:=by kernel_rfl
theorem Tryz.vt43:vt prog 43 = some none:=by kernel_rfl
theorem Tryz.velem43:QF prog 43 = some (none,187,3):=by kernel_rfl
theorem Tryz.notInt43:QaQ prog 43 = true:=by kernel_rfl
theorem Tryz.vkind43:Q6 prog 43 = .sl 187:=by kernel_rfl
theorem Tryz.vt45:vt prog 45 = some (some 13):=by kernel_rfl
theorem Tryz.vfield45x0:Qe prog 45 0 = some (3,0,1):=by kernel_rfl
theorem Tryz.vfield45x1:Qe prog 45 1 = some (3,1,1):=by kernel_rfl
theorem Tryz.vfield45x2:Qe prog 45 2 = some (32,2,3):=by kernel_rfl
theorem Tryz.vfield45x3:Qe prog 45 3 = some (35,5,3):=by kernel_rfl
theorem Tryz.vfield45x4:Qe prog 45 4 = some (38,8,2):=by kernel_rfl
theorem Tryz.vfield45x5:Qe prog 45 5 = some (39,10,1):=by kernel_rfl
theorem Tryz.vfield45x6:Qe prog 45 6 = some (42,11,1):=by kernel_rfl
theorem Tryz.vfield45x7:Qe prog 45 7 = some (43,12,1):=by kernel_rfl
theorem Tryz.vplaces45:Qx prog 45 = some fun j=>([(0,1),(1,1),(2,3),(5,3),(8,2),(10,1),(11,1),(12,1)]:List (Nat × Nat))[j]?:=by kernel_rfl
theorem Tryz.vzero45:QK prog 45 = some [.pv (.lit (.int .i64 0)),.pv (.lit (.int .i64 0)),.pv (.lit (.int .i64 0)),.pv (.slc []),.pv (.lit (.int .i64 0)),.pv (.lit (.int .i64 0)),.pv (.slc []),.pv (.lit (.int .i64 0)),.pv (.slc []),.pv (.slc []),.pv (.slc []),.pv (.slc []),.pv (.slc [])]:=by kernel_rfl
theorem Tryz.velem49:QF prog 49 = some (none,32,3):=by kernel_rfl
theorem Tryz.vkind49:Q6 prog 49 = .sl 32:=by kernel_rfl
theorem Tryz.vt50:vt prog 50 = some (some 2):=by kernel_rfl
theorem Tryz.velem50:QF prog 50 = some (some 2,3,1):=by kernel_rfl
theorem Tryz.vplaces50:Qx prog 50 = some fun j=>some (j * 1,1):=by kernel_rfl
theorem Tryz.vzero50:QK prog 50 = some [.pv (.lit (.int .i64 0)),.pv (.lit (.int .i64 0))]:=by kernel_rfl
theorem Tryz.velem52:QF prog 52 = some (none,50,2):=by kernel_rfl
theorem Tryz.vkind52:Q6 prog 52 = .sl 50:=by kernel_rfl
theorem Tryz.velem53:QF prog 53 = some (none,95,32):=by kernel_rfl
theorem Tryz.notInt53:QaQ prog 53 = true:=by kernel_rfl
theorem Tryz.vkind53:Q6 prog 53 = .sl 95:=by kernel_rfl
theorem Tryz.vt54:vt prog 54 = some none:=by kernel_rfl
theorem Tryz.vt61:vt prog 61 = some none:=by kernel_rfl
theorem Tryz.velem61:QF prog 61 = some (none,26,6):=by kernel_rfl
theorem Tryz.notInt61:QaQ prog 61 = true:=by kernel_rfl
theorem Tryz.vkind61:Q6 prog 61 = .sl 26:=by kernel_rfl
theorem Tryz.vt64:vt prog 64 = some none:=by kernel_rfl
theorem Tryz.velem64:QF prog 64 = some (none,3,1):=by kernel_rfl
theorem Tryz.notInt64:QaQ prog 64 = true:=by kernel_rfl
theorem Tryz.vkind64:Q6 prog 64 = .sl 3:=by kernel_rfl
theorem Tryz.vt71:vt prog 71 = some (some 6):=by kernel_rfl
theorem Tryz.vfield71x0:Qe prog 71 0 = some (3,0,1):=by kernel_rfl
theorem Tryz.vfield71x1:Qe prog 71 1 = some (3,1,1):=by kernel_rfl
theorem Tryz.vfield71x2:Qe prog 71 2 = some (24,2,2):=by kernel_rfl
theorem Tryz.vfield71x3:Qe prog 71 3 = some (24,4,2):=by kernel_rfl
theorem Tryz.vplaces71:Qx prog 71 = some fun j=>([(0,1),(1,1),(2,2),(4,2)]:List (Nat × Nat))[j]?:=by kernel_rfl
theorem Tryz.vzero71:QK prog 71 = some [.pv (.lit (.int .i64 0)),.pv (.lit (.int .i64 0)),.pv (.lit (.bool false)),.pv (.str []),.pv (.lit (.bool false)),.pv (.str [])]:=by kernel_rfl
theorem Tryz.leaves71:QaJ prog 8 71 = some [(0,1),(1,1),(2,0),(3,2),(4,0),(5,2)]:=by kernel_rfl
theorem Tryz.eqg71:prog.eqGuardType prog.depth 71 = false:=by kernel_rfl
theorem Tryz.vt73:vt prog 73 = some (some 13):=by kernel_rfl
theorem Tryz.vfield73x0:Qe prog 73 0 = some (3,0,1):=by kernel_rfl
theorem Tryz.vfield73x1:Qe prog 73 1 = some (3,1,1):=by kernel_rfl
theorem Tryz.vfield73x2:Qe prog 73 2 = some (3,2,1):=by kernel_rfl
theorem Tryz.vfield73x3:Qe prog 73 3 = some (3,3,1):=by kernel_rfl
theorem Tryz.vfield73x4:Qe prog 73 4 = some (3,4,1):=by kernel_rfl
theorem Tryz.vfield73x5:Qe prog 73 5 = some (3,5,1):=by kernel_rfl
theorem Tryz.vfield73x6:Qe prog 73 6 = some (71,6,6):=by kernel_rfl
theorem Tryz.vfield73x7:Qe prog 73 7 = some (9,12,1):=by kernel_rfl
theorem Tryz.vplaces73:Qx prog 73 = some fun j=>([(0,1),(1,1),(2,1),(3,1),(4,1),(5,1),(6,6),(12,1)]:List (Nat × Nat))[j]?:=by kernel_rfl
theorem Tryz.vzero73:QK prog 73 = some [.pv (.lit (.int .i64 0)),.pv (.lit (.int .i64 0)),.pv (.lit (.int .i64 0)),.pv (.lit (.int .i64 0)),.pv (.lit (.int .i64 0)),.pv (.lit (.int .i64 0)),.pv (.lit (.int .i64 0)),.pv (.lit (.int .i64 0)),.pv (.lit (.bool false)),.pv (.str []),.pv (.lit (.bool false)),.pv (.str []),.pv (.str [])]:=by kernel_rfl
theorem Tryz.bytes73:QaL prog 73 = some 128:=by kernel_rfl
theorem Tryz.leaves73:QaJ prog 8 73 = some [(0,1),(1,1),(2,1),(3,1),(4,1),(5,1),(6,1),(7,1),(8,0),(9,2),(10,0),(11,2),(12,2)]:=by kernel_rfl
theorem Tryz.eqg73:prog.eqGuardType prog.depth 73 = false:=by kernel_rfl
theorem Tryz.vfield76x0:Qe prog 76 0 = some (22,0,1):=by kernel_rfl
theorem Tryz.vfield76x1:Qe prog 76 1 = some (3,1,1):=by kernel_rfl
theorem Tryz.vplaces76:Qx prog 76 = some fun j=>([(0,1),(1,1)]:List (Nat × Nat))[j]?:=by kernel_rfl
theorem Tryz.vzero76:QK prog 76 = some [.pv (.slc []),.pv (.lit (.int .i64 0))]:=by kernel_rfl
theorem Tryz.vt77:vt prog 77 = some none:=by kernel_rfl
theorem Tryz.velem77:QF prog 77 = some (none,9,1):=by kernel_rfl
theorem Tryz.notInt77:QaQ prog 77 = true:=by kernel_rfl
theorem Tryz.vkind77:Q6 prog 77 = .sl 9:=by kernel_rfl
theorem Tryz.vt78:vt prog 78 = some none:=by kernel_rfl
theorem Tryz.velem78:QF prog 78 = some (none,253,6):=by kernel_rfl
theorem Tryz.notInt78:QaQ prog 78 = true:=by kernel_rfl
theorem Tryz.vkind78:Q6 prog 78 = .sl 253:=by kernel_rfl
theorem Tryz.vt80:vt prog 80 = some (some 5):=by kernel_rfl
theorem Tryz.vfield80x0:Qe prog 80 0 = some (77,0,1):=by kernel_rfl
theorem Tryz.vfield80x1:Qe prog 80 1 = some (3,1,1):=by kernel_rfl
theorem Tryz.vfield80x2:Qe prog 80 2 = some (64,2,1):=by kernel_rfl
theorem Tryz.vfield80x3:Qe prog 80 3 = some (4,3,1):=by kernel_rfl
theorem Tryz.vfield80x4:Qe prog 80 4 = some (78,4,1):=by kernel_rfl
theorem Tryz.vplaces80:Qx prog 80 = some fun j=>([(0,1),(1,1),(2,1),(3,1),(4,1)]:List (Nat × Nat))[j]?:=by kernel_rfl
theorem Tryz.vzero80:QK prog 80 = some [.pv (.slc []),.pv (.lit (.int .i64 0)),.pv (.slc []),.pv (.lit (.bool false)),.pv (.slc [])]:=by kernel_rfl
theorem Tryz.vt82:vt prog 82 = some (some 18):=by kernel_rfl
theorem Tryz.vfield82x0:Qe prog 82 0 = some (45,0,13):=by kernel_rfl
theorem Tryz.vfield82x1:Qe prog 82 1 = some (80,13,5):=by kernel_rfl
theorem Tryz.vplaces82:Qx prog 82 = some fun j=>([(0,13),(13,5)]:List (Nat × Nat))[j]?:=by kernel_rfl
theorem Tryz.vzero82:QK prog 82 = some [.pv (.lit (.int .i64 0)),.pv (.lit (.int .i64 0)),.pv (.lit (.int .i64 0)),.pv (.slc []),.pv (.lit (.int .i64 0)),.pv (.lit (.int .i64 0)),.pv (.slc []),.pv (.lit (.int .i64 0)),.pv (.slc []),.pv (.slc []),.pv (.slc []),.pv (.slc []),.pv (.slc []),.pv (.slc []),.pv (.lit (.int .i64 0)),.pv (.slc []),.pv (.lit (.bool false)),.pv (.slc [])]:=by kernel_rfl
theorem Tryz.vt92:vt prog 92 = some (some 0):=by kernel_rfl
theorem Tryz.vplaces92:Qx prog 92 = some fun j=>([]:List (Nat × Nat))[j]?:=by kernel_rfl
theorem Tryz.vzero92:QK prog 92 = some []:=by kernel_rfl
theorem Tryz.vt94:vt prog 94 = some none:=by kernel_rfl
theorem Tryz.vt95:vt prog 95 = some (some 32):=by kernel_rfl
theorem Tryz.velem95:QF prog 95 = some (some 16,24,2):=by kernel_rfl
theorem Tryz.vzero95:QK prog 95 = some [.pv (.lit (.bool false)),.pv (.str []),.pv (.lit (.bool false)),.pv (.str []),.pv (.lit (.bool false)),.pv (.str []),.pv (.lit (.bool false)),.pv (.str []),.pv (.lit (.bool false)),.pv (.str []),.pv (.lit (.bool false)),.pv (.str []),.pv (.lit (.bool false)),.pv (.str []),.pv (.lit (.bool false)),.pv (.str []),.pv (.lit (.bool false)),.pv (.str []),.pv (.lit (.bool false)),.pv (.str []),.pv (.lit (.bool false)),.pv (.str []),.pv (.lit (.bool false)),.pv (.str []),.pv (.lit (.bool false)),.pv (.str []),.pv (.lit (.bool false)),.pv (.str []),.pv (.lit (.bool false)),.pv (.str []),.pv (.lit (.bool false)),.pv (.str [])]:=by kernel_rfl
theorem Tryz.bytes95:QaL prog 95 = some 384:=by kernel_rfl
theorem Tryz.leaves95:QaJ prog 8 95 = some [(0,0),(1,2),(2,0),(3,2),(4,0),(5,2),(6,0),(7,2),(8,0),(9,2),(10,0),(11,2),(12,0),(13,2),(14,0),(15,2),(16,0),(17,2),(18,0),(19,2),(20,0),(21,2),(22,0),(23,2),(24,0),(25,2),(26,0),(27,2),(28,0),(29,2),(30,0),(31,2)]:=by kernel_rfl
theorem Tryz.eqg95:prog.eqGuardType prog.depth 95 = false:=by kernel_rfl
theorem Tryz.vt102:vt prog 102 = some (some 2):=by kernel_rfl
theorem Tryz.vfield102x0:Qe prog 102 0 = some (3,0,1):=by kernel_rfl
theorem Tryz.vfield102x1:Qe prog 102 1 = some (3,1,1):=by kernel_rfl
theorem Tryz.vplaces102:Qx prog 102 = some fun j=>([(0,1),(1,1)]:List (Nat × Nat))[j]?:=by kernel_rfl
theorem Tryz.vzero102:QK prog 102 = some [.pv (.lit (.int .i64 0)),.pv (.lit (.int .i64 0))]:=by kernel_rfl
theorem Tryz.leaves102:QaJ prog 8 102 = some [(0,1),(1,1)]:=by kernel_rfl
theorem Tryz.eqg102:prog.eqGuardType prog.depth 102 = false:=by kernel_rfl
theorem Tryz.vt104:vt prog 104 = some (some 2):=by kernel_rfl
theorem Tryz.vfield104x0:Qe prog 104 0 = some (3,0,1):=by kernel_rfl
theorem Tryz.vfield104x1:Qe prog 104 1 = some (3,1,1):=by kernel_rfl
theorem Tryz.vplaces104:Qx prog 104 = some fun j=>([(0,1),(1,1)]:List (Nat × Nat))[j]?:=by kernel_rfl
theorem Tryz.vzero104:QK prog 104 = some [.pv (.lit (.int .i64 0)),.pv (.lit (.int .i64 0))]:=by kernel_rfl
theorem Tryz.velem107:QF prog 107 = some (none,130,6):=by kernel_rfl
theorem Tryz.notInt107:QaQ prog 107 = true:=by kernel_rfl
theorem Tryz.velem110:QF prog 110 = some (none,135,9):=by kernel_rfl
theorem Tryz.notInt110:QaQ prog 110 = true:=by kernel_rfl
theorem Tryz.vkind110:Q6 prog 110 = .sl 135:=by kernel_rfl
theorem Tryz.vfield120x0:Qe prog 120 0 = some (3,0,1):=by kernel_rfl
theorem Tryz.vfield120x1:Qe prog 120 1 = some (116,1,1):=by kernel_rfl
theorem Tryz.vfield120x2:Qe prog 120 2 = some (117,2,1):=by kernel_rfl
theorem Tryz.vfield120x3:Qe prog 120 3 = some (118,3,1):=by kernel_rfl
theorem Tryz.vplaces120:Qx prog 120 = some fun j=>([(0,1),(1,1),(2,1),(3,1)]:List (Nat × Nat))[j]?:=by kernel_rfl
theorem Tryz.vfield128x0:Qe prog 128 0 = some (82,0,18):=by kernel_rfl
theorem Tryz.vfield128x1:Qe prog 128 1 = some (64,18,1):=by kernel_rfl
theorem Tryz.vfield128x2:Qe prog 128 2 = some (61,19,1):=by kernel_rfl
theorem Tryz.vfield128x3:Qe prog 128 3 = some (4,20,1):=by kernel_rfl
theorem Tryz.vplaces128:Qx prog 128 = some fun j=>([(0,18),(18,1),(19,1),(20,1)]:List (Nat × Nat))[j]?:=by kernel_rfl
theorem Tryz.vzero128:QK prog 128 = some [.pv (.lit (.int .i64 0)),.pv (.lit (.int .i64 0)),.pv (.lit (.int .i64 0)),.pv (.slc []),.pv (.lit (.int .i64 0)),.pv (.lit (.int .i64 0)),.pv (.slc []),.pv (.lit (.int .i64 0)),.pv (.slc []),.pv (.slc []),.pv (.slc []),.pv (.slc []),.pv (.slc []),.pv (.slc []),.pv (.lit (.int .i64 0)),.pv (.slc []),.pv (.lit (.bool false)),.pv (.slc []),.pv (.slc []),.pv (.slc []),.pv (.lit (.bool false))]:=by kernel_rfl
theorem Tryz.vt130:vt prog 130 = some (some 6):=by kernel_rfl
theorem Tryz.vfield130x0:Qe prog 130 0 = some (3,0,1):=by kernel_rfl
theorem Tryz.vfield130x1:Qe prog 130 1 = some (3,1,1):=by kernel_rfl
theorem Tryz.vfield130x2:Qe prog 130 2 = some (3,2,1):=by kernel_rfl
theorem Tryz.vfield130x3:Qe prog 130 3 = some (24,3,2):=by kernel_rfl
theorem Tryz.vfield130x4:Qe prog 130 4 = some (54,5,1):=by kernel_rfl
theorem Tryz.vplaces130:Qx prog 130 = some fun j=>([(0,1),(1,1),(2,1),(3,2),(5,1)]:List (Nat × Nat))[j]?:=by kernel_rfl
theorem Tryz.vzero130:QK prog 130 = some [.pv (.lit (.int .i64 0)),.pv (.lit (.int .i64 0)),.pv (.lit (.int .i64 0)),.pv (.lit (.bool false)),.pv (.str []),.pv (.lit (.int .i64 0))]:=by kernel_rfl
theorem Tryz.bytes130:QaL prog 130 = some 56:=by kernel_rfl
theorem Tryz.vt133:vt prog 133 = some (some 4):=by kernel_rfl
theorem Tryz.vfield133x0:Qe prog 133 0 = some (3,0,1):=by kernel_rfl
theorem Tryz.vfield133x1:Qe prog 133 1 = some (3,1,1):=by kernel_rfl
theorem Tryz.vfield133x2:Qe prog 133 2 = some (3,2,1):=by kernel_rfl
theorem Tryz.vfield133x3:Qe prog 133 3 = some (9,3,1):=by kernel_rfl
theorem Tryz.vplaces133:Qx prog 133 = some fun j=>([(0,1),(1,1),(2,1),(3,1)]:List (Nat × Nat))[j]?:=by kernel_rfl
theorem Tryz.vzero133:QK prog 133 = some [.pv (.lit (.int .i64 0)),.pv (.lit (.int .i64 0)),.pv (.lit (.int .i64 0)),.pv (.str [])]:=by kernel_rfl
theorem Tryz.leaves133:QaJ prog 8 133 = some [(0,1),(1,1),(2,1),(3,2)]:=by kernel_rfl
theorem Tryz.eqg133:prog.eqGuardType prog.depth 133 = false:=by kernel_rfl
theorem Tryz.vt135:vt prog 135 = some (some 9):=by kernel_rfl
theorem Tryz.vfield135x0:Qe prog 135 0 = some (3,0,1):=by kernel_rfl
theorem Tryz.vfield135x1:Qe prog 135 1 = some (3,1,1):=by kernel_rfl
theorem Tryz.vfield135x2:Qe prog 135 2 = some (3,2,1):=by kernel_rfl
theorem Tryz.vfield135x3:Qe prog 135 3 = some (3,3,1):=by kernel_rfl
theorem Tryz.vfield135x4:Qe prog 135 4 = some (3,4,1):=by kernel_rfl
theorem Tryz.vfield135x5:Qe prog 135 5 = some (133,5,4):=by kernel_rfl
theorem Tryz.vplaces135:Qx prog 135 = some fun j=>([(0,1),(1,1),(2,1),(3,1),(4,1),(5,4)]:List (Nat × Nat))[j]?:=by kernel_rfl
theorem Tryz.vzero135:QK prog 135 = some [.pv (.lit (.int .i64 0)),.pv (.lit (.int .i64 0)),.pv (.lit (.int .i64 0)),.pv (.lit (.int .i64 0)),.pv (.lit (.int .i64 0)),.pv (.lit (.int .i64 0)),.pv (.lit (.int .i64 0)),.pv (.lit (.int .i64 0)),.pv (.str [])]:=by kernel_rfl
theorem Tryz.bytes135:QaL prog 135 = some 80:=by kernel_rfl
theorem Tryz.vfield139x0:Qe prog 139 0 = some (3,0,1):=by kernel_rfl
theorem Tryz.vfield139x1:Qe prog 139 1 = some (4,1,1):=by kernel_rfl
theorem Tryz.vfield139x2:Qe prog 139 2 = some (4,2,1):=by kernel_rfl
theorem Tryz.vfield139x3:Qe prog 139 3 = some (4,3,1):=by kernel_rfl
theorem Tryz.vfield139x4:Qe prog 139 4 = some (30,4,1):=by kernel_rfl
theorem Tryz.vplaces139:Qx prog 139 = some fun j=>([(0,1),(1,1),(2,1),(3,1),(4,1)]:List (Nat × Nat))[j]?:=by kernel_rfl
theorem Tryz.vzero139:QK prog 139 = some [.pv (.lit (.int .i64 0)),.pv (.lit (.bool false)),.pv (.lit (.bool false)),.pv (.lit (.bool false)),.pv (.slc [])]:=by kernel_rfl
theorem Tryz.vt159:vt prog 159 = some none:=by kernel_rfl
theorem Tryz.vt161:vt prog 161 = some (some 7):=by kernel_rfl
theorem Tryz.vfield161x0:Qe prog 161 0 = some (4,0,1):=by kernel_rfl
theorem Tryz.vfield161x1:Qe prog 161 1 = some (4,1,1):=by kernel_rfl
theorem Tryz.vfield161x2:Qe prog 161 2 = some (4,2,1):=by kernel_rfl
theorem Tryz.vfield161x3:Qe prog 161 3 = some (4,3,1):=by kernel_rfl
theorem Tryz.vfield161x4:Qe prog 161 4 = some (4,4,1):=by kernel_rfl
theorem Tryz.vfield161x5:Qe prog 161 5 = some (94,5,1):=by kernel_rfl
theorem Tryz.vfield161x6:Qe prog 161 6 = some (159,6,1):=by kernel_rfl
theorem Tryz.vplaces161:Qx prog 161 = some fun j=>([(0,1),(1,1),(2,1),(3,1),(4,1),(5,1),(6,1)]:List (Nat × Nat))[j]?:=by kernel_rfl
theorem Tryz.vzero161:QK prog 161 = some [.pv (.lit (.bool false)),.pv (.lit (.bool false)),.pv (.lit (.bool false)),.pv (.lit (.bool false)),.pv (.lit (.bool false)),.pv (.lit .nilFunc),.pv (.lit .nilFunc)]:=by kernel_rfl
theorem Tryz.vt162:vt prog 162 = some (some 63):=by kernel_rfl
theorem Tryz.velem162:QF prog 162 = some (some 9,161,7):=by kernel_rfl
theorem Tryz.vplaces162:Qx prog 162 = some fun j=>some (j * 7,7):=by kernel_rfl
theorem Tryz.vzero162:QK prog 162 = some [.pv (.lit (.bool false)),.pv (.lit (.bool false)),.pv (.lit (.bool false)),.pv (.lit (.bool false)),.pv (.lit (.bool false)),.pv (.lit .nilFunc),.pv (.lit .nilFunc),.pv (.lit (.bool false)),.pv (.lit (.bool false)),.pv (.lit (.bool false)),.pv (.lit (.bool false)),.pv (.lit (.bool false)),.pv (.lit .nilFunc),.pv (.lit .nilFunc),.pv (.lit (.bool false)),.pv (.lit (.bool false)),.pv (.lit (.bool false)),.pv (.lit (.bool false)),.pv (.lit (.bool false)),.pv (.lit .nilFunc),.pv (.lit .nilFunc),.pv (.lit (.bool false)),.pv (.lit (.bool false)),.pv (.lit (.bool false)),.pv (.lit (.bool false)),.pv (.lit (.bool false)),.pv (.lit .nilFunc),.pv (.lit .nilFunc),.pv (.lit (.bool false)),.pv (.lit (.bool false)),.pv (.lit (.bool false)),.pv (.lit (.bool false)),.pv (.lit (.bool false)),.pv (.lit .nilFunc),.pv (.lit .nilFunc),.pv (.lit (.bool false)),.pv (.lit (.bool false)),.pv (.lit (.bool false)),.pv (.lit (.bool false)),.pv (.lit (.bool false)),.pv (.lit .nilFunc),.pv (.lit .nilFunc),.pv (.lit (.bool false)),.pv (.lit (.bool false)),.pv (.lit (.bool false)),.pv (.lit (.bool false)),.pv (.lit (.bool false)),.pv (.lit .nilFunc),.pv (.lit .nilFunc),.pv (.lit (.bool false)),.pv (.lit (.bool false)),.pv (.lit (.bool false)),.pv (.lit (.bool false)),.pv (.lit (.bool false)),.pv (.lit .nilFunc),.pv (.lit .nilFunc),.pv (.lit (.bool false)),.pv (.lit (.bool false)),.pv (.lit (.bool false)),.pv (.lit (.bool false)),.pv (.lit (.bool false)),.pv (.lit .nilFunc),.pv (.lit .nilFunc)]:=by kernel_rfl
theorem Tryz.vt175:vt prog 175 = some (some 34):=by kernel_rfl
theorem Tryz.vfield175x0:Qe prog 175 0 = some (3,0,1):=by kernel_rfl
theorem Tryz.vfield175x1:Qe prog 175 1 = some (3,1,1):=by kernel_rfl
theorem Tryz.vfield175x2:Qe prog 175 2 = some (95,2,32):=by kernel_rfl
theorem Tryz.vplaces175:Qx prog 175 = some fun j=>([(0,1),(1,1),(2,32)]:List (Nat × Nat))[j]?:=by kernel_rfl
theorem Tryz.vzero175:QK prog 175 = some [.pv (.lit (.int .i64 0)),.pv (.lit (.int .i64 0)),.pv (.lit (.bool false)),.pv (.str []),.pv (.lit (.bool false)),.pv (.str []),.pv (.lit (.bool false)),.pv (.str []),.pv (.lit (.bool false)),.pv (.str []),.pv (.lit (.bool false)),.pv (.str []),.pv (.lit (.bool false)),.pv (.str []),.pv (.lit (.bool false)),.pv (.str []),.pv (.lit (.bool false)),.pv (.str []),.pv (.lit (.bool false)),.pv (.str []),.pv (.lit (.bool false)),.pv (.str []),.pv (.lit (.bool false)),.pv (.str []),.pv (.lit (.bool false)),.pv (.str []),.pv (.lit (.bool false)),.pv (.str []),.pv (.lit (.bool false)),.pv (.str []),.pv (.lit (.bool false)),.pv (.str []),.pv (.lit (.bool false)),.pv (.str [])]:=by kernel_rfl
theorem Tryz.vt179:vt prog 179 = some (some 37):=by kernel_rfl
theorem Tryz.vfield179x0:Qe prog 179 0 = some (175,0,34):=by kernel_rfl
theorem Tryz.vfield179x1:Qe prog 179 1 = some (4,34,1):=by kernel_rfl
theorem Tryz.vfield179x2:Qe prog 179 2 = some (3,35,1):=by kernel_rfl
theorem Tryz.vfield179x3:Qe prog 179 3 = some (4,36,1):=by kernel_rfl
theorem Tryz.vplaces179:Qx prog 179 = some fun j=>([(0,34),(34,1),(35,1),(36,1)]:List (Nat × Nat))[j]?:=by kernel_rfl
theorem Tryz.vzero179:QK prog 179 = some [.pv (.lit (.int .i64 0)),.pv (.lit (.int .i64 0)),.pv (.lit (.bool false)),.pv (.str []),.pv (.lit (.bool false)),.pv (.str []),.pv (.lit (.bool false)),.pv (.str []),.pv (.lit (.bool false)),.pv (.str []),.pv (.lit (.bool false)),.pv (.str []),.pv (.lit (.bool false)),.pv (.str []),.pv (.lit (.bool false)),.pv (.str []),.pv (.lit (.bool false)),.pv (.str []),.pv (.lit (.bool false)),.pv (.str []),.pv (.lit (.bool false)),.pv (.str []),.pv (.lit (.bool false)),.pv (.str []),.pv (.lit (.bool false)),.pv (.str []),.pv (.lit (.bool false)),.pv (.str []),.pv (.lit (.bool false)),.pv (.str []),.pv (.lit (.bool false)),.pv (.str []),.pv (.lit (.bool false)),.pv (.str []),.pv (.lit (.bool false)),.pv (.lit (.int .i64 0)),.pv (.lit (.bool false))]:=by kernel_rfl
theorem Tryz.bytes179:QaL prog 179 = some 424:=by kernel_rfl
theorem Tryz.vt187:vt prog 187 = some (some 3):=by kernel_rfl
theorem Tryz.vfield187x0:Qe prog 187 0 = some (3,0,1):=by kernel_rfl
theorem Tryz.vfield187x1:Qe prog 187 1 = some (3,1,1):=by kernel_rfl
theorem Tryz.vfield187x2:Qe prog 187 2 = some (3,2,1):=by kernel_rfl
theorem Tryz.vplaces187:Qx prog 187 = some fun j=>([(0,1),(1,1),(2,1)]:List (Nat × Nat))[j]?:=by kernel_rfl
theorem Tryz.vzero187:QK prog 187 = some [.pv (.lit (.int .i64 0)),.pv (.lit (.int .i64 0)),.pv (.lit (.int .i64 0))]:=by kernel_rfl
theorem Tryz.bytes187:QaL prog 187 = some 24:=by kernel_rfl
theorem Tryz.velem191:QF prog 191 = some (none,30,1):=by kernel_rfl
theorem Tryz.vkind191:Q6 prog 191 = .sl 30:=by kernel_rfl
theorem Tryz.vt207:vt prog 207 = some (some 5):=by kernel_rfl
theorem Tryz.vfield207x0:Qe prog 207 0 = some (3,0,1):=by kernel_rfl
theorem Tryz.vfield207x1:Qe prog 207 1 = some (3,1,1):=by kernel_rfl
theorem Tryz.vfield207x2:Qe prog 207 2 = some (39,2,1):=by kernel_rfl
theorem Tryz.vfield207x3:Qe prog 207 3 = some (43,3,1):=by kernel_rfl
theorem Tryz.vfield207x4:Qe prog 207 4 = some (42,4,1):=by kernel_rfl
theorem Tryz.vplaces207:Qx prog 207 = some fun j=>([(0,1),(1,1),(2,1),(3,1),(4,1)]:List (Nat × Nat))[j]?:=by kernel_rfl
theorem Tryz.vzero207:QK prog 207 = some [.pv (.lit (.int .i64 0)),.pv (.lit (.int .i64 0)),.pv (.slc []),.pv (.slc []),.pv (.slc [])]:=by kernel_rfl
theorem Tryz.vt215:vt prog 215 = some (some 6):=by kernel_rfl
theorem Tryz.vfield215x0:Qe prog 215 0 = some (3,0,1):=by kernel_rfl
theorem Tryz.vfield215x1:Qe prog 215 1 = some (3,1,1):=by kernel_rfl
theorem Tryz.vfield215x2:Qe prog 215 2 = some (3,2,1):=by kernel_rfl
theorem Tryz.vfield215x3:Qe prog 215 3 = some (3,3,1):=by kernel_rfl
theorem Tryz.vfield215x4:Qe prog 215 4 = some (64,4,1):=by kernel_rfl
theorem Tryz.vfield215x5:Qe prog 215 5 = some (64,5,1):=by kernel_rfl
theorem Tryz.vplaces215:Qx prog 215 = some fun j=>([(0,1),(1,1),(2,1),(3,1),(4,1),(5,1)]:List (Nat × Nat))[j]?:=by kernel_rfl
theorem Tryz.vzero215:QK prog 215 = some [.pv (.lit (.int .i64 0)),.pv (.lit (.int .i64 0)),.pv (.lit (.int .i64 0)),.pv (.lit (.int .i64 0)),.pv (.slc []),.pv (.slc [])]:=by kernel_rfl
theorem Tryz.bytes215:QaL prog 215 = some 80:=by kernel_rfl
theorem Tryz.vt219:vt prog 219 = some (some 4):=by kernel_rfl
theorem Tryz.vfield219x0:Qe prog 219 0 = some (3,0,1):=by kernel_rfl
theorem Tryz.vfield219x1:Qe prog 219 1 = some (102,1,2):=by kernel_rfl
theorem Tryz.vfield219x2:Qe prog 219 2 = some (3,3,1):=by kernel_rfl
theorem Tryz.vplaces219:Qx prog 219 = some fun j=>([(0,1),(1,2),(3,1)]:List (Nat × Nat))[j]?:=by kernel_rfl
theorem Tryz.vzero219:QK prog 219 = some [.pv (.lit (.int .i64 0)),.pv (.lit (.int .i64 0)),.pv (.lit (.int .i64 0)),.pv (.lit (.int .i64 0))]:=by kernel_rfl
theorem Tryz.bytes219:QaL prog 219 = some 32:=by kernel_rfl
theorem Tryz.leaves219:QaJ prog 8 219 = some [(0,1),(1,1),(2,1),(3,1)]:=by kernel_rfl
theorem Tryz.eqg219:prog.eqGuardType prog.depth 219 = false:=by kernel_rfl
theorem Tryz.vkind248:Q6 prog 248 = .int .u32:=by kernel_rfl
theorem Tryz.vzero253:QK prog 253 = some [.pv (.lit (.int .i64 0)),.pv (.lit (.int .i64 0)),.pv (.lit (.int .i64 0)),.pv (.lit (.int .i64 0)),.pv (.lit (.int .i64 0)),.pv (.lit (.int .u8 0))]:=by kernel_rfl
theorem Tryz.bytes253:QaL prog 253 = some 48:=by kernel_rfl
theorem Tryz.vt270:vt prog 270 = some (some 7):=by kernel_rfl
theorem Tryz.vfield270x0:Qe prog 270 0 = some (3,0,1):=by kernel_rfl
theorem Tryz.vfield270x1:Qe prog 270 1 = some (3,1,1):=by kernel_rfl
theorem Tryz.vfield270x2:Qe prog 270 2 = some (3,2,1):=by kernel_rfl
theorem Tryz.vfield270x3:Qe prog 270 3 = some (39,3,1):=by kernel_rfl
theorem Tryz.vfield270x4:Qe prog 270 4 = some (36,4,1):=by kernel_rfl
theorem Tryz.vfield270x5:Qe prog 270 5 = some (43,5,1):=by kernel_rfl
theorem Tryz.vfield270x6:Qe prog 270 6 = some (42,6,1):=by kernel_rfl
theorem Tryz.vplaces270:Qx prog 270 = some fun j=>([(0,1),(1,1),(2,1),(3,1),(4,1),(5,1),(6,1)]:List (Nat × Nat))[j]?:=by kernel_rfl
theorem Tryz.vzero270:QK prog 270 = some [.pv (.lit (.int .i64 0)),.pv (.lit (.int .i64 0)),.pv (.lit (.int .i64 0)),.pv (.slc []),.pv (.slc []),.pv (.slc []),.pv (.slc [])]:=by kernel_rfl
theorem Tryz.vt281:vt prog 281 = some (some 3):=by kernel_rfl
theorem Tryz.vfield281x0:Qe prog 281 0 = some (3,0,1):=by kernel_rfl
theorem Tryz.vfield281x1:Qe prog 281 1 = some (3,1,1):=by kernel_rfl
theorem Tryz.vfield281x2:Qe prog 281 2 = some (3,2,1):=by kernel_rfl
theorem Tryz.vzero281:QK prog 281 = some [.pv (.lit (.int .i64 0)),.pv (.lit (.int .i64 0)),.pv (.lit (.int .i64 0))]:=by kernel_rfl
theorem Tryz.bytes281:QaL prog 281 = some 24:=by kernel_rfl
theorem Tryz.vkind300:Q6 prog 300 = .int .u64:=by kernel_rfl
theorem Tryz.vkind301:Q6 prog 301 = .int .u64:=by kernel_rfl
theorem Tryz.vfield344x0:Qe prog 344 0 = some (9,0,1):=by kernel_rfl
theorem Tryz.vfield344x1:Qe prog 344 1 = some (3,1,1):=by kernel_rfl
theorem Tryz.vfield344x2:Qe prog 344 2 = some (54,2,1):=by kernel_rfl
theorem Tryz.vplaces344:Qx prog 344 = some fun j=>([(0,1),(1,1),(2,1)]:List (Nat × Nat))[j]?:=by kernel_rfl
theorem Tryz.vzero344:QK prog 344 = some [.pv (.str []),.pv (.lit (.int .i64 0)),.pv (.lit (.int .i64 0))]:=by kernel_rfl
theorem Tryz.vfield355x0:Qe prog 355 0 = some (9,0,1):=by kernel_rfl
theorem Tryz.vfield355x1:Qe prog 355 1 = some (3,1,1):=by kernel_rfl
theorem Tryz.vfield355x2:Qe prog 355 2 = some (4,2,1):=by kernel_rfl
theorem Tryz.vplaces355:Qx prog 355 = some fun j=>([(0,1),(1,1),(2,1)]:List (Nat × Nat))[j]?:=by kernel_rfl
theorem Tryz.vzero355:QK prog 355 = some [.pv (.str []),.pv (.lit (.int .i64 0)),.pv (.lit (.bool false))]:=by kernel_rfl
attribute [go_sem] Tryz.vt3 Tryz.vkind3 Tryz.vzero3 Tryz.bytes3 Tryz.vt4 Tryz.vkind4 Tryz.vt5 Tryz.vkind5 Tryz.vzero5 Tryz.bytes5 Tryz.vt9 Tryz.vkind9 Tryz.vzero9 Tryz.bytes9 Tryz.vt22 Tryz.velem22 Tryz.notInt22 Tryz.vkind22 Tryz.vt24 Tryz.vfield24x0 Tryz.vfield24x1 Tryz.vplaces24 Tryz.vzero24 Tryz.leaves24 Tryz.eqg24 Tryz.vt26 Tryz.vfield26x0 Tryz.vfield26x1 Tryz.vfield26x2 Tryz.vfield26x3 Tryz.vfield26x4 Tryz.vplaces26 Tryz.vzero26 Tryz.bytes26 Tryz.vt30 Tryz.velem30 Tryz.notInt30 Tryz.vkind30 Tryz.vzero30 Tryz.vt32 Tryz.vfield32x0 Tryz.vfield32x1 Tryz.vfield32x2 Tryz.vplaces32 Tryz.vzero32 Tryz.vt33 Tryz.velem33 Tryz.notInt33 Tryz.vkind33 Tryz.vt35 Tryz.vfield35x0 Tryz.vfield35x1 Tryz.vfield35x2 Tryz.vplaces35 Tryz.vzero35 Tryz.vt36 Tryz.velem36 Tryz.notInt36 Tryz.vkind36 Tryz.vt38 Tryz.vfield38x0 Tryz.vfield38x1 Tryz.vplaces38 Tryz.vzero38 Tryz.vt39 Tryz.velem39 Tryz.notInt39 Tryz.vkind39 Tryz.vt40 Tryz.velem40 Tryz.notInt40 Tryz.vkind40 Tryz.vt42 Tryz.vfield42x0 Tryz.vplaces42 Tryz.vzero42 Tryz.vt43 Tryz.velem43 Tryz.notInt43 Tryz.vkind43 Tryz.vt45 Tryz.vfield45x0 Tryz.vfield45x1 Tryz.vfield45x2 Tryz.vfield45x3 Tryz.vfield45x4 Tryz.vfield45x5 Tryz.vfield45x6 Tryz.vfield45x7 Tryz.vplaces45 Tryz.vzero45 Tryz.velem49 Tryz.vkind49 Tryz.vt50 Tryz.velem50 Tryz.vplaces50 Tryz.vzero50 Tryz.velem52 Tryz.vkind52 Tryz.velem53 Tryz.notInt53 Tryz.vkind53 Tryz.vt54 Tryz.vt61 Tryz.velem61 Tryz.notInt61 Tryz.vkind61 Tryz.vt64 Tryz.velem64 Tryz.notInt64 Tryz.vkind64 Tryz.vt71 Tryz.vfield71x0 Tryz.vfield71x1 Tryz.vfield71x2 Tryz.vfield71x3 Tryz.vplaces71 Tryz.vzero71 Tryz.leaves71 Tryz.eqg71 Tryz.vt73 Tryz.vfield73x0 Tryz.vfield73x1 Tryz.vfield73x2 Tryz.vfield73x3 Tryz.vfield73x4 Tryz.vfield73x5 Tryz.vfield73x6 Tryz.vfield73x7 Tryz.vplaces73 Tryz.vzero73 Tryz.bytes73 Tryz.leaves73 Tryz.eqg73 Tryz.vfield76x0 Tryz.vfield76x1 Tryz.vplaces76 Tryz.vzero76 Tryz.vt77 Tryz.velem77 Tryz.notInt77 Tryz.vkind77 Tryz.vt78 Tryz.velem78 Tryz.notInt78 Tryz.vkind78 Tryz.vt80 Tryz.vfield80x0 Tryz.vfield80x1 Tryz.vfield80x2 Tryz.vfield80x3 Tryz.vfield80x4 Tryz.vplaces80 Tryz.vzero80 Tryz.vt82 Tryz.vfield82x0 Tryz.vfield82x1 Tryz.vplaces82 Tryz.vzero82 Tryz.vt92 Tryz.vplaces92 Tryz.vzero92 Tryz.vt94 Tryz.vt95 Tryz.velem95 Tryz.vzero95 Tryz.bytes95 Tryz.leaves95 Tryz.eqg95 Tryz.vt102 Tryz.vfield102x0 Tryz.vfield102x1 Tryz.vplaces102 Tryz.vzero102 Tryz.leaves102 Tryz.eqg102 Tryz.vt104 Tryz.vfield104x0 Tryz.vfield104x1 Tryz.vplaces104 Tryz.vzero104 Tryz.velem107 Tryz.notInt107 Tryz.velem110 Tryz.notInt110 Tryz.vkind110 Tryz.vfield120x0 Tryz.vfield120x1 Tryz.vfield120x2 Tryz.vfield120x3 Tryz.vplaces120 Tryz.vfield128x0 Tryz.vfield128x1 Tryz.vfield128x2 Tryz.vfield128x3 Tryz.vplaces128 Tryz.vzero128 Tryz.vt130 Tryz.vfield130x0 Tryz.vfield130x1 Tryz.vfield130x2 Tryz.vfield130x3 Tryz.vfield130x4 Tryz.vplaces130 Tryz.vzero130 Tryz.bytes130 Tryz.vt133 Tryz.vfield133x0 Tryz.vfield133x1 Tryz.vfield133x2 Tryz.vfield133x3 Tryz.vplaces133 Tryz.vzero133 Tryz.leaves133 Tryz.eqg133 Tryz.vt135 Tryz.vfield135x0 Tryz.vfield135x1 Tryz.vfield135x2 Tryz.vfield135x3 Tryz.vfield135x4 Tryz.vfield135x5 Tryz.vplaces135 Tryz.vzero135 Tryz.bytes135 Tryz.vfield139x0 Tryz.vfield139x1 Tryz.vfield139x2 Tryz.vfield139x3 Tryz.vfield139x4 Tryz.vplaces139 Tryz.vzero139 Tryz.vt159 Tryz.vt161 Tryz.vfield161x0 Tryz.vfield161x1 Tryz.vfield161x2 Tryz.vfield161x3 Tryz.vfield161x4 Tryz.vfield161x5 Tryz.vfield161x6 Tryz.vplaces161 Tryz.vzero161 Tryz.vt162 Tryz.velem162 Tryz.vplaces162 Tryz.vzero162 Tryz.vt175 Tryz.vfield175x0 Tryz.vfield175x1 Tryz.vfield175x2 Tryz.vplaces175 Tryz.vzero175 Tryz.vt179 Tryz.vfield179x0 Tryz.vfield179x1 Tryz.vfield179x2 Tryz.vfield179x3 Tryz.vplaces179 Tryz.vzero179 Tryz.bytes179 Tryz.vt187 Tryz.vfield187x0 Tryz.vfield187x1 Tryz.vfield187x2 Tryz.vplaces187 Tryz.vzero187 Tryz.bytes187 Tryz.velem191 Tryz.vkind191 Tryz.vt207 Tryz.vfield207x0 Tryz.vfield207x1 Tryz.vfield207x2 Tryz.vfield207x3 Tryz.vfield207x4 Tryz.vplaces207 Tryz.vzero207 Tryz.vt215 Tryz.vfield215x0 Tryz.vfield215x1 Tryz.vfield215x2 Tryz.vfield215x3 Tryz.vfield215x4 Tryz.vfield215x5 Tryz.vplaces215 Tryz.vzero215 Tryz.bytes215 Tryz.vt219 Tryz.vfield219x0 Tryz.vfield219x1 Tryz.vfield219x2 Tryz.vplaces219 Tryz.vzero219 Tryz.bytes219 Tryz.leaves219 Tryz.eqg219 Tryz.vkind248 Tryz.vzero253 Tryz.bytes253 Tryz.vt270 Tryz.vfield270x0 Tryz.vfield270x1 Tryz.vfield270x2 Tryz.vfield270x3 Tryz.vfield270x4 Tryz.vfield270x5 Tryz.vfield270x6 Tryz.vplaces270 Tryz.vzero270 Tryz.vt281 Tryz.vfield281x0 Tryz.vfield281x1 Tryz.vfield281x2 Tryz.vzero281 Tryz.bytes281 Tryz.vkind300 Tryz.vkind301 Tryz.vfield344x0 Tryz.vfield344x1 Tryz.vfield344x2 Tryz.vplaces344 Tryz.vzero344 Tryz.vfield355x0 Tryz.vfield355x1 Tryz.vfield355x2 Tryz.vplaces355 Tryz.vzero355
end Go.Proofs
namespace Go.Proofs.YtdkdbodcffiiaaaGreat
open Go.V Go
open Tryz (prog)
def QyF (n:Int) (i:Nat):Int:=IntKind.u8.wrap ((IntKind.u64.wrap n).fdiv (2 ^ min (8 * (i:Int)).toNat 64))
def Ql9 (n:Int) (i:Nat):UInt8:=UInt8.ofNat (QyF n i).toNat
def Qio (x:Int):IntKind.u8.wrap x = x % 256:=by
 simp [IntKind.wrap,IntKind.signed,IntKind.bits]
def QyG (n:Int) (i:Nat):QyF n i = ((Ql9 n i).toNat:Int):=by
 unfold Ql9 QyF
 rw [Qio]
 generalize (IntKind.u64.wrap n).fdiv (2 ^ min (8 * (i:Int)).toNat 64) = y
 simp only [UInt8.toNat_ofNat']
 omega
def Qay (s:List UInt8) (n:Int) (k:Nat):List UInt8:=s ++ (Jv k).map (Ql9 n)
def Qr (s:List UInt8) (n:Int) (k:Nat):(Qay s n k).length = s.length + k:=by simp [Qay]
def Qtx (s:List UInt8) (n:Int) (k:Nat):Qay s n (k + 1) = Qay s n k ++ [Ql9 n k]:=by simp [Qay,List.range_succ]
theorem QHq:bts prog 22 9 = true:=by kernel_rfl
def Qcl (s:List UInt8) (hs:s.length<=1000000000) (n:Int) (k:Nat) (h1:1<=k) (h8:k<=8):VCalls prog 161 [.pv (.str s),.int .i64 n,.int .i64 k] [] (Ret (.pv (.str (Qay s n k)))):=by
 refine dd Tryz.func161 ?_
 simp (config:={ maxSteps:=2000000 }) (implicitDefEqProofs:=false) (disch:=first | omega | assumption | (simp only []; done) | fail) only [go_sem,Jr,Jc,Js,Jd,Tryz.f161]
 refine Qg (fun i:{i:Nat // i<=k}=>⟨32,0,[(7,.int .i64 i.1),(2,.int .i64 k),(0,.pv (.str (Qay s n i.1))),(1,.int .i64 n)],[]⟩) (fun i=>k - i.1) ⟨0,by omega⟩ (.inl (by simpa only [Qay,List.range_zero,List.map_nil,JU] using (by refine ⟨rfl,rfl,by simp,?_,?_,.inr ⟨?_,?_⟩⟩<;>(repeat' apply Ja)<;>first | rfl | trivial | (intro _; first | rfl | apply QqG)))) ?_
 intro i
 obtain ⟨i,hi⟩:=i
 dsimp only
 simp (config:={ maxSteps:=2000000 }) (implicitDefEqProofs:=false) (disch:=first | omega | assumption | (simp only []; done) | fail) only [go_sem,Jc,Jd]
 refine QaB (fun hc=>?_) (fun hc=>?_)<;>simp only [decide_eq_true_eq,decide_eq_false_iff_not,Jf,Jb,Jo,Jm,Jg,Je,beq_iff_eq,beq_eq_false_iff_ne,bne_iff_ne,bne_eq_false_iff_eq,ne_eq] at hc
 ·have hw8:IntKind.u64.wrap (8 * (i:Int)) = 8 * (i:Int):=by simp [IntKind.wrap,IntKind.signed,IntKind.bits]; omega
  have hl:(Qay s n i).length + 1<=9223372036854775807:=by rw [Qr]; omega
  simp (config:={ maxSteps:=2000000 }) (implicitDefEqProofs:=false) (disch:=first | omega | assumption | (simp only []; done) | fail) only [go_sem,V.splice,V.mk,↓reduceIte,Jz,JO,Jc,JA,Jd,hw8,Qe0 QHq,Qwa]
  refine ⟨⟨i + 1,by omega⟩,by show k - (i + 1) < k - i; omega,?_⟩
  rw [Qtx]
  refine QEL (keep:=[]) rfl rfl rfl (by decide) trivial ?_
  refine ⟨⟨rfl,rfl⟩,⟨rfl,rfl⟩,⟨rfl,rfl⟩,⟨rfl,rfl⟩,trivial⟩
 ·simp (config:={ maxSteps:=2000000 }) (implicitDefEqProofs:=false) (disch:=first | omega | assumption | (simp only []; done) | fail) only [go_sem,↓reduceIte,Jz,Jc,JA,Jd]
  have hik:i = k:=by omega
  rw [hik]
def Qmq (s:List UInt8) (a:Nat):Nat->Int
 | 0=>0
 | i + 1=>bits BinOp.or .u64 (Qmq s a i) (IntKind.u64.wrap (IntKind.u64.wrap (s.getD (a + i) 0).toNat * 2 ^ min (8 * (i:Int)).toNat 64))
def QAz (s:List UInt8) (a i:Nat) (h:a + i < s.length):s[((a:Int) + (i:Int)).toNat]? = some (s.getD (a + i) 0):=by
 have e:((a:Int) + (i:Int)).toNat = a + i:=by omega
 rw [e,Jh,Jx h]; rfl
def QdK (s:List UInt8) (a k:Int) (h:1<=k/\k<=8) (h0:0<=a) (hh:¬ a + k<=s.length):VCalls prog 223 [.pv (.str s),.int .i64 a,.int .i64 k] [] (Ret (.tup [.int .i64 0,.int .i64 5])):=by
 refine dd Tryz.func223 ?_
 have h1:¬ k < 1:=by omega
 have h2:¬ 8 < k:=by omega
 have h3:¬ a < 0:=by omega
 by_cases h4:(s.length:Int) < a
 ·simp (config:={ maxSteps:=2000000 }) (implicitDefEqProofs:=false) (disch:=first | omega | assumption | (simp only []; done) | fail) only [go_sem,Jr,Jc,Js,Jd,Tryz.f223,h1,h2,h3,h4]
 ·have h5:(s.length:Int) - a < k:=by omega
  simp (config:={ maxSteps:=2000000 }) (implicitDefEqProofs:=false) (disch:=first | omega | assumption | (simp only []; done) | fail) only [go_sem,Jr,Jc,Js,Jd,Tryz.f223,h1,h2,h3,h4,h5]
def QiE (s:List UInt8) (hs:s.length<=1000000000) (a k:Nat) (h:1<=k/\k<=8) (hh:a + k<=s.length):VCalls prog 223 [.pv (.str s),.int .i64 a,.int .i64 k] [] (Ret (.tup [.int .i64 (IntKind.i64.wrap (Qmq s a k)),.int .i64 0])):=by
 refine dd Tryz.func223 ?_
 have h1:¬ (k:Int) < 1:=by omega
 have h2:¬ 8 < (k:Int):=by omega
 have h3:¬ (a:Int) < 0:=by omega
 have h4:¬ (s.length:Int) < a:=by omega
 have h5:¬ (s.length:Int) - a < k:=by omega
 simp (config:={ maxSteps:=2000000 }) (implicitDefEqProofs:=false) (disch:=first | omega | assumption | (simp only []; done) | fail) only [go_sem,Jr,Jc,Js,Jd,Tryz.f223,h1,h2,h3,h4,h5]
 refine QrJ (fun i:{i:Nat // i<=k}=>⟨51,0,[(9,.int .i64 i.1),(2,.int .i64 k),(8,.int .u64 (Qmq s a i.1)),(0,.pv (.str s)),(1,.int .i64 a)],[]⟩) (fun i=>k - i.1) ⟨0,by omega⟩ (by refine ⟨rfl,rfl,by simp,?_,?_,.inl rfl⟩<;>(repeat' apply Ja)<;>first | rfl | trivial) ?_
 intro i
 obtain ⟨i,hi⟩:=i
 dsimp only
 simp (config:={ maxSteps:=2000000 }) (implicitDefEqProofs:=false) (disch:=first | omega | assumption | (simp only []; done) | fail) only [go_sem,Jc,Jd]
 refine QaB (fun hc=>?_) (fun hc=>?_)<;>simp only [decide_eq_true_eq,decide_eq_false_iff_not,Jf,Jb,Jo,Jm,Jg,Je,beq_iff_eq,beq_eq_false_iff_ne,bne_iff_ne,bne_eq_false_iff_eq,ne_eq] at hc
 ·have hg:s[((a:Int) + (i:Int)).toNat]? = some (s.getD (a + i) 0):=QAz s a i (by omega)
  have h0:0<=(a:Int) + (i:Int):=by omega
  have hw8:IntKind.u64.wrap (8 * (i:Int)) = 8 * (i:Int):=by simp [IntKind.wrap,IntKind.signed,IntKind.bits]; omega
  simp (config:={ maxSteps:=2000000 }) (implicitDefEqProofs:=false) (disch:=first | omega | assumption | (simp only []; done) | fail) only [go_sem,Jc,Jd,hg,hw8]
  exact ⟨⟨i + 1,by omega⟩,by show k - (i + 1) < k - i; omega,(by refine ⟨rfl,rfl,by simp,?_,?_,.inl rfl⟩<;>(repeat' apply Ja)<;>first | rfl | trivial)⟩
 ·simp (config:={ maxSteps:=2000000 }) (implicitDefEqProofs:=false) (disch:=first | omega | assumption | (simp only []; done) | fail) only [go_sem,↓reduceIte,Jz,Jc,JA,Jd]
  have hik:i = k:=by omega
  rw [hik]
def u64N (n:Int):Nat:=(n % 18446744073709551616).toNat
def QAr (n:Int):u64N n < 2 ^ 64:=by unfold u64N; omega
def Qip (n:Int):IntKind.u64.wrap n = (u64N n:Int):=by
 unfold u64N
 simp [IntKind.wrap,IntKind.signed,IntKind.bits]; omega
def QjM (i:Nat) (h:i < 8):min (8 * (i:Int)).toNat 64 = 8 * i:=by
 have e:(8 * (i:Int)).toNat = 8 * i:=by omega
 rw [e]; omega
def Qvt (n:Int) (i:Nat) (h:i < 8):(Ql9 n i).toNat = u64N n / 2 ^ (8 * i) % 256:=by
 have hx:=QyG n i
 unfold QyF at hx
 rw [Qio,Qip,QjM i h] at hx
 have e:((u64N n:Int).fdiv (2 ^ (8 * i))) = ((u64N n / 2 ^ (8 * i):Nat):Int):=by
  have e2:((2:Int) ^ (8 * i)) = ((2 ^ (8 * i):Nat):Int):=by rw [JZ]; rfl
  rw [e2,Int.fdiv_eq_ediv_of_nonneg _ (Int.natCast_nonneg _)]
  rfl
 rw [e] at hx
 generalize u64N n / 2 ^ (8 * i) = q at hx |-
 omega
def Qzg (x y:Nat) (hx:x < 2 ^ 64) (hy:y < 2 ^ 64):bits .or .u64 (x:Int) (y:Int) = ((x ||| y:Nat):Int):=by
 have e:bits .or .u64 (x:Int) (y:Int) = IntKind.u64.wrap ((BitVec.ofInt 64 (x:Int) ||| BitVec.ofInt 64 (y:Int)).toNat:Int):=rfl
 rw [e,BitVec.toNat_or]
 have h1:(BitVec.ofInt 64 (x:Int)).toNat = x:=by simp; omega
 have h2:(BitVec.ofInt 64 (y:Int)).toNat = y:=by simp; omega
 rw [h1,h2,Qip]
 have h3:x ||| y < 2 ^ 64:=Nat.or_lt_two_pow hx hy
 unfold u64N; omega
def Qwq (N i:Nat):(N % 2 ^ (8 * i)) ||| (N / 2 ^ (8 * i) % 256 * 2 ^ (8 * i)) = N % 2 ^ (8 * (i + 1)):=by
 have h:N % 2 ^ (8 * i) < 2 ^ (8 * i):=Km _ (Nat.two_pow_pos _)
 rw [Kr,Kp,<- JV h]
 have e:2 ^ (8 * (i + 1)) = 2 ^ (8 * i) * 256:=by rw [Ks,Kt]
 rw [e,Nat.mod_mul]; omega
def Qxo (s t:List UInt8) (n:Int) (k i:Nat) (hi:i < k):(Qay s n k ++ t).getD (s.length + i) 0 = Ql9 n i:=by
 rw [Jh,Qay,JB,List.getElem?_append_right (by omega),List.getElem?_append_left (by simp; omega)]
 simp [hi]
def QnP (s t:List UInt8) (n:Int) (k:Nat) (hk:k<=8):∀ i,i<=k->Qmq (Qay s n k ++ t) s.length i = ((u64N n % 2 ^ (8 * i):Nat):Int)
 | 0,_=>by simp [Qmq,Nat.mod_one]
 | i + 1,hi=>by
   have ih:=QnP s t n k hk i (by omega)
   have h8:i < 8:=by omega
   unfold Qmq
   rw [ih,Qxo s t n k i (by omega),Qvt n i h8,QjM i h8]
   have hb:u64N n / 2 ^ (8 * i) % 256 < 256:=Km _ (by omega)
   have hw:IntKind.u64.wrap ((u64N n / 2 ^ (8 * i) % 256:Nat):Int) = ((u64N n / 2 ^ (8 * i) % 256:Nat):Int):=by rw [Qip]; unfold u64N at *; omega
   rw [hw]
   have hp:(2:Nat) ^ (8 * i)<=2 ^ 56:=JG (by omega) (by omega)
   have hlt:u64N n / 2 ^ (8 * i) % 256 * 2 ^ (8 * i) < 2 ^ 64:=by
    have:u64N n / 2 ^ (8 * i) % 256 * 2 ^ (8 * i)<=255 * 2 ^ 56:=Kk (by omega) hp
    omega
   have e2:((u64N n / 2 ^ (8 * i) % 256:Nat):Int) * 2 ^ (8 * i) = ((u64N n / 2 ^ (8 * i) % 256 * 2 ^ (8 * i):Nat):Int):=by
    rw [Kf,JZ]; rfl
   rw [e2]
   have hw2:IntKind.u64.wrap ((u64N n / 2 ^ (8 * i) % 256 * 2 ^ (8 * i):Nat):Int) = ((u64N n / 2 ^ (8 * i) % 256 * 2 ^ (8 * i):Nat):Int):=by
    generalize u64N n / 2 ^ (8 * i) % 256 * 2 ^ (8 * i) = z at hlt
    rw [Qip]; unfold u64N; omega
   rw [hw2,Qzg _ _ (Nat.lt_of_le_of_lt (Nat.mod_le _ _) (QAr n)) hlt,Qwq]
def rnd (r:Int):Int:=if bits .and .u32 r 1 = 1 then bits .xor .u32 (r.fdiv 2) 2197175160 else r.fdiv 2
def QpK:Nat->Int->Int
 | 0,r=>r
 | n + 1,r=>rnd (QpK n r)
def QD6 (i:Nat):Int:=QpK 4 i
def QFS (i:Nat):List Int:=(Jv 16).map fun j=>if j < i then QD6 j else 0
def QFC (r:Int):Int:=bits .xor .u32 (r.fdiv (2 ^ min 4 32)) ((QFS 16).getD (bits .and .u32 r 15).toNat 0)
def QqM (r:Int) (b:UInt8):Int:=QFC (QFC (bits .xor .u32 r (IntKind.u32.wrap b.toNat)))
def QmQ (s:List UInt8):Int:=s.foldl QqM 4294967295
def QmP (s:List UInt8):Int:=bits .xor .u32 4294967295 (QmQ s)
def Qsf (s:List UInt8) (i:Nat) (h:i < s.length):QmQ (s.take (i + 1)) = QqM (QmQ (s.take i)) (s.getD i 0):=by
 rw [QmQ,Jt h,List.foldl_append]
 rw [Jh,Jx h]; rfl
def QFY (x:BitVec 32):rnd (x.toNat:Int) = ((rb x).toNat:Int):=by
 have h1:bits .and .u32 (x.toNat:Int) 1 = ((x &&& 1#32).toNat:Int):=QFc x 1#32
 have h2:(x.toNat:Int).fdiv 2 = ((x >>> 1).toNat:Int):=QDP x 1
 have h3:(x &&& 1#32).toNat = x.toNat % 2:=by rw [BitVec.toNat_and]; exact Nat.and_one_is_mod _
 have h4:x.getLsbD 0 = decide (x.toNat % 2 = 1):=by simp [BitVec.getLsbD,Nat.testBit_zero]
 unfold rnd rb
 rw [h1,h2,h3,h4]
 by_cases h:x.toNat % 2 = 1
 ·rw [if_pos (by omega),if_pos (by simpa using h)]
  exact Qrg _ polyB
 ·rw [if_neg (by omega),if_neg (by simpa using h)]; simp
def Qza (n:Nat) (x:BitVec 32):QpK n (x.toNat:Int) = ((rbN n x).toNat:Int):=by
 induction n with
 | zero=>rfl
 | succ n ih=>rw [QpK,ih,QFY]; rfl
def Qzo (x:BitVec 32):QFC (x.toNat:Int) = ((rbN 4 x).toNat:Int):=by
 have h1:bits .and .u32 (x.toNat:Int) 15 = ((x &&& 15#32).toNat:Int):=QFc x 15#32
 have h15:(x &&& 15#32).toNat < 16:=by rw [BitVec.toNat_and]; exact Nat.lt_succ_of_le Nat.and_le_right
 have h2:(QFS 16).getD (x &&& 15#32).toNat 0 = ((rbN 4 (x &&& 15#32)).toNat:Int):=by
  rw [<- Qza]
  simp only [QFS,Jh,Kc,List.getElem?_range h15,Option.map_some,Option.getD_some,QD6]
  rw [if_pos h15]
 have h3:(x.toNat:Int).fdiv (2 ^ min 4 32) = ((x >>> 4).toNat:Int):=QDP x 4
 have e1:x = (x &&& 15#32) ^^^ ((x >>> 4) <<< 4):=by
  apply BitVec.eq_of_getLsbD_eq
  intro i hi
  rw [BitVec.getLsbD_xor,BitVec.getLsbD_and,BitVec.getLsbD_shiftLeft,BitVec.getLsbD_ushiftRight]
  by_cases h:i < 4
  ·have h15:(15#32).getLsbD i = true:=by
    rcases i with _ | _ | _ | _ | i<;>first | rfl | omega
   simp [h15,h]
  ·have h15:(15#32).getLsbD i = false:=by
    have:(15#32).getLsbD i = (15:Nat).testBit i:=by simp [BitVec.getLsbD]
    rw [this]; apply Nat.testBit_lt_two_pow
    exact JI (show 15 < 2 ^ 4 by omega) (JG (by omega) (by omega))
   rw [h15]; simp [h,hi,show 4 + (i - 4) = i by omega]
 have e2:rbN 4 x = rbN 4 (x &&& 15#32) ^^^ (x >>> 4):=by
  have hs:rbN 4 ((x >>> 4) <<< 4) = x >>> 4:=QAD _ _ (fun i hi=>by rw [BitVec.getLsbD_ushiftRight]; exact BitVec.getLsbD_of_ge _ _ (by omega)) (by omega)
  conv=>lhs; rw [e1]
  rw [QBl,hs]
 unfold QFC
 rw [h1,h3,Jp,h2,Qrg,e2,BitVec.xor_comm]
def Qvu (x:BitVec 32) (b:UInt8):QqM (x.toNat:Int) b = ((cb x b).toNat:Int):=by
 unfold QqM
 rw [Qvx,Qrg,Qzo,Qzo,<- QBn]; rfl
def Qzt:∀ (s:List UInt8) (x:BitVec 32),s.foldl QqM (x.toNat:Int) = ((s.foldl cb x).toNat:Int)
 | [],_=>rfl
 | b :: s,x=>by rw [Kg,Qvu,Qzt s,Kg]
def Qy4 (s:List UInt8):QmQ s = ((s.foldl cb 4294967295#32).toNat:Int):=Qzt s 4294967295#32
def QDJ (s:List UInt8):QmP s = ((4294967295#32 ^^^ s.foldl cb 4294967295#32).toNat:Int):=by
 rw [QmP,Qy4]; exact Qrg 4294967295#32 _
def QmO (s:List UInt8):0<=QmP s/\QmP s < 4294967296:=by
 rw [QDJ]
 have:=(4294967295#32 ^^^ s.foldl cb 4294967295#32).isLt
 omega
def QAT (r:Int) (b:UInt8):Int:=QpK 8 (bits .xor .u32 r (IntKind.u32.wrap b.toNat))
def QwC (x:BitVec 32) (b:UInt8):QAT (x.toNat:Int) b = QqM (x.toNat:Int) b:=by
 rw [Qvu,QAT,Qvx,Qrg,Qza]; rfl
def Qpr (s:List UInt8) (i:Nat) (h:i < s.length):QmQ (s.take (i + 1)) = QAT (QmQ (s.take i)) (s.getD i 0):=by
 rw [Qsf s i h,Qy4 (s.take i),QwC]
def Qn5 (s:List UInt8) (hs:s.length<=100000000):VCalls prog 163 [.pv (.str s)] [] (Ret (.int .u32 (QmP s))):=by
 refine dd Tryz.func163 ?_
 simp (config:={ maxSteps:=2000000 }) (implicitDefEqProofs:=false) (disch:=first | omega | assumption | (simp only []; done) | fail) only [go_sem,Tryz.f163]
 refine QrJ (fun i:{i:Nat // i<=s.length}=>⟨32,0,[(4,.int .i64 i.1),(3,.int .u32 (QmQ (s.take i.1))),(0,.pv (.str s))],[]⟩) (fun i=>s.length - i.1) ⟨0,by omega⟩ (by refine ⟨rfl,rfl,by simp,?_,?_,.inl rfl⟩<;>(repeat' apply Ja)<;>first | rfl | trivial) ?_
 intro i
 obtain ⟨i,hi⟩:=i
 dsimp only
 simp (config:={ maxSteps:=2000000 }) (implicitDefEqProofs:=false) (disch:=first | omega | assumption | (simp only []; done) | fail) only [go_sem,Jc,Jd]
 refine QaB (fun hc=>?_) (fun hc=>?_)<;>simp only [decide_eq_true_eq,decide_eq_false_iff_not,Jf,Jb,Jo,Jm,Jg,Je,beq_iff_eq,beq_eq_false_iff_ne,bne_iff_ne,bne_eq_false_iff_eq,ne_eq] at hc
 ·have hlt:i < s.length:=by omega
  have hg:s[i]? = some (s.getD i 0):=by rw [Jh,Jx hlt]; rfl
  simp (config:={ maxSteps:=2000000 }) (implicitDefEqProofs:=false) (disch:=first | omega | assumption | (simp only []; done) | fail) only [go_sem,Jc,Jd,hg]
  refine QrJ (fun j:{j:Nat // j<=8}=>⟨32,0,[(5,.int .i64 j.1),(4,.int .i64 i),(3,.int .u32 (QpK j.1 (bits .xor .u32 (QmQ (s.take i)) (IntKind.u32.wrap (s.getD i 0).toNat)))),(0,.pv (.str s))],[]⟩) (fun j=>8 - j.1) ⟨0,by omega⟩ (by refine ⟨rfl,rfl,by simp,?_,?_,.inl rfl⟩<;>(repeat' apply Ja)<;>first | rfl | trivial) ?_
  intro j
  obtain ⟨j,hj⟩:=j
  dsimp only
  simp (config:={ maxSteps:=2000000 }) (implicitDefEqProofs:=false) (disch:=first | omega | assumption | (simp only []; done) | fail) only [go_sem]
  refine QaB (fun hcj=>?_) (fun hcj=>?_)<;>simp only [decide_eq_true_eq,decide_eq_false_iff_not,Jf,Jb,Jo,Jm,Jg,Je,beq_iff_eq,beq_eq_false_iff_ne,bne_iff_ne,bne_eq_false_iff_eq,ne_eq] at hcj
  ·simp (config:={ maxSteps:=2000000 }) (implicitDefEqProofs:=false) (disch:=first | omega | assumption | (simp only []; done) | fail) only [go_sem,Jc,Jd]
   refine QaB (fun hb=>?_) (fun hb=>?_)<;>simp only [decide_eq_true_eq,decide_eq_false_iff_not,Jf,Jb,Jo,Jm,Jg,Je,beq_iff_eq,beq_eq_false_iff_ne,bne_iff_ne,bne_eq_false_iff_eq,ne_eq] at hb
   ·simp (config:={ maxSteps:=2000000 }) (implicitDefEqProofs:=false) (disch:=first | omega | assumption | (simp only []; done) | fail) only [go_sem,Jc,Kh,Jd]
    refine ⟨⟨j + 1,by omega⟩,by show 8 - (j + 1) < 8 - j; omega,?_⟩
    have e:QpK (j + 1) (bits .xor .u32 (QmQ (s.take i)) (IntKind.u32.wrap (s.getD i 0).toNat)) = bits .xor .u32 ((QpK j (bits .xor .u32 (QmQ (s.take i)) (IntKind.u32.wrap (s.getD i 0).toNat))).fdiv 2) 2197175160:=by rw [QpK,rnd,if_pos hb]
    rw [e]
    exact (by refine ⟨rfl,rfl,by simp,?_,?_,.inl rfl⟩<;>(repeat' apply Ja)<;>first | rfl | trivial)
   ·simp (config:={ maxSteps:=2000000 }) (implicitDefEqProofs:=false) (disch:=first | omega | assumption | (simp only []; done) | fail) only [go_sem,Jc,Kh,Jd]
    refine ⟨⟨j + 1,by omega⟩,by show 8 - (j + 1) < 8 - j; omega,?_⟩
    have e:QpK (j + 1) (bits .xor .u32 (QmQ (s.take i)) (IntKind.u32.wrap (s.getD i 0).toNat)) = (QpK j (bits .xor .u32 (QmQ (s.take i)) (IntKind.u32.wrap (s.getD i 0).toNat))).fdiv 2:=by rw [QpK,rnd,if_neg hb]
    rw [e]
    exact (by refine ⟨rfl,rfl,by simp,?_,?_,.inl rfl⟩<;>(repeat' apply Ja)<;>first | rfl | trivial)
  ·have hj8:j = 8:=by omega
   subst hj8
   simp (config:={ maxSteps:=2000000 }) (implicitDefEqProofs:=false) (disch:=first | omega | assumption | (simp only []; done) | fail) only [go_sem,↓reduceIte,Jc,Jd]
   refine ⟨⟨i + 1,hlt⟩,by show s.length - (i + 1) < s.length - i; omega,?_⟩
   have e:QmQ (s.take (i + 1)) = QpK 8 (bits .xor .u32 (QmQ (s.take i)) (IntKind.u32.wrap (s.getD i 0).toNat)):=Qpr s i hlt
   rw [e]
   exact (by refine ⟨rfl,rfl,by simp,?_,?_,.inl rfl⟩<;>(repeat' apply Ja)<;>first | rfl | trivial)
 ·simp (config:={ maxSteps:=2000000 }) (implicitDefEqProofs:=false) (disch:=first | omega | assumption | (simp only []; done) | fail) only [go_sem,↓reduceIte,Jz,Jc,JA,Jd]
  rw [Ji (by omega)]
  rfl
def frm (s:List UInt8):List UInt8:=if s.length<=8392 then Qay (Qay [] s.length 4 ++ s) (QmP (Qay [] s.length 4 ++ s)) 4 else []
def Qoc (s:List UInt8) (hs:s.length<=90000000):VCalls prog 220 [.pv (.str s)] [] (Ret (.pv (.str (frm s)))):=by
 refine dd Tryz.func220 ?_
 by_cases h:s.length<=8392
 ·have h1:¬ 8392 < (s.length:Int):=by omega
  have hl:=Qr [] s.length 4
  simp only [J0,Kd] at hl
  have hl2:(Qay [] s.length 4 ++ s).length<=10000:=by rw [Jq,hl]; omega
  simp (config:={ maxSteps:=2000000 }) (implicitDefEqProofs:=false) (disch:=first | omega | assumption | (simp only []; done) | fail) only [go_sem,Jc,Jd,Tryz.f220,h1]
  refine Qag (Qcl [] (by simp) s.length 4 (by omega) (by omega)) rfl ?_
  simp (config:={ maxSteps:=2000000 }) (implicitDefEqProofs:=false) (disch:=first | omega | assumption | (simp only []; done) | fail) only [go_sem,Jc,Jd]
  refine Qag (Qn5 _ (by omega)) rfl ?_
  have hx:=QmO (Qay [] s.length 4 ++ s)
  simp (config:={ maxSteps:=2000000 }) (implicitDefEqProofs:=false) (disch:=first | omega | assumption | (simp only []; done) | fail) only [go_sem,Jz,Jc,JA,Jd]
  refine Qag (Qcl (Qay [] s.length 4 ++ s) (by omega) _ 4 (by omega) (by omega)) rfl ?_
  simp (config:={ maxSteps:=2000000 }) (implicitDefEqProofs:=false) (disch:=first | omega | assumption | (simp only []; done) | fail) only [go_sem,↓reduceIte,frm,h]
 ·have h1:8392 < (s.length:Int):=by omega
  simp (config:={ maxSteps:=2000000 }) (implicitDefEqProofs:=false) (disch:=first | omega | assumption | (simp only []; done) | fail) only [go_sem,↓reduceIte,Jc,Jd,Tryz.f220,h1,frm,h]
def leN (s:List UInt8) (a:Nat):Nat->Nat
 | 0=>0
 | i + 1=>leN s a i + (s.getD (a + i) 0).toNat * 2 ^ (8 * i)
def QlG (s:List UInt8) (a:Nat):∀ i,leN s a i < 2 ^ (8 * i)
 | 0=>by simp [leN]
 | i + 1=>by
   have ih:=QlG s a i
   have hb:=(s.getD (a + i) 0).toNat_lt
   rw [leN,Ks,Kt]
   have:(s.getD (a + i) 0).toNat * 2 ^ (8 * i)<=255 * 2 ^ (8 * i):=Nat.mul_le_mul_right _ (by omega)
   omega
def Qe4 (s:List UInt8) (a:Nat):∀ i,i<=8->Qmq s a i = (leN s a i:Int)
 | 0,_=>rfl
 | i + 1,hi=>by
   have ih:=Qe4 s a i (by omega)
   have hlt:=QlG s a i
   have hb:=(s.getD (a + i) 0).toNat_lt
   unfold Qmq
   rw [ih,QjM i (by omega)]
   have hw:IntKind.u64.wrap ((s.getD (a + i) 0).toNat:Int) = ((s.getD (a + i) 0).toNat:Int):=by rw [Qip]; unfold u64N; omega
   have hp:(2:Nat) ^ (8 * i)<=2 ^ 56:=JG (by omega) (by omega)
   have hm:(s.getD (a + i) 0).toNat * 2 ^ (8 * i)<=255 * 2 ^ 56:=Kk (by omega) hp
   have e2:((s.getD (a + i) 0).toNat:Int) * 2 ^ (8 * i) = (((s.getD (a + i) 0).toNat * 2 ^ (8 * i):Nat):Int):=by
    rw [Kf,JZ]; rfl
   rw [hw,e2]
   have hw2:IntKind.u64.wrap (((s.getD (a + i) 0).toNat * 2 ^ (8 * i):Nat):Int) = (((s.getD (a + i) 0).toNat * 2 ^ (8 * i):Nat):Int):=by
    generalize (s.getD (a + i) 0).toNat * 2 ^ (8 * i) = z at hm
    rw [Qip]; unfold u64N; omega
   have h64:leN s a i < 2 ^ 64:=JI hlt (JG (by omega) (by omega))
   rw [hw2,Qzg _ _ h64 (by omega),leN]
   congr 1
   rw [Kr,Kp _ (2 ^ (8 * i)),<- JV hlt,Nat.add_comm]
def n4 (s:List UInt8) (a:Nat):Nat:=leN s a 4
def QBE (s:List UInt8) (a:Nat):n4 s a < 4294967296:=QlG s a 4
def QzH (s:List UInt8) (a:Nat):IntKind.i64.wrap (Qmq s a 4) = (n4 s a:Int):=by
 rw [Qe4 s a 4 (by omega)]
 have:=QBE s a
 unfold n4 at this |-
 rw [IntKind.wrap_i64]; omega
def QD5 (s:List UInt8) (hs:s.length<=100000000) (a:Nat) (hh:a + 4<=s.length):VCalls prog 223 [.pv (.str s),.int .i64 a,.int .i64 4] [] (Ret (.tup [.int .i64 (n4 s a),.int .i64 0])):=by
 have h:=QiE s (by omega) a 4 (by omega) hh
 rwa [QzH] at h
section
structure Ce where
 set:Bool
 data:List UInt8
structure Ch where
 pg:Int
 sl:Int
 b:Ce
 a:Ce
structure E where
 lsn:Int
 kind:Int
 tx:Int
 ptx:Int
 ppg:Int
 ref:Int
 c:Ch
 blob:List UInt8
def Ce.d (x:Ce):List DV:=[.bool x.set,.pv (.str x.data)]
def Ch.d (x:Ch):List DV:=[.int .i64 x.pg,.int .i64 x.sl,.bool x.b.set,.pv (.str x.b.data),.bool x.a.set,.pv (.str x.a.data)]
def E.d (x:E):List DV:=[.int .i64 x.lsn,.int .i64 x.kind,.int .i64 x.tx,.int .i64 x.ptx,.int .i64 x.ppg,.int .i64 x.ref,.int .i64 x.c.pg,.int .i64 x.c.sl,.bool x.c.b.set,.pv (.str x.c.b.data),.bool x.c.a.set,.pv (.str x.c.a.data),.pv (.str x.blob)]
def Ce0:Ce:=⟨false,[]⟩
def Ch0:Ch:=⟨0,0,Ce0,Ce0⟩
def E0:E:=⟨0,0,0,0,0,0,Ch0,[]⟩
def Ce.okB (x:Ce):Bool:=decide (x.data.length<=12) && (x.set || x.data == [])
def Ch.okB (x:Ch):Bool:=decide (0<=x.pg) && decide (x.pg < 64) && decide (0<=x.sl) && decide (x.sl < 16) && x.b.okB && x.a.okB
def Ce.no (x:Ce):Bool:=!x.set && x.data == []
def Ch.no (x:Ch):Bool:=x.pg == 0 && x.sl == 0 && x.b.no && x.a.no
def bef (n l:Int):Bool:=decide (0<=n) && decide (n < l)
attribute [local go_sem] Ce.d Ch.d E.d QM Q9
def QoY (x:Ce):VCalls prog 150 [.agg x.d] [] (Ret (.bool x.okB)):=by
 refine dd Tryz.func150 ?_
 (unfold Tryz.f150; refine rn trivial ?_)
 refine rn F ?_
 repeat' (first
  | with_reducible exact ⟨⟩
  | (refine sG F ?_ ?_<;>intro hZ))
 all_goals (first | rfl | (congr 3; rw [Jk]; (try simp only [Ce.okB,decide_eq_true_eq,Jb,Jf,Jg,Je,decide_eq_false_iff_not,beq_iff_eq,bne_iff_ne,ne_eq,Jl,Jn,iff_true,true_iff,iff_false,false_iff]); first | done | omega | grind))
def Qg7 (x:Ce):VCalls prog 148 [.agg x.d] [] (Ret (.bool x.okB)):=by
 refine dd Tryz.func148 ?_
 (unfold Tryz.f148; refine rn trivial ?_)
 refine rn F ?_
 repeat' (first
  | with_reducible exact ⟨⟩
  | (refine sG F ?_ ?_<;>intro hZ))
 all_goals (first | rfl | (congr 3; rw [Jk]; (try simp only [Ce.okB,decide_eq_true_eq,Jb,Jf,Jg,Je,decide_eq_false_iff_not,beq_iff_eq,bne_iff_ne,ne_eq,Jl,Jn,iff_true,true_iff,iff_false,false_iff]); first | done | omega | grind))
def QEt (x:Ch):VCalls prog 113 [.agg x.d] [] (Ret (.bool x.no)):=by
 refine dd Tryz.func113 ?_
 (unfold Tryz.f113; refine rn trivial ?_)
 simp only [Ch.no,Ce.no,Bool.and_assoc]
def Qj6 (n:Int) (x:E):VCalls prog 87 [.int .i64 n,.agg x.d] [] (Ret (.bool (bef n x.lsn))):=by
 refine dd Tryz.func87 ?_
 (unfold Tryz.f87; refine rn trivial ?_)
 refine rn F ?_
 repeat' (first
  | with_reducible exact ⟨⟩
  | (refine sG F ?_ ?_<;>intro hZ))
 all_goals (first | rfl | (congr 3; rw [Jk]; (try simp only [bef,decide_eq_true_eq,Jb,Jf,Jg,Je,decide_eq_false_iff_not,beq_iff_eq,bne_iff_ne,ne_eq,Jl,Jn,iff_true,true_iff,iff_false,false_iff]); first | done | omega | grind))
def Qg8 (n l:Int):VCalls prog 86 [.int .i64 n,.int .i64 l] [] (Ret (.bool (bef n l))):=by
 refine dd Tryz.func86 ?_
 (unfold Tryz.f86; refine rn trivial ?_)
 refine rn F ?_
 repeat' (first
  | with_reducible exact ⟨⟩
  | (refine sG F ?_ ?_<;>intro hZ))
 all_goals (first | rfl | (congr 3; rw [Jk]; (try simp only [bef,decide_eq_true_eq,Jb,Jf,Jg,Je,decide_eq_false_iff_not,beq_iff_eq,bne_iff_ne,ne_eq,Jl,Jn,iff_true,true_iff,iff_false,false_iff]); first | done | omega | grind))
def QBv (n:Int):VCalls prog 149 [.int .i64 n] [] (Ret (.bool (decide (0<=n) && decide (n < 64)))):=by
 refine dd Tryz.func149 ?_
 (unfold Tryz.f149; refine rn trivial ?_)
 refine rn F ?_
 repeat' (first
  | with_reducible exact ⟨⟩
  | (refine sG F ?_ ?_<;>intro hZ))
 all_goals (first | rfl | (congr 3; rw [Jk]; (try simp only [decide_eq_true_eq,Jb,Jf,Jg,Je,decide_eq_false_iff_not,beq_iff_eq,bne_iff_ne,ne_eq,Jl,Jn,iff_true,true_iff,iff_false,false_iff]); first | done | omega | grind))
def QyS (x:E):VCalls prog 112 [.agg x.d] [] (Ret (.bool true)):=by
 refine dd Tryz.func112 ?_
 (unfold Tryz.f112; refine rn trivial ?_; try with_reducible exact ⟨⟩)
def Qr4 (x:E):VCalls prog 115 [.agg x.d] [] (Ret (.bool (decide (1<=x.ref) && decide (x.ref<=x.ptx)))):=by
 refine dd Tryz.func115 ?_
 (unfold Tryz.f115; refine rn trivial ?_)
 refine rn F ?_
 repeat' (first
  | with_reducible exact ⟨⟩
  | (refine sG F ?_ ?_<;>intro hZ))
 all_goals (first | rfl | (congr 3; rw [Jk]; (try simp only [decide_eq_true_eq,Jb,Jf,Jg,Je,decide_eq_false_iff_not,beq_iff_eq,bne_iff_ne,ne_eq,Jl,Jn,iff_true,true_iff,iff_false,false_iff]); first | done | omega | grind))
def Ch.ix (x:Ch):Bool:=x.sl == 0 && x.b.no && x.a.no && decide (0<=x.pg) && decide (x.pg < 64)
def QB5 (x:Ch):VCalls prog 116 [.agg x.d] [] (Ret (.bool x.ix)):=by
 refine dd Tryz.func116 ?_
 (unfold Tryz.f116; refine rn trivial ?_)
 refine rn F ?_
 repeat' (first
  | with_reducible exact ⟨⟩
  | (refine sG F ?_ ?_<;>intro hZ))
 all_goals (first | rfl | (congr 3; rw [Jk]; (try simp only [Ch.ix,Ce.no,decide_eq_true_eq,Jb,Jf,Jg,Je,decide_eq_false_iff_not,beq_iff_eq,bne_iff_ne,ne_eq,Jl,Jn,iff_true,true_iff,iff_false,false_iff]); first | done | omega | grind))
def Qe1 (x:E):VCalls prog 33 [.agg x.d] [] (Ret (.bool (x.kind == 1 || x.kind == 2))):=by
 refine dd Tryz.func33 ?_
 (unfold Tryz.f33; refine rn trivial ?_)
 refine rn F ?_
 repeat' (first
  | with_reducible exact ⟨⟩
  | (refine sG F ?_ ?_<;>intro hZ))
 all_goals (first | rfl | (congr 3; rw [Jk]; (try simp only [decide_eq_true_eq,Jb,Jf,Jg,Je,decide_eq_false_iff_not,beq_iff_eq,bne_iff_ne,ne_eq,Jl,Jn,iff_true,true_iff,iff_false,false_iff]); first | done | omega | grind))
def QaW (x:E):VCalls prog 63 [.agg x.d] [] (Ret (.bool (x.kind == 1 || x.kind == 2))):=by
 refine dd Tryz.func63 ?_
 (unfold Tryz.f63; refine rn trivial ?_)
 refine rn F ?_
 repeat' (first
  | with_reducible exact ⟨⟩
  | (refine sG F ?_ ?_<;>intro hZ))
 all_goals (first | rfl | (congr 3; rw [Jk]; (try simp only [decide_eq_true_eq,Jb,Jf,Jg,Je,decide_eq_false_iff_not,beq_iff_eq,bne_iff_ne,ne_eq,Jl,Jn,iff_true,true_iff,iff_false,false_iff]); first | done | omega | grind))
def QE3 (x:Ch):VCalls prog 114 [.agg x.d] [] (Ret (.bool x.okB)):=by
 refine dd Tryz.func114 ?_
 (unfold Tryz.f114; refine rn trivial ?_)
 refine rn F ?_
 repeat' (first
  | with_reducible exact ⟨⟩
  | (refine sG F ?_ ?_<;>intro hZ)
  | refine vp F (QBv x.pg) ?_
  | refine vp F (QoY x.b) ?_
  | refine vp F (QoY x.a) ?_)
 all_goals (first | rfl | (congr 3; rw [Jk]; (try simp only [Ch.okB,decide_eq_true_eq,Jb,Jf,Jg,Je,decide_eq_false_iff_not,beq_iff_eq,bne_iff_ne,ne_eq,Jl,Jn,iff_true,true_iff,iff_false,false_iff]); first | done | omega | grind))
def Qtj (x:Ch):VCalls prog 111 [.agg x.d] [] (Ret (.bool x.okB)):=by
 refine dd Tryz.func111 ?_
 (unfold Tryz.f111; refine rn trivial ?_)
 refine rn F ?_
 repeat' (first
  | with_reducible exact ⟨⟩
  | (refine sG F ?_ ?_<;>intro hZ)
  | refine vp F (Qg7 x.b) ?_
  | refine vp F (Qg7 x.a) ?_)
 all_goals (first | rfl | (congr 3; rw [Jk]; (try simp only [Ch.okB,decide_eq_true_eq,Jb,Jf,Jg,Je,decide_eq_false_iff_not,beq_iff_eq,bne_iff_ne,ne_eq,Jl,Jn,iff_true,true_iff,iff_false,false_iff]); first | done | omega | grind))
def rl (tx ch pg rf bl:Bool) (f g:Nat):List DV:=[.bool tx,.bool ch,.bool pg,.bool rf,.bool bl,.fn (.func f) [] [],.fn (.func g) [] []]
def rl0:List DV:=[.bool false,.bool false,.bool false,.bool false,.bool false,.pv (.lit .nilFunc),.pv (.lit .nilFunc)]
def Qw0:List DV:=rl true true false false false 112 113
def QsY:List DV:=rl false false false false true 112 113
def QD0:List DV:=rl0 ++ rl true false true false false 112 114 ++ rl true true true true false 115 114 ++ Qw0 ++ Qw0 ++ Qw0 ++ QsY ++ rl false false false true false 112 116 ++ QsY
def QAN:VCalls prog 88 [] [] (Ret (.agg QD0)):=by
 refine dd Tryz.func88 ?_
 (unfold Tryz.f88; refine rn trivial ?_)
 rfl
end
section
attribute [local go_sem] QD0 rl0 rl Qw0 QsY
def txB (n:Int):Bool:=decide (1<=n) && decide (n<=1073741824)
def E.kindB (e:E):Bool:=
 if e.kind = 1 then txB e.tx && e.ref == 0 && e.blob == [] && e.c.okB
 else if e.kind = 2 then txB e.tx && e.ptx != 0 && e.blob == [] && decide (1<=e.ref) && decide (e.ref<=e.ptx) && e.c.okB
 else if e.kind = 3\/e.kind = 4\/e.kind = 5 then txB e.tx && e.ptx != 0 && e.ppg == 0 && e.ref == 0 && e.blob == [] && e.c.no
 else if e.kind = 6\/e.kind = 8 then e.tx == 0 && e.ptx == 0 && e.ppg == 0 && e.ref == 0 && decide (e.blob.length<=8192) && e.c.no
 else if e.kind = 7 then e.tx == 0 && e.ptx == 0 && e.ppg == 0 && e.blob == [] && e.c.ix
 else false
def E.okB (e:E):Bool:=decide (1<=e.lsn) && decide (e.lsn<=1099511627776) && bef e.ptx e.lsn && bef e.ppg e.lsn && bef e.ref e.lsn && e.kindB
theorem QoA (lsn kind tx ptx ppg ref:Int) (c:Ch) (blob:List UInt8):(⟨lsn,kind,tx,ptx,ppg,ref,c,blob⟩:E).kindB =
 if kind = 1 then txB tx && ref == 0 && blob == [] && c.okB
 else if kind = 2 then txB tx && ptx != 0 && blob == [] && decide (1<=ref) && decide (ref<=ptx) && c.okB
 else if kind = 3\/kind = 4\/kind = 5 then txB tx && ptx != 0 && ppg == 0 && ref == 0 && blob == [] && c.no
 else if kind = 6\/kind = 8 then tx == 0 && ptx == 0 && ppg == 0 && ref == 0 && decide (blob.length<=8192) && c.no
 else if kind = 7 then tx == 0 && ptx == 0 && ppg == 0 && blob == [] && c.ix
 else false:=rfl
def QxZ {e:E} (h:e.kind < 1\/8 < e.kind):e.kindB = false:=by
 unfold E.kindB; rw [if_neg (by omega),if_neg (by omega),if_neg (by omega),if_neg (by omega),if_neg (by omega)]
def Qfs (k:Int):(k < 1\/8 < k)\/k = 1\/k = 2\/k = 3\/k = 4\/k = 5\/k = 6\/k = 7\/k = 8:=by omega
def QAm (e:E):VCalls prog 62 [.agg e.d] [] (Ret (.bool e.okB)):=by
 refine dd Tryz.func62 ?_
 obtain ⟨lsn,kind,tx,ptx,ppg,ref,c,blob⟩:=e
 have r1:=Qj6 ptx ⟨lsn,kind,tx,ptx,ppg,ref,c,blob⟩
 have r2:=Qj6 ppg ⟨lsn,kind,tx,ptx,ppg,ref,c,blob⟩
 have r3:=Qj6 ref ⟨lsn,kind,tx,ptx,ppg,ref,c,blob⟩
 have r4:=QyS ⟨lsn,kind,tx,ptx,ppg,ref,c,blob⟩
 have r5:=Qr4 ⟨lsn,kind,tx,ptx,ppg,ref,c,blob⟩
 have q1:=QEt c
 have q2:=QE3 c
 have q3:=QB5 c
 have e1:(⟨lsn,kind,tx,ptx,ppg,ref,c,blob⟩:E).okB = (decide (1<=lsn) && decide (lsn<=1099511627776) && bef ptx lsn && bef ppg lsn && bef ref lsn && (⟨lsn,kind,tx,ptx,ppg,ref,c,blob⟩:E).kindB):=rfl
 dsimp only [E.d] at *
 generalize bef ptx lsn = B1 at *
 generalize bef ppg lsn = B2 at *
 generalize bef ref lsn = B3 at *
 have e2:=QoA lsn kind tx ptx ppg ref c blob
 dsimp only [Ch.d] at q1 q2 q3
 generalize c.no = N at *
 generalize c.okB = K at *
 generalize c.ix = X at *
 have e3:=@QxZ ⟨lsn,kind,tx,ptx,ppg,ref,c,blob⟩
 dsimp only at e3
 generalize (⟨lsn,kind,tx,ptx,ppg,ref,c,blob⟩:E).kindB = Q at *
 generalize (⟨lsn,kind,tx,ptx,ppg,ref,c,blob⟩:E).okB = R at *
 (unfold Tryz.f62; refine rn trivial ?_)
 refine rn F ?_
 repeat' (first
  | with_reducible exact ⟨⟩
  | (refine sG F ?_ ?_<;>intro hZ)
  | (refine sB F ?_ ?_<;>intro hZ)
  | refine vp F (r1) ?_
  | refine vp F (r2) ?_
  | refine vp F (r3) ?_
  | (refine Qd (id:=3) [1,2] [⟨[4],[],0,[1,2],[3]⟩,⟨[4],[4],5,[],[]⟩] (by kernel_rfl) (by kernel_rfl) ?_; refine rn F ?_))
 all_goals first
  | (congr 3; rw [Jk,e1]; simp only [Jb,decide_eq_true_eq,Jl,false_iff]; first | omega | (intro h; simp_all; done) | (intro h; rw [e3 (by omega)] at h; simp at h; done))
  | skip
 all_goals
  have hT:R = Q:=by rw [e1]; simp_all
  rcases Qfs kind with hk | rfl | rfl | rfl | rfl | rfl | rfl | rfl | rfl
  ·omega
 all_goals
  refine rn F ?_
  repeat' (first
   | with_reducible exact ⟨⟩
   | (refine sG F ?_ ?_<;>intro hZ)
   | (refine sB F ?_ ?_<;>intro hZ)
   | refine vp F (QAN) ?_
   | refine vp F (r4) ?_
   | refine vp F (r5) ?_
   | refine vp F (q1) ?_
   | refine vp F (q2) ?_
   | refine vp F (q3) ?_)
 all_goals (try (congr 3; rw [hT,Jk,e2]; clear hT e1 e2 e3 r1 r2 r3 r4 r5 q1 q2 q3; simp [txB]; first | omega | grind))
 all_goals skip
end
section
def encE:Enc E:=⟨13,fun x=>[.lit (.int .i64 x.lsn),.lit (.int .i64 x.kind),.lit (.int .i64 x.tx),.lit (.int .i64 x.ptx),.lit (.int .i64 x.ppg),.lit (.int .i64 x.ref),.lit (.int .i64 x.c.pg),.lit (.int .i64 x.c.sl),.lit (.bool x.c.b.set),.str x.c.b.data,.lit (.bool x.c.a.set),.str x.c.a.data,.str x.blob],by decide,fun _=>rfl⟩
def Qfq (l:List E):(cells encE l).length = l.length * 13:=Qy encE l
def Qim (l:List E) (n:Nat) (h:l.length * 13<=n):(cells encE l).take n = cells encE l:=by rw [Ji]; rw [Qfq]; exact h
def Qil (l m:List E):cells encE l ++ cells encE m = cells encE (l ++ m):=(Qz encE l m).symm
def Qh2 (l:List E) (T:TypeId) (a b:Nat) (h:a<=b/\b<=l.length):Qkh (some (none,T,13)) (fz encE l) a b = some (.pv (.sl (fz encE ((l.take b).drop a)))):=QgB encE l T a b h
def Qh1 (l:List E):(fz encE l = []\/(fz encE l)[0]?.map JD = some 13) = True:=Qhq encE l
def Qie (h:l.length = len):Qgy n hp 0 13 len (some (cells encE l)) = some (.sl (fz encE l)):=QZ encE h
def QcA (l:List E) (e:E):cells encE l ++ [.pv (.lit (.int .i64 e.lsn)),.pv (.lit (.int .i64 e.kind)),.pv (.lit (.int .i64 e.tx)),.pv (.lit (.int .i64 e.ptx)),.pv (.lit (.int .i64 e.ppg)),.pv (.lit (.int .i64 e.ref)),.pv (.lit (.int .i64 e.c.pg)),.pv (.lit (.int .i64 e.c.sl)),.pv (.lit (.bool e.c.b.set)),.pv (.str e.c.b.data),.pv (.lit (.bool e.c.a.set)),.pv (.str e.c.a.data),.pv (.str e.blob)] = cells encE (l ++ [e]):=by rw [Qz]; rfl
def Qm {α:Type} (l:List α) (i:Nat) (h:i < l.length) (d:α):l.getD i d = l[i]:=by rw [Jh,Jx h]; rfl
structure To (n:Nat) where
 i:Nat
 hi:i<=n
structure Okay (n:Nat) (c:Nat->Bool) where
 i:Nat
 hi:i<=n
 ok:∀ k,k < i->c k = true
def Okay.start (n:Nat) (c:Nat->Bool):Okay n c:=⟨0,JE _,fun k h=>by omega⟩
def Okay.next {n:Nat} {c:Nat->Bool} (s:Okay n c) (h:s.i < n) (hc:c s.i = true):Okay n c:=⟨s.i + 1,h,fun k hk=>by
 rcases J1 k s.i with hlt | hge
 ·exact s.ok k hlt
 ·obtain rfl:k = s.i:=by omega
  exact hc⟩
def Okay.all (s:Okay n c) (h:¬ s.i < n):(Jv n).all c = true:=by
 rw [JP]
 intro k hk
 rw [JL] at hk
 exact s.ok k (by omega)
def QaM (h:i < n) (hc:c i = false):(Jv n).all c = false:=by
 rw [List.all_eq_false]
 exact ⟨i,JL.2 h,by rw [hc]; decide⟩
def Qnu (l:List E) (i:Nat) (h:i < l.length):(fz encE l)[i]? = some [.lit (.int .i64 (l.getD i E0).lsn),.lit (.int .i64 (l.getD i E0).kind),.lit (.int .i64 (l.getD i E0).tx),.lit (.int .i64 (l.getD i E0).ptx),.lit (.int .i64 (l.getD i E0).ppg),.lit (.int .i64 (l.getD i E0).ref),.lit (.int .i64 (l.getD i E0).c.pg),.lit (.int .i64 (l.getD i E0).c.sl),.lit (.bool (l.getD i E0).c.b.set),.str (l.getD i E0).c.b.data,.lit (.bool (l.getD i E0).c.a.set),.str (l.getD i E0).c.a.data,.str (l.getD i E0).blob]:=by rw [Qm l i h]; exact QiM encE l i h
structure Lg where
 f:Int
 es:List E
 d:Int
def Lg.c (x:Lg):List DV:=[.int .i64 x.f,.pv (.sl (fz encE x.es)),.int .i64 x.d]
attribute [local go_sem] Lg.c
def Lg0:Lg:=⟨0,[],0⟩
def Lg.hd (x:Lg):Prop:=1<=x.f/\x.f<=1099511627776/\x.es.length<=4096/\x.f - 1<=x.d/\x.d<=x.f + x.es.length - 1
instance (x:Lg):Decidable x.hd:=by unfold Lg.hd; infer_instance
def lgC (x:Lg) (i:Nat):Bool:=decide ((x.es.getD i E0).lsn = x.f + i) && (x.es.getD i E0).okB
def lgB (x:Lg):Bool:=decide x.hd && (Jv x.es.length).all (lgC x)
def Lg.end_ (x:Lg):Int:=x.f + x.es.length - 1
def QT {x:Lg} (h:lgB x = true):x.hd:=by unfold lgB at h; simp at h; exact h.1
def QEE (x:Lg) (h1 : -1099511627776<=x.f/\x.f<=1099511627776) (h2:x.es.length<=1000000):VCalls prog 61 [.agg x.c] [] (Ret (.int .i64 x.end_)):=by
 refine dd Tryz.func61 ?_
 obtain ⟨f,es,d⟩:=x
 dsimp only at h1 h2
 (unfold Tryz.f61; refine rn trivial ?_)
 (refine rn F ?_; try with_reducible exact ⟨⟩)
 all_goals rfl
def QoD (x:Lg) (hx:x.es.length<=9223372036854775807):VCalls prog 49 [.agg x.c] [] (Ret (.bool (lgB x))):=by
 refine dd Tryz.func49 ?_
 obtain ⟨f,es,d⟩:=x
 dsimp only at hx
 have hr:=fun (i:Nat)=>QAm (es.getD i E0)
 have c1:=QEE ⟨f,es,d⟩
 have hlg:∀ i,lgC ⟨f,es,d⟩ i = true ↔ (es.getD i E0).lsn = f + i/\(es.getD i E0).okB = true:=fun i=>by simp [lgC]
 have hB:lgB ⟨f,es,d⟩ = (decide (Lg.hd ⟨f,es,d⟩) && (Jv es.length).all (lgC ⟨f,es,d⟩)):=rfl
 have hH:Lg.hd ⟨f,es,d⟩ = (1<=f/\f<=1099511627776/\es.length<=4096/\f - 1<=d/\d<=f + es.length - 1):=rfl
 have no:¬ Lg.hd ⟨f,es,d⟩->lgB ⟨f,es,d⟩ = false:=fun h=>by rw [hB,decide_eq_false h]; rfl
 unfold Lg.c at c1 |-
 unfold Lg.end_ at c1
 unfold E.d at hr
 dsimp only at c1 |-
 generalize lgC ⟨f,es,d⟩ = lc at *
 generalize lgB ⟨f,es,d⟩ = b at *
 (unfold Tryz.f49; refine rn trivial ?_)
 refine rn F ?_
 repeat' (first
  | with_reducible exact ⟨⟩
  | (refine sG F ?_ ?_<;>intro hZ)
  | (refine sB F ?_ ?_<;>intro hZ)
  | refine vp F (c1 (by omega) (by omega)) ?_
  | (refine Qd (id:=1) [0,1,2,3,4,5,6,7,8,9,10,11,12,13,14,15,16,17,18,19,20,21,22,23,24,25] [⟨[],[],26,[0,1,2,3,4,5,6,7,8,9,10,11,12,13,14,15,16,17,18,19,20,21,23,24],[27,28]⟩] (by kernel_rfl) (by kernel_rfl) ?_; refine rn F ?_))
 all_goals first | (rw [no (by rw [hH]; omega)]) | skip
 refine Qg (fun s:Okay es.length lc=>⟨55,0,[(37,.int .i64 s.i),(36,.int .i64 es.length),(35,.pv (.sl (fz encE es))),(1,.ptr 0 0)],[⟨32,true,[.int .i64 f,.pv (.sl (fz encE es)),.int .i64 d]⟩]⟩) (fun s=>es.length - s.i) (Okay.start _ _) (gc [0]) ?_
 intro s
 have hsi:=s.hi
 have hg:=fun h:s.i < es.length=>Qnu es s.i h
 have F:=@hg
 refine rn F ?_
 repeat' (first
  | with_reducible exact ⟨⟩
  | (refine sG F ?_ ?_<;>intro hZ)
  | (refine sB F ?_ ?_<;>intro hZ)
  | refine vp F (hr s.i) ?_)
 all_goals first
  | (rw [hB,QaM (i:=s.i) (by omega) (Jw.2 fun h=>by rw [hlg] at h; omega),JH])
  | (rw [hB,QaM (i:=s.i) (by omega) (Jw.2 fun h=>by rw [hlg] at h; exact absurd h.2 (by simp_all)),JH])
  | (rw [hB,s.all (by omega),decide_eq_true (by rw [hH]; omega)]; rfl)
  | (exact ⟨s.next (by omega) ((hlg _).2 ⟨by omega,by assumption⟩),by show es.length - (s.i + 1) < es.length - s.i; omega,(gc [0])⟩)
  | skip
end
section
attribute [local go_sem] Qfq Qim Qil Qh2 Qh1 Qie QcA Tryz.underlying30
abbrev noK:Nat->Bool:=fun _=>false
def QoW (l:List E) (hl:l.length<=1000000):VCalls prog 92 [.pv (.sl (fz encE l))] [] (QhL noK [] 13 l.length 73 (cells encE l)):=by
 refine VCalls.newSl ?_
 by_cases hz:l = []
 ·subst hz
  refine VCalls.open0 fun ad cap hs=>?_
  refine Qbd (fn:=Tryz.f92) Tryz.func92 rfl (by kernel_rfl) (by simp [Tryz.f92]) ?_
  (unfold Tryz.f92; refine rn trivial ?_)
  refine QaB (fun h=>?_) (fun h=>?_)
  ·(refine rn trivial ?_; try with_reducible exact ⟨⟩)
   exact ⟨by simp,.inl ⟨rfl,rfl,rfl⟩⟩
  ·(refine rn trivial ?_; try with_reducible exact ⟨⟩)
   exact ⟨by simp,.inr ⟨_,.inl rfl,by simp,rfl,rfl⟩⟩
 ·have hp:0 < l.length:=List.length_pos_iff.2 hz
  refine Qbd (fn:=Tryz.f92) Tryz.func92 rfl (by kernel_rfl) (by simp [Tryz.f92]) ?_
  have h0:=Qx5 encE l hp
  have hx:(fz encE l)[0]?.map JD = some 13:=QoN encE l hp
  have hb:l.length * 128<=140737488355328:=by omega
  have hfl:pvs (fz encE l) = cells encE l:=QjU encE l
  (unfold Tryz.f92; refine rn (Ja @h0 (Ja @hx (Ja @hb @hfl))) ?_)
  exact ⟨by simp,.inr ⟨_,.inl rfl,by simp,rfl,Qu _ _ _⟩⟩
def QfD (x:Lg) (e:E):Lg × Int × Int:=if lgB x = false then (Lg0,0,26) else if x.es.length = 4096\/1099511627776 < x.end_ + 1 then (Lg0,0,21)
 else if ({ e with lsn:=x.end_ + 1 }:E).okB = false then (Lg0,0,12) else (⟨x.f,x.es ++ [{ e with lsn:=x.end_ + 1 }],x.d⟩,x.end_ + 1,0)
def QGt (r:Lg × Int × Int):DV:=.tup [.agg r.1.c,.int .i64 r.2.1,.int .i64 r.2.2]
end
section
attribute [local go_sem] Qfq Qim Qil Qh2 Qh1 Qie QcA
def Qao (x:Lg) (n:Int):Lg × Int:=if lgB x = false then (Lg0,26) else if x.end_ < n then (Lg0,14) else (⟨x.f,x.es,if n > x.d then n else x.d⟩,0)
def QDi (x:Lg) (n:Int):Lg × Int:=if lgB x = false then (Lg0,26) else if n < x.f\/x.end_ + 1 < n\/1099511627776 < n then (Lg0,1) else if x.d < n - 1 then (Lg0,15) else (⟨n,x.es.drop (n - x.f).toNat,x.d⟩,0)
def lgD (r:Lg × Int):DV:=.tup [.agg r.1.c,.int .i64 r.2]
end
section
attribute [local go_sem] E.d Ch0 Ce0
def QBM (l:List UInt8):decide ((l.length:Int)<=8192) = decide (l.length<=8192):=by
 apply decide_eq_decide.2; omega
def E.shp (e:E):E:=
 if e.kind = 1 then ⟨e.lsn,e.kind,e.tx,e.ptx,e.ppg,0,e.c,[]⟩
 else if e.kind = 2 then ⟨e.lsn,e.kind,e.tx,e.ptx,e.ppg,e.ref,e.c,[]⟩
 else if e.kind = 3\/e.kind = 4\/e.kind = 5 then ⟨e.lsn,e.kind,e.tx,e.ptx,0,0,Ch0,[]⟩
 else if e.kind = 6\/e.kind = 8 then ⟨e.lsn,e.kind,0,0,0,0,Ch0,e.blob⟩
 else if e.kind = 7 then ⟨e.lsn,e.kind,0,0,0,e.ref,⟨e.c.pg,0,Ce0,Ce0⟩,[]⟩
 else ⟨e.lsn,e.kind,0,0,0,0,Ch0,[]⟩
def E.shok (e:E):Bool:=
 if e.kind = 1 then e.c.okB && decide (1<=e.tx) && decide (e.tx<=1073741824)
 else if e.kind = 2 then e.c.okB && decide (0 < e.ptx) && decide (1<=e.ref) && decide (e.ref<=e.ptx) && decide (1<=e.tx) && decide (e.tx<=1073741824)
 else if e.kind = 3\/e.kind = 4\/e.kind = 5 then decide (1<=e.tx) && decide (e.tx<=1073741824) && decide (0 < e.ptx)
 else if e.kind = 6\/e.kind = 8 then decide (e.blob.length<=8192)
 else if e.kind = 7 then decide (0<=e.c.pg) && decide (e.c.pg < 64)
 else false
def shD (e:E):DV:=.tup [.agg e.shp.d,.bool e.shok]
theorem QDQ (lsn kind tx ptx ppg ref:Int) (c:Ch) (blob:List UInt8):(⟨lsn,kind,tx,ptx,ppg,ref,c,blob⟩:E).shp =
 if kind = 1 then ⟨lsn,kind,tx,ptx,ppg,0,c,[]⟩
 else if kind = 2 then ⟨lsn,kind,tx,ptx,ppg,ref,c,[]⟩
 else if kind = 3\/kind = 4\/kind = 5 then ⟨lsn,kind,tx,ptx,0,0,Ch0,[]⟩
 else if kind = 6\/kind = 8 then ⟨lsn,kind,0,0,0,0,Ch0,blob⟩
 else if kind = 7 then ⟨lsn,kind,0,0,0,ref,⟨c.pg,0,Ce0,Ce0⟩,[]⟩
 else ⟨lsn,kind,0,0,0,0,Ch0,[]⟩:=rfl
theorem QAC (lsn kind tx ptx ppg ref:Int) (c:Ch) (blob:List UInt8):(⟨lsn,kind,tx,ptx,ppg,ref,c,blob⟩:E).shok =
 if kind = 1 then c.okB && decide (1<=tx) && decide (tx<=1073741824)
 else if kind = 2 then c.okB && decide (0 < ptx) && decide (1<=ref) && decide (ref<=ptx) && decide (1<=tx) && decide (tx<=1073741824)
 else if kind = 3\/kind = 4\/kind = 5 then decide (1<=tx) && decide (tx<=1073741824) && decide (0 < ptx)
 else if kind = 6\/kind = 8 then decide (blob.length<=8192)
 else if kind = 7 then decide (0<=c.pg) && decide (c.pg < 64)
 else false:=rfl
def QAE (e:E):VCalls prog 85 [.agg e.d] [] (Ret (shD e)):=by
 refine dd Tryz.func85 ?_
 unfold shD
 obtain ⟨lsn,kind,tx,ptx,ppg,ref,c,blob⟩:=e
 have q1:=Qtj c
 dsimp only [Ch.d] at q1
 rw [QDQ,QAC]
 generalize c.okB = K at *
 rcases Qfs kind with hk | rfl | rfl | rfl | rfl | rfl | rfl | rfl | rfl
 ·rw [if_neg (by omega),if_neg (by omega),if_neg (by omega),if_neg (by omega),if_neg (by omega),if_neg (by omega),if_neg (by omega),if_neg (by omega),if_neg (by omega),if_neg (by omega)]
  have k1:(kind == 1) = false:=by simp; omega
  have k2:(kind == 2) = false:=by simp; omega
  have k3:(kind == 3) = false:=by simp; omega
  have k4:(kind == 4) = false:=by simp; omega
  have k5:(kind == 5) = false:=by simp; omega
  have k6:(kind == 6) = false:=by simp; omega
  have k7:(kind == 7) = false:=by simp; omega
  have k8:(kind == 8) = false:=by simp; omega
  (unfold Tryz.f85; refine rn (Ja @k1 (Ja @k2 (Ja @k3 (Ja @k4 (Ja @k5 (Ja @k6 (Ja @k7 @k8))))))) ?_; try with_reducible exact ⟨⟩)
 all_goals
  (unfold Tryz.f85; refine rn trivial ?_)
  refine rn F ?_
  repeat' (first
   | with_reducible exact ⟨⟩
   | (refine sG F ?_ ?_<;>intro hZ)
   | refine vp F (q1) ?_
   | (refine Qd (id:=5) [0,1,2,3,4,5,6,7,8] [⟨[],[],9,[2,3,4,5,6,7],[10]⟩,⟨[],[],11,[4,5,6,7],[12]⟩,⟨[],[],13,[6,7],[14]⟩,⟨[],[],15,[],[]⟩] (by kernel_rfl) (by kernel_rfl) ?_; refine rn F ?_)
   | (refine Qd (id:=10) [0,1,2,3,4,5,6,7,8,9,10,11] [⟨[],[],12,[1,2,3,4,5,6,8,9,10,11],[]⟩,⟨[],[],13,[],[]⟩] (by kernel_rfl) (by kernel_rfl) ?_; refine rn F ?_)
   | (refine Qd (id:=14) [0,1,2,3,4] [⟨[],[],5,[2,3],[6]⟩,⟨[],[],7,[],[]⟩] (by kernel_rfl) (by kernel_rfl) ?_; refine rn F ?_)
   | (refine Qd (id:=15) [0,1,2,3,4,5,6,7,8,9,10,11,12,13] [⟨[],[],14,[1,2,3,4,5,6,7,8,10,11,12,13],[]⟩,⟨[],[],15,[],[]⟩] (by kernel_rfl) (by kernel_rfl) ?_; refine rn F ?_)
   | (refine Qd (id:=19) [0,1,2,3,4] [⟨[],[],5,[1,2,3,4],[]⟩,⟨[],[],6,[],[]⟩] (by kernel_rfl) (by kernel_rfl) ?_; refine rn F ?_)
   | (refine Qd (id:=21) [0,1,2,3,4,5] [⟨[],[],6,[2,3,4],[7,8]⟩,⟨[],[],9,[7],[]⟩] (by kernel_rfl) (by kernel_rfl) ?_; refine rn F ?_)
   | (refine Qd (id:=22) [0,1,2,3,4,5,6,7,8,9,10] [⟨[],[],11,[1,2,3,4,6,7,8,9,10],[]⟩,⟨[],[],12,[],[]⟩] (by kernel_rfl) (by kernel_rfl) ?_; refine rn F ?_))
 all_goals first | rfl | (simp [Ch0,Ce0,QBM]; done)
def eqE (x y:E):Bool:=x.lsn == y.lsn && (x.kind == y.kind && (x.tx == y.tx && (x.ptx == y.ptx && (x.ppg == y.ppg && (x.ref == y.ref && (x.c.pg == y.c.pg && (x.c.sl == y.c.sl && (x.c.b.set == y.c.b.set && (x.c.b.data == y.c.b.data && (x.c.a.set == y.c.a.set && (x.c.a.data == y.c.a.data && x.blob == y.blob)))))))))))
def QFd (x y:E):QM x.d y.d [(0,1),(1,1),(2,1),(3,1),(4,1),(5,1),(6,1),(7,1),(8,0),(9,2),(10,0),(11,2),(12,2)] = some (eqE x y):=by
 simp [QM,Q9,E.d,eqE]
def E.okR (e:E):Bool:=e.shok && eqE e.shp e && decide (1<=e.lsn) && decide (e.lsn<=1099511627776) && bef e.ptx e.lsn && bef e.ppg e.lsn && bef e.ref e.lsn
def Qst (e:E):VCalls prog 60 [.agg e.d] [] (Ret (.bool e.okR)):=by
 refine dd Tryz.func60 ?_
 have hq:=QFd e.shp e
 have hs:=QAE e
 unfold shD at hs
 simp only [E.d] at hq hs
 have b1:=Qg8 e.ptx e.lsn
 have b2:=Qg8 e.ppg e.lsn
 have b3:=Qg8 e.ref e.lsn
 have e1:e.okR = (e.shok && eqE e.shp e && decide (1<=e.lsn) && decide (e.lsn<=1099511627776) && bef e.ptx e.lsn && bef e.ppg e.lsn && bef e.ref e.lsn):=rfl
 generalize e.okR = R at *
 generalize bef e.ptx e.lsn = B1 at *
 generalize bef e.ppg e.lsn = B2 at *
 generalize bef e.ref e.lsn = B3 at *
 generalize e.shp = s at *
 generalize e.shok = ok at *
 generalize eqE s e = q at *
 (unfold Tryz.f60; refine rn trivial ?_)
 have F:=@hq
 refine rn F ?_
 repeat' (first
  | with_reducible exact ⟨⟩
  | (refine sG F ?_ ?_<;>intro hZ)
  | refine vp F (hs) ?_
  | refine vp F (b1) ?_
  | refine vp F (b2) ?_
  | refine vp F (b3) ?_)
 all_goals (congr 3; rw [e1,Jk]; clear e1 b1 b2 b3 hs hq; simp; first | omega | grind)
def QEo (e:E):e.okR = e.okB:=by
 obtain ⟨lsn,kind,tx,ptx,ppg,ref,⟨pg,sl,⟨b1,b2⟩,⟨a1,a2⟩⟩,blob⟩:=e
 rw [Jk]
 by_cases h:kind < 1\/8 < kind
 ·have e1:E.shok ⟨lsn,kind,tx,ptx,ppg,ref,⟨pg,sl,⟨b1,b2⟩,⟨a1,a2⟩⟩,blob⟩ = false:=by unfold E.shok; rw [if_neg (by dsimp only; omega),if_neg (by dsimp only; omega),if_neg (by dsimp only; omega),if_neg (by dsimp only; omega),if_neg (by dsimp only; omega)]
  have e2:E.kindB ⟨lsn,kind,tx,ptx,ppg,ref,⟨pg,sl,⟨b1,b2⟩,⟨a1,a2⟩⟩,blob⟩ = false:=by unfold E.kindB; rw [if_neg (by dsimp only; omega),if_neg (by dsimp only; omega),if_neg (by dsimp only; omega),if_neg (by dsimp only; omega),if_neg (by dsimp only; omega)]
  simp [E.okR,E.okB,e1,e2]
 ·have hk:kind = 1\/kind = 2\/kind = 3\/kind = 4\/kind = 5\/kind = 6\/kind = 7\/kind = 8:=by omega
  rcases hk with hk | hk | hk | hk | hk | hk | hk | hk<;>subst hk
  all_goals
   simp only [E.okR,E.okB,E.shok,E.shp,E.kindB,eqE,bef,txB,Ch.no,Ce.no,Ch.ix,Ch0,Ce0,Jb,decide_eq_true_eq,beq_iff_eq,bne_iff_ne,Jg,reduceIte,Int.reduceEq,or_self,or_false,false_or,or_true,true_or]
   grind
def QcG (e:E):VCalls prog 60 [.agg e.d] [] (Ret (.bool e.okB)):=by
 rw [<- QEo]; exact Qst e
end
section
structure Tx where
 id:Int
 st:Int
 n:Int
 b:Int
 l:List Int
 s:List Int
def Qat:Enc Tx:=⟨6,fun t=>[.lit (.int .i64 t.id),.lit (.int .i64 t.st),.lit (.int .i64 t.n),.lit (.int .i64 t.b),.sl (fz QW t.l),.sl (fz QW t.s)],by decide,fun _=>rfl⟩
def Tx.d (t:Tx):List DV:=[.int .i64 t.id,.int .i64 t.st,.int .i64 t.n,.int .i64 t.b,.pv (.sl (fz QW t.l)),.pv (.sl (fz QW t.s))]
def QCM (l:List Int) (lo hi d:Int) (i:Nat):Bool:=decide (lo<=l.getD i 0) && decide (l.getD i 0<=hi) && (decide (i = 0) || decide (l.getD (i - 1) 0 + d<=l.getD i 0))
def Qre (l:List Int) (lo hi d:Int):Bool:=(Jv l.length).all (QCM l lo hi d)
def Qe3 (l:List Int) (lo hi d:Int) (i:Nat):QCM l lo hi d i = true ↔ lo<=l.getD i 0/\l.getD i 0<=hi/\(i = 0\/l.getD (i - 1) 0 + d<=l.getD i 0):=by
 simp only [QCM,Jb,Jf,decide_eq_true_eq,and_assoc]
def Tx.sm (t:Tx):Prop:=t.l.length<=9223372036854775807/\t.s.length<=9223372036854775807
def Tx.hdB (t:Tx):Bool:=decide (1<=t.id) && decide (t.id<=1073741824) && decide (1<=t.st) && decide (t.st<=3) && decide (0<=t.n) && decide (t.n<=1099511627776) && (decide (t.b = 0) || (decide (t.st = 2) && decide (0 < t.b) && decide (t.b<=t.n))) && decide (t.l.length<=4096) && decide (t.s.length<=8)
def Tx.okB (t:Tx):Bool:=t.hdB && Qre t.l 1 t.n 1 && Qre t.s 0 t.n 0
def Tx0:Tx:=⟨0,0,0,0,[],[]⟩
def tC (l:List Tx) (i:Nat):Bool:=(l.getD i Tx0).okB && (decide (i = 0) || decide ((l.getD (i - 1) Tx0).id < (l.getD i Tx0).id))
def Qn0 (l:List Tx) (i:Nat):tC l i = true ↔ (l.getD i Tx0).okB = true/\(i = 0\/(l.getD (i - 1) Tx0).id < (l.getD i Tx0).id):=by
 simp only [tC,Jb,Jf,decide_eq_true_eq]
def Qd7 (l:List Tx):Bool:=decide (l.length<=64) && (Jv l.length).all (tC l)
def smL (l:List Tx):Prop:=l.length<=1000000/\∀ t ∈ l,t.sm
def QoO (l:List Tx) (i:Nat) (h:i < l.length):(fz Qat l)[i]? = some [.lit (.int .i64 l[i].id),.lit (.int .i64 l[i].st),.lit (.int .i64 l[i].n),.lit (.int .i64 l[i].b),.sl (fz QW l[i].l),.sl (fz QW l[i].s)]:=QiM Qat l i h
structure Pass {α:Type} (l:List α) (p:α->Prop) where
 i:Nat
 hi:i<=l.length
 no:∀ x ∈ l.take i,¬ p x
def Pass.start {α:Type} (l:List α) (p:α->Prop):Pass l p:=⟨0,JE _,by simp⟩
def Pass.next {α:Type} {l:List α} {p:α->Prop} (s:Pass l p) (h:s.i < l.length) (hp:¬ p l[s.i]):Pass l p :=
 ⟨s.i + 1,h,fun x hx=>by
  rw [Jt h,List.mem_append] at hx
  rcases hx with hx | hx
  ·exact s.no x hx
  ·simp at hx; subst hx; exact hp⟩
def Pass.all (s:Pass l p) (h:¬ s.i < l.length):∀ x ∈ l,¬ p x:=by
 have:=s.no
 rwa [Ji (by omega)] at this
def QhO {α:Type} (l:List α) (p:α->Bool):Int:=if l.any p = true then (l.findIdx p:Int) else -1
def Qnp (l:List α) (p:α->Bool) (i:Nat) (h:i < l.length) (hx:p l[i] = true) (no:∀ x ∈ l.take i,¬ p x = true):QhO l p = i:=by
 rw [QhO,if_pos (JQ.2 ⟨l[i],JX h,hx⟩)]
 congr 1
 rw [List.findIdx_eq h]
 refine ⟨hx,fun j hj=>?_⟩
 have:=no l[j] (List.mem_take_iff_getElem.2 ⟨j,by omega,rfl⟩)
 simpa using this
def Qum (l:List α) (p:α->Bool):(QhO l p = -1/\l.find? p = none)\/∃ i,∃ h:i < l.length,QhO l p = i/\l.find? p = some l[i]:=by
 by_cases ha:l.any p = true
 ·obtain ⟨x,hm,hp⟩:=JQ.1 ha
  have hlt:=Ju ⟨x,hm,hp⟩
  refine .inr ⟨l.findIdx p,hlt,by rw [QhO,if_pos ha],?_⟩
  rw [List.find?_eq_some_iff_getElem]
  refine ⟨J5 (w:=hlt),_,hlt,rfl,fun j hj=>?_⟩
  have:=List.not_of_lt_findIdx hj
  simpa using this
 ·refine .inl ⟨by rw [QhO,if_neg ha],?_⟩
  rw [List.find?_eq_none]
  intro x hx hp
  exact ha (JQ.2 ⟨x,hx,hp⟩)
def lo {α:Type} (l:List α) (f:α->Bool):Nat:=(l.takeWhile f).length
def QHD {α:Type} (l:List α) (f:α->Bool):Prop:=∀ i j:Nat,∀ hi:i < l.length,∀ hj:j < l.length,i < j->f l[j] = true->f l[i] = true
def QF2 (l:List α) (f:α->Bool):lo l f<=l.length:=(List.takeWhile_sublist _).length_le
def QEx (l:List α) (f:α->Bool) (i:Nat) (hi:i<=l.length) (h1:∀ k,∀ hk:k < l.length,k < i->f l[k] = true) (h2:∀ hi:i < l.length,f l[i] = false):lo l f = i:=by
 unfold lo
 induction l generalizing i with
 | nil=>simp at hi; subst hi; rfl
 | cons a r ih =>
   cases i with
   | zero =>
     have:=h2 (by simp)
     simp only [JY] at this
     rw [J8,this]; rfl
   | succ i =>
     have h0:=h1 0 (by simp) (by omega)
     simp only [JY] at h0
     rw [J8,h0]
     simp only [if_true,JR]
     rw [ih i (by simpa using hi) (fun k hk hki=>h1 (k + 1) (by simpa using hk) (by omega)) (fun hi=>h2 (by simpa using hi))]
structure BS {α:Type} (l:List α) (f:α->Bool) where
 i:Nat
 j:Nat
 hij:i<=j
 hj:j<=l.length
 h1:∀ k,∀ hk:k < l.length,k < i->f l[k] = true
 h2:∀ hj:j < l.length,f l[j] = false
def BS.start {α:Type} (l:List α) (f:α->Bool):BS l f:=⟨0,l.length,JE _,Ki _,fun k hk h=>by omega,fun h=>by omega⟩
def BS.up {α:Type} {l:List α} {f:α->Bool} (s:BS l f) (hf:QHD l f) (h:Nat) (h1:s.i<=h) (h2:h < s.j) (hx:f (l[h]'(JI h2 s.hj)) = true):BS l f :=
 ⟨h + 1,s.j,h2,s.hj,fun k hk hki=>by
  rcases J1 k h with hlt | hge
  ·exact hf k h hk (JI h2 s.hj) hlt hx
  ·obtain rfl:k = h:=by omega
   exact hx,s.h2⟩
def BS.fin (s:BS l f) (h:¬ s.i < s.j):lo l f = s.i:=by
 have e:s.i = s.j:=by have:=s.hij; omega
 exact QEx l f s.i (by have:=s.hj; omega) s.h1 (fun hi=>by
  have:=s.h2 (e ▸ hi)
  simpa only [e] using this)
def Qqc (l:List Tx) (i:Nat) (h:i < l.length):(fz Qat l)[i]? = some [.lit (.int .i64 (l.getD i Tx0).id),.lit (.int .i64 (l.getD i Tx0).st),.lit (.int .i64 (l.getD i Tx0).n),.lit (.int .i64 (l.getD i Tx0).b),.sl (fz QW (l.getD i Tx0).l),.sl (fz QW (l.getD i Tx0).s)]:=by rw [Qm l i h]; exact QoO l i h
attribute [local go_sem] Tx.d Qlz Jq Jj Jy JC Qch QbB
def QwO (t:Tx) (hs:t.sm):VCalls prog 197 [.agg t.d] [] (Ret (.bool t.okB)):=by
 refine dd Tryz.func197 ?_
 obtain ⟨id,st,n,b,l,s⟩:=t
 obtain ⟨hs1,hs2⟩:=hs
 dsimp only at hs1 hs2
 have e:(⟨id,st,n,b,l,s⟩:Tx).okB = ((⟨id,st,n,b,l,s⟩:Tx).hdB && Qre l 1 n 1 && Qre s 0 n 0):=rfl
 have eh:(⟨id,st,n,b,l,s⟩:Tx).hdB = (decide (1<=id) && decide (id<=1073741824) && decide (1<=st) && decide (st<=3) && decide (0<=n) && decide (n<=1099511627776) && (decide (b = 0) || (decide (st = 2) && decide (0 < b) && decide (b<=n))) && decide (l.length<=4096) && decide (s.length<=8)):=rfl
 generalize (⟨id,st,n,b,l,s⟩:Tx).hdB = H at *
 generalize (⟨id,st,n,b,l,s⟩:Tx).okB = K at *
 unfold Tx.d
 (unfold Tryz.f197; refine rn trivial ?_)
 refine rn F ?_
 repeat' (first
  | with_reducible exact ⟨⟩
  | (refine sG F ?_ ?_<;>intro hZ)
  | (refine sB F ?_ ?_<;>intro hZ))
 all_goals first
  | (rw [e,Jw.2 (show ¬ H = true from fun h=>by rw [eh] at h; simp only [Jb,Jf,decide_eq_true_eq] at h; omega)]; rfl)
  | skip
 all_goals
  have hh:H = true:=by rw [eh]; simp only [Jb,Jf,decide_eq_true_eq]; omega
  refine Qg (fun q:Okay l.length (QCM l 1 n 1)=>⟨147,0,[(3,.int .i64 q.i),(1,.ptr 0 0)],[⟨215,true,[.int .i64 id,.int .i64 st,.int .i64 n,.int .i64 b,.pv (.sl (fz QW l)),.pv (.sl (fz QW s))]⟩]⟩) (fun q=>l.length - q.i) (Okay.start _ _) (by exact (gc [0])) ?_
  intro q
  have hqi:=q.hi
  have hg:=fun h:q.i < l.length=>Qae l q.i h
  have hgp:0 < (q.i:Int)->(q.i:Int) < l.length->(fz QW l)[q.i - 1]? = some [.lit (.int .i64 (l.getD (q.i - 1) 0))]:=fun h h2=>by
   exact Qae l (q.i - 1) (by omega)
  have F:=(Ja @hg @hgp)
  refine rn F ?_
  repeat' (first
   | with_reducible exact ⟨⟩
   | (refine sG F ?_ ?_<;>intro hZ)
   | (refine sB F ?_ ?_<;>intro hZ)
   | (refine Qd (id:=8) [0,1,2,3,4,5,6,7,8,9,10,11,12,13,14,15,16,17,18,19,20,21,22,23,24,25,26,27,28,29,30,31,32,33] [] (by kernel_rfl) (by kernel_rfl) ?_; refine rn F ?_))
  all_goals first
   | (rw [e,Qre,Qre,QaM (n:=l.length) (c:=QCM l 1 n 1) (i:=q.i) (by omega) (Jw.2 fun h=>by rw [Qe3] at h; omega)]; simp)
   | (exact ⟨q.next (by omega) ((Qe3 _ _ _ _ _).2 (by omega)),by show l.length - (q.i + 1) < l.length - q.i; omega,(gc [0])⟩)
   | skip
  have hL:Qre l 1 n 1 = true:=q.all (by omega)
  clear hg hgp hqi
  refine Qg (fun q:Okay s.length (QCM s 0 n 0)=>⟨147,0,[(4,.int .i64 q.i),(1,.ptr 0 0)],[⟨215,true,[.int .i64 id,.int .i64 st,.int .i64 n,.int .i64 b,.pv (.sl (fz QW l)),.pv (.sl (fz QW s))]⟩]⟩) (fun q=>s.length - q.i) (Okay.start _ _) (by exact (gc [0])) ?_
  intro q
  have hqi:=q.hi
  have hg:=fun h:q.i < s.length=>Qae s q.i h
  have hgp:0 < (q.i:Int)->(q.i:Int) < s.length->(fz QW s)[q.i - 1]? = some [.lit (.int .i64 (s.getD (q.i - 1) 0))]:=fun h h2=>by
   exact Qae s (q.i - 1) (by omega)
  have F:=(Ja @hg @hgp)
  refine rn F ?_
  repeat' (first
   | with_reducible exact ⟨⟩
   | (refine sG F ?_ ?_<;>intro hZ)
   | (refine sB F ?_ ?_<;>intro hZ)
   | (refine Qd (id:=13) [0,1,2,3,4,5,6,7,8,9,10,11,12,13,14,15,16,17,18,19,20,21,22,23,24,25,26,27,28,29,30,31,32,33] [] (by kernel_rfl) (by kernel_rfl) ?_; refine rn F ?_))
  all_goals first
   | (rw [e,Qre,Qre,QaM (n:=s.length) (c:=QCM s 0 n 0) (i:=q.i) (by omega) (Jw.2 fun h=>by rw [Qe3] at h; omega)]; simp)
   | (exact ⟨q.next (by omega) ((Qe3 _ _ _ _ _).2 (by omega)),by show s.length - (q.i + 1) < s.length - q.i; omega,(gc [0])⟩)
   | skip
  rw [e,hh,hL,show Qre s 0 n 0 = true from q.all (by omega)]
  rfl
def QbL (l:List Tx) (hl:smL l):VCalls prog 151 [.pv (.sl (fz Qat l))] [] (Ret (.bool (Qd7 l))):=by
 refine dd Tryz.func151 ?_
 obtain ⟨hl,hm⟩:=hl
 have hr:=fun (i:Nat) (h:i < l.length)=>QwO (l.getD i Tx0) (by rw [Qm l i h]; exact hm _ (JX h))
 unfold Tx.d at hr
 (unfold Tryz.f151; refine rn trivial ?_)
 refine rn F ?_
 repeat' (first
  | with_reducible exact ⟨⟩
  | (refine sB F ?_ ?_<;>intro hZ))
 ·rw [Qd7,decide_eq_false (by omega)]; rfl
 refine Qg (fun s:Okay l.length (tC l)=>⟨37,0,[(3,.int .i64 s.i),(0,.pv (.sl (fz Qat l)))],[]⟩) (fun s=>l.length - s.i) (Okay.start _ _) (gc []) ?_
 intro s
 have hsi:=s.hi
 have hg:=fun h:s.i < l.length=>Qqc l s.i h
 have hgp:0 < (s.i:Int)->(s.i:Int) < l.length->(fz Qat l)[s.i - 1]? = some [.lit (.int .i64 (l.getD (s.i - 1) Tx0).id),.lit (.int .i64 (l.getD (s.i - 1) Tx0).st),.lit (.int .i64 (l.getD (s.i - 1) Tx0).n),.lit (.int .i64 (l.getD (s.i - 1) Tx0).b),.sl (fz QW (l.getD (s.i - 1) Tx0).l),.sl (fz QW (l.getD (s.i - 1) Tx0).s)]:=fun h h2=>by
  exact Qqc l (s.i - 1) (by omega)
 have F:=(Ja @hg @hgp)
 refine rn F ?_
 repeat' (first
  | with_reducible exact ⟨⟩
  | (refine sG F ?_ ?_<;>intro hZ)
  | (refine sB F ?_ ?_<;>intro hZ)
  | refine vp F (hr s.i (by omega)) ?_
  | (refine Qd (id:=6) [0,1,2,3] [⟨[],[],4,[0,1,2],[5,6,7,8,9,10,11,12,13,14,15,16,17,18,19,20,21,22,23]⟩] (by kernel_rfl) (by kernel_rfl) ?_; refine rn F ?_))
 all_goals first
  | (rw [Qd7,QaM (i:=s.i) (by omega) (Jw.2 fun h=>by rw [Qn0] at h; omega),JH])
  | (rw [Qd7,QaM (i:=s.i) (by omega) (Jw.2 fun h=>by rw [Qn0] at h; first | exact absurd h.1 (by assumption) | (have h1:=h.1; simp_all)),JH])
  | (rw [Qd7,s.all (by omega),decide_eq_true (by omega)]; rfl)
  | (exact ⟨s.next (by omega) ((Qn0 _ _).2 ⟨by assumption,by omega⟩),by show l.length - (s.i + 1) < l.length - s.i; omega,(gc [])⟩)
  | skip
def Qei {α:Type} (l:List α) (p:α->Bool):List α:=l.filter fun x=>!p x
structure DF {α:Type} (l:List α) (p:α->Bool) where
 j:Nat
 hj:j<=l.length
 cur:List α
 hl:cur.length = l.length
 h1:cur.take (Qei (l.take j) p).length = Qei (l.take j) p
 h2:cur.drop j = l.drop j
 h3:(Qei (l.take j) p).length < j
def DF.i {α:Type} {l:List α} {p:α->Bool} (s:DF l p):Nat:=(Qei (l.take s.j) p).length
def QbR (l:List α) (p:α->Bool) (j:Nat) (h:j < l.length):Qei (l.take (j + 1)) p = Qei (l.take j) p ++ (if p l[j] = true then [] else [l[j]]):=by
 rw [Jt h,Qei,J9]
 cases hp:p l[j]<;>simp [Qei,hp]
def Qp3 (l:List α) (p:α->Bool) (h:∀ x ∈ l,¬ p x = true):Qei l p = l:=by
 rw [Qei,List.filter_eq_self]; intro x hx; simpa using h x hx
def DF.start {α:Type} (l:List α) (p:α->Bool) (i:Nat) (h:i < l.length) (hp:p l[i] = true) (no:∀ x ∈ l.take i,¬ p x = true):DF l p:=
 have e:Qei (l.take (i + 1)) p = l.take i:=by rw [QbR l p i h,if_pos hp,JU,Qp3 _ p no]
 have el:(l.take i).length = i:=by rw [Jj]; omega
 ⟨i + 1,h,l,rfl,by rw [e,el],rfl,by rw [e,el]; omega⟩
def DF.get {α:Type} {l:List α} {p:α->Bool} (s:DF l p) (h:s.j < l.length) (d:α):s.cur.getD s.j d = l[s.j]:=by
 have:=congrArg (fun x=>x[0]?) s.h2
 simp only [Ka,Kq] at this
 rw [Jh,this,Jx h]; rfl
def DF.out {α:Type} {l:List α} {p:α->Bool} (s:DF l p) (h:s.j < l.length) (hp:p l[s.j] = true):DF l p :=
 have e:Qei (l.take (s.j + 1)) p = Qei (l.take s.j) p:=by rw [QbR l p s.j h,if_pos hp,JU]
 ⟨s.j + 1,h,s.cur,s.hl,by rw [e]; exact s.h1,by
  have:=congrArg (List.drop 1) s.h2
  rwa [J6,J6] at this,by rw [e]; have:=s.h3; omega⟩
def Qx4 (l:List α) (p:α->Bool):(Qei l p).length<=l.length:=JM _ _
def QBL (l:List Tx):(cells Qat l).length = l.length * 6:=Qy Qat l
def QDk (l:List Tx) (n:Nat) (h:l.length * 6<=n):(cells Qat l).take n = cells Qat l:=by rw [Ji]; rw [QBL]; exact h
def QDO (l:List Tx) (T:TypeId) (a b:Nat) (h:a<=b/\b<=l.length):Qkh (some (none,T,6)) (fz Qat l) a b = some (.pv (.sl (fz Qat ((l.take b).drop a)))):=QgB Qat l T a b h
def QDN (l:List Tx):(fz Qat l = []\/(fz Qat l)[0]?.map JD = some 6) = True:=Qhq Qat l
def Quz (h:l.length = len):Qgy n hp 0 6 len (some (cells Qat l)) = some (.sl (fz Qat l)):=QZ Qat h
def QFI (l:List Tx):DV.wk.go (cells Qat l) = cells Qat l:=Qbl Qat l fun a p hp=>by
 simp [Qat] at hp; rcases hp with rfl | rfl | rfl | rfl | rfl | rfl<;>rfl
def QDd (r:List Tx × Int):DV:=.tup [.pv (.sl (fz Qat r.1)),.int .i64 r.2]
def idT (l:List Tx) (a:Int):Int:=QhO l fun t=>t.id == a
def QDe (l:List Tx) (a:Int):Nat:=lo l fun t=>decide (t.id < a)
def QF8 (l:List Tx) (t:Tx):List Tx:=l.take (QDe l t.id) ++ t :: l.drop (QDe l t.id)
def Qcz (l:List Tx) (a:Int):List Tx × Int:=
 if Qd7 l = false then ([],15) else if a < 1\/1073741824 < a then ([],1) else if 0<=idT l a then ([],25) else if l.length = 64 then ([],21) else (QF8 l ⟨a,1,0,0,[],[]⟩,0)
def QnZ {l:List Tx} (h:Qd7 l = true):l.length<=64:=by
 simp [Qd7] at h; exact h.1
def QpN (l:List Tx) (a:Int):List Tx:=Qei l fun t=>t.id == a
def Qhl (t:Tx) (a:Int):Bool:=decide (0 < t.l.length) && decide (a < t.l.getD (t.l.length - 1) 0)
def QF7 (l:List Int) (h:0 < l.length):(fz QW l)[((l.length:Int) - 1).toNat]? = some [.lit (.int .i64 (l.getD (l.length - 1) 0))]:=by
 rw [show ((l.length:Int) - 1).toNat = l.length - 1 by omega]; exact Qae l (l.length - 1) (by omega)
def Qak (l:List Tx) (a:Int):idT l a = -1\/∃ i,∃ h:i < l.length,idT l a = i/\l[i].id = a:=by
 unfold idT QhO
 split
 ·rename_i h
  obtain ⟨x,hm,hp⟩:=JQ.1 h
  have hlt:=Ju (p:=fun t:Tx=>t.id == a) ⟨x,hm,hp⟩
  have:=J5 (w:=hlt)
  exact .inr ⟨_,hlt,rfl,by simpa using this⟩
 ·exact .inl rfl
def Qw (l:List Tx) (a:Int):Tx × Int:=
 if Qd7 l = false then (Tx0,15) else if idT l a < 0 then (Tx0,16) else if (l.getD (idT l a).toNat Tx0).st ≠ 1 then (Tx0,15) else (l.getD (idT l a).toNat Tx0,0)
def QdW {l:List Tx} {a:Int} (h:(Qw l a).2 = 0):Qd7 l = true/\∃ i,∃ hi:i < l.length,idT l a = i/\l[i].id = a/\(Qw l a).1 = l[i]:=by
 unfold Qw at h |-
 split at h
 ·simp at h
 rename_i h1
 split at h
 ·simp at h
 rename_i h2
 split at h
 ·simp at h
 rename_i h3
 refine ⟨by simpa using h1,?_⟩
 rcases Qak l a with h4 | ⟨i,hi,h4,h5⟩
 ·omega
 ·rw [if_neg h1,if_neg h2,if_neg h3]
  exact ⟨i,hi,h4,h5,by rw [h4,Jp,Qm l i hi]⟩
def Qgb (l:List Int) (x:Int):cells QW l ++ [.pv (.lit (.int .i64 x))] = cells QW (l ++ [x]):=by rw [Qz]; rfl
def Qzk (l:List Int):(cells QW l).length = l.length * 1:=Qy QW l
def QzE (l:List Int) (n:Nat) (h:l.length * 1<=n):(cells QW l).take n = cells QW l:=by rw [Ji]; rw [Qzk]; exact h
def Qy7 (l:List Int) (T:TypeId) (a b:Nat) (h:a<=b/\b<=l.length):Qkh (some (none,T,1)) (fz QW l) a b = some (.pv (.sl (fz QW ((l.take b).drop a)))):=QgB QW l T a b h
def Qy6 (l:List Int):(fz QW l = []\/(fz QW l)[0]?.map JD = some 1) = True:=Qhq QW l
def Qd6 (h:Qd7 l = true) (hi:i < l.length):l[i].okB = true:=by
 simp only [Qd7,Jb,JP,JL,decide_eq_true_eq] at h
 have:=((Qn0 l i).1 (h.2 i hi)).1
 rwa [Qm l i hi] at this
def Qsr (l:List Tx) (a:Int):List Tx × Int:=
 if (Qw l a).2 ≠ 0 then ([],(Qw l a).2) else if (Qw l a).1.s.length = 8 then ([],21) else (l.set (idT l a).toNat { (Qw l a).1 with s:=(Qw l a).1.s ++ [(Qw l a).1.n] },0)
def Qvw (l:List Tx) (a sv:Int):List Tx × Int:=
 if (Qw l a).2 ≠ 0 then ([],(Qw l a).2)
 else if sv < 0\/((Qw l a).1.s.length:Int)<=sv then ([],19)
 else if Qhl (Qw l a).1 ((Qw l a).1.s.getD sv.toNat 0) = true then (l.set (idT l a).toNat { (Qw l a).1 with s:=(Qw l a).1.s.take (sv.toNat + 1),st:=2,b:=(Qw l a).1.s.getD sv.toNat 0 },0)
 else (l.set (idT l a).toNat { (Qw l a).1 with s:=(Qw l a).1.s.take (sv.toNat + 1) },0)
def Qmc {lo hi:Int} (h:Qre l lo hi 1 = true):l.Pairwise (· < ·):=by
 simp only [Qre,JP,JL] at h
 rw [List.pairwise_iff_getElem]
 have step:∀ i,∀ h2:i + 1 < l.length,l[i] < l[i + 1]:=fun i h2=>by
  have:=(Qe3 _ _ _ _ _).1 (h (i + 1) h2)
  rw [Qm l (i + 1) h2,Nat.add_sub_cancel,Qm l i (by omega)] at this
  omega
 have all:∀ d i,∀ h2:i + d + 1 < l.length,l[i] < l[i + d + 1]:=fun d=>by
  induction d with
  | zero=>exact step
  | succ d ih=>intro i h2; exact Int.lt_trans (ih i (by omega)) (step (i + d + 1) h2)
 intro i j hi hj hij
 have:=all (j - i - 1) i (by omega)
 simpa only [show i + (j - i - 1) + 1 = j by omega] using this
def QBD {t:Tx} (h:t.okB = true):t.l.Pairwise (· < ·):=by
 simp only [Tx.okB,Jb] at h
 exact Qmc h.1.2
def Qfn {t:Tx} (h:t.okB = true):t.l.length<=4096/\t.s.length<=8:=by
 simp only [Tx.okB,Tx.hdB,Jb,decide_eq_true_eq] at h
 omega
def Qah (t:Tx):Tx:=if t.st = 2/\Qhl t t.b = false then { t with st:=1,b:=0 } else t
def Qfo (t:Tx) (e:E):Tx:=
 if e.kind = 1 then { t with n:=e.lsn,l:=t.l ++ [e.lsn] }
 else if e.kind = 2 then { t with n:=e.lsn,l:=t.l.filter fun x=>decide (x ≠ e.ref) }
 else { t with n:=e.lsn,st:=3,b:=0,s:=[] }
def QpZ (l:List Tx) (i:Nat) (t:Tx) (e:E):List Tx × Int:=
 if e.ptx ≠ t.n\/(e.kind = 2/\e.ref ∉ t.l) then ([],13)
 else if e.kind = 3\/e.kind = 5 then (QpN l e.tx,0)
 else (l.set i (Qah (Qfo t e)),0)
def Qb9 (l:List Tx) (e:E):List Tx × Int:=
 if Qd7 l = false then ([],15) else if e.okB = false then ([],12) else if e.tx = 0 then (l,0) else if idT l e.tx < 0 then ([],16)
 else QpZ l (idT l e.tx).toNat (l.getD (idT l e.tx).toNat Tx0) e
def QxI {e:E} (h:e.okB = true) (ht:e.tx ≠ 0):e.kind = 1\/e.kind = 2\/e.kind = 3\/e.kind = 4\/e.kind = 5:=by
 obtain ⟨lsn,kind,tx,ptx,ppg,ref,c,blob⟩:=e
 simp only [E.okB,Jb] at h
 have h:=h.2
 rw [QoA] at h
 dsimp only at ht |-
 rcases Qfs kind with hk | rfl | rfl | rfl | rfl | rfl | rfl | rfl | rfl
 ·rw [if_neg (by omega),if_neg (by omega),if_neg (by omega),if_neg (by omega),if_neg (by omega)] at h; cases h
 all_goals first | omega | (simp at h; omega)
def QxM {l:List Tx} {e:E} (h1:Qd7 l = true) (h2:e.okB = true) (h3:e.tx ≠ 0) {i:Nat} (hi:i < l.length) (h4:idT l e.tx = i):Qb9 l e = QpZ l i l[i] e:=by
 unfold Qb9
 rw [if_neg (by rw [h1]; decide),if_neg (by rw [h2]; decide),if_neg h3,h4,if_neg (by omega),Jp,Qm l i hi]
def w0:List Tx:=[⟨1,1,0,0,[],[]⟩]
def w1:List Tx:=[⟨1,1,1,0,[1],[]⟩]
def w2:List Tx:=[⟨1,1,1,0,[1],[1]⟩]
def w3:List Tx:=[⟨1,1,2,0,[1,2],[1]⟩]
def w4:List Tx:=[⟨1,1,3,0,[1,2,3],[1]⟩]
def w5:List Tx:=[⟨1,2,3,1,[1,2,3],[1]⟩]
end
section
attribute [local go_sem] Tx.d QBL QDk QDO QDN Quz Qzk QzE Qy7 Qy6 Qlz Jq Jj Jy JC Qch QbB
def Qgk (l:List Tx) (hl:l.length<=1000000) (a:Int):VCalls prog 152 [.pv (.sl (fz Qat l)),.int .i64 a] [] (Ret (.int .i64 (idT l a))):=by
 refine dd Tryz.func152 ?_
 (unfold Tryz.f152; refine rn trivial ?_)
 refine Qg (fun i:Pass l (fun x=>(x.id == a) = true)=>⟨20,0,[(5,.int .i64 i.i),(0,.pv (.sl (fz Qat l))),(1,.int .i64 a)],[]⟩) (fun i=>l.length - i.i) (Pass.start l _) (gc []) ?_
 intro i
 have hi:=i.hi
 have hg:=fun h:i.i < l.length=>Qqc l i.i h
 have F:=@hg
 refine rn F ?_
 repeat' (first
  | with_reducible exact ⟨⟩
  | (refine sB F ?_ ?_<;>intro hZ))
 ·have:=Qnp l (fun x=>x.id == a) i.i (by omega) (by rw [<- Qm l i.i (by omega) Tx0]; simpa using (by assumption:(l.getD i.i Tx0).id = a)) i.no
  rw [idT,this]
 ·exact ⟨i.next (by omega) (by rw [<- Qm l i.i (by omega) Tx0]; simpa using (by assumption:¬ (l.getD i.i Tx0).id = a)),by show l.length - (i.i + 1) < l.length - i.i; omega,(gc [])⟩
 ·have:=i.all (by omega)
  rw [idT,QhO,if_neg (by simpa using this)]
def Qb6 (l:List Tx) (hl:l.length<=1000000) (a:Int):VCalls prog 173 [.pv (.sl (fz Qat l)),.int .i64 a] [] (Ret (.int .i64 (idT l a))):=by
 refine dd Tryz.func173 ?_
 have h:=Qgk l hl a
 (unfold Tryz.f173; refine rn trivial ?_)
 refine rn F ?_
 repeat' (first
  | with_reducible exact ⟨⟩
  | refine vp F (h) ?_)
def QsD (l:List Tx) (hl:l.length<=1000000) (i:Nat) (hi:i < l.length) (t:Tx):VCalls prog 217 [.pv (.sl (fz Qat l)),.int .i64 i,.agg t.d] [] (Ret (.pv (.sl (fz Qat (l.set i t))))):=by
 refine dd Tryz.func217 ?_
 have hb:i * 6 + 6<=l.length * 6:=by omega
 have hse:(cells Qat l).take (i * 6) ++ [.pv (.lit (.int .i64 t.id)),.pv (.lit (.int .i64 t.st)),.pv (.lit (.int .i64 t.n)),.pv (.lit (.int .i64 t.b)),.pv (.sl (fz QW t.l)),.pv (.sl (fz QW t.s))] ++ (cells Qat l).drop (i * 6 + 6) = cells Qat (l.set i t):=Qn1 Qat l i t hi
 have hle:(l.set i t).length = l.length:=J2
 (unfold Tryz.f217; refine rn trivial ?_)
 have F:=(Ja @hb (Ja @hse @hle))
 (refine rn F ?_; try with_reducible exact ⟨⟩)
def QeC (t:Tx) (hs:t.sm):VCalls prog 218 [.agg t.d] [] (Ret (.agg (Qah t).d)):=by
 refine dd Tryz.func218 ?_
 have hg:=fun h:0 < t.l.length=>QF7 t.l h
 simp only [QbB] at hg
 obtain ⟨id,st,n,b,l,s⟩:=t
 obtain ⟨h1,h2⟩:=hs
 dsimp only at h1 h2 hg
 have eS:Qah ⟨id,st,n,b,l,s⟩ = if st = 2/\Qhl ⟨id,st,n,b,l,s⟩ b = false then ⟨id,1,n,0,l,s⟩ else ⟨id,st,n,b,l,s⟩:=rfl
 have eL:Qhl ⟨id,st,n,b,l,s⟩ b = (decide (0 < l.length) && decide (b < l.getD (l.length - 1) 0)):=rfl
 generalize Qah ⟨id,st,n,b,l,s⟩ = u at *
 generalize Qhl ⟨id,st,n,b,l,s⟩ b = B at *
 (unfold Tryz.f218; refine rn trivial ?_)
 have F:=@hg
 refine rn F ?_
 repeat' (first
  | with_reducible exact ⟨⟩
  | (refine sG F ?_ ?_<;>intro hZ)
  | (refine sB F ?_ ?_<;>intro hZ)
  | (refine Qd (id:=1) [0,1,2,3,4,5,6,7,8,9,10,11,12,13,14,15,16,17,18,19,20,21] [] (by kernel_rfl) (by kernel_rfl) ?_; refine rn F ?_))
 all_goals first
  | (rw [eS,if_pos ⟨by assumption,by rw [eL,decide_eq_false (show ¬ b < l.getD (l.length - 1) 0 by omega),JH]⟩])
  | (rw [eS,if_pos ⟨by assumption,by rw [eL,decide_eq_false (show ¬ 0 < l.length by omega),Bool.false_and]⟩])
  | (rw [eS,if_neg (by rintro ⟨h,_⟩; omega)])
  | (rw [eS,if_neg (by rintro ⟨_,h⟩; rw [eL,decide_eq_true (show b < l.getD (l.length - 1) 0 by omega),decide_eq_true (show 0 < l.length by omega)] at h; cases h)])
def Qga (l:List Tx) (t:Tx):cells Qat l ++ [.pv (.lit (.int .i64 t.id)),.pv (.lit (.int .i64 t.st)),.pv (.lit (.int .i64 t.n)),.pv (.lit (.int .i64 t.b)),.pv (.sl (fz QW t.l)),.pv (.sl (fz QW t.s))] = cells Qat (l ++ [t]):=by rw [Qz]; rfl
def Qs7 (l:List Tx) (a:Int):(QpN l a).length<=l.length:=Qx4 _ _
def Qs6 (l:List Tx) (a:Int) (i:Nat) (h:i < l.length):QpN (l.take (i + 1)) a = if (l.getD i Tx0).id = a then QpN (l.take i) a else QpN (l.take i) a ++ [l.getD i Tx0]:=by
 rw [Qm l i h]
 unfold QpN
 rw [QbR l _ i h]
 by_cases hx:l[i].id = a<;>simp [hx]
def Qg1 (l:List Tx) (hl:l.length<=1000000) (a:Int):VCalls prog 216 [.pv (.sl (fz Qat l)),.int .i64 a] [] (Ret (.pv (.sl (fz Qat (QpN l a))))):=by
 refine dd Tryz.func216 ?_
 (unfold Tryz.f216; refine rn trivial ?_)
 refine VLoop.nilOwn 5 215 6 rfl ?_
 refine Qg (fun s:To l.length=>⟨28,0,[(6,.int .i64 s.i),(5,.own 0 6 0 (QpN (l.take s.i) a).length),(0,.pv (.sl (fz Qat l))),(1,.int .i64 a)],[⟨215,true,cells Qat (QpN (l.take s.i) a)⟩]⟩) (fun s=>l.length - s.i) ⟨0,JE _⟩ (gc [0]) ?_
 intro s
 have hi:=s.hi
 have hg:=fun h:s.i < l.length=>Qqc l s.i h
 have hle:=Qs7 (l.take s.i) a
 rw [Jj] at hle
 have hb:((QpN (l.take s.i) a).length + 1) * 80<=140737488355328:=by omega
 have hs:=Qs6 l a s.i
 have F:=(Ja @hg (Ja @hb @Qga))
 refine rn F ?_
 repeat' (first
  | with_reducible exact ⟨⟩
  | (refine sB F ?_ ?_<;>intro hZ))
 ·replace hs:=hs (by omega)
  rw [if_neg (by assumption)] at hs
  refine ⟨⟨s.i + 1,by omega⟩,by show l.length - (s.i + 1) < l.length - s.i; omega,?_⟩
  rw [hs,Jq]
  exact (gc [2])
 ·replace hs:=hs (by omega)
  rw [if_pos (by assumption)] at hs
  refine ⟨⟨s.i + 1,by omega⟩,by show l.length - (s.i + 1) < l.length - s.i; omega,?_⟩
  rw [hs]
  exact (gc [0])
 ·rw [Ji (by omega)]
def QjA (l:List Tx) (a:Int):Int × Int:=
 if Qd7 l = false then (0,15) else if idT l a < 0 then (0,16) else if (l.getD (idT l a).toNat Tx0).st ≠ 1 then (0,15) else (idT l a,0)
def Qlb (l:List Tx) (a:Int):(QjA l a).2 = (Qw l a).2:=by
 unfold QjA Qw
 split
 ·rfl
 ·split
  ·rfl
  ·split<;>rfl
def Qlc (h:(Qw l a).2 = 0):(QjA l a).1 = idT l a:=by
 unfold QjA
 unfold Qw at h
 split at h
 ·simp at h
 ·rename_i h1
  split at h
  ·simp at h
  ·rename_i h2
   split at h
   ·simp at h
   ·rename_i h3
    rw [if_neg h1,if_neg h2,if_neg h3]
def Qla (l:List Tx) (hs:smL l) (a:Int):VCalls prog 245 [.pv (.sl (fz Qat l)),.int .i64 a] [] (Ret (.tup [.int .i64 (QjA l a).1,.int .i64 (QjA l a).2])):=by
 refine dd Tryz.func245 ?_
 have c1:=QbL l hs
 have c2:=Qgk l hs.1 a
 unfold QjA
 rcases Qak l a with h | ⟨i,hi,h,hid⟩
 ·rw [h] at c2 |-
  (unfold Tryz.f245; refine rn trivial ?_)
  refine rn F ?_
  repeat' (first
   | with_reducible exact ⟨⟩
   | (refine sB F ?_ ?_<;>intro hZ)
   | refine vp F (c1) ?_
   | refine vp F (c2) ?_)
  all_goals rfl
 ·rw [h] at c2 |-
  have hg:=Qqc l i hi
  rw [Jp,if_neg (show ¬ (i:Int) < 0 by omega)]
  (unfold Tryz.f245; refine rn trivial ?_)
  have F:=@hg
  refine rn F ?_
  repeat' (first
   | with_reducible exact ⟨⟩
   | (refine sB F ?_ ?_<;>intro hZ)
   | refine vp F (c1) ?_
   | refine vp F (c2) ?_)
  all_goals first | rfl | (rw [if_pos (by assumption)]) | (rw [if_neg (by omega)])
def QAU (l:List Tx) (hs:smL l) (a:Int):VCalls prog 201 [.pv (.sl (fz Qat l)),.int .i64 a] [] (Ret (QDd (Qsr l a))):=by
 refine VCalls.unwk ?_
 refine dd Tryz.func201 ?_
 have c1:=Qla l hs a
 have hok:=@QdW l a
 rw [Qlb] at c1
 unfold Qsr
 by_cases hz:(Qw l a).2 = 0
 ·obtain ⟨hv,i,hi,h1,h2,h3⟩:=hok hz
  rw [Qlc hz,h1,hz] at c1
  have hts:=Qfn (Qd6 hv hi)
  have hg:=QoO l i hi
  have hw:=QsD l hs.1 i hi ⟨l[i].id,l[i].st,l[i].n,l[i].b,l[i].l,l[i].s ++ [l[i].n]⟩
  rw [if_neg (by rw [hz]; simp),h3,h1,Jp]
  generalize l[i] = t at *
  obtain ⟨id,st,n,b,q,s⟩:=t
  dsimp only at hts hg hw
  (unfold Tryz.f201; refine rn trivial ?_)
  have F:=(Ja @hg @Qgb)
  refine rn F ?_
  repeat' (first
   | with_reducible exact ⟨⟩
   | (refine sB F ?_ ?_<;>intro hZ)
   | refine vp F (c1) ?_
   | (refine Qgd [3] _ _ (hw) rfl ⟨⟨by simp,Qu _ _ _⟩,trivial⟩ (by decide) rfl (by simp [DV.nums.go,DV.nums]) ?_ ?_; (focus (refine rd F)); refine rn F ?_)
   | (refine Qd (id:=7) [0,1,3,4] [⟨[5],[],2,[0,3,4],[]⟩,⟨[5],[5],6,[0,1,3,4],[7]⟩,⟨[],[],8,[],[]⟩] (by kernel_rfl) (by kernel_rfl) ?_; refine rn F ?_))
  all_goals first | rfl | (rw [if_pos (by omega)]; rfl) | (rw [if_neg (by omega)]; rfl) | skip
 ·generalize Qw l a = r at *
  generalize (QjA l a).1 = j at *
  rw [if_pos hz]
  (unfold Tryz.f201; refine rn trivial ?_)
  have F:=trivial
  refine rn F ?_
  repeat' (first
   | with_reducible exact ⟨⟩
   | refine vp F (c1) ?_)
  all_goals first | rfl | contradiction | skip
def QqW {l:List Tx} {a:Int} (h:(Qw l a).2 = 0):(Qw l a).1.st = 1/\(Qw l a).1.b = 0:=by
 obtain ⟨hv,i,hi,h1,h2,h3⟩:=QdW h
 have hst:(Qw l a).1.st = 1:=by
  unfold Qw at h |-
  split at h
  ·simp at h
  ·rename_i q1
   split at h
   ·simp at h
   ·rename_i q2
    split at h
    ·simp at h
    ·rename_i q3
     rw [if_neg q1,if_neg q2,if_neg q3]
     simpa using q3
 refine ⟨hst,?_⟩
 have ho:=Qd6 hv hi
 rw [h3] at hst |-
 simp only [Tx.okB,Tx.hdB,Jb,Jf,decide_eq_true_eq] at ho
 omega
def QBj (l:List Tx) (hs:smL l) (a sv:Int):VCalls prog 202 [.pv (.sl (fz Qat l)),.int .i64 a,.int .i64 sv] [] (Ret (QDd (Qvw l a sv))):=by
 refine VCalls.unwk ?_
 refine dd Tryz.func202 ?_
 have c1:=Qla l hs a
 have hok:=@QdW l a
 have hab:=@QqW l a
 rw [Qlb] at c1
 unfold Qvw
 by_cases hz:(Qw l a).2 = 0
 ·obtain ⟨hv,i,hi,h1,h2,h3⟩:=hok hz
  obtain ⟨hst,hb0⟩:=hab hz
  rw [Qlc hz,h1,hz] at c1
  have hts:=Qfn (Qd6 hv hi)
  have hg:=QoO l i hi
  rw [if_neg (by rw [hz]; simp),h3,h1,Jp]
  rw [h3] at hst hb0
  have hw:=QsD l hs.1 i hi
  by_cases hr:sv < 0\/((l[i].s.length:Int)<=sv)
  ·generalize l[i] = t at *
   obtain ⟨id,st,n,b,q,s⟩:=t
   dsimp only at hr hg |-
   rw [if_pos hr]
   (unfold Tryz.f202; refine rn trivial ?_)
   have F:=@hg
   refine rn F ?_
   repeat' (first
    | with_reducible exact ⟨⟩
    | (refine sG F ?_ ?_<;>intro hZ)
    | refine vp F (c1) ?_)
   all_goals first | rfl | (exfalso; omega)
  obtain ⟨k,rfl⟩:∃ k:Nat,sv = k:=⟨sv.toNat,by omega⟩
  have hk:k < l[i].s.length:=by omega
  rw [if_neg (by omega),Jp]
  have hw2:=hw (Qah ⟨l[i].id,2,l[i].n,l[i].s.getD k 0,l[i].l,l[i].s.take (k + 1)⟩)
  generalize l[i] = t at *
  obtain ⟨id,st,n,b,q,s⟩:=t
  dsimp only at hts hg hk hst hb0 hw2 |-
  subst hst hb0
  have hse:=QeC ⟨id,2,n,s.getD k 0,q,s.take (k + 1)⟩ ⟨by show q.length<=_; omega,by show (s.take (k + 1)).length<=_; rw [Jj]; omega⟩
  have eS:Qah ⟨id,2,n,s.getD k 0,q,s.take (k + 1)⟩ = if Qhl ⟨id,1,n,0,q,s⟩ (s.getD k 0) = true then ⟨id,2,n,s.getD k 0,q,s.take (k + 1)⟩ else ⟨id,1,n,0,q,s.take (k + 1)⟩:=by
   unfold Qah
   have e:Qhl ⟨id,2,n,s.getD k 0,q,s.take (k + 1)⟩ (s.getD k 0) = Qhl ⟨id,1,n,0,q,s⟩ (s.getD k 0):=rfl
   cases hB:Qhl ⟨id,1,n,0,q,s⟩ (s.getD k 0)
   ·rw [if_pos ⟨rfl,by rw [<- hB]; exact e⟩]; rfl
   ·rw [if_neg (by rintro ⟨_,h⟩; rw [show Qhl ⟨id,2,n,s.getD k 0,q,s.take (k + 1)⟩ (s.getD k 0) = true from e.trans hB] at h; cases h)]; rfl
  have hgc:((cells QW (s.take (k + 1))).drop k).take 1 = [.int .i64 (s.getD k 0)]:=by
   have hgc:(cells QW (s.take (k + 1)))[k]? = some (.int .i64 (s.getD k 0)):=by
    rw [QfB _ _ (by rw [Jj]; omega)]
    simp [Jh,JJ]
   obtain ⟨h,e⟩:=List.getElem?_eq_some_iff.1 hgc
   rw [List.drop_eq_getElem_cons h,e]; rfl
  have hgd:(cells QW (s.take (k + 1)))[k]? = some (.int .i64 (s.getD k 0)):=by
   rw [QfB _ _ (by rw [Jj]; omega)]
   simp [Jh,JJ]
  have hl1:(s.take (k + 1)).length = k + 1:=by rw [Jj]; omega
  have ek:((k:Int) + 1).toNat = k + 1:=by omega
  have fin:(if Qhl ⟨id,1,n,0,q,s⟩ (s.getD k 0) = true then (l.set i ⟨id,2,n,s.getD k 0,q,s.take (k + 1)⟩,(0:Int)) else (l.set i ⟨id,1,n,0,q,s.take (k + 1)⟩,0)) = (l.set i (Qah ⟨id,2,n,s.getD k 0,q,s.take (k + 1)⟩),0):=by
   rw [eS]; split<;>rfl
  rw [fin]
  clear fin eS
  generalize hT:Qah ⟨id,2,n,s.getD k 0,q,s.take (k + 1)⟩ = T at *
  (unfold Tryz.f202; refine rn trivial ?_)
  have F:=(Ja @hg (Ja @hl1 (Ja @ek (Ja @hgc @hgd))))
  refine rn F ?_
  repeat' (first
   | with_reducible exact ⟨⟩
   | refine vp F (c1) ?_
   | (refine Qgd [1] _ _ (hse) rfl ⟨⟨by simp,Qu _ _ _⟩,trivial⟩ (by decide) rfl (by simp [DV.nums.go,DV.nums]) ?_ ?_; (focus (refine rd F)); refine rn F ?_)
   | refine vp F (hw2) ?_
   | (refine Qd (id:=8) [0,1,2,3,4,5] [⟨[],[],6,[2,3,4],[7]⟩,⟨[],[],8,[],[]⟩] (by kernel_rfl) (by kernel_rfl) ?_; refine rn F ?_))
  all_goals first | rfl | skip
 ·generalize Qw l a = r at *
  generalize (QjA l a).1 = j at *
  rw [if_pos hz]
  (unfold Tryz.f202; refine rn trivial ?_)
  have F:=trivial
  refine rn F ?_
  repeat' (first
   | with_reducible exact ⟨⟩
   | refine vp F (c1) ?_)
  all_goals first | rfl | contradiction | skip
end
section
attribute [local go_sem] Tx.d QBL QDk QDO QDN Quz Qzk QzE Qy7 Qy6 Qlz Jq Jj Jy JC Qch QbB QcP Qdk Qct Qa2 QaF QnW QkI Qgt QeU Qep Qdx QFI
structure Fr (l:List Tx) (a:Int) where
 j:Nat
 hj:j<=l.length
 lt:∀ k,∀ h:k < l.length,k < j->l[k].id < a
def Fr.fin {l:List Tx} {a:Int} (s:Fr l a) (h:∀ h:s.j < l.length,¬ l[s.j].id < a):QDe l a = s.j:=
 QEx l _ s.j s.hj (fun k hk hkj=>decide_eq_true (s.lt k hk hkj)) (fun hj=>decide_eq_false (h hj))
def Qwm {l:List Tx} (h:j<=l.length):(l.take j).length = j:=by rw [Jj]; omega
def QmN (l:List Tx) (j:Nat) (h:j < l.length):cells Qat (l.take j) ++ [.pv (.lit (.int .i64 (l.getD j Tx0).id)),.pv (.lit (.int .i64 (l.getD j Tx0).st)),.pv (.lit (.int .i64 (l.getD j Tx0).n)),.pv (.lit (.int .i64 (l.getD j Tx0).b)),.pv (.sl (fz QW (l.getD j Tx0).l)),.pv (.sl (fz QW (l.getD j Tx0).s))] = cells Qat (l.take (j + 1)):=by
 rw [Qga,Jt h,Qm l j h]
def Qoi (l:List Tx) (hs:smL l) (a:Int):VCalls prog 118 [.pv (.sl (fz Qat l)),.int .i64 a] [] (Ret (QDd (Qcz l a))):=by
 refine VCalls.unwk ?_
 have hl:=hs.1
 have c1:=QbL l hs
 have c2:=Qgk l hl a
 have eS:Qcz l a = if Qd7 l = false then ([],15) else if a < 1\/1073741824 < a then ([],1) else if 0<=idT l a then ([],25) else if l.length = 64 then ([],21) else (l.take (QDe l a) ++ ⟨a,1,0,0,[],[]⟩ :: l.drop (QDe l a),0):=rfl
 have hfin:=@Fr.fin l a
 have hp:QDe l a<=l.length:=QF2 _ _
 have hsm:=@QnZ l
 generalize idT l a = d at *
 generalize Qcz l a = res at *
 generalize Qd7 l = T at *
 refine QbY (fn:=Tryz.f118) (c:=QcP Tryz.f118) Tryz.func118 rfl (by kernel_rfl) (by simp [Tryz.f118]) ?_
 refine QDx 5 ?_
 generalize hrest:QcJ 5 (QcP Tryz.f118) = rest
 (unfold Tryz.f118; refine rn trivial ?_)
 have F:=trivial
 refine rn F ?_
 repeat' (first
  | (refine sG F ?_ ?_<;>intro hZ<;>try with_reducible exact ⟨⟩)
  | (refine sB F ?_ ?_<;>intro hZ<;>try with_reducible exact ⟨⟩)
  | (refine sD F ?_ ?_<;>intro hZ<;>try with_reducible exact ⟨⟩)
  | (refine vp F (c1) ?_; try with_reducible exact ⟨⟩)
  | (refine vd F (c1) ?_; try with_reducible exact ⟨⟩)
  | (refine vl F (c1) ?_; try with_reducible exact ⟨⟩)
  | (refine vp F (c2) ?_; try with_reducible exact ⟨⟩)
  | (refine vd F (c2) ?_; try with_reducible exact ⟨⟩)
  | (refine vl F (c2) ?_; try with_reducible exact ⟨⟩)
  | (refine Qd (id:=14) [0,1,2,5,6,7,8] [⟨[3],[3],4,[1,2,5,6,7,8],[]⟩,⟨[],[],9,[0,1,2,5,6,7],[]⟩,⟨[],[],10,[],[]⟩,⟨[],[],11,[],[]⟩] (by kernel_rfl) (by kernel_rfl) ?_; refine rn F ?_; try with_reducible exact ⟨⟩)
  | (refine QdX (by kernel_rfl) (by kernel_rfl) ?_; refine rn F ?_; try with_reducible exact ⟨⟩))
 all_goals first
  | (rw [eS]; repeat (first | rw [if_pos (by first | assumption | omega)] | rw [if_neg (by first | assumption | omega | (rw [show T = true by assumption]; decide))])
     rfl)
  | skip
 rw [eS]
 repeat (first | rw [if_pos (by first | assumption | omega)] | rw [if_neg (by first | assumption | omega | (rw [show T = true by assumption]; decide))])
 have hsm:=hsm (by assumption)
 refine VLoop.nilOwn 6 215 6 rfl ?_
 refine Qg (fun s:Fr l a=>⟨60,0,[(7,.int .i64 s.j),(6,.own 0 6 0 s.j),(0,.pv (.sl (fz Qat l))),(1,.int .i64 a)],[⟨215,true,cells Qat (l.take s.j)⟩]⟩) (fun s=>l.length - s.j) ⟨0,JE _,fun k _ h=>by omega⟩ (gc [0]) ?_
 intro s
 have hj:=s.hj
 have hlt:=s.lt
 have hf:=hfin s
 have htl:=Qwm s.hj
 have hg:=fun h:s.j < l.length=>Qqc l s.j h
 have hts:=fun h:s.j < l.length=>QmN l s.j h
 have hcl:(cells Qat (l.take s.j)).length = s.j * 6:=by rw [QBL,htl]
 have hta:(cells Qat (l.take s.j)).take (s.j * 6) = cells Qat (l.take s.j):=QDk _ _ (by rw [htl]; exact Ki _)
 have hb:(s.j + 1) * 80<=140737488355328:=by omega
 have htx:(cells Qat (l.take s.j) ++ ([.pv (.lit (.int .i64 a)),.pv (.lit (.int .i64 1)),.pv (.lit (.int .i64 0)),.pv (.lit (.int .i64 0)),.pv (.slc []),.pv (.slc [])]:List DV)).take ((s.j + 1) * 6) = cells Qat (l.take s.j) ++ [.pv (.lit (.int .i64 a)),.pv (.lit (.int .i64 1)),.pv (.lit (.int .i64 0)),.pv (.lit (.int .i64 0)),.pv (.slc []),.pv (.slc [])]:=by
  rw [Ji]; rw [Jq,hcl]; simp; omega
 have hb2:(s.j + 1 + (l.length - s.j)) * 80<=140737488355328:=by omega
 have hb3:(s.j + 1) * 6<=s.j * 6 + 6:=by omega
 have hw:DV.wk.go (cells Qat (l.take s.j) ++ [.pv (.lit (.int .i64 a)),.pv (.lit (.int .i64 1)),.pv (.lit (.int .i64 0)),.pv (.lit (.int .i64 0)),.pv (.slc []),.pv (.slc [])] ++ cells Qat (l.drop s.j)) = cells Qat (l.take s.j ++ ⟨a,1,0,0,[],[]⟩ :: l.drop s.j):=by
  rw [QyZ,QyZ,QFI,QFI,Qz,JB]
  rfl
 have hfl:(l.take s.j ++ (⟨a,1,0,0,[],[]⟩:Tx) :: l.drop s.j).length = s.j + 1 + (l.length - s.j):=by
  rw [Jq,JR,Jy,htl]; omega
 have F:=(Ja @hg (Ja @hts (Ja @hcl (Ja @hta (Ja @hb (Ja @htx (Ja @hb2 @hb3)))))))
 refine rn F ?_
 repeat' (first
  | (refine sG F ?_ ?_<;>intro hZ<;>try with_reducible exact ⟨⟩)
  | (refine sB F ?_ ?_<;>intro hZ<;>try with_reducible exact ⟨⟩)
  | (refine sD F ?_ ?_<;>intro hZ<;>try with_reducible exact ⟨⟩)
  | (refine Qd (id:=14) [0,1,2,5,6,7,8] [⟨[3],[3],4,[1,2,5,6,7,8],[]⟩,⟨[],[],9,[0,1,2,5,6,7],[]⟩,⟨[],[],10,[],[]⟩,⟨[],[],11,[],[]⟩] (by kernel_rfl) (by kernel_rfl) ?_; refine rn F ?_; try with_reducible exact ⟨⟩)
  | (refine QdX (by kernel_rfl) (by kernel_rfl) ?_; refine rn F ?_; try with_reducible exact ⟨⟩))
 all_goals first
  | (refine ⟨⟨s.j + 1,by omega,fun k h' hkj=>?_⟩,by show l.length - (s.j + 1) < l.length - s.j; omega,(gc [2])⟩
     rcases J1 k s.j with h | h
     ·exact hlt k h' h
     ·obtain rfl:k = s.j:=by omega
      rw [<- Qm l s.j h' Tx0]
      assumption)
  | (rw [hf (fun h=>by first | (rw [<- Qm l s.j h Tx0]; exact Int.not_lt.2 (by assumption)) | (clear F hg hts hf hlt htx hw; omega))]
     refine QAa ?_
     subst hrest
     simp (config:={ maxSteps:=2000000 }) (implicitDefEqProofs:=false) (disch:=first | omega | assumption) only [go_sem,↓reduceIte,Jz,Jc,JA,Jd,Tryz.f118,hw,Quz hfl]
     rfl)
end
section
attribute [local go_sem] Tx.d QBL QDk QDO QDN Quz Qzk QzE Qy7 Qy6 Qlz Jq Jj Jy JC Qch QbB
def QuS (q:List Int) (r:Int) (i:Nat) (h:i < q.length):(q.take (i + 1)).filter (fun x=>decide (x ≠ r)) = (q.take i).filter (fun x=>decide (x ≠ r)) ++ (if q.getD i 0 = r then [] else [q.getD i 0]):=by
 rw [Jt h,J9,Qm q i h]
 by_cases hx:q[i] = r<;>simp [hx]
def QCn (q:List Int) (r:Int) (i:Nat):((q.take i).filter fun x=>decide (x ≠ r)).length<=i:=by
 refine Nat.le_trans (JM _ _) ?_
 rw [Jj]; omega
def QCo (q:List Int) (r:Int):(q.filter fun x=>decide (x ≠ r)).length = q.length ↔ r ∉ q:=by
 rw [List.length_filter_eq_length_iff]
 constructor
 ·intro h hm; simpa using h r hm
 ·intro h x hx; exact decide_eq_true fun e=>h (e ▸ hx)
def Qm1 (l:List Tx) (hs:smL l) (e:E):VCalls prog 176 [.pv (.sl (fz Qat l)),.agg e.d] [] (Ret (QDd (Qb9 l e))):=by
 refine VCalls.unwk ?_
 have c1:=QbL l hs
 have c2:=QcG e
 have c3:=Qgk l hs.1 e.tx
 have c4:=Qg1 l hs.1 e.tx
 have hw:=fun (i:Nat) (hi:i < l.length) (t:Tx)=>QsD l hs.1 i hi t
 have hok:=@QxI e
 have hat:=@QxM l e
 have e0:Qb9 l e = if Qd7 l = false then ([],15) else if e.okB = false then ([],12) else if e.tx = 0 then (l,0) else if idT l e.tx < 0 then ([],16)
  else QpZ l (idT l e.tx).toNat (l.getD (idT l e.tx).toNat Tx0) e:=rfl
 by_cases hv:Qd7 l = true
 rotate_left
 ·have hv':Qd7 l = false:=by simpa using hv
  rw [e0,if_pos hv']
  rw [hv'] at c1
  refine dd Tryz.func176 ?_
  unfold E.d
  (unfold Tryz.f176; refine rn trivial ?_)
  refine rn F ?_
  repeat' (first
   | with_reducible exact ⟨⟩
   | refine vp F (c1) ?_)
  rfl
 by_cases hk:e.okB = true
 rotate_left
 ·have hk':e.okB = false:=by simpa using hk
  rw [e0,if_neg (by rw [hv]; decide),if_pos hk']
  rw [hv] at c1
  rw [hk'] at c2
  unfold E.d at c2 |-
  refine dd Tryz.func176 ?_
  (unfold Tryz.f176; refine rn trivial ?_)
  refine rn F ?_
  repeat' (first
   | with_reducible exact ⟨⟩
   | refine vp F (c1) ?_
   | refine vp F (c2) ?_)
  rfl
 by_cases ht:e.tx = 0
 ·rw [e0,if_neg (by rw [hv]; decide),if_neg (by rw [hk]; decide),if_pos ht]
  rw [hv] at c1
  rw [hk] at c2
  unfold E.d at c2 |-
  refine dd Tryz.func176 ?_
  (unfold Tryz.f176; refine rn trivial ?_)
  have F:=@ht
  refine rn F ?_
  repeat' (first
   | with_reducible exact ⟨⟩
   | refine vp F (c1) ?_
   | refine vl F (c2) ?_)
  rfl
 rw [hv] at c1
 rw [hk] at c2
 rcases Qak l e.tx with h | ⟨i,hi,h,hid⟩
 ·rw [e0,if_neg (by rw [hv]; decide),if_neg (by rw [hk]; decide),if_neg ht,h,if_pos (by decide)]
  rw [h] at c3
  unfold E.d at c2 |-
  refine dd Tryz.func176 ?_
  (unfold Tryz.f176; refine rn trivial ?_)
  have F:=@ht
  refine rn F ?_
  repeat' (first
   | with_reducible exact ⟨⟩
   | refine vp F (c1) ?_
   | refine vp F (c2) ?_
   | refine vp F (c3) ?_)
  all_goals first | rfl | contradiction
 rw [hat hv hk ht hi h]
 have hkk:=hok hk ht
 rw [h] at c3
 have hg:=QoO l i hi
 have hto:=Qd6 hv hi
 have hso:=QBD hto
 have hle:=Qfn hto
 clear hat e0 hok
 generalize hT:l[i] = t at *
 obtain ⟨id,st,n,b,q,s⟩:=t
 dsimp only at hid hso hle hg
 obtain ⟨lsn,kind,tx,ptx,ppg,ref,c,blob⟩:=e
 dsimp only at hid c4 c3 h hkk ht
 unfold E.d at c2 |-
 dsimp only at c2 |-
 unfold QpZ
 dsimp only
 by_cases hp:ptx = n
 rotate_left
 ·rw [if_pos (.inl hp)]
  refine dd Tryz.func176 ?_
  (unfold Tryz.f176; refine rn trivial ?_)
  have F:=(Ja @ht @hg)
  refine rn F ?_
  repeat' (first
   | with_reducible exact ⟨⟩
   | refine vp F (c1) ?_
   | refine vp F (c2) ?_
   | refine vp F (c3) ?_)
  all_goals first | rfl | contradiction | omega
 subst hp
 rcases hkk with rfl | rfl | rfl | rfl | rfl
 ·rw [if_neg (by rintro (h | h); exact h rfl; omega),if_neg (by omega)]
  have hwA:=hw i hi (Qah (Qfo ⟨id,st,ptx,b,q,s⟩ ⟨lsn,1,tx,ptx,ppg,ref,c,blob⟩))
  have hse:=QeC (Qfo ⟨id,st,ptx,b,q,s⟩ ⟨lsn,1,tx,ptx,ppg,ref,c,blob⟩)
  have eN:Qfo ⟨id,st,ptx,b,q,s⟩ ⟨lsn,1,tx,ptx,ppg,ref,c,blob⟩ = ⟨id,st,lsn,b,q ++ [lsn],s⟩:=rfl
  rw [eN] at hwA hse |-
  replace hse:=hse ⟨by simp; omega,by show s.length<=_; omega⟩
  generalize Qah ⟨id,st,lsn,b,q ++ [lsn],s⟩ = u at *
  refine dd Tryz.func176 ?_
  (unfold Tryz.f176; refine rn trivial ?_)
  have F:=(Ja @ht (Ja @hg @Qgb))
  refine rn F ?_
  repeat' (first
   | with_reducible exact ⟨⟩
   | refine vp F (c1) ?_
   | refine vp F (c2) ?_
   | refine vp F (c3) ?_
   | (refine Qgd [4] _ _ (hse) rfl ⟨⟨by simp,Qu _ _ _⟩,trivial⟩ (by decide) rfl (by simp [DV.nums.go,DV.nums]) ?_ ?_; (focus (refine rd F)); refine rn F ?_)
   | refine vp F (hwA) ?_
   | (refine Qd (id:=17) [0,1,3,4] [⟨[5],[],2,[0,3,4],[]⟩,⟨[5],[5],6,[0,1,3,4],[7]⟩,⟨[],[],8,[],[]⟩] (by kernel_rfl) (by kernel_rfl) ?_; refine rn F ?_))
  all_goals first | rfl | skip
 ·refine dd Tryz.func176 ?_
  (unfold Tryz.f176; refine rn trivial ?_)
  have F:=(Ja @ht @hg)
  refine rn F ?_
  repeat' (first
   | with_reducible exact ⟨⟩
   | refine vp F (c1) ?_
   | refine vp F (c2) ?_
   | refine vp F (c3) ?_)
  rotate_left
  all_goals first | contradiction | skip
  refine VLoop.nilOwn 8 3 1 rfl ?_
  refine Qg (fun s0:To q.length=>⟨100,0,[(9,.int .i64 s0.i),(8,.own 2 1 0 ((q.take s0.i).filter fun x=>decide (x ≠ ref)).length),(7,.ptr 1 0),(6,.int .i64 i),(3,.ptr 0 0),(0,.pv (.sl (fz Qat l)))],
   [⟨73,true,[.int .i64 lsn,.int .i64 2,.int .i64 tx,.int .i64 ptx,.int .i64 ppg,.int .i64 ref,.int .i64 c.pg,.int .i64 c.sl,.bool c.b.set,.pv (.str c.b.data),.bool c.a.set,.pv (.str c.a.data),.pv (.str blob)]⟩,
    ⟨215,true,[.int .i64 id,.int .i64 st,.int .i64 lsn,.int .i64 b,.pv (.sl (fz QW q)),.pv (.sl (fz QW s))]⟩,
    ⟨3,true,cells QW ((q.take s0.i).filter fun x=>decide (x ≠ ref))⟩]⟩) (fun s0=>q.length - s0.i) ⟨0,JE _⟩ (gc [0,1,2]) ?_
  intro s0
  have hi0:=s0.hi
  have hgq:=fun h:s0.i < q.length=>Qae q s0.i h
  have hfl:=QCn q ref s0.i
  have hfs:=QuS q ref s0.i
  have hwA:=hw i hi (Qah (Qfo ⟨id,st,ptx,b,q,s⟩ ⟨lsn,2,tx,ptx,ppg,ref,c,blob⟩))
  have hse:=QeC (Qfo ⟨id,st,ptx,b,q,s⟩ ⟨lsn,2,tx,ptx,ppg,ref,c,blob⟩)
  have eN:Qfo ⟨id,st,ptx,b,q,s⟩ ⟨lsn,2,tx,ptx,ppg,ref,c,blob⟩ = ⟨id,st,lsn,b,q.filter fun x=>decide (x ≠ ref),s⟩:=rfl
  have hfq:=QCo q ref
  rw [eN] at hwA hse |-
  have hfl2:(q.filter fun x=>decide (x ≠ ref)).length<=q.length:=JM _ _
  replace hse:=hse ⟨by show (q.filter fun x=>decide (x ≠ ref)).length<=_; omega,by show s.length<=_; omega⟩
  by_cases hc:s0.i < q.length
  ·replace hfs:=hfs hc
   generalize ((q.take s0.i).filter fun x=>decide (x ≠ ref)) = out at *
   have hb:(out.length + 1) * 8<=140737488355328:=by omega
   have F:=(Ja @hgq (Ja @Qgb @hb))
   refine rn F ?_
   repeat' (first
    | with_reducible exact ⟨⟩
    | (refine sB F ?_ ?_<;>intro hZ)
    | (refine Qd (id:=23) [0,1,2,3,4,5,6,7] [] (by kernel_rfl) (by kernel_rfl) ?_; refine rn F ?_))
   ·have hf2:(q.take (s0.i + 1)).filter (fun x=>decide ¬x = ref) = out ++ [q.getD s0.i 0]:=by rw [if_neg (by assumption)] at hfs; exact hfs
    refine ⟨⟨s0.i + 1,by omega⟩,by show q.length - (s0.i + 1) < q.length - s0.i; omega,?_⟩
    dsimp only
    rw [hf2,Jq]
    exact (gc [0,1,4])
   ·have hf2:(q.take (s0.i + 1)).filter (fun x=>decide ¬x = ref) = out:=by rw [if_pos (by assumption),JU] at hfs; exact hfs
    refine ⟨⟨s0.i + 1,by omega⟩,by show q.length - (s0.i + 1) < q.length - s0.i; omega,?_⟩
    dsimp only
    rw [hf2]
    exact (gc [0,1,2])
  ·rw [Ji (by omega)] at *
   generalize (q.filter fun x=>decide (x ≠ ref)) = out at *
   generalize Qah ⟨id,st,lsn,b,out,s⟩ = u at *
   have F:=trivial
   refine rn F ?_
   repeat' (first
    | with_reducible exact ⟨⟩
    | (refine sB F ?_ ?_<;>intro hZ)
    | (refine Qgd [2] _ _ (hse) rfl ⟨⟨by simp,Qu _ _ _⟩,trivial⟩ (by decide) rfl (by simp [DV.nums.go,DV.nums]) ?_ ?_; (focus (refine rd F)); refine rn F ?_)
    | refine vp F (hwA) ?_)
   all_goals first | (rw [if_pos (hfq.1 (by omega))]; rfl) | (rw [if_neg (fun h=>absurd (hfq.2 h) (by omega))]; rfl) | skip
 ·rw [if_neg (by rintro (h | h); exact h rfl; omega),if_pos (by omega)]
  refine dd Tryz.func176 ?_
  (unfold Tryz.f176; refine rn trivial ?_)
  have F:=(Ja @ht @hg)
  refine rn F ?_
  repeat' (first
   | with_reducible exact ⟨⟩
   | refine vp F (c1) ?_
   | refine vp F (c2) ?_
   | refine vp F (c3) ?_
   | refine vp F (c4) ?_)
  all_goals rfl
 ·rw [if_neg (by rintro (h | h); exact h rfl; omega),if_neg (by omega)]
  have hwA:=hw i hi (Qah (Qfo ⟨id,st,ptx,b,q,s⟩ ⟨lsn,4,tx,ptx,ppg,ref,c,blob⟩))
  have hse:=QeC (Qfo ⟨id,st,ptx,b,q,s⟩ ⟨lsn,4,tx,ptx,ppg,ref,c,blob⟩)
  have eN:Qfo ⟨id,st,ptx,b,q,s⟩ ⟨lsn,4,tx,ptx,ppg,ref,c,blob⟩ = ⟨id,3,lsn,0,q,[]⟩:=rfl
  rw [eN] at hwA hse |-
  replace hse:=hse ⟨by show q.length<=_; omega,by simp⟩
  have hse2:VCalls prog 218 [.agg [.int .i64 id,.int .i64 3,.int .i64 lsn,.int .i64 0,.pv (.sl (fz QW q)),.pv (.slc [])]] [] (Ret (.agg (Qah ⟨id,3,lsn,0,q,[]⟩).d)):=VCalls.wkA hse
  generalize Qah ⟨id,3,lsn,0,q,[]⟩ = u at *
  refine dd Tryz.func176 ?_
  (unfold Tryz.f176; refine rn trivial ?_)
  have F:=(Ja @ht @hg)
  refine rn F ?_
  repeat' (first
   | with_reducible exact ⟨⟩
   | refine vp F (c1) ?_
   | refine vp F (c2) ?_
   | refine vp F (c3) ?_
   | refine vp F (hse2) ?_
   | refine vp F (hwA) ?_)
  all_goals rfl
 ·rw [if_neg (by rintro (h | h); exact h rfl; omega),if_pos (by omega)]
  refine dd Tryz.func176 ?_
  (unfold Tryz.f176; refine rn trivial ?_)
  have F:=(Ja @ht @hg)
  refine rn F ?_
  repeat' (first
   | with_reducible exact ⟨⟩
   | refine vp F (c1) ?_
   | refine vp F (c2) ?_
   | refine vp F (c3) ?_
   | refine vp F (c4) ?_)
  all_goals rfl
end
attribute [go_sem] Ce.d Ch.d E.d Lg.c Qlz Jq Jj Jy JC Qch QbB
attribute [go_sem] Qfq Qim Qil Qh2 Qh1 Qie QcA
def Okay.no (s:Okay n c) (h:s.i < n) (hB:B = (Jv n).all c) (hc:c s.i = false):B = false:=by rw [hB,QaM h hc]
def Okay.yes (s:Okay n c) (h:¬ s.i < n) (hB:B = (Jv n).all c):B = true:=by rw [hB,s.all h]
def Okay.dec (s:Okay n c) (h:s.i < n):n - (s.i + 1) < n - s.i:=by omega
structure Pg where
 id:Int
 lsn:Int
 cel:Nat->Ce
def QHp (c:Nat->Ce):List PV:=(Jv 16).flatMap fun i=>[.lit (.bool (c i).set),.str (c i).data]
def Pg.p (x:Pg):List PV:=.lit (.int .i64 x.id) :: .lit (.int .i64 x.lsn) :: QHp x.cel
def Pg.d (x:Pg):List DV:=x.p.map .pv
def Pg0:Pg:=⟨0,0,fun _=>Ce0⟩
structure Fm where
 pg:Pg
 dirty:Bool
 rc:Int
 used:Bool
def Fm.p (f:Fm):List PV:=f.pg.p ++ [.lit (.bool f.dirty),.lit (.int .i64 f.rc),.lit (.bool f.used)]
def Fm.d (f:Fm):List DV:=f.p.map .pv
def Fm0:Fm:=⟨Pg0,false,0,false⟩
def QcC:Enc Fm:=⟨37,Fm.p,by decide,fun _=>rfl⟩
def QFz (l:List Fm):(cells QcC l).length = l.length * 37:=Qy QcC l
def QHA (l:List Fm) (n:Nat) (h:l.length * 37<=n):(cells QcC l).take n = cells QcC l:=by rw [Ji]; rw [QFz]; exact h
def QHt (l m:List Fm):cells QcC l ++ cells QcC m = cells QcC (l ++ m):=(Qz QcC l m).symm
def QHa (l:List Fm) (T:TypeId) (a b:Nat) (h:a<=b/\b<=l.length):Qkh (some (none,T,37)) (fz QcC l) a b = some (.pv (.sl (fz QcC ((l.take b).drop a)))):=QgB QcC l T a b h
def QG7 (l:List Fm):(fz QcC l = []\/(fz QcC l)[0]?.map JD = some 37) = True:=Qhq QcC l
def QFD (h:l.length = len):Qgy n hp 0 37 len (some (cells QcC l)) = some (.sl (fz QcC l)):=QZ QcC h
def Qdm (e:Enc α) (l:List α) (d:α) (i:Nat) (h:i < l.length):(fz e l)[i]? = some (e.enc (l.getD i d)):=by rw [Qm l i h d]; exact QiM e l i h
def Qb1 (l:List Fm) (i:Nat) (h:i < l.length):(fz QcC l)[i]? = some (l.getD i Fm0).p:=Qdm QcC l Fm0 i h
def QvA (l:List Fm) (f:Fm):cells QcC l ++ f.d = cells QcC (l ++ [f]):=by rw [Qz]; simp [cells,QcC,Fm.d]
@[go_sem] def QG1 (x:Fm) (h0:0<=i):QDr (some (none,T,37)) (some x.p) i = some (.ip x.p):=Qkp h0 rfl (by decide)
@[go_sem] theorem Pg.p_len (x:Pg):x.p.length = 34:=rfl
@[go_sem] theorem Pg.d_len (x:Pg):x.d.length = 34:=rfl
@[go_sem] theorem Fm.p_len (x:Fm):x.p.length = 37:=rfl
@[go_sem] theorem Fm.d_len (x:Fm):x.d.length = 37:=rfl
@[go_sem] def Pg.p_map (x:Pg):x.p.map DV.pv = x.d:=(rfl)
@[go_sem] def Fm.p_map (x:Fm):x.p.map DV.pv = x.d:=(rfl)
@[go_sem] def Fm.p_take (x:Fm):x.p.take 37 = x.p:=(rfl)
@[go_sem] def Fm.d_take (x:Fm):x.d.take 37 = x.d:=(rfl)
@[go_sem] def Pg.p_take (x:Pg):x.p.take 34 = x.p:=(rfl)
@[go_sem] def Pg.d_take (x:Pg):x.d.take 34 = x.d:=(rfl)
@[go_sem] def Fm.p_pg (x:Fm):x.p.take 34 = x.pg.p:=(rfl)
@[go_sem] def Fm.d_pg (x:Fm):x.d.take 34 = x.pg.d:=(rfl)
@[go_sem] def Fm.p0 (x:Fm):x.p[0]? = some (.lit (.int .i64 x.pg.id)):=(rfl)
def Fm.p1 (x:Fm):x.p[1]? = some (.lit (.int .i64 x.pg.lsn)):=(rfl)
@[go_sem] def Fm.pd1 (x:Fm):(x.p.drop 1)[0]? = some (.lit (.int .i64 x.pg.lsn)):=(rfl)
@[go_sem] def Fm.pd34 (x:Fm):(x.p.drop 34)[0]? = some (.lit (.bool x.dirty)):=(rfl)
@[go_sem] def Fm.pd35 (x:Fm):(x.p.drop 35)[0]? = some (.lit (.int .i64 x.rc)):=(rfl)
@[go_sem] def Fm.pd36 (x:Fm):(x.p.drop 36)[0]? = some (.lit (.bool x.used)):=(rfl)
@[go_sem] def Fm.d0 (x:Fm):x.d[0]? = some (.pv (.lit (.int .i64 x.pg.id))):=(rfl)
@[go_sem] def Fm.d1 (x:Fm):x.d[1]? = some (.pv (.lit (.int .i64 x.pg.lsn))):=(rfl)
@[go_sem] def Fm.d34 (x:Fm):x.d[34]? = some (.pv (.lit (.bool x.dirty))):=(rfl)
@[go_sem] def Fm.d35 (x:Fm):x.d[35]? = some (.pv (.lit (.int .i64 x.rc))):=(rfl)
@[go_sem] def Pg.p0 (x:Pg):x.p[0]? = some (.lit (.int .i64 x.id)):=(rfl)
def Pg.p1 (x:Pg):x.p[1]? = some (.lit (.int .i64 x.lsn)):=(rfl)
@[go_sem] def Pg.d0 (x:Pg):x.d[0]? = some (.pv (.lit (.int .i64 x.id))):=(rfl)
@[go_sem] def Pg.d1 (x:Pg):x.d[1]? = some (.pv (.lit (.int .i64 x.lsn))):=(rfl)
@[go_sem] def Pg.d_one (x:Pg):Qo x.d = true:=(rfl)
@[go_sem] def Fm.d_one (x:Fm):Qo x.d = true:=(rfl)
@[go_sem] def Pg.d_nums (x:Pg) (k:Nat->Bool):DV.nums.go k x.d = true:=(rfl)
@[go_sem] def Fm.d_nums (x:Fm) (k:Nat->Bool):DV.nums.go k x.d = true:=(rfl)
@[go_sem] def Fm.set34 (x:Fm) (b:Bool):x.d.set 34 (.pv (.lit (.bool b))) = Fm.d ⟨x.pg,b,x.rc,x.used⟩:=(rfl)
@[go_sem] def Fm.set35 (x:Fm) (b:Int):x.d.set 35 (.pv (.lit (.int .i64 b))) = Fm.d ⟨x.pg,x.dirty,b,x.used⟩:=(rfl)
@[go_sem] def Fm.set36 (x:Fm) (b:Bool):x.d.set 36 (.pv (.lit (.bool b))) = Fm.d ⟨x.pg,x.dirty,x.rc,b⟩:=(rfl)
@[go_sem] def Fm.setpg (x:Fm) (p:Pg):p.d ++ x.d.drop 34 = Fm.d ⟨p,x.dirty,x.rc,x.used⟩:=(rfl)
@[go_sem] def Fm.mk36 (x:Pg) (a c u:Bool) (b:Int):(x.d ++ ([.pv (.lit (.bool a)),.pv (.lit (.int .i64 b)),.pv (.lit (.bool c))]:List DV)).take 36 ++ [.pv (.lit (.bool u))] ++ (x.d ++ ([.pv (.lit (.bool a)),.pv (.lit (.int .i64 b)),.pv (.lit (.bool c))]:List DV)).drop 37 = Fm.d ⟨x,a,b,u⟩:=(rfl)
@[go_sem] def Pg.set1 (x:Pg) (b:Int):x.d.set 1 (.pv (.lit (.int .i64 b))) = Pg.d ⟨x.id,b,x.cel⟩:=(rfl)
@[go_sem] def Pg.d_drop (x:Pg):x.d.drop 34 = []:=(rfl)
@[go_sem] def Fm.d_drop (x:Fm):x.d.drop 37 = []:=(rfl)
def QjB (n:Nat) (hp:Qb):∀ l:List PV,Qh ((l.map DV.pv).map (QcV n hp)) = some (l.map DV.pv)
 | []=>rfl
 | p :: l=>by show Qh (some (.pv p) :: (l.map DV.pv).map (QcV n hp)) = _; rw [QfU,QjB n hp l]; rfl
@[go_sem] def Pg.d_frz1 (x:Pg) (n:Nat) (hp:Qb):Qh (x.d.map (QcV n hp)) = some x.d:=QjB n hp x.p
@[go_sem] def Fm.d_frz1 (x:Fm) (n:Nat) (hp:Qb):Qh (x.d.map (QcV n hp)) = some x.d:=QjB n hp x.p
@[go_sem] def Pg.d_wk (x:Pg):DV.wk.go x.d = x.d:=(rfl)
@[go_sem] def Fm.d_wk (x:Fm):DV.wk.go x.d = x.d:=(rfl)
def QoZ (x:Pg) (i:Nat) (h:i < 16):(x.d.drop (2 + i * 2)).take 2 = [.pv (.lit (.bool (x.cel i).set)),.pv (.str (x.cel i).data)]:=by
 have:i = 0\/i = 1\/i = 2\/i = 3\/i = 4\/i = 5\/i = 6\/i = 7\/i = 8\/i = 9\/i = 10\/i = 11\/i = 12\/i = 13\/i = 14\/i = 15:=by omega
 rcases this with h | h | h | h | h | h | h | h | h | h | h | h | h | h | h | h<;>subst h<;>rfl
def Qvr (x:Pg) (i:Nat) (h:i < 16):x.d[2 + i * 2]? = some (.pv (.lit (.bool (x.cel i).set))):=by
 have:i = 0\/i = 1\/i = 2\/i = 3\/i = 4\/i = 5\/i = 6\/i = 7\/i = 8\/i = 9\/i = 10\/i = 11\/i = 12\/i = 13\/i = 14\/i = 15:=by omega
 rcases this with h | h | h | h | h | h | h | h | h | h | h | h | h | h | h | h<;>subst h<;>rfl
def Pg.setc (x:Pg) (i:Nat) (c:Ce):Pg:=⟨x.id,x.lsn,fun k=>if k = i then c else x.cel k⟩
def QCE (x:Pg) (i:Nat) (h:i < 16) (c:Ce):splice x.d (2 + i * 2) [.pv (.lit (.bool c.set)),.pv (.str c.data)] = (x.setc i c).d:=by
 have:i = 0\/i = 1\/i = 2\/i = 3\/i = 4\/i = 5\/i = 6\/i = 7\/i = 8\/i = 9\/i = 10\/i = 11\/i = 12\/i = 13\/i = 14\/i = 15:=by omega
 rcases this with h | h | h | h | h | h | h | h | h | h | h | h | h | h | h | h<;>subst h<;>rfl
structure Rw where
 lsn:Int
 im:Int
 at_:Int
def Qce:Enc Rw:=⟨3,fun r=>[.lit (.int .i64 r.lsn),.lit (.int .i64 r.im),.lit (.int .i64 r.at_)],by decide,fun _=>rfl⟩
@[go_sem] def Rw.d (r:Rw):List DV:=[.int .i64 r.lsn,.int .i64 r.im,.int .i64 r.at_]
def QGI (l:List Rw):(cells Qce l).length = l.length * 3:=Qy Qce l
def QHx (l:List Rw) (n:Nat) (h:l.length * 3<=n):(cells Qce l).take n = cells Qce l:=by rw [Ji]; rw [QGI]; exact h
def QG5 (l:List Rw):(fz Qce l = []\/(fz Qce l)[0]?.map JD = some 3) = True:=Qhq Qce l
def QHi (h:l.length = len):Qgy n hp 0 3 len (some (cells Qce l)) = some (.sl (fz Qce l)):=QZ Qce h
def Rw0:Rw:=⟨0,0,0⟩
def QlS (l:List Rw) (i:Nat) (h:i < l.length):(fz Qce l)[i]? = some [.lit (.int .i64 (l.getD i Rw0).lsn),.lit (.int .i64 (l.getD i Rw0).im),.lit (.int .i64 (l.getD i Rw0).at_)]:=Qdm Qce l Rw0 i h
def QGq (l:List Rw) (a b c:Int):cells Qce l ++ [.pv (.lit (.int .i64 a)),.pv (.lit (.int .i64 b)),.pv (.lit (.int .i64 c))] = cells Qce (l ++ [⟨a,b,c⟩]):=by rw [Qz]; rfl
structure Dt where
 pg:Int
 rc:Int
 last:Int
def QdQ:Enc Dt:=⟨3,fun r=>[.lit (.int .i64 r.pg),.lit (.int .i64 r.rc),.lit (.int .i64 r.last)],by decide,fun _=>rfl⟩
@[go_sem] def Dt.d (r:Dt):List DV:=[.int .i64 r.pg,.int .i64 r.rc,.int .i64 r.last]
def QGF (l:List Dt):(cells QdQ l).length = l.length * 3:=Qy QdQ l
def QHu (l:List Dt) (n:Nat) (h:l.length * 3<=n):(cells QdQ l).take n = cells QdQ l:=by rw [Ji]; rw [QGF]; exact h
def QHf (h:l.length = len):Qgy n hp 0 3 len (some (cells QdQ l)) = some (.sl (fz QdQ l)):=QZ QdQ h
def Dt0:Dt:=⟨0,0,0⟩
def QfO (l:List Dt) (i:Nat) (h:i < l.length):(fz QdQ l)[i]? = some [.lit (.int .i64 (l.getD i Dt0).pg),.lit (.int .i64 (l.getD i Dt0).rc),.lit (.int .i64 (l.getD i Dt0).last)]:=Qdm QdQ l Dt0 i h
def QGn (l:List Dt) (a b c:Int):cells QdQ l ++ [.pv (.lit (.int .i64 a)),.pv (.lit (.int .i64 b)),.pv (.lit (.int .i64 c))] = cells QdQ (l ++ [⟨a,b,c⟩]):=by rw [Qz]; rfl
structure Gr where
 tx:Int
 pg:Int
 sl:Int
 md:Int
def Gr0:Gr:=⟨0,0,0,0⟩
def Qaz:Enc Gr:=⟨4,fun g=>[.lit (.int .i64 g.tx),.lit (.int .i64 g.pg),.lit (.int .i64 g.sl),.lit (.int .i64 g.md)],by decide,fun _=>rfl⟩
@[go_sem] def Gr.d (g:Gr):List DV:=[.int .i64 g.tx,.int .i64 g.pg,.int .i64 g.sl,.int .i64 g.md]
def QGK (l:List Gr):(cells Qaz l).length = l.length * 4:=Qy Qaz l
def QHz (l:List Gr) (n:Nat) (h:l.length * 4<=n):(cells Qaz l).take n = cells Qaz l:=by rw [Ji]; rw [QGK]; exact h
def QHs (l m:List Gr):cells Qaz l ++ cells Qaz m = cells Qaz (l ++ m):=(Qz Qaz l m).symm
def QG9 (l:List Gr) (T:TypeId) (a b:Nat) (h:a<=b/\b<=l.length):Qkh (some (none,T,4)) (fz Qaz l) a b = some (.pv (.sl (fz Qaz ((l.take b).drop a)))):=QgB Qaz l T a b h
def QG6 (l:List Gr):(fz Qaz l = []\/(fz Qaz l)[0]?.map JD = some 4) = True:=Qhq Qaz l
def QHk (h:l.length = len):Qgy n hp 0 4 len (some (cells Qaz l)) = some (.sl (fz Qaz l)):=QZ Qaz h
def QaK (l:List Gr) (i:Nat) (h:i < l.length):(fz Qaz l)[i]? = some [.lit (.int .i64 (l.getD i Gr0).tx),.lit (.int .i64 (l.getD i Gr0).pg),.lit (.int .i64 (l.getD i Gr0).sl),.lit (.int .i64 (l.getD i Gr0).md)]:=Qdm Qaz l Gr0 i h
def QGs (l:List Gr) (a b c d:Int):cells Qaz l ++ [.pv (.lit (.int .i64 a)),.pv (.lit (.int .i64 b)),.pv (.lit (.int .i64 c)),.pv (.lit (.int .i64 d))] = cells Qaz (l ++ [⟨a,b,c,d⟩]):=by rw [Qz]; rfl
def Qbu (l:List E) (i:Nat) (h:i < l.length):(fz encE l)[i]? = some [.lit (.int .i64 (l.getD i E0).lsn),.lit (.int .i64 (l.getD i E0).kind),.lit (.int .i64 (l.getD i E0).tx),.lit (.int .i64 (l.getD i E0).ptx),.lit (.int .i64 (l.getD i E0).ppg),.lit (.int .i64 (l.getD i E0).ref),.lit (.int .i64 (l.getD i E0).c.pg),.lit (.int .i64 (l.getD i E0).c.sl),.lit (.bool (l.getD i E0).c.b.set),.str (l.getD i E0).c.b.data,.lit (.bool (l.getD i E0).c.a.set),.str (l.getD i E0).c.a.data,.str (l.getD i E0).blob]:=Qdm encE l E0 i h
def Qej (l:List Tx) (i:Nat) (h:i < l.length):(fz Qat l)[i]? = some [.lit (.int .i64 (l.getD i Tx0).id),.lit (.int .i64 (l.getD i Tx0).st),.lit (.int .i64 (l.getD i Tx0).n),.lit (.int .i64 (l.getD i Tx0).b),.sl (fz QW (l.getD i Tx0).l),.sl (fz QW (l.getD i Tx0).s)]:=Qdm Qat l Tx0 i h
def QFJ (l:List E):DV.wk.go (cells encE l) = cells encE l:=Qbl encE l fun a p hp=>by
 simp [encE] at hp
 rcases hp with h | h | h | h | h | h | h | h | h | h | h | h | h<;>subst h<;>rfl
def QGY (l:List Gr):DV.wk.go (cells Qaz l) = cells Qaz l:=Qbl Qaz l fun a p hp=>by
 simp [Qaz] at hp
 rcases hp with h | h | h | h<;>subst h<;>rfl
def QGV (l:List Rw):DV.wk.go (cells Qce l) = cells Qce l:=Qbl Qce l fun a p hp=>by
 simp [Qce] at hp
 rcases hp with h | h | h<;>subst h<;>rfl
def QGT (l:List Dt):DV.wk.go (cells QdQ l) = cells QdQ l:=Qbl QdQ l fun a p hp=>by
 simp [QdQ] at hp
 rcases hp with h | h | h<;>subst h<;>rfl
def QGZ (l:List Fm):DV.wk.go (cells QcC l) = cells QcC l:=Qbl QcC l fun a p hp=>by
 have hm:a.p.map PV.wk = a.p:=rfl
 have hp:p ∈ a.p:=hp
 obtain ⟨i,hi,rfl⟩:=List.getElem_of_mem hp
 have:=congrArg (fun l=>l[i]?) hm
 simpa [hi] using this
attribute [go_sem] QFJ QGY QGV QGT QGZ
attribute [go_sem] QFz QHA QHt QHa QG7 QFD QvA QGI QHx QG5 QHi QGq QGF QHu QHf QGn QGK QHz QHs QG9 QG6 QHk QGs
structure Pl where
 size:Int
 fs:List Fm
 hand:Int
@[go_sem] def Pl.d (p:Pl):List DV:=[.int .i64 p.size,.pv (.sl (fz QcC p.fs)),.int .i64 p.hand]
def Pl0:Pl:=⟨0,[],0⟩
structure Lk where
 held:List Gr
 wait:List Gr
@[go_sem] def Lk.d (t:Lk):List DV:=[.pv (.sl (fz Qaz t.held)),.pv (.sl (fz Qaz t.wait))]
def cb (c:C):Blk:=⟨76,true,cc c⟩
abbrev CX (R:DV->Prop):DV->Qb->Prop:=fun r h'=>∃ B',h' = [B']/\B'.live = true/\DV.nums.go (fun _=>false) B'.cells = true/\r.nums (fun _=>false) = true/\(R r/\∃ c',B' = cb c')
def QJ (h:VCalls prog g (args.map (DV.ren fun _=>0)) [cb c] (CX R)) (hk:hp[k]? = some (cb c)) (ha:DV.nums.go (fun i=>i == k) args = true) (hK:∀ r c',R r->K r (hp.set k (cb c'))):VCalls prog g args hp K:=
 (VCalls.ptr1 (R:=fun r B'=>R r/\∃ c',B' = cb c') hk rfl (Qal c) h ha).mono fun r h' ⟨B',e1,_,_,e2,e3⟩=>by subst e1; obtain ⟨c',rfl⟩:=e3; exact hK r c' e2
abbrev Nx (n:Nat):DV->Prop:=fun r=>∃ x:Nat,r = .int .i64 x/\x < n
def QjL (c:C) (n:Nat) (h1:1<=n) (hn:n<=256):VCalls prog 9 [.ptr 0 0,.int .i64 n] [cb c] (CX (Nx n)):=by
 refine dd Tryz.func9 ?_
 have ha:=c.ha
 have hl:=c.hl
 simp (config:={ maxSteps:=2000000 }) (implicitDefEqProofs:=false) (disch:=first | omega | assumption | (simp only []; done) | fail) only [go_sem,Jr,Js,Tryz.f9,cb,cc]
 refine QdX (by kernel_rfl) (by kernel_rfl) ?_
 by_cases a:c.at_ < c.l.length
 ·simp (config:={ maxSteps:=2000000 }) (implicitDefEqProofs:=false) (disch:=first | omega | assumption | (simp only []; done) | fail) only [go_sem,↓reduceIte,reduceCtorEq,Jr,Jc,Js,Jd]
  refine QdX (by kernel_rfl) (by kernel_rfl) ?_
  have hg:=Qnt c.l c.at_ a
  have hh:(c.l.getD c.at_ 0).toNat < 256:=UInt8.toNat_lt _
  simp (config:={ maxSteps:=2000000 }) (implicitDefEqProofs:=false) (disch:=first | omega | assumption | (simp only [JR,J0,Kd]; done) | fail) only [go_sem,↓reduceIte,reduceCtorEq,Jr,Jz,Jc,JA,Js,Jd,hg]
  obtain ⟨y,hy,hlt⟩:=Qjn (c.l.getD c.at_ 0).toNat n h1
  refine ⟨_,rfl,rfl,rfl,rfl,⟨y,by rw [hy],hlt⟩,⟨c.l,c.at_ + 1,a,hl⟩,rfl⟩
 ·simp (config:={ maxSteps:=2000000 }) (implicitDefEqProofs:=false) (disch:=first | omega | assumption | (simp only []; done) | fail) only [go_sem,↓reduceIte,reduceCtorEq,Jr,Jc,Js,Jd]
  exact ⟨_,rfl,rfl,rfl,rfl,⟨0,rfl,h1⟩,c,rfl⟩
def QY (c:C) (n:Nat) (h1:1<=n) (hn:n<=1000000000):VCalls prog 9 [.ptr 0 0,.int .i64 n] [cb c] (CX (Nx n)):=by
 by_cases hs:n<=256
 ·exact QjL c n h1 hs
 refine dd Tryz.func9 ?_
 have ha:=c.ha
 have hl:=c.hl
 simp (config:={ maxSteps:=2000000 }) (implicitDefEqProofs:=false) (disch:=first | omega | assumption | (simp only []; done) | fail) only [go_sem,Jr,Js,Tryz.f9,cb,cc]
 refine QdX (by kernel_rfl) (by kernel_rfl) ?_
 by_cases a:c.at_ < c.l.length
 ·simp (config:={ maxSteps:=2000000 }) (implicitDefEqProofs:=false) (disch:=first | omega | assumption | (simp only []; done) | fail) only [go_sem,↓reduceIte,reduceCtorEq,Jr,Jc,Js,Jd]
  refine QdX (by kernel_rfl) (by kernel_rfl) ?_
  have hg:=Qnt c.l c.at_ a
  have hh:(c.l.getD c.at_ 0).toNat < 256:=UInt8.toNat_lt _
  generalize hx:(c.l.getD c.at_ 0).toNat = x at hg hh
  simp (config:={ maxSteps:=2000000 }) (implicitDefEqProofs:=false) (disch:=first | omega | assumption | (simp only [JR,J0,Kd]; done) | fail) only [go_sem,↓reduceIte,reduceCtorEq,Jr,Jz,Jc,JA,Js,Jd,hg]
  refine QJ (k:=0) (c:=⟨c.l,c.at_ + 1,a,hl⟩) (QjL _ 256 (by omega) (by omega)) rfl rfl ?_
  rintro r c' ⟨z,rfl,hz⟩
  simp (config:={ maxSteps:=2000000 }) (implicitDefEqProofs:=false) (disch:=first | omega | assumption | (simp only []; done) | fail) only [go_sem,Jc,Jd,cb,cc]
  obtain ⟨y,hy,hlt⟩:=Qjn (256 * x + z) n h1
  have e:(256 * (x:Int) + (z:Int)) = ((256 * x + z:Nat):Int):=by omega
  refine ⟨_,rfl,rfl,rfl,rfl,⟨y,by rw [e,hy],hlt⟩,c',rfl⟩
 ·simp (config:={ maxSteps:=2000000 }) (implicitDefEqProofs:=false) (disch:=first | omega | assumption | (simp only []; done) | fail) only [go_sem,↓reduceIte,reduceCtorEq,Jr,Jc,Js,Jd]
  exact ⟨_,rfl,rfl,rfl,rfl,⟨0,rfl,h1⟩,c,rfl⟩
def QtV (c:C) (m:Int) (h1:1<=m) (hn:m<=1000000000):VCalls prog 9 [.ptr 0 0,.int .i64 m] [cb c] (CX (Nx m.toNat)):=by
 have h:=QY c m.toNat (by omega) (by omega)
 rwa [show ((m.toNat:Nat):Int) = m by omega] at h
def QEW (l:List UInt8) (most:Nat) (hm:1<=most) (h:most<=1000000) (hl:l.length<=9223372036854775807):VCalls prog 5 [.pv (.sl (fz Qfy l)),.int .i64 most] [] fun r h'=>∃ B,h' = [B]/\r = .ptr 0 0/\B.live = true/\DV.nums.go (fun _=>false) B.cells = true/\∃ c,B = cb c:=by
 refine Qbd (fn:=Tryz.f5) Tryz.func5 rfl (by kernel_rfl) (by simp [Tryz.f5]) ?_
 simp (config:={ maxSteps:=2000000 }) (implicitDefEqProofs:=false) (disch:=first | omega | assumption | (simp only []; done) | fail) only [go_sem,Jr,Jc,Js,Jd,Tryz.f5]
 refine QaB (fun hc=>?_) (fun hc=>?_)<;>simp only [decide_eq_true_eq,decide_eq_false_iff_not,Jf,Jb,Jo,Jm,Jg,Je,beq_iff_eq,beq_eq_false_iff_ne,bne_iff_ne,bne_eq_false_iff_eq,ne_eq] at hc
 ·have hx:(fz Qfy l)[0]?.map JD = some 1:=QoN Qfy l (by omega)
  have ht:(fz Qfy l).take most = fz Qfy (l.take most):=Quv Qfy l most
  have hh:most<=(fz Qfy l).length:=by rw [Quw]; omega
  have h0:(0:Nat)<=most:=by omega
  simp (config:={ maxSteps:=2000000 }) (implicitDefEqProofs:=false) (disch:=first | omega | assumption | (simp only []; done) | fail) only [go_sem,V.splice,↓reduceIte,Jr,Jz,JO,Jc,JA,Js,Jd,ht]
  exact ⟨_,rfl,rfl,rfl,⟨l.take most,0,by omega,by rw [Jj]; omega⟩,rfl⟩
 ·simp (config:={ maxSteps:=2000000 }) (implicitDefEqProofs:=false) (disch:=first | omega | assumption | (simp only []; done) | fail) only [go_sem,V.splice,↓reduceIte,Jr,Jz,JO,Jc,JA,Js,Jd]
  exact ⟨_,rfl,rfl,rfl,⟨l,0,by omega,by omega⟩,rfl⟩
def QAh {most:Nat} (hm:1<=most) (h:most<=1000000) (hl:l.length<=9223372036854775807) (hK:∀ c,K (.ptr hp.length 0) (hp ++ [cb c])):VCalls prog 5 [.pv (.sl (fz Qfy l)),.int .i64 most] hp K:=
 (VCalls.new (QEW l most hm h hl) rfl).mono fun r h' ⟨B,e1,e2,_,_,c,e3⟩=>by subst e1 e2 e3; exact hK c
def Quf (c:C):VCalls prog 25 [.ptr 0 0] [cb c] (CX fun r=>∃ n:Int,r = .int .i64 n/\-9223372036854775808<=n/\n<=9223372036854775807):=by
 refine dd Tryz.func25 ?_
 simp (config:={ maxSteps:=2000000 }) (implicitDefEqProofs:=false) (disch:=first | omega | assumption | (simp only []; done) | fail) only [go_sem,Jc,JK,Jd,Tryz.f25]
 refine QJ (k:=0) (c:=c) (QY c 10 (by omega) (by omega)) rfl rfl ?_
 rintro _ c1 ⟨z,rfl,hz⟩
 (try simp (config:={ maxSteps:=2000000 }) (implicitDefEqProofs:=false) (disch:=first | omega | assumption | (simp only []; done) | fail) only [go_sem,JK])
 repeat' (first
  | (refine QgE (fun hZ=>?_) (fun hZ=>?_)<;>(try rw [hZ])<;>(try simp only [decide_eq_true_eq,decide_eq_false_iff_not,Jf,Jb,Jo,Jm,Jg,Je,beq_iff_eq,beq_eq_false_iff_ne,bne_iff_ne,bne_eq_false_iff_eq,ne_eq,JN,Kb,J7] at hZ)<;>(try (first | rw [(hZ:_ = false)] | rw [(hZ:_ = true)]))<;>skip)
  | (refine QaB (fun hZ=>?_) (fun hZ=>?_)<;>(try rw [hZ])<;>(try simp only [decide_eq_true_eq,decide_eq_false_iff_not,Jf,Jb,Jo,Jm,Jg,Je,beq_iff_eq,beq_eq_false_iff_ne,bne_iff_ne,bne_eq_false_iff_eq,ne_eq,JN,Kb,J7] at hZ)<;>(try (first | rw [(hZ:_ = false)] | rw [(hZ:_ = true)]))<;>(try simp (config:={ maxSteps:=2000000 }) (implicitDefEqProofs:=false) (disch:=first | omega | assumption | (simp only []; done) | fail) only [go_sem,V.splice,V.mk,↓reduceIte,Jr,Jz,JO,Jc,JA,JK,Js,Jd]))
  | (refine Qiu (fun hZ=>?_) (fun hZ=>?_)<;>(try rw [hZ])<;>(try simp only [decide_eq_true_eq,decide_eq_false_iff_not,Jf,Jb,Jo,Jm,Jg,Je,beq_iff_eq,beq_eq_false_iff_ne,bne_iff_ne,bne_eq_false_iff_eq,ne_eq,JN,Kb,J7] at hZ)<;>(try (first | rw [(hZ:_ = false)] | rw [(hZ:_ = true)]))<;>skip))
 ·refine QJ (k:=0) (c:=c1) (QY c1 3 (by omega) (by omega)) rfl rfl ?_
  rintro _ c2 ⟨y,rfl,hy⟩
  simp (config:={ maxSteps:=2000000 }) (implicitDefEqProofs:=false) (disch:=first | omega | assumption | (simp only []; done) | fail) only [go_sem,JK]
  exact ⟨_,rfl,rfl,Qal _,rfl,⟨_,rfl,by omega,by omega⟩,c2,rfl⟩
 ·refine QJ (k:=0) (c:=c1) (QY c1 16 (by omega) (by omega)) rfl rfl ?_
  rintro _ c2 ⟨y,rfl,hy⟩
  have h:y = 0\/y = 1\/y = 2\/y = 3\/y = 4\/y = 5\/y = 6\/y = 7\/y = 8\/y = 9\/y = 10\/y = 11\/y = 12\/y = 13\/y = 14\/y = 15:=by omega
  rcases h with rfl | rfl | rfl | rfl | rfl | rfl | rfl | rfl | rfl | rfl | rfl | rfl | rfl | rfl | rfl | rfl<;>(simp (config:={ maxSteps:=2000000 }) (implicitDefEqProofs:=false) (disch:=first | omega | assumption | (simp only []; done) | fail) only [go_sem,Jc,JK,Jd]; exact ⟨_,rfl,rfl,Qal _,rfl,⟨_,rfl,by omega,by omega⟩,c2,rfl⟩)
 ·refine QJ (k:=0) (c:=c1) (QY c1 20 (by omega) (by omega)) rfl rfl ?_
  rintro _ c2 ⟨y,rfl,hy⟩
  simp (config:={ maxSteps:=2000000 }) (implicitDefEqProofs:=false) (disch:=first | omega | assumption | (simp only []; done) | fail) only [go_sem,JK]
  exact ⟨_,rfl,rfl,Qal _,rfl,⟨_,rfl,by omega,by omega⟩,c2,rfl⟩
theorem QFE:bts prog 22 9 = true:=by kernel_rfl
section
attribute [local go_sem] Ce.d Ch.d E.d
theorem Qq2:vt prog 116 = some none:=by kernel_rfl
theorem Qq1:vt prog 117 = some none:=by kernel_rfl
theorem Qq0:vt prog 118 = some none:=by kernel_rfl
theorem um1:prog.underlying 116 = some (.map 3 137):=by kernel_rfl
theorem um2:prog.underlying 117 = some (.map 3 3):=by kernel_rfl
theorem um3:prog.underlying 118 = some (.map 3 4):=by kernel_rfl
def Qic:KeyT prog 3 kI:=Qx2 (by kernel_rfl)
theorem z1:Qmr prog 137 = some (.pointer none):=by kernel_rfl
theorem z2:Qmr prog 3 = some (.int .i64 0):=by kernel_rfl
theorem z3:Qmr prog 4 = some (.bool false):=by kernel_rfl
attribute [local go_sem] Qq2 Qq1 Qq0
def ckC (f:Int) (bt bp bu:Nat):List DV:=[.int .i64 f,.pv (.lit (.map (some bt))),.pv (.lit (.map (some bp))),.pv (.lit (.map (some bu)))]
def Qmm:List (Int × Int)->Int->Option Int
 | [],_=>none
 | (a,x) :: r,k=>if a = k then some x else Qmm r k
def Qq9:List (Int × Int)->Int->Int->List (Int × Int)
 | [],k,v=>[(k,v)]
 | (a,x) :: r,k,v=>if a = k then (a,v) :: r else (a,x) :: Qq9 r k v
def Qp8 (L:List (Int × Int)):List (Int × DV):=L.map fun p=>(p.1,.int .i64 p.2)
def Qzp (L:List (Int × Int)) (k:Int):QbX (Qp8 L) k = (Qmm L k).map fun x=>DV.int .i64 x:=by
 induction L with
 | nil=>rfl
 | cons p r ih =>
   obtain ⟨a,x⟩:=p
   unfold Qp8 at ih |-
   simp only [JT,QbX,Qmm,ih]
   split<;>rfl
def QEi (L:List (Int × Int)) (k v:Int):Qee (Qp8 L) k (.int .i64 v) = Qp8 (Qq9 L k v):=by
 induction L with
 | nil=>rfl
 | cons p r ih =>
   obtain ⟨a,x⟩:=p
   unfold Qp8 at ih |-
   simp only [JT,Qee,Qq9]
   split
   ·rfl
   ·rw [ih]; rfl
def QEK (L:List (Int × Int)) (k:Int):(QbX (Qp8 L) k).getD (.int .i64 0) = .int .i64 ((Qmm L k).getD 0):=by rw [Qzp]; cases Qmm L k<;>rfl
def QEJ (L:List (Int × Int)) (k:Int):(QbX (Qp8 L) k).isSome = (Qmm L k).isSome:=by rw [Qzp]; cases Qmm L k<;>rfl
def pagedB (f:Int) (L:List (Int × Int)) (e:E):Bool:=match Qmm L e.c.pg with
 | none=>decide (e.ppg < f)
 | some x=>decide (e.ppg = x)
def Qyw (hp:Qb) (g:MapsD) (kc bt bp bu:Nat) (f:Int) (e:E) (L:List (Int × Int)) (hk:kc < hp.length) (hc:Qc hp kc = some (ckC f bt bp bu)) (hg:(bp,Qam kI (Qp8 L)) ∈ g) :
 VCallsG prog 66 [.ptr kc 0,.agg e.d] hp g (fun r h' g'=>r = .bool (pagedB f L e)/\(∃ x,h' = hp ++ [x])/\g' = g.map fun p=>if p.1 = bp then (bp,Qam kI (Qp8 (Qq9 L e.c.pg e.lsn))) else p):=by
 refine Q4 (fn:=Tryz.f66) Tryz.func66 rfl (by kernel_rfl) (by simp [Tryz.f66]) (fun c=>?_)
 unfold ckC at hc
 refine VWpG.first (Qa c) ?_
 (unfold Tryz.f66; refine rn trivial ?_)
 refine VWpG.seq ?_
 refine VWpG.drawn (k:=7) (f:=6) (Qa c) (by kernel_rfl) (by kernel_rfl) (by kernel_rfl) (by kernel_rfl) rfl ?_; refine Qab (by kernel_rfl) ?_
 refine rn (Ja @hk @hc) ?_
 refine QbS (zv:=.int .i64 0) (L:=Qp8 L) (k:=e.c.pg) rfl rfl um2 Qic (Q7 z2) (QaZ rfl) rfl hg (Qad rfl) ?_
 rw [QEK,QEJ]
 refine rn trivial ?_
 refine VWpG.seq ?_
 refine VWpG.drawn (k:=9) (f:=6) (Qa c) (by kernel_rfl) (by kernel_rfl) (by kernel_rfl) (by kernel_rfl) rfl ?_; refine Qab (by kernel_rfl) ?_
 refine rn (Ja @hk @hc) ?_
 refine QaS (L:=Qp8 L) (k:=e.c.pg) rfl rfl um2 Qic rfl hg (Qad rfl) ?_
 refine rn trivial ?_
 rw [QEi]
 refine VWpG.seq ?_
 refine VWpG.first (Qa c) ?_
 refine rn trivial ?_
 refine VWpG.cond rfl (fun hZ=>?_) (fun hZ=>?_)
 ·refine VWpG.plain (Qa c) ?_
  refine rn trivial ?_
  refine QdX (by kernel_rfl) (by kernel_rfl) ?_
  refine rn (Ja @hk @hc) ?_
  refine ⟨?_,_,rfl⟩
  unfold pagedB
  cases h:Qmm L e.c.pg with
  | none=>rfl
  | some x=>simp [h] at hZ
 ·refine VWpG.plain (Qa c) ?_
  refine rn trivial ?_
  refine VWpG.plain (Qa c) ?_
  refine rn trivial ?_
  refine ⟨?_,_,rfl⟩
  unfold pagedB
  cases h:Qmm L e.c.pg with
  | none=>simp [h] at hZ
  | some x=>exact congrArg DV.bool (J3 _ _)
def rnC (last:Int) (ea ab en:Bool) (p:DV):List DV:=[.int .i64 last,.bool ea,.bool ab,.bool en,p]
def Qu8 (hp:Qb) (g:MapsD) (kc bt bp bu:Nat) (f:Int) (e:E) (L:List (Int × DV)) (hk:kc < hp.length) (hc:Qc hp kc = some (ckC f bt bp bu)) (hg:(bt,Qam kI L) ∈ g) (hn:QbX L e.tx = none) :
 VCallsG prog 65 [.ptr kc 0,.agg e.d] hp g (fun r h' g'=>r = .bool (decide (e.ptx < f))/\(∃ x,h' = hp ++ [x] ++ [⟨139,true,rnC e.lsn (decide (0 < e.ptx)) false false (.pv (.slc []))⟩])/\g' = g.map fun p=>if p.1 = bt then (bt,Qam kI (Qee L e.tx (.ptr (hp.length + 1) 0))) else p):=by
 refine Q4 (fn:=Tryz.f65) Tryz.func65 rfl (by kernel_rfl) (by simp [Tryz.f65]) (fun c=>?_)
 unfold ckC at hc
 refine VWpG.first (Qa c) ?_
 (unfold Tryz.f65; refine rn trivial ?_)
 refine VWpG.seq ?_
 refine VWpG.drawn (k:=6) (f:=6) (Qa c) (by kernel_rfl) (by kernel_rfl) (by kernel_rfl) (by kernel_rfl) rfl ?_; refine Qab (by kernel_rfl) ?_
 refine rn (Ja @hk @hc) ?_
 refine QbS (zv:=.pointer none) (L:=L) (k:=e.tx) rfl rfl um1 Qic (Q7 z1) (QaZ rfl) rfl hg (Qad rfl) ?_
 rw [hn]
 refine rn trivial ?_
 refine VWpG.seq ?_
 refine VWpG.first (Qa c) ?_
 refine rn trivial ?_
 refine VWpG.cond rfl (fun hZ=>?_) (fun hZ=>?_)
 ·refine VWpG.seq ?_
  refine VWpG.drawn (k:=13) (f:=6) (Qa c) (by kernel_rfl) (by kernel_rfl) (by kernel_rfl) (by kernel_rfl) rfl ?_; refine QqR [0,1,2,3,4,5,6,7,8,9,10,11] [⟨[],[],12,[0,1,2,3,4,5,6,7,8,9,10],[]⟩] (by kernel_rfl) ?_
  refine rn (Ja @hk @hc) ?_
  refine QaS (L:=L) (k:=e.tx) rfl rfl um1 Qic rfl hg (Qad rfl) ?_
  refine rn trivial ?_
  refine VWpG.plain (Qa c) ?_
  refine rn trivial ?_
  refine QdX (by kernel_rfl) (by kernel_rfl) ?_
  refine rn (Ja @hk @hc) ?_
  exact ⟨_,rfl⟩
 ·simp at hZ
def Qu7 (hp:Qb) (g:MapsD) (kc bt bp bu:Nat) (f:Int) (e:E) (L:List (Int × DV)) (hk:kc < hp.length) (hc:Qc hp kc = some (ckC f bt bp bu)) (hg:(bt,Qam kI L) ∈ g) (k:Nat) (la:Int) (ea ab en:Bool) (p:DV) (hkl:k < hp.length) (hb:Qc hp k = some (rnC la ea ab en p)) (hn:QbX L e.tx = some (.ptr k 0)) :
 VCallsG prog 65 [.ptr kc 0,.agg e.d] hp g (fun r h' g'=>r = .bool (decide (e.ptx = la) && !en)/\(∃ x,h' = Qj hp k (rnC e.lsn ea ab en p) ++ [x])/\g' = g):=by
 refine Q4 (fn:=Tryz.f65) Tryz.func65 rfl (by kernel_rfl) (by simp [Tryz.f65]) (fun c=>?_)
 unfold ckC at hc
 unfold rnC at hb
 refine VWpG.first (Qa c) ?_
 (unfold Tryz.f65; refine rn trivial ?_)
 refine VWpG.seq ?_
 refine VWpG.drawn (k:=6) (f:=6) (Qa c) (by kernel_rfl) (by kernel_rfl) (by kernel_rfl) (by kernel_rfl) rfl ?_; refine Qab (by kernel_rfl) ?_
 refine rn (Ja @hk @hc) ?_
 refine QbS (zv:=.pointer none) (L:=L) (k:=e.tx) rfl rfl um1 Qic (Q7 z1) (QaZ rfl) rfl hg (Qad rfl) ?_
 rw [hn]
 refine rn trivial ?_
 refine VWpG.seq ?_
 refine VWpG.first (Qa c) ?_
 refine rn trivial ?_
 refine VWpG.cond rfl (fun hZ=>?_) (fun hZ=>?_)
 ·simp at hZ
 refine VWpG.plain (Qa c) ?_
 refine rn trivial ?_
 refine VWpG.plain (Qa c) ?_
 have F:=(Ja @hk (Ja @hc (Ja @hkl @hb)))
 refine rn F ?_
 repeat' (first
  | with_reducible exact ⟨⟩
  | (refine sG F ?_ ?_<;>intro hZ)
  | (refine Qd (id:=5) [0,1,2,3,4,5,6,7,8,9,10,11,12,13] [⟨[],[],14,[],[]⟩] (by kernel_rfl) (by kernel_rfl) ?_; refine rn F ?_))
 all_goals exact ⟨_,rfl⟩
end
section
attribute [local go_sem] Ce.d Ch.d E.d Qfq Qim Qil Qh2 Qh1 Qie QcA Qq2 Qq1 Qq0 JF Lg.c
theorem umS:prog.underlying 90 = some (.map 3 92):=by kernel_rfl
theorem zS:Qmr prog 92 = some (.agg #[]):=by kernel_rfl
def QS (x:Lg):Bool:=lgB x && decide (x.f = 1)
def QjZ (x:Lg) (hx:x.es.length<=9223372036854775807):VCalls prog 30 [.agg x.c] [] (Ret (.bool (QS x))):=by
 refine dd Tryz.func30 ?_
 have hv:=QoD x hx
 unfold Lg.c at hv
 (unfold Tryz.f30; refine rn trivial ?_)
 cases hlg:lgB x
 ·rw [hlg] at hv
  refine rn F ?_
  repeat' (first
   | with_reducible exact ⟨⟩
   | refine vp F (hv) ?_)
  all_goals (unfold QS; rw [hlg]; simp; try (rw [Jk]; simp))
 ·rw [hlg] at hv
  refine rn F ?_
  repeat' (first
   | with_reducible exact ⟨⟩
   | refine vp F (hv) ?_)
  all_goals (unfold QS; rw [hlg]; simp; try (rw [Jk]; simp))
def QaO (x:Lg) (at_:Int):Bool:=decide (0<=at_) && decide (at_<=x.es.length)
def QoV (x:Lg) (at_:Int):VCalls prog 31 [.agg x.c,.int .i64 at_] [] (Ret (.bool (QaO x at_))):=by
 refine dd Tryz.func31 ?_
 (unfold Tryz.f31; refine rn trivial ?_)
 refine rn F ?_
 repeat' (first
  | with_reducible exact ⟨⟩
  | (refine sG F ?_ ?_<;>intro hZ))
 all_goals (unfold QaO; simp; try omega)
def Qmp (es:List E):Nat->List (Int × DV)
 | 0=>[]
 | i + 1=>if (es.getD i E0).kind = 3 then Qee (Qmp es i) (es.getD i E0).tx (.agg []) else Qmp es i
def Qp2 {g:MapsD} {b:Nat} {L L':QyW} (hb:∀ p ∈ g,p.1 ≠ b):(((b,L) :: g).map fun p=>if p.1 = b then (b,L') else p) = (b,L') :: g:=by
 rw [JT,if_pos rfl]
 congr 1
 conv=>rhs; rw [<- List.map_id g]
 exact List.map_congr_left fun p hp=>by rw [if_neg (hb p hp)]; rfl
structure CmS (n:Nat) where
 i:Nat
 hi:i<=n
 ys:Qb
def Qvs (hp:Qb) (g:MapsD) (x:Lg) (k:Nat) (hk:k<=x.es.length) (hx:x.es.length<=4096) :
 VCallsG prog 32 [.agg x.c,.int .i64 k] hp g (fun r h' g'=>∃ b,r = .pv (.lit (.map (some b)))/\(∀ p ∈ g,p.1 ≠ b)/\(∃ ys,h' = hp ++ ys)/\g' = (b,Qam kI (Qmp x.es k)) :: g):=by
 refine Q4 (fn:=Tryz.f32) Tryz.func32 rfl (by kernel_rfl) (by simp [Tryz.f32]) (fun c=>?_)
 refine VWpG.first (Qa c) ?_
 (unfold Tryz.f32; refine rn trivial ?_)
 refine VWpG.seq ?_
 refine VWpG.cut1 (Qa c) 0 [] ?_
 refine rn trivial ?_
 refine QO rfl (fun c=>by simp) (Qdn rfl rfl fun b hb=>?_)
 refine rn trivial ?_
 refine VWpG.seq ?_
 refine VWpG.seq ?_
 have hk':(k:Int)<=x.es.length:=by omega
 refine VWpG.plain (Qa c) ?_
 refine rn @hk' ?_
 refine VWpG.block ?_
 have hkl:((x.es.take k).length:Int) = k:=by rw [Jj]; omega
 have hfin:∀ i,i < k->(x.es.take k).getD i E0 = x.es.getD i E0:=fun i hi=>by
  rw [Jh,Jh,JJ,if_pos hi]
 refine VWpG.loop (fun s:CmS k=>⟨27,hp.length,[(14,.int .i64 s.i),(13,.int .i64 k),(12,.pv (.sl (fz encE (x.es.take k)))),(5,.pv (.lit (.map (some b))))],hp ++ s.ys⟩) (fun s=>(b,Qam kI (Qmp x.es s.i)) :: g) (fun s=>k - s.i) ⟨0,JE _,[⟨32,true,[.int .i64 x.f,.pv (.sl (fz encE x.es)),.int .i64 x.d]⟩]⟩ ?_ ?_
 ·refine WeakG.slots rfl rfl ?_
  intro p hp
  simp only [JW,JS,or_false] at hp
  rcases hp with rfl | rfl | rfl | rfl
  ·exact .inl rfl
  ·exact .inl (congrArg (DV.int .i64) (by omega))
  ·exact .inl rfl
  ·exact .inl rfl
 rintro ⟨i,hi,ys⟩
 dsimp only
 refine VWpG.first (Qa c) ?_
 refine rn trivial ?_
 refine VWpG.seq ?_
 by_cases hlt:i < k
 ·have hg:=Qnu (x.es.take k) i (by rw [Jj]; omega)
  rw [hfin i hlt] at hg
  have hd:decide ((i:Int) < k) = true:=by simp; omega
  refine VWpG.cond (t:=true) (by rw [<- hd]; rfl) (fun _=>?_) (fun h=>by cases h)
  refine VWpG.plain (Qa c) ?_
  refine rn trivial ?_
  refine VWpG.seq ?_
  refine VWpG.block ?_
  have hu:Qmp x.es (i + 1) = if (x.es.getD i E0).kind = 3 then Qee (Qmp x.es i) (x.es.getD i E0).tx (.agg []) else Qmp x.es i:=rfl
  generalize x.es.getD i E0 = e at *
  refine VWpG.first (Qa c) ?_
  refine rn @hg ?_
  refine VWpG.first (Qa c) ?_
  refine rn trivial ?_
  have hmem:(b,Qam kI (Qmp x.es i)) ∈ ((b,Qam kI (Qmp x.es i)) :: g:MapsD):=List.mem_cons_self
  by_cases hk3:e.kind = 3
  ·rw [if_pos hk3] at hu
   refine VWpG.cond (t:=true) (by rw [hk3]; rfl) (fun hZ=>?_) (fun hZ=>?_)
   rotate_left
   ·cases hZ
   refine VWpG.cut1 (Qa c) 4 [] ?_
   refine rn trivial ?_
   refine QO rfl (fun c=>by simp) (QaS (L:=Qmp x.es i) (k:=e.tx) rfl rfl umS Qic rfl hmem (Qad rfl) ?_)
   rw [Qp2 hb]
   refine rn trivial ?_
   refine VWpG.plain (Qa c) ?_
   refine rn trivial ?_
   refine ⟨⟨i + 1,hlt,ys ++ [⟨73,true,e.d⟩]⟩,by dsimp only; omega,?_⟩
   dsimp only
   rw [hu]
   refine WeakG.slots rfl (JB _ _ _) ?_
   intro p hp
   simp only [JW,JS,or_false] at hp
   rcases hp with rfl | rfl | rfl | rfl<;>exact .inl rfl
  ·rw [if_neg hk3] at hu
   have hd2:decide (e.kind = 3) = false:=decide_eq_false hk3
   refine VWpG.cond (t:=false) (by rw [<- hd2]; rfl) (fun hZ=>?_) (fun hZ=>?_)
   ·cases hZ
   refine VWpG.plain (Qa c) ?_
   refine rn trivial ?_
   refine VWpG.plain (Qa c) ?_
   refine rn trivial ?_
   refine ⟨⟨i + 1,hlt,ys ++ [⟨73,true,e.d⟩]⟩,by dsimp only; omega,?_⟩
   dsimp only
   rw [hu]
   refine WeakG.slots rfl (JB _ _ _) ?_
   intro p hp
   simp only [JW,JS,or_false] at hp
   rcases hp with rfl | rfl | rfl | rfl<;>exact .inl rfl
 ·have hd:decide ((i:Int) < k) = false:=by simp; omega
  have hie:i = k:=by omega
  subst hie
  refine VWpG.cond (t:=false) (by rw [<- hd]; rfl) (fun h=>by cases h) (fun _=>?_)
  refine VWpG.plain (Qa c) ?_
  refine rn trivial ?_
  refine VWpG.plain (Qa c) ?_
  refine rn trivial ?_
  exact ⟨b,rfl,hb,⟨_,rfl⟩,rfl⟩
end
section
attribute [local go_sem] Qbj
def Pg.numB (p:Pg):Bool:=decide (0<=p.id) && decide (p.id < 64) && decide (0<=p.lsn) && decide (p.lsn<=1099511627776)
def Pg.celC (p:Pg) (i:Nat):Bool:=(p.cel i).okB && !(decide (p.lsn = 0) && (p.cel i).set)
def Pg.celB (p:Pg):Bool:=(Jv 16).all p.celC
def Pg.okB (p:Pg):Bool:=p.numB && p.celB
def QaX (p:Pg):Int:=if p.numB = false then 1 else if p.celB = false then 22 else 0
def Qy9 (p:Pg):VCalls prog 210 [.agg p.d] [] (Ret (.bool p.numB)):=by
 refine dd Tryz.func210 ?_
 (unfold Tryz.f210; refine rn trivial ?_)
 refine rn F ?_
 repeat' (first
  | with_reducible exact ⟨⟩
  | (refine sG F ?_ ?_<;>intro hZ))
 all_goals (first | rfl | (congr 3; rw [Jk]; (try simp only [Pg.numB,decide_eq_true_eq,Jb,Jf,Jg,Je,decide_eq_false_iff_not,beq_iff_eq,bne_iff_ne,ne_eq,Jl,Jn,iff_true,true_iff,iff_false,false_iff]); first | done | omega | grind))
def Qoh (p:Pg):VCalls prog 211 [.agg p.d] [] (Ret (.bool p.celB)):=by
 refine dd Tryz.func211 ?_
 (unfold Tryz.f211; refine rn trivial ?_)
 refine Qg (fun s:Okay 16 p.celC=>⟨26,0,[(3,.int .i64 s.i),(1,.ptr 0 0)],[⟨175,true,p.d⟩]⟩) (fun s=>16 - s.i) (Okay.start _ _) (gc [0]) ?_
 intro s
 have hsi:=s.hi
 have hg:=fun h:s.i < 16=>QoZ p s.i h
 have hg0:=fun h:s.i < 16=>Qvr p s.i h
 have e:p.celC s.i = ((p.cel s.i).okB && !(decide (p.lsn = 0) && (p.cel s.i).set)):=rfl
 have c:=Qg7 (p.cel s.i)
 generalize (p.cel s.i).okB = ok at *
 have F:=(Ja @hg @hg0)
 refine rn F ?_
 repeat' (first
  | with_reducible exact ⟨⟩
  | (refine sG F ?_ ?_<;>intro hZ)
  | (refine sB F ?_ ?_<;>intro hZ)
  | refine vp F (c) ?_)
 all_goals first | (exact congrArg DV.bool (s.no (by omega) rfl (by rw [e]; simp_all )).symm) | (exact congrArg DV.bool (s.yes (by omega) rfl).symm) | (exact ⟨s.next (by omega) (by rw [e]; simp_all ),s.dec (by omega),(gc [ 0])⟩) | skip
def QsH (p:Pg):VCalls prog 159 [.agg p.d] [] (Ret (.bool p.okB)):=by
 refine dd Tryz.func159 ?_
 have c1:=Qy9 p
 have c2:=Qoh p
 have e:p.okB = (p.numB && p.celB):=rfl
 generalize p.numB = a at *
 generalize p.celB = b at *
 (unfold Tryz.f159; refine rn trivial ?_)
 refine rn F ?_
 repeat' (first
  | with_reducible exact ⟨⟩
  | (refine sG F ?_ ?_<;>intro hZ)
  | refine vp F (c1) ?_
  | refine vp F (c2) ?_)
 all_goals (rw [e]; simp_all)
def QdL (p:Pg):VCalls prog 160 [.agg p.d] [] (Ret (.int .i64 (QaX p))):=by
 refine dd Tryz.func160 ?_
 have c1:=Qy9 p
 have c2:=Qoh p
 have e:QaX p = if p.numB = false then 1 else if p.celB = false then 22 else 0:=rfl
 generalize p.numB = a at *
 generalize p.celB = b at *
 (unfold Tryz.f160; refine rn trivial ?_)
 refine rn F ?_
 repeat' (first
  | with_reducible exact ⟨⟩
  | (refine sB F ?_ ?_<;>intro hZ)
  | refine vp F (c1) ?_
  | refine vp F (c2) ?_)
 all_goals (rw [e]; simp_all)
def Qvm (h:QaX p = 0):p.okB = true:=by
 unfold QaX at h
 unfold Pg.okB
 split at h
 ·simp at h
 split at h
 ·simp at h
 ·simp_all
end
section
attribute [local go_sem] Qbj
def idF (l:List Fm) (a:Int):Int:=QhO l fun f=>f.pg.id == a
def QcI (p:Pl) (hl:p.fs.length<=1000000) (a:Int):VCalls prog 125 [.agg p.d,.int .i64 a] [] (Ret (.int .i64 (idF p.fs a))):=by
 refine dd Tryz.func125 ?_
 obtain ⟨z,l,h⟩:=p
 (unfold Tryz.f125; refine rn trivial ?_)
 refine Qg (fun i:Pass l (fun x=>(x.pg.id == a) = true)=>⟨23,0,[(5,.int .i64 i.i),(2,.ptr 0 0),(1,.int .i64 a)],[⟨35,true,Pl.d ⟨z,l,h⟩⟩]⟩) (fun i=>l.length - i.i) (Pass.start l _) (gc [0]) ?_
 intro i
 have hi:=i.hi
 dsimp only at hl
 have hg:=fun h:i.i < l.length=>Qb1 l i.i h
 have F:=@hg
 refine rn F ?_
 repeat' (first
  | with_reducible exact ⟨⟩
  | (refine sB F ?_ ?_<;>intro hZ))
 ·have hq:(l.getD i.i Fm0).pg.id = a:=by assumption
  rw [Qm l i.i (by omega)] at hq
  have:=Qnp l (fun x=>x.pg.id == a) i.i (by omega) (by simpa using hq) i.no
  rw [idF,this]
 ·have hq:¬ (l.getD i.i Fm0).pg.id = a:=by assumption
  rw [Qm l i.i (by omega)] at hq
  exact ⟨i.next (by omega) (by simpa using hq),by show l.length - (i.i + 1) < l.length - i.i; omega,(gc [0])⟩
 ·have:=i.all (by omega)
  rw [idF,QhO,if_neg (by simpa using this)]
def QCu (l:List Fm) (i k:Nat):Bool:=!decide ((l.getD k Fm0).pg.id = (l.getD i Fm0).pg.id)
def frC (l:List Fm) (i:Nat):Bool:=(l.getD i Fm0).pg.okB && !((l.getD i Fm0).dirty && (decide ((l.getD i Fm0).rc < 1) || decide ((l.getD i Fm0).pg.lsn < (l.getD i Fm0).rc))) && !(!(l.getD i Fm0).dirty && !decide ((l.getD i Fm0).rc = 0)) && (Jv i).all (QCu l i)
def Pl.hd (p:Pl):Prop:=1<=p.size/\p.size<=64/\p.fs.length<=p.size/\0<=p.hand/\p.hand<=max 0 ((p.fs.length:Int) - 1)
instance (p:Pl):Decidable p.hd:=by unfold Pl.hd; infer_instance
def plB (p:Pl):Bool:=decide p.hd && (Jv p.fs.length).all (frC p.fs)
def Qlg {p:Pl} (h:plB p = true):p.hd:=by unfold plB at h; simp at h; exact h.1
def Qax (p:Pl) (hl:p.fs.length<=1000000):VCalls prog 124 [.agg p.d] [] (Ret (.bool (plB p))):=by
 refine dd Tryz.func124 ?_
 obtain ⟨z,l,hn⟩:=p
 dsimp only at hl
 have hB:plB ⟨z,l,hn⟩ = (decide (Pl.hd ⟨z,l,hn⟩) && (Jv l.length).all (frC l)):=rfl
 have hH:Pl.hd ⟨z,l,hn⟩ = (1<=z/\z<=64/\l.length<=z/\0<=hn/\hn<=max 0 ((l.length:Int) - 1)):=rfl
 have hB':Pl.hd ⟨z,l,hn⟩->plB ⟨z,l,hn⟩ = (Jv l.length).all (frC l):=fun h=>by rw [hB,decide_eq_true h,Ko]
 have no:¬ Pl.hd ⟨z,l,hn⟩->plB ⟨z,l,hn⟩ = false:=fun h=>by rw [hB,decide_eq_false h]; rfl
 generalize plB ⟨z,l,hn⟩ = b at *
 (unfold Tryz.f124; refine rn trivial ?_)
 refine rn F ?_
 repeat' (first
  | with_reducible exact ⟨⟩
  | (refine sG F ?_ ?_<;>intro hZ)
  | (refine sB F ?_ ?_<;>intro hZ))
 all_goals first | (rw [no (by rw [hH]; omega)]) | skip
 refine Qg (fun s:Okay l.length (frC l)=>⟨94,0,[(4,.int .i64 s.i),(3,.int .i64 l.length),(1,.ptr 0 0)],[⟨35,true,Pl.d ⟨z,l,hn⟩⟩]⟩) (fun s=>l.length - s.i) (Okay.start _ _) (gc [0]) ?_
 intro s
 have hsi:=s.hi
 have hg:=fun h:s.i < l.length=>Qb1 l s.i h
 have c1:=QsH (l.getD s.i Fm0).pg
 have e:frC l s.i = ((l.getD s.i Fm0).pg.okB && !((l.getD s.i Fm0).dirty && (decide ((l.getD s.i Fm0).rc < 1) || decide ((l.getD s.i Fm0).pg.lsn < (l.getD s.i Fm0).rc))) && !(!(l.getD s.i Fm0).dirty && !decide ((l.getD s.i Fm0).rc = 0)) && (Jv s.i).all (QCu l s.i)):=rfl
 generalize (l.getD s.i Fm0).pg.okB = ok at *
 have F:=@hg
 refine rn F ?_
 repeat' (first
  | with_reducible exact ⟨⟩
  | (refine sG F ?_ ?_<;>intro hZ)
  | (refine sB F ?_ ?_<;>intro hZ)
  | refine vp F (c1) ?_)
 all_goals first
  | (exact congrArg DV.bool (s.no (by omega) (hB' (by rw [hH]; omega)) (by rw [e]; simp_all)).symm)
  | (exact congrArg DV.bool (s.yes (by omega) (hB' (by rw [hH]; omega))).symm)
  | skip
 all_goals
  refine Qg (fun r:Okay s.i (QCu l s.i)=>⟨94,0,[(6,.int .i64 r.i),(5,.ptr 1 0),(4,.int .i64 s.i),(3,.int .i64 l.length),(1,.ptr 0 0)],[⟨35,true,Pl.d ⟨z,l,hn⟩⟩,⟨179,true,(l.getD s.i Fm0).d⟩]⟩) (fun r=>s.i - r.i) (Okay.start _ _) (gc [0,1]) ?_
  intro r
  have hri:=r.hi
  have hk:=fun h:r.i < l.length=>Qb1 l r.i h
  have e2:QCu l s.i r.i = !decide ((l.getD r.i Fm0).pg.id = (l.getD s.i Fm0).pg.id):=rfl
  have F:=@hk
  refine rn F ?_
  repeat' (first
   | with_reducible exact ⟨⟩
   | (refine sB F ?_ ?_<;>intro hZ)
   | (refine Qd (id:=13) [0,1,2,3,4,5,6,7,8,9,10] [] (by kernel_rfl) (by kernel_rfl) ?_; refine rn F ?_))
 all_goals first
  | (exact congrArg DV.bool (s.no (by omega) (hB' (by rw [hH]; omega)) (by rw [e,QaM (i:=r.i) (by omega) (by rw [e2]; simp_all),JH])).symm)
  | (exact ⟨r.next (by omega) (by rw [e2]; simp_all),r.dec (by omega),(gc [0,1])⟩)
  | (exact ⟨s.next (by omega) (by rw [e,r.all (by omega)]; simp_all),s.dec (by omega),(gc [0])⟩)
  | skip
end
section
attribute [local go_sem] Qbj
def Qbw (p:Pl) (a:Int):Int:=if plB p = true then idF p.fs a else -1
def Qcs (l:List Fm) (a:Int):idF l a = -1\/∃ i:Nat,∃ _:i < l.length,idF l a = i/\(l.getD i Fm0).pg.id = a:=by
 rcases Qum l (fun f=>f.pg.id == a) with ⟨h,_⟩ | ⟨i,hi,h,hf⟩
 ·exact .inl h
 ·refine .inr ⟨i,hi,h,?_⟩
  have:=List.find?_some hf
  rw [Qm l i hi]; simpa using this
def QcM (p:Pl) (a:Int):Qbw p a = -1\/(plB p = true/\∃ i:Nat,∃ _:i < p.fs.length,Qbw p a = i/\idF p.fs a = i/\(p.fs.getD i Fm0).pg.id = a):=by
 unfold Qbw
 split
 ·rename_i hv
  rcases Qcs p.fs a with h | ⟨i,hi,h,hx⟩
  ·exact .inl h
  ·exact .inr ⟨hv,i,hi,h,h,hx⟩
 ·exact .inl rfl
def QoI (p:Pl) (a:Int):Pg × Bool:=if Qbw p a < 0 then (Pg0,false) else ((p.fs.getD (Qbw p a).toNat Fm0).pg,true)
def QcH (p:Pl) (hl:p.fs.length<=1000000) (a:Int):VCalls prog 102 [.agg p.d,.int .i64 a] [] (Ret (.int .i64 (Qbw p a))):=by
 refine dd Tryz.func102 ?_
 have c1:=Qax p hl
 have c2:=QcI p hl a
 unfold Qbw
 generalize plB p = b at *
 (unfold Tryz.f102; refine rn trivial ?_)
 refine rn F ?_
 repeat' (first
  | with_reducible exact ⟨⟩
  | (refine sB F ?_ ?_<;>intro hZ)
  | refine vp F (c1) ?_
  | refine vp F (c2) ?_)
 all_goals (simp_all)
def Qg2 (p:Pl) (hl:p.fs.length<=1000000) (a:Int):VCalls prog 122 [.agg p.d,.int .i64 a] [] (Ret (.tup [.agg (QoI p a).1.d,.bool (QoI p a).2])):=by
 refine dd Tryz.func122 ?_
 have c1:=QcH p hl a
 unfold QoI
 rcases QcM p a with h | ⟨_,i,hi,h,_⟩
 ·rw [h] at c1 |-
  (unfold Tryz.f122; refine rn trivial ?_)
  refine rn F ?_
  repeat' (first
   | with_reducible exact ⟨⟩
   | refine vp F (c1) ?_)
  all_goals rfl
 ·rw [h] at c1 |-
  rw [if_neg (by omega),Jp]
  have hg:=Qb1 p.fs i hi
  generalize p.fs.getD i Fm0 = f at *
  (unfold Tryz.f122; refine rn trivial ?_)
  have F:=@hg
  refine rn F ?_
  repeat' (first
   | with_reducible exact ⟨⟩
   | refine vp F (c1) ?_)
def QAH (l:List Fm) (i:Nat) (f:Fm) (hi:i < l.length):(cells QcC l).take (i * 37) ++ f.d ++ (cells QcC l).drop (i * 37 + 37) = cells QcC (l.set i f):=Qn1 QcC l i f hi
def Qjv (p:Pl) (hl:p.fs.length<=1000000) (i:Nat) (hi:i < p.fs.length) (f:Fm):VCalls prog 214 [.agg p.d,.int .i64 i,.agg f.d] [] (Ret (.agg (Pl.d ⟨p.size,p.fs.set i f,p.hand⟩))):=by
 refine dd Tryz.func214 ?_
 obtain ⟨z,l,hn⟩:=p
 dsimp only at hl hi
 have hb:i * 37 + 37<=l.length * 37:=by omega
 have hse:=QAH l i f hi
 have hle:(l.set i f).length = l.length:=J2
 (unfold Tryz.f214; refine rn trivial ?_)
 have F:=(Ja @hb (Ja @hse @hle))
 (refine rn F ?_; try with_reducible exact ⟨⟩)
def QDB (p:Pl) (a:Int):Pl:=if Qbw p a < 0 then p else ⟨p.size,p.fs.set (Qbw p a).toNat ⟨(p.fs.getD (Qbw p a).toNat Fm0).pg,(p.fs.getD (Qbw p a).toNat Fm0).dirty,(p.fs.getD (Qbw p a).toNat Fm0).rc,true⟩,p.hand⟩
def QAZ (p:Pl) (hl:p.fs.length<=1000000) (a:Int):VCalls prog 247 [.agg p.d,.int .i64 a] [] (Ret (.agg (QDB p a).d)):=by
 refine dd Tryz.func247 ?_
 have c1:=QcH p hl a
 unfold QDB
 rcases QcM p a with h | ⟨_,i,hi,h,_⟩
 ·rw [h] at c1 |-
  (unfold Tryz.f247; refine rn trivial ?_)
  refine rn F ?_
  repeat' (first
   | with_reducible exact ⟨⟩
   | refine vp F (c1) ?_)
  all_goals rfl
 ·rw [h] at c1 |-
  rw [if_neg (by omega),Jp]
  have hg:=Qb1 p.fs i hi
  have c2:=Qjv p hl i hi ⟨(p.fs.getD i Fm0).pg,(p.fs.getD i Fm0).dirty,(p.fs.getD i Fm0).rc,true⟩
  generalize p.fs.getD i Fm0 = f at *
  (unfold Tryz.f247; refine rn trivial ?_)
  have F:=@hg
  refine rn F ?_
  repeat' (first
   | with_reducible exact ⟨⟩
   | refine vp F (c1) ?_
   | refine vp F (c2) ?_)
def Qm8 (n:Int):Pl × Int:=if n < 1\/64 < n then (Pl0,1) else (⟨n,[],0⟩,0)
def QsI (n:Int):VCalls prog 71 [.int .i64 n] [] (Ret (.tup [.agg (Qm8 n).1.d,.int .i64 (Qm8 n).2])):=by
 refine dk Tryz.func71 ?_
 unfold Qm8
 (unfold Tryz.f71; refine rn trivial ?_)
 refine rn F ?_
 repeat' (first
  | with_reducible exact ⟨⟩
  | (refine sG F ?_ ?_<;>intro hZ)
  | (refine sB F ?_ ?_<;>intro hZ))
 all_goals first | (rw [if_pos (by omega)]; rfl) | (rw [if_neg (by omega)]; rfl)
def Qq8 (p:Pl) (x:Pg):Pl × Int:=
 if plB p = false then (Pl0,15) else if QaX x ≠ 0 then (Pl0,QaX x) else if 0<=idF p.fs x.id then (Pl0,25) else if (p.fs.length:Int) = p.size then (Pl0,21)
 else (⟨p.size,p.fs ++ [⟨x,false,0,true⟩],p.hand⟩,0)
def QA1 (p:Pl) (hl:p.fs.length<=100000) (x:Pg):VCalls prog 190 [.agg p.d,.agg x.d] [] (Ret (.tup [.agg (Qq8 p x).1.d,.int .i64 (Qq8 p x).2])):=by
 refine dk Tryz.func190 ?_
 have c1:=Qax p (by omega)
 have c2:=QdL x
 have c3:=QcI p (by omega) x.id
 have e:Qq8 p x = if plB p = false then (Pl0,15) else if QaX x ≠ 0 then (Pl0,QaX x) else if 0<=idF p.fs x.id then (Pl0,25) else if (p.fs.length:Int) = p.size then (Pl0,21)
  else (⟨p.size,p.fs ++ [⟨x,false,0,true⟩],p.hand⟩,0):=rfl
 generalize Qq8 p x = r at *
 generalize plB p = b at *
 generalize QaX x = k at *
 generalize idF p.fs x.id = m at *
 have hb:(p.fs.length + 1) * 304<=140737488355328:=by omega
 (unfold Tryz.f190; refine rn trivial ?_)
 have F:=@hb
 refine rn F ?_
 repeat' (first
  | with_reducible exact ⟨⟩
  | (refine sB F ?_ ?_<;>intro hZ)
  | refine vp F (c1) ?_
  | refine vp F (c2) ?_
  | refine vp F (c3) ?_
  | (refine Qd (id:=10) [0,1,3,4] [⟨[5],[],2,[0,3,4],[]⟩,⟨[5],[5],6,[0,1,3,4],[7]⟩,⟨[],[],8,[],[]⟩] (by kernel_rfl) (by kernel_rfl) ?_; refine rn F ?_))
 all_goals first | (first | (rw [e]; simp (disch:=first | assumption | omega | exact rfl | exact nf (by assumption) | exact nt (by assumption) | decide | fail) only [if_pos,if_neg]; first | done | rfl) | (rw [e]; simp (disch:=first | assumption | omega | exact rfl | exact nf (by assumption) | exact nt (by assumption) | decide | (simp_all; done) | fail) only [if_pos,if_neg]; first | done | rfl)) | skip
end
section
attribute [local go_sem] Qbj
def QDc (f:Fm) (x:Pg):Fm:=⟨x,true,if f.dirty = true then f.rc else x.lsn,true⟩
def QAn (p:Pl) (x:Pg):Pl × Int:=
 if plB p = false then (Pl0,15) else if QaX x ≠ 0 then (Pl0,QaX x) else if idF p.fs x.id < 0 then (Pl0,18)
 else if x.lsn<=(p.fs.getD (idF p.fs x.id).toNat Fm0).pg.lsn then (Pl0,8)
 else (⟨p.size,p.fs.set (idF p.fs x.id).toNat (QDc (p.fs.getD (idF p.fs x.id).toNat Fm0) x),p.hand⟩,0)
def QA0 (p:Pl) (hl:p.fs.length<=100000) (x:Pg):VCalls prog 240 [.agg p.d,.agg x.d] [] (Ret (.tup [.agg (QAn p x).1.d,.int .i64 (QAn p x).2])):=by
 refine dk Tryz.func240 ?_
 have c1:=Qax p (by omega)
 have c2:=QdL x
 have c3:=QcI p (by omega) x.id
 have c4:=Qjv p (by omega)
 have e:QAn p x = if plB p = false then (Pl0,15) else if QaX x ≠ 0 then (Pl0,QaX x) else if idF p.fs x.id < 0 then (Pl0,18)
  else if x.lsn<=(p.fs.getD (idF p.fs x.id).toNat Fm0).pg.lsn then (Pl0,8)
  else (⟨p.size,p.fs.set (idF p.fs x.id).toNat (QDc (p.fs.getD (idF p.fs x.id).toNat Fm0) x),p.hand⟩,0):=rfl
 have hi:=Qcs p.fs x.id
 generalize QAn p x = r at *
 generalize plB p = b at *
 generalize QaX x = k at *
 rcases hi with h | ⟨i,hi,h,_⟩
 ·rw [h] at c3 e
  (unfold Tryz.f240; refine rn trivial ?_)
  refine rn F ?_
  repeat' (first
   | with_reducible exact ⟨⟩
   | (refine sB F ?_ ?_<;>intro hZ)
   | refine vp F (c1) ?_
   | refine vp F (c2) ?_
   | refine vp F (c3) ?_)
  all_goals first | (first | (rw [e]; simp (disch:=first | assumption | omega | exact rfl | exact nf (by assumption) | exact nt (by assumption) | decide | fail) only [if_pos,if_neg]; first | done | rfl) | (rw [e]; simp (disch:=first | assumption | omega | exact rfl | exact nf (by assumption) | exact nt (by assumption) | decide | (simp_all; done) | fail) only [if_pos,if_neg]; first | done | rfl)) | skip
 ·rw [h] at c3 e
  rw [Jp] at e
  have hg:=Qb1 p.fs i hi
  have e2:∀ f:Fm,f.dirty = true->QDc f x = ⟨x,true,f.rc,true⟩:=fun f h=>by unfold QDc; rw [if_pos h]
  have e3:∀ f:Fm,¬ f.dirty = true->QDc f x = ⟨x,true,x.lsn,true⟩:=fun f h=>by unfold QDc; rw [if_neg h]
  have c4:=fun f=>c4 i hi f
  generalize p.fs.getD i Fm0 = f at *
  (unfold Tryz.f240; refine rn trivial ?_)
  have F:=@hg
  refine rn F ?_
  repeat' (first
   | with_reducible exact ⟨⟩
   | (refine sB F ?_ ?_<;>intro hZ)
   | refine vp F (c1) ?_
   | refine vp F (c2) ?_
   | refine vp F (c3) ?_
   | refine vp F (c4 ⟨_,_,_,_⟩) ?_)
  all_goals first | (first | (rw [e]; simp (disch:=first | assumption | omega | exact rfl | exact nf (by assumption) | exact nt (by assumption) | decide | fail) only [if_pos,if_neg]; first | done | rfl) | (rw [e]; simp (disch:=first | assumption | omega | exact rfl | exact nf (by assumption) | exact nt (by assumption) | decide | (simp_all; done) | fail) only [if_pos,if_neg]; first | done | rfl)) | (first | (rw [e,e2 f (by assumption)]; simp (disch:=first | assumption | omega | exact rfl | exact nf (by assumption) | exact nt (by assumption) | decide | fail) only [if_pos,if_neg]; first | done | rfl) | (rw [e,e2 f (by assumption)]; simp (disch:=first | assumption | omega | exact rfl | exact nf (by assumption) | exact nt (by assumption) | decide | (simp_all; done) | fail) only [if_pos,if_neg]; first | done | rfl)) | (first | (rw [e,e3 f (by simp_all)]; simp (disch:=first | assumption | omega | exact rfl | exact nf (by assumption) | exact nt (by assumption) | decide | fail) only [if_pos,if_neg]; first | done | rfl) | (rw [e,e3 f (by simp_all)]; simp (disch:=first | assumption | omega | exact rfl | exact nf (by assumption) | exact nt (by assumption) | decide | (simp_all; done) | fail) only [if_pos,if_neg]; first | done | rfl)) | skip
def QfR (f:Fm) (n:Int):Fm:=if f.pg.lsn = n then ⟨f.pg,false,0,f.used⟩ else if f.rc<=n then ⟨f.pg,f.dirty,n + 1,f.used⟩ else f
def Qb2 (p:Pl) (a n:Int):Pl × Int:=
 if plB p = false then (Pl0,15) else if idF p.fs a < 0 then (Pl0,18)
 else if (p.fs.getD (idF p.fs a).toNat Fm0).pg.lsn < n then (Pl0,9)
 else if (p.fs.getD (idF p.fs a).toNat Fm0).dirty = false then (p,0)
 else (⟨p.size,p.fs.set (idF p.fs a).toNat (QfR (p.fs.getD (idF p.fs a).toNat Fm0) n),p.hand⟩,0)
def QsK (p:Pl) (hl:p.fs.length<=100000) (a n:Int) (hn:n<=1099511627776) (hn0:0<=n):VCalls prog 168 [.agg p.d,.int .i64 a,.int .i64 n] [] (Ret (.tup [.agg (Qb2 p a n).1.d,.int .i64 (Qb2 p a n).2])):=by
 refine dk Tryz.func168 ?_
 have c1:=Qax p (by omega)
 have c3:=QcI p (by omega) a
 have c4:=Qjv p (by omega)
 have e:Qb2 p a n = if plB p = false then (Pl0,15) else if idF p.fs a < 0 then (Pl0,18)
  else if (p.fs.getD (idF p.fs a).toNat Fm0).pg.lsn < n then (Pl0,9)
  else if (p.fs.getD (idF p.fs a).toNat Fm0).dirty = false then (p,0)
  else (⟨p.size,p.fs.set (idF p.fs a).toNat (QfR (p.fs.getD (idF p.fs a).toNat Fm0) n),p.hand⟩,0):=rfl
 have hi:=Qcs p.fs a
 generalize Qb2 p a n = r at *
 generalize plB p = b at *
 rcases hi with h | ⟨i,hi,h,_⟩
 ·rw [h] at c3 e
  (unfold Tryz.f168; refine rn trivial ?_)
  refine rn F ?_
  repeat' (first
   | with_reducible exact ⟨⟩
   | (refine sB F ?_ ?_<;>intro hZ)
   | refine vp F (c1) ?_
   | refine vp F (c3) ?_)
  all_goals first | (first | (rw [e]; simp (disch:=first | assumption | omega | exact rfl | exact nf (by assumption) | exact nt (by assumption) | decide | fail) only [if_pos,if_neg]; first | done | rfl) | (rw [e]; simp (disch:=first | assumption | omega | exact rfl | exact nf (by assumption) | exact nt (by assumption) | decide | (simp_all; done) | fail) only [if_pos,if_neg]; first | done | rfl)) | skip
 ·rw [h] at c3 e
  rw [Jp] at e
  have hg:=Qb1 p.fs i hi
  have c4:=fun f=>c4 i hi f
  generalize p.fs.getD i Fm0 = f at *
  obtain ⟨pg,dirty,rc,used⟩:=f
  have e1:pg.lsn = n->QfR ⟨pg,dirty,rc,used⟩ n = ⟨pg,false,0,used⟩:=fun h=>if_pos h
  have e2:¬ pg.lsn = n->rc<=n->QfR ⟨pg,dirty,rc,used⟩ n = ⟨pg,dirty,n + 1,used⟩:=fun h h2=>by unfold QfR; rw [if_neg h,if_pos h2]
  have e3:¬ pg.lsn = n->¬ rc<=n->QfR ⟨pg,dirty,rc,used⟩ n = ⟨pg,dirty,rc,used⟩:=fun h h2=>by unfold QfR; rw [if_neg h,if_neg h2]
  cases dirty
  all_goals
   (unfold Tryz.f168; refine rn trivial ?_)
   have F:=@hg
   refine rn F ?_
   repeat' (first
    | with_reducible exact ⟨⟩
    | (refine sB F ?_ ?_<;>intro hZ)
    | refine vp F (c1) ?_
    | refine vp F (c3) ?_
    | refine vp F (c4 ⟨_,_,_,_⟩) ?_)
  all_goals first | (first | (rw [e]; simp (disch:=first | assumption | omega | exact rfl | exact nf (by assumption) | exact nt (by assumption) | decide | fail) only [if_pos,if_neg]; first | done | rfl) | (rw [e]; simp (disch:=first | assumption | omega | exact rfl | exact nf (by assumption) | exact nt (by assumption) | decide | (simp_all; done) | fail) only [if_pos,if_neg]; first | done | rfl)) | (first | (rw [e,e1 (by omega)]; simp (disch:=first | assumption | omega | exact rfl | exact nf (by assumption) | exact nt (by assumption) | decide | fail) only [if_pos,if_neg]; first | done | rfl) | (rw [e,e1 (by omega)]; simp (disch:=first | assumption | omega | exact rfl | exact nf (by assumption) | exact nt (by assumption) | decide | (simp_all; done) | fail) only [if_pos,if_neg]; first | done | rfl)) | (first | (rw [e,e2 (by omega) (by omega)]; simp (disch:=first | assumption | omega | exact rfl | exact nf (by assumption) | exact nt (by assumption) | decide | fail) only [if_pos,if_neg]; first | done | rfl) | (rw [e,e2 (by omega) (by omega)]; simp (disch:=first | assumption | omega | exact rfl | exact nf (by assumption) | exact nt (by assumption) | decide | (simp_all; done) | fail) only [if_pos,if_neg]; first | done | rfl)) | (first | (rw [e,e3 (by omega) (by omega)]; simp (disch:=first | assumption | omega | exact rfl | exact nf (by assumption) | exact nt (by assumption) | decide | fail) only [if_pos,if_neg]; first | done | rfl) | (rw [e,e3 (by omega) (by omega)]; simp (disch:=first | assumption | omega | exact rfl | exact nf (by assumption) | exact nt (by assumption) | decide | (simp_all; done) | fail) only [if_pos,if_neg]; first | done | rfl)) | skip
def Qid (n:Nat) (i h:Int):Int:=if (n:Int)<=(if i < h then h - 1 else h) then 0 else (if i < h then h - 1 else h)
def QnC (p:Pl) (a:Int):Pl × Int:=
 if plB p = false then (Pl0,15) else if idF p.fs a < 0 then (Pl0,18)
 else if (p.fs.getD (idF p.fs a).toNat Fm0).dirty = true then (Pl0,23)
 else (⟨p.size,p.fs.take (idF p.fs a).toNat ++ p.fs.drop ((idF p.fs a).toNat + 1),Qid (p.fs.length - 1) (idF p.fs a) p.hand⟩,0)
def QwT (p:Pl) (hl:p.fs.length<=100000) (a:Int):VCalls prog 233 [.agg p.d,.int .i64 a] [] (Ret (.tup [.agg (QnC p a).1.d,.int .i64 (QnC p a).2])):=by
 refine dk Tryz.func233 ?_
 have c1:=Qax p (by omega)
 have c3:=QcI p (by omega) a
 have e:QnC p a = if plB p = false then (Pl0,15) else if idF p.fs a < 0 then (Pl0,18)
  else if (p.fs.getD (idF p.fs a).toNat Fm0).dirty = true then (Pl0,23)
  else (⟨p.size,p.fs.take (idF p.fs a).toNat ++ p.fs.drop ((idF p.fs a).toNat + 1),Qid (p.fs.length - 1) (idF p.fs a) p.hand⟩,0):=rfl
 have hi:=Qcs p.fs a
 have hh:=@Qlg p
 generalize QnC p a = r at *
 generalize plB p = b at *
 rcases hi with h | ⟨i,hi,h,_⟩
 ·rw [h] at c3 e
  (unfold Tryz.f233; refine rn trivial ?_)
  refine rn F ?_
  repeat' (first
   | with_reducible exact ⟨⟩
   | (refine sB F ?_ ?_<;>intro hZ)
   | refine vp F (c1) ?_
   | refine vp F (c3) ?_)
  all_goals first | (first | (rw [e]; simp (disch:=first | assumption | omega | exact rfl | exact nf (by assumption) | exact nt (by assumption) | decide | fail) only [if_pos,if_neg]; first | done | rfl) | (rw [e]; simp (disch:=first | assumption | omega | exact rfl | exact nf (by assumption) | exact nt (by assumption) | decide | (simp_all; done) | fail) only [if_pos,if_neg]; first | done | rfl)) | skip
 ·rw [h] at c3 e
  rw [Jp] at e
  cases b
  ·(unfold Tryz.f233; refine rn trivial ?_; try with_reducible exact ⟨⟩)
   refine rn F ?_
   repeat' (first
    | with_reducible exact ⟨⟩
    | refine vp F (c1) ?_)
   all_goals (first | (rw [e]; simp (disch:=first | assumption | omega | exact rfl | exact nf (by assumption) | exact nt (by assumption) | decide | fail) only [if_pos,if_neg]; first | done | rfl) | (rw [e]; simp (disch:=first | assumption | omega | exact rfl | exact nf (by assumption) | exact nt (by assumption) | decide | (simp_all; done) | fail) only [if_pos,if_neg]; first | done | rfl))
  have hh:=hh rfl
  obtain ⟨z,l,hn⟩:=p
  dsimp only at hl e hi
  simp only [Pl.hd] at hh
  have hg:=Qb1 l i hi
  have hb:(i + (l.length - (i + 1))) * 304<=140737488355328:=by omega
  have hb1:i * 304<=140737488355328:=by omega
  have hmin:min i l.length = i:=by omega
  have e1:(i:Int) < hn->¬ ((l.length - 1:Nat):Int)<=hn - 1->Qid (l.length - 1) i hn = hn - 1:=fun h h2=>by unfold Qid; rw [if_pos h,if_neg h2]
  have e2:¬ (i:Int) < hn->¬ ((l.length - 1:Nat):Int)<=hn->Qid (l.length - 1) i hn = hn:=fun h h2=>by unfold Qid; rw [if_neg h,if_neg h2]
  have e3:(i:Int) < hn->((l.length - 1:Nat):Int)<=hn - 1->Qid (l.length - 1) i hn = 0:=fun h h2=>by unfold Qid; rw [if_pos h,if_pos h2]
  have e4:¬ (i:Int) < hn->((l.length - 1:Nat):Int)<=hn->Qid (l.length - 1) i hn = 0:=fun h h2=>by unfold Qid; rw [if_neg h,if_pos h2]
  generalize l.getD i Fm0 = f at *
  (unfold Tryz.f233; refine rn trivial ?_)
  have F:=(Ja @hg (Ja @hb (Ja @hb1 @hmin)))
  refine rn F ?_
  repeat' (first
   | with_reducible exact ⟨⟩
   | (refine sB F ?_ ?_<;>intro hZ)
   | refine vp F (c1) ?_
   | refine vp F (c3) ?_
   | (refine Qd (id:=8) [0,1,2,3,5,6,7,8,9] [⟨[],[],4,[0,1,2,5,6,7,8,9],[]⟩,⟨[],[],10,[0,1,2,3,5,6,7,8],[11]⟩,⟨[],[],12,[],[]⟩] (by kernel_rfl) (by kernel_rfl) ?_; refine rn F ?_))
  all_goals first | (first | (rw [e]; simp (disch:=first | assumption | omega | exact rfl | exact nf (by assumption) | exact nt (by assumption) | decide | fail) only [if_pos,if_neg]; first | done | rfl) | (rw [e]; simp (disch:=first | assumption | omega | exact rfl | exact nf (by assumption) | exact nt (by assumption) | decide | (simp_all; done) | fail) only [if_pos,if_neg]; first | done | rfl)) | (first | (rw [e,e1 (by omega) (by omega)]; simp (disch:=first | assumption | omega | exact rfl | exact nf (by assumption) | exact nt (by assumption) | decide | fail) only [if_pos,if_neg]; first | done | rfl) | (rw [e,e1 (by omega) (by omega)]; simp (disch:=first | assumption | omega | exact rfl | exact nf (by assumption) | exact nt (by assumption) | decide | (simp_all; done) | fail) only [if_pos,if_neg]; first | done | rfl)) | (first | (rw [e,e2 (by omega) (by omega)]; simp (disch:=first | assumption | omega | exact rfl | exact nf (by assumption) | exact nt (by assumption) | decide | fail) only [if_pos,if_neg]; first | done | rfl) | (rw [e,e2 (by omega) (by omega)]; simp (disch:=first | assumption | omega | exact rfl | exact nf (by assumption) | exact nt (by assumption) | decide | (simp_all; done) | fail) only [if_pos,if_neg]; first | done | rfl)) | (first | (rw [e,e3 (by omega) (by omega)]; simp (disch:=first | assumption | omega | exact rfl | exact nf (by assumption) | exact nt (by assumption) | decide | fail) only [if_pos,if_neg]; first | done | rfl) | (rw [e,e3 (by omega) (by omega)]; simp (disch:=first | assumption | omega | exact rfl | exact nf (by assumption) | exact nt (by assumption) | decide | (simp_all; done) | fail) only [if_pos,if_neg]; first | done | rfl)) | (first | (rw [e,e4 (by omega) (by omega)]; simp (disch:=first | assumption | omega | exact rfl | exact nf (by assumption) | exact nt (by assumption) | decide | fail) only [if_pos,if_neg]; first | done | rfl) | (rw [e,e4 (by omega) (by omega)]; simp (disch:=first | assumption | omega | exact rfl | exact nf (by assumption) | exact nt (by assumption) | decide | (simp_all; done) | fail) only [if_pos,if_neg]; first | done | rfl)) | skip
end
section
attribute [local go_sem] Qbj
def Fm.clr (f:Fm):Fm:=⟨f.pg,f.dirty,f.rc,false⟩
def SameF (l m:List Fm):Prop:=m.map Fm.clr = l.map Fm.clr
def Qgw (l:List Fm) (i:Nat):(l.map Fm.clr).getD i Fm0 = (l.getD i Fm0).clr:=by
 rw [Jh,Jh,Kc]; cases l[i]?<;>rfl
def QuJ (l:List Fm) (i:Nat):frC (l.map Fm.clr) i = frC l i:=by
 have h:QCu (l.map Fm.clr) i = QCu l i:=by funext k; simp only [QCu,Qgw]; rfl
 simp only [frC,h,Qgw]; rfl
def SameF.len (h:SameF l m):m.length = l.length:=by have:=congrArg JD h; simpa using this
theorem SameF.refl (l:List Fm):SameF l l:=rfl
def SameF.trans (h:SameF a b) (g:SameF b c):SameF a c:=Eq.trans (b:=b.map Fm.clr) g h
def SameF.at_ (h:SameF l m) (i:Nat):(m.getD i Fm0).clr = (l.getD i Fm0).clr:=by
 rw [<- Qgw,<- Qgw,show m.map Fm.clr = l.map Fm.clr from h]
def SameF.frC (h:SameF l m):frC m = frC l:=by
 funext i; rw [<- QuJ m,<- QuJ l,show m.map Fm.clr = l.map Fm.clr from h]
def SameF.plB (h:SameF p.fs q.fs) (hs:q.size = p.size) (hh:0<=q.hand/\q.hand<=max 0 ((p.fs.length:Int) - 1)) (hp:plB p = true):plB q = true:=by
 have h1:=Qlg hp
 simp only [Pl.hd] at h1
 have hl:=h.len
 unfold Proofs.YtdkdbodcffiiaaaGreat.plB at hp |-
 rw [h.frC,hl,decide_eq_true (by simp only [Pl.hd]; omega)]
 simp only [Jb] at hp
 simpa using hp.2
def Qun (l:List Fm) (a:Int):idF (l.map Fm.clr) a = idF l a:=by
 unfold idF QhO
 rw [List.any_map,List.findIdx_map]; rfl
def SameF.idF (h:SameF l m) (a:Int):idF m a = idF l a:=by
 rw [<- Qun m,<- Qun l,show m.map Fm.clr = l.map Fm.clr from h]
def SameF.set (l:List Fm) (i:Nat) (b:Bool):SameF l (l.set i ⟨(l.getD i Fm0).pg,(l.getD i Fm0).dirty,(l.getD i Fm0).rc,b⟩):=by
 unfold SameF
 rw [List.map_set]
 rcases J1 i l.length with h | h
 ·have:(⟨(l.getD i Fm0).pg,(l.getD i Fm0).dirty,(l.getD i Fm0).rc,b⟩:Fm).clr = (l.map Fm.clr)[i]'(by simpa using h):=by
   rw [Qm l i h,List.getElem_map]; rfl
  rw [this,List.set_getElem_self]
 ·rw [List.set_eq_of_length_le (by simpa using h)]
def Qwg (l:List Fm):Nat:=l.countP (·.used)
def Qr3 (l:List Fm) (i:Nat) (h:i < l.length) (hu:(l.getD i Fm0).used = true):Qwg (l.set i ⟨(l.getD i Fm0).pg,(l.getD i Fm0).dirty,(l.getD i Fm0).rc,false⟩) < Qwg l:=by
 unfold Qwg
 rw [List.countP_set h]
 rw [Qm l i h] at *
 have:0 < l.countP (·.used):=List.countP_pos_iff.2 ⟨l[i],JX h,hu⟩
 simp only [hu,if_true]
 simp
 omega
structure Vic (p:Pl) where
 q:Pl
 ok:plB q = true
 sm:SameF p.fs q.fs
 sz:q.size = p.size
 ne:0 < q.fs.length
def QGx (p:Pl) (a:Pl × Int × Int):Prop:=(a.2.2 = 0->plB p = true/\plB a.1 = true/\SameF p.fs a.1.fs/\a.1.size = p.size/\∃ i,i < a.1.fs.length/\a.2.1 = (a.1.fs.getD i Fm0).pg.id)/\(plB p = true->0 < p.fs.length->a.2.2 = 0)/\a.1.fs.length<=p.fs.length
def QGy (a:Pl × Int × Int):DV:=.tup [.agg a.1.d,.int .i64 a.2.1,.int .i64 a.2.2]
def QAX (p:Pl) (hl:p.fs.length<=100000):VCalls prog 232 [.agg p.d] [] (QI QGy (QGx p)):=by
 refine dk Tryz.func232 ?_
 have c1:=Qax p (by omega)
 cases hb:plB p
 ·rw [hb] at c1
  (unfold Tryz.f232; refine rn trivial ?_)
  refine rn F ?_
  repeat' (first
   | with_reducible exact ⟨⟩
   | refine vp F (c1) ?_)
  all_goals exact ⟨rfl,rfl,(Pl0,0,15),rfl,by simp [QGx,hb,Pl0]⟩
 ·rw [hb] at c1
  (unfold Tryz.f232; refine rn trivial ?_)
  refine rn F ?_
  repeat' (first
   | with_reducible exact ⟨⟩
   | (refine sB F ?_ ?_<;>intro hZ)
   | refine vp F (c1) ?_)
  ·exact ⟨rfl,rfl,(Pl0,0,18),rfl,fun h=>absurd h (by decide),fun _ h=>by omega,JE _⟩
  refine Qg (fun s:Vic p=>⟨51,0,[(2,.ptr 1 0),(1,.ptr 0 0)],[⟨35,true,s.q.d⟩,⟨35,true,[.int .i64 0,.pv (.slc []),.int .i64 0]⟩]⟩) (fun s=>Qwg s.q.fs) ⟨p,hb,SameF.refl _,rfl,by omega⟩ (gc [0,1]) ?_
  intro s
  obtain ⟨q,ok,sm,sz,ne⟩:=s
  obtain ⟨qz,l,hn⟩:=q
  dsimp only at ok sm sz ne |-
  have hh:=Qlg ok
  have hlen:=sm.len
  simp only [Pl.hd] at hh
  obtain ⟨i,rfl⟩:∃ i:Nat,hn = i:=⟨hn.toNat,by omega⟩
  have hi:i < l.length:=by omega
  have hg:=Qb1 l i hi
  have c2:=fun f=>Qjv ⟨qz,l,i⟩ (by dsimp only; omega) i hi f
  have hst:=SameF.set l i false
  have hus:=Qr3 l i hi
  have hmod:((i:Int) + 1).tmod (l.length:Int) = ((i + 1) % l.length:Nat):=Int.ofNat_tmod (i + 1) l.length
  have hml:(i + 1) % l.length < l.length:=Km _ ne
  have hle:∀ f,(l.set i f).length = l.length:=fun f=>J2
  generalize hf:l.getD i Fm0 = f at *
  have F:=(Ja @hg @hle)
  refine rn F ?_
  repeat' (first
   | with_reducible exact ⟨⟩
   | (refine sB F ?_ ?_<;>intro hZ)
   | refine vp F (c2 ⟨_,_,_,_⟩) ?_
   | (refine Qd (id:=10) [0,1,2,3,4,5,6,7,8] [⟨[],[],9,[1,2,3,4,5,6,7,8],[]⟩,⟨[],[],10,[],[]⟩,⟨[],[],11,[],[]⟩] (by kernel_rfl) (by kernel_rfl) ?_; refine rn F ?_))
  ·rw [hmod]
   refine ⟨⟨⟨qz,l.set i ⟨f.pg,f.dirty,f.rc,false⟩,((i + 1) % l.length:Nat)⟩,(sm.trans hst).plB sz ?_ hb,sm.trans hst,sz,?_⟩,hus (by assumption),(gc [0,1])⟩
   ·dsimp only at hlen |-; omega
   ·rw [hle]; exact ne
  ·exact ⟨rfl,rfl,(⟨qz,l,i⟩,f.pg.id,0),rfl,fun _=>⟨hb,ok,sm,sz,i,hi,by rw [hf]⟩,fun _ _=>rfl,by dsimp only at hlen |-; omega⟩
def QsJ (p:Pl) (hl:p.fs.length<=100000):VCalls prog 169 [.agg p.d] [] (QI (fun l:List Dt=>.pv (.sl (fz QdQ l))) fun l=>l.length<=64):=by
 refine dk Tryz.func169 ?_
 have c1:=Qax p (by omega)
 have c2:=QcI p (by omega)
 generalize plB p = b at *
 (unfold Tryz.f169; refine rn trivial ?_)
 refine rn F ?_
 repeat' (first
  | with_reducible exact ⟨⟩
  | (refine sB F ?_ ?_<;>intro hZ)
  | refine vp F (c1) ?_)
 ·exact ⟨rfl,rfl,[],rfl,JE _⟩
 refine VLoop.nilOwn 3 187 3 rfl ?_
 refine rn trivial ?_
 refine Qg (fun s:{s:Nat × List Dt // s.1<=64/\s.2.length<=s.1}=>⟨45,0,[(4,.int .i64 s.1.1),(3,.own 1 3 0 s.1.2.length),(1,.ptr 0 0)],[⟨35,true,p.d⟩,⟨187,true,cells QdQ s.1.2⟩]⟩) (fun s=>64 - s.1.1) ⟨(0,[]),by simp⟩ (gc [0,1]) ?_
 rintro ⟨⟨i,out⟩,hi,ho⟩
 dsimp only at hi ho |-
 have c3:=c2 i
 rcases Qcs p.fs i with h | ⟨j,hj,h,_⟩
 all_goals rw [h] at c3
 ·skip
  refine rn F ?_
  repeat' (first
   | with_reducible exact ⟨⟩
   | (refine sB F ?_ ?_<;>intro hZ)
   | refine vp F (c3) ?_)
  ·exact ⟨⟨(i + 1,out),by dsimp only; omega,by dsimp only; omega⟩,by dsimp only; omega,(gc [0,1])⟩
  ·exact ⟨rfl,rfl,out,rfl,by omega⟩
 ·have hg:=Qb1 p.fs j hj
  have hb:(out.length + 1) * 24<=140737488355328:=by omega
  generalize p.fs.getD j Fm0 = f at *
  have F:=(Ja @hg @hb)
  refine rn F ?_
  repeat' (first
   | with_reducible exact ⟨⟩
   | (refine sB F ?_ ?_<;>intro hZ)
   | refine vp F (c3) ?_
   | (refine Qd (id:=9) [0,1,2,3,4,5,6,7,8,9,10,11,12,13,14,15] [⟨[16],[16],17,[1,2,3,4,5,6,7,8,9,10,11,12,13,14,15],[]⟩,⟨[],[],18,[],[]⟩] (by kernel_rfl) (by kernel_rfl) ?_; refine rn F ?_))
  ·exact ⟨⟨(i + 1,out ++ [⟨i,f.rc,f.pg.lsn⟩]),by dsimp only; omega,by simp; omega⟩,by dsimp only; omega,by dsimp only; rw [Jq]; exact (gc [0,3])⟩
  ·exact ⟨⟨(i + 1,out),by dsimp only; omega,by dsimp only; omega⟩,by dsimp only; omega,(gc [0,1])⟩
  ·exact ⟨rfl,rfl,out,rfl,by omega⟩
end
def Qfi (x:Lg) (h1 : -1099511627776<=x.f/\x.f<=1099511627776) (h2:x.es.length<=1000000):VCalls prog 48 [.agg x.c] [] (Ret (.int .i64 x.end_)):=by
 refine dd Tryz.func48 ?_
 unfold Lg.end_
 (unfold Tryz.f48; refine rn trivial ?_; try with_reducible exact ⟨⟩)
def Qt5 {x:Lg} (h:lgB x = true):x.end_<=1099511627776:=by
 have hd:=QT h
 unfold Lg.hd at hd
 unfold Lg.end_
 unfold lgB at h
 simp only [Jb,JP] at h
 by_cases h0:x.es.length = 0
 ·omega
 ·have:=h.2 (x.es.length - 1) (JL.2 (by omega))
  unfold lgC at this
  simp only [Jb,decide_eq_true_eq] at this
  obtain ⟨h3,h4⟩:=this
  generalize x.es.getD (x.es.length - 1) E0 = e at *
  unfold E.okB at h4
  simp only [Jb,decide_eq_true_eq] at h4
  omega
def Q8 (x:Lg) (hx:x.es.length<=9223372036854775807):VCalls prog 47 [.agg x.c] [] (Ret (.bool (lgB x))):=by
 refine dd Tryz.func47 ?_
 obtain ⟨f,es,d⟩:=x
 dsimp only at hx
 have c1:=Qfi ⟨f,es,d⟩
 unfold Lg.end_ at c1
 dsimp only at c1
 have hB:lgB ⟨f,es,d⟩ = (decide (Lg.hd ⟨f,es,d⟩) && (Jv es.length).all (lgC ⟨f,es,d⟩)):=rfl
 have hH:Lg.hd ⟨f,es,d⟩ = (1<=f/\f<=1099511627776/\es.length<=4096/\f - 1<=d/\d<=f + es.length - 1):=rfl
 have hB':Lg.hd ⟨f,es,d⟩->lgB ⟨f,es,d⟩ = (Jv es.length).all (lgC ⟨f,es,d⟩):=fun h=>by rw [hB,decide_eq_true h,Ko]
 have no:¬ Lg.hd ⟨f,es,d⟩->lgB ⟨f,es,d⟩ = false:=fun h=>by rw [hB,decide_eq_false h]; rfl
 have hlc:∀ i,lgC ⟨f,es,d⟩ i = (decide ((es.getD i E0).lsn = f + i) && (es.getD i E0).okB):=fun _=>rfl
 generalize lgB ⟨f,es,d⟩ = b at *
 generalize lgC ⟨f,es,d⟩ = lc at *
 (unfold Tryz.f47; refine rn trivial ?_)
 refine rn F ?_
 repeat' (first
  | with_reducible exact ⟨⟩
  | (refine sG F ?_ ?_<;>intro hZ)
  | (refine sB F ?_ ?_<;>intro hZ)
  | refine vp F (c1 (by omega) (by omega)) ?_
  | (refine Qd (id:=1) [0,1,2,3,4,5,6,7,8,9,10,11,12,13,14,15,16,17,18,19,20,21,22,23,24,25] [⟨[],[],26,[0,1,2,3,4,5,6,7,8,9,10,11,12,13,14,15,16,17,18,19,20,21,23,24],[27,28]⟩] (by kernel_rfl) (by kernel_rfl) ?_; refine rn F ?_))
 all_goals first | (rw [no (by rw [hH]; omega)]) | skip
 refine Qg (fun s:Okay es.length lc=>⟨60,0,[(3,.int .i64 s.i),(1,.ptr 0 0)],[⟨32,true,Lg.c ⟨f,es,d⟩⟩]⟩) (fun s=>es.length - s.i) (Okay.start _ _) (gc [0]) ?_
 intro s
 have hsi:=s.hi
 have hg:=fun h:s.i < es.length=>Qbu es s.i h
 have c2:=QcG (es.getD s.i E0)
 have e:=hlc s.i
 generalize (es.getD s.i E0).okB = ok at *
 have F:=@hg
 refine rn F ?_
 repeat' (first
  | with_reducible exact ⟨⟩
  | (refine sG F ?_ ?_<;>intro hZ)
  | (refine sB F ?_ ?_<;>intro hZ)
  | refine vp F (c2) ?_
  | (refine Qd (id:=6) [0,1,2,3,4,5,6,7,8,9,10,11,12,13,14,15,16] [⟨[],[],17,[0,1,2,3,4,5,6,7,8,9,10,12,13,14,15],[18,19]⟩] (by kernel_rfl) (by kernel_rfl) ?_; refine rn F ?_))
 all_goals first
  | (exact congrArg DV.bool (s.no (by omega) (hB' (by rw [hH]; omega)) (by rw [e]; first | (rw [decide_eq_false (by omega)]; rfl) | simp_all)).symm)
  | (exact congrArg DV.bool (s.yes (by omega) (hB' (by rw [hH]; omega))).symm)
  | (exact ⟨s.next (by omega) (by rw [e]; simp_all),s.dec (by omega),(gc [0])⟩)
  | skip
section
attribute [local go_sem] Ce.d Ch.d E.d Qfq Qim Qil Qh2 Qh1 Qie QcA
def Qcp (l:List E) (hl:l.length<=1000000) (g:FuncId) (caps:List DV) (hc:DV.nums.go (fun _=>false) caps = true) (p:E->Bool) (hf:∀ x,VCalls prog g (.agg x.d :: caps) [] (Ret (.bool (p x)))) :
 VCalls prog 89 [.pv (.sl (fz encE l)),.fn (.func g) [] caps] [] (Ret (.int .i64 (QhO l p))):=by
 refine dd Tryz.func89 ?_
 have hf':=hf
 unfold E.d at hf
 (unfold Tryz.f89; refine rn trivial ?_)
 refine QrJ (fun i:Pass l (fun x=>p x = true)=>⟨19,0,[(8,.int .i64 i.i),(7,.int .i64 l.length),(0,.pv (.sl (fz encE l))),(1,.fn (.func g) [] caps)],[]⟩) (fun i=>l.length - i.i) (Pass.start l _) (by refine ⟨rfl,rfl,by simp,?_,?_,.inl rfl⟩<;>(repeat' apply Ja)<;>first | rfl | trivial) ?_
 intro i
 have hi:=i.hi
 refine rn trivial ?_
 refine QaB (fun hc1=>?_) (fun hc1=>?_)<;>simp only [decide_eq_true_eq,decide_eq_false_iff_not,Jf,Jb,Jo,Jm,Jg,Je,beq_iff_eq,beq_eq_false_iff_ne,bne_iff_ne,bne_eq_false_iff_eq,ne_eq] at hc1
 ·have hlt:i.i < l.length:=by omega
  have hg:=Qnu l i.i hlt
  have hm:=hf (l.getD i.i E0)
  have hgd:=Qm l i.i hlt E0
  refine rn @hg ?_
  refine Qag hm (by simpa [DV.nums.go,DV.nums] using hc) ?_
  refine rn trivial ?_
  refine QaB (fun hx=>?_) (fun hx=>?_)
  ·(refine rn trivial ?_; try with_reducible exact ⟨⟩)
   rw [Qnp l p i.i hlt (by rw [<- hgd]; exact hx) i.no]
  ·(refine rn trivial ?_; try with_reducible exact ⟨⟩)
   exact ⟨i.next hlt (by rw [<- hgd,hx]; simp),by show l.length - (i.i + 1) < l.length - i.i; omega,(by refine ⟨rfl,rfl,by simp,?_,?_,.inl rfl⟩<;>(repeat' apply Ja)<;>first | rfl | trivial)⟩
 ·(refine rn trivial ?_; try with_reducible exact ⟨⟩)
  have:=i.all (by omega)
  rw [QhO,if_neg (by simpa using this)]
def Qbt (l:List E) (hl:l.length<=1000000) (g:FuncId) (caps:List DV) (hc:DV.nums.go (fun _=>false) caps = true) (p:E->Bool) (hf:∀ x,VCalls prog g (.agg x.d :: caps) [] (Ret (.bool (p x)))) :
 VCalls prog 94 [.pv (.sl (fz encE l)),.fn (.func g) [] caps] [] (Ret (.bool (l.any p))):=by
 refine dd Tryz.func94 ?_
 have hi:=Qcp l hl g caps hc p hf
 (unfold Tryz.f94; refine rn trivial ?_)
 refine Qag hi (by simpa [DV.nums.go,DV.nums] using hc) ?_
 by_cases ha:l.any p = true
 ·rw [QhO,if_pos ha]
  (refine rn @ha ?_; try with_reducible exact ⟨⟩)
 ·have ha':l.any p = false:=by simpa using ha
  rw [QhO,if_neg ha]
  (refine rn @ha' ?_; try with_reducible exact ⟨⟩)
@[local go_sem] def Ch.inv (x:Ch):Ch:=⟨x.pg,x.sl,x.a,x.b⟩
def QlL (x:Ch):VCalls prog 91 [.agg x.d] [] (Ret (.agg x.inv.d)):=by
 refine dd Tryz.func91 ?_
 (unfold Tryz.f91; refine rn trivial ?_; try with_reducible exact ⟨⟩)
@[local go_sem] def E.q (x:E):List PV:=[.lit (.int .i64 x.lsn),.lit (.int .i64 x.kind),.lit (.int .i64 x.tx),.lit (.int .i64 x.ptx),.lit (.int .i64 x.ppg),.lit (.int .i64 x.ref),.lit (.int .i64 x.c.pg),.lit (.int .i64 x.c.sl),.lit (.bool x.c.b.set),.str x.c.b.data,.lit (.bool x.c.a.set),.str x.c.a.data,.str x.blob]
def QgO (x:E) (e:E):VCalls prog 90 [.agg x.d,.ip e.q] [] (Ret (.bool (decide (x.lsn >= e.ref)))):=by
 refine dd Tryz.func90 ?_
 (unfold Tryz.f90; refine rn trivial ?_; try with_reducible exact ⟨⟩)
def QgN (x:E) (e:E):VCalls prog 95 [.agg x.d,.ip e.q] [] (Ret (.bool (decide (x.c.pg = e.c.pg) && decide (x.c.sl = e.c.sl)))):=by
 refine dd Tryz.func95 ?_
 (unfold Tryz.f95; refine rn trivial ?_)
 refine rn F ?_
 repeat' (first
  | with_reducible exact ⟨⟩
  | (refine sG F ?_ ?_<;>intro hZ))
 all_goals exact congrArg DV.bool (J3 _ _)
def zE:List DV:=[.pv (.lit (.int .i64 0)),.pv (.lit (.int .i64 0)),.pv (.lit (.int .i64 0)),.pv (.lit (.int .i64 0)),.pv (.lit (.int .i64 0)),.pv (.lit (.int .i64 0)),.pv (.lit (.int .i64 0)),.pv (.lit (.int .i64 0)),.pv (.lit (.bool false)),.pv (.str []),.pv (.lit (.bool false)),.pv (.str []),.pv (.str [])]
def QB8 (n:Int) (h0:0<=n) (h1:n<=100000):VCalls prog 117 [.pv (.slc []),.int .i64 n] [] (QhL noK [] 13 0 73 []):=by
 refine VCalls.newSl_cut (t:=mk zE n.toNat) (VCalls.newSl ?_)
 refine QgI (fn:=Tryz.f117) Tryz.func117 rfl (by kernel_rfl) (by simp [Tryz.f117]) (fun c=>?_)
 have hn:¬ n < 0:=by omega
 have hs:n - (0 - ((0:Nat):Int)) = n:=by omega
 refine VWpG.first (Qa c) ?_
 (unfold Tryz.f117; refine rn trivial ?_)
 refine VWpG.seq ?_
 refine VWpG.first (Qa c) ?_
 refine rn @hn ?_
 refine VWpG.cond rfl (fun hZ=>?_) (fun hZ=>?_)
 ·simp at hZ
 refine VWpG.plain (Qa c) ?_
 refine rn trivial ?_
 refine VWpG.seq ?_
 refine VWpG.seq ?_
 refine VWpG.cut1 (Qa c) 2 [] ?_
 refine rn trivial ?_
 refine QO rfl (fun c=>by simp) (QjY (Qa c) rfl (Ql7 (x:=.tmp 9) rfl Tryz.velem30 rfl) ?_)
 refine rn trivial ?_
 rw [hs]
 refine VWpG.first (Qa c) ?_
 refine rn trivial ?_
 refine VWpG.cond rfl (fun hZ=>?_) (fun hZ=>?_)
 ·have hn0:0 < n:=by simpa using hZ
  refine VWpG.cut1 (Qa c) 2 [0,1] ?_
  refine rn trivial ?_
  refine QO rfl (fun c=>by simp) (QjY (Qa c) rfl (Ql7 (x:=.tmp 18) rfl Tryz.velem30 rfl) (Qdy ?_))
  refine rn trivial ?_
  refine QO rfl (fun c=>by simp) (QjY (Qa c) rfl (QmV (x:=.tmp 17) (y:=.tmp 19) rfl Tryz.velem30 rfl rfl) (Qdy ?_))
  refine rn trivial ?_
  refine QO rfl (fun c=>by simp) (QjY (Qa c) rfl (Qmd (x:=.tmp 20) (y:=.tmp 21) (z:=zE) (l:=n) rfl Tryz.velem30 (by kernel_rfl) Tryz.bytes73 Tryz.vzero73 hn0 (by omega) (by decide) rfl rfl (by decide) (by omega) rfl rfl) ?_)
  refine rn trivial ?_
  refine VWpG.plain (Qa c) ?_
  refine rn trivial ?_
  exact ⟨by simp,.inr ⟨_,.inl rfl,by simp,rfl,QtX _ _ rfl _⟩⟩
 ·have hn0:n = 0:=by simp at hZ; omega
  subst hn0
  refine VWpG.plain (Qa c) ?_
  refine rn trivial ?_
  refine VWpG.plain (Qa c) ?_
  refine rn trivial ?_
  exact ⟨by simp,.inl ⟨rfl,rfl,rfl⟩⟩
@[local go_sem] def l2 (a b:List E):List (List PV):=[[.sl (fz encE a)],[.sl (fz encE b)]]
structure C2 (a b:List E) where
 i:Nat
 hi:i<=2
def C2.n {a b:List E} (s:C2 a b):Nat:=match s.i with | 0=>0 | 1=>a.length | _=>a.length + b.length
def C2.l {a b:List E} (s:C2 a b):List E:=match s.i with | 0=>[] | 1=>a | _=>a ++ b
theorem C2.n0 (a b:List E) (h:0<=2):(⟨0,h⟩:C2 a b).n = 0:=rfl
theorem C2.n1 (a b:List E) (h:1<=2):(⟨1,h⟩:C2 a b).n = a.length:=rfl
theorem C2.n2 (a b:List E) (h:2<=2):(⟨2,h⟩:C2 a b).n = a.length + b.length:=rfl
theorem C2.l0 (a b:List E) (h:0<=2):(⟨0,h⟩:C2 a b).l = []:=rfl
theorem C2.l1 (a b:List E) (h:1<=2):(⟨1,h⟩:C2 a b).l = a:=rfl
theorem C2.l2 (a b:List E) (h:2<=2):(⟨2,h⟩:C2 a b).l = a ++ b:=rfl
def Ql6 (a b:List E) (h:a.length + b.length<=100000):VCalls prog 93 [.pv (.sl (l2 a b))] [] (QhL noK [] 13 (a.length + b.length) 73 (cells encE (a ++ b))):=by
 refine VCalls.newSl ?_
 refine Qbd (fn:=Tryz.f93) Tryz.func93 rfl (by kernel_rfl) (by simp [Tryz.f93]) ?_
 (unfold Tryz.f93; refine rn trivial ?_)
 refine QrJ (fun s:C2 a b=>⟨36,0,[(11,.int .i64 s.i),(10,.int .i64 2),(9,.pv (.sl (l2 a b))),(3,.int .i64 s.n),(0,.pv (.sl (l2 a b)))],[]⟩) (fun s=>2 - s.i) ⟨0,by omega⟩ (by refine ⟨rfl,rfl,by simp,?_,?_,.inl rfl⟩<;>(repeat' apply Ja)<;>first | rfl | trivial) ?_
 rintro ⟨i,hi⟩
 have hh:i = 0\/i = 1\/i = 2:=by omega
 have q0:((0:Nat):Int) + a.length = a.length:=by omega
 have q1:¬ ((a.length:Int) < 0):=by omega
 have q2:¬ (((a.length + b.length:Nat):Int) < 0):=by omega
 have q3:(a.length:Int) + b.length = ((a.length + b.length:Nat):Int):=by omega
 rcases hh with rfl | rfl | rfl
 ·(refine rn (Ja (C2.n0 a b) (Ja @q0 @q1)) ?_; try with_reducible exact ⟨⟩)
  exact ⟨⟨1,by omega⟩,by dsimp only; omega,(by refine ⟨rfl,rfl,by simp,?_,?_,.inl rfl⟩<;>(repeat' apply Ja)<;>first | rfl | trivial)⟩
 ·(refine rn (Ja (C2.n1 a b) (Ja @q2 @q3)) ?_; try with_reducible exact ⟨⟩)
  exact ⟨⟨2,by omega⟩,by dsimp only; omega,(by refine ⟨rfl,rfl,by simp,?_,?_,.inl rfl⟩<;>(repeat' apply Ja)<;>first | rfl | trivial)⟩
 ·(refine rn ((C2.n2 a b)) ?_; try with_reducible exact ⟨⟩)
  refine QAg (QB8 _ (by omega) (by omega)) rfl rfl ?_
  refine rn trivial ?_
  refine Qg (fun s:C2 a b=>⟨36,0,[(27,.int .i64 s.i),(26,.int .i64 2),(25,.pv (.sl (l2 a b))),(6,.own 0 13 0 s.n)],[⟨73,true,cells encE s.l⟩]⟩) (fun s=>2 - s.i) ⟨0,by omega⟩ (gc [0]) ?_
  rintro ⟨i,hi⟩
  have hh:i = 0\/i = 1\/i = 2:=by omega
  have ha:=QjU encE a
  have hb:=QjU encE b
  have m1:a.length * 128<=140737488355328:=by omega
  have m2:(a.length + b.length) * 128<=140737488355328:=by omega
  rcases hh with rfl | rfl | rfl
  ·(refine rn (Ja (C2.l0 a b) (Ja (C2.n0 a b) (Ja @ha @m1))) ?_; try with_reducible exact ⟨⟩)
   exact ⟨⟨1,by omega⟩,by dsimp only; omega,(gc [1])⟩
  ·(refine rn (Ja (C2.l1 a b) (Ja (C2.n1 a b) (Ja @hb @m2))) ?_; try with_reducible exact ⟨⟩)
   exact ⟨⟨2,by omega⟩,by dsimp only; omega,(gc [1])⟩
  ·(refine rn (Ja (C2.l2 a b) ((C2.n2 a b))) ?_; try with_reducible exact ⟨⟩)
   exact ⟨by simp,.inr ⟨0,.inl rfl,by simp,rfl,Qu _ _ _⟩⟩
end
section
attribute [local go_sem] Ce.d Ch.d E.d Qfq Qim Qil Qh2 Qh1 Qie QcA Qq2 Qq1 Qq0 E.q Ch.inv JF
def QdE (U:List Int):List (Int × DV):=U.map fun x=>(x,.bool true)
def Qon (U:List Int) (x:Int):List Int:=if x ∈ U then U else U ++ [x]
def QlR (U:List Int) (x:Int):(QbX (QdE U) x).getD (.bool false) = .bool (decide (x ∈ U)):=by
 induction U with
 | nil=>rfl
 | cons a r ih =>
   unfold QdE at ih |-
   simp only [JT,QbX]
   by_cases h:a = x
   ·subst h; simp
   ·rw [if_neg h,ih]; congr 1; simp [Ne.symm h]
def Qle (U:List Int) (x:Int):Qee (QdE U) x (.bool true) = QdE (Qon U x):=by
 induction U with
 | nil=>rfl
 | cons a r ih =>
   unfold QdE Qon at ih |-
   simp only [JT,Qee]
   by_cases h:a = x
   ·subst h; simp
   ·rw [if_neg h,ih]
    by_cases hr:x ∈ r
    ·simp [hr]
    ·simp [hr,Ne.symm h]
def Qaf (e x:E):Bool:=decide (x.lsn >= e.ref)
def Qda (e x:E):Bool:=decide (x.c.pg = e.c.pg) && decide (x.c.sl = e.c.sl)
def Qqu (hp:Qb) (g:MapsD) (kc bt bp bu:Nat) (f:Int) (e:E) (U:List Int) (hk:kc < hp.length) (hc:Qc hp kc = some (ckC f bt bp bu)) (hg:(bu,Qam kI (QdE U)) ∈ g) (kt:Nat) (la:Int) (ea ab en:Bool) (hkt:kt < hp.length) (ht:Qc hp kt = some (rnC la ea ab en (.pv (.slc [])))) :
 VCallsG prog 67 [.ptr kc 0,.ptr kt 0,.agg e.d] hp g (fun r h' g'=>∃ b,r = .bool b/\b = (decide (e.ref < f) && !decide (e.ref ∈ U))/\(b = true->(∃ x,h' = hp ++ [x])/\g' = g.map fun p=>if p.1 = bu then (bu,Qam kI (QdE (Qon U e.ref))) else p)):=by
 refine Q4 (fn:=Tryz.f67) Tryz.func67 rfl (by kernel_rfl) (by simp [Tryz.f67]) (fun c=>?_)
 unfold ckC at hc
 unfold rnC at ht
 refine VWpG.first (Qa c) ?_
 (unfold Tryz.f67; refine rn trivial ?_)
 refine VWpG.seq ?_
 refine VWpG.drawn (k:=6) (f:=6) (Qa c) (by kernel_rfl) (by kernel_rfl) (by kernel_rfl) (by kernel_rfl) rfl ?_; refine Qab (by kernel_rfl) ?_
 refine rn (Ja @hk @hc) ?_
 refine Qa7 (zv:=.bool false) (L:=QdE U) (k:=e.ref) rfl rfl um3 Qic (Q7 z3) (QaZ rfl) rfl hg (Qad rfl) ?_
 rw [show (DV.pv (.lit (.bool false))) = .bool false from rfl,QlR]
 refine rn trivial ?_
 refine VWpG.seq ?_
 refine VWpG.drawn (k:=6) (f:=6) (Qa c) (by kernel_rfl) (by kernel_rfl) (by kernel_rfl) (by kernel_rfl) rfl ?_; refine Qab (by kernel_rfl) ?_
 refine rn (Ja @hk @hc) ?_
 refine QaS (L:=QdE U) (k:=e.ref) rfl rfl um3 Qic rfl hg (Qad rfl) ?_
 refine rn trivial ?_
 rw [show (DV.pv (.lit (.bool true))) = .bool true from rfl,Qle]
 have hi:=Qcp [] (by decide) 90 [.ip e.q] rfl (Qaf e) (fun x=>QgO x e)
 have hco:=Qbt [] (by decide) 95 [.ip e.q] rfl (Qda e) (fun x=>QgN x e)
 have hi':VCalls prog 89 [.pv (.slc []),.fn (.func 90) [] [.ip e.q]] [] (Ret (.int .i64 (-1))):=VCalls.wkA hi
 have hco':VCalls prog 94 [.pv (.sl []),.fn (.func 95) [] [.ip e.q]] [] (Ret (.bool false)):=hco
 refine VWpG.plain (Qa c) ?_
 have F:=(Ja @hk (Ja @hc (Ja @hkt @ht)))
 refine rn F ?_
 repeat' (first
  | with_reducible exact ⟨⟩
  | (refine sG F ?_ ?_<;>intro hZ)
  | (refine sB F ?_ ?_<;>intro hZ)
  | refine vl F (hi') ?_
  | refine vl F (hco') ?_
  | (refine Qd (id:=7) [0,1,2,3,4,5,6] [] (by kernel_rfl) (by kernel_rfl) ?_; refine rn F ?_)
  | (refine Qd (id:=8) [0,1,2,3,4,5,6,7,8,9,10,11,12,13,14,15,16,18,19] [⟨[],[],17,[0,1,2,3,4,5,6,7,8,9,10,11,13,14,15,18,19],[20,21]⟩] (by kernel_rfl) (by kernel_rfl) ?_; refine rn F ?_))
 all_goals exact ⟨_,rfl,rfl,fun _=>⟨_,rfl⟩⟩
def Qgx (ho:off = i * 13) (h:i + len<=l.length):Qgy n hp off 13 len (some (cells encE l)) = some (.sl (fz encE ((l.drop i).take len))):=by
 subst ho
 have h0:=QqH encE (n:=n) (hp:=hp) (len:=len) (l:=(l.drop i).take len) (m:=(l.drop i).drop len) (by simp; omega)
 rw [J4] at h0
 have e:(encE.sz) = 13:=rfl
 rw [e] at h0
 have hd:(cells encE l).drop (i * 13) = cells encE (l.drop i):=Qfz encE l i
 simp only [Qgy] at h0 |-
 rw [hd]
 rw [Kl,if_pos ⟨by rw [Qfq,Jy]; omega,by decide⟩] at h0
 rw [if_pos ⟨by rw [Qfq]; omega,by decide⟩]
 exact h0
def Qyk (l:List E):∀ d ∈ cells encE l,d.flat = true:=QqI encE l fun a _ p hp=>by
 simp only [encE,JW,JS,or_false] at hp
 rcases hp with rfl | rfl | rfl | rfl | rfl | rfl | rfl | rfl | rfl | rfl | rfl | rfl | rfl<;>rfl
def atE (l:List E) (i:Nat) (h:i < l.length):((cells encE l).drop (i * 13)).take 13 = (l.getD i E0).d:=by rw [Qm l i h]; exact QdT encE l i h
def QGP (l:List E) (i:Nat) (h:i < l.length):(cells encE l)[i * 13]? = some (.pv (.lit (.int .i64 (l.getD i E0).lsn))):=by
 have h2:=congrArg (fun x=>x[0]?) (atE l i h)
 simp only [JJ,Ka,Kq] at h2
 rw [if_pos (by decide)] at h2
 exact h2
def QGO (l:List E) (i:Nat) (h:i < l.length):((cells encE l).drop (i * 13 + 6)).take 6 = (l.getD i E0).c.d:=by
 have h2:=congrArg (fun x=>(x.drop 6).take 6) (atE l i h)
 simp only [List.drop_take,J6,List.take_take] at h2
 exact h2
def Qyh (hb:Qc hp k = some (cells encE l)) (ho:off = i * 13) (h:i + len<=l.length):Qhr 0 hp (f + 1) (.own k 13 off len) = some (.sl (fz encE ((l.drop i).take len))):=by
 subst ho
 have hd:(cells encE l).drop (i * 13) = cells encE (l.drop i):=Qfz encE l i
 have h1:=QdS encE 0 hp f ((l.drop i).take len)
 have hr:rows 13 len (cells encE (l.drop i)) = rows 13 len (cells encE ((l.drop i).take len)):=by
  conv=>lhs; rw [<- J4 len (l.drop i),Qz]
  exact Qk5 _ _ _ _ (by rw [Qfq,Jj,Jy,Nat.min_eq_left (by omega)]; exact Ki _)
 have hl:((l.drop i).take len).length = len:=by simp; omega
 rw [hl] at h1
 simp only [Qhr,hb,JF,if_false]
 rw [if_pos ⟨by rw [Qfq]; omega,by decide⟩,hd,hr]
 exact congrArg (Option.map PV.sl) h1
def Qux (hb:Qc hp k = some [d1,d2]) (h1:Qhr 0 hp 3 d1 = some p1) (h2:Qhr 0 hp 3 d2 = some p2):Qmn hp (.own k 1 0 2) = some (.pv (.sl [[p1],[p2]])):=by
 rw [QlU,QcV,if_neg (JF _),QoP,if_neg (JF _),hb]
 simp [Qgy,rows,h1,h2,Qh]
def Qpn (P:List E) (j:Nat):List E:=P.take j ++ P.drop (j + 1)
def QGd (x y:Ce):Bool:=x.set == y.set && x.data == y.data
def eqC (x y:Ch):Bool:=x.pg == y.pg && (x.sl == y.sl && (x.b.set == y.b.set && (x.b.data == y.b.data && (x.a.set == y.a.set && x.a.data == y.a.data))))
end
section
attribute [local go_sem] Ce.d Ch.d E.d Qfq Qim Qil Qh2 Qh1 Qie QcA Qq2 Qq1 Qq0 E.q Ch.inv JF QM Q9
def Qqt (hp:Qb) (g:MapsD) (kc bt bp bu:Nat) (f:Int) (e:E) (U:List Int) (hk:kc < hp.length) (hc:Qc hp kc = some (ckC f bt bp bu)) (hg:(bu,Qam kI (QdE U)) ∈ g) (kt kp:Nat) (la:Int) (ea ab en:Bool) (P:List E) (hPl:P.length<=10000)
 (hkt:kt < hp.length) (ht:Qc hp kt = some (rnC la ea ab en (.own kp 13 0 P.length))) (hkp:kp < hp.length) (hpb:hp[kp]? = some ⟨73,true,cells encE P⟩) (hne:kt ≠ kp)
 (ha:P.any (Qaf e) = true) (hfe:¬ f<=e.ref) :
 VCallsG prog 67 [.ptr kc 0,.ptr kt 0,.agg e.d] hp g (fun r h' g'=>∃ b,r = .bool b/\b = (!decide (e.ref ∈ U) && !(P.drop (P.findIdx (Qaf e))).any (Qda e))/\(b = true->(∃ x,h' = hp ++ [x])/\g' = g.map fun p=>if p.1 = bu then (bu,Qam kI (QdE (Qon U e.ref))) else p)):=by
 refine Q4 (fn:=Tryz.f67) Tryz.func67 rfl (by kernel_rfl) (by simp [Tryz.f67]) (fun c=>?_)
 have hpc:Qc hp kp = some (cells encE P):=Qby hpb
 unfold ckC at hc
 unfold rnC at ht
 refine VWpG.first (Qa c) ?_
 (unfold Tryz.f67; refine rn trivial ?_)
 refine VWpG.seq ?_
 refine VWpG.drawn (k:=6) (f:=6) (Qa c) (by kernel_rfl) (by kernel_rfl) (by kernel_rfl) (by kernel_rfl) rfl ?_; refine Qab (by kernel_rfl) ?_
 refine rn (Ja @hk @hc) ?_
 refine Qa7 (zv:=.bool false) (L:=QdE U) (k:=e.ref) rfl rfl um3 Qic (Q7 z3) (QaZ rfl) rfl hg (Qad rfl) ?_
 rw [show (DV.pv (.lit (.bool false))) = .bool false from rfl,QlR]
 refine rn trivial ?_
 refine VWpG.seq ?_
 refine VWpG.drawn (k:=6) (f:=6) (Qa c) (by kernel_rfl) (by kernel_rfl) (by kernel_rfl) (by kernel_rfl) rfl ?_; refine Qab (by kernel_rfl) ?_
 refine rn (Ja @hk @hc) ?_
 refine QaS (L:=QdE U) (k:=e.ref) rfl rfl um3 Qic rfl hg (Qad rfl) ?_
 refine rn trivial ?_
 rw [show (DV.pv (.lit (.bool true))) = .bool true from rfl,Qle]
 have hj:P.findIdx (Qaf e) < P.length:=Ju (by simpa using ha)
 have hi:=Qcp P (by omega) 90 [.ip e.q] rfl (Qaf e) (fun x=>QgO x e)
 rw [QhO,if_pos ha] at hi
 generalize P.findIdx (Qaf e) = j at *
 have hco:=Qbt (P.drop j) (by simp; omega) 95 [.ip e.q] rfl (Qda e) (fun x=>QgN x e)
 have hfr:∀ hp',Qgy 0 hp' (j * 13) 13 (P.length - j) (some (cells encE P)) = some (.sl (fz encE (P.drop j))):=fun hp'=>by
  rw [Qgx (i:=j) (len:=P.length - j) rfl (by omega),Ji (by simp)]
 have hj0:¬ ((j:Int) < 0):=by omega
 refine VWpG.plain (Qa c) ?_
 have F:=(Ja @hk (Ja @hc (Ja @hkt (Ja @ht (Ja @hkp (Ja @hpc (Ja @hpb (Ja @hj (Ja @hj0 (Ja @hfr @hfe))))))))))
 refine rn F ?_
 repeat' (first
  | with_reducible exact ⟨⟩
  | (refine sG F ?_ ?_<;>intro hZ)
  | refine vl F (hi) ?_
  | refine vl F (hco) ?_
  | (refine Qd (id:=7) [0,1,2,3,4,5,6] [] (by kernel_rfl) (by kernel_rfl) ?_; refine rn F ?_))
 all_goals exact ⟨_,rfl,rfl,fun _=>⟨_,rfl⟩⟩
def Qqr (hp:Qb) (g:MapsD) (kc bt bp bu:Nat) (f:Int) (e:E) (U:List Int) (hk:kc < hp.length) (hc:Qc hp kc = some (ckC f bt bp bu)) (hg:(bu,Qam kI (QdE U)) ∈ g) (kt kp:Nat) (la:Int) (ea ab en:Bool) (P:List E) (hPl:P.length<=10000)
 (hkt:kt < hp.length) (ht:Qc hp kt = some (rnC la ea ab en (.own kp 13 0 P.length))) (hkp:kp < hp.length) (hpb:hp[kp]? = some ⟨73,true,cells encE P⟩) (hne:kt ≠ kp)
 (ha:P.any (Qaf e) = false) :
 VCallsG prog 67 [.ptr kc 0,.ptr kt 0,.agg e.d] hp g (fun r h' g'=>∃ b,r = .bool b/\b = (decide (e.ref < f) && !decide (e.ref ∈ U))/\(b = true->(∃ x,h' = hp ++ [x])/\g' = g.map fun p=>if p.1 = bu then (bu,Qam kI (QdE (Qon U e.ref))) else p)):=by
 refine Q4 (fn:=Tryz.f67) Tryz.func67 rfl (by kernel_rfl) (by simp [Tryz.f67]) (fun c=>?_)
 have hpc:Qc hp kp = some (cells encE P):=Qby hpb
 unfold ckC at hc
 unfold rnC at ht
 refine VWpG.first (Qa c) ?_
 (unfold Tryz.f67; refine rn trivial ?_)
 refine VWpG.seq ?_
 refine VWpG.drawn (k:=6) (f:=6) (Qa c) (by kernel_rfl) (by kernel_rfl) (by kernel_rfl) (by kernel_rfl) rfl ?_; refine Qab (by kernel_rfl) ?_
 refine rn (Ja @hk @hc) ?_
 refine Qa7 (zv:=.bool false) (L:=QdE U) (k:=e.ref) rfl rfl um3 Qic (Q7 z3) (QaZ rfl) rfl hg (Qad rfl) ?_
 rw [show (DV.pv (.lit (.bool false))) = .bool false from rfl,QlR]
 refine rn trivial ?_
 refine VWpG.seq ?_
 refine VWpG.drawn (k:=6) (f:=6) (Qa c) (by kernel_rfl) (by kernel_rfl) (by kernel_rfl) (by kernel_rfl) rfl ?_; refine Qab (by kernel_rfl) ?_
 refine rn (Ja @hk @hc) ?_
 refine QaS (L:=QdE U) (k:=e.ref) rfl rfl um3 Qic rfl hg (Qad rfl) ?_
 refine rn trivial ?_
 rw [show (DV.pv (.lit (.bool true))) = .bool true from rfl,Qle]
 have hi:=Qcp P (by omega) 90 [.ip e.q] rfl (Qaf e) (fun x=>QgO x e)
 rw [QhO,if_neg (by rw [ha]; simp)] at hi
 have hco:VCalls prog 94 [.pv (.sl []),.fn (.func 95) [] [.ip e.q]] [] (Ret (.bool false)):=Qbt [] (by decide) 95 [.ip e.q] rfl (Qda e) (fun x=>QgN x e)
 refine VWpG.plain (Qa c) ?_
 have F:=(Ja @hk (Ja @hc (Ja @hkt (Ja @ht (Ja @hkp (Ja @hpc @hpb))))))
 refine rn F ?_
 repeat' (first
  | with_reducible exact ⟨⟩
  | (refine sG F ?_ ?_<;>intro hZ)
  | (refine sB F ?_ ?_<;>intro hZ)
  | refine vl F (hi) ?_
  | refine vl F (hco) ?_
  | (refine Qd (id:=7) [0,1,2,3,4,5,6] [] (by kernel_rfl) (by kernel_rfl) ?_; refine rn F ?_)
  | (refine Qd (id:=8) [0,1,2,3,4,5,6,7,8,9,10,11,12,13,14,15,16,18,19] [⟨[],[],17,[0,1,2,3,4,5,6,7,8,9,10,11,13,14,15,18,19],[20,21]⟩] (by kernel_rfl) (by kernel_rfl) ?_; refine rn F ?_))
 all_goals exact ⟨_,rfl,rfl,fun _=>⟨_,rfl⟩⟩
def Qqs (hp:Qb) (g:MapsD) (kc bt bp bu:Nat) (f:Int) (e:E) (U:List Int) (hk:kc < hp.length) (hc:Qc hp kc = some (ckC f bt bp bu)) (hg:(bu,Qam kI (QdE U)) ∈ g) (kt kp:Nat) (la:Int) (ea ab en:Bool) (P:List E) (hPl:P.length<=10000)
 (hkt:kt < hp.length) (ht:Qc hp kt = some (rnC la ea ab en (.own kp 13 0 P.length))) (hkp:kp < hp.length) (hpb:hp[kp]? = some ⟨73,true,cells encE P⟩) (hne:kt ≠ kp)
 (ha:P.any (Qaf e) = true) (hfe:f<=e.ref) (hj1:P.findIdx (Qaf e) + 1 < P.length) :
 VCallsG prog 67 [.ptr kc 0,.ptr kt 0,.agg e.d] hp g (fun r h' g'=>∃ b,r = .bool b/\b = (decide ((P.getD (P.findIdx (Qaf e)) E0).lsn = e.ref) && (eqC (P.getD (P.findIdx (Qaf e)) E0).c.inv e.c && (!decide (e.ref ∈ U) && !(P.drop (P.findIdx (Qaf e) + 1)).any (Qda e))))/\(b = true->(∃ x y z,h' = Qj hp kt (rnC la ea ab en (.own (hp.length + 3) 13 0 (P.length - 1))) ++ [x,y,z,⟨73,true,cells encE (Qpn P (P.findIdx (Qaf e)))⟩])/\g' = g.map fun p=>if p.1 = bu then (bu,Qam kI (QdE (Qon U e.ref))) else p)):=by
 refine Q4 (fn:=Tryz.f67) Tryz.func67 rfl (by kernel_rfl) (by simp [Tryz.f67]) (fun c=>?_)
 have hpc:Qc hp kp = some (cells encE P):=Qby hpb
 unfold ckC at hc
 unfold rnC at ht
 refine VWpG.first (Qa c) ?_
 (unfold Tryz.f67; refine rn trivial ?_)
 refine VWpG.seq ?_
 refine VWpG.drawn (k:=6) (f:=6) (Qa c) (by kernel_rfl) (by kernel_rfl) (by kernel_rfl) (by kernel_rfl) rfl ?_; refine Qab (by kernel_rfl) ?_
 refine rn (Ja @hk @hc) ?_
 refine Qa7 (zv:=.bool false) (L:=QdE U) (k:=e.ref) rfl rfl um3 Qic (Q7 z3) (QaZ rfl) rfl hg (Qad rfl) ?_
 rw [show (DV.pv (.lit (.bool false))) = .bool false from rfl,QlR]
 refine rn trivial ?_
 refine VWpG.seq ?_
 refine VWpG.drawn (k:=6) (f:=6) (Qa c) (by kernel_rfl) (by kernel_rfl) (by kernel_rfl) (by kernel_rfl) rfl ?_; refine Qab (by kernel_rfl) ?_
 refine rn (Ja @hk @hc) ?_
 refine QaS (L:=QdE U) (k:=e.ref) rfl rfl um3 Qic rfl hg (Qad rfl) ?_
 refine rn trivial ?_
 rw [show (DV.pv (.lit (.bool true))) = .bool true from rfl,Qle]
 have hj:P.findIdx (Qaf e) < P.length:=Ju (by simpa using ha)
 have hi:=Qcp P (by omega) 90 [.ip e.q] rfl (Qaf e) (fun x=>QgO x e)
 rw [QhO,if_pos ha] at hi
 generalize P.findIdx (Qaf e) = j at *
 have hco:=Qbt (P.drop (j + 1)) (by simp; omega) 95 [.ip e.q] rfl (Qda e) (fun x=>QgN x e)
 have hcl:=QoW (P.drop (j + 1)) (by simp; omega)
 have hcc:=Ql6 (P.take j) (P.drop (j + 1)) (by simp; omega)
 have hl1:(P.drop (j + 1)).length = P.length - j - 1:=by simp; omega
 have hl2:(P.take j).length + (P.drop (j + 1)).length = P.length - 1:=by simp; omega
 rw [hl1] at hcl
 rw [hl2] at hcc
 have hfr:∀ hp',Qgy 0 hp' (j * 13 + 13) 13 (P.length - j - 1) (some (cells encE P)) = some (.sl (fz encE (P.drop (j + 1)))):=fun hp'=>by
  rw [Qgx (i:=j + 1) (len:=P.length - j - 1) (by omega) (by omega),Ji (by simp; omega)]
 have hft:∀ hp',Qgy 0 hp' 0 13 j (some (cells encE P)) = some (.sl (fz encE (P.take j))):=fun hp'=>by
  rw [Qgx (i:=0) (len:=j) rfl (by omega)]; simp
 have hj0:¬ ((j:Int) < 0):=by omega
 have hA0:=QGP P j hj
 have hA6:=QGO P j hj
 have hlen:j * 13 + 6 + 6<=P.length * 13:=by omega
 have hlen0:¬ ((P.length - j:Nat):Int) = 0:=by omega
 generalize P.getD j E0 = x at *
 unfold Ch.d at hA6
 refine VWpG.plain (Qa c) ?_
 have F:=(Ja @hk (Ja @hc (Ja @hkt (Ja @ht (Ja @hkp (Ja @hpc (Ja @hpb (Ja @hj (Ja @hj0 (Ja @hfr (Ja @hft (Ja @hfe (Ja @hA0 (Ja @hA6 (Ja @hj1 (Ja @hlen (Ja @hl1 (Ja @hl2 (Ja @hlen0 @hne)))))))))))))))))))
 refine rn F ?_
 repeat' (first
  | with_reducible exact ⟨⟩
  | (refine sG F ?_ ?_<;>intro hZ)
  | (refine sB F ?_ ?_<;>intro hZ)
  | refine vl F (hi) ?_
  | (refine Qgc (hcl) ?_ (Qyk _) ?_; (focus (refine rd F)); refine rn F ?_)
  | refine vp F (QlL x.c) ?_
  | (refine Qd (id:=7) [0,1,2,3,4,5,6] [] (by kernel_rfl) (by kernel_rfl) ?_; refine rn F ?_)
  | (refine Qd (id:=8) [0,1,2,3,4,5,6,7,8,9,10,11,12,13,14,15,16,18,19] [⟨[],[],17,[0,1,2,3,4,5,6,7,8,9,10,11,13,14,15,18,19],[20,21]⟩] (by kernel_rfl) (by kernel_rfl) ?_; refine rn F ?_))
 ·refine ⟨_,rfl,?_,fun h=>by cases h⟩
  rw [show eqC { pg:=x.c.pg,sl:=x.c.sl,b:=x.c.a,a:=x.c.b } e.c = false from ?_]
  ·rfl
  ·unfold eqC; rw [Jw]; intro h; simp at h; exact hZ h.1 h.2.1 h.2.2.1 h.2.2.2.1 h.2.2.2.2.1 h.2.2.2.2.2
 ·rw [show eqC { pg:=x.c.pg,sl:=x.c.sl,b:=x.c.a,a:=x.c.b } e.c = true from by unfold eqC; simp; exact hZ]
  have hjt:P.length - 1 = (P.take j).length + (P.drop (j + 1)).length:=hl2.symm
  refine Qgc hcc (congrArg (fun o=>Qh [o]) (Qux (d1:=.own kp 13 0 j) (d2:=.own (hp.length + 1) 13 0 (P.length - j - 1)) (p1:=.sl (fz encE (P.take j))) (p2:=.sl (fz encE (P.drop (j + 1)))) ?_ ?_ ?_)) (Qyk _) ?_
  ·(refine rn (Ja @hk @hkp) ?_; try with_reducible exact ⟨⟩)
  ·refine (Qyh (i:=0) (l:=P) ?_ rfl (by omega)).trans (by simp)
   (refine rn (Ja @hkp @hpc) ?_; try with_reducible exact ⟨⟩)
  ·refine (Qyh (i:=0) (l:=P.drop (j + 1)) ?_ rfl (by simp; omega)).trans (by rw [<- hl1,Kl,JC])
   (refine rn (Ja @hkp @hpc) ?_; try with_reducible exact ⟨⟩)
  refine rn (Ja @hk (Ja @hc (Ja @hkt (Ja @ht (Ja @hkp (Ja @hpc (Ja @hpb @hne))))))) ?_
  obtain ⟨hp2,hS⟩:∃ h,h = Qj hp kt (rnC la ea ab en (.own (hp.length + 1 + 1 + 1) 13 0 (P.length - 1))):=⟨_,rfl⟩
  have hS0:=hS
  unfold rnC at hS
  rw [<- hS]
  have hlp:hp2.length = hp.length:=by rw [hS,Qs]
  have F:=(Ja @hk (Ja @hlp @hl1))
  refine rn F ?_
  repeat' (first
   | with_reducible exact ⟨⟩
   | (refine sG F ?_ ?_<;>intro hZ)
   | refine vl F (hco) ?_)
  ·exact ⟨_,rfl,rfl,fun _=>⟨_,_,_,by rw [hS0]; simp only [JB,Ke,Kj]; rfl⟩⟩
  ·exact ⟨_,rfl,rfl,fun h=>by cases h⟩
 ·exact ⟨_,rfl,rfl,fun h=>by cases h⟩
def Qqq (hp:Qb) (g:MapsD) (kc bt bp bu:Nat) (f:Int) (e:E) (U:List Int) (hk:kc < hp.length) (hc:Qc hp kc = some (ckC f bt bp bu)) (hg:(bu,Qam kI (QdE U)) ∈ g) (kt kp:Nat) (la:Int) (ea ab en:Bool) (P:List E) (hPl:P.length<=10000)
 (hkt:kt < hp.length) (ht:Qc hp kt = some (rnC la ea ab en (.own kp 13 0 P.length))) (hkp:kp < hp.length) (hpb:hp[kp]? = some ⟨73,true,cells encE P⟩) (hne:kt ≠ kp)
 (ha:P.any (Qaf e) = true) (hfe:f<=e.ref) (hj1:P.findIdx (Qaf e) + 1 = P.length) :
 VCallsG prog 67 [.ptr kc 0,.ptr kt 0,.agg e.d] hp g (fun r h' g'=>∃ b,r = .bool b/\b = (decide ((P.getD (P.findIdx (Qaf e)) E0).lsn = e.ref) && (eqC (P.getD (P.findIdx (Qaf e)) E0).c.inv e.c && (!decide (e.ref ∈ U) && !(P.drop (P.findIdx (Qaf e) + 1)).any (Qda e))))/\(b = true->(∃ x y z,h' = Qj hp kt (rnC la ea ab en (.own (hp.length + 3) 13 0 (P.length - 1))) ++ [x,y,z,⟨73,true,cells encE (Qpn P (P.findIdx (Qaf e)))⟩])/\g' = g.map fun p=>if p.1 = bu then (bu,Qam kI (QdE (Qon U e.ref))) else p)):=by
 refine Q4 (fn:=Tryz.f67) Tryz.func67 rfl (by kernel_rfl) (by simp [Tryz.f67]) (fun c=>?_)
 have hpc:Qc hp kp = some (cells encE P):=Qby hpb
 unfold ckC at hc
 unfold rnC at ht
 refine VWpG.first (Qa c) ?_
 (unfold Tryz.f67; refine rn trivial ?_)
 refine VWpG.seq ?_
 refine VWpG.drawn (k:=6) (f:=6) (Qa c) (by kernel_rfl) (by kernel_rfl) (by kernel_rfl) (by kernel_rfl) rfl ?_; refine Qab (by kernel_rfl) ?_
 refine rn (Ja @hk @hc) ?_
 refine Qa7 (zv:=.bool false) (L:=QdE U) (k:=e.ref) rfl rfl um3 Qic (Q7 z3) (QaZ rfl) rfl hg (Qad rfl) ?_
 rw [show (DV.pv (.lit (.bool false))) = .bool false from rfl,QlR]
 refine rn trivial ?_
 refine VWpG.seq ?_
 refine VWpG.drawn (k:=6) (f:=6) (Qa c) (by kernel_rfl) (by kernel_rfl) (by kernel_rfl) (by kernel_rfl) rfl ?_; refine Qab (by kernel_rfl) ?_
 refine rn (Ja @hk @hc) ?_
 refine QaS (L:=QdE U) (k:=e.ref) rfl rfl um3 Qic rfl hg (Qad rfl) ?_
 refine rn trivial ?_
 rw [show (DV.pv (.lit (.bool true))) = .bool true from rfl,Qle]
 have hj:P.findIdx (Qaf e) < P.length:=Ju (by simpa using ha)
 have hi:=Qcp P (by omega) 90 [.ip e.q] rfl (Qaf e) (fun x=>QgO x e)
 rw [QhO,if_pos ha] at hi
 generalize P.findIdx (Qaf e) = j at *
 have hd0:P.drop (j + 1) = []:=List.drop_of_length_le (by omega)
 rw [hd0]
 have hco:VCalls prog 94 [.pv (.sl (fz encE [])),.fn (.func 95) [] [.ip e.q]] [] (Ret (.bool false)):=Qbt [] (by decide) 95 [.ip e.q] rfl (Qda e) (fun x=>QgN x e)
 have hcl:VCalls prog 92 [.pv (.sl [])] [] (QhL noK [] 13 0 73 (cells encE [])):=QoW [] (by decide)
 have hcc:=Ql6 (P.take j) [] (by simp; omega)
 have hl2:(P.take j).length + ([]:List E).length = P.length - 1:=by simp; omega
 rw [hl2] at hcc
 have hnj:P.length - j = 1:=by omega
 have hun:Qpn P j = P.take j ++ []:=by unfold Qpn; rw [hd0]
 rw [hun]
 have hft:∀ hp',Qgy 0 hp' 0 13 j (some (cells encE P)) = some (.sl (fz encE (P.take j))):=fun hp'=>by
  rw [Qgx (i:=0) (len:=j) rfl (by omega)]; simp
 have hj0:¬ ((j:Int) < 0):=by omega
 have hA0:=QGP P j hj
 have hA6:=QGO P j hj
 have hlen:j * 13 + 6 + 6<=P.length * 13:=by omega
 have hlen0:¬ ((P.length - j:Nat):Int) = 0:=by omega
 generalize P.getD j E0 = x at *
 unfold Ch.d at hA6
 refine VWpG.plain (Qa c) ?_
 have F:=(Ja @hk (Ja @hc (Ja @hkt (Ja @ht (Ja @hkp (Ja @hpc (Ja @hpb (Ja @hj (Ja @hj0 (Ja @hft (Ja @hfe (Ja @hA0 (Ja @hA6 (Ja @hlen (Ja @hnj @hne)))))))))))))))
 refine rn F ?_
 repeat' (first
  | with_reducible exact ⟨⟩
  | (refine sG F ?_ ?_<;>intro hZ)
  | (refine sB F ?_ ?_<;>intro hZ)
  | refine vl F (hi) ?_
  | (refine Qgc (hcl) ?_ (Qyk _) ?_; (focus (refine rd F)); refine rn F ?_)
  | refine vp F (QlL x.c) ?_
  | (refine Qd (id:=7) [0,1,2,3,4,5,6] [] (by kernel_rfl) (by kernel_rfl) ?_; refine rn F ?_)
  | (refine Qd (id:=8) [0,1,2,3,4,5,6,7,8,9,10,11,12,13,14,15,16,18,19] [⟨[],[],17,[0,1,2,3,4,5,6,7,8,9,10,11,13,14,15,18,19],[20,21]⟩] (by kernel_rfl) (by kernel_rfl) ?_; refine rn F ?_))
 ·refine ⟨_,rfl,?_,fun h=>by cases h⟩
  rw [show eqC { pg:=x.c.pg,sl:=x.c.sl,b:=x.c.a,a:=x.c.b } e.c = false from ?_]
  ·rfl
  ·unfold eqC; rw [Jw]; intro h; simp at h; exact hZ h.1 h.2.1 h.2.2.1 h.2.2.2.1 h.2.2.2.2.1 h.2.2.2.2.2
 ·rw [show eqC { pg:=x.c.pg,sl:=x.c.sl,b:=x.c.a,a:=x.c.b } e.c = true from by unfold eqC; simp; exact hZ]
  refine Qgc hcc (congrArg (fun o=>Qh [o]) (Qux (d1:=.own kp 13 0 j) (d2:=.own (hp.length + 1) 13 0 0) (p1:=.sl (fz encE (P.take j))) (p2:=.sl (fz encE [])) ?_ ?_ ?_)) (Qyk _) ?_
  ·(refine rn (Ja @hk @hkp) ?_; try with_reducible exact ⟨⟩)
  ·refine (Qyh (i:=0) (l:=P) ?_ rfl (by omega)).trans (by simp)
   (refine rn (Ja @hkp @hpc) ?_; try with_reducible exact ⟨⟩)
  ·refine (Qyh (i:=0) (l:=[]) ?_ rfl (by simp)).trans (by simp)
   (refine rn (Ja @hkp @hpc) ?_; try with_reducible exact ⟨⟩)
  refine rn (Ja @hk (Ja @hc (Ja @hkt (Ja @ht (Ja @hkp (Ja @hpc (Ja @hpb @hne))))))) ?_
  obtain ⟨hp2,hS⟩:∃ h,h = Qj hp kt (rnC la ea ab en (.own (hp.length + 1 + 1 + 1) 13 0 (P.length - 1))):=⟨_,rfl⟩
  have hS0:=hS
  unfold rnC at hS
  rw [<- hS]
  have hlp:hp2.length = hp.length:=by rw [hS,Qs]
  have F:=(Ja @hk @hlp)
  refine rn F ?_
  repeat' (first
   | with_reducible exact ⟨⟩
   | (refine sG F ?_ ?_<;>intro hZ)
   | refine vl F (hco) ?_)
  ·exact ⟨_,rfl,rfl,fun _=>⟨_,_,_,by rw [hS0]; simp only [JB,Ke,Kj]; rfl⟩⟩
  ·exact ⟨_,rfl,rfl,fun h=>by cases h⟩
 ·exact ⟨_,rfl,rfl,fun h=>by cases h⟩
end
end Go.Proofs.YtdkdbodcffiiaaaGreat
