/-
  Contracts of functions and plain laws. No condition.
-/
import Derived.Test.YtepdccfgnafgcaaGreatProg
import Derived.Test.YtepdccfgnafgcaaGreatV3
import Derived.KernelRfl
set_option linter.unusedSimpArgs false
set_option linter.unusedVariables false
set_option linter.defProp false
set_option maxRecDepth 100000
set_option maxHeartbeats 8000000
set_option autoImplicit true
set_option relaxedAutoImplicit true
open And renaming intro->Ja
open Bool renaming and_eq_true->Jb,not_eq_false'->Jg,or_eq_true->Jh,not_eq_true'->Ji,eq_iff_iff->Jo,false_eq_true->Jp,and_eq_false_imp->Jr,true_eq_false->Js,or_eq_false_iff->Ju,eq_false_iff->JD,and_false->JH,not_eq_eq_eq_not->JR,beq_eq_decide_eq->J7,not_false->Ka,not_true->Kg,true_and->Ku
open Int renaming reduceBEq->Jd,reduceAdd->Jm,toNat_natCast->Jw,reduceLT->JB,reduceNeg->JN,tdiv_eq_ediv_of_nonneg->JV,natCast_pow->J5,toNat_of_nonneg->Kc,natCast_mul->Kp,reduceToNat->Kr,lt_trans->Kx
open List renaming length_append->Je,getD_eq_getElem?_getD->Jf,length_nil->Jj,take_of_length_le->Jk,length_cons->Jn,length_take->Jq,take_succ_eq_append_getElem->Jt,getElem?_eq_getElem->Jv,range->Jz,mem_range->JC,all_eq_true->JE,length_drop->JF,length->JJ,take_length->JL,append_nil->JM,findIdx_lt_length_of_exists->JO,find?_eq_some_iff_getElem->JP,length_filter_le->JQ,any_eq_true->JS,mem_take_iff_getElem->JY,pairwise_iff_getElem->JZ,all_eq_false->J0,getElem_mem->J1,getElem_map->J2,getElem_cons_zero->J3,range_succ->J4,length_set->J6,findIdx_getElem->J9,takeWhile_cons->Kb,find?_eq_none->Kd,filter_append->Ke,getElem?_take->Kf,append_assoc->Ki,getElem?_map->Kj,range_zero->Km,foldl_cons->Kq,drop_drop->Kt,map_nil->Kv
open Nat renaming reduceBEq->Jc,reduceAdd->Jl,zero_le->Jy,reduceLT->JA,lt_of_lt_of_le->JG,pow_le_pow_right->JI,reduceLeDiff->JK,le_refl->JT,two_pow_add_eq_or_of_lt->JU,lt_or_ge->JW,add_sub_cancel->JX,mul_le_mul_right->J8,mod_lt->Kh,zero_add->Kk,le_trans->Kl,two_pow_pos->Ko,mul_le_mul->Ks,mul_comm->Kw,or_comm->Ky,mul_add->Kz,pow_add->KA
namespace Go.Proofs.YtepdccfgnafgcaaGreat
open Go.V Go
open Tryz (prog)
def F:True:=trivial
end Go.Proofs.YtepdccfgnafgcaaGreat
namespace Go.Proofs
open Go.V
theorem Tryz.vt3:vt prog 3=some none:=by kernel_rfl
theorem Tryz.vkind3:Q6 prog 3=.int .i64:=by kernel_rfl
theorem Tryz.vzero3:QM prog 3=some [.pv (.lit (.int .i64 0))]:=by kernel_rfl
theorem Tryz.bytes3:QaJ prog 3=some 8:=by kernel_rfl
theorem Tryz.vt4:vt prog 4=some none:=by kernel_rfl
theorem Tryz.vkind4:Q6 prog 4=.bool:=by kernel_rfl
theorem Tryz.vzero4:QM prog 4=some [.pv (.lit (.bool false))]:=by kernel_rfl
theorem Tryz.bytes4:QaJ prog 4=some 1:=by kernel_rfl
theorem Tryz.vt5:vt prog 5=some none:=by kernel_rfl
theorem Tryz.vkind5:Q6 prog 5=.int .u8:=by kernel_rfl
theorem Tryz.vzero5:QM prog 5=some [.pv (.lit (.int .u8 0))]:=by kernel_rfl
theorem Tryz.bytes5:QaJ prog 5=some 1:=by kernel_rfl
theorem Tryz.vt9:vt prog 9=some none:=by kernel_rfl
theorem Tryz.notInt9:Qaw prog 9=true:=by kernel_rfl
theorem Tryz.vkind9:Q6 prog 9=.str:=by kernel_rfl
theorem Tryz.vzero9:QM prog 9=some [.pv (.str [])]:=by kernel_rfl
theorem Tryz.bytes9:QaJ prog 9=some 16:=by kernel_rfl
theorem Tryz.vt22:vt prog 22=some none:=by kernel_rfl
theorem Tryz.velem22:QN prog 22=some (none,5,1):=by kernel_rfl
theorem Tryz.notInt22:Qaw prog 22=true:=by kernel_rfl
theorem Tryz.vkind22:Q6 prog 22=.sl 5:=by kernel_rfl
theorem Tryz.vt26:vt prog 26=some none:=by kernel_rfl
theorem Tryz.velem26:QN prog 26=some (none,4,1):=by kernel_rfl
theorem Tryz.notInt26:Qaw prog 26=true:=by kernel_rfl
theorem Tryz.vkind26:Q6 prog 26=.sl 4:=by kernel_rfl
theorem Tryz.vt27:vt prog 27=some none:=by kernel_rfl
theorem Tryz.velem27:QN prog 27=some (none,3,1):=by kernel_rfl
theorem Tryz.notInt27:Qaw prog 27=true:=by kernel_rfl
theorem Tryz.vkind27:Q6 prog 27=.sl 3:=by kernel_rfl
theorem Tryz.vt29:vt prog 29=some (some 3):=by kernel_rfl
theorem Tryz.vfield29x0:Qf prog 29 0=some (4,0,1):=by kernel_rfl
theorem Tryz.vfield29x1:Qf prog 29 1=some (26,1,1):=by kernel_rfl
theorem Tryz.vfield29x2:Qf prog 29 2=some (27,2,1):=by kernel_rfl
theorem Tryz.vplaces29:Qx prog 29=some fun j=>([(0,1),(1,1),(2,1)]:List (Nat×Nat))[j]?:=by kernel_rfl
theorem Tryz.vzero29:QM prog 29=some [.pv (.lit (.bool false)),.pv (.slc []),.pv (.slc [])]:=by kernel_rfl
theorem Tryz.vt32:vt prog 32=some none:=by kernel_rfl
theorem Tryz.velem32:QN prog 32=some (none,44,13):=by kernel_rfl
theorem Tryz.notInt32:Qaw prog 32=true:=by kernel_rfl
theorem Tryz.vkind32:Q6 prog 32=.sl 44:=by kernel_rfl
theorem Tryz.vt34:vt prog 34=some (some 3):=by kernel_rfl
theorem Tryz.vfield34x0:Qf prog 34 0=some (3,0,1):=by kernel_rfl
theorem Tryz.vfield34x1:Qf prog 34 1=some (32,1,1):=by kernel_rfl
theorem Tryz.vfield34x2:Qf prog 34 2=some (3,2,1):=by kernel_rfl
theorem Tryz.vplaces34:Qx prog 34=some fun j=>([(0,1),(1,1),(2,1)]:List (Nat×Nat))[j]?:=by kernel_rfl
theorem Tryz.vzero34:QM prog 34=some [.pv (.lit (.int .i64 0)),.pv (.slc []),.pv (.lit (.int .i64 0))]:=by kernel_rfl
theorem Tryz.vt35:vt prog 35=some none:=by kernel_rfl
theorem Tryz.vt40:vt prog 40=some (some 2):=by kernel_rfl
theorem Tryz.vfield40x0:Qf prog 40 0=some (4,0,1):=by kernel_rfl
theorem Tryz.vfield40x1:Qf prog 40 1=some (9,1,1):=by kernel_rfl
theorem Tryz.vplaces40:Qx prog 40=some fun j=>([(0,1),(1,1)]:List (Nat×Nat))[j]?:=by kernel_rfl
theorem Tryz.vzero40:QM prog 40=some [.pv (.lit (.bool false)),.pv (.str [])]:=by kernel_rfl
theorem Tryz.leaves40:QaG prog 8 40=some [(0,0),(1,2)]:=by kernel_rfl
theorem Tryz.eqg40:prog.eqGuardType prog.depth 40=false:=by kernel_rfl
theorem Tryz.vt42:vt prog 42=some (some 6):=by kernel_rfl
theorem Tryz.vfield42x0:Qf prog 42 0=some (3,0,1):=by kernel_rfl
theorem Tryz.vfield42x1:Qf prog 42 1=some (3,1,1):=by kernel_rfl
theorem Tryz.vfield42x2:Qf prog 42 2=some (40,2,2):=by kernel_rfl
theorem Tryz.vfield42x3:Qf prog 42 3=some (40,4,2):=by kernel_rfl
theorem Tryz.vplaces42:Qx prog 42=some fun j=>([(0,1),(1,1),(2,2),(4,2)]:List (Nat×Nat))[j]?:=by kernel_rfl
theorem Tryz.vzero42:QM prog 42=some [.pv (.lit (.int .i64 0)),.pv (.lit (.int .i64 0)),.pv (.lit (.bool false)),.pv (.str []),.pv (.lit (.bool false)),.pv (.str [])]:=by kernel_rfl
theorem Tryz.leaves42:QaG prog 8 42=some [(0,1),(1,1),(2,0),(3,2),(4,0),(5,2)]:=by kernel_rfl
theorem Tryz.eqg42:prog.eqGuardType prog.depth 42=false:=by kernel_rfl
theorem Tryz.vt44:vt prog 44=some (some 13):=by kernel_rfl
theorem Tryz.vfield44x0:Qf prog 44 0=some (3,0,1):=by kernel_rfl
theorem Tryz.vfield44x1:Qf prog 44 1=some (3,1,1):=by kernel_rfl
theorem Tryz.vfield44x2:Qf prog 44 2=some (3,2,1):=by kernel_rfl
theorem Tryz.vfield44x3:Qf prog 44 3=some (3,3,1):=by kernel_rfl
theorem Tryz.vfield44x4:Qf prog 44 4=some (3,4,1):=by kernel_rfl
theorem Tryz.vfield44x5:Qf prog 44 5=some (3,5,1):=by kernel_rfl
theorem Tryz.vfield44x6:Qf prog 44 6=some (42,6,6):=by kernel_rfl
theorem Tryz.vfield44x7:Qf prog 44 7=some (9,12,1):=by kernel_rfl
theorem Tryz.vplaces44:Qx prog 44=some fun j=>([(0,1),(1,1),(2,1),(3,1),(4,1),(5,1),(6,6),(12,1)]:List (Nat×Nat))[j]?:=by kernel_rfl
theorem Tryz.vzero44:QM prog 44=some [.pv (.lit (.int .i64 0)),.pv (.lit (.int .i64 0)),.pv (.lit (.int .i64 0)),.pv (.lit (.int .i64 0)),.pv (.lit (.int .i64 0)),.pv (.lit (.int .i64 0)),.pv (.lit (.int .i64 0)),.pv (.lit (.int .i64 0)),.pv (.lit (.bool false)),.pv (.str []),.pv (.lit (.bool false)),.pv (.str []),.pv (.str [])]:=by kernel_rfl
theorem Tryz.bytes44:QaJ prog 44=some 128:=by kernel_rfl
theorem Tryz.leaves44:QaG prog 8 44=some [(0,1),(1,1),(2,1),(3,1),(4,1),(5,1),(6,1),(7,1),(8,0),(9,2),(10,0),(11,2),(12,2)]:=by kernel_rfl
theorem Tryz.eqg44:prog.eqGuardType prog.depth 44=false:=by kernel_rfl
theorem Tryz.vt50:vt prog 50=some none:=by kernel_rfl
theorem Tryz.velem50:QN prog 50=some (none,211,37):=by kernel_rfl
theorem Tryz.notInt50:Qaw prog 50=true:=by kernel_rfl
theorem Tryz.vkind50:Q6 prog 50=.sl 211:=by kernel_rfl
theorem Tryz.vt52:vt prog 52=some (some 3):=by kernel_rfl
theorem Tryz.vfield52x0:Qf prog 52 0=some (3,0,1):=by kernel_rfl
theorem Tryz.vfield52x1:Qf prog 52 1=some (50,1,1):=by kernel_rfl
theorem Tryz.vfield52x2:Qf prog 52 2=some (3,2,1):=by kernel_rfl
theorem Tryz.vplaces52:Qx prog 52=some fun j=>([(0,1),(1,1),(2,1)]:List (Nat×Nat))[j]?:=by kernel_rfl
theorem Tryz.vzero52:QM prog 52=some [.pv (.lit (.int .i64 0)),.pv (.slc []),.pv (.lit (.int .i64 0))]:=by kernel_rfl
theorem Tryz.vt53:vt prog 53=some none:=by kernel_rfl
theorem Tryz.velem53:QN prog 53=some (none,248,4):=by kernel_rfl
theorem Tryz.notInt53:Qaw prog 53=true:=by kernel_rfl
theorem Tryz.vkind53:Q6 prog 53=.sl 248:=by kernel_rfl
theorem Tryz.vt55:vt prog 55=some (some 2):=by kernel_rfl
theorem Tryz.vfield55x0:Qf prog 55 0=some (53,0,1):=by kernel_rfl
theorem Tryz.vfield55x1:Qf prog 55 1=some (53,1,1):=by kernel_rfl
theorem Tryz.vplaces55:Qx prog 55=some fun j=>([(0,1),(1,1)]:List (Nat×Nat))[j]?:=by kernel_rfl
theorem Tryz.vzero55:QM prog 55=some [.pv (.slc []),.pv (.slc [])]:=by kernel_rfl
theorem Tryz.vt56:vt prog 56=some none:=by kernel_rfl
theorem Tryz.velem56:QN prog 56=some (none,71,6):=by kernel_rfl
theorem Tryz.notInt56:Qaw prog 56=true:=by kernel_rfl
theorem Tryz.vkind56:Q6 prog 56=.sl 71:=by kernel_rfl
theorem Tryz.vt57:vt prog 57=some none:=by kernel_rfl
theorem Tryz.velem57:QN prog 57=some (none,300,3):=by kernel_rfl
theorem Tryz.notInt57:Qaw prog 57=true:=by kernel_rfl
theorem Tryz.vkind57:Q6 prog 57=.sl 300:=by kernel_rfl
theorem Tryz.vt59:vt prog 59=some (some 1):=by kernel_rfl
theorem Tryz.vfield59x0:Qf prog 59 0=some (57,0,1):=by kernel_rfl
theorem Tryz.vplaces59:Qx prog 59=some fun j=>([(0,1)]:List (Nat×Nat))[j]?:=by kernel_rfl
theorem Tryz.vzero59:QM prog 59=some [.pv (.slc [])]:=by kernel_rfl
theorem Tryz.vt60:vt prog 60=some none:=by kernel_rfl
theorem Tryz.velem60:QN prog 60=some (none,219,3):=by kernel_rfl
theorem Tryz.notInt60:Qaw prog 60=true:=by kernel_rfl
theorem Tryz.vkind60:Q6 prog 60=.sl 219:=by kernel_rfl
theorem Tryz.vt62:vt prog 62=some (some 13):=by kernel_rfl
theorem Tryz.vfield62x0:Qf prog 62 0=some (3,0,1):=by kernel_rfl
theorem Tryz.vfield62x1:Qf prog 62 1=some (3,1,1):=by kernel_rfl
theorem Tryz.vfield62x2:Qf prog 62 2=some (34,2,3):=by kernel_rfl
theorem Tryz.vfield62x3:Qf prog 62 3=some (52,5,3):=by kernel_rfl
theorem Tryz.vfield62x4:Qf prog 62 4=some (55,8,2):=by kernel_rfl
theorem Tryz.vfield62x5:Qf prog 62 5=some (56,10,1):=by kernel_rfl
theorem Tryz.vfield62x6:Qf prog 62 6=some (59,11,1):=by kernel_rfl
theorem Tryz.vfield62x7:Qf prog 62 7=some (60,12,1):=by kernel_rfl
theorem Tryz.vplaces62:Qx prog 62=some fun j=>([(0,1),(1,1),(2,3),(5,3),(8,2),(10,1),(11,1),(12,1)]:List (Nat×Nat))[j]?:=by kernel_rfl
theorem Tryz.vzero62:QM prog 62=some [.pv (.lit (.int .i64 0)),.pv (.lit (.int .i64 0)),.pv (.lit (.int .i64 0)),.pv (.slc []),.pv (.lit (.int .i64 0)),.pv (.lit (.int .i64 0)),.pv (.slc []),.pv (.lit (.int .i64 0)),.pv (.slc []),.pv (.slc []),.pv (.slc []),.pv (.slc []),.pv (.slc [])]:=by kernel_rfl
theorem Tryz.vt71:vt prog 71=some (some 6):=by kernel_rfl
theorem Tryz.vfield71x0:Qf prog 71 0=some (3,0,1):=by kernel_rfl
theorem Tryz.vfield71x1:Qf prog 71 1=some (3,1,1):=by kernel_rfl
theorem Tryz.vfield71x2:Qf prog 71 2=some (3,2,1):=by kernel_rfl
theorem Tryz.vfield71x3:Qf prog 71 3=some (3,3,1):=by kernel_rfl
theorem Tryz.vfield71x4:Qf prog 71 4=some (27,4,1):=by kernel_rfl
theorem Tryz.vfield71x5:Qf prog 71 5=some (27,5,1):=by kernel_rfl
theorem Tryz.vplaces71:Qx prog 71=some fun j=>([(0,1),(1,1),(2,1),(3,1),(4,1),(5,1)]:List (Nat×Nat))[j]?:=by kernel_rfl
theorem Tryz.vzero71:QM prog 71=some [.pv (.lit (.int .i64 0)),.pv (.lit (.int .i64 0)),.pv (.lit (.int .i64 0)),.pv (.lit (.int .i64 0)),.pv (.slc []),.pv (.slc [])]:=by kernel_rfl
theorem Tryz.bytes71:QaJ prog 71=some 80:=by kernel_rfl
theorem Tryz.vfield80x0:Qf prog 80 0=some (22,0,1):=by kernel_rfl
theorem Tryz.vfield80x1:Qf prog 80 1=some (3,1,1):=by kernel_rfl
theorem Tryz.vplaces80:Qx prog 80=some fun j=>([(0,1),(1,1)]:List (Nat×Nat))[j]?:=by kernel_rfl
theorem Tryz.vzero80:QM prog 80=some [.pv (.slc []),.pv (.lit (.int .i64 0))]:=by kernel_rfl
theorem Tryz.vt85:vt prog 85=some none:=by kernel_rfl
theorem Tryz.vt96:vt prog 96=some none:=by kernel_rfl
theorem Tryz.velem96:QN prog 96=some (none,9,1):=by kernel_rfl
theorem Tryz.notInt96:Qaw prog 96=true:=by kernel_rfl
theorem Tryz.vkind96:Q6 prog 96=.sl 9:=by kernel_rfl
theorem Tryz.vt97:vt prog 97=some none:=by kernel_rfl
theorem Tryz.velem97:QN prog 97=some (none,276,6):=by kernel_rfl
theorem Tryz.notInt97:Qaw prog 97=true:=by kernel_rfl
theorem Tryz.vkind97:Q6 prog 97=.sl 276:=by kernel_rfl
theorem Tryz.vt99:vt prog 99=some (some 5):=by kernel_rfl
theorem Tryz.vfield99x0:Qf prog 99 0=some (96,0,1):=by kernel_rfl
theorem Tryz.vfield99x1:Qf prog 99 1=some (3,1,1):=by kernel_rfl
theorem Tryz.vfield99x2:Qf prog 99 2=some (27,2,1):=by kernel_rfl
theorem Tryz.vfield99x3:Qf prog 99 3=some (4,3,1):=by kernel_rfl
theorem Tryz.vfield99x4:Qf prog 99 4=some (97,4,1):=by kernel_rfl
theorem Tryz.vplaces99:Qx prog 99=some fun j=>([(0,1),(1,1),(2,1),(3,1),(4,1)]:List (Nat×Nat))[j]?:=by kernel_rfl
theorem Tryz.vzero99:QM prog 99=some [.pv (.slc []),.pv (.lit (.int .i64 0)),.pv (.slc []),.pv (.lit (.bool false)),.pv (.slc [])]:=by kernel_rfl
theorem Tryz.vt101:vt prog 101=some (some 18):=by kernel_rfl
theorem Tryz.vfield101x0:Qf prog 101 0=some (62,0,13):=by kernel_rfl
theorem Tryz.vfield101x1:Qf prog 101 1=some (99,13,5):=by kernel_rfl
theorem Tryz.vplaces101:Qx prog 101=some fun j=>([(0,13),(13,5)]:List (Nat×Nat))[j]?:=by kernel_rfl
theorem Tryz.vzero101:QM prog 101=some [.pv (.lit (.int .i64 0)),.pv (.lit (.int .i64 0)),.pv (.lit (.int .i64 0)),.pv (.slc []),.pv (.lit (.int .i64 0)),.pv (.lit (.int .i64 0)),.pv (.slc []),.pv (.lit (.int .i64 0)),.pv (.slc []),.pv (.slc []),.pv (.slc []),.pv (.slc []),.pv (.slc []),.pv (.slc []),.pv (.lit (.int .i64 0)),.pv (.slc []),.pv (.lit (.bool false)),.pv (.slc [])]:=by kernel_rfl
theorem Tryz.vt124:vt prog 124=some none:=by kernel_rfl
theorem Tryz.vfield126x0:Qf prog 126 0=some (124,0,1):=by kernel_rfl
theorem Tryz.vfield126x1:Qf prog 126 1=some (22,1,1):=by kernel_rfl
theorem Tryz.vzero126:QM prog 126=some [.pv (.lit (.pointer none)),.pv (.lit (.slice none 0 0))]:=by kernel_rfl
theorem Tryz.vkind132:Q6 prog 132=.int .u64:=by kernel_rfl
theorem Tryz.velem139:QN prog 139=some (none,173,6):=by kernel_rfl
theorem Tryz.notInt139:Qaw prog 139=true:=by kernel_rfl
theorem Tryz.vt140:vt prog 140=some none:=by kernel_rfl
theorem Tryz.velem140:QN prog 140=some (none,204,6):=by kernel_rfl
theorem Tryz.notInt140:Qaw prog 140=true:=by kernel_rfl
theorem Tryz.velem143:QN prog 143=some (none,178,9):=by kernel_rfl
theorem Tryz.notInt143:Qaw prog 143=true:=by kernel_rfl
theorem Tryz.vkind143:Q6 prog 143=.sl 178:=by kernel_rfl
theorem Tryz.vt149:vt prog 149=some none:=by kernel_rfl
theorem Tryz.vt151:vt prog 151=some (some 7):=by kernel_rfl
theorem Tryz.vfield151x0:Qf prog 151 0=some (4,0,1):=by kernel_rfl
theorem Tryz.vfield151x1:Qf prog 151 1=some (4,1,1):=by kernel_rfl
theorem Tryz.vfield151x2:Qf prog 151 2=some (4,2,1):=by kernel_rfl
theorem Tryz.vfield151x3:Qf prog 151 3=some (4,3,1):=by kernel_rfl
theorem Tryz.vfield151x4:Qf prog 151 4=some (4,4,1):=by kernel_rfl
theorem Tryz.vfield151x5:Qf prog 151 5=some (85,5,1):=by kernel_rfl
theorem Tryz.vfield151x6:Qf prog 151 6=some (149,6,1):=by kernel_rfl
theorem Tryz.vplaces151:Qx prog 151=some fun j=>([(0,1),(1,1),(2,1),(3,1),(4,1),(5,1),(6,1)]:List (Nat×Nat))[j]?:=by kernel_rfl
theorem Tryz.vzero151:QM prog 151=some [.pv (.lit (.bool false)),.pv (.lit (.bool false)),.pv (.lit (.bool false)),.pv (.lit (.bool false)),.pv (.lit (.bool false)),.pv (.lit .nilFunc),.pv (.lit .nilFunc)]:=by kernel_rfl
theorem Tryz.vt152:vt prog 152=some (some 63):=by kernel_rfl
theorem Tryz.velem152:QN prog 152=some (some 9,151,7):=by kernel_rfl
theorem Tryz.vplaces152:Qx prog 152=some fun j=>some (j*7,7):=by kernel_rfl
theorem Tryz.vzero152:QM prog 152=some [.pv (.lit (.bool false)),.pv (.lit (.bool false)),.pv (.lit (.bool false)),.pv (.lit (.bool false)),.pv (.lit (.bool false)),.pv (.lit .nilFunc),.pv (.lit .nilFunc),.pv (.lit (.bool false)),.pv (.lit (.bool false)),.pv (.lit (.bool false)),.pv (.lit (.bool false)),.pv (.lit (.bool false)),.pv (.lit .nilFunc),.pv (.lit .nilFunc),.pv (.lit (.bool false)),.pv (.lit (.bool false)),.pv (.lit (.bool false)),.pv (.lit (.bool false)),.pv (.lit (.bool false)),.pv (.lit .nilFunc),.pv (.lit .nilFunc),.pv (.lit (.bool false)),.pv (.lit (.bool false)),.pv (.lit (.bool false)),.pv (.lit (.bool false)),.pv (.lit (.bool false)),.pv (.lit .nilFunc),.pv (.lit .nilFunc),.pv (.lit (.bool false)),.pv (.lit (.bool false)),.pv (.lit (.bool false)),.pv (.lit (.bool false)),.pv (.lit (.bool false)),.pv (.lit .nilFunc),.pv (.lit .nilFunc),.pv (.lit (.bool false)),.pv (.lit (.bool false)),.pv (.lit (.bool false)),.pv (.lit (.bool false)),.pv (.lit (.bool false)),.pv (.lit .nilFunc),.pv (.lit .nilFunc),.pv (.lit (.bool false)),.pv (.lit (.bool false)),.pv (.lit (.bool false)),.pv (.lit (.bool false)),.pv (.lit (.bool false)),.pv (.lit .nilFunc),.pv (.lit .nilFunc),.pv (.lit (.bool false)),.pv (.lit (.bool false)),.pv (.lit (.bool false)),.pv (.lit (.bool false)),.pv (.lit (.bool false)),.pv (.lit .nilFunc),.pv (.lit .nilFunc),.pv (.lit (.bool false)),.pv (.lit (.bool false)),.pv (.lit (.bool false)),.pv (.lit (.bool false)),.pv (.lit (.bool false)),.pv (.lit .nilFunc),.pv (.lit .nilFunc)]:=by kernel_rfl
theorem Tryz.vkind154:Q6 prog 154=.int .u64:=by kernel_rfl
theorem Tryz.vfield171x0:Qf prog 171 0=some (101,0,18):=by kernel_rfl
theorem Tryz.vfield171x1:Qf prog 171 1=some (27,18,1):=by kernel_rfl
theorem Tryz.vfield171x2:Qf prog 171 2=some (140,19,1):=by kernel_rfl
theorem Tryz.vfield171x3:Qf prog 171 3=some (4,20,1):=by kernel_rfl
theorem Tryz.vplaces171:Qx prog 171=some fun j=>([(0,18),(18,1),(19,1),(20,1)]:List (Nat×Nat))[j]?:=by kernel_rfl
theorem Tryz.vzero171:QM prog 171=some [.pv (.lit (.int .i64 0)),.pv (.lit (.int .i64 0)),.pv (.lit (.int .i64 0)),.pv (.slc []),.pv (.lit (.int .i64 0)),.pv (.lit (.int .i64 0)),.pv (.slc []),.pv (.lit (.int .i64 0)),.pv (.slc []),.pv (.slc []),.pv (.slc []),.pv (.slc []),.pv (.slc []),.pv (.slc []),.pv (.lit (.int .i64 0)),.pv (.slc []),.pv (.lit (.bool false)),.pv (.slc []),.pv (.slc []),.pv (.slc []),.pv (.lit (.bool false))]:=by kernel_rfl
theorem Tryz.vt173:vt prog 173=some (some 6):=by kernel_rfl
theorem Tryz.vfield173x0:Qf prog 173 0=some (3,0,1):=by kernel_rfl
theorem Tryz.vfield173x1:Qf prog 173 1=some (3,1,1):=by kernel_rfl
theorem Tryz.vfield173x2:Qf prog 173 2=some (3,2,1):=by kernel_rfl
theorem Tryz.vfield173x3:Qf prog 173 3=some (40,3,2):=by kernel_rfl
theorem Tryz.vfield173x4:Qf prog 173 4=some (35,5,1):=by kernel_rfl
theorem Tryz.vplaces173:Qx prog 173=some fun j=>([(0,1),(1,1),(2,1),(3,2),(5,1)]:List (Nat×Nat))[j]?:=by kernel_rfl
theorem Tryz.vzero173:QM prog 173=some [.pv (.lit (.int .i64 0)),.pv (.lit (.int .i64 0)),.pv (.lit (.int .i64 0)),.pv (.lit (.bool false)),.pv (.str []),.pv (.lit (.int .i64 0))]:=by kernel_rfl
theorem Tryz.bytes173:QaJ prog 173=some 56:=by kernel_rfl
theorem Tryz.vt176:vt prog 176=some (some 4):=by kernel_rfl
theorem Tryz.vfield176x0:Qf prog 176 0=some (3,0,1):=by kernel_rfl
theorem Tryz.vfield176x1:Qf prog 176 1=some (3,1,1):=by kernel_rfl
theorem Tryz.vfield176x2:Qf prog 176 2=some (3,2,1):=by kernel_rfl
theorem Tryz.vfield176x3:Qf prog 176 3=some (9,3,1):=by kernel_rfl
theorem Tryz.vplaces176:Qx prog 176=some fun j=>([(0,1),(1,1),(2,1),(3,1)]:List (Nat×Nat))[j]?:=by kernel_rfl
theorem Tryz.vzero176:QM prog 176=some [.pv (.lit (.int .i64 0)),.pv (.lit (.int .i64 0)),.pv (.lit (.int .i64 0)),.pv (.str [])]:=by kernel_rfl
theorem Tryz.leaves176:QaG prog 8 176=some [(0,1),(1,1),(2,1),(3,2)]:=by kernel_rfl
theorem Tryz.eqg176:prog.eqGuardType prog.depth 176=false:=by kernel_rfl
theorem Tryz.vt178:vt prog 178=some (some 9):=by kernel_rfl
theorem Tryz.vfield178x0:Qf prog 178 0=some (3,0,1):=by kernel_rfl
theorem Tryz.vfield178x1:Qf prog 178 1=some (3,1,1):=by kernel_rfl
theorem Tryz.vfield178x2:Qf prog 178 2=some (3,2,1):=by kernel_rfl
theorem Tryz.vfield178x3:Qf prog 178 3=some (3,3,1):=by kernel_rfl
theorem Tryz.vfield178x4:Qf prog 178 4=some (3,4,1):=by kernel_rfl
theorem Tryz.vfield178x5:Qf prog 178 5=some (176,5,4):=by kernel_rfl
theorem Tryz.vplaces178:Qx prog 178=some fun j=>([(0,1),(1,1),(2,1),(3,1),(4,1),(5,4)]:List (Nat×Nat))[j]?:=by kernel_rfl
theorem Tryz.vzero178:QM prog 178=some [.pv (.lit (.int .i64 0)),.pv (.lit (.int .i64 0)),.pv (.lit (.int .i64 0)),.pv (.lit (.int .i64 0)),.pv (.lit (.int .i64 0)),.pv (.lit (.int .i64 0)),.pv (.lit (.int .i64 0)),.pv (.lit (.int .i64 0)),.pv (.str [])]:=by kernel_rfl
theorem Tryz.bytes178:QaJ prog 178=some 80:=by kernel_rfl
theorem Tryz.vplaces204:Qx prog 204=some fun j=>([(0,1),(1,1),(2,1),(3,1),(4,2)]:List (Nat×Nat))[j]?:=by kernel_rfl
theorem Tryz.vzero204:QM prog 204=some [.pv (.lit (.int .i64 0)),.pv (.lit (.int .i64 0)),.pv (.lit (.int .i64 0)),.pv (.lit (.int .i64 0)),.pv (.lit (.bool false)),.pv (.str [])]:=by kernel_rfl
theorem Tryz.bytes204:QaJ prog 204=some 56:=by kernel_rfl
theorem Tryz.velem205:QN prog 205=some (some 16,40,2):=by kernel_rfl
theorem Tryz.vt207:vt prog 207=some (some 34):=by kernel_rfl
theorem Tryz.vfield207x0:Qf prog 207 0=some (3,0,1):=by kernel_rfl
theorem Tryz.vfield207x1:Qf prog 207 1=some (3,1,1):=by kernel_rfl
theorem Tryz.vfield207x2:Qf prog 207 2=some (205,2,32):=by kernel_rfl
theorem Tryz.vplaces207:Qx prog 207=some fun j=>([(0,1),(1,1),(2,32)]:List (Nat×Nat))[j]?:=by kernel_rfl
theorem Tryz.vzero207:QM prog 207=some [.pv (.lit (.int .i64 0)),.pv (.lit (.int .i64 0)),.pv (.lit (.bool false)),.pv (.str []),.pv (.lit (.bool false)),.pv (.str []),.pv (.lit (.bool false)),.pv (.str []),.pv (.lit (.bool false)),.pv (.str []),.pv (.lit (.bool false)),.pv (.str []),.pv (.lit (.bool false)),.pv (.str []),.pv (.lit (.bool false)),.pv (.str []),.pv (.lit (.bool false)),.pv (.str []),.pv (.lit (.bool false)),.pv (.str []),.pv (.lit (.bool false)),.pv (.str []),.pv (.lit (.bool false)),.pv (.str []),.pv (.lit (.bool false)),.pv (.str []),.pv (.lit (.bool false)),.pv (.str []),.pv (.lit (.bool false)),.pv (.str []),.pv (.lit (.bool false)),.pv (.str []),.pv (.lit (.bool false)),.pv (.str [])]:=by kernel_rfl
theorem Tryz.vt211:vt prog 211=some (some 37):=by kernel_rfl
theorem Tryz.vfield211x0:Qf prog 211 0=some (207,0,34):=by kernel_rfl
theorem Tryz.vfield211x1:Qf prog 211 1=some (4,34,1):=by kernel_rfl
theorem Tryz.vfield211x2:Qf prog 211 2=some (3,35,1):=by kernel_rfl
theorem Tryz.vfield211x3:Qf prog 211 3=some (4,36,1):=by kernel_rfl
theorem Tryz.vplaces211:Qx prog 211=some fun j=>([(0,34),(34,1),(35,1),(36,1)]:List (Nat×Nat))[j]?:=by kernel_rfl
theorem Tryz.vzero211:QM prog 211=some [.pv (.lit (.int .i64 0)),.pv (.lit (.int .i64 0)),.pv (.lit (.bool false)),.pv (.str []),.pv (.lit (.bool false)),.pv (.str []),.pv (.lit (.bool false)),.pv (.str []),.pv (.lit (.bool false)),.pv (.str []),.pv (.lit (.bool false)),.pv (.str []),.pv (.lit (.bool false)),.pv (.str []),.pv (.lit (.bool false)),.pv (.str []),.pv (.lit (.bool false)),.pv (.str []),.pv (.lit (.bool false)),.pv (.str []),.pv (.lit (.bool false)),.pv (.str []),.pv (.lit (.bool false)),.pv (.str []),.pv (.lit (.bool false)),.pv (.str []),.pv (.lit (.bool false)),.pv (.str []),.pv (.lit (.bool false)),.pv (.str []),.pv (.lit (.bool false)),.pv (.str []),.pv (.lit (.bool false)),.pv (.str []),.pv (.lit (.bool false)),.pv (.lit (.int .i64 0)),.pv (.lit (.bool false))]:=by kernel_rfl
theorem Tryz.bytes211:QaJ prog 211=some 424:=by kernel_rfl
theorem Tryz.vt219:vt prog 219=some (some 3):=by kernel_rfl
theorem Tryz.vfield219x0:Qf prog 219 0=some (3,0,1):=by kernel_rfl
theorem Tryz.vfield219x1:Qf prog 219 1=some (3,1,1):=by kernel_rfl
theorem Tryz.vfield219x2:Qf prog 219 2=some (3,2,1):=by kernel_rfl
theorem Tryz.vplaces219:Qx prog 219=some fun j=>([(0,1),(1,1),(2,1)]:List (Nat×Nat))[j]?:=by kernel_rfl
theorem Tryz.vzero219:QM prog 219=some [.pv (.lit (.int .i64 0)),.pv (.lit (.int .i64 0)),.pv (.lit (.int .i64 0))]:=by kernel_rfl
theorem Tryz.bytes219:QaJ prog 219=some 24:=by kernel_rfl
theorem Tryz.vt225:vt prog 225=some (some 2):=by kernel_rfl
theorem Tryz.vfield225x0:Qf prog 225 0=some (3,0,1):=by kernel_rfl
theorem Tryz.vfield225x1:Qf prog 225 1=some (3,1,1):=by kernel_rfl
theorem Tryz.vplaces225:Qx prog 225=some fun j=>([(0,1),(1,1)]:List (Nat×Nat))[j]?:=by kernel_rfl
theorem Tryz.vzero225:QM prog 225=some [.pv (.lit (.int .i64 0)),.pv (.lit (.int .i64 0))]:=by kernel_rfl
theorem Tryz.leaves225:QaG prog 8 225=some [(0,1),(1,1)]:=by kernel_rfl
theorem Tryz.eqg225:prog.eqGuardType prog.depth 225=false:=by kernel_rfl
theorem Tryz.vt238:vt prog 238=some (some 5):=by kernel_rfl
theorem Tryz.vfield238x0:Qf prog 238 0=some (3,0,1):=by kernel_rfl
theorem Tryz.vfield238x1:Qf prog 238 1=some (3,1,1):=by kernel_rfl
theorem Tryz.vfield238x2:Qf prog 238 2=some (56,2,1):=by kernel_rfl
theorem Tryz.vfield238x3:Qf prog 238 3=some (60,3,1):=by kernel_rfl
theorem Tryz.vfield238x4:Qf prog 238 4=some (59,4,1):=by kernel_rfl
theorem Tryz.vplaces238:Qx prog 238=some fun j=>([(0,1),(1,1),(2,1),(3,1),(4,1)]:List (Nat×Nat))[j]?:=by kernel_rfl
theorem Tryz.vzero238:QM prog 238=some [.pv (.lit (.int .i64 0)),.pv (.lit (.int .i64 0)),.pv (.slc []),.pv (.slc []),.pv (.slc [])]:=by kernel_rfl
theorem Tryz.vt248:vt prog 248=some (some 4):=by kernel_rfl
theorem Tryz.vfield248x0:Qf prog 248 0=some (3,0,1):=by kernel_rfl
theorem Tryz.vfield248x1:Qf prog 248 1=some (225,1,2):=by kernel_rfl
theorem Tryz.vfield248x2:Qf prog 248 2=some (3,3,1):=by kernel_rfl
theorem Tryz.vplaces248:Qx prog 248=some fun j=>([(0,1),(1,2),(3,1)]:List (Nat×Nat))[j]?:=by kernel_rfl
theorem Tryz.vzero248:QM prog 248=some [.pv (.lit (.int .i64 0)),.pv (.lit (.int .i64 0)),.pv (.lit (.int .i64 0)),.pv (.lit (.int .i64 0))]:=by kernel_rfl
theorem Tryz.bytes248:QaJ prog 248=some 32:=by kernel_rfl
theorem Tryz.leaves248:QaG prog 8 248=some [(0,1),(1,1),(2,1),(3,1)]:=by kernel_rfl
theorem Tryz.eqg248:prog.eqGuardType prog.depth 248=false:=by kernel_rfl
theorem Tryz.vkind271:Q6 prog 271=.int .u32:=by kernel_rfl
theorem Tryz.vzero276:QM prog 276=some [.pv (.lit (.int .i64 0)),.pv (.lit (.int .i64 0)),.pv (.lit (.int .i64 0)),.pv (.lit (.int .i64 0)),.pv (.lit (.int .i64 0)),.pv (.lit (.int .u8 0))]:=by kernel_rfl
theorem Tryz.bytes276:QaJ prog 276=some 48:=by kernel_rfl
theorem Tryz.vt289:vt prog 289=some (some 7):=by kernel_rfl
theorem Tryz.vfield289x0:Qf prog 289 0=some (3,0,1):=by kernel_rfl
theorem Tryz.vfield289x1:Qf prog 289 1=some (3,1,1):=by kernel_rfl
theorem Tryz.vfield289x2:Qf prog 289 2=some (3,2,1):=by kernel_rfl
theorem Tryz.vfield289x3:Qf prog 289 3=some (56,3,1):=by kernel_rfl
theorem Tryz.vfield289x4:Qf prog 289 4=some (53,4,1):=by kernel_rfl
theorem Tryz.vfield289x5:Qf prog 289 5=some (60,5,1):=by kernel_rfl
theorem Tryz.vfield289x6:Qf prog 289 6=some (59,6,1):=by kernel_rfl
theorem Tryz.vplaces289:Qx prog 289=some fun j=>([(0,1),(1,1),(2,1),(3,1),(4,1),(5,1),(6,1)]:List (Nat×Nat))[j]?:=by kernel_rfl
theorem Tryz.vzero289:QM prog 289=some [.pv (.lit (.int .i64 0)),.pv (.lit (.int .i64 0)),.pv (.lit (.int .i64 0)),.pv (.slc []),.pv (.slc []),.pv (.slc []),.pv (.slc [])]:=by kernel_rfl
theorem Tryz.vt300:vt prog 300=some (some 3):=by kernel_rfl
theorem Tryz.vfield300x0:Qf prog 300 0=some (3,0,1):=by kernel_rfl
theorem Tryz.vfield300x1:Qf prog 300 1=some (3,1,1):=by kernel_rfl
theorem Tryz.vfield300x2:Qf prog 300 2=some (3,2,1):=by kernel_rfl
theorem Tryz.vzero300:QM prog 300=some [.pv (.lit (.int .i64 0)),.pv (.lit (.int .i64 0)),.pv (.lit (.int .i64 0))]:=by kernel_rfl
theorem Tryz.bytes300:QaJ prog 300=some 24:=by kernel_rfl
theorem Tryz.vfield358x0:Qf prog 358 0=some (9,0,1):=by kernel_rfl
theorem Tryz.vfield358x1:Qf prog 358 1=some (3,1,1):=by kernel_rfl
theorem Tryz.vfield358x2:Qf prog 358 2=some (35,2,1):=by kernel_rfl
theorem Tryz.vplaces358:Qx prog 358=some fun j=>([(0,1),(1,1),(2,1)]:List (Nat×Nat))[j]?:=by kernel_rfl
theorem Tryz.vzero358:QM prog 358=some [.pv (.str []),.pv (.lit (.int .i64 0)),.pv (.lit (.int .i64 0))]:=by kernel_rfl
theorem Tryz.vfield370x0:Qf prog 370 0=some (9,0,1):=by kernel_rfl
theorem Tryz.vfield370x1:Qf prog 370 1=some (3,1,1):=by kernel_rfl
theorem Tryz.vfield370x2:Qf prog 370 2=some (4,2,1):=by kernel_rfl
theorem Tryz.vplaces370:Qx prog 370=some fun j=>([(0,1),(1,1),(2,1)]:List (Nat×Nat))[j]?:=by kernel_rfl
theorem Tryz.vzero370:QM prog 370=some [.pv (.str []),.pv (.lit (.int .i64 0)),.pv (.lit (.bool false))]:=by kernel_rfl
attribute [go_sem] Tryz.vt3 Tryz.vkind3 Tryz.vzero3 Tryz.bytes3 Tryz.vt4 Tryz.vkind4 Tryz.vzero4 Tryz.bytes4 Tryz.vt5 Tryz.vkind5 Tryz.vzero5 Tryz.bytes5 Tryz.vt9 Tryz.notInt9 Tryz.vkind9 Tryz.vzero9 Tryz.bytes9 Tryz.vt22 Tryz.velem22 Tryz.notInt22 Tryz.vkind22 Tryz.vt26 Tryz.velem26 Tryz.notInt26 Tryz.vkind26 Tryz.vt27 Tryz.velem27 Tryz.notInt27 Tryz.vkind27 Tryz.vt29 Tryz.vfield29x0 Tryz.vfield29x1 Tryz.vfield29x2 Tryz.vplaces29 Tryz.vzero29 Tryz.vt32 Tryz.velem32 Tryz.notInt32 Tryz.vkind32 Tryz.vt34 Tryz.vfield34x0 Tryz.vfield34x1 Tryz.vfield34x2 Tryz.vplaces34 Tryz.vzero34 Tryz.vt35 Tryz.vt40 Tryz.vfield40x0 Tryz.vfield40x1 Tryz.vplaces40 Tryz.vzero40 Tryz.leaves40 Tryz.eqg40 Tryz.vt42 Tryz.vfield42x0 Tryz.vfield42x1 Tryz.vfield42x2 Tryz.vfield42x3 Tryz.vplaces42 Tryz.vzero42 Tryz.leaves42 Tryz.eqg42 Tryz.vt44 Tryz.vfield44x0 Tryz.vfield44x1 Tryz.vfield44x2 Tryz.vfield44x3 Tryz.vfield44x4 Tryz.vfield44x5 Tryz.vfield44x6 Tryz.vfield44x7 Tryz.vplaces44 Tryz.vzero44 Tryz.bytes44 Tryz.leaves44 Tryz.eqg44 Tryz.vt50 Tryz.velem50 Tryz.notInt50 Tryz.vkind50 Tryz.vt52 Tryz.vfield52x0 Tryz.vfield52x1 Tryz.vfield52x2 Tryz.vplaces52 Tryz.vzero52 Tryz.vt53 Tryz.velem53 Tryz.notInt53 Tryz.vkind53 Tryz.vt55 Tryz.vfield55x0 Tryz.vfield55x1 Tryz.vplaces55 Tryz.vzero55 Tryz.vt56 Tryz.velem56 Tryz.notInt56 Tryz.vkind56 Tryz.vt57 Tryz.velem57 Tryz.notInt57 Tryz.vkind57 Tryz.vt59 Tryz.vfield59x0 Tryz.vplaces59 Tryz.vzero59 Tryz.vt60 Tryz.velem60 Tryz.notInt60 Tryz.vkind60 Tryz.vt62 Tryz.vfield62x0 Tryz.vfield62x1 Tryz.vfield62x2 Tryz.vfield62x3 Tryz.vfield62x4 Tryz.vfield62x5 Tryz.vfield62x6 Tryz.vfield62x7 Tryz.vplaces62 Tryz.vzero62 Tryz.vt71 Tryz.vfield71x0 Tryz.vfield71x1 Tryz.vfield71x2 Tryz.vfield71x3 Tryz.vfield71x4 Tryz.vfield71x5 Tryz.vplaces71 Tryz.vzero71 Tryz.bytes71 Tryz.vfield80x0 Tryz.vfield80x1 Tryz.vplaces80 Tryz.vzero80 Tryz.vt85 Tryz.vt96 Tryz.velem96 Tryz.notInt96 Tryz.vkind96 Tryz.vt97 Tryz.velem97 Tryz.notInt97 Tryz.vkind97 Tryz.vt99 Tryz.vfield99x0 Tryz.vfield99x1 Tryz.vfield99x2 Tryz.vfield99x3 Tryz.vfield99x4 Tryz.vplaces99 Tryz.vzero99 Tryz.vt101 Tryz.vfield101x0 Tryz.vfield101x1 Tryz.vplaces101 Tryz.vzero101 Tryz.vt124 Tryz.vfield126x0 Tryz.vfield126x1 Tryz.vzero126 Tryz.vkind132 Tryz.velem139 Tryz.notInt139 Tryz.vt140 Tryz.velem140 Tryz.notInt140 Tryz.velem143 Tryz.notInt143 Tryz.vkind143 Tryz.vt149 Tryz.vt151 Tryz.vfield151x0 Tryz.vfield151x1 Tryz.vfield151x2 Tryz.vfield151x3 Tryz.vfield151x4 Tryz.vfield151x5 Tryz.vfield151x6 Tryz.vplaces151 Tryz.vzero151 Tryz.vt152 Tryz.velem152 Tryz.vplaces152 Tryz.vzero152 Tryz.vkind154 Tryz.vfield171x0 Tryz.vfield171x1 Tryz.vfield171x2 Tryz.vfield171x3 Tryz.vplaces171 Tryz.vzero171 Tryz.vt173 Tryz.vfield173x0 Tryz.vfield173x1 Tryz.vfield173x2 Tryz.vfield173x3 Tryz.vfield173x4 Tryz.vplaces173 Tryz.vzero173 Tryz.bytes173 Tryz.vt176 Tryz.vfield176x0 Tryz.vfield176x1 Tryz.vfield176x2 Tryz.vfield176x3 Tryz.vplaces176 Tryz.vzero176 Tryz.leaves176 Tryz.eqg176 Tryz.vt178 Tryz.vfield178x0 Tryz.vfield178x1 Tryz.vfield178x2 Tryz.vfield178x3 Tryz.vfield178x4 Tryz.vfield178x5 Tryz.vplaces178 Tryz.vzero178 Tryz.bytes178 Tryz.vplaces204 Tryz.vzero204 Tryz.bytes204 Tryz.velem205 Tryz.vt207 Tryz.vfield207x0 Tryz.vfield207x1 Tryz.vfield207x2 Tryz.vplaces207 Tryz.vzero207 Tryz.vt211 Tryz.vfield211x0 Tryz.vfield211x1 Tryz.vfield211x2 Tryz.vfield211x3 Tryz.vplaces211 Tryz.vzero211 Tryz.bytes211 Tryz.vt219 Tryz.vfield219x0 Tryz.vfield219x1 Tryz.vfield219x2 Tryz.vplaces219 Tryz.vzero219 Tryz.bytes219 Tryz.vt225 Tryz.vfield225x0 Tryz.vfield225x1 Tryz.vplaces225 Tryz.vzero225 Tryz.leaves225 Tryz.eqg225 Tryz.vt238 Tryz.vfield238x0 Tryz.vfield238x1 Tryz.vfield238x2 Tryz.vfield238x3 Tryz.vfield238x4 Tryz.vplaces238 Tryz.vzero238 Tryz.vt248 Tryz.vfield248x0 Tryz.vfield248x1 Tryz.vfield248x2 Tryz.vplaces248 Tryz.vzero248 Tryz.bytes248 Tryz.leaves248 Tryz.eqg248 Tryz.vkind271 Tryz.vzero276 Tryz.bytes276 Tryz.vt289 Tryz.vfield289x0 Tryz.vfield289x1 Tryz.vfield289x2 Tryz.vfield289x3 Tryz.vfield289x4 Tryz.vfield289x5 Tryz.vfield289x6 Tryz.vplaces289 Tryz.vzero289 Tryz.vt300 Tryz.vfield300x0 Tryz.vfield300x1 Tryz.vfield300x2 Tryz.vzero300 Tryz.bytes300 Tryz.vfield358x0 Tryz.vfield358x1 Tryz.vfield358x2 Tryz.vplaces358 Tryz.vzero358 Tryz.vfield370x0 Tryz.vfield370x1 Tryz.vfield370x2 Tryz.vplaces370 Tryz.vzero370
end Go.Proofs
namespace Go.Proofs.YtepdccfgnafgcaaGreat
open Go.V Go
open Tryz (prog)
theorem pe:Qox prog 124=true:=by kernel_rfl
theorem cto:toU prog 124 182=true:=by kernel_rfl
theorem cfr:frU prog 182 124 126=true:=by kernel_rfl
theorem cob:prog.cellsOf 126=2:=by kernel_rfl
theorem uok:Qp7 prog 164 5=true:=by kernel_rfl
def Qor(x:DV)(hp:Qa):VCalls prog 105 [x] hp fun r h'=>r=x/\h'=hp:=
 Qlp Tryz.func105 (by kernel_rfl) (by kernel_rfl) rfl rfl
def QCS:DV:=.pv (.lit (.pointer none))
def bld(a b:DV):Blk:=⟨126,true,[a,b]⟩
def bE:DV:=.pv (.lit (.slice none 0 0))
def check0:VCalls prog 91 [.ptr 0 0] [bld QCS bE] (fun r h'=>r=.tup []/\h'=[bld (.ptr 0 0) bE]):=by
 refine Qab (fn:=Tryz.f91) Tryz.func91 rfl (by kernel_rfl) (by simp[Tryz.f91]) ?_
 simp(config:={ maxSteps:=2000000 }) (implicitDefEqProofs:=false) (disch:=first | omega | assumption | (simp only[]; done) | fail) only[go_sem,↓reduceIte,reduceCtorEq,Jl,Jc,Jm,Jd,Tryz.f91,bld,QCS,bE,QaS pe,QaR pe,Qav cto,QY cfr,Qgu]
 refine(Qor _ _).mono ?_
 rintro r h' ⟨rfl,rfl⟩
 simp(config:={ maxSteps:=2000000 }) (implicitDefEqProofs:=false) (disch:=first | omega | assumption | (simp only[]; done) | fail) only[go_sem,↓reduceIte,reduceCtorEq,Jl,Jc,Jm,Jd,QaS pe,QaR pe,Qav cto,QY cfr,cob,Qgj]
def QkU(l:List UInt8):Blk:=⟨5,true,cells Qc5 l⟩
def QCh(l:List UInt8):VCalls prog 91 [.ptr 0 0] [bld (.ptr 0 0) (.own 1 1 0 l.length),QkU l] (fun r h'=>r=.tup []/\h'=[bld (.ptr 0 0) (.own 1 1 0 l.length),QkU l]):=by
 refine Qab (fn:=Tryz.f91) Tryz.func91 rfl (by kernel_rfl) (by simp[Tryz.f91]) ?_
 simp(config:={ maxSteps:=2000000 }) (implicitDefEqProofs:=false) (disch:=first | omega | assumption | (simp only[]; done) | fail) only[go_sem,↓reduceIte,reduceCtorEq,Jl,JA,Jc,JB,Jm,Jd,Tryz.f91,bld,QkU,QaS pe,QaR pe,Qav cto,QY cfr,Qgu,Qgj]
def ws0(s:List UInt8)(hs:s.length<=1100000000):VCalls prog 66 [.ptr 0 0,.pv (.str s)] [bld QCS bE] (fun r h'=>r=.tup [.int .i64 s.length,.pv (.lit .nilIface)]/\h'=[bld (.ptr 0 0) (.own 1 1 0 s.length),QkU s]):=by
 refine Qab (fn:=Tryz.f66) Tryz.func66 rfl (by kernel_rfl) (by simp[Tryz.f66]) ?_
 simp(config:={ maxSteps:=2000000 }) (implicitDefEqProofs:=false) (disch:=first | omega | assumption | (simp only[]; done) | fail) only[go_sem,Jl,Jc,Jm,Jd,Tryz.f66,bld,QCS,bE,QaS pe,QaR pe,Qav cto,QY cfr,QaD]
 refine check0.mono ?_
 rintro r h' ⟨rfl,rfl⟩
 have hs2:s.length<=140737488355328:=by omega
 simp(config:={ maxSteps:=2000000 }) (implicitDefEqProofs:=false) (disch:=first | omega | assumption | (simp only[]; done) | fail) only[go_sem,↓reduceIte,reduceCtorEq,Jl,JA,Jc,JB,Jm,Jd,bld,bE,QaS pe,QaR pe,Qav cto,QY cfr,QaD,hs2,QkU,Qnv]
def QEr(l:List UInt8)(b:UInt8)(hl:l.length<=1100000000):VCalls prog 67 [.ptr 0 0,.int .u8 b.toNat] [bld (.ptr 0 0) (.own 1 1 0 l.length),QkU l] (fun r h'=>r=.pv (.lit .nilIface)/\h'=[bld (.ptr 0 0) (.own 3 1 0 (l++[b]).length),⟨5,false,[]⟩,QkU [b],QkU (l++[b])]):=by
 refine Qab (fn:=Tryz.f67) Tryz.func67 rfl (by kernel_rfl) (by simp[Tryz.f67]) ?_
 simp(config:={ maxSteps:=2000000 }) (implicitDefEqProofs:=false) (disch:=first | omega | assumption | (simp only[]; done) | fail) only[go_sem,Jl,Jc,Jm,Jd,Tryz.f67,bld,QkU,QaS pe,QaR pe,Qav cto,QY cfr,QaD]
 refine(QCh l).mono ?_
 rintro r h' ⟨rfl,rfl⟩
 have hs2:l.length+1<=140737488355328:=by omega
 simp(config:={ maxSteps:=2000000 }) (implicitDefEqProofs:=false) (disch:=first | omega | assumption | (simp only[]; done) | fail) only[go_sem,V.splice,V.mk,↓reduceIte,reduceCtorEq,Jl,JA,JK,Jc,JB,Jm,Jd,bld,QkU,QaS pe,QaR pe,Qav cto,QY cfr,QaD,hs2]
 have e1:(cells Qc5 l).take l.length=cells Qc5 l:=by rw[Jk]; rw[Qa7]; exact JT _
 rw[e1,QC,Je]
 rfl
def QDe(l:List UInt8)(hl:l.length<=1100000000)(h0:0<l.length):VCalls prog 68 [.ptr 0 0] [bld (.ptr 0 0) (.own 1 1 0 l.length),QkU l] (fun r h'=>r=.pv (.str l)/\h'=[bld (.ptr 0 0) (.own 1 1 0 l.length),⟨5,false,[]⟩]):=by
 refine Qab (fn:=Tryz.f68) Tryz.func68 rfl (by kernel_rfl) (by simp[Tryz.f68]) ?_
 simp(config:={ maxSteps:=2000000 }) (implicitDefEqProofs:=false) (disch:=first | omega | assumption | (simp only[]; done) | fail) only[go_sem,Jl,Jm,Tryz.f68,bld,QkU,QaS pe,QaR pe,Qav cto,QY cfr]
 refine Qc (id:=1) [0,1,2,3,5,6,7,8,9] [⟨[],[],4,[0,1,2,5,6,7,8,9],[]⟩,⟨[],[],10,[0,1,2,3,5,6,7,8],[]⟩,⟨[],[],11,[],[]⟩] (by kernel_rfl) (by kernel_rfl) ?_
 have hu:=QxR (P:=prog) (hp:=[bld (.ptr 0 0) (.own 1 1 0 l.length),QkU l]) (k:=1) (n:=l.length) uok rfl rfl h0 (by omega)
 simp only[bld,QkU] at hu
 simp(config:={ maxSteps:=2000000 }) (implicitDefEqProofs:=false) (disch:=first | omega | assumption | (simp only[]; done) | fail) only[go_sem,↓reduceIte,reduceCtorEq,JA,Jc,JB,Jd,QaS pe,QaR pe,Qav cto,QY cfr,QqI h0,hu]
def Qwo(n:Int)(i:Nat):Int:=IntKind.u8.wrap ((IntKind.u64.wrap n).fdiv (2 ^ min (8*(i:Int)).toNat 64))
def QcE(n:Int)(i:Nat):UInt8:=UInt8.ofNat (Qwo n i).toNat
def Qhs(x:Int):IntKind.u8.wrap x=x % 256:=by
 simp[IntKind.wrap,IntKind.signed,IntKind.bits]
def Qnz(n:Int)(i:Nat):Qwo n i=((QcE n i).toNat:Int):=by
 unfold QcE Qwo
 rw[Qhs]
 generalize (IntKind.u64.wrap n).fdiv (2 ^ min (8*(i:Int)).toNat 64)=y
 simp only[UInt8.toNat_ofNat']
 omega
def Qj(s:List UInt8)(n:Int)(k:Nat):List UInt8:=s++(Jz k).map (QcE n)
def Qb(s:List UInt8)(n:Int)(k:Nat):(Qj s n k).length=s.length+k:=by simp[Qj]
def Qj7(s:List UInt8)(n:Int)(k:Nat):Qj s n (k+1)=Qj s n k++[QcE n k]:=by simp[Qj,J4]
def QyO(s:List UInt8)(hs:s.length<=1000000000)(n:Int)(k:Nat)(h1:1<=k)(h8:k<=8):VCalls prog 35 [.pv (.str s),.int .i64 n,.int .i64 k] [] (Ret (.pv (.str (Qj s n k)))):=by
 refine dd Tryz.func35 ?_
 simp(config:={ maxSteps:=2000000 }) (implicitDefEqProofs:=false) (disch:=first | omega | assumption | (simp only[]; done) | fail) only[go_sem,↓reduceIte,Jl,Jc,Jm,Jd,Tryz.f35]
 refine(ws0 s (by omega)).mono ?_
 rintro r h' ⟨rfl,rfl⟩
 simp(config:={ maxSteps:=2000000 }) (implicitDefEqProofs:=false) (disch:=first | omega | assumption | (simp only[]; done) | fail) only[go_sem,Jc,Jd,bld]
 refine Qg (fun i:{i:Nat // i<=k}=>⟨31,0,[(19,.int .i64 i.1),(18,.int .i64 k),(7,.ptr 0 0),(1,.int .i64 n)],[bld (.ptr 0 0) (.own 1 1 0 (Qj s n i.1).length),QkU (Qj s n i.1)]⟩) (fun i=>k-i.1) ⟨0,by omega⟩ (.inl (by simpa only[Qj,Km,Kv,JM] using(by refine⟨rfl,rfl,by simp,?_,?_,.inr ⟨?_,?_⟩⟩<;>(repeat' apply Ja)<;>first | rfl | trivial | (intro _; first | rfl | apply Qh5)))) ?_
 intro i
 obtain⟨i,hi⟩:=i
 dsimp only
 simp(config:={ maxSteps:=2000000 }) (implicitDefEqProofs:=false) (disch:=first | omega | assumption | (simp only[]; done) | fail) only[go_sem,Jc,Jd,bld,QkU]
 refine QaP (fun hc=>?_) (fun hc=>?_)<;>simp only[decide_eq_true_eq,decide_eq_false_iff_not,Jh,Jb,Ju,Jr,Ji,Jg,beq_iff_eq,beq_eq_false_iff_ne,bne_iff_ne,bne_eq_false_iff_eq,ne_eq] at hc
 ·simp (config:={ maxSteps:=2000000 }) (implicitDefEqProofs:=false) (disch:=first | omega | assumption | (simp only []; done) | fail) only [go_sem,Jc,Jd]
  have hw:=QEr (Qj s n i) (QcE n i) (by rw[Qb]; omega)
  rw[<- Qnz] at hw
  refine hw.mono ?_
  rintro r h' ⟨rfl,rfl⟩
  simp(config:={ maxSteps:=2000000 }) (implicitDefEqProofs:=false) (disch:=first | omega | assumption | (simp only[]; done) | fail) only[go_sem,Jc,Jd,bld,QkU]
  refine⟨⟨i+1,by omega⟩,by show k-(i+1)<k-i; omega,?_⟩
  rw[Qj7]
  refine QzG (keep:=[0,3]) rfl rfl rfl (by decide) ⟨⟨_,rfl,rfl,rfl,.inr ⟨rfl,rfl⟩⟩,⟨_,rfl,rfl,rfl,.inl ⟨?_,rfl⟩⟩,trivial⟩ ?_
  ·show DV.nums.go _ (cells Qc5 _) = true
   exact Qs _ _ _
  ·refine⟨⟨rfl,rfl⟩,⟨rfl,rfl⟩,⟨rfl,rfl⟩,⟨rfl,rfl⟩,trivial⟩
 ·simp (config:={ maxSteps:=2000000 }) (implicitDefEqProofs:=false) (disch:=first | omega | assumption | (simp only []; done) | fail) only [go_sem,↓reduceIte,JA,Jc,JB,Jd]
  have hik:i=k:=by omega
  subst hik
  refine(QDe (Qj s n i) (by rw[Qb]; omega) (by rw[Qb]; omega)).mono ?_
  rintro r h' ⟨rfl,rfl⟩
  simp(config:={ maxSteps:=2000000 }) (implicitDefEqProofs:=false) (disch:=first | omega | assumption | (simp only[]; done) | fail) only[go_sem]
theorem QEP:bts prog 22 9=true:=by kernel_rfl
def QS(s:List UInt8)(hs:s.length<=1000000000)(n:Int)(k:Nat)(h1:1<=k)(h8:k<=8):VCalls prog 177 [.pv (.str s),.int .i64 n,.int .i64 k] [] (Ret (.pv (.str (Qj s n k)))):=by
 refine dd Tryz.func177 ?_
 simp(config:={ maxSteps:=2000000 }) (implicitDefEqProofs:=false) (disch:=first | omega | assumption | (simp only[]; done) | fail) only[go_sem,Jl,Jc,Jm,Jd,Tryz.f177]
 refine Qg (fun i:{i:Nat // i<=k}=>⟨32,0,[(7,.int .i64 i.1),(2,.int .i64 k),(0,.pv (.str (Qj s n i.1))),(1,.int .i64 n)],[]⟩) (fun i=>k-i.1) ⟨0,by omega⟩ (.inl (by simpa only[Qj,Km,Kv,JM] using(by refine⟨rfl,rfl,by simp,?_,?_,.inr ⟨?_,?_⟩⟩<;>(repeat' apply Ja)<;>first | rfl | trivial | (intro _; first | rfl | apply Qh5)))) ?_
 intro i
 obtain⟨i,hi⟩:=i
 dsimp only
 simp(config:={ maxSteps:=2000000 }) (implicitDefEqProofs:=false) (disch:=first | omega | assumption | (simp only[]; done) | fail) only[go_sem,Jc,Jd]
 refine QaP (fun hc=>?_) (fun hc=>?_)<;>simp only[decide_eq_true_eq,decide_eq_false_iff_not,Jh,Jb,Ju,Jr,Ji,Jg,beq_iff_eq,beq_eq_false_iff_ne,bne_iff_ne,bne_eq_false_iff_eq,ne_eq] at hc
 ·have hw8:IntKind.u64.wrap (8 * (i:Int)) = 8 * (i:Int):=by simp [IntKind.wrap,IntKind.signed,IntKind.bits]; omega
  have hl:(Qj s n i).length+1<=9223372036854775807:=by rw[Qb]; omega
  simp(config:={ maxSteps:=2000000 }) (implicitDefEqProofs:=false) (disch:=first | omega | assumption | (simp only[]; done) | fail) only[go_sem,V.splice,V.mk,↓reduceIte,JA,JK,Jc,JB,Jd,hw8,QfP QEP,Qua]
  refine⟨⟨i+1,by omega⟩,by show k-(i+1)<k-i; omega,?_⟩
  rw[Qj7]
  refine QzG (keep:=[]) rfl rfl rfl (by decide) trivial ?_
  refine⟨⟨rfl,rfl⟩,⟨rfl,rfl⟩,⟨rfl,rfl⟩,⟨rfl,rfl⟩,trivial⟩
 ·simp (config:={ maxSteps:=2000000 }) (implicitDefEqProofs:=false) (disch:=first | omega | assumption | (simp only []; done) | fail) only [go_sem,↓reduceIte,JA,Jc,JB,Jd]
  have hik:i=k:=by omega
  rw[hik]
def QeG(s:List UInt8)(a:Nat):Nat->Int
 | 0=>0
 | i+1=>bits BinOp.or .u64 (QeG s a i) (IntKind.u64.wrap (IntKind.u64.wrap (s.getD (a+i) 0).toNat*2 ^ min (8*(i:Int)).toNat 64))
def Qx0(s:List UInt8)(a i:Nat)(h:a+i<s.length):s[((a:Int)+(i:Int)).toNat]?=some (s.getD (a+i) 0):=by
 have e:((a:Int)+(i:Int)).toNat=a+i:=by omega
 rw[e,Jf,Jv h]; rfl
def Qdm(s:List UInt8)(a k:Int)(h:1<=k/\k<=8)(h0:0<=a)(hh:¬ a+k<=s.length):VCalls prog 240 [.pv (.str s),.int .i64 a,.int .i64 k] [] (Ret (.tup [.int .i64 0,.int .i64 5])):=by
 refine dd Tryz.func240 ?_
 have h1:¬ k<1:=by omega
 have h2:¬ 8<k:=by omega
 have h3:¬ a<0:=by omega
 by_cases h4:(s.length:Int)<a
 ·simp(config:={ maxSteps:=2000000 }) (implicitDefEqProofs:=false) (disch:=first | omega | assumption | (simp only[]; done) | fail) only[go_sem,Jl,Jc,Jm,Jd,Tryz.f240,h1,h2,h3,h4]
 ·have h5:(s.length:Int) - a < k:=by omega
  simp(config:={ maxSteps:=2000000 }) (implicitDefEqProofs:=false) (disch:=first | omega | assumption | (simp only[]; done) | fail) only[go_sem,Jl,Jc,Jm,Jd,Tryz.f240,h1,h2,h3,h4,h5]
def QhJ(s:List UInt8)(hs:s.length<=1000000000)(a k:Nat)(h:1<=k/\k<=8)(hh:a+k<=s.length):VCalls prog 240 [.pv (.str s),.int .i64 a,.int .i64 k] [] (Ret (.tup [.int .i64 (IntKind.i64.wrap (QeG s a k)),.int .i64 0])):=by
 refine dd Tryz.func240 ?_
 have h1:¬ (k:Int)<1:=by omega
 have h2:¬ 8<(k:Int):=by omega
 have h3:¬ (a:Int)<0:=by omega
 have h4:¬ (s.length:Int)<a:=by omega
 have h5:¬ (s.length:Int)-a<k:=by omega
 simp(config:={ maxSteps:=2000000 }) (implicitDefEqProofs:=false) (disch:=first | omega | assumption | (simp only[]; done) | fail) only[go_sem,Jl,Jc,Jm,Jd,Tryz.f240,h1,h2,h3,h4,h5]
 refine Qxv (fun i:{i:Nat // i<=k}=>⟨51,0,[(9,.int .i64 i.1),(2,.int .i64 k),(8,.int .u64 (QeG s a i.1)),(0,.pv (.str s)),(1,.int .i64 a)],[]⟩) (fun i=>k-i.1) ⟨0,by omega⟩ (by refine⟨rfl,rfl,by simp,?_,?_,.inl rfl⟩<;>(repeat' apply Ja)<;>first | rfl | trivial) ?_
 intro i
 obtain⟨i,hi⟩:=i
 dsimp only
 simp(config:={ maxSteps:=2000000 }) (implicitDefEqProofs:=false) (disch:=first | omega | assumption | (simp only[]; done) | fail) only[go_sem,Jc,Jd]
 refine QaP (fun hc=>?_) (fun hc=>?_)<;>simp only[decide_eq_true_eq,decide_eq_false_iff_not,Jh,Jb,Ju,Jr,Ji,Jg,beq_iff_eq,beq_eq_false_iff_ne,bne_iff_ne,bne_eq_false_iff_eq,ne_eq] at hc
 ·have hg:s[((a:Int) + (i:Int)).toNat]? = some (s.getD (a + i) 0):=Qx0 s a i (by omega)
  have h0:0<=(a:Int)+(i:Int):=by omega
  have hw8:IntKind.u64.wrap (8*(i:Int))=8*(i:Int):=by simp[IntKind.wrap,IntKind.signed,IntKind.bits]; omega
  simp(config:={ maxSteps:=2000000 }) (implicitDefEqProofs:=false) (disch:=first | omega | assumption | (simp only[]; done) | fail) only[go_sem,Jc,Jd,hg,hw8]
  exact⟨⟨i+1,by omega⟩,by show k-(i+1)<k-i; omega,(by refine⟨rfl,rfl,by simp,?_,?_,.inl rfl⟩<;>(repeat' apply Ja)<;>first | rfl | trivial)⟩
 ·simp (config:={ maxSteps:=2000000 }) (implicitDefEqProofs:=false) (disch:=first | omega | assumption | (simp only []; done) | fail) only [go_sem,↓reduceIte,JA,Jc,JB,Jd]
  have hik:i=k:=by omega
  rw[hik]
def u64N(n:Int):Nat:=(n % 18446744073709551616).toNat
def QxV(n:Int):u64N n<2 ^ 64:=by unfold u64N; omega
def Qht(n:Int):IntKind.u64.wrap n=(u64N n:Int):=by
 unfold u64N
 simp[IntKind.wrap,IntKind.signed,IntKind.bits]; omega
def QiT(i:Nat)(h:i<8):min (8*(i:Int)).toNat 64=8*i:=by
 have e:(8*(i:Int)).toNat=8*i:=by omega
 rw[e]; omega
def Qtt(n:Int)(i:Nat)(h:i<8):(QcE n i).toNat=u64N n / 2 ^ (8*i) % 256:=by
 have hx:=Qnz n i
 unfold Qwo at hx
 rw[Qhs,Qht,QiT i h] at hx
 have e:((u64N n:Int).fdiv (2 ^ (8*i)))=((u64N n / 2 ^ (8*i):Nat):Int):=by
  have e2:((2:Int) ^ (8*i))=((2 ^ (8*i):Nat):Int):=by rw[J5]; rfl
  rw[e2,Int.fdiv_eq_ediv_of_nonneg _ (Int.natCast_nonneg _)]
  rfl
 rw[e] at hx
 generalize u64N n / 2 ^ (8*i)=q at hx |-
 omega
def QwV(x y:Nat)(hx:x<2 ^ 64)(hy:y<2 ^ 64):bits .or .u64 (x:Int) (y:Int)=((x ||| y:Nat):Int):=by
 have e:bits .or .u64 (x:Int) (y:Int)=IntKind.u64.wrap ((BitVec.ofInt 64 (x:Int) ||| BitVec.ofInt 64 (y:Int)).toNat:Int):=rfl
 rw[e,BitVec.toNat_or]
 have h1:(BitVec.ofInt 64 (x:Int)).toNat=x:=by simp; omega
 have h2:(BitVec.ofInt 64 (y:Int)).toNat=y:=by simp; omega
 rw[h1,h2,Qht]
 have h3:x ||| y<2 ^ 64:=Nat.or_lt_two_pow hx hy
 unfold u64N; omega
def Qur(N i:Nat):(N % 2 ^ (8*i)) ||| (N / 2 ^ (8*i) % 256*2 ^ (8*i))=N % 2 ^ (8*(i+1)):=by
 have h:N % 2 ^ (8*i)<2 ^ (8*i):=Kh _ (Ko _)
 rw[Ky,Kw,<- JU h]
 have e:2 ^ (8*(i+1))=2 ^ (8*i)*256:=by rw[Kz,KA]
 rw[e,Nat.mod_mul]; omega
def Qvo(s t:List UInt8)(n:Int)(k i:Nat)(hi:i<k):(Qj s n k++t).getD (s.length+i) 0=QcE n i:=by
 rw[Jf,Qj,Ki,List.getElem?_append_right (by omega),List.getElem?_append_left (by simp; omega)]
 simp[hi]
def QgU (s t:List UInt8) (n:Int) (k:Nat) (hk:k<=8):∀ i,i<=k->QeG (Qj s n k ++ t) s.length i = ((u64N n % 2 ^ (8 * i):Nat):Int)
 | 0,_=>by simp[QeG,Nat.mod_one]
 | i + 1,hi=>by
   have ih:=QgU s t n k hk i (by omega)
   have h8:i<8:=by omega
   unfold QeG
   rw[ih,Qvo s t n k i (by omega),Qtt n i h8,QiT i h8]
   have hb:u64N n / 2 ^ (8*i) % 256<256:=Kh _ (by omega)
   have hw:IntKind.u64.wrap ((u64N n / 2 ^ (8*i) % 256:Nat):Int)=((u64N n / 2 ^ (8*i) % 256:Nat):Int):=by rw[Qht]; unfold u64N at *; omega
   rw[hw]
   have hp:(2:Nat) ^ (8*i)<=2 ^ 56:=JI (by omega) (by omega)
   have hlt:u64N n / 2 ^ (8*i) % 256*2 ^ (8*i)<2 ^ 64:=by
    have:u64N n / 2 ^ (8*i) % 256*2 ^ (8*i)<=255*2 ^ 56:=Ks (by omega) hp
    omega
   have e2:((u64N n / 2 ^ (8*i) % 256:Nat):Int)*2 ^ (8*i)=((u64N n / 2 ^ (8*i) % 256*2 ^ (8*i):Nat):Int):=by
    rw[Kp,J5]; rfl
   rw[e2]
   have hw2:IntKind.u64.wrap ((u64N n / 2 ^ (8*i) % 256*2 ^ (8*i):Nat):Int)=((u64N n / 2 ^ (8*i) % 256*2 ^ (8*i):Nat):Int):=by
    generalize u64N n / 2 ^ (8*i) % 256*2 ^ (8*i)=z at hlt
    rw[Qht]; unfold u64N; omega
   rw[hw2,QwV _ _ (Nat.lt_of_le_of_lt (Nat.mod_le _ _) (QxV n)) hlt,Qur]
def Qpt(n:Int)(h : -9223372036854775808<=n/\n<=9223372036854775807):IntKind.i64.wrap ((u64N n % 2 ^ 64:Nat):Int)=n:=by
 rw[IntKind.wrap_i64]; unfold u64N; omega
def QnG(n:Int)(m:Nat)(hm:m<=56):IntKind.i64.wrap ((u64N n % 2 ^ m:Nat):Int)=((u64N n % 2 ^ m:Nat):Int):=by
 have hp:(2:Nat) ^ m<=2 ^ 56:=JI (by omega) hm
 have h3:u64N n % 2 ^ m<2 ^ m:=Kh _ (Ko m)
 rw[IntKind.wrap_i64]
 generalize u64N n % 2 ^ m=q at *
 omega
def rnd(r:Int):Int:=if bits .and .u32 r 1=1 then bits .xor .u32 (r.fdiv 2) 2197175160 else r.fdiv 2
def Qof:Nat->Int->Int
 | 0,r=>r
 | n+1,r=>rnd (Qof n r)
def QBu(i:Nat):Int:=Qof 4 i
def QDd(i:Nat):List Int:=(Jz 16).map fun j=>if j<i then QBu j else 0
def QCX(r:Int):Int:=bits .xor .u32 (r.fdiv (2 ^ min 4 32)) ((QDd 16).getD (bits .and .u32 r 15).toNat 0)
def Qo5(r:Int)(b:UInt8):Int:=QCX (QCX (bits .xor .u32 r (IntKind.u32.wrap b.toNat)))
def Qlz(s:List UInt8):Int:=s.foldl Qo5 4294967295
def Qly(s:List UInt8):Int:=bits .xor .u32 4294967295 (Qlz s)
def Qqm(s:List UInt8)(i:Nat)(h:i<s.length):Qlz (s.take (i+1))=Qo5 (Qlz (s.take i)) (s.getD i 0):=by
 rw[Qlz,Jt h,List.foldl_append]
 rw[Jf,Jv h]; rfl
def QDn(x:BitVec 32):rnd (x.toNat:Int)=((rb x).toNat:Int):=by
 have h1:bits .and .u32 (x.toNat:Int) 1=((x &&& 1#32).toNat:Int):=QCv x 1#32
 have h2:(x.toNat:Int).fdiv 2=((x >>> 1).toNat:Int):=QBe x 1
 have h3:(x &&& 1#32).toNat=x.toNat % 2:=by rw[BitVec.toNat_and]; exact Nat.and_one_is_mod _
 have h4:x.getLsbD 0=decide (x.toNat % 2=1):=by simp[BitVec.getLsbD,Nat.testBit_zero]
 unfold rnd rb
 rw[h1,h2,h3,h4]
 by_cases h:x.toNat % 2=1
 ·rw [if_pos (by omega),if_pos (by simpa using h)]
  exact Qpr _ polyB
 ·rw[if_neg (by omega),if_neg (by simpa using h)]; simp
def QwQ(n:Nat)(x:BitVec 32):Qof n (x.toNat:Int)=((rbN n x).toNat:Int):=by
 induction n with
 | zero=>rfl
 | succ n ih=>rw[Qof,ih,QDn]; rfl
def Qw3 (x:BitVec 32):QCX (x.toNat:Int) = ((rbN 4 x).toNat:Int):=by
 have h1:bits .and .u32 (x.toNat:Int) 15=((x &&& 15#32).toNat:Int):=QCv x 15#32
 have h15:(x &&& 15#32).toNat<16:=by rw[BitVec.toNat_and]; exact Nat.lt_succ_of_le Nat.and_le_right
 have h2:(QDd 16).getD (x &&& 15#32).toNat 0=((rbN 4 (x &&& 15#32)).toNat:Int):=by
  rw[<- QwQ]
  simp only[QDd,Jf,Kj,List.getElem?_range h15,Option.map_some,Option.getD_some,QBu]
  rw[if_pos h15]
 have h3:(x.toNat:Int).fdiv (2 ^ min 4 32)=((x >>> 4).toNat:Int):=QBe x 4
 have e1:x = (x &&& 15#32) ^^^ ((x >>> 4) <<< 4):=by
  apply BitVec.eq_of_getLsbD_eq
  intro i hi
  rw[BitVec.getLsbD_xor,BitVec.getLsbD_and,BitVec.getLsbD_shiftLeft,BitVec.getLsbD_ushiftRight]
  by_cases h:i<4
  ·have h15:(15#32).getLsbD i = true:=by
    rcases i with _ | _ | _ | _ | i<;>first | rfl | omega
   simp[h15,h]
  ·have h15:(15#32).getLsbD i = false:=by
    have:(15#32).getLsbD i=(15:Nat).testBit i:=by simp[BitVec.getLsbD]
    rw[this]; apply Nat.testBit_lt_two_pow
    exact JG (show 15<2 ^ 4 by omega) (JI (by omega) (by omega))
   rw[h15]; simp[h,hi,show 4+(i-4)=i by omega]
 have e2:rbN 4 x=rbN 4 (x &&& 15#32) ^^^ (x >>> 4):=by
  have hs:rbN 4 ((x >>> 4) <<< 4)=x >>> 4:=Qx9 _ _ (fun i hi=>by rw[BitVec.getLsbD_ushiftRight]; exact BitVec.getLsbD_of_ge _ _ (by omega)) (by omega)
  conv=>lhs; rw[e1]
  rw[QyK,hs]
 unfold QCX
 rw[h1,h3,Jw,h2,Qpr,e2,BitVec.xor_comm]
def Qtu(x:BitVec 32)(b:UInt8):Qo5 (x.toNat:Int) b=((cb x b).toNat:Int):=by
 unfold Qo5
 rw[Qtx,Qpr,Qw3,Qw3,<- QyM]; rfl
def Qw7:∀ (s:List UInt8) (x:BitVec 32),s.foldl Qo5 (x.toNat:Int)=((s.foldl cb x).toNat:Int)
 | [],_=>rfl
 | b::s,x=>by rw[Kq,Qtu,Qw7 s,Kq]
def QwM(s:List UInt8):Qlz s=((s.foldl cb 4294967295#32).toNat:Int):=Qw7 s 4294967295#32
def QA9(s:List UInt8):Qly s=((4294967295#32 ^^^ s.foldl cb 4294967295#32).toNat:Int):=by
 rw[Qly,QwM]; exact Qpr 4294967295#32 _
def Qlx(s:List UInt8):0<=Qly s/\Qly s<4294967296:=by
 rw[QA9]
 have:=(4294967295#32 ^^^ s.foldl cb 4294967295#32).isLt
 omega
def Qyl(r:Int)(b:UInt8):Int:=Qof 8 (bits .xor .u32 r (IntKind.u32.wrap b.toNat))
def QuG(x:BitVec 32)(b:UInt8):Qyl (x.toNat:Int) b=Qo5 (x.toNat:Int) b:=by
 rw[Qtu,Qyl,Qtx,Qpr,QwQ]; rfl
def Qn1(s:List UInt8)(i:Nat)(h:i<s.length):Qlz (s.take (i+1))=Qyl (Qlz (s.take i)) (s.getD i 0):=by
 rw[Qqm s i h,QwM (s.take i),QuG]
def QmK(s:List UInt8)(hs:s.length<=100000000):VCalls prog 179 [.pv (.str s)] [] (Ret (.int .u32 (Qly s))):=by
 refine dd Tryz.func179 ?_
 simp(config:={ maxSteps:=2000000 }) (implicitDefEqProofs:=false) (disch:=first | omega | assumption | (simp only[]; done) | fail) only[go_sem,Tryz.f179]
 refine Qxv (fun i:{i:Nat // i<=s.length}=>⟨32,0,[(4,.int .i64 i.1),(3,.int .u32 (Qlz (s.take i.1))),(0,.pv (.str s))],[]⟩) (fun i=>s.length-i.1) ⟨0,by omega⟩ (by refine⟨rfl,rfl,by simp,?_,?_,.inl rfl⟩<;>(repeat' apply Ja)<;>first | rfl | trivial) ?_
 intro i
 obtain⟨i,hi⟩:=i
 dsimp only
 simp(config:={ maxSteps:=2000000 }) (implicitDefEqProofs:=false) (disch:=first | omega | assumption | (simp only[]; done) | fail) only[go_sem,Jc,Jd]
 refine QaP (fun hc=>?_) (fun hc=>?_)<;>simp only[decide_eq_true_eq,decide_eq_false_iff_not,Jh,Jb,Ju,Jr,Ji,Jg,beq_iff_eq,beq_eq_false_iff_ne,bne_iff_ne,bne_eq_false_iff_eq,ne_eq] at hc
 ·have hlt:i < s.length:=by omega
  have hg:s[i]?=some (s.getD i 0):=by rw[Jf,Jv hlt]; rfl
  simp(config:={ maxSteps:=2000000 }) (implicitDefEqProofs:=false) (disch:=first | omega | assumption | (simp only[]; done) | fail) only[go_sem,Jc,Jd,hg]
  refine Qxv (fun j:{j:Nat // j<=8}=>⟨32,0,[(5,.int .i64 j.1),(4,.int .i64 i),(3,.int .u32 (Qof j.1 (bits .xor .u32 (Qlz (s.take i)) (IntKind.u32.wrap (s.getD i 0).toNat)))),(0,.pv (.str s))],[]⟩) (fun j=>8-j.1) ⟨0,by omega⟩ (by refine⟨rfl,rfl,by simp,?_,?_,.inl rfl⟩<;>(repeat' apply Ja)<;>first | rfl | trivial) ?_
  intro j
  obtain⟨j,hj⟩:=j
  dsimp only
  simp(config:={ maxSteps:=2000000 }) (implicitDefEqProofs:=false) (disch:=first | omega | assumption | (simp only[]; done) | fail) only[go_sem]
  refine QaP (fun hcj=>?_) (fun hcj=>?_)<;>simp only[decide_eq_true_eq,decide_eq_false_iff_not,Jh,Jb,Ju,Jr,Ji,Jg,beq_iff_eq,beq_eq_false_iff_ne,bne_iff_ne,bne_eq_false_iff_eq,ne_eq] at hcj
  ·simp (config:={ maxSteps:=2000000 }) (implicitDefEqProofs:=false) (disch:=first | omega | assumption | (simp only []; done) | fail) only [go_sem,Jc,Jd]
   refine QaP (fun hb=>?_) (fun hb=>?_)<;>simp only[decide_eq_true_eq,decide_eq_false_iff_not,Jh,Jb,Ju,Jr,Ji,Jg,beq_iff_eq,beq_eq_false_iff_ne,bne_iff_ne,bne_eq_false_iff_eq,ne_eq] at hb
   ·simp (config:={ maxSteps:=2000000 }) (implicitDefEqProofs:=false) (disch:=first | omega | assumption | (simp only []; done) | fail) only [go_sem,Jc,Kr,Jd]
    refine⟨⟨j+1,by omega⟩,by show 8-(j+1)<8-j; omega,?_⟩
    have e:Qof (j+1) (bits .xor .u32 (Qlz (s.take i)) (IntKind.u32.wrap (s.getD i 0).toNat))=bits .xor .u32 ((Qof j (bits .xor .u32 (Qlz (s.take i)) (IntKind.u32.wrap (s.getD i 0).toNat))).fdiv 2) 2197175160:=by rw[Qof,rnd,if_pos hb]
    rw[e]
    exact(by refine⟨rfl,rfl,by simp,?_,?_,.inl rfl⟩<;>(repeat' apply Ja)<;>first | rfl | trivial)
   ·simp (config:={ maxSteps:=2000000 }) (implicitDefEqProofs:=false) (disch:=first | omega | assumption | (simp only []; done) | fail) only [go_sem,Jc,Kr,Jd]
    refine⟨⟨j+1,by omega⟩,by show 8-(j+1)<8-j; omega,?_⟩
    have e:Qof (j+1) (bits .xor .u32 (Qlz (s.take i)) (IntKind.u32.wrap (s.getD i 0).toNat))=(Qof j (bits .xor .u32 (Qlz (s.take i)) (IntKind.u32.wrap (s.getD i 0).toNat))).fdiv 2:=by rw[Qof,rnd,if_neg hb]
    rw[e]
    exact(by refine⟨rfl,rfl,by simp,?_,?_,.inl rfl⟩<;>(repeat' apply Ja)<;>first | rfl | trivial)
  ·have hj8:j = 8:=by omega
   subst hj8
   simp(config:={ maxSteps:=2000000 }) (implicitDefEqProofs:=false) (disch:=first | omega | assumption | (simp only[]; done) | fail) only[go_sem,↓reduceIte,Jc,Jd]
   refine⟨⟨i+1,hlt⟩,by show s.length-(i+1)<s.length-i; omega,?_⟩
   have e:Qlz (s.take (i+1))=Qof 8 (bits .xor .u32 (Qlz (s.take i)) (IntKind.u32.wrap (s.getD i 0).toNat)):=Qn1 s i hlt
   rw[e]
   exact(by refine⟨rfl,rfl,by simp,?_,?_,.inl rfl⟩<;>(repeat' apply Ja)<;>first | rfl | trivial)
 ·simp (config:={ maxSteps:=2000000 }) (implicitDefEqProofs:=false) (disch:=first | omega | assumption | (simp only []; done) | fail) only [go_sem,↓reduceIte,JA,Jc,JB,Jd]
  rw[Jk (by omega)]
  rfl
def frm(s:List UInt8):List UInt8:=if s.length<=8392 then Qj (Qj [] s.length 4++s) (Qly (Qj [] s.length 4++s)) 4 else []
def QmR(s:List UInt8)(hs:s.length<=90000000):VCalls prog 237 [.pv (.str s)] [] (Ret (.pv (.str (frm s)))):=by
 refine dd Tryz.func237 ?_
 by_cases h:s.length<=8392
 ·have h1:¬ 8392 < (s.length:Int):=by omega
  have hl:=Qb [] s.length 4
  simp only[Jj,Kk] at hl
  have hl2:(Qj [] s.length 4++s).length<=10000:=by rw[Je,hl]; omega
  simp(config:={ maxSteps:=2000000 }) (implicitDefEqProofs:=false) (disch:=first | omega | assumption | (simp only[]; done) | fail) only[go_sem,Jc,Jd,Tryz.f237,h1]
  refine Qac (QS [] (by simp) s.length 4 (by omega) (by omega)) rfl ?_
  simp(config:={ maxSteps:=2000000 }) (implicitDefEqProofs:=false) (disch:=first | omega | assumption | (simp only[]; done) | fail) only[go_sem,Jc,Jd]
  refine Qac (QmK _ (by omega)) rfl ?_
  have hx:=Qlx (Qj [] s.length 4++s)
  simp(config:={ maxSteps:=2000000 }) (implicitDefEqProofs:=false) (disch:=first | omega | assumption | (simp only[]; done) | fail) only[go_sem,JA,Jc,JB,Jd]
  refine Qac (QS (Qj [] s.length 4++s) (by omega) _ 4 (by omega) (by omega)) rfl ?_
  simp(config:={ maxSteps:=2000000 }) (implicitDefEqProofs:=false) (disch:=first | omega | assumption | (simp only[]; done) | fail) only[go_sem,↓reduceIte,frm,h]
 ·have h1:8392 < (s.length:Int):=by omega
  simp(config:={ maxSteps:=2000000 }) (implicitDefEqProofs:=false) (disch:=first | omega | assumption | (simp only[]; done) | fail) only[go_sem,↓reduceIte,Jc,Jd,Tryz.f237,h1,frm,h]
def leN(s:List UInt8)(a:Nat):Nat->Nat
 | 0=>0
 | i+1=>leN s a i+(s.getD (a+i) 0).toNat*2 ^ (8*i)
def Qkw (s:List UInt8) (a:Nat):∀ i,leN s a i < 2 ^ (8 * i)
 | 0=>by simp[leN]
 | i + 1=>by
   have ih:=Qkw s a i
   have hb:=(s.getD (a+i) 0).toNat_lt
   rw[leN,Kz,KA]
   have:(s.getD (a+i) 0).toNat*2 ^ (8*i)<=255*2 ^ (8*i):=J8 _ (by omega)
   omega
def QeF (s:List UInt8) (a:Nat):∀ i,i<=8->QeG s a i = (leN s a i:Int)
 | 0,_=>rfl
 | i + 1,hi=>by
   have ih:=QeF s a i (by omega)
   have hlt:=Qkw s a i
   have hb:=(s.getD (a+i) 0).toNat_lt
   unfold QeG
   rw[ih,QiT i (by omega)]
   have hw:IntKind.u64.wrap ((s.getD (a+i) 0).toNat:Int)=((s.getD (a+i) 0).toNat:Int):=by rw[Qht]; unfold u64N; omega
   have hp:(2:Nat) ^ (8*i)<=2 ^ 56:=JI (by omega) (by omega)
   have hm:(s.getD (a+i) 0).toNat*2 ^ (8*i)<=255*2 ^ 56:=Ks (by omega) hp
   have e2:((s.getD (a+i) 0).toNat:Int)*2 ^ (8*i)=(((s.getD (a+i) 0).toNat*2 ^ (8*i):Nat):Int):=by
    rw[Kp,J5]; rfl
   rw[hw,e2]
   have hw2:IntKind.u64.wrap (((s.getD (a+i) 0).toNat*2 ^ (8*i):Nat):Int)=(((s.getD (a+i) 0).toNat*2 ^ (8*i):Nat):Int):=by
    generalize (s.getD (a+i) 0).toNat*2 ^ (8*i)=z at hm
    rw[Qht]; unfold u64N; omega
   have h64:leN s a i<2 ^ 64:=JG hlt (JI (by omega) (by omega))
   rw[hw2,QwV _ _ h64 (by omega),leN]
   congr 1
   rw[Ky,Kw _ (2 ^ (8*i)),<- JU hlt,Nat.add_comm]
def n4(s:List UInt8)(a:Nat):Nat:=leN s a 4
def Qy4(s:List UInt8)(a:Nat):n4 s a<4294967296:=Qkw s a 4
def Qxg(s:List UInt8)(a:Nat):IntKind.i64.wrap (QeG s a 4)=(n4 s a:Int):=by
 rw[QeF s a 4 (by omega)]
 have:=Qy4 s a
 unfold n4 at this |-
 rw[IntKind.wrap_i64]; omega
def QBt(s:List UInt8)(hs:s.length<=100000000)(a:Nat)(hh:a+4<=s.length):VCalls prog 240 [.pv (.str s),.int .i64 a,.int .i64 4] [] (Ret (.tup [.int .i64 (n4 s a),.int .i64 0])):=by
 have h:=QhJ s (by omega) a 4 (by omega) hh
 rwa [Qxg] at h
section
structure Ce where
 set:Bool
 data:List UInt8
structure Ch where
 pg:Int
 sl:Int
 b:Ce
 a:Ce
structure E where
 lsn:Int
 kind:Int
 tx:Int
 ptx:Int
 ppg:Int
 ref:Int
 c:Ch
 blob:List UInt8
def Ce.d(x:Ce):List DV:=[.bool x.set,.pv (.str x.data)]
def Ch.d(x:Ch):List DV:=[.int .i64 x.pg,.int .i64 x.sl,.bool x.b.set,.pv (.str x.b.data),.bool x.a.set,.pv (.str x.a.data)]
def E.d(x:E):List DV:=[.int .i64 x.lsn,.int .i64 x.kind,.int .i64 x.tx,.int .i64 x.ptx,.int .i64 x.ppg,.int .i64 x.ref,.int .i64 x.c.pg,.int .i64 x.c.sl,.bool x.c.b.set,.pv (.str x.c.b.data),.bool x.c.a.set,.pv (.str x.c.a.data),.pv (.str x.blob)]
def Ce0:Ce:=⟨false,[]⟩
def Ch0:Ch:=⟨0,0,Ce0,Ce0⟩
def E0:E:=⟨0,0,0,0,0,0,Ch0,[]⟩
def Ce.okB(x:Ce):Bool:=decide (x.data.length<=12)&&(x.set||x.data==[])
def Ch.okB(x:Ch):Bool:=decide (0<=x.pg)&&decide (x.pg<64)&&decide (0<=x.sl)&&decide (x.sl<16)&&x.b.okB&&x.a.okB
def Ce.no(x:Ce):Bool:=!x.set&&x.data==[]
def Ch.no(x:Ch):Bool:=x.pg==0&&x.sl==0&&x.b.no&&x.a.no
def bef(n l:Int):Bool:=decide (0<=n)&&decide (n<l)
attribute [local go_sem] Ce.d Ch.d E.d Q5 QbJ
def Qnx(x:Ce):VCalls prog 122 [.agg x.d] [] (Ret (.bool x.okB)):=by
 refine dd Tryz.func122 ?_
 (unfold Tryz.f122; refine rn trivial ?_)
 refine rn F ?_
 repeat' (first
  | with_reducible exact⟨⟩
  | (refine sG F ?_ ?_<;>intro hZ))
 all_goals (first | rfl | (congr 3; rw[Jo]; (try simp only[Ce.okB,decide_eq_true_eq,Jb,Jh,Ji,Jg,decide_eq_false_iff_not,beq_iff_eq,bne_iff_ne,ne_eq,Jp,Js,iff_true,true_iff,iff_false,false_iff]); first | done | omega | grind))
def Qgn(x:Ce):VCalls prog 104 [.agg x.d] [] (Ret (.bool x.okB)):=by
 refine dd Tryz.func104 ?_
 (unfold Tryz.f104; refine rn trivial ?_)
 refine rn F ?_
 repeat' (first
  | with_reducible exact⟨⟩
  | (refine sG F ?_ ?_<;>intro hZ))
 all_goals (first | rfl | (congr 3; rw[Jo]; (try simp only[Ce.okB,decide_eq_true_eq,Jb,Jh,Ji,Jg,decide_eq_false_iff_not,beq_iff_eq,bne_iff_ne,ne_eq,Jp,Js,iff_true,true_iff,iff_false,false_iff]); first | done | omega | grind))
def QBK(x:Ch):VCalls prog 98 [.agg x.d] [] (Ret (.bool x.no)):=by
 refine dd Tryz.func98 ?_
 (unfold Tryz.f98; refine rn trivial ?_)
 simp only[Ch.no,Ce.no,Bool.and_assoc]
def Qja(n:Int)(x:E):VCalls prog 79 [.int .i64 n,.agg x.d] [] (Ret (.bool (bef n x.lsn))):=by
 refine dd Tryz.func79 ?_
 (unfold Tryz.f79; refine rn trivial ?_)
 refine rn F ?_
 repeat' (first
  | with_reducible exact⟨⟩
  | (refine sG F ?_ ?_<;>intro hZ))
 all_goals (first | rfl | (congr 3; rw[Jo]; (try simp only[bef,decide_eq_true_eq,Jb,Jh,Ji,Jg,decide_eq_false_iff_not,beq_iff_eq,bne_iff_ne,ne_eq,Jp,Js,iff_true,true_iff,iff_false,false_iff]); first | done | omega | grind))
def Qgo(n l:Int):VCalls prog 65 [.int .i64 n,.int .i64 l] [] (Ret (.bool (bef n l))):=by
 refine dd Tryz.func65 ?_
 (unfold Tryz.f65; refine rn trivial ?_)
 refine rn F ?_
 repeat' (first
  | with_reducible exact⟨⟩
  | (refine sG F ?_ ?_<;>intro hZ))
 all_goals (first | rfl | (congr 3; rw[Jo]; (try simp only[bef,decide_eq_true_eq,Jb,Jh,Ji,Jg,decide_eq_false_iff_not,beq_iff_eq,bne_iff_ne,ne_eq,Jp,Js,iff_true,true_iff,iff_false,false_iff]); first | done | omega | grind))
def QyT(n:Int):VCalls prog 121 [.int .i64 n] [] (Ret (.bool (decide (0<=n)&&decide (n<64)))):=by
 refine dd Tryz.func121 ?_
 (unfold Tryz.f121; refine rn trivial ?_)
 refine rn F ?_
 repeat' (first
  | with_reducible exact⟨⟩
  | (refine sG F ?_ ?_<;>intro hZ))
 all_goals (first | rfl | (congr 3; rw[Jo]; (try simp only[decide_eq_true_eq,Jb,Jh,Ji,Jg,decide_eq_false_iff_not,beq_iff_eq,bne_iff_ne,ne_eq,Jp,Js,iff_true,true_iff,iff_false,false_iff]); first | done | omega | grind))
def QwB(x:E):VCalls prog 97 [.agg x.d] [] (Ret (.bool true)):=by
 refine dd Tryz.func97 ?_
 (unfold Tryz.f97; refine rn trivial ?_; try with_reducible exact⟨⟩)
def Qqa(x:E):VCalls prog 100 [.agg x.d] [] (Ret (.bool (decide (1<=x.ref)&&decide (x.ref<=x.ptx)))):=by
 refine dd Tryz.func100 ?_
 (unfold Tryz.f100; refine rn trivial ?_)
 refine rn F ?_
 repeat' (first
  | with_reducible exact⟨⟩
  | (refine sG F ?_ ?_<;>intro hZ))
 all_goals (first | rfl | (congr 3; rw[Jo]; (try simp only[decide_eq_true_eq,Jb,Jh,Ji,Jg,decide_eq_false_iff_not,beq_iff_eq,bne_iff_ne,ne_eq,Jp,Js,iff_true,true_iff,iff_false,false_iff]); first | done | omega | grind))
def Ch.ix(x:Ch):Bool:=x.sl==0&&x.b.no&&x.a.no&&decide (0<=x.pg)&&decide (x.pg<64)
def QzA(x:Ch):VCalls prog 101 [.agg x.d] [] (Ret (.bool x.ix)):=by
 refine dd Tryz.func101 ?_
 (unfold Tryz.f101; refine rn trivial ?_)
 refine rn F ?_
 repeat' (first
  | with_reducible exact⟨⟩
  | (refine sG F ?_ ?_<;>intro hZ))
 all_goals (first | rfl | (congr 3; rw[Jo]; (try simp only[Ch.ix,Ce.no,decide_eq_true_eq,Jb,Jh,Ji,Jg,decide_eq_false_iff_not,beq_iff_eq,bne_iff_ne,ne_eq,Jp,Js,iff_true,true_iff,iff_false,false_iff]); first | done | omega | grind))
def Qb9(x:E):VCalls prog 190 [.agg x.d] [] (Ret (.bool (x.kind==1||x.kind==2))):=by
 refine dd Tryz.func190 ?_
 (unfold Tryz.f190; refine rn trivial ?_)
 refine rn F ?_
 repeat' (first
  | with_reducible exact⟨⟩
  | (refine sG F ?_ ?_<;>intro hZ))
 all_goals (first | rfl | (congr 3; rw[Jo]; (try simp only[decide_eq_true_eq,Jb,Jh,Ji,Jg,decide_eq_false_iff_not,beq_iff_eq,bne_iff_ne,ne_eq,Jp,Js,iff_true,true_iff,iff_false,false_iff]); first | done | omega | grind))
def QCg(x:Ch):VCalls prog 99 [.agg x.d] [] (Ret (.bool x.okB)):=by
 refine dd Tryz.func99 ?_
 (unfold Tryz.f99; refine rn trivial ?_)
 refine rn F ?_
 repeat' (first
  | with_reducible exact⟨⟩
  | (refine sG F ?_ ?_<;>intro hZ)
  | refine vp F (QyT x.pg) ?_
  | refine vp F (Qnx x.b) ?_
  | refine vp F (Qnx x.a) ?_)
 all_goals (first | rfl | (congr 3; rw[Jo]; (try simp only[Ch.okB,decide_eq_true_eq,Jb,Jh,Ji,Jg,decide_eq_false_iff_not,beq_iff_eq,bne_iff_ne,ne_eq,Jp,Js,iff_true,true_iff,iff_false,false_iff]); first | done | omega | grind))
def Qrv(x:Ch):VCalls prog 90 [.agg x.d] [] (Ret (.bool x.okB)):=by
 refine dd Tryz.func90 ?_
 (unfold Tryz.f90; refine rn trivial ?_)
 refine rn F ?_
 repeat' (first
  | with_reducible exact⟨⟩
  | (refine sG F ?_ ?_<;>intro hZ)
  | refine vp F (Qgn x.b) ?_
  | refine vp F (Qgn x.a) ?_)
 all_goals (first | rfl | (congr 3; rw[Jo]; (try simp only[Ch.okB,decide_eq_true_eq,Jb,Jh,Ji,Jg,decide_eq_false_iff_not,beq_iff_eq,bne_iff_ne,ne_eq,Jp,Js,iff_true,true_iff,iff_false,false_iff]); first | done | omega | grind))
def rl(tx ch pg rf bl:Bool)(f g:Nat):List DV:=[.bool tx,.bool ch,.bool pg,.bool rf,.bool bl,.fn (.func f) [] [],.fn (.func g) [] []]
def rl0:List DV:=[.bool false,.bool false,.bool false,.bool false,.bool false,.pv (.lit .nilFunc),.pv (.lit .nilFunc)]
def Qu1:List DV:=rl true true false false false 97 98
def Qrb:List DV:=rl false false false false true 97 98
def QBn:List DV:=rl0++rl true false true false false 97 99++rl true true true true false 100 99++Qu1++Qu1++Qu1++Qrb++rl false false false true false 97 101++Qrb
def Qyh:VCalls prog 80 [] [] (Ret (.agg QBn)):=by
 refine dd Tryz.func80 ?_
 (unfold Tryz.f80; refine rn trivial ?_)
 rfl
end
section
attribute [local go_sem] QBn rl0 rl Qu1 Qrb
def txB(n:Int):Bool:=decide (1<=n)&&decide (n<=1073741824)
def E.kindB(e:E):Bool:=
 if e.kind=1 then txB e.tx&&e.ref==0&&e.blob==[]&&e.c.okB
 else if e.kind=2 then txB e.tx&&e.ptx != 0&&e.blob==[]&&decide (1<=e.ref)&&decide (e.ref<=e.ptx)&&e.c.okB
 else if e.kind=3\/e.kind=4\/e.kind=5 then txB e.tx&&e.ptx != 0&&e.ppg==0&&e.ref==0&&e.blob==[]&&e.c.no
 else if e.kind=6\/e.kind=8 then e.tx==0&&e.ptx==0&&e.ppg==0&&e.ref==0&&decide (e.blob.length<=8192)&&e.c.no
 else if e.kind=7 then e.tx==0&&e.ptx==0&&e.ppg==0&&e.blob==[]&&e.c.ix
 else false
def E.okB(e:E):Bool:=decide (1<=e.lsn)&&decide (e.lsn<=1099511627776)&&bef e.ptx e.lsn&&bef e.ppg e.lsn&&bef e.ref e.lsn&&e.kindB
theorem Qnh(lsn kind tx ptx ppg ref:Int)(c:Ch)(blob:List UInt8):(⟨lsn,kind,tx,ptx,ppg,ref,c,blob⟩:E).kindB =
 if kind=1 then txB tx&&ref==0&&blob==[]&&c.okB
 else if kind=2 then txB tx&&ptx != 0&&blob==[]&&decide (1<=ref)&&decide (ref<=ptx)&&c.okB
 else if kind=3\/kind=4\/kind=5 then txB tx&&ptx != 0&&ppg==0&&ref==0&&blob==[]&&c.no
 else if kind=6\/kind=8 then tx==0&&ptx==0&&ppg==0&&ref==0&&decide (blob.length<=8192)&&c.no
 else if kind=7 then tx==0&&ptx==0&&ppg==0&&blob==[]&&c.ix
 else false:=rfl
def QvL{e:E}(h:e.kind<1\/8<e.kind):e.kindB=false:=by
 unfold E.kindB; rw[if_neg (by omega),if_neg (by omega),if_neg (by omega),if_neg (by omega),if_neg (by omega)]
def Qdt(k:Int):(k<1\/8<k)\/k=1\/k=2\/k=3\/k=4\/k=5\/k=6\/k=7\/k=8:=by omega
def QxQ(e:E):VCalls prog 48 [.agg e.d] [] (Ret (.bool e.okB)):=by
 refine dd Tryz.func48 ?_
 obtain⟨lsn,kind,tx,ptx,ppg,ref,c,blob⟩:=e
 have r1:=Qja ptx ⟨lsn,kind,tx,ptx,ppg,ref,c,blob⟩
 have r2:=Qja ppg ⟨lsn,kind,tx,ptx,ppg,ref,c,blob⟩
 have r3:=Qja ref ⟨lsn,kind,tx,ptx,ppg,ref,c,blob⟩
 have r4:=QwB ⟨lsn,kind,tx,ptx,ppg,ref,c,blob⟩
 have r5:=Qqa ⟨lsn,kind,tx,ptx,ppg,ref,c,blob⟩
 have q1:=QBK c
 have q2:=QCg c
 have q3:=QzA c
 have e1:(⟨lsn,kind,tx,ptx,ppg,ref,c,blob⟩:E).okB=(decide (1<=lsn)&&decide (lsn<=1099511627776)&&bef ptx lsn&&bef ppg lsn&&bef ref lsn&&(⟨lsn,kind,tx,ptx,ppg,ref,c,blob⟩:E).kindB):=rfl
 dsimp only[E.d] at *
 generalize bef ptx lsn=B1 at *
 generalize bef ppg lsn=B2 at *
 generalize bef ref lsn=B3 at *
 have e2:=Qnh lsn kind tx ptx ppg ref c blob
 dsimp only[Ch.d] at q1 q2 q3
 generalize c.no=N at *
 generalize c.okB=K at *
 generalize c.ix=X at *
 have e3:=@QvL ⟨lsn,kind,tx,ptx,ppg,ref,c,blob⟩
 dsimp only at e3
 generalize (⟨lsn,kind,tx,ptx,ppg,ref,c,blob⟩:E).kindB=Q at *
 generalize (⟨lsn,kind,tx,ptx,ppg,ref,c,blob⟩:E).okB=R at *
 (unfold Tryz.f48; refine rn trivial ?_)
 refine rn F ?_
 repeat' (first
  | with_reducible exact⟨⟩
  | (refine sG F ?_ ?_<;>intro hZ)
  | (refine sB F ?_ ?_<;>intro hZ)
  | refine vp F (r1) ?_
  | refine vp F (r2) ?_
  | refine vp F (r3) ?_
  | (refine Qc (id:=3) [1,2] [⟨[4],[],0,[1,2],[3]⟩,⟨[4],[4],5,[],[]⟩] (by kernel_rfl) (by kernel_rfl) ?_; refine rn F ?_))
 all_goals first
  | (congr 3; rw[Jo,e1]; simp only[Jb,decide_eq_true_eq,Jp,false_iff]; first | omega | (intro h; simp_all; done) | (intro h; rw[e3 (by omega)] at h; simp at h; done))
  | skip
 all_goals
  have hT:R=Q:=by rw[e1]; simp_all
  rcases Qdt kind with hk | rfl | rfl | rfl | rfl | rfl | rfl | rfl | rfl
  ·omega
 all_goals
  refine rn F ?_
  repeat' (first
   | with_reducible exact⟨⟩
   | (refine sG F ?_ ?_<;>intro hZ)
   | (refine sB F ?_ ?_<;>intro hZ)
   | refine vp F (Qyh) ?_
   | refine vp F (r4) ?_
   | refine vp F (r5) ?_
   | refine vp F (q1) ?_
   | refine vp F (q2) ?_
   | refine vp F (q3) ?_)
 all_goals (try (congr 3; rw[hT,Jo,e2]; clear hT e1 e2 e3 r1 r2 r3 r4 r5 q1 q2 q3; simp[txB]; first | omega | grind))
 all_goals skip
end
section
def encE:Enc E:=⟨13,fun x=>[.lit (.int .i64 x.lsn),.lit (.int .i64 x.kind),.lit (.int .i64 x.tx),.lit (.int .i64 x.ptx),.lit (.int .i64 x.ppg),.lit (.int .i64 x.ref),.lit (.int .i64 x.c.pg),.lit (.int .i64 x.c.sl),.lit (.bool x.c.b.set),.str x.c.b.data,.lit (.bool x.c.a.set),.str x.c.a.data,.str x.blob],by decide,fun _=>rfl⟩
def QCU(l:List E):(cells encE l).length=l.length*13:=QZ encE l
def QDS(l:List E)(n:Nat)(h:l.length*13<=n):(cells encE l).take n=cells encE l:=by rw[Jk]; rw[QCU]; exact h
def QDg(l:List E)(T:TypeId)(a b:Nat)(h:a<=b/\b<=l.length):QnK (some (none,T,13)) (fz encE l) a b=some (.pv (.sl (fz encE ((l.take b).drop a)))):=QfT encE l T a b h
def QDf(l:List E):(fz encE l=[]\/(fz encE l)[0]?.map JJ=some 13)=True:=Qfc encE l
def QDB(h:l.length=len):Qmc n hp 0 13 len (some (cells encE l))=some (.sl (fz encE l)):=QW encE h
def Qwz(l:List E)(e:E):cells encE l++[.pv (.lit (.int .i64 e.lsn)),.pv (.lit (.int .i64 e.kind)),.pv (.lit (.int .i64 e.tx)),.pv (.lit (.int .i64 e.ptx)),.pv (.lit (.int .i64 e.ppg)),.pv (.lit (.int .i64 e.ref)),.pv (.lit (.int .i64 e.c.pg)),.pv (.lit (.int .i64 e.c.sl)),.pv (.lit (.bool e.c.b.set)),.pv (.str e.c.b.data),.pv (.lit (.bool e.c.a.set)),.pv (.str e.c.a.data),.pv (.str e.blob)]=cells encE (l++[e]):=by rw[QC]; rfl
def Qd{α:Type}(l:List α)(i:Nat)(h:i<l.length)(d:α):l.getD i d=l[i]:=by rw[Jf,Jv h]; rfl
structure To(n:Nat) where
 i:Nat
 hi:i<=n
structure Okay(n:Nat)(c:Nat->Bool) where
 i:Nat
 hi:i<=n
 ok:∀ k,k<i->c k=true
def Okay.start(n:Nat)(c:Nat->Bool):Okay n c:=⟨0,Jy _,fun k h=>by omega⟩
def Okay.next{n:Nat}{c:Nat->Bool}(s:Okay n c)(h:s.i<n)(hc:c s.i=true):Okay n c:=⟨s.i+1,h,fun k hk=>by
 rcases JW k s.i with hlt | hge
 ·exact s.ok k hlt
 ·obtain rfl:k = s.i:=by omega
  exact hc⟩
def Okay.all(s:Okay n c)(h:¬ s.i<n):(Jz n).all c=true:=by
 rw[JE]
 intro k hk
 rw[JC] at hk
 exact s.ok k (by omega)
def Qaz(h:i<n)(hc:c i=false):(Jz n).all c=false:=by
 rw[J0]
 exact⟨i,JC.2 h,by rw[hc]; decide⟩
def QDz(l:List E)(i:Nat)(h:i<l.length):(fz encE l)[i]?=some [.lit (.int .i64 (l.getD i E0).lsn),.lit (.int .i64 (l.getD i E0).kind),.lit (.int .i64 (l.getD i E0).tx),.lit (.int .i64 (l.getD i E0).ptx),.lit (.int .i64 (l.getD i E0).ppg),.lit (.int .i64 (l.getD i E0).ref),.lit (.int .i64 (l.getD i E0).c.pg),.lit (.int .i64 (l.getD i E0).c.sl),.lit (.bool (l.getD i E0).c.b.set),.str (l.getD i E0).c.b.data,.lit (.bool (l.getD i E0).c.a.set),.str (l.getD i E0).c.a.data,.str (l.getD i E0).blob]:=by rw[Qd l i h]; exact QgE encE l i h
structure Lg where
 f:Int
 es:List E
 d:Int
def Lg.c(x:Lg):List DV:=[.int .i64 x.f,.pv (.sl (fz encE x.es)),.int .i64 x.d]
attribute [local go_sem] Lg.c
def Lg0:Lg:=⟨0,[],0⟩
def Lg.hd(x:Lg):Prop:=1<=x.f/\x.f<=1099511627776/\x.es.length<=4096/\x.f-1<=x.d/\x.d<=x.f+x.es.length-1
instance (x:Lg):Decidable x.hd:=by unfold Lg.hd; infer_instance
def lgC(x:Lg)(i:Nat):Bool:=decide ((x.es.getD i E0).lsn=x.f+i)&&(x.es.getD i E0).okB
def lgB(x:Lg):Bool:=decide x.hd&&(Jz x.es.length).all (lgC x)
def Lg.end_(x:Lg):Int:=x.f+x.es.length-1
def Qan{x:Lg}(h:lgB x=true):x.hd:=by unfold lgB at h; simp at h; exact h.1
def QBW(x:Lg)(h1 : -1099511627776<=x.f/\x.f<=1099511627776)(h2:x.es.length<=1000000):VCalls prog 69 [.agg x.c] [] (Ret (.int .i64 x.end_)):=by
 refine dd Tryz.func69 ?_
 obtain⟨f,es,d⟩:=x
 dsimp only at h1 h2
 (unfold Tryz.f69; refine rn trivial ?_)
 (refine rn F ?_; try with_reducible exact⟨⟩)
 all_goals rfl
def QvQ(x:Lg)(hx:x.es.length<=9223372036854775807):VCalls prog 37 [.agg x.c] [] (Ret (.bool (lgB x))):=by
 refine dd Tryz.func37 ?_
 obtain⟨f,es,d⟩:=x
 dsimp only at hx
 have hr:=fun(i:Nat)=>QxQ (es.getD i E0)
 have c1:=QBW ⟨f,es,d⟩
 have hlg:∀ i,lgC ⟨f,es,d⟩ i=true ↔ (es.getD i E0).lsn=f+i/\(es.getD i E0).okB=true:=fun i=>by simp[lgC]
 have hB:lgB ⟨f,es,d⟩=(decide (Lg.hd ⟨f,es,d⟩)&&(Jz es.length).all (lgC ⟨f,es,d⟩)):=rfl
 have hH:Lg.hd ⟨f,es,d⟩=(1<=f/\f<=1099511627776/\es.length<=4096/\f-1<=d/\d<=f+es.length-1):=rfl
 have no:¬ Lg.hd ⟨f,es,d⟩->lgB ⟨f,es,d⟩=false:=fun h=>by rw[hB,decide_eq_false h]; rfl
 unfold Lg.c at c1 |-
 unfold Lg.end_ at c1
 unfold E.d at hr
 dsimp only at c1 |-
 generalize lgC ⟨f,es,d⟩=lc at *
 generalize lgB ⟨f,es,d⟩=b at *
 (unfold Tryz.f37; refine rn trivial ?_)
 refine rn F ?_
 repeat' (first
  | with_reducible exact⟨⟩
  | (refine sG F ?_ ?_<;>intro hZ)
  | (refine sB F ?_ ?_<;>intro hZ)
  | refine vp F (c1 (by omega) (by omega)) ?_
  | (refine Qc (id:=1) [0,1,2,3,4,5,6,7,8,9,10,11,12,13,14,15,16,17,18,19,20,21,22,23,24,25] [⟨[],[],26,[0,1,2,3,4,5,6,7,8,9,10,11,12,13,14,15,16,17,18,19,20,21,23,24],[27,28]⟩] (by kernel_rfl) (by kernel_rfl) ?_; refine rn F ?_))
 all_goals first | (rw[no (by rw[hH]; omega)]) | skip
 refine Qg (fun s:Okay es.length lc=>⟨55,0,[(37,.int .i64 s.i),(36,.int .i64 es.length),(35,.pv (.sl (fz encE es))),(1,.ptr 0 0)],[⟨34,true,[.int .i64 f,.pv (.sl (fz encE es)),.int .i64 d]⟩]⟩) (fun s=>es.length-s.i) (Okay.start _ _) (gc [0]) ?_
 intro s
 have hsi:=s.hi
 have hg:=fun h:s.i<es.length=>QDz es s.i h
 have F:=@hg
 refine rn F ?_
 repeat' (first
  | with_reducible exact⟨⟩
  | (refine sG F ?_ ?_<;>intro hZ)
  | (refine sB F ?_ ?_<;>intro hZ)
  | refine vp F (hr s.i) ?_)
 all_goals first
  | (rw[hB,Qaz (i:=s.i) (by omega) (JD.2 fun h=>by rw[hlg] at h; omega),JH])
  | (rw[hB,Qaz (i:=s.i) (by omega) (JD.2 fun h=>by rw[hlg] at h; exact absurd h.2 (by simp_all)),JH])
  | (rw[hB,s.all (by omega),decide_eq_true (by rw[hH]; omega)]; rfl)
  | (exact⟨s.next (by omega) ((hlg _).2 ⟨by omega,by assumption⟩),by show es.length-(s.i+1)<es.length-s.i; omega,(gc [0])⟩)
  | skip
end
section
attribute [local go_sem] QCU QDS QDg QDf QDB Qwz Tryz.underlying32
def QdU(x:Lg)(e:E):Lg×Int×Int:=if lgB x=false then (Lg0,0,26) else if x.es.length=4096\/1099511627776<x.end_+1 then (Lg0,0,21)
 else if ({ e with lsn:=x.end_+1 }:E).okB=false then (Lg0,0,12) else (⟨x.f,x.es++[{ e with lsn:=x.end_+1 }],x.d⟩,x.end_+1,0)
def QCY(r:Lg×Int×Int):DV:=.tup [.agg r.1.c,.int .i64 r.2.1,.int .i64 r.2.2]
end
section
attribute [local go_sem] QCU QDS QDg QDf QDB Qwz
def QG(x:Lg)(n:Int):Lg×Int:=if lgB x=false then (Lg0,26) else if x.end_<n then (Lg0,14) else (⟨x.f,x.es,if n > x.d then n else x.d⟩,0)
def Qxd(x:Lg)(n:Int):Lg×Int:=if lgB x=false then (Lg0,26) else if n<x.f\/x.end_+1<n\/1099511627776<n then (Lg0,1) else if x.d<n-1 then (Lg0,15) else (⟨n,x.es.drop (n-x.f).toNat,x.d⟩,0)
def lgD(r:Lg×Int):DV:=.tup [.agg r.1.c,.int .i64 r.2]
end
section
attribute [local go_sem] E.d Ch0 Ce0
def Qze(l:List UInt8):decide ((l.length:Int)<=8192)=decide (l.length<=8192):=by
 apply decide_eq_decide.2; omega
def E.shp(e:E):E:=
 if e.kind=1 then ⟨e.lsn,e.kind,e.tx,e.ptx,e.ppg,0,e.c,[]⟩
 else if e.kind=2 then ⟨e.lsn,e.kind,e.tx,e.ptx,e.ppg,e.ref,e.c,[]⟩
 else if e.kind=3\/e.kind=4\/e.kind=5 then ⟨e.lsn,e.kind,e.tx,e.ptx,0,0,Ch0,[]⟩
 else if e.kind=6\/e.kind=8 then ⟨e.lsn,e.kind,0,0,0,0,Ch0,e.blob⟩
 else if e.kind=7 then ⟨e.lsn,e.kind,0,0,0,e.ref,⟨e.c.pg,0,Ce0,Ce0⟩,[]⟩
 else ⟨e.lsn,e.kind,0,0,0,0,Ch0,[]⟩
def E.shok(e:E):Bool:=
 if e.kind=1 then e.c.okB&&decide (1<=e.tx)&&decide (e.tx<=1073741824)
 else if e.kind=2 then e.c.okB&&decide (0<e.ptx)&&decide (1<=e.ref)&&decide (e.ref<=e.ptx)&&decide (1<=e.tx)&&decide (e.tx<=1073741824)
 else if e.kind=3\/e.kind=4\/e.kind=5 then decide (1<=e.tx)&&decide (e.tx<=1073741824)&&decide (0<e.ptx)
 else if e.kind=6\/e.kind=8 then decide (e.blob.length<=8192)
 else if e.kind=7 then decide (0<=e.c.pg)&&decide (e.c.pg<64)
 else false
def shD(e:E):DV:=.tup [.agg e.shp.d,.bool e.shok]
theorem QBf(lsn kind tx ptx ppg ref:Int)(c:Ch)(blob:List UInt8):(⟨lsn,kind,tx,ptx,ppg,ref,c,blob⟩:E).shp =
 if kind=1 then ⟨lsn,kind,tx,ptx,ppg,0,c,[]⟩
 else if kind=2 then ⟨lsn,kind,tx,ptx,ppg,ref,c,[]⟩
 else if kind=3\/kind=4\/kind=5 then ⟨lsn,kind,tx,ptx,0,0,Ch0,[]⟩
 else if kind=6\/kind=8 then ⟨lsn,kind,0,0,0,0,Ch0,blob⟩
 else if kind=7 then ⟨lsn,kind,0,0,0,ref,⟨c.pg,0,Ce0,Ce0⟩,[]⟩
 else ⟨lsn,kind,0,0,0,0,Ch0,[]⟩:=rfl
theorem Qx8(lsn kind tx ptx ppg ref:Int)(c:Ch)(blob:List UInt8):(⟨lsn,kind,tx,ptx,ppg,ref,c,blob⟩:E).shok =
 if kind=1 then c.okB&&decide (1<=tx)&&decide (tx<=1073741824)
 else if kind=2 then c.okB&&decide (0<ptx)&&decide (1<=ref)&&decide (ref<=ptx)&&decide (1<=tx)&&decide (tx<=1073741824)
 else if kind=3\/kind=4\/kind=5 then decide (1<=tx)&&decide (tx<=1073741824)&&decide (0<ptx)
 else if kind=6\/kind=8 then decide (blob.length<=8192)
 else if kind=7 then decide (0<=c.pg)&&decide (c.pg<64)
 else false:=rfl
def Qya(e:E):VCalls prog 64 [.agg e.d] [] (Ret (shD e)):=by
 refine dd Tryz.func64 ?_
 unfold shD
 obtain⟨lsn,kind,tx,ptx,ppg,ref,c,blob⟩:=e
 have q1:=Qrv c
 dsimp only[Ch.d] at q1
 rw[QBf,Qx8]
 generalize c.okB=K at *
 rcases Qdt kind with hk | rfl | rfl | rfl | rfl | rfl | rfl | rfl | rfl
 ·rw [if_neg (by omega),if_neg (by omega),if_neg (by omega),if_neg (by omega),if_neg (by omega),if_neg (by omega),if_neg (by omega),if_neg (by omega),if_neg (by omega),if_neg (by omega)]
  have k1:(kind==1)=false:=by simp; omega
  have k2:(kind==2)=false:=by simp; omega
  have k3:(kind==3)=false:=by simp; omega
  have k4:(kind==4)=false:=by simp; omega
  have k5:(kind==5)=false:=by simp; omega
  have k6:(kind==6)=false:=by simp; omega
  have k7:(kind==7)=false:=by simp; omega
  have k8:(kind==8)=false:=by simp; omega
  (unfold Tryz.f64; refine rn (Ja @k1 (Ja @k2 (Ja @k3 (Ja @k4 (Ja @k5 (Ja @k6 (Ja @k7 @k8))))))) ?_; try with_reducible exact⟨⟩)
 all_goals
  (unfold Tryz.f64; refine rn trivial ?_)
  refine rn F ?_
  repeat' (first
   | with_reducible exact⟨⟩
   | (refine sG F ?_ ?_<;>intro hZ)
   | refine vp F (q1) ?_
   | (refine Qc (id:=5) [0,1,2,3,4,5,6,7,8] [⟨[],[],9,[2,3,4,5,6,7],[10]⟩,⟨[],[],11,[4,5,6,7],[12]⟩,⟨[],[],13,[6,7],[14]⟩,⟨[],[],15,[],[]⟩] (by kernel_rfl) (by kernel_rfl) ?_; refine rn F ?_)
   | (refine Qc (id:=10) [0,1,2,3,4,5,6,7,8,9,10,11] [⟨[],[],12,[1,2,3,4,5,6,8,9,10,11],[]⟩,⟨[],[],13,[],[]⟩] (by kernel_rfl) (by kernel_rfl) ?_; refine rn F ?_)
   | (refine Qc (id:=14) [0,1,2,3,4] [⟨[],[],5,[2,3],[6]⟩,⟨[],[],7,[],[]⟩] (by kernel_rfl) (by kernel_rfl) ?_; refine rn F ?_)
   | (refine Qc (id:=15) [0,1,2,3,4,5,6,7,8,9,10,11,12,13] [⟨[],[],14,[1,2,3,4,5,6,7,8,10,11,12,13],[]⟩,⟨[],[],15,[],[]⟩] (by kernel_rfl) (by kernel_rfl) ?_; refine rn F ?_)
   | (refine Qc (id:=19) [0,1,2,3,4] [⟨[],[],5,[1,2,3,4],[]⟩,⟨[],[],6,[],[]⟩] (by kernel_rfl) (by kernel_rfl) ?_; refine rn F ?_)
   | (refine Qc (id:=21) [0,1,2,3,4,5] [⟨[],[],6,[2,3,4],[7,8]⟩,⟨[],[],9,[7],[]⟩] (by kernel_rfl) (by kernel_rfl) ?_; refine rn F ?_)
   | (refine Qc (id:=22) [0,1,2,3,4,5,6,7,8,9,10] [⟨[],[],11,[1,2,3,4,6,7,8,9,10],[]⟩,⟨[],[],12,[],[]⟩] (by kernel_rfl) (by kernel_rfl) ?_; refine rn F ?_))
 all_goals first | rfl | (simp[Ch0,Ce0,Qze]; done)
def eqE(x y:E):Bool:=x.lsn==y.lsn&&(x.kind==y.kind&&(x.tx==y.tx&&(x.ptx==y.ptx&&(x.ppg==y.ppg&&(x.ref==y.ref&&(x.c.pg==y.c.pg&&(x.c.sl==y.c.sl&&(x.c.b.set==y.c.b.set&&(x.c.b.data==y.c.b.data&&(x.c.a.set==y.c.a.set&&(x.c.a.data==y.c.a.data&&x.blob==y.blob)))))))))))
def QCw(x y:E):Q5 x.d y.d [(0,1),(1,1),(2,1),(3,1),(4,1),(5,1),(6,1),(7,1),(8,0),(9,2),(10,0),(11,2),(12,2)]=some (eqE x y):=by
 simp[Q5,QbJ,E.d,eqE]
def E.okR(e:E):Bool:=e.shok&&eqE e.shp e&&decide (1<=e.lsn)&&decide (e.lsn<=1099511627776)&&bef e.ptx e.lsn&&bef e.ppg e.lsn&&bef e.ref e.lsn
def QqL(e:E):VCalls prog 31 [.agg e.d] [] (Ret (.bool e.okR)):=by
 refine dd Tryz.func31 ?_
 have hq:=QCw e.shp e
 have hs:=Qya e
 unfold shD at hs
 simp only[E.d] at hq hs
 have b1:=Qgo e.ptx e.lsn
 have b2:=Qgo e.ppg e.lsn
 have b3:=Qgo e.ref e.lsn
 have e1:e.okR=(e.shok&&eqE e.shp e&&decide (1<=e.lsn)&&decide (e.lsn<=1099511627776)&&bef e.ptx e.lsn&&bef e.ppg e.lsn&&bef e.ref e.lsn):=rfl
 generalize e.okR=R at *
 generalize bef e.ptx e.lsn=B1 at *
 generalize bef e.ppg e.lsn=B2 at *
 generalize bef e.ref e.lsn=B3 at *
 generalize e.shp=s at *
 generalize e.shok=ok at *
 generalize eqE s e=q at *
 (unfold Tryz.f31; refine rn trivial ?_)
 have F:=@hq
 refine rn F ?_
 repeat' (first
  | with_reducible exact⟨⟩
  | (refine sG F ?_ ?_<;>intro hZ)
  | refine vp F (hs) ?_
  | refine vp F (b1) ?_
  | refine vp F (b2) ?_
  | refine vp F (b3) ?_)
 all_goals (congr 3; rw[e1,Jo]; clear e1 b1 b2 b3 hs hq; simp; first | omega | grind)
def QBG(e:E):e.okR=e.okB:=by
 obtain⟨lsn,kind,tx,ptx,ppg,ref,⟨pg,sl,⟨b1,b2⟩,⟨a1,a2⟩⟩,blob⟩:=e
 rw[Jo]
 by_cases h:kind<1\/8<kind
 ·have e1:E.shok ⟨lsn,kind,tx,ptx,ppg,ref,⟨pg,sl,⟨b1,b2⟩,⟨a1,a2⟩⟩,blob⟩ = false:=by unfold E.shok; rw [if_neg (by dsimp only; omega),if_neg (by dsimp only; omega),if_neg (by dsimp only; omega),if_neg (by dsimp only; omega),if_neg (by dsimp only; omega)]
  have e2:E.kindB ⟨lsn,kind,tx,ptx,ppg,ref,⟨pg,sl,⟨b1,b2⟩,⟨a1,a2⟩⟩,blob⟩=false:=by unfold E.kindB; rw[if_neg (by dsimp only; omega),if_neg (by dsimp only; omega),if_neg (by dsimp only; omega),if_neg (by dsimp only; omega),if_neg (by dsimp only; omega)]
  simp[E.okR,E.okB,e1,e2]
 ·have hk:kind = 1\/kind = 2\/kind = 3\/kind = 4\/kind = 5\/kind = 6\/kind = 7\/kind = 8:=by omega
  rcases hk with hk | hk | hk | hk | hk | hk | hk | hk<;>subst hk
  all_goals
   simp only[E.okR,E.okB,E.shok,E.shp,E.kindB,eqE,bef,txB,Ch.no,Ce.no,Ch.ix,Ch0,Ce0,Jb,decide_eq_true_eq,beq_iff_eq,bne_iff_ne,Ji,reduceIte,Int.reduceEq,or_self,or_false,false_or,or_true,true_or]
   grind
def Qcr(e:E):VCalls prog 31 [.agg e.d] [] (Ret (.bool e.okB)):=by
 rw[<- QBG]; exact QqL e
end
section
structure Tx where
 id:Int
 st:Int
 n:Int
 b:Int
 l:List Int
 s:List Int
def Qaf:Enc Tx:=⟨6,fun t=>[.lit (.int .i64 t.id),.lit (.int .i64 t.st),.lit (.int .i64 t.n),.lit (.int .i64 t.b),.sl (fz QR t.l),.sl (fz QR t.s)],by decide,fun _=>rfl⟩
def Tx.d(t:Tx):List DV:=[.int .i64 t.id,.int .i64 t.st,.int .i64 t.n,.int .i64 t.b,.pv (.sl (fz QR t.l)),.pv (.sl (fz QR t.s))]
def QAq(l:List Int)(lo hi d:Int)(i:Nat):Bool:=decide (lo<=l.getD i 0)&&decide (l.getD i 0<=hi)&&(decide (i=0)||decide (l.getD (i-1) 0+d<=l.getD i 0))
def QnA(l:List Int)(lo hi d:Int):Bool:=(Jz l.length).all (QAq l lo hi d)
def Qdw(l:List Int)(lo hi d:Int)(i:Nat):QAq l lo hi d i=true ↔ lo<=l.getD i 0/\l.getD i 0<=hi/\(i=0\/l.getD (i-1) 0+d<=l.getD i 0):=by
 simp only[QAq,Jb,Jh,decide_eq_true_eq,and_assoc]
def Tx.sm(t:Tx):Prop:=t.l.length<=9223372036854775807/\t.s.length<=9223372036854775807
def Tx.hdB(t:Tx):Bool:=decide (1<=t.id)&&decide (t.id<=1073741824)&&decide (1<=t.st)&&decide (t.st<=3)&&decide (0<=t.n)&&decide (t.n<=1099511627776)&&(decide (t.b=0)||(decide (t.st=2)&&decide (0<t.b)&&decide (t.b<=t.n)))&&decide (t.l.length<=4096)&&decide (t.s.length<=8)
def Tx.okB(t:Tx):Bool:=t.hdB&&QnA t.l 1 t.n 1&&QnA t.s 0 t.n 0
def Tx0:Tx:=⟨0,0,0,0,[],[]⟩
def tC(l:List Tx)(i:Nat):Bool:=(l.getD i Tx0).okB&&(decide (i=0)||decide ((l.getD (i-1) Tx0).id<(l.getD i Tx0).id))
def QjN(l:List Tx)(i:Nat):tC l i=true ↔ (l.getD i Tx0).okB=true/\(i=0\/(l.getD (i-1) Tx0).id<(l.getD i Tx0).id):=by
 simp only[tC,Jb,Jh,decide_eq_true_eq]
def Qbm(l:List Tx):Bool:=decide (l.length<=64)&&(Jz l.length).all (tC l)
def smL(l:List Tx):Prop:=l.length<=1000000/\∀ t∈l,t.sm
def Qnn(l:List Tx)(i:Nat)(h:i<l.length):(fz Qaf l)[i]?=some [.lit (.int .i64 l[i].id),.lit (.int .i64 l[i].st),.lit (.int .i64 l[i].n),.lit (.int .i64 l[i].b),.sl (fz QR l[i].l),.sl (fz QR l[i].s)]:=QgE Qaf l i h
structure Pass{α:Type}(l:List α)(p:α->Prop) where
 i:Nat
 hi:i<=l.length
 no:∀ x∈l.take i,¬ p x
def Pass.start{α:Type}(l:List α)(p:α->Prop):Pass l p:=⟨0,Jy _,by simp⟩
def Pass.next{α:Type}{l:List α}{p:α->Prop}(s:Pass l p)(h:s.i<l.length)(hp:¬ p l[s.i]):Pass l p :=
 ⟨s.i + 1,h,fun x hx=>by
  rw[Jt h,List.mem_append] at hx
  rcases hx with hx | hx
  ·exact s.no x hx
  ·simp at hx; subst hx; exact hp⟩
def Pass.all(s:Pass l p)(h:¬ s.i<l.length):∀ x∈l,¬ p x:=by
 have:=s.no
 rwa [Jk (by omega)] at this
def Qk9{α:Type}(l:List α)(p:α->Bool):Int:=if l.any p=true then (l.findIdx p:Int) else -1
def Qsu(l:List α)(p:α->Bool)(i:Nat)(h:i<l.length)(hx:p l[i]=true)(no:∀ x∈l.take i,¬ p x=true):Qk9 l p=i:=by
 rw[Qk9,if_pos (JS.2 ⟨l[i],J1 h,hx⟩)]
 congr 1
 rw[List.findIdx_eq h]
 refine⟨hx,fun j hj=>?_⟩
 have:=no l[j] (JY.2 ⟨j,by omega,rfl⟩)
 simpa using this
def Qst(l:List α)(p:α->Bool):(Qk9 l p=-1/\l.find? p=none)\/∃ i,∃ h:i<l.length,Qk9 l p=i/\l.find? p=some l[i]:=by
 by_cases ha:l.any p=true
 ·obtain ⟨x,hm,hp⟩:=JS.1 ha
  have hlt:=JO ⟨x,hm,hp⟩
  refine .inr ⟨l.findIdx p,hlt,by rw[Qk9,if_pos ha],?_⟩
  rw[JP]
  refine⟨J9 (w:=hlt),_,hlt,rfl,fun j hj=>?_⟩
  have:=List.not_of_lt_findIdx hj
  simpa using this
 ·refine .inl ⟨by rw [Qk9,if_neg ha],?_⟩
  rw[Kd]
  intro x hx hp
  exact ha (JS.2 ⟨x,hx,hp⟩)
def lo{α:Type}(l:List α)(f:α->Bool):Nat:=(l.takeWhile f).length
def QE3{α:Type}(l:List α)(f:α->Bool):Prop:=∀ i j:Nat,∀ hi:i<l.length,∀ hj:j<l.length,i<j->f l[j]=true->f l[i]=true
def QDp(l:List α)(f:α->Bool):lo l f<=l.length:=(List.takeWhile_sublist _).length_le
def QBN (l:List α) (f:α->Bool) (i:Nat) (hi:i<=l.length) (h1:∀ k,∀ hk:k < l.length,k < i->f l[k] = true) (h2:∀ hi:i < l.length,f l[i] = false):lo l f = i:=by
 unfold lo
 induction l generalizing i with
 | nil=>simp at hi; subst hi; rfl
 | cons a r ih =>
   cases i with
   | zero =>
     have:=h2 (by simp)
     simp only[J3] at this
     rw[Kb,this]; rfl
   | succ i =>
     have h0:=h1 0 (by simp) (by omega)
     simp only[J3] at h0
     rw[Kb,h0]
     simp only[if_true,Jn]
     rw[ih i (by simpa using hi) (fun k hk hki=>h1 (k+1) (by simpa using hk) (by omega)) (fun hi=>h2 (by simpa using hi))]
structure BS{α:Type}(l:List α)(f:α->Bool) where
 i:Nat
 j:Nat
 hij:i<=j
 hj:j<=l.length
 h1:∀ k,∀ hk:k<l.length,k<i->f l[k]=true
 h2:∀ hj:j<l.length,f l[j]=false
def BS.start{α:Type}(l:List α)(f:α->Bool):BS l f:=⟨0,l.length,Jy _,JT _,fun k hk h=>by omega,fun h=>by omega⟩
def BS.up{α:Type}{l:List α}{f:α->Bool}(s:BS l f)(hf:QE3 l f)(h:Nat)(h1:s.i<=h)(h2:h<s.j)(hx:f (l[h]'(JG h2 s.hj))=true):BS l f :=
 ⟨h + 1,s.j,h2,s.hj,fun k hk hki=>by
  rcases JW k h with hlt | hge
  ·exact hf k h hk (JG h2 s.hj) hlt hx
  ·obtain rfl:k = h:=by omega
   exact hx,s.h2⟩
def BS.down{α:Type}{l:List α}{f:α->Bool}(s:BS l f)(h:Nat)(h1:s.i<=h)(h2:h<s.j)(hx:f (l[h]'(JG h2 s.hj))=false):BS l f:=
 ⟨s.i,h,h1,Nat.le_of_lt (JG h2 s.hj),s.h1,fun _=>hx⟩
def BS.fin(s:BS l f)(h:¬ s.i<s.j):lo l f=s.i:=by
 have e:s.i=s.j:=by have:=s.hij; omega
 exact QBN l f s.i (by have:=s.hj; omega) s.h1 (fun hi=>by
  have:=s.h2 (e▸hi)
  simpa only[e] using this)
def QoB(l:List Tx)(i:Nat)(h:i<l.length):(fz Qaf l)[i]?=some [.lit (.int .i64 (l.getD i Tx0).id),.lit (.int .i64 (l.getD i Tx0).st),.lit (.int .i64 (l.getD i Tx0).n),.lit (.int .i64 (l.getD i Tx0).b),.sl (fz QR (l.getD i Tx0).l),.sl (fz QR (l.getD i Tx0).s)]:=by rw[Qd l i h]; exact Qnn l i h
attribute [local go_sem] Tx.d Qkp Je Jq JF JL Qb4 Qbt
def QuS(t:Tx)(hs:t.sm):VCalls prog 214 [.agg t.d] [] (Ret (.bool t.okB)):=by
 refine dd Tryz.func214 ?_
 obtain⟨id,st,n,b,l,s⟩:=t
 obtain⟨hs1,hs2⟩:=hs
 dsimp only at hs1 hs2
 have e:(⟨id,st,n,b,l,s⟩:Tx).okB=((⟨id,st,n,b,l,s⟩:Tx).hdB&&QnA l 1 n 1&&QnA s 0 n 0):=rfl
 have eh:(⟨id,st,n,b,l,s⟩:Tx).hdB=(decide (1<=id)&&decide (id<=1073741824)&&decide (1<=st)&&decide (st<=3)&&decide (0<=n)&&decide (n<=1099511627776)&&(decide (b=0)||(decide (st=2)&&decide (0<b)&&decide (b<=n)))&&decide (l.length<=4096)&&decide (s.length<=8)):=rfl
 generalize (⟨id,st,n,b,l,s⟩:Tx).hdB=H at *
 generalize (⟨id,st,n,b,l,s⟩:Tx).okB=K at *
 unfold Tx.d
 (unfold Tryz.f214; refine rn trivial ?_)
 refine rn F ?_
 repeat' (first
  | with_reducible exact⟨⟩
  | (refine sG F ?_ ?_<;>intro hZ)
  | (refine sB F ?_ ?_<;>intro hZ))
 all_goals first
  | (rw[e,JD.2 (show ¬ H=true from fun h=>by rw[eh] at h; simp only[Jb,Jh,decide_eq_true_eq] at h; omega)]; rfl)
  | skip
 all_goals
  have hh:H=true:=by rw[eh]; simp only[Jb,Jh,decide_eq_true_eq]; omega
  refine Qg (fun q:Okay l.length (QAq l 1 n 1)=>⟨147,0,[(3,.int .i64 q.i),(1,.ptr 0 0)],[⟨71,true,[.int .i64 id,.int .i64 st,.int .i64 n,.int .i64 b,.pv (.sl (fz QR l)),.pv (.sl (fz QR s))]⟩]⟩) (fun q=>l.length-q.i) (Okay.start _ _) (by exact(gc [0])) ?_
  intro q
  have hqi:=q.hi
  have hg:=fun h:q.i<l.length=>Q0 l q.i h
  have hgp:0<(q.i:Int)->(q.i:Int)<l.length->(fz QR l)[q.i-1]?=some [.lit (.int .i64 (l.getD (q.i-1) 0))]:=fun h h2=>by
   exact Q0 l (q.i-1) (by omega)
  have F:=(Ja @hg @hgp)
  refine rn F ?_
  repeat' (first
   | with_reducible exact⟨⟩
   | (refine sG F ?_ ?_<;>intro hZ)
   | (refine sB F ?_ ?_<;>intro hZ)
   | (refine Qc (id:=8) [0,1,2,3,4,5,6,7,8,9,10,11,12,13,14,15,16,17,18,19,20,21,22,23,24,25,26,27,28,29,30,31,32,33] [] (by kernel_rfl) (by kernel_rfl) ?_; refine rn F ?_))
  all_goals first
   | (rw[e,QnA,QnA,Qaz (n:=l.length) (c:=QAq l 1 n 1) (i:=q.i) (by omega) (JD.2 fun h=>by rw[Qdw] at h; omega)]; simp)
   | (exact⟨q.next (by omega) ((Qdw _ _ _ _ _).2 (by omega)),by show l.length-(q.i+1)<l.length-q.i; omega,(gc [0])⟩)
   | skip
  have hL:QnA l 1 n 1=true:=q.all (by omega)
  clear hg hgp hqi
  refine Qg (fun q:Okay s.length (QAq s 0 n 0)=>⟨147,0,[(4,.int .i64 q.i),(1,.ptr 0 0)],[⟨71,true,[.int .i64 id,.int .i64 st,.int .i64 n,.int .i64 b,.pv (.sl (fz QR l)),.pv (.sl (fz QR s))]⟩]⟩) (fun q=>s.length-q.i) (Okay.start _ _) (by exact(gc [0])) ?_
  intro q
  have hqi:=q.hi
  have hg:=fun h:q.i<s.length=>Q0 s q.i h
  have hgp:0<(q.i:Int)->(q.i:Int)<s.length->(fz QR s)[q.i-1]?=some [.lit (.int .i64 (s.getD (q.i-1) 0))]:=fun h h2=>by
   exact Q0 s (q.i-1) (by omega)
  have F:=(Ja @hg @hgp)
  refine rn F ?_
  repeat' (first
   | with_reducible exact⟨⟩
   | (refine sG F ?_ ?_<;>intro hZ)
   | (refine sB F ?_ ?_<;>intro hZ)
   | (refine Qc (id:=13) [0,1,2,3,4,5,6,7,8,9,10,11,12,13,14,15,16,17,18,19,20,21,22,23,24,25,26,27,28,29,30,31,32,33] [] (by kernel_rfl) (by kernel_rfl) ?_; refine rn F ?_))
  all_goals first
   | (rw[e,QnA,QnA,Qaz (n:=s.length) (c:=QAq s 0 n 0) (i:=q.i) (by omega) (JD.2 fun h=>by rw[Qdw] at h; omega)]; simp)
   | (exact⟨q.next (by omega) ((Qdw _ _ _ _ _).2 (by omega)),by show s.length-(q.i+1)<s.length-q.i; omega,(gc [0])⟩)
   | skip
  rw[e,hh,hL,show QnA s 0 n 0=true from q.all (by omega)]
  rfl
def QbD(l:List Tx)(hl:smL l):VCalls prog 167 [.pv (.sl (fz Qaf l))] [] (Ret (.bool (Qbm l))):=by
 refine dd Tryz.func167 ?_
 obtain⟨hl,hm⟩:=hl
 have hr:=fun(i:Nat) (h:i<l.length)=>QuS (l.getD i Tx0) (by rw[Qd l i h]; exact hm _ (J1 h))
 unfold Tx.d at hr
 (unfold Tryz.f167; refine rn trivial ?_)
 refine rn F ?_
 repeat' (first
  | with_reducible exact⟨⟩
  | (refine sB F ?_ ?_<;>intro hZ))
 ·rw[Qbm,decide_eq_false (by omega)]; rfl
 refine Qg (fun s:Okay l.length (tC l)=>⟨37,0,[(3,.int .i64 s.i),(0,.pv (.sl (fz Qaf l)))],[]⟩) (fun s=>l.length-s.i) (Okay.start _ _) (gc []) ?_
 intro s
 have hsi:=s.hi
 have hg:=fun h:s.i<l.length=>QoB l s.i h
 have hgp:0<(s.i:Int)->(s.i:Int)<l.length->(fz Qaf l)[s.i-1]?=some [.lit (.int .i64 (l.getD (s.i-1) Tx0).id),.lit (.int .i64 (l.getD (s.i-1) Tx0).st),.lit (.int .i64 (l.getD (s.i-1) Tx0).n),.lit (.int .i64 (l.getD (s.i-1) Tx0).b),.sl (fz QR (l.getD (s.i-1) Tx0).l),.sl (fz QR (l.getD (s.i-1) Tx0).s)]:=fun h h2=>by
  exact QoB l (s.i-1) (by omega)
 have F:=(Ja @hg @hgp)
 refine rn F ?_
 repeat' (first
  | with_reducible exact⟨⟩
  | (refine sG F ?_ ?_<;>intro hZ)
  | (refine sB F ?_ ?_<;>intro hZ)
  | refine vp F (hr s.i (by omega)) ?_
  | (refine Qc (id:=6) [0,1,2,3] [⟨[],[],4,[0,1,2],[5,6,7,8,9,10,11,12,13,14,15,16,17,18,19,20,21,22,23]⟩] (by kernel_rfl) (by kernel_rfl) ?_; refine rn F ?_))
 all_goals first
  | (rw[Qbm,Qaz (i:=s.i) (by omega) (JD.2 fun h=>by rw[QjN] at h; omega),JH])
  | (rw[Qbm,Qaz (i:=s.i) (by omega) (JD.2 fun h=>by rw[QjN] at h; first | exact absurd h.1 (by assumption) | (have h1:=h.1; simp_all)),JH])
  | (rw[Qbm,s.all (by omega),decide_eq_true (by omega)]; rfl)
  | (exact⟨s.next (by omega) ((QjN _ _).2 ⟨by assumption,by omega⟩),by show l.length-(s.i+1)<l.length-s.i; omega,(gc [])⟩)
  | skip
def Qdy{α:Type}(l:List α)(p:α->Bool):List α:=l.filter fun x=>!p x
structure DF{α:Type}(l:List α)(p:α->Bool) where
 j:Nat
 hj:j<=l.length
 cur:List α
 hl:cur.length=l.length
 h1:cur.take (Qdy (l.take j) p).length=Qdy (l.take j) p
 h2:cur.drop j=l.drop j
 h3:(Qdy (l.take j) p).length<j
def DF.i{α:Type}{l:List α}{p:α->Bool}(s:DF l p):Nat:=(Qdy (l.take s.j) p).length
def QbK(l:List α)(p:α->Bool)(j:Nat)(h:j<l.length):Qdy (l.take (j+1)) p=Qdy (l.take j) p++(if p l[j]=true then [] else [l[j]]):=by
 rw[Jt h,Qdy,Ke]
 cases hp:p l[j]<;>simp[Qdy,hp]
def Qou(l:List α)(p:α->Bool)(h:∀ x∈l,¬ p x=true):Qdy l p=l:=by
 rw[Qdy,List.filter_eq_self]; intro x hx; simpa using h x hx
def DF.start{α:Type}(l:List α)(p:α->Bool)(i:Nat)(h:i<l.length)(hp:p l[i]=true)(no:∀ x∈l.take i,¬ p x=true):DF l p:=
 have e:Qdy (l.take (i+1)) p=l.take i:=by rw[QbK l p i h,if_pos hp,JM,Qou _ p no]
 have el:(l.take i).length=i:=by rw[Jq]; omega
 ⟨i+1,h,l,rfl,by rw[e,el],rfl,by rw[e,el]; omega⟩
def DF.get{α:Type}{l:List α}{p:α->Bool}(s:DF l p)(h:s.j<l.length)(d:α):s.cur.getD s.j d=l[s.j]:=by
 have:=congrArg (fun x=>x[0]?) s.h2
 simp only[List.getElem?_drop,Nat.add_zero] at this
 rw[Jf,this,Jv h]; rfl
def DF.out{α:Type}{l:List α}{p:α->Bool}(s:DF l p)(h:s.j<l.length)(hp:p l[s.j]=true):DF l p :=
 have e:Qdy (l.take (s.j+1)) p=Qdy (l.take s.j) p:=by rw[QbK l p s.j h,if_pos hp,JM]
 ⟨s.j + 1,h,s.cur,s.hl,by rw [e]; exact s.h1,by
  have:=congrArg (List.drop 1) s.h2
  rwa [Kt,Kt] at this,by rw[e]; have:=s.h3; omega⟩
def QvP(l:List α)(p:α->Bool):(Qdy l p).length<=l.length:=JQ _ _
def Qzd(l:List Tx):(cells Qaf l).length=l.length*6:=QZ Qaf l
def QAN(l:List Tx)(n:Nat)(h:l.length*6<=n):(cells Qaf l).take n=cells Qaf l:=by rw[Jk]; rw[Qzd]; exact h
def QBd(l:List Tx)(T:TypeId)(a b:Nat)(h:a<=b/\b<=l.length):QnK (some (none,T,6)) (fz Qaf l) a b=some (.pv (.sl (fz Qaf ((l.take b).drop a)))):=QfT Qaf l T a b h
def QBc(l:List Tx):(fz Qaf l=[]\/(fz Qaf l)[0]?.map JJ=some 6)=True:=Qfc Qaf l
def QsG(h:l.length=len):Qmc n hp 0 6 len (some (cells Qaf l))=some (.sl (fz Qaf l)):=QW Qaf h
def QC1(l:List Tx):DV.wk.go (cells Qaf l)=cells Qaf l:=QaM Qaf l fun a p hp=>by
 simp[Qaf] at hp; rcases hp with rfl | rfl | rfl | rfl | rfl | rfl<;>rfl
def QAJ(r:List Tx×Int):DV:=.tup [.pv (.sl (fz Qaf r.1)),.int .i64 r.2]
def idT(l:List Tx)(a:Int):Int:=Qk9 l fun t=>t.id==a
def QyP(l:List Tx)(a:Int):Nat:=lo l fun t=>decide (t.id<a)
def QAM(l:List Tx)(t:Tx):List Tx:=l.take (QyP l t.id)++t::l.drop (QyP l t.id)
def Q9(l:List Tx)(a:Int):List Tx×Int:=
 if Qbm l=false then ([],15) else if a<1\/1073741824<a then ([],1) else if 0<=idT l a then ([],25) else if l.length=64 then ([],21) else (QAM l ⟨a,1,0,0,[],[]⟩,0)
def Qd3{l:List Tx}(h:Qbm l=true):l.length<=64:=by
 simp[Qbm] at h; exact h.1
def QdH(h:Qbm l=true):(l.map (·.id)).Pairwise (·<·):=by
 simp only[Qbm,Jb,JE,JC] at h
 obtain⟨_,h⟩:=h
 rw[JZ]
 have step:∀ i,∀ h2:i+1<l.length,l[i].id<l[i+1].id:=fun i h2=>by
  have:=((QjN l (i+1)).1 (h (i+1) h2)).2
  rw[Qd l (i+1) h2,JX,Qd l i (by omega)] at this
  omega
 have all:∀ d i,∀ h2:i+d+1<l.length,l[i].id<l[i+d+1].id:=fun d=>by
  induction d with
  | zero=>exact step
  | succ d ih=>intro i h2; exact Kx (ih i (by omega)) (step (i+d+1) h2)
 intro i j hi hj hij
 rw[J2,J2]
 have:=all (j-i-1) i (by rw[List.length_map] at hj; omega)
 simpa only[show i+(j-i-1)+1=j by omega] using this
def Qje(l:List Tx)(a:Int):List Tx:=Qdy l fun t=>t.id==a
def Qgz(t:Tx)(a:Int):Bool:=decide (0<t.l.length)&&decide (a<t.l.getD (t.l.length-1) 0)
def QDv(l:List Int)(h:0<l.length):(fz QR l)[((l.length:Int)-1).toNat]?=some [.lit (.int .i64 (l.getD (l.length-1) 0))]:=by
 rw[show((l.length:Int)-1).toNat=l.length-1 by omega]; exact Q0 l (l.length-1) (by omega)
def QB(l:List Tx)(a:Int):idT l a=-1\/∃ i,∃ h:i<l.length,idT l a=i/\l[i].id=a:=by
 unfold idT Qk9
 split
 ·rename_i h
  obtain⟨x,hm,hp⟩:=JS.1 h
  have hlt:=JO (p:=fun t:Tx=>t.id==a) ⟨x,hm,hp⟩
  have:=J9 (w:=hlt)
  exact .inr ⟨_,hlt,rfl,by simpa using this⟩
 ·exact .inl rfl
def Qp(l:List Tx)(a:Int):Tx×Int:=
 if Qbm l=false then (Tx0,15) else if idT l a<0 then (Tx0,16) else if (l.getD (idT l a).toNat Tx0).st≠1 then (Tx0,15) else (l.getD (idT l a).toNat Tx0,0)
def Qby{l:List Tx}{a:Int}(h:(Qp l a).2=0):Qbm l=true/\∃ i,∃ hi:i<l.length,idT l a=i/\l[i].id=a/\(Qp l a).1=l[i]:=by
 unfold Qp at h |-
 split at h
 ·simp at h
 rename_i h1
 split at h
 ·simp at h
 rename_i h2
 split at h
 ·simp at h
 rename_i h3
 refine⟨by simpa using h1,?_⟩
 rcases QB l a with h4 | ⟨i,hi,h4,h5⟩
 ·omega
 ·rw [if_neg h1,if_neg h2,if_neg h3]
  exact⟨i,hi,h4,h5,by rw[h4,Jw,Qd l i hi]⟩
def QkZ(l:List Int)(x:Int):cells QR l++[.pv (.lit (.int .i64 x))]=cells QR (l++[x]):=by rw[QC]; rfl
def Qsa(l:List Int):(cells QR l).length=l.length*1:=QZ QR l
def QtB(l:List Int)(n:Nat)(h:l.length*1<=n):(cells QR l).take n=cells QR l:=by rw[Jk]; rw[Qsa]; exact h
def Qqz(l:List Int)(T:TypeId)(a b:Nat)(h:a<=b/\b<=l.length):QnK (some (none,T,1)) (fz QR l) a b=some (.pv (.sl (fz QR ((l.take b).drop a)))):=QfT QR l T a b h
def Qqw(l:List Int):(fz QR l=[]\/(fz QR l)[0]?.map JJ=some 1)=True:=Qfc QR l
def Qbg(h:Qbm l=true)(hi:i<l.length):l[i].okB=true:=by
 simp only[Qbm,Jb,JE,JC,decide_eq_true_eq] at h
 have:=((QjN l i).1 (h.2 i hi)).1
 rwa [Qd l i hi] at this
def Qha(l:List Tx)(a:Int):List Tx×Int:=
 if (Qp l a).2≠0 then ([],(Qp l a).2) else if (Qp l a).1.s.length=8 then ([],21) else (l.set (idT l a).toNat { (Qp l a).1 with s:=(Qp l a).1.s++[(Qp l a).1.n] },0)
def Qhp(l:List Tx)(a sv:Int):List Tx×Int:=
 if (Qp l a).2≠0 then ([],(Qp l a).2)
 else if sv<0\/((Qp l a).1.s.length:Int)<=sv then ([],19)
 else if Qgz (Qp l a).1 ((Qp l a).1.s.getD sv.toNat 0)=true then (l.set (idT l a).toNat { (Qp l a).1 with s:=(Qp l a).1.s.take (sv.toNat+1),st:=2,b:=(Qp l a).1.s.getD sv.toNat 0 },0)
 else (l.set (idT l a).toNat { (Qp l a).1 with s:=(Qp l a).1.s.take (sv.toNat+1) },0)
def QkY{lo hi:Int}(h:QnA l lo hi 1=true):l.Pairwise (·<·):=by
 simp only[QnA,JE,JC] at h
 rw[JZ]
 have step:∀ i,∀ h2:i+1<l.length,l[i]<l[i+1]:=fun i h2=>by
  have:=(Qdw _ _ _ _ _).1 (h (i+1) h2)
  rw[Qd l (i+1) h2,JX,Qd l i (by omega)] at this
  omega
 have all:∀ d i,∀ h2:i+d+1<l.length,l[i]<l[i+d+1]:=fun d=>by
  induction d with
  | zero=>exact step
  | succ d ih=>intro i h2; exact Kx (ih i (by omega)) (step (i+d+1) h2)
 intro i j hi hj hij
 have:=all (j-i-1) i (by omega)
 simpa only[show i+(j-i-1)+1=j by omega] using this
def QrV{t:Tx}(h:t.okB=true):t.l.Pairwise (·<·):=by
 simp only[Tx.okB,Jb] at h
 exact QkY h.1.2
def QdN{t:Tx}(h:t.okB=true):t.l.length<=4096/\t.s.length<=8:=by
 simp only[Tx.okB,Tx.hdB,Jb,decide_eq_true_eq] at h
 omega
def QE(t:Tx):Tx:=if t.st=2/\Qgz t t.b=false then { t with st:=1,b:=0 } else t
def Qcc(t:Tx)(e:E):Tx:=
 if e.kind=1 then { t with n:=e.lsn,l:=t.l++[e.lsn] }
 else if e.kind=2 then { t with n:=e.lsn,l:=t.l.filter fun x=>decide (x≠e.ref) }
 else { t with n:=e.lsn,st:=3,b:=0,s:=[] }
def Qkn(l:List Tx)(i:Nat)(t:Tx)(e:E):List Tx×Int:=
 if e.ptx≠t.n\/(e.kind=2/\e.ref ∉ t.l) then ([],13)
 else if e.kind=3\/e.kind=5 then (Qje l e.tx,0)
 else (l.set i (QE (Qcc t e)),0)
def QT(l:List Tx)(e:E):List Tx×Int:=
 if Qbm l=false then ([],15) else if e.okB=false then ([],12) else if e.tx=0 then (l,0) else if idT l e.tx<0 then ([],16)
 else Qkn l (idT l e.tx).toNat (l.getD (idT l e.tx).toNat Tx0) e
def Qeg{e:E}(h:e.okB=true)(ht:e.tx≠0):e.kind=1\/e.kind=2\/e.kind=3\/e.kind=4\/e.kind=5:=by
 obtain⟨lsn,kind,tx,ptx,ppg,ref,c,blob⟩:=e
 simp only[E.okB,Jb] at h
 have h:=h.2
 rw[Qnh] at h
 dsimp only at ht |-
 rcases Qdt kind with hk | rfl | rfl | rfl | rfl | rfl | rfl | rfl | rfl
 ·rw[if_neg (by omega),if_neg (by omega),if_neg (by omega),if_neg (by omega),if_neg (by omega)] at h; cases h
 all_goals first | omega | (simp at h; omega)
def QvA{l:List Tx}{e:E}(h1:Qbm l=true)(h2:e.okB=true)(h3:e.tx≠0){i:Nat}(hi:i<l.length)(h4:idT l e.tx=i):QT l e=Qkn l i l[i] e:=by
 unfold QT
 rw[if_neg (by rw[h1]; decide),if_neg (by rw[h2]; decide),if_neg h3,h4,if_neg (by omega),Jw,Qd l i hi]
def w0:List Tx:=[⟨1,1,0,0,[],[]⟩]
def w1:List Tx:=[⟨1,1,1,0,[1],[]⟩]
def w2:List Tx:=[⟨1,1,1,0,[1],[1]⟩]
def w3:List Tx:=[⟨1,1,2,0,[1,2],[1]⟩]
def w4:List Tx:=[⟨1,1,3,0,[1,2,3],[1]⟩]
def w5:List Tx:=[⟨1,2,3,1,[1,2,3],[1]⟩]
end
section
attribute [local go_sem] Tx.d Qzd QAN QBd QBc QsG Qsa QtB Qqz Qqw Qkp Je Jq JF JL Qb4 Qbt
def QfC(l:List Tx)(hl:l.length<=1000000)(a:Int):VCalls prog 168 [.pv (.sl (fz Qaf l)),.int .i64 a] [] (Ret (.int .i64 (idT l a))):=by
 refine dd Tryz.func168 ?_
 (unfold Tryz.f168; refine rn trivial ?_)
 refine Qg (fun i:Pass l (fun x=>(x.id==a)=true)=>⟨20,0,[(5,.int .i64 i.i),(0,.pv (.sl (fz Qaf l))),(1,.int .i64 a)],[]⟩) (fun i=>l.length-i.i) (Pass.start l _) (gc []) ?_
 intro i
 have hi:=i.hi
 have hg:=fun h:i.i<l.length=>QoB l i.i h
 have F:=@hg
 refine rn F ?_
 repeat' (first
  | with_reducible exact⟨⟩
  | (refine sB F ?_ ?_<;>intro hZ))
 ·have:=Qsu l (fun x=>x.id == a) i.i (by omega) (by rw [<- Qd l i.i (by omega) Tx0]; simpa using (by assumption:(l.getD i.i Tx0).id = a)) i.no
  rw[idT,this]
 ·exact⟨i.next (by omega) (by rw[<- Qd l i.i (by omega) Tx0]; simpa using(by assumption:¬ (l.getD i.i Tx0).id=a)),by show l.length-(i.i+1)<l.length-i.i; omega,(gc [])⟩
 ·have:=i.all (by omega)
  rw[idT,Qk9,if_neg (by simpa using this)]
def QbX(l:List Tx)(hl:l.length<=1000000)(a:Int):VCalls prog 189 [.pv (.sl (fz Qaf l)),.int .i64 a] [] (Ret (.int .i64 (idT l a))):=by
 refine dd Tryz.func189 ?_
 have h:=QfC l hl a
 (unfold Tryz.f189; refine rn trivial ?_)
 refine rn F ?_
 repeat' (first
  | with_reducible exact⟨⟩
  | refine vp F (h) ?_)
def QqV(l:List Tx)(hl:l.length<=1000000)(i:Nat)(hi:i<l.length)(t:Tx):VCalls prog 234 [.pv (.sl (fz Qaf l)),.int .i64 i,.agg t.d] [] (Ret (.pv (.sl (fz Qaf (l.set i t))))):=by
 refine dd Tryz.func234 ?_
 have hb:i*6+6<=l.length*6:=by omega
 have hse:(cells Qaf l).take (i*6)++[.pv (.lit (.int .i64 t.id)),.pv (.lit (.int .i64 t.st)),.pv (.lit (.int .i64 t.n)),.pv (.lit (.int .i64 t.b)),.pv (.sl (fz QR t.l)),.pv (.sl (fz QR t.s))]++(cells Qaf l).drop (i*6+6)=cells Qaf (l.set i t):=QqD Qaf l i t hi
 have hle:(l.set i t).length=l.length:=J6
 (unfold Tryz.f234; refine rn trivial ?_)
 have F:=(Ja @hb (Ja @hse @hle))
 (refine rn F ?_; try with_reducible exact⟨⟩)
def Qd6(t:Tx)(hs:t.sm):VCalls prog 235 [.agg t.d] [] (Ret (.agg (QE t).d)):=by
 refine dd Tryz.func235 ?_
 have hg:=fun h:0<t.l.length=>QDv t.l h
 simp only[Qbt] at hg
 obtain⟨id,st,n,b,l,s⟩:=t
 obtain⟨h1,h2⟩:=hs
 dsimp only at h1 h2 hg
 have eS:QE ⟨id,st,n,b,l,s⟩=if st=2/\Qgz ⟨id,st,n,b,l,s⟩ b=false then ⟨id,1,n,0,l,s⟩ else ⟨id,st,n,b,l,s⟩:=rfl
 have eL:Qgz ⟨id,st,n,b,l,s⟩ b=(decide (0<l.length)&&decide (b<l.getD (l.length-1) 0)):=rfl
 generalize QE ⟨id,st,n,b,l,s⟩=u at *
 generalize Qgz ⟨id,st,n,b,l,s⟩ b=B at *
 (unfold Tryz.f235; refine rn trivial ?_)
 have F:=@hg
 refine rn F ?_
 repeat' (first
  | with_reducible exact⟨⟩
  | (refine sG F ?_ ?_<;>intro hZ)
  | (refine sB F ?_ ?_<;>intro hZ)
  | (refine Qc (id:=1) [0,1,2,3,4,5,6,7,8,9,10,11,12,13,14,15,16,17,18,19,20,21] [] (by kernel_rfl) (by kernel_rfl) ?_; refine rn F ?_))
 all_goals first
  | (rw[eS,if_pos ⟨by assumption,by rw[eL,decide_eq_false (show ¬ b<l.getD (l.length-1) 0 by omega),JH]⟩])
  | (rw[eS,if_pos ⟨by assumption,by rw[eL,decide_eq_false (show ¬ 0<l.length by omega),Bool.false_and]⟩])
  | (rw[eS,if_neg (by rintro⟨h,_⟩; omega)])
  | (rw[eS,if_neg (by rintro⟨_,h⟩; rw[eL,decide_eq_true (show b<l.getD (l.length-1) 0 by omega),decide_eq_true (show 0<l.length by omega)] at h; cases h)])
def Qfx(l:List Tx)(t:Tx):cells Qaf l++[.pv (.lit (.int .i64 t.id)),.pv (.lit (.int .i64 t.st)),.pv (.lit (.int .i64 t.n)),.pv (.lit (.int .i64 t.b)),.pv (.sl (fz QR t.l)),.pv (.sl (fz QR t.s))]=cells Qaf (l++[t]):=by rw[QC]; rfl
def Qrj(l:List Tx)(a:Int):(Qje l a).length<=l.length:=QvP _ _
def Qri(l:List Tx)(a:Int)(i:Nat)(h:i<l.length):Qje (l.take (i+1)) a=if (l.getD i Tx0).id=a then Qje (l.take i) a else Qje (l.take i) a++[l.getD i Tx0]:=by
 rw[Qd l i h]
 unfold Qje
 rw[QbK l _ i h]
 by_cases hx:l[i].id=a<;>simp[hx]
def Qgg(l:List Tx)(hl:l.length<=1000000)(a:Int):VCalls prog 233 [.pv (.sl (fz Qaf l)),.int .i64 a] [] (Ret (.pv (.sl (fz Qaf (Qje l a))))):=by
 refine dd Tryz.func233 ?_
 (unfold Tryz.f233; refine rn trivial ?_)
 refine VLoop.nilOwn 5 71 6 rfl ?_
 refine Qg (fun s:To l.length=>⟨28,0,[(6,.int .i64 s.i),(5,.own 0 6 0 (Qje (l.take s.i) a).length),(0,.pv (.sl (fz Qaf l))),(1,.int .i64 a)],[⟨71,true,cells Qaf (Qje (l.take s.i) a)⟩]⟩) (fun s=>l.length-s.i) ⟨0,Jy _⟩ (gc [0]) ?_
 intro s
 have hi:=s.hi
 have hg:=fun h:s.i<l.length=>QoB l s.i h
 have hle:=Qrj (l.take s.i) a
 rw[Jq] at hle
 have hb:((Qje (l.take s.i) a).length+1)*80<=140737488355328:=by omega
 have hs:=Qri l a s.i
 have F:=(Ja @hg (Ja @hb @Qfx))
 refine rn F ?_
 repeat' (first
  | with_reducible exact⟨⟩
  | (refine sB F ?_ ?_<;>intro hZ))
 ·replace hs:=hs (by omega)
  rw[if_neg (by assumption)] at hs
  refine⟨⟨s.i+1,by omega⟩,by show l.length-(s.i+1)<l.length-s.i; omega,?_⟩
  rw[hs,Je]
  exact(gc [2])
 ·replace hs:=hs (by omega)
  rw[if_pos (by assumption)] at hs
  refine⟨⟨s.i+1,by omega⟩,by show l.length-(s.i+1)<l.length-s.i; omega,?_⟩
  rw[hs]
  exact(gc [0])
 ·rw[Jk (by omega)]
def QiK(l:List Tx)(a:Int):Int×Int:=
 if Qbm l=false then (0,15) else if idT l a<0 then (0,16) else if (l.getD (idT l a).toNat Tx0).st≠1 then (0,15) else (idT l a,0)
def Qj5(l:List Tx)(a:Int):(QiK l a).2=(Qp l a).2:=by
 unfold QiK Qp
 split
 ·rfl
 ·split
  ·rfl
  ·split<;>rfl
def Qj6(h:(Qp l a).2=0):(QiK l a).1=idT l a:=by
 unfold QiK
 unfold Qp at h
 split at h
 ·simp at h
 ·rename_i h1
  split at h
  ·simp at h
  ·rename_i h2
   split at h
   ·simp at h
   ·rename_i h3
    rw[if_neg h1,if_neg h2,if_neg h3]
def Qj4(l:List Tx)(hs:smL l)(a:Int):VCalls prog 262 [.pv (.sl (fz Qaf l)),.int .i64 a] [] (Ret (.tup [.int .i64 (QiK l a).1,.int .i64 (QiK l a).2])):=by
 refine dd Tryz.func262 ?_
 have c1:=QbD l hs
 have c2:=QfC l hs.1 a
 unfold QiK
 rcases QB l a with h | ⟨i,hi,h,hid⟩
 ·rw [h] at c2 |-
  (unfold Tryz.f262; refine rn trivial ?_)
  refine rn F ?_
  repeat' (first
   | with_reducible exact⟨⟩
   | (refine sB F ?_ ?_<;>intro hZ)
   | refine vp F (c1) ?_
   | refine vp F (c2) ?_)
  all_goals rfl
 ·rw [h] at c2 |-
  have hg:=QoB l i hi
  rw[Jw,if_neg (show ¬ (i:Int)<0 by omega)]
  (unfold Tryz.f262; refine rn trivial ?_)
  have F:=@hg
  refine rn F ?_
  repeat' (first
   | with_reducible exact⟨⟩
   | (refine sB F ?_ ?_<;>intro hZ)
   | refine vp F (c1) ?_
   | refine vp F (c2) ?_)
  all_goals first | rfl | (rw[if_pos (by assumption)]) | (rw[if_neg (by omega)])
def Qym(l:List Tx)(hs:smL l)(a:Int):VCalls prog 218 [.pv (.sl (fz Qaf l)),.int .i64 a] [] (Ret (QAJ (Qha l a))):=by
 refine VCalls.unwk ?_
 refine dd Tryz.func218 ?_
 have c1:=Qj4 l hs a
 have hok:=@Qby l a
 rw[Qj5] at c1
 unfold Qha
 by_cases hz:(Qp l a).2=0
 ·obtain ⟨hv,i,hi,h1,h2,h3⟩:=hok hz
  rw[Qj6 hz,h1,hz] at c1
  have hts:=QdN (Qbg hv hi)
  have hg:=Qnn l i hi
  have hw:=QqV l hs.1 i hi ⟨l[i].id,l[i].st,l[i].n,l[i].b,l[i].l,l[i].s++[l[i].n]⟩
  rw[if_neg (by rw[hz]; simp),h3,h1,Jw]
  generalize l[i]=t at *
  obtain⟨id,st,n,b,q,s⟩:=t
  dsimp only at hts hg hw
  (unfold Tryz.f218; refine rn trivial ?_)
  have F:=(Ja @hg @QkZ)
  refine rn F ?_
  repeat' (first
   | with_reducible exact⟨⟩
   | (refine sB F ?_ ?_<;>intro hZ)
   | refine vp F (c1) ?_
   | (refine Qfy [3] _ _ (hw) rfl ⟨⟨by simp,Qs _ _ _⟩,trivial⟩ (by decide) rfl (by simp[DV.nums.go,DV.nums]) ?_ ?_; (focus (refine rd F)); refine rn F ?_)
   | (refine Qc (id:=7) [0,1,3,4] [⟨[5],[],2,[0,3,4],[]⟩,⟨[5],[5],6,[0,1,3,4],[7]⟩,⟨[],[],8,[],[]⟩] (by kernel_rfl) (by kernel_rfl) ?_; refine rn F ?_))
  all_goals first | rfl | (rw[if_pos (by omega)]; rfl) | (rw[if_neg (by omega)]; rfl) | skip
 ·generalize Qp l a = r at *
  generalize (QiK l a).1=j at *
  rw[if_pos hz]
  (unfold Tryz.f218; refine rn trivial ?_)
  have F:=trivial
  refine rn F ?_
  repeat' (first
   | with_reducible exact⟨⟩
   | refine vp F (c1) ?_)
  all_goals first | rfl | contradiction | skip
def Qib{l:List Tx}{a:Int}(h:(Qp l a).2=0):(Qp l a).1.st=1/\(Qp l a).1.b=0:=by
 obtain⟨hv,i,hi,h1,h2,h3⟩:=Qby h
 have hst:(Qp l a).1.st=1:=by
  unfold Qp at h |-
  split at h
  ·simp at h
  ·rename_i q1
   split at h
   ·simp at h
   ·rename_i q2
    split at h
    ·simp at h
    ·rename_i q3
     rw[if_neg q1,if_neg q2,if_neg q3]
     simpa using q3
 refine⟨hst,?_⟩
 have ho:=Qbg hv hi
 rw[h3] at hst |-
 simp only[Tx.okB,Tx.hdB,Jb,Jh,decide_eq_true_eq] at ho
 omega
def QyI(l:List Tx)(hs:smL l)(a sv:Int):VCalls prog 219 [.pv (.sl (fz Qaf l)),.int .i64 a,.int .i64 sv] [] (Ret (QAJ (Qhp l a sv))):=by
 refine VCalls.unwk ?_
 refine dd Tryz.func219 ?_
 have c1:=Qj4 l hs a
 have hok:=@Qby l a
 have hab:=@Qib l a
 rw[Qj5] at c1
 unfold Qhp
 by_cases hz:(Qp l a).2=0
 ·obtain ⟨hv,i,hi,h1,h2,h3⟩:=hok hz
  obtain⟨hst,hb0⟩:=hab hz
  rw[Qj6 hz,h1,hz] at c1
  have hts:=QdN (Qbg hv hi)
  have hg:=Qnn l i hi
  rw[if_neg (by rw[hz]; simp),h3,h1,Jw]
  rw[h3] at hst hb0
  have hw:=QqV l hs.1 i hi
  by_cases hr:sv<0\/((l[i].s.length:Int)<=sv)
  ·generalize l[i] = t at *
   obtain⟨id,st,n,b,q,s⟩:=t
   dsimp only at hr hg |-
   rw[if_pos hr]
   (unfold Tryz.f219; refine rn trivial ?_)
   have F:=@hg
   refine rn F ?_
   repeat' (first
    | with_reducible exact⟨⟩
    | (refine sG F ?_ ?_<;>intro hZ)
    | refine vp F (c1) ?_)
   all_goals first | rfl | (exfalso; omega)
  obtain⟨k,rfl⟩:∃ k:Nat,sv=k:=⟨sv.toNat,by omega⟩
  have hk:k<l[i].s.length:=by omega
  rw[if_neg (by omega),Jw]
  have hw2:=hw (QE ⟨l[i].id,2,l[i].n,l[i].s.getD k 0,l[i].l,l[i].s.take (k+1)⟩)
  generalize l[i]=t at *
  obtain⟨id,st,n,b,q,s⟩:=t
  dsimp only at hts hg hk hst hb0 hw2 |-
  subst hst hb0
  have hse:=Qd6 ⟨id,2,n,s.getD k 0,q,s.take (k+1)⟩ ⟨by show q.length<=_; omega,by show(s.take (k+1)).length<=_; rw[Jq]; omega⟩
  have eS:QE ⟨id,2,n,s.getD k 0,q,s.take (k+1)⟩=if Qgz ⟨id,1,n,0,q,s⟩ (s.getD k 0)=true then ⟨id,2,n,s.getD k 0,q,s.take (k+1)⟩ else ⟨id,1,n,0,q,s.take (k+1)⟩:=by
   unfold QE
   have e:Qgz ⟨id,2,n,s.getD k 0,q,s.take (k+1)⟩ (s.getD k 0)=Qgz ⟨id,1,n,0,q,s⟩ (s.getD k 0):=rfl
   cases hB:Qgz ⟨id,1,n,0,q,s⟩ (s.getD k 0)
   ·rw[if_pos ⟨rfl,by rw[<- hB]; exact e⟩]; rfl
   ·rw[if_neg (by rintro⟨_,h⟩; rw[show Qgz ⟨id,2,n,s.getD k 0,q,s.take (k+1)⟩ (s.getD k 0)=true from e.trans hB] at h; cases h)]; rfl
  have hgc:((cells QR (s.take (k+1))).drop k).take 1=[.int .i64 (s.getD k 0)]:=by
   have hgc:(cells QR (s.take (k+1)))[k]?=some (.int .i64 (s.getD k 0)):=by
    rw[Qe1 _ _ (by rw[Jq]; omega)]
    simp[Jf,Kf]
   obtain⟨h,e⟩:=List.getElem?_eq_some_iff.1 hgc
   rw[List.drop_eq_getElem_cons h,e]; rfl
  have hgd:(cells QR (s.take (k+1)))[k]?=some (.int .i64 (s.getD k 0)):=by
   rw[Qe1 _ _ (by rw[Jq]; omega)]
   simp[Jf,Kf]
  have hl1:(s.take (k+1)).length=k+1:=by rw[Jq]; omega
  have ek:((k:Int)+1).toNat=k+1:=by omega
  have fin:(if Qgz ⟨id,1,n,0,q,s⟩ (s.getD k 0)=true then (l.set i ⟨id,2,n,s.getD k 0,q,s.take (k+1)⟩,(0:Int)) else (l.set i ⟨id,1,n,0,q,s.take (k+1)⟩,0))=(l.set i (QE ⟨id,2,n,s.getD k 0,q,s.take (k+1)⟩),0):=by
   rw[eS]; split<;>rfl
  rw[fin]
  clear fin eS
  generalize hT:QE ⟨id,2,n,s.getD k 0,q,s.take (k+1)⟩=T at *
  (unfold Tryz.f219; refine rn trivial ?_)
  have F:=(Ja @hg (Ja @hl1 (Ja @ek (Ja @hgc @hgd))))
  refine rn F ?_
  repeat' (first
   | with_reducible exact⟨⟩
   | refine vp F (c1) ?_
   | (refine Qfy [1] _ _ (hse) rfl ⟨⟨by simp,Qs _ _ _⟩,trivial⟩ (by decide) rfl (by simp[DV.nums.go,DV.nums]) ?_ ?_; (focus (refine rd F)); refine rn F ?_)
   | refine vp F (hw2) ?_
   | (refine Qc (id:=8) [0,1,2,3,4,5] [⟨[],[],6,[2,3,4],[7]⟩,⟨[],[],8,[],[]⟩] (by kernel_rfl) (by kernel_rfl) ?_; refine rn F ?_))
  all_goals first | rfl | skip
 ·generalize Qp l a = r at *
  generalize (QiK l a).1=j at *
  rw[if_pos hz]
  (unfold Tryz.f219; refine rn trivial ?_)
  have F:=trivial
  refine rn F ?_
  repeat' (first
   | with_reducible exact⟨⟩
   | refine vp F (c1) ?_)
  all_goals first | rfl | contradiction | skip
end
section
attribute [local go_sem] Tx.d Qzd QAN QBd QBc QsG Qsa QtB Qqz Qqw Qkp Je Jq JF JL Qb4 Qbt Qmo QkE QhU Qj0 QhL Qmx QjI QfM Qen QdV Qdf QC1
structure Fr(l:List Tx)(a:Int) where
 j:Nat
 hj:j<=l.length
 lt:∀ k,∀ h:k<l.length,k<j->l[k].id<a
def Fr.fin{l:List Tx}{a:Int}(s:Fr l a)(h:∀ h:s.j<l.length,¬ l[s.j].id<a):QyP l a=s.j:=
 QBN l _ s.j s.hj (fun k hk hkj=>decide_eq_true (s.lt k hk hkj)) (fun hj=>decide_eq_false (h hj))
def Qum{l:List Tx}(h:j<=l.length):(l.take j).length=j:=by rw[Jq]; omega
def Qlw(l:List Tx)(j:Nat)(h:j<l.length):cells Qaf (l.take j)++[.pv (.lit (.int .i64 (l.getD j Tx0).id)),.pv (.lit (.int .i64 (l.getD j Tx0).st)),.pv (.lit (.int .i64 (l.getD j Tx0).n)),.pv (.lit (.int .i64 (l.getD j Tx0).b)),.pv (.sl (fz QR (l.getD j Tx0).l)),.pv (.sl (fz QR (l.getD j Tx0).s))]=cells Qaf (l.take (j+1)):=by
 rw[Qfx,Jt h,Qd l j h]
def QmY (l:List Tx) (hs:smL l) (a:Int):VCalls prog 137 [.pv (.sl (fz Qaf l)),.int .i64 a] [] (Ret (QAJ (Q9 l a))):=by
 refine VCalls.unwk ?_
 have hl:=hs.1
 have c1:=QbD l hs
 have c2:=QfC l hl a
 have eS:Q9 l a=if Qbm l=false then ([],15) else if a<1\/1073741824<a then ([],1) else if 0<=idT l a then ([],25) else if l.length=64 then ([],21) else (l.take (QyP l a)++⟨a,1,0,0,[],[]⟩::l.drop (QyP l a),0):=rfl
 have hfin:=@Fr.fin l a
 have hp:QyP l a<=l.length:=QDp _ _
 have hsm:=@Qd3 l
 generalize idT l a=d at *
 generalize Q9 l a=res at *
 generalize Qbm l=T at *
 refine QcO (fn:=Tryz.f137) (c:=Qmo Tryz.f137) Tryz.func137 rfl (by kernel_rfl) (by simp[Tryz.f137]) ?_
 refine QC9 5 ?_
 generalize hrest:QiG 5 (Qmo Tryz.f137)=rest
 (unfold Tryz.f137; refine rn trivial ?_)
 have F:=trivial
 refine rn F ?_
 repeat' (first
  | (refine sG F ?_ ?_<;>intro hZ<;>try with_reducible exact⟨⟩)
  | (refine sB F ?_ ?_<;>intro hZ<;>try with_reducible exact⟨⟩)
  | (refine sD F ?_ ?_<;>intro hZ<;>try with_reducible exact⟨⟩)
  | (refine vp F (c1) ?_; try with_reducible exact⟨⟩)
  | (refine vd F (c1) ?_; try with_reducible exact⟨⟩)
  | (refine vl F (c1) ?_; try with_reducible exact⟨⟩)
  | (refine vp F (c2) ?_; try with_reducible exact⟨⟩)
  | (refine vd F (c2) ?_; try with_reducible exact⟨⟩)
  | (refine vl F (c2) ?_; try with_reducible exact⟨⟩)
  | (refine Qc (id:=14) [0,1,2,5,6,7,8] [⟨[3],[3],4,[1,2,5,6,7,8],[]⟩,⟨[],[],9,[0,1,2,5,6,7],[]⟩,⟨[],[],10,[],[]⟩,⟨[],[],11,[],[]⟩] (by kernel_rfl) (by kernel_rfl) ?_; refine rn F ?_; try with_reducible exact⟨⟩)
  | (refine Qg1 (by kernel_rfl) (by kernel_rfl) ?_; refine rn F ?_; try with_reducible exact⟨⟩))
 all_goals first
  | (rw [eS]; repeat (first | rw [if_pos (by first | assumption | omega)] | rw [if_neg (by first | assumption | omega | (rw [show T = true by assumption]; decide))])
     rfl)
  | skip
 rw[eS]
 repeat (first | rw[if_pos (by first | assumption | omega)] | rw[if_neg (by first | assumption | omega | (rw[show T=true by assumption]; decide))])
 have hsm:=hsm (by assumption)
 refine VLoop.nilOwn 6 71 6 rfl ?_
 refine Qg (fun s:Fr l a=>⟨60,0,[(7,.int .i64 s.j),(6,.own 0 6 0 s.j),(0,.pv (.sl (fz Qaf l))),(1,.int .i64 a)],[⟨71,true,cells Qaf (l.take s.j)⟩]⟩) (fun s=>l.length-s.j) ⟨0,Jy _,fun k _ h=>by omega⟩ (gc [0]) ?_
 intro s
 have hj:=s.hj
 have hlt:=s.lt
 have hf:=hfin s
 have htl:=Qum s.hj
 have hg:=fun h:s.j<l.length=>QoB l s.j h
 have hts:=fun h:s.j<l.length=>Qlw l s.j h
 have hcl:(cells Qaf (l.take s.j)).length=s.j*6:=by rw[Qzd,htl]
 have hta:(cells Qaf (l.take s.j)).take (s.j*6)=cells Qaf (l.take s.j):=QAN _ _ (by rw[htl]; exact JT _)
 have hb:(s.j+1)*80<=140737488355328:=by omega
 have htx:(cells Qaf (l.take s.j)++([.pv (.lit (.int .i64 a)),.pv (.lit (.int .i64 1)),.pv (.lit (.int .i64 0)),.pv (.lit (.int .i64 0)),.pv (.slc []),.pv (.slc [])]:List DV)).take ((s.j+1)*6)=cells Qaf (l.take s.j)++[.pv (.lit (.int .i64 a)),.pv (.lit (.int .i64 1)),.pv (.lit (.int .i64 0)),.pv (.lit (.int .i64 0)),.pv (.slc []),.pv (.slc [])]:=by
  rw[Jk]; rw[Je,hcl]; simp; omega
 have hb2:(s.j+1+(l.length-s.j))*80<=140737488355328:=by omega
 have hb3:(s.j+1)*6<=s.j*6+6:=by omega
 have hw:DV.wk.go (cells Qaf (l.take s.j)++[.pv (.lit (.int .i64 a)),.pv (.lit (.int .i64 1)),.pv (.lit (.int .i64 0)),.pv (.lit (.int .i64 0)),.pv (.slc []),.pv (.slc [])]++cells Qaf (l.drop s.j))=cells Qaf (l.take s.j++⟨a,1,0,0,[],[]⟩::l.drop s.j):=by
  rw[QwH,QwH,QC1,QC1,QC,Ki]
  rfl
 have hfl:(l.take s.j++(⟨a,1,0,0,[],[]⟩:Tx)::l.drop s.j).length=s.j+1+(l.length-s.j):=by
  rw[Je,Jn,JF,htl]; omega
 have F:=(Ja @hg (Ja @hts (Ja @hcl (Ja @hta (Ja @hb (Ja @htx (Ja @hb2 @hb3)))))))
 refine rn F ?_
 repeat' (first
  | (refine sG F ?_ ?_<;>intro hZ<;>try with_reducible exact⟨⟩)
  | (refine sB F ?_ ?_<;>intro hZ<;>try with_reducible exact⟨⟩)
  | (refine sD F ?_ ?_<;>intro hZ<;>try with_reducible exact⟨⟩)
  | (refine Qc (id:=14) [0,1,2,5,6,7,8] [⟨[3],[3],4,[1,2,5,6,7,8],[]⟩,⟨[],[],9,[0,1,2,5,6,7],[]⟩,⟨[],[],10,[],[]⟩,⟨[],[],11,[],[]⟩] (by kernel_rfl) (by kernel_rfl) ?_; refine rn F ?_; try with_reducible exact⟨⟩)
  | (refine Qg1 (by kernel_rfl) (by kernel_rfl) ?_; refine rn F ?_; try with_reducible exact⟨⟩))
 all_goals first
  | (refine ⟨⟨s.j + 1,by omega,fun k h' hkj=>?_⟩,by show l.length - (s.j + 1) < l.length - s.j; omega,(gc [2])⟩
     rcases JW k s.j with h | h
     ·exact hlt k h' h
     ·obtain rfl:k = s.j:=by omega
      rw[<- Qd l s.j h' Tx0]
      assumption)
  | (rw [hf (fun h=>by first | (rw [<- Qd l s.j h Tx0]; exact Int.not_lt.2 (by assumption)) | (clear F hg hts hf hlt htx hw; omega))]
     refine QxE ?_
     subst hrest
     simp(config:={ maxSteps:=2000000 }) (implicitDefEqProofs:=false) (disch:=first | omega | assumption) only[go_sem,↓reduceIte,JA,Jc,JB,Jd,Tryz.f137,hw,QsG hfl]
     rfl)
end
section
attribute [local go_sem] Tx.d Qzd QAN QBd QBc QsG Qsa QtB Qqz Qqw Qkp Je Jq JF JL Qb4 Qbt
def QsY(q:List Int)(r:Int)(i:Nat)(h:i<q.length):(q.take (i+1)).filter (fun x=>decide (x≠r))=(q.take i).filter (fun x=>decide (x≠r))++(if q.getD i 0=r then [] else [q.getD i 0]):=by
 rw[Jt h,Ke,Qd q i h]
 by_cases hx:q[i]=r<;>simp[hx]
def QzU(q:List Int)(r:Int)(i:Nat):((q.take i).filter fun x=>decide (x≠r)).length<=i:=by
 refine Kl (JQ _ _) ?_
 rw[Jq]; omega
def QzV(q:List Int)(r:Int):(q.filter fun x=>decide (x≠r)).length=q.length ↔ r ∉ q:=by
 rw[List.length_filter_eq_length_iff]
 constructor
 ·intro h hm; simpa using h r hm
 ·intro h x hx; exact decide_eq_true fun e=>h (e▸hx)
def QlI(l:List Tx)(hs:smL l)(e:E):VCalls prog 192 [.pv (.sl (fz Qaf l)),.agg e.d] [] (Ret (QAJ (QT l e))):=by
 refine VCalls.unwk ?_
 have c1:=QbD l hs
 have c2:=Qcr e
 have c3:=QfC l hs.1 e.tx
 have c4:=Qgg l hs.1 e.tx
 have hw:=fun(i:Nat) (hi:i<l.length) (t:Tx)=>QqV l hs.1 i hi t
 have hok:=@Qeg e
 have hat:=@QvA l e
 have e0:QT l e=if Qbm l=false then ([],15) else if e.okB=false then ([],12) else if e.tx=0 then (l,0) else if idT l e.tx<0 then ([],16)
  else Qkn l (idT l e.tx).toNat (l.getD (idT l e.tx).toNat Tx0) e:=rfl
 by_cases hv:Qbm l=true
 rotate_left
 ·have hv':Qbm l = false:=by simpa using hv
  rw[e0,if_pos hv']
  rw[hv'] at c1
  refine dd Tryz.func192 ?_
  unfold E.d
  (unfold Tryz.f192; refine rn trivial ?_)
  refine rn F ?_
  repeat' (first
   | with_reducible exact⟨⟩
   | refine vp F (c1) ?_)
  rfl
 by_cases hk:e.okB=true
 rotate_left
 ·have hk':e.okB = false:=by simpa using hk
  rw[e0,if_neg (by rw[hv]; decide),if_pos hk']
  rw[hv] at c1
  rw[hk'] at c2
  unfold E.d at c2 |-
  refine dd Tryz.func192 ?_
  (unfold Tryz.f192; refine rn trivial ?_)
  refine rn F ?_
  repeat' (first
   | with_reducible exact⟨⟩
   | refine vp F (c1) ?_
   | refine vp F (c2) ?_)
  rfl
 by_cases ht:e.tx=0
 ·rw [e0,if_neg (by rw [hv]; decide),if_neg (by rw [hk]; decide),if_pos ht]
  rw[hv] at c1
  rw[hk] at c2
  unfold E.d at c2 |-
  refine dd Tryz.func192 ?_
  (unfold Tryz.f192; refine rn trivial ?_)
  have F:=@ht
  refine rn F ?_
  repeat' (first
   | with_reducible exact⟨⟩
   | refine vp F (c1) ?_
   | refine vl F (c2) ?_)
  rfl
 rw[hv] at c1
 rw[hk] at c2
 rcases QB l e.tx with h | ⟨i,hi,h,hid⟩
 ·rw [e0,if_neg (by rw [hv]; decide),if_neg (by rw [hk]; decide),if_neg ht,h,if_pos (by decide)]
  rw[h] at c3
  unfold E.d at c2 |-
  refine dd Tryz.func192 ?_
  (unfold Tryz.f192; refine rn trivial ?_)
  have F:=@ht
  refine rn F ?_
  repeat' (first
   | with_reducible exact⟨⟩
   | refine vp F (c1) ?_
   | refine vp F (c2) ?_
   | refine vp F (c3) ?_)
  all_goals first | rfl | contradiction
 rw[hat hv hk ht hi h]
 have hkk:=hok hk ht
 rw[h] at c3
 have hg:=Qnn l i hi
 have hto:=Qbg hv hi
 have hso:=QrV hto
 have hle:=QdN hto
 clear hat e0 hok
 generalize hT:l[i]=t at *
 obtain⟨id,st,n,b,q,s⟩:=t
 dsimp only at hid hso hle hg
 obtain⟨lsn,kind,tx,ptx,ppg,ref,c,blob⟩:=e
 dsimp only at hid c4 c3 h hkk ht
 unfold E.d at c2 |-
 dsimp only at c2 |-
 unfold Qkn
 dsimp only
 by_cases hp:ptx=n
 rotate_left
 ·rw [if_pos (.inl hp)]
  refine dd Tryz.func192 ?_
  (unfold Tryz.f192; refine rn trivial ?_)
  have F:=(Ja @ht @hg)
  refine rn F ?_
  repeat' (first
   | with_reducible exact⟨⟩
   | refine vp F (c1) ?_
   | refine vp F (c2) ?_
   | refine vp F (c3) ?_)
  all_goals first | rfl | contradiction | omega
 subst hp
 rcases hkk with rfl | rfl | rfl | rfl | rfl
 ·rw [if_neg (by rintro (h | h); exact h rfl; omega),if_neg (by omega)]
  have hwA:=hw i hi (QE (Qcc ⟨id,st,ptx,b,q,s⟩ ⟨lsn,1,tx,ptx,ppg,ref,c,blob⟩))
  have hse:=Qd6 (Qcc ⟨id,st,ptx,b,q,s⟩ ⟨lsn,1,tx,ptx,ppg,ref,c,blob⟩)
  have eN:Qcc ⟨id,st,ptx,b,q,s⟩ ⟨lsn,1,tx,ptx,ppg,ref,c,blob⟩=⟨id,st,lsn,b,q++[lsn],s⟩:=rfl
  rw[eN] at hwA hse |-
  replace hse:=hse ⟨by simp; omega,by show s.length<=_; omega⟩
  generalize QE ⟨id,st,lsn,b,q++[lsn],s⟩=u at *
  refine dd Tryz.func192 ?_
  (unfold Tryz.f192; refine rn trivial ?_)
  have F:=(Ja @ht (Ja @hg @QkZ))
  refine rn F ?_
  repeat' (first
   | with_reducible exact⟨⟩
   | refine vp F (c1) ?_
   | refine vp F (c2) ?_
   | refine vp F (c3) ?_
   | (refine Qfy [4] _ _ (hse) rfl ⟨⟨by simp,Qs _ _ _⟩,trivial⟩ (by decide) rfl (by simp[DV.nums.go,DV.nums]) ?_ ?_; (focus (refine rd F)); refine rn F ?_)
   | refine vp F (hwA) ?_
   | (refine Qc (id:=17) [0,1,3,4] [⟨[5],[],2,[0,3,4],[]⟩,⟨[5],[5],6,[0,1,3,4],[7]⟩,⟨[],[],8,[],[]⟩] (by kernel_rfl) (by kernel_rfl) ?_; refine rn F ?_))
  all_goals first | rfl | skip
 ·refine dd Tryz.func192 ?_
  (unfold Tryz.f192; refine rn trivial ?_)
  have F:=(Ja @ht @hg)
  refine rn F ?_
  repeat' (first
   | with_reducible exact⟨⟩
   | refine vp F (c1) ?_
   | refine vp F (c2) ?_
   | refine vp F (c3) ?_)
  rotate_left
  all_goals first | contradiction | skip
  refine VLoop.nilOwn 8 3 1 rfl ?_
  refine Qg (fun s0:To q.length=>⟨100,0,[(9,.int .i64 s0.i),(8,.own 2 1 0 ((q.take s0.i).filter fun x=>decide (x≠ref)).length),(7,.ptr 1 0),(6,.int .i64 i),(3,.ptr 0 0),(0,.pv (.sl (fz Qaf l)))],
   [⟨44,true,[.int .i64 lsn,.int .i64 2,.int .i64 tx,.int .i64 ptx,.int .i64 ppg,.int .i64 ref,.int .i64 c.pg,.int .i64 c.sl,.bool c.b.set,.pv (.str c.b.data),.bool c.a.set,.pv (.str c.a.data),.pv (.str blob)]⟩,
    ⟨71,true,[.int .i64 id,.int .i64 st,.int .i64 lsn,.int .i64 b,.pv (.sl (fz QR q)),.pv (.sl (fz QR s))]⟩,
    ⟨3,true,cells QR ((q.take s0.i).filter fun x=>decide (x≠ref))⟩]⟩) (fun s0=>q.length-s0.i) ⟨0,Jy _⟩ (gc [0,1,2]) ?_
  intro s0
  have hi0:=s0.hi
  have hgq:=fun h:s0.i<q.length=>Q0 q s0.i h
  have hfl:=QzU q ref s0.i
  have hfs:=QsY q ref s0.i
  have hwA:=hw i hi (QE (Qcc ⟨id,st,ptx,b,q,s⟩ ⟨lsn,2,tx,ptx,ppg,ref,c,blob⟩))
  have hse:=Qd6 (Qcc ⟨id,st,ptx,b,q,s⟩ ⟨lsn,2,tx,ptx,ppg,ref,c,blob⟩)
  have eN:Qcc ⟨id,st,ptx,b,q,s⟩ ⟨lsn,2,tx,ptx,ppg,ref,c,blob⟩=⟨id,st,lsn,b,q.filter fun x=>decide (x≠ref),s⟩:=rfl
  have hfq:=QzV q ref
  rw[eN] at hwA hse |-
  have hfl2:(q.filter fun x=>decide (x≠ref)).length<=q.length:=JQ _ _
  replace hse:=hse ⟨by show(q.filter fun x=>decide (x≠ref)).length<=_; omega,by show s.length<=_; omega⟩
  by_cases hc:s0.i<q.length
  ·replace hfs:=hfs hc
   generalize ((q.take s0.i).filter fun x=>decide (x≠ref))=out at *
   have hb:(out.length+1)*8<=140737488355328:=by omega
   have F:=(Ja @hgq (Ja @QkZ @hb))
   refine rn F ?_
   repeat' (first
    | with_reducible exact⟨⟩
    | (refine sB F ?_ ?_<;>intro hZ)
    | (refine Qc (id:=23) [0,1,2,3,4,5,6,7] [] (by kernel_rfl) (by kernel_rfl) ?_; refine rn F ?_))
   ·have hf2:(q.take (s0.i + 1)).filter (fun x=>decide ¬x = ref) = out ++ [q.getD s0.i 0]:=by rw [if_neg (by assumption)] at hfs; exact hfs
    refine⟨⟨s0.i+1,by omega⟩,by show q.length-(s0.i+1)<q.length-s0.i; omega,?_⟩
    dsimp only
    rw[hf2,Je]
    exact(gc [0,1,4])
   ·have hf2:(q.take (s0.i + 1)).filter (fun x=>decide ¬x = ref) = out:=by rw [if_pos (by assumption),JM] at hfs; exact hfs
    refine⟨⟨s0.i+1,by omega⟩,by show q.length-(s0.i+1)<q.length-s0.i; omega,?_⟩
    dsimp only
    rw[hf2]
    exact(gc [0,1,2])
  ·rw [Jk (by omega)] at *
   generalize (q.filter fun x=>decide (x≠ref))=out at *
   generalize QE ⟨id,st,lsn,b,out,s⟩=u at *
   have F:=trivial
   refine rn F ?_
   repeat' (first
    | with_reducible exact⟨⟩
    | (refine sB F ?_ ?_<;>intro hZ)
    | (refine Qfy [2] _ _ (hse) rfl ⟨⟨by simp,Qs _ _ _⟩,trivial⟩ (by decide) rfl (by simp[DV.nums.go,DV.nums]) ?_ ?_; (focus (refine rd F)); refine rn F ?_)
    | refine vp F (hwA) ?_)
   all_goals first | (rw[if_pos (hfq.1 (by omega))]; rfl) | (rw[if_neg (fun h=>absurd (hfq.2 h) (by omega))]; rfl) | skip
 ·rw [if_neg (by rintro (h | h); exact h rfl; omega),if_pos (by omega)]
  refine dd Tryz.func192 ?_
  (unfold Tryz.f192; refine rn trivial ?_)
  have F:=(Ja @ht @hg)
  refine rn F ?_
  repeat' (first
   | with_reducible exact⟨⟩
   | refine vp F (c1) ?_
   | refine vp F (c2) ?_
   | refine vp F (c3) ?_
   | refine vp F (c4) ?_)
  all_goals rfl
 ·rw [if_neg (by rintro (h | h); exact h rfl; omega),if_neg (by omega)]
  have hwA:=hw i hi (QE (Qcc ⟨id,st,ptx,b,q,s⟩ ⟨lsn,4,tx,ptx,ppg,ref,c,blob⟩))
  have hse:=Qd6 (Qcc ⟨id,st,ptx,b,q,s⟩ ⟨lsn,4,tx,ptx,ppg,ref,c,blob⟩)
  have eN:Qcc ⟨id,st,ptx,b,q,s⟩ ⟨lsn,4,tx,ptx,ppg,ref,c,blob⟩=⟨id,3,lsn,0,q,[]⟩:=rfl
  rw[eN] at hwA hse |-
  replace hse:=hse ⟨by show q.length<=_; omega,by simp⟩
  have hse2:VCalls prog 235 [.agg [.int .i64 id,.int .i64 3,.int .i64 lsn,.int .i64 0,.pv (.sl (fz QR q)),.pv (.slc [])]] [] (Ret (.agg (QE ⟨id,3,lsn,0,q,[]⟩).d)):=VCalls.wkA hse
  generalize QE ⟨id,3,lsn,0,q,[]⟩=u at *
  refine dd Tryz.func192 ?_
  (unfold Tryz.f192; refine rn trivial ?_)
  have F:=(Ja @ht @hg)
  refine rn F ?_
  repeat' (first
   | with_reducible exact⟨⟩
   | refine vp F (c1) ?_
   | refine vp F (c2) ?_
   | refine vp F (c3) ?_
   | refine vp F (hse2) ?_
   | refine vp F (hwA) ?_)
  all_goals rfl
 ·rw [if_neg (by rintro (h | h); exact h rfl; omega),if_pos (by omega)]
  refine dd Tryz.func192 ?_
  (unfold Tryz.f192; refine rn trivial ?_)
  have F:=(Ja @ht @hg)
  refine rn F ?_
  repeat' (first
   | with_reducible exact⟨⟩
   | refine vp F (c1) ?_
   | refine vp F (c2) ?_
   | refine vp F (c3) ?_
   | refine vp F (c4) ?_)
  all_goals rfl
end
attribute [go_sem] Ce.d Ch.d E.d Lg.c Qkp Je Jq JF JL Qb4 Qbt
attribute [go_sem] QCU QDS QDg QDf QDB Qwz
def Okay.no(s:Okay n c)(h:s.i<n)(hB:B=(Jz n).all c)(hc:c s.i=false):B=false:=by rw[hB,Qaz h hc]
def Okay.yes(s:Okay n c)(h:¬ s.i<n)(hB:B=(Jz n).all c):B=true:=by rw[hB,s.all h]
def Okay.dec(s:Okay n c)(h:s.i<n):n-(s.i+1)<n-s.i:=by omega
structure Pg where
 id:Int
 lsn:Int
 cel:Nat->Ce
def QEO(c:Nat->Ce):List PV:=(Jz 16).flatMap fun i=>[.lit (.bool (c i).set),.str (c i).data]
def Pg.p(x:Pg):List PV:=.lit (.int .i64 x.id)::.lit (.int .i64 x.lsn)::QEO x.cel
def Pg.d(x:Pg):List DV:=x.p.map .pv
def Pg0:Pg:=⟨0,0,fun _=>Ce0⟩
structure Fm where
 pg:Pg
 dirty:Bool
 rc:Int
 used:Bool
def Fm.p(f:Fm):List PV:=f.pg.p++[.lit (.bool f.dirty),.lit (.int .i64 f.rc),.lit (.bool f.used)]
def Fm.d(f:Fm):List DV:=f.p.map .pv
def Fm0:Fm:=⟨Pg0,false,0,false⟩
def Qco:Enc Fm:=⟨37,Fm.p,by decide,fun _=>rfl⟩
def QCT(l:List Fm):(cells Qco l).length=l.length*37:=QZ Qco l
def QE0(l:List Fm)(n:Nat)(h:l.length*37<=n):(cells Qco l).take n=cells Qco l:=by rw[Jk]; rw[QCT]; exact h
def QET(l m:List Fm):cells Qco l++cells Qco m=cells Qco (l++m):=(QC Qco l m).symm
def QEB(l:List Fm)(T:TypeId)(a b:Nat)(h:a<=b/\b<=l.length):QnK (some (none,T,37)) (fz Qco l) a b=some (.pv (.sl (fz Qco ((l.take b).drop a)))):=QfT Qco l T a b h
def QEy(l:List Fm):(fz Qco l=[]\/(fz Qco l)[0]?.map JJ=some 37)=True:=Qfc Qco l
def QEb(h:l.length=len):Qmc n hp 0 37 len (some (cells Qco l))=some (.sl (fz Qco l)):=QW Qco h
def QbM(e:Enc α)(l:List α)(d:α)(i:Nat)(h:i<l.length):(fz e l)[i]?=some (e.enc (l.getD i d)):=by rw[Qd l i h d]; exact QgE e l i h
def QbV(l:List Fm)(i:Nat)(h:i<l.length):(fz Qco l)[i]?=some (l.getD i Fm0).p:=QbM Qco l Fm0 i h
def QtA(l:List Fm)(f:Fm):cells Qco l++f.d=cells Qco (l++[f]):=by rw[QC]; simp[cells,Qco,Fm.d]
@[go_sem] def QEs(x:Fm)(h0:0<=i):QAU (some (none,T,37)) (some x.p) i=some (.ip x.p):=Qjn h0 rfl (by decide)
@[go_sem] theorem Pg.p_len(x:Pg):x.p.length=34:=rfl
@[go_sem] theorem Pg.d_len(x:Pg):x.d.length=34:=rfl
@[go_sem] theorem Fm.p_len(x:Fm):x.p.length=37:=rfl
@[go_sem] theorem Fm.d_len(x:Fm):x.d.length=37:=rfl
@[go_sem] def Pg.p_map(x:Pg):x.p.map DV.pv=x.d:=(rfl)
@[go_sem] def Fm.p_map(x:Fm):x.p.map DV.pv=x.d:=(rfl)
@[go_sem] def Fm.p_take(x:Fm):x.p.take 37=x.p:=(rfl)
@[go_sem] def Fm.d_take(x:Fm):x.d.take 37=x.d:=(rfl)
@[go_sem] def Pg.p_take(x:Pg):x.p.take 34=x.p:=(rfl)
@[go_sem] def Pg.d_take(x:Pg):x.d.take 34=x.d:=(rfl)
@[go_sem] def Fm.p_pg(x:Fm):x.p.take 34=x.pg.p:=(rfl)
@[go_sem] def Fm.d_pg(x:Fm):x.d.take 34=x.pg.d:=(rfl)
@[go_sem] def Fm.p0(x:Fm):x.p[0]?=some (.lit (.int .i64 x.pg.id)):=(rfl)
def Fm.p1(x:Fm):x.p[1]?=some (.lit (.int .i64 x.pg.lsn)):=(rfl)
@[go_sem] def Fm.pd1(x:Fm):(x.p.drop 1)[0]?=some (.lit (.int .i64 x.pg.lsn)):=(rfl)
@[go_sem] def Fm.pd34(x:Fm):(x.p.drop 34)[0]?=some (.lit (.bool x.dirty)):=(rfl)
@[go_sem] def Fm.pd35(x:Fm):(x.p.drop 35)[0]?=some (.lit (.int .i64 x.rc)):=(rfl)
@[go_sem] def Fm.pd36(x:Fm):(x.p.drop 36)[0]?=some (.lit (.bool x.used)):=(rfl)
@[go_sem] def Fm.d0(x:Fm):x.d[0]?=some (.pv (.lit (.int .i64 x.pg.id))):=(rfl)
@[go_sem] def Fm.d1(x:Fm):x.d[1]?=some (.pv (.lit (.int .i64 x.pg.lsn))):=(rfl)
@[go_sem] def Fm.d34(x:Fm):x.d[34]?=some (.pv (.lit (.bool x.dirty))):=(rfl)
@[go_sem] def Fm.d35(x:Fm):x.d[35]?=some (.pv (.lit (.int .i64 x.rc))):=(rfl)
@[go_sem] def Pg.p0(x:Pg):x.p[0]?=some (.lit (.int .i64 x.id)):=(rfl)
def Pg.p1(x:Pg):x.p[1]?=some (.lit (.int .i64 x.lsn)):=(rfl)
@[go_sem] def Pg.d0(x:Pg):x.d[0]?=some (.pv (.lit (.int .i64 x.id))):=(rfl)
@[go_sem] def Pg.d1(x:Pg):x.d[1]?=some (.pv (.lit (.int .i64 x.lsn))):=(rfl)
@[go_sem] def Pg.d_one(x:Pg):Qn x.d=true:=(rfl)
@[go_sem] def Fm.d_one(x:Fm):Qn x.d=true:=(rfl)
@[go_sem] def Pg.d_nums(x:Pg)(k:Nat->Bool):DV.nums.go k x.d=true:=(rfl)
@[go_sem] def Fm.d_nums(x:Fm)(k:Nat->Bool):DV.nums.go k x.d=true:=(rfl)
@[go_sem] def Fm.set34(x:Fm)(b:Bool):x.d.set 34 (.pv (.lit (.bool b)))=Fm.d ⟨x.pg,b,x.rc,x.used⟩:=(rfl)
@[go_sem] def Fm.set35(x:Fm)(b:Int):x.d.set 35 (.pv (.lit (.int .i64 b)))=Fm.d ⟨x.pg,x.dirty,b,x.used⟩:=(rfl)
@[go_sem] def Fm.set36(x:Fm)(b:Bool):x.d.set 36 (.pv (.lit (.bool b)))=Fm.d ⟨x.pg,x.dirty,x.rc,b⟩:=(rfl)
@[go_sem] def Fm.setpg(x:Fm)(p:Pg):p.d++x.d.drop 34=Fm.d ⟨p,x.dirty,x.rc,x.used⟩:=(rfl)
@[go_sem] def Fm.mk36(x:Pg)(a c u:Bool)(b:Int):(x.d++([.pv (.lit (.bool a)),.pv (.lit (.int .i64 b)),.pv (.lit (.bool c))]:List DV)).take 36++[.pv (.lit (.bool u))]++(x.d++([.pv (.lit (.bool a)),.pv (.lit (.int .i64 b)),.pv (.lit (.bool c))]:List DV)).drop 37=Fm.d ⟨x,a,b,u⟩:=(rfl)
@[go_sem] def Pg.set1(x:Pg)(b:Int):x.d.set 1 (.pv (.lit (.int .i64 b)))=Pg.d ⟨x.id,b,x.cel⟩:=(rfl)
@[go_sem] def Pg.d_drop(x:Pg):x.d.drop 34=[]:=(rfl)
@[go_sem] def Fm.d_drop(x:Fm):x.d.drop 37=[]:=(rfl)
def QiL(n:Nat)(hp:Qa):∀ l:List PV,Qh ((l.map DV.pv).map (QcF n hp))=some (l.map DV.pv)
 | []=>rfl
 | p::l=>by show Qh (some (.pv p)::(l.map DV.pv).map (QcF n hp))=_; rw[Qfj,QiL n hp l]; rfl
@[go_sem] def Pg.d_frz1(x:Pg)(n:Nat)(hp:Qa):Qh (x.d.map (QcF n hp))=some x.d:=QiL n hp x.p
@[go_sem] def Fm.d_frz1(x:Fm)(n:Nat)(hp:Qa):Qh (x.d.map (QcF n hp))=some x.d:=QiL n hp x.p
@[go_sem] def Pg.d_wk(x:Pg):DV.wk.go x.d=x.d:=(rfl)
@[go_sem] def Fm.d_wk(x:Fm):DV.wk.go x.d=x.d:=(rfl)
def Qny(x:Pg)(i:Nat)(h:i<16):(x.d.drop (2+i*2)).take 2=[.pv (.lit (.bool (x.cel i).set)),.pv (.str (x.cel i).data)]:=by
 have:i=0\/i=1\/i=2\/i=3\/i=4\/i=5\/i=6\/i=7\/i=8\/i=9\/i=10\/i=11\/i=12\/i=13\/i=14\/i=15:=by omega
 rcases this with h | h | h | h | h | h | h | h | h | h | h | h | h | h | h | h<;>subst h<;>rfl
def Qts(x:Pg)(i:Nat)(h:i<16):x.d[2+i*2]?=some (.pv (.lit (.bool (x.cel i).set))):=by
 have:i=0\/i=1\/i=2\/i=3\/i=4\/i=5\/i=6\/i=7\/i=8\/i=9\/i=10\/i=11\/i=12\/i=13\/i=14\/i=15:=by omega
 rcases this with h | h | h | h | h | h | h | h | h | h | h | h | h | h | h | h<;>subst h<;>rfl
def Pg.setc(x:Pg)(i:Nat)(c:Ce):Pg:=⟨x.id,x.lsn,fun k=>if k=i then c else x.cel k⟩
def QAa(x:Pg)(i:Nat)(h:i<16)(c:Ce):splice x.d (2+i*2) [.pv (.lit (.bool c.set)),.pv (.str c.data)]=(x.setc i c).d:=by
 have:i=0\/i=1\/i=2\/i=3\/i=4\/i=5\/i=6\/i=7\/i=8\/i=9\/i=10\/i=11\/i=12\/i=13\/i=14\/i=15:=by omega
 rcases this with h | h | h | h | h | h | h | h | h | h | h | h | h | h | h | h<;>subst h<;>rfl
structure Rw where
 lsn:Int
 im:Int
 at_:Int
def Qb2:Enc Rw:=⟨3,fun r=>[.lit (.int .i64 r.lsn),.lit (.int .i64 r.im),.lit (.int .i64 r.at_)],by decide,fun _=>rfl⟩
@[go_sem] def Rw.d(r:Rw):List DV:=[.int .i64 r.lsn,.int .i64 r.im,.int .i64 r.at_]
def QD7(l:List Rw):(cells Qb2 l).length=l.length*3:=QZ Qb2 l
def QEX(l:List Rw)(n:Nat)(h:l.length*3<=n):(cells Qb2 l).take n=cells Qb2 l:=by rw[Jk]; rw[QD7]; exact h
def QEw(l:List Rw):(fz Qb2 l=[]\/(fz Qb2 l)[0]?.map JJ=some 3)=True:=Qfc Qb2 l
def QEL(h:l.length=len):Qmc n hp 0 3 len (some (cells Qb2 l))=some (.sl (fz Qb2 l)):=QW Qb2 h
def Rw0:Rw:=⟨0,0,0⟩
def QkH(l:List Rw)(i:Nat)(h:i<l.length):(fz Qb2 l)[i]?=some [.lit (.int .i64 (l.getD i Rw0).lsn),.lit (.int .i64 (l.getD i Rw0).im),.lit (.int .i64 (l.getD i Rw0).at_)]:=QbM Qb2 l Rw0 i h
def QDN(l:List Rw)(a b c:Int):cells Qb2 l++[.pv (.lit (.int .i64 a)),.pv (.lit (.int .i64 b)),.pv (.lit (.int .i64 c))]=cells Qb2 (l++[⟨a,b,c⟩]):=by rw[QC]; rfl
structure Dt where
 pg:Int
 rc:Int
 last:Int
def QcG:Enc Dt:=⟨3,fun r=>[.lit (.int .i64 r.pg),.lit (.int .i64 r.rc),.lit (.int .i64 r.last)],by decide,fun _=>rfl⟩
@[go_sem] def Dt.d(r:Dt):List DV:=[.int .i64 r.pg,.int .i64 r.rc,.int .i64 r.last]
def QD4(l:List Dt):(cells QcG l).length=l.length*3:=QZ QcG l
def QEU(l:List Dt)(n:Nat)(h:l.length*3<=n):(cells QcG l).take n=cells QcG l:=by rw[Jk]; rw[QD4]; exact h
def QEI(h:l.length=len):Qmc n hp 0 3 len (some (cells QcG l))=some (.sl (fz QcG l)):=QW QcG h
def Dt0:Dt:=⟨0,0,0⟩
def Qeq(l:List Dt)(i:Nat)(h:i<l.length):(fz QcG l)[i]?=some [.lit (.int .i64 (l.getD i Dt0).pg),.lit (.int .i64 (l.getD i Dt0).rc),.lit (.int .i64 (l.getD i Dt0).last)]:=QbM QcG l Dt0 i h
def QDK(l:List Dt)(a b c:Int):cells QcG l++[.pv (.lit (.int .i64 a)),.pv (.lit (.int .i64 b)),.pv (.lit (.int .i64 c))]=cells QcG (l++[⟨a,b,c⟩]):=by rw[QC]; rfl
structure Gr where
 tx:Int
 pg:Int
 sl:Int
 md:Int
def Gr0:Gr:=⟨0,0,0,0⟩
def Qak:Enc Gr:=⟨4,fun g=>[.lit (.int .i64 g.tx),.lit (.int .i64 g.pg),.lit (.int .i64 g.sl),.lit (.int .i64 g.md)],by decide,fun _=>rfl⟩
@[go_sem] def Gr.d(g:Gr):List DV:=[.int .i64 g.tx,.int .i64 g.pg,.int .i64 g.sl,.int .i64 g.md]
def QD9(l:List Gr):(cells Qak l).length=l.length*4:=QZ Qak l
def QEZ(l:List Gr)(n:Nat)(h:l.length*4<=n):(cells Qak l).take n=cells Qak l:=by rw[Jk]; rw[QD9]; exact h
def QES(l m:List Gr):cells Qak l++cells Qak m=cells Qak (l++m):=(QC Qak l m).symm
def QEA(l:List Gr)(T:TypeId)(a b:Nat)(h:a<=b/\b<=l.length):QnK (some (none,T,4)) (fz Qak l) a b=some (.pv (.sl (fz Qak ((l.take b).drop a)))):=QfT Qak l T a b h
def QEx(l:List Gr):(fz Qak l=[]\/(fz Qak l)[0]?.map JJ=some 4)=True:=Qfc Qak l
def QEN(h:l.length=len):Qmc n hp 0 4 len (some (cells Qak l))=some (.sl (fz Qak l)):=QW Qak h
def Qax(l:List Gr)(i:Nat)(h:i<l.length):(fz Qak l)[i]?=some [.lit (.int .i64 (l.getD i Gr0).tx),.lit (.int .i64 (l.getD i Gr0).pg),.lit (.int .i64 (l.getD i Gr0).sl),.lit (.int .i64 (l.getD i Gr0).md)]:=QbM Qak l Gr0 i h
def QDP(l:List Gr)(a b c d:Int):cells Qak l++[.pv (.lit (.int .i64 a)),.pv (.lit (.int .i64 b)),.pv (.lit (.int .i64 c)),.pv (.lit (.int .i64 d))]=cells Qak (l++[⟨a,b,c,d⟩]):=by rw[QC]; rfl
def Qma(l:List E)(i:Nat)(h:i<l.length):(fz encE l)[i]?=some [.lit (.int .i64 (l.getD i E0).lsn),.lit (.int .i64 (l.getD i E0).kind),.lit (.int .i64 (l.getD i E0).tx),.lit (.int .i64 (l.getD i E0).ptx),.lit (.int .i64 (l.getD i E0).ppg),.lit (.int .i64 (l.getD i E0).ref),.lit (.int .i64 (l.getD i E0).c.pg),.lit (.int .i64 (l.getD i E0).c.sl),.lit (.bool (l.getD i E0).c.b.set),.str (l.getD i E0).c.b.data,.lit (.bool (l.getD i E0).c.a.set),.str (l.getD i E0).c.a.data,.str (l.getD i E0).blob]:=QbM encE l E0 i h
def QdO(l:List Tx)(i:Nat)(h:i<l.length):(fz Qaf l)[i]?=some [.lit (.int .i64 (l.getD i Tx0).id),.lit (.int .i64 (l.getD i Tx0).st),.lit (.int .i64 (l.getD i Tx0).n),.lit (.int .i64 (l.getD i Tx0).b),.sl (fz QR (l.getD i Tx0).l),.sl (fz QR (l.getD i Tx0).s)]:=QbM Qaf l Tx0 i h
def QC2(l:List E):DV.wk.go (cells encE l)=cells encE l:=QaM encE l fun a p hp=>by
 simp[encE] at hp
 rcases hp with h | h | h | h | h | h | h | h | h | h | h | h | h<;>subst h<;>rfl
def QEo(l:List Gr):DV.wk.go (cells Qak l)=cells Qak l:=QaM Qak l fun a p hp=>by
 simp[Qak] at hp
 rcases hp with h | h | h | h<;>subst h<;>rfl
def QEl(l:List Rw):DV.wk.go (cells Qb2 l)=cells Qb2 l:=QaM Qb2 l fun a p hp=>by
 simp[Qb2] at hp
 rcases hp with h | h | h<;>subst h<;>rfl
def QEj(l:List Dt):DV.wk.go (cells QcG l)=cells QcG l:=QaM QcG l fun a p hp=>by
 simp[QcG] at hp
 rcases hp with h | h | h<;>subst h<;>rfl
def QEp(l:List Fm):DV.wk.go (cells Qco l)=cells Qco l:=QaM Qco l fun a p hp=>by
 have hm:a.p.map PV.wk=a.p:=rfl
 have hp:p∈a.p:=hp
 obtain⟨i,hi,rfl⟩:=List.getElem_of_mem hp
 have:=congrArg (fun l=>l[i]?) hm
 simpa [hi] using this
attribute [go_sem] QC2 QEo QEl QEj QEp
attribute [go_sem] QCT QE0 QET QEB QEy QEb QtA QD7 QEX QEw QEL QDN QD4 QEU QEI QDK QD9 QEZ QES QEA QEx QEN QDP
structure Pl where
 size:Int
 fs:List Fm
 hand:Int
@[go_sem] def Pl.d(p:Pl):List DV:=[.int .i64 p.size,.pv (.sl (fz Qco p.fs)),.int .i64 p.hand]
def Pl0:Pl:=⟨0,[],0⟩
structure Lk where
 held:List Gr
 wait:List Gr
@[go_sem] def Lk.d(t:Lk):List DV:=[.pv (.sl (fz Qak t.held)),.pv (.sl (fz Qak t.wait))]
def cb(c:C):Blk:=⟨80,true,cc c⟩
abbrev CX(R:DV->Prop):DV->Qa->Prop:=fun r h'=>∃ B',h'=[B']/\B'.live=true/\DV.nums.go (fun _=>false) B'.cells=true/\r.nums (fun _=>false)=true/\(R r/\∃ c',B'=cb c')
def Q4(h:VCalls prog g (args.map (DV.ren fun _=>0)) [cb c] (CX R))(hk:hp[k]?=some (cb c))(ha:DV.nums.go (fun i=>i==k) args=true)(hK:∀ r c',R r->K r (hp.set k (cb c'))):VCalls prog g args hp K:=
 (VCalls.ptr1 (R:=fun r B'=>R r/\∃ c',B'=cb c') hk rfl (QaW c) h ha).mono fun r h' ⟨B',e1,_,_,e2,e3⟩=>by subst e1; obtain⟨c',rfl⟩:=e3; exact hK r c' e2
abbrev Nx(n:Nat):DV->Prop:=fun r=>∃ x:Nat,r=.int .i64 x/\x<n
def Qr1(c:C)(n:Nat)(h1:1<=n)(hn:n<=256):VCalls prog 26 [.ptr 0 0,.int .i64 n] [cb c] (CX (Nx n)):=by
 refine dd Tryz.func26 ?_
 have ha:=c.ha
 have hl:=c.hl
 simp(config:={ maxSteps:=2000000 }) (implicitDefEqProofs:=false) (disch:=first | omega | assumption | (simp only[]; done) | fail) only[go_sem,Jl,Jm,Tryz.f26,cb,cc]
 refine Qg1 (by kernel_rfl) (by kernel_rfl) ?_
 by_cases a:c.at_<c.l.length
 ·simp (config:={ maxSteps:=2000000 }) (implicitDefEqProofs:=false) (disch:=first | omega | assumption | (simp only []; done) | fail) only [go_sem,↓reduceIte,reduceCtorEq,Jl,Jc,Jm,Jd]
  refine Qg1 (by kernel_rfl) (by kernel_rfl) ?_
  have hg:=QsE c.l c.at_ a
  have hh:(c.l.getD c.at_ 0).toNat<256:=UInt8.toNat_lt _
  simp(config:={ maxSteps:=2000000 }) (implicitDefEqProofs:=false) (disch:=first | omega | assumption | (simp only[Jn,Jj,Kk]; done) | fail) only[go_sem,↓reduceIte,reduceCtorEq,Jl,JA,Jc,JB,Jm,Jd,hg]
  obtain⟨y,hy,hlt⟩:=Qmy (c.l.getD c.at_ 0).toNat n h1
  refine⟨_,rfl,rfl,rfl,rfl,⟨y,by rw[hy],hlt⟩,⟨c.l,c.at_+1,a,hl⟩,rfl⟩
 ·simp (config:={ maxSteps:=2000000 }) (implicitDefEqProofs:=false) (disch:=first | omega | assumption | (simp only []; done) | fail) only [go_sem,↓reduceIte,reduceCtorEq,Jl,Jc,Jm,Jd]
  exact⟨_,rfl,rfl,rfl,rfl,⟨0,rfl,h1⟩,c,rfl⟩
def QU(c:C)(n:Nat)(h1:1<=n)(hn:n<=1000000000):VCalls prog 26 [.ptr 0 0,.int .i64 n] [cb c] (CX (Nx n)):=by
 by_cases hs:n<=256
 ·exact Qr1 c n h1 hs
 refine dd Tryz.func26 ?_
 have ha:=c.ha
 have hl:=c.hl
 simp(config:={ maxSteps:=2000000 }) (implicitDefEqProofs:=false) (disch:=first | omega | assumption | (simp only[]; done) | fail) only[go_sem,Jl,Jm,Tryz.f26,cb,cc]
 refine Qg1 (by kernel_rfl) (by kernel_rfl) ?_
 by_cases a:c.at_<c.l.length
 ·simp (config:={ maxSteps:=2000000 }) (implicitDefEqProofs:=false) (disch:=first | omega | assumption | (simp only []; done) | fail) only [go_sem,↓reduceIte,reduceCtorEq,Jl,Jc,Jm,Jd]
  refine Qg1 (by kernel_rfl) (by kernel_rfl) ?_
  have hg:=QsE c.l c.at_ a
  have hh:(c.l.getD c.at_ 0).toNat<256:=UInt8.toNat_lt _
  generalize hx:(c.l.getD c.at_ 0).toNat=x at hg hh
  simp(config:={ maxSteps:=2000000 }) (implicitDefEqProofs:=false) (disch:=first | omega | assumption | (simp only[Jn,Jj,Kk]; done) | fail) only[go_sem,↓reduceIte,reduceCtorEq,Jl,JA,Jc,JB,Jm,Jd,hg]
  refine Q4 (k:=0) (c:=⟨c.l,c.at_+1,a,hl⟩) (Qr1 _ 256 (by omega) (by omega)) rfl rfl ?_
  rintro r c' ⟨z,rfl,hz⟩
  simp(config:={ maxSteps:=2000000 }) (implicitDefEqProofs:=false) (disch:=first | omega | assumption | (simp only[]; done) | fail) only[go_sem,Jc,Jd,cb,cc]
  obtain⟨y,hy,hlt⟩:=Qmy (256*x+z) n h1
  have e:(256*(x:Int)+(z:Int))=((256*x+z:Nat):Int):=by omega
  refine⟨_,rfl,rfl,rfl,rfl,⟨y,by rw[e,hy],hlt⟩,c',rfl⟩
 ·simp (config:={ maxSteps:=2000000 }) (implicitDefEqProofs:=false) (disch:=first | omega | assumption | (simp only []; done) | fail) only [go_sem,↓reduceIte,reduceCtorEq,Jl,Jc,Jm,Jd]
  exact⟨_,rfl,rfl,rfl,rfl,⟨0,rfl,h1⟩,c,rfl⟩
def Qr0(c:C)(m:Int)(h1:1<=m)(hn:m<=1000000000):VCalls prog 26 [.ptr 0 0,.int .i64 m] [cb c] (CX (Nx m.toNat)):=by
 have h:=QU c m.toNat (by omega) (by omega)
 rwa [show((m.toNat:Nat):Int)=m by omega] at h
def QCa(l:List UInt8)(most:Nat)(hm:1<=most)(h:most<=1000000)(hl:l.length<=9223372036854775807):VCalls prog 6 [.pv (.sl (fz Qc5 l)),.int .i64 most] [] fun r h'=>∃ B,h'=[B]/\r=.ptr 0 0/\B.live=true/\DV.nums.go (fun _=>false) B.cells=true/\∃ c,B=cb c:=by
 refine Qab (fn:=Tryz.f6) Tryz.func6 rfl (by kernel_rfl) (by simp[Tryz.f6]) ?_
 simp(config:={ maxSteps:=2000000 }) (implicitDefEqProofs:=false) (disch:=first | omega | assumption | (simp only[]; done) | fail) only[go_sem,Jl,Jc,Jm,Jd,Tryz.f6]
 refine QaP (fun hc=>?_) (fun hc=>?_)<;>simp only[decide_eq_true_eq,decide_eq_false_iff_not,Jh,Jb,Ju,Jr,Ji,Jg,beq_iff_eq,beq_eq_false_iff_ne,bne_iff_ne,bne_eq_false_iff_eq,ne_eq] at hc
 ·have hx:(fz Qc5 l)[0]?.map JJ = some 1:=QsD Qc5 l (by omega)
  have ht:(fz Qc5 l).take most=fz Qc5 (l.take most):=QsC Qc5 l most
  have hh:most<=(fz Qc5 l).length:=by rw[Qc3]; omega
  have h0:(0:Nat)<=most:=by omega
  simp(config:={ maxSteps:=2000000 }) (implicitDefEqProofs:=false) (disch:=first | omega | assumption | (simp only[]; done) | fail) only[go_sem,V.splice,↓reduceIte,Jl,JA,JK,Jc,JB,Jm,Jd,ht]
  exact⟨_,rfl,rfl,rfl,⟨l.take most,0,by omega,by rw[Jq]; omega⟩,rfl⟩
 ·simp (config:={ maxSteps:=2000000 }) (implicitDefEqProofs:=false) (disch:=first | omega | assumption | (simp only []; done) | fail) only [go_sem,V.splice,↓reduceIte,Jl,JA,JK,Jc,JB,Jm,Jd]
  exact⟨_,rfl,rfl,rfl,⟨l,0,by omega,by omega⟩,rfl⟩
def QxK{most:Nat}(hm:1<=most)(h:most<=1000000)(hl:l.length<=9223372036854775807)(hK:∀ c,K (.ptr hp.length 0) (hp++[cb c])):VCalls prog 6 [.pv (.sl (fz Qc5 l)),.int .i64 most] hp K:=
 (VCalls.new (QCa l most hm h hl) rfl).mono fun r h' ⟨B,e1,e2,_,_,c,e3⟩=>by subst e1 e2 e3; exact hK c
def QDw(c:C):VCalls prog 136 [.ptr 0 0] [cb c] (CX fun r=>∃ n:Int,r=.int .i64 n/\-9223372036854775808<=n/\n<=9223372036854775807):=by
 refine dd Tryz.func136 ?_
 simp(config:={ maxSteps:=2000000 }) (implicitDefEqProofs:=false) (disch:=first | omega | assumption | (simp only[]; done) | fail) only[go_sem,Jc,JN,Jd,Tryz.f136]
 refine Q4 (k:=0) (c:=c) (QU c 10 (by omega) (by omega)) rfl rfl ?_
 rintro _ c1 ⟨z,rfl,hz⟩
 (try simp(config:={ maxSteps:=2000000 }) (implicitDefEqProofs:=false) (disch:=first | omega | assumption | (simp only[]; done) | fail) only[go_sem,JN])
 repeat' (first
  | (refine QfW (fun hZ=>?_) (fun hZ=>?_)<;>(try rw[hZ])<;>(try simp only[decide_eq_true_eq,decide_eq_false_iff_not,Jh,Jb,Ju,Jr,Ji,Jg,beq_iff_eq,beq_eq_false_iff_ne,bne_iff_ne,bne_eq_false_iff_eq,ne_eq,JR,Kg,Ka] at hZ)<;>(try (first | rw[(hZ:_=false)] | rw[(hZ:_=true)]))<;>skip)
  | (refine QaP (fun hZ=>?_) (fun hZ=>?_)<;>(try rw[hZ])<;>(try simp only[decide_eq_true_eq,decide_eq_false_iff_not,Jh,Jb,Ju,Jr,Ji,Jg,beq_iff_eq,beq_eq_false_iff_ne,bne_iff_ne,bne_eq_false_iff_eq,ne_eq,JR,Kg,Ka] at hZ)<;>(try (first | rw[(hZ:_=false)] | rw[(hZ:_=true)]))<;>(try simp(config:={ maxSteps:=2000000 }) (implicitDefEqProofs:=false) (disch:=first | omega | assumption | (simp only[]; done) | fail) only[go_sem,V.splice,V.mk,↓reduceIte,Jl,JA,JK,Jc,JB,JN,Jm,Jd]))
  | (refine Qhz (fun hZ=>?_) (fun hZ=>?_)<;>(try rw[hZ])<;>(try simp only[decide_eq_true_eq,decide_eq_false_iff_not,Jh,Jb,Ju,Jr,Ji,Jg,beq_iff_eq,beq_eq_false_iff_ne,bne_iff_ne,bne_eq_false_iff_eq,ne_eq,JR,Kg,Ka] at hZ)<;>(try (first | rw[(hZ:_=false)] | rw[(hZ:_=true)]))<;>skip))
 ·refine Q4 (k:=0) (c:=c1) (QU c1 3 (by omega) (by omega)) rfl rfl ?_
  rintro _ c2 ⟨y,rfl,hy⟩
  simp(config:={ maxSteps:=2000000 }) (implicitDefEqProofs:=false) (disch:=first | omega | assumption | (simp only[]; done) | fail) only[go_sem,JN]
  exact⟨_,rfl,rfl,QaW _,rfl,⟨_,rfl,by omega,by omega⟩,c2,rfl⟩
 ·refine Q4 (k:=0) (c:=c1) (QU c1 16 (by omega) (by omega)) rfl rfl ?_
  rintro _ c2 ⟨y,rfl,hy⟩
  have h:y=0\/y=1\/y=2\/y=3\/y=4\/y=5\/y=6\/y=7\/y=8\/y=9\/y=10\/y=11\/y=12\/y=13\/y=14\/y=15:=by omega
  rcases h with rfl | rfl | rfl | rfl | rfl | rfl | rfl | rfl | rfl | rfl | rfl | rfl | rfl | rfl | rfl | rfl<;>(simp(config:={ maxSteps:=2000000 }) (implicitDefEqProofs:=false) (disch:=first | omega | assumption | (simp only[]; done) | fail) only[go_sem,Jc,JN,Jd]; exact⟨_,rfl,rfl,QaW _,rfl,⟨_,rfl,by omega,by omega⟩,c2,rfl⟩)
 ·refine Q4 (k:=0) (c:=c1) (QU c1 20 (by omega) (by omega)) rfl rfl ?_
  rintro _ c2 ⟨y,rfl,hy⟩
  simp(config:={ maxSteps:=2000000 }) (implicitDefEqProofs:=false) (disch:=first | omega | assumption | (simp only[]; done) | fail) only[go_sem,JN]
  exact⟨_,rfl,rfl,QaW _,rfl,⟨_,rfl,by omega,by omega⟩,c2,rfl⟩
theorem QDH:bts prog 22 9=true:=by kernel_rfl
section
structure Md where
 on:Bool
 done:List Bool
 wait:List Int
def QiW(l:List Bool):(cells Qcw l).length=l.length*1:=QZ Qcw l
def Qk1(l:List Bool)(n:Nat)(h:l.length*1<=n):(cells Qcw l).take n=cells Qcw l:=by rw[Jk]; rw[QiW]; exact h
def QjO(l:List Bool):(fz Qcw l=[]\/(fz Qcw l)[0]?.map JJ=some 1)=True:=Qfc Qcw l
def Qfi(l:List Bool)(a:Bool):cells Qcw l++[.pv (.lit (.bool a))]=cells Qcw (l++[a]):=by rw[QC]; rfl
def Qfh(l:List Int)(a:Int):cells QR l++[.pv (.lit (.int .i64 a))]=cells QR (l++[a]):=by rw[QC]; rfl
@[go_sem] def Md.c(m:Md):List DV:=[.bool m.on,.pv (.sl (fz Qcw m.done)),.pv (.sl (fz QR m.wait))]
attribute [local go_sem] QiW Qk1 QjO Qfi Qfh
@[go_sem] def mdD(a:Md×Int):DV:=.tup [.agg a.1.c,.int .i64 a.2]
def QBi(b:Bool):VCalls prog 36 [.bool b] [] (Ret (.int .i64 (if b=true then 1 else 0))):=by
 refine dk Tryz.func36 ?_
 (unfold Tryz.f36; refine rn trivial ?_)
 cases b<;>(refine rn trivial ?_; try with_reducible exact⟨⟩)
def QmG(n:Int)(h0:0<=n)(h1:n<=1000):VCalls prog 58 [.int .i64 n] [] (Qz (fun k:Nat=>.int .i64 k) fun k=>(k:Int)=(n+3) / 4):=by
 refine dk Tryz.func58 ?_
 (unfold Tryz.f58; refine rn trivial ?_)
 refine⟨rfl,rfl,((n+3) / 4).toNat,?_,by omega⟩
 have e:(n+4-1).tdiv 4=(n+3) / 4:=by rw[JV (by omega)]; congr 1; omega
 rw[e,Qbz (by omega)]
 show _=DV.int .i64 (((n+3) / 4).toNat:Nat)
 rw[Kc (by omega)]
def Qqv(n:Int)(h0:0<=n)(h1:n<=1000):VCalls prog 59 [.int .i64 n] [] (Qz (fun k:Nat=>.int .i64 k) fun k=>(k:Int)=(n+3) / 4):=by
 refine dk Tryz.func59 ?_
 (unfold Tryz.f59; refine rn trivial ?_)
 refine⟨rfl,rfl,((n+3) / 4).toNat,?_,by omega⟩
 have e:(n+4-1).tdiv 4=(n+3) / 4:=by rw[JV (by omega)]; congr 1; omega
 rw[e,Qbz (by omega)]
 show _=DV.int .i64 (((n+3) / 4).toNat:Nat)
 rw[Kc (by omega)]
def Quu:VCalls prog 23 [.int .i64 10] [] (Ret (mdD (⟨true,[false,false,false],[]⟩,0))):=by
 refine dk Tryz.func23 ?_
 (unfold Tryz.f23; refine rn trivial ?_)
 refine Qbl (QmG 10 (by omega) (by omega)) rfl ?_
 rintro _ ⟨k,rfl,hk⟩
 obtain rfl:k=3:=by omega
 refine rn trivial ?_
 rfl
def Qx4(n:Int)(h0:1<=n)(h1:n<=64):VCalls prog 25 [.int .i64 n] [] (Qz mdD fun a=>a.1.done.length<=16/\a.1.wait.length=0):=by
 refine dk Tryz.func25 ?_
 (unfold Tryz.f25; refine rn trivial ?_)
 have n1:¬ n<1:=by omega
 have n2:¬ n > 64:=by omega
 refine rn (Ja @n1 @n2) ?_
 refine Qbl (Qqv n (by omega) (by omega)) rfl ?_
 rintro _ ⟨k,rfl,hk⟩
 have hk2:k<=16:=by omega
 have hk3:(k:Int).toNat=k:=rfl
 refine rn @hk3 ?_
 exact⟨rfl,rfl,(⟨true,List.replicate k false,[]⟩,0),rfl,by simp; omega,rfl⟩
def Qut:VCalls prog 24 [.int .i64 10,.int .i64 2] [] (Ret (.tup [.int .i64 8,.int .i64 9,.bool true])):=by
 refine dk Tryz.func24 ?_
 (unfold Tryz.f24; refine rn trivial ?_)
 refine Qbl (QmG 10 (by omega) (by omega)) rfl ?_
 rintro _ ⟨k,rfl,hk⟩
 obtain rfl:k=3:=by omega
 (refine rn trivial ?_; try with_reducible exact⟨⟩)
def QuE:VCalls prog 5 [] [] (Ret (.bool true)):=by
 refine dk Tryz.func5 ?_
 (unfold Tryz.f5; refine rn trivial ?_)
 refine Qac Quu rfl ?_
 refine rn trivial ?_
 refine Qac Qut rfl ?_
 (refine rn trivial ?_; try with_reducible exact⟨⟩)
end
section
attribute [local go_sem] QiW Qk1 QjO Qfi Qsa QtB Qqz Qqw Qfh
def QB1(e:Enc α)(l:List α)(d:α)(i:Nat)(h:i<l.length):(fz e l)[i]?=some (e.enc (l.getD i d)):=by
 rw[Jf,Jv h]; exact QgE e l i h
def Qfd(l:List Bool)(i:Nat)(h:i<l.length):(fz Qcw l)[i]?=some [.lit (.bool (l.getD i false))]:=QB1 Qcw l false i h
def QkI(l:List Int)(i:Nat)(h:i<l.length):(fz QR l)[i]?=some [.lit (.int .i64 (l.getD i 0))]:=QB1 QR l 0 i h
def Qpd(l:List Bool):Bool:=(Jz l.length).all fun i=>l.getD i false
structure AllTo(l:List Bool) where
 i:Nat
 hi:i<=l.length
 ok:∀ k,k<i->l.getD k false=true
def AllTo.start(l:List Bool):AllTo l:=⟨0,Jy _,fun k h=>by omega⟩
def AllTo.next{l:List Bool}(s:AllTo l)(h:s.i<l.length)(hc:l.getD s.i false=true):AllTo l:=⟨s.i+1,h,fun k hk=>by
 rcases JW k s.i with hlt | hge
 ·exact s.ok k hlt
 ·obtain rfl:k = s.i:=by omega
  exact hc⟩
def AllTo.yes(s:AllTo l)(h:¬ s.i<l.length):Qpd l=true:=by
 unfold Qpd
 rw[JE]
 intro k hk
 rw[JC] at hk
 exact s.ok k (by omega)
def QtF(h:i<l.length)(hc:l.getD i false=false):Qpd l=false:=by
 unfold Qpd
 rw[J0]
 exact⟨i,JC.2 h,by rw[hc]; decide⟩
def Qqx(l:List Bool)(hl:l.length<=9223372036854775807):VCalls prog 62 [.pv (.sl (fz Qcw l))] [] (Ret (.bool (Qpd l))):=by
 refine dk Tryz.func62 ?_
 (unfold Tryz.f62; refine rn trivial ?_)
 refine Qg (fun s:AllTo l=>⟨15,0,[(3,.int .i64 s.i),(0,.pv (.sl (fz Qcw l)))],[]⟩) (fun s=>l.length-s.i) (AllTo.start l) (gc []) ?_
 intro s
 have hsi:=s.hi
 by_cases h:s.i<l.length
 ·have hg:=Qfd l s.i h
  cases hb:l.getD s.i false
  ·rw [hb] at hg
   have F:=@hg
   refine rn F ?_
   rw[QtF h hb]
  ·rw [hb] at hg
   have F:=@hg
   refine rn F ?_
   exact⟨s.next h hb,by show l.length-(s.i+1)<l.length-s.i; omega,(gc [])⟩
 ·skip
  have F:=trivial
  refine rn F ?_
  rw[s.yes h]
def Qux(l:List Bool)(hl:l.length<=9223372036854775807):VCalls prog 63 [.pv (.sl (fz Qcw l)),.bool false] [] (Qz (fun n:Int=>.int .i64 n) fun n=>decide (n >= 0)=!Qpd l):=by
 refine dk Tryz.func63 ?_
 (unfold Tryz.f63; refine rn trivial ?_)
 refine Qg (fun s:AllTo l=>⟨19,0,[(8,.int .i64 s.i),(7,.int .i64 l.length),(1,.bool false),(0,.pv (.sl (fz Qcw l)))],[]⟩) (fun s=>l.length-s.i) (AllTo.start l) (gc []) ?_
 intro s
 have hsi:=s.hi
 by_cases h:s.i<l.length
 ·have hg:=Qfd l s.i h
  cases hb:l.getD s.i false
  ·rw [hb] at hg
   have F:=@hg
   refine rn F ?_
   exact⟨rfl,rfl,s.i,rfl,by rw[QtF h hb]; simp⟩
  ·rw [hb] at hg
   have F:=@hg
   refine rn F ?_
   exact⟨s.next h hb,by show l.length-(s.i+1)<l.length-s.i; omega,(gc [])⟩
 ·skip
  have F:=trivial
  refine rn F ?_
  exact⟨rfl,rfl,-1,rfl,by rw[s.yes h]; simp⟩
def Qgd(l:List Bool)(hl:l.length<=9223372036854775807):VCalls prog 29 [.pv (.sl (fz Qcw l)),.bool false] [] (Ret (.bool (!Qpd l))):=by
 refine dk Tryz.func29 ?_
 (unfold Tryz.f29; refine rn trivial ?_)
 refine Qbl (Qux l hl) rfl ?_
 rintro _ ⟨n,rfl,hn⟩
 refine rn trivial ?_
 exact congrArg DV.bool hn
def vB(on:Bool)(l:List Bool):Bool:=if on=true then decide (1<=l.length)&&decide (l.length<=16)&&!Qpd l else decide (l.length=0)
def Qun(on:Bool)(l:List Bool)(hl:l.length<=1000000):VCalls prog 8 [.agg (Md.c ⟨on,l,[]⟩)] [] (Ret (.bool (vB on l))):=by
 refine dk Tryz.func8 ?_
 (unfold Tryz.f8; refine rn trivial ?_)
 have c1:=Qgd l (by omega)
 have e1:vB true l=(decide (1<=l.length)&&decide (l.length<=16)&&!Qpd l):=rfl
 cases on
 ·skip
  refine rn F ?_
  have e:(((l.length:Nat):Int)+((0:Nat):Int)==0)=vB false l:=by
   unfold vB
   rw[Jo]
   simp
  exact congrArg DV.bool e
 refine rn F ?_
 repeat' (first
  | with_reducible exact⟨⟩
  | (refine sG F ?_ ?_<;>intro hZ)
  | (refine sB F ?_ ?_<;>intro hZ)
  | refine vp F (c1) ?_)
 ·rw[e1,hZ]; simp
 ·refine Qg (fun _:Unit=>⟨70,0,[(40,.int .i64 0),(39,.int .i64 0)],[]⟩) (fun _=>0) () (gc []) ?_
  intro _
  refine rn F ?_
  rw[e1,hZ,decide_eq_true (by omega),decide_eq_true (by omega)]; rfl
 ·rw[e1,decide_eq_false (show ¬ l.length<=16 by omega),JH]; rfl
 ·rw[e1,decide_eq_false (show ¬ 1<=l.length by omega)]; rfl
structure Wo(l:List Int) where
 i:Nat
 o:List Int
 hi:i<=l.length
 ho:o.length<=i
@[go_sem] def ilW(l:List Int):DV:=.pv (.sl (fz QR l))
def QhB (l:List Int) (hl:l.length<=100000) (n:Int):VCalls prog 61 [.pv (.sl (fz QR l)),.int .i64 n] [] (Qz ilW fun m=>m.length<=l.length):=by
 refine dk Tryz.func61 ?_
 (unfold Tryz.f61; refine rn trivial ?_)
 refine VLoop.nilOwn 5 3 1 rfl ?_
 refine rn trivial ?_
 refine Qg (fun s:Wo l=>⟨27,0,[(6,.int .i64 s.i),(5,.own 0 1 0 s.o.length),(1,.int .i64 n),(0,.pv (.sl (fz QR l)))],[⟨3,true,cells QR s.o⟩]⟩) (fun s=>l.length-s.i) ⟨0,[],Jy _,Jy _⟩ (gc [0]) ?_
 rintro⟨i,o,hi,ho⟩
 dsimp only
 have hb:(o.length+1)*8<=140737488355328:=by omega
 have hg:=fun h:i<l.length=>QkI l i h
 have F:=(Ja @hg @hb)
 refine rn F ?_
 repeat' (first
  | with_reducible exact⟨⟩
  | (refine sB F ?_ ?_<;>intro hZ))
 all_goals first
  | exact⟨rfl,rfl,o,rfl,by omega⟩
  | exact⟨⟨i+1,o,by omega,by omega⟩,by dsimp only; omega,(gc [0])⟩
  | (refine ⟨⟨i + 1,o ++ [l.getD i 0],by omega,by rw [Je]; simp; omega⟩,by dsimp only; omega,?_⟩
     dsimp only
     rw[Je]
     exact(gc [2]))
def Md.sm(m:Md):Prop:=m.done.length<=16/\m.wait.length<=1000
def Qqu(m:Md)(hm:m.done.length<=1000000/\m.wait.length<=1000):VCalls prog 89 [.agg m.c] [] (Qz (fun b:Bool=>.bool b) fun b=>m.wait=[]->b=vB m.on m.done):=by
 refine dk Tryz.func89 ?_
 obtain⟨on,l,w⟩:=m
 obtain⟨h1,h2⟩:=hm
 dsimp only at h1 h2 |-
 (unfold Tryz.f89; refine rn trivial ?_)
 have c1:=Qqx l (by omega)
 have e1:vB true l=(decide (1<=l.length)&&decide (l.length<=16)&&!Qpd l):=rfl
 cases on
 ·skip
  refine rn F ?_
  repeat' (first
   | with_reducible exact⟨⟩
   | (refine sG F ?_ ?_<;>intro hZ))
  ·refine ⟨rfl,rfl,_,rfl,fun h=>?_⟩
   subst h
   unfold vB
   rw[if_neg (by decide),decide_eq_true (show l.length=0 by omega)]; rfl
  ·refine ⟨rfl,rfl,_,rfl,fun h=>?_⟩
   unfold vB
   rw[if_neg (by decide),decide_eq_false (show ¬ l.length=0 by omega)]
 refine rn F ?_
 repeat' (first
  | with_reducible exact⟨⟩
  | (refine sG F ?_ ?_<;>intro hZ)
  | (refine sB F ?_ ?_<;>intro hZ)
  | refine vp F (c1) ?_)
 ·exact⟨rfl,rfl,_,rfl,fun h=>by rw[e1,hZ]; simp⟩
 ·refine Qg (fun s:{i:Nat // i<=w.length}=>⟨74,0,[(3,.int .i64 s.1),(1,.ptr 0 0)],[⟨29,true,Md.c ⟨true,l,w⟩⟩]⟩) (fun s=>w.length - s.1) ⟨0,Jy _⟩ (gc [0]) ?_
  rintro⟨i,hi⟩
  dsimp only
  have hg:=fun h:i<w.length=>QkI w i h
  have hd:=fun(h0:¬ w.getD i 0<0) (h1:¬ (w.getD i 0) >= l.length)=>Qfd l (w.getD i 0).toNat (by omega)
  by_cases hlt:i<w.length
  ·have hne:∀ (b:Bool),w = []->b = vB true l:=fun b h=>by subst h; simp at hlt
   have F:=(Ja @hg @hd)
   refine rn F ?_
   repeat' (first
    | with_reducible exact⟨⟩
    | (refine sG F ?_ ?_<;>intro hZ)
    | (refine sB F ?_ ?_<;>intro hZ))
   all_goals first | exact⟨rfl,rfl,_,rfl,hne _⟩ | skip
   refine Qg (fun s:{k:Nat // k<=i}=>⟨74,0,[(5,.int .i64 s.1),(4,.int .i64 (w.getD i 0)),(3,.int .i64 i),(1,.ptr 0 0)],[⟨29,true,Md.c ⟨true,l,w⟩⟩]⟩) (fun s=>i-s.1) ⟨0,Jy _⟩ (gc [0]) ?_
   rintro⟨k,hk⟩
   dsimp only
   have hgk:=fun h:k<i=>QkI w k (by omega)
   have F:=@hgk
   refine rn F ?_
   repeat' (first
    | with_reducible exact⟨⟩
    | (refine sB F ?_ ?_<;>intro hZ))
   all_goals first
    | exact⟨rfl,rfl,_,rfl,hne _⟩
    | exact⟨⟨k+1,by omega⟩,by dsimp only; omega,(gc [0])⟩
    | exact⟨⟨i+1,by omega⟩,by dsimp only; omega,(gc [0])⟩
    | skip
  ·skip
   have F:=trivial
   refine rn F ?_
   exact⟨rfl,rfl,_,rfl,fun h=>by rw[e1,(by assumption:Qpd l=false),decide_eq_true (by omega),decide_eq_true (by omega)]; rfl⟩
 ·exact⟨rfl,rfl,_,rfl,fun h=>by rw[e1,decide_eq_false (show ¬ l.length<=16 by omega),JH]; rfl⟩
 ·exact⟨rfl,rfl,_,rfl,fun h=>by rw[e1,decide_eq_false (show ¬ 1<=l.length by omega)]; rfl⟩
def QmH(m:Md)(hm:m.sm)(n:Int):VCalls prog 60 [.agg m.c,.int .i64 n] [] (Qz (fun e:Int=>.int .i64 e) fun e=>e=0->0<=n/\n<m.done.length):=by
 refine dk Tryz.func60 ?_
 have c1:=Qqu m ⟨by have:=hm.1; omega,hm.2⟩
 obtain⟨on,l,w⟩:=m
 obtain⟨h1,h2⟩:=hm
 dsimp only at h1 h2 |-
 (unfold Tryz.f60; refine rn trivial ?_)
 refine Qbl c1 rfl ?_
 rintro _ ⟨b,rfl,-⟩
 refine rn F ?_
 repeat' (first
  | with_reducible exact⟨⟩
  | (refine sG F ?_ ?_<;>intro hZ)
  | (refine sB F ?_ ?_<;>intro hZ))
 all_goals exact⟨rfl,rfl,_,rfl,fun h=>by first | omega | exact absurd h (by decide)⟩
end
section
attribute [local go_sem] QiW Qk1 QjO Qfi Qsa QtB Qqz Qqw Qfh E.d
def Qpo(b:Bool):Int:=if b=true then 1 else 0
def QbR(m:Md)(k:Nat):List UInt8:=Qj (Qj [77,68] (Qpo m.on) 1) m.done.length 1++(m.done.take k).map fun b=>QcE (Qpo b) 0
def QcW(m:Md):E:=⟨0,8,0,0,0,0,Ch0,QbR m m.done.length⟩
abbrev eZs:List DV:=[.int .i64 0,.int .i64 0,.int .i64 0,.int .i64 0,.int .i64 0,.int .i64 0,.int .i64 0,.int .i64 0,.bool false,.pv (.str []),.bool false,.pv (.str []),.pv (.str [])]
def QeD(m:Md)(k:Nat)(h:k<=m.done.length):(QbR m k).length=4+k:=by
 simp[QbR,Qb]; omega
def QAj(m:Md):Qj (Qj [77,68] (Qpo m.on) 1) m.done.length 1=QbR m 0:=by simp[QbR]
def Qo7(m:Md)(i:Nat)(h:i<m.done.length):Qj (QbR m i) (Qpo (m.done.getD i false)) 1=QbR m (i+1):=by
 unfold QbR Qj
 rw[Jt h,List.map_append,Jf,Jv h]
 simp
def Qx7(m:Md)(hm:m.done.length<=16):VCalls prog 11 [.agg m.c] [] (Ret (.agg (QcW m).d)):=by
 refine dk Tryz.func11 ?_
 have q0:=fun b:Bool=>QBi b
 have q1:=QyO [77,68] (by decide) (Qpo m.on) 1 (by decide) (by decide)
 have q2:=QyO (Qj [77,68] (Qpo m.on) 1) (by rw[Qb]; simp) m.done.length 1 (by decide) (by decide)
 rw[QAj] at q2
 have e0:∀ b:Bool,(if b=true then (1:Int) else 0)=Qpo b:=fun _=>rfl
 simp only[e0] at q0
 have q00:=q0 m.on
 (unfold Tryz.f11; refine rn trivial ?_)
 refine rn F ?_
 repeat' (first
  | with_reducible exact⟨⟩
  | refine vp F (q00) ?_
  | refine vp F (q1) ?_
  | refine vp F (q2) ?_
  | (refine Qc (id:=1) [0,1,4,5,6] [⟨[],[],2,[0,4,5,6],[]⟩,⟨[],[],3,[0,1,4,5,6],[]⟩,⟨[],[],7,[0,1,4,5],[]⟩,⟨[],[],8,[],[]⟩] (by kernel_rfl) (by kernel_rfl) ?_; refine rn F ?_))
 refine Qg (fun s:{i:Nat // i<=m.done.length}=>⟨28,0,[(17,.int .i64 s.1),(16,.int .i64 m.done.length),(15,.pv (.sl (fz Qcw m.done))),(3,.pv (.str (QbR m s.1))),(2,.ptr 1 0)],[⟨29,true,m.c⟩,⟨44,true,eZs⟩]⟩) (fun s=>m.done.length-s.1) ⟨0,Jy _⟩ (gc [0,1]) ?_
 rintro⟨i,hi⟩
 dsimp only
 have hb:=QeD m i hi
 by_cases h:i<m.done.length
 ·have hg:=Qfd m.done i h
  have q3:=q0 (m.done.getD i false)
  have q4:=QyO (QbR m i) (by omega) (Qpo (m.done.getD i false)) 1 (by decide) (by decide)
  rw[Qo7 m i h] at q4
  have F:=@hg
  refine rn F ?_
  repeat' (first
   | with_reducible exact⟨⟩
   | refine vp F (q3) ?_
   | refine vp F (q4) ?_)
  exact⟨⟨i+1,h⟩,by dsimp only; omega,(gc [0,1])⟩
 ·obtain rfl:i = m.done.length:=by omega
  have F:=trivial
  refine rn F ?_
  rfl
end
section
attribute [local go_sem] QiW Qk1 QjO Qfi Qsa QtB Qqz Qqw Qfh
def QmD(s:List UInt8)(i:Nat)(h:i<s.length):s[i]?=some (s.getD i 0):=by rw[Jf,Jv h]; rfl
def sb(s:List UInt8)(k:Nat):Nat:=(s.getD k 0).toNat
def QdT(s:List UInt8)(n:Nat):List Bool:=(Jz n).map fun i=>decide (sb s (4+i)=1)
def QkV(s:List UInt8)(n:Nat):(QdT s n).length=n:=by simp[QdT]
def Qo8(s:List UInt8)(n:Nat):QdT s n++[decide (sb s (4+n)=1)]=QdT s (n+1):=by simp[QdT,J4]
def QcS(s:List UInt8)(n:Nat):Bool:=(Jz n).all fun i=>decide (sb s (4+i)<=1)
def rdS(s:List UInt8):Md:=⟨decide (sb s 2=1),QdT s (s.length-4),[]⟩
def Qcz(s:List UInt8):Bool:=decide (4<=s.length)&&decide (s.take 2=[77,68])&&decide (s.length=4+sb s 3)&&decide (sb s 2<=1)&&QcS s (s.length-4)&&vB (rdS s).on (rdS s).done
def Qqy(h:k<n)(hk:¬ sb s (4+k)<=1):QcS s n=false:=by
 unfold QcS
 rw[J0]
 exact⟨k,JC.2 h,by simpa using hk⟩
def QlA(h:QcS s n=true)(hk:sb s (4+n)<=1):QcS s (n+1)=true:=by
 unfold QcS at *
 rw[J4,List.all_append,h]
 simpa using hk
def QAi(h:¬ 4<=s.length):Qcz s=false:=by unfold Qcz; rw[decide_eq_false h]; rfl
def QAh(h:¬ s.take 2=[77,68]):Qcz s=false:=by unfold Qcz; rw[decide_eq_false h]; simp
def QAg(h:¬ s.length=4+sb s 3):Qcz s=false:=by unfold Qcz; rw[decide_eq_false h]; simp
def QAf(h:¬ sb s 2<=1):Qcz s=false:=by unfold Qcz; rw[decide_eq_false h]; simp
def QAe(h:QcS s (s.length-4)=false):Qcz s=false:=by unfold Qcz; rw[h]; simp
def QAd(h1:4<=s.length)(h2:s.take 2=[77,68])(h3:s.length=4+sb s 3)(h4:sb s 2<=1)(h5:QcS s (s.length-4)=true):Qcz s=vB (rdS s).on (rdS s).done:=by
 unfold Qcz; rw[decide_eq_true h1,decide_eq_true h2,decide_eq_true h3,decide_eq_true h4,h5]; simp
@[go_sem] def mbD(a:Md×Bool):DV:=.tup [.agg a.1.c,.bool a.2]
structure RsM(s:List UInt8) where
 i:Nat
 on:Bool
 n:Nat
 hi:2<=i/\i<=s.length
 h2:2<i->on=decide (sb s 2=1)/\sb s 2<=1
 hn:n=i-4
 ok:QcS s n=true
def Qx5(s:List UInt8)(hs:s.length<=100000):VCalls prog 39 [.pv (.str s)] [] (Qz mbD fun a=>a.2=Qcz s/\(a.2=true->a.1=rdS s)):=by
 refine dk Tryz.func39 ?_
 (unfold Tryz.f39; refine rn trivial ?_)
 have no:Qcz s=false->Qz mbD (fun a=>a.2=Qcz s/\(a.2=true->a.1=rdS s)) (.tup [.agg [.bool false,.pv (.sl []),.pv (.sl [])],.bool false]) []:=fun h=>⟨rfl,rfl,(⟨false,[],[]⟩,false),rfl,by rw[h],fun h=>by cases h⟩
 by_cases h4:4<=s.length
 rotate_left
 ·have h4':(s.length:Int) < 4:=by omega
  have F:=@h4'
  (refine rn F ?_; try with_reducible exact⟨⟩)
  all_goals exact no (QAi h4)
 have h4':¬ (s.length:Int)<4:=by omega
 have g3:=QmD s 3 (by omega)
 have hlt3:(s.getD 3 0).toNat<256:=UInt8.toNat_lt _
 have hw:IntKind.i64.wrap (4+IntKind.i64.wrap ((s.getD 3 0).toNat:Int))=4+((s.getD 3 0).toNat:Int):=by
  rw[Qbz (n:=((s.getD 3 0).toNat:Int)) (by omega),Qbz (by omega)]
 have e3:sb s 3=(s.getD 3 0).toNat:=rfl
 have F:=(Ja @h4' (Ja @g3 @hw))
 refine rn F ?_
 repeat' (first
  | with_reducible exact⟨⟩
  | (refine sG F ?_ ?_<;>intro hZ)
  | (refine sB F ?_ ?_<;>intro hZ))
 ·exact no (QAg (by omega))
 rotate_left
 ·exact no (QAh (by assumption))
 have hmk:s.take 2=[77,68]:=by assumption
 have hln:s.length=4+sb s 3:=by omega
 refine VLoop.nilOwnC 1 1 4 1 rfl rfl ?_
 refine rn trivial ?_
 refine Qg (fun t:RsM s=>⟨59,0,[(5,.int .i64 t.i),(4,.ptr 1 0),(2,.ptr 0 0),(0,.pv (.str s))],[⟨29,true,[.bool false,.pv (.slc []),.pv (.slc [])]⟩,⟨29,true,[.bool t.on,.own 2 1 0 (QdT s t.n).length,.pv (.slc [])]⟩,⟨4,true,cells Qcw (QdT s t.n)⟩]⟩) (fun t=>s.length-t.i) ⟨2,false,0,by omega,fun h=>by omega,rfl,rfl⟩ (gc [0,1,2]) ?_
 rintro⟨i,on,n,hi,h2,hn,hok⟩
 dsimp only
 have hbl:=QkV s n
 by_cases hil:i<s.length
 ·have hil':(i:Int) < s.length:=by omega
  have hg:=QmD s i hil
  have hbd:(QdT s n).length<=140737488355327:=by omega
  have esb:sb s i=(s.getD i 0).toNat:=rfl
  have e5:(((s.getD i 0).toNat:Int)==1)=decide (sb s i=1):=by rw[Jo,beq_iff_eq,decide_eq_true_eq]; omega
  by_cases i3:i=3
  ·subst i3
   have hi3:((3:Nat):Int)=3:=rfl
   have F:=(Ja @hil' @hi3)
   refine rn F ?_
   exact⟨⟨4,on,0,by omega,fun _=>h2 (by omega),rfl,rfl⟩,by dsimp only; omega,by subst hn; exact(gc [0,1,2])⟩
  have hi3:¬ (i:Int)=3:=by omega
  by_cases h1:sb s i<=1
  rotate_left
  ·have hgt:((s.getD i 0).toNat:Int) > 1:=by omega
   have F:=(Ja @hil' (Ja @hi3 (Ja @hg @hgt)))
   refine rn F ?_
   by_cases i2:i=2
   ·subst i2; exact no (QAf h1)
   ·refine no (QAe (Qqy (k:=i - 4) (by omega) ?_))
    rw[show 4+(i-4)=i by omega]; exact h1
  have hgt:¬ ((s.getD i 0).toNat:Int) > 1:=by omega
  by_cases i2:i=2
  ·subst i2
   obtain rfl:n=0:=by omega
   have hi2:((2:Nat):Int)=2:=rfl
   have F:=(Ja @hil' (Ja @hi3 (Ja @hg (Ja @hgt (Ja @hi2 @e5)))))
   refine rn F ?_
   exact⟨⟨3,decide (sb s 2=1),0,by omega,fun _=>⟨rfl,h1⟩,rfl,rfl⟩,by dsimp only; omega,(gc [0,1,2])⟩
  have hi2:¬ (i:Int)=2:=by omega
  obtain rfl:i=4+n:=by omega
  have e6:=Qo8 s n
  have F:=(Ja @hil' (Ja @hi3 (Ja @hg (Ja @hgt (Ja @hi2 (Ja @hbd (Ja @e5 @e6)))))))
  refine rn F ?_
  repeat' (first
   | with_reducible exact⟨⟩
   | (refine Qc (id:=7) [0,1,2,3,4,5] [⟨[6],[6],7,[0,2,3,4,5],[8]⟩,⟨[],[],9,[],[]⟩] (by kernel_rfl) (by kernel_rfl) ?_; refine rn F ?_))
  refine⟨⟨4+n+1,on,n+1,by omega,fun _=>h2 (by omega),by omega,QlA hok h1⟩,by dsimp only; omega,?_⟩
  dsimp only
  rw[QkV s (n+1),hbl]
  exact(gc [0,1,4])
 ·obtain rfl:i = s.length:=by omega
  have hv:=Qun on (QdT s n) (by omega)
  have hv2:VCalls prog 8 [.agg [.bool on,.pv (.sl (fz Qcw (QdT s n))),.pv (.slc [])]] [] (Ret (.bool (vB on (QdT s n)))):=VCalls.wkA hv
  obtain⟨q1,q2⟩:=h2 (by omega)
  have F:=trivial
  refine rn F ?_
  repeat' (first
   | with_reducible exact⟨⟩
   | refine vl F (hv2) ?_
   | (refine Qc (id:=13) [0,1] [⟨[],[],2,[0],[]⟩,⟨[],[],3,[1],[]⟩,⟨[],[],4,[],[]⟩] (by kernel_rfl) (by kernel_rfl) ?_; refine rn F ?_))
  subst hn
  subst q1
  exact⟨rfl,rfl,(rdS s,vB (decide (sb s 2=1)) (QdT s (s.length-4))),rfl,by rw[QAd h4 hmk hln q2 hok]; rfl,fun _=>rfl⟩
end
section
attribute [local go_sem] Qa5
def Pg.numB(p:Pg):Bool:=decide (0<=p.id)&&decide (p.id<64)&&decide (0<=p.lsn)&&decide (p.lsn<=1099511627776)
def Pg.celC(p:Pg)(i:Nat):Bool:=(p.cel i).okB&&!(decide (p.lsn=0)&&(p.cel i).set)
def Pg.celB(p:Pg):Bool:=(Jz 16).all p.celC
def Pg.okB(p:Pg):Bool:=p.numB&&p.celB
def QaI(p:Pg):Int:=if p.numB=false then 1 else if p.celB=false then 22 else 0
def QwP(p:Pg):VCalls prog 227 [.agg p.d] [] (Ret (.bool p.numB)):=by
 refine dd Tryz.func227 ?_
 (unfold Tryz.f227; refine rn trivial ?_)
 refine rn F ?_
 repeat' (first
  | with_reducible exact⟨⟩
  | (refine sG F ?_ ?_<;>intro hZ))
 all_goals (first | rfl | (congr 3; rw[Jo]; (try simp only[Pg.numB,decide_eq_true_eq,Jb,Jh,Ji,Jg,decide_eq_false_iff_not,beq_iff_eq,bne_iff_ne,ne_eq,Jp,Js,iff_true,true_iff,iff_false,false_iff]); first | done | omega | grind))
def QmX(p:Pg):VCalls prog 228 [.agg p.d] [] (Ret (.bool p.celB)):=by
 refine dd Tryz.func228 ?_
 (unfold Tryz.f228; refine rn trivial ?_)
 refine Qg (fun s:Okay 16 p.celC=>⟨26,0,[(3,.int .i64 s.i),(1,.ptr 0 0)],[⟨207,true,p.d⟩]⟩) (fun s=>16-s.i) (Okay.start _ _) (gc [0]) ?_
 intro s
 have hsi:=s.hi
 have hg:=fun h:s.i<16=>Qny p s.i h
 have hg0:=fun h:s.i<16=>Qts p s.i h
 have e:p.celC s.i=((p.cel s.i).okB&&!(decide (p.lsn=0)&&(p.cel s.i).set)):=rfl
 have c:=Qgn (p.cel s.i)
 generalize (p.cel s.i).okB=ok at *
 have F:=(Ja @hg @hg0)
 refine rn F ?_
 repeat' (first
  | with_reducible exact⟨⟩
  | (refine sG F ?_ ?_<;>intro hZ)
  | (refine sB F ?_ ?_<;>intro hZ)
  | refine vp F (c) ?_)
 all_goals first | (exact congrArg DV.bool (s.no (by omega) rfl (by rw[e]; simp_all )).symm) | (exact congrArg DV.bool (s.yes (by omega) rfl).symm) | (exact⟨s.next (by omega) (by rw[e]; simp_all ),s.dec (by omega),(gc [ 0])⟩) | skip
def QqZ(p:Pg):VCalls prog 175 [.agg p.d] [] (Ret (.bool p.okB)):=by
 refine dd Tryz.func175 ?_
 have c1:=QwP p
 have c2:=QmX p
 have e:p.okB=(p.numB&&p.celB):=rfl
 generalize p.numB=a at *
 generalize p.celB=b at *
 (unfold Tryz.f175; refine rn trivial ?_)
 refine rn F ?_
 repeat' (first
  | with_reducible exact⟨⟩
  | (refine sG F ?_ ?_<;>intro hZ)
  | refine vp F (c1) ?_
  | refine vp F (c2) ?_)
 all_goals (rw[e]; simp_all)
def Qdn(p:Pg):VCalls prog 176 [.agg p.d] [] (Ret (.int .i64 (QaI p))):=by
 refine dd Tryz.func176 ?_
 have c1:=QwP p
 have c2:=QmX p
 have e:QaI p=if p.numB=false then 1 else if p.celB=false then 22 else 0:=rfl
 generalize p.numB=a at *
 generalize p.celB=b at *
 (unfold Tryz.f176; refine rn trivial ?_)
 refine rn F ?_
 repeat' (first
  | with_reducible exact⟨⟩
  | (refine sB F ?_ ?_<;>intro hZ)
  | refine vp F (c1) ?_
  | refine vp F (c2) ?_)
 all_goals (rw[e]; simp_all)
def Qtn(h:QaI p=0):p.okB=true:=by
 unfold QaI at h
 unfold Pg.okB
 split at h
 ·simp at h
 split at h
 ·simp at h
 ·simp_all
end
section
attribute [local go_sem] Qa5
def idF(l:List Fm)(a:Int):Int:=Qk9 l fun f=>f.pg.id==a
def Qct(p:Pl)(hl:p.fs.length<=1000000)(a:Int):VCalls prog 144 [.agg p.d,.int .i64 a] [] (Ret (.int .i64 (idF p.fs a))):=by
 refine dd Tryz.func144 ?_
 obtain⟨z,l,h⟩:=p
 (unfold Tryz.f144; refine rn trivial ?_)
 refine Qg (fun i:Pass l (fun x=>(x.pg.id==a)=true)=>⟨23,0,[(5,.int .i64 i.i),(2,.ptr 0 0),(1,.int .i64 a)],[⟨52,true,Pl.d ⟨z,l,h⟩⟩]⟩) (fun i=>l.length-i.i) (Pass.start l _) (gc [0]) ?_
 intro i
 have hi:=i.hi
 dsimp only at hl
 have hg:=fun h:i.i<l.length=>QbV l i.i h
 have F:=@hg
 refine rn F ?_
 repeat' (first
  | with_reducible exact⟨⟩
  | (refine sB F ?_ ?_<;>intro hZ))
 ·have hq:(l.getD i.i Fm0).pg.id = a:=by assumption
  rw[Qd l i.i (by omega)] at hq
  have:=Qsu l (fun x=>x.pg.id==a) i.i (by omega) (by simpa using hq) i.no
  rw[idF,this]
 ·have hq:¬ (l.getD i.i Fm0).pg.id = a:=by assumption
  rw[Qd l i.i (by omega)] at hq
  exact⟨i.next (by omega) (by simpa using hq),by show l.length-(i.i+1)<l.length-i.i; omega,(gc [0])⟩
 ·have:=i.all (by omega)
  rw[idF,Qk9,if_neg (by simpa using this)]
def Qxb(l:List Fm)(i k:Nat):Bool:=!decide ((l.getD k Fm0).pg.id=(l.getD i Fm0).pg.id)
def frC(l:List Fm)(i:Nat):Bool:=(l.getD i Fm0).pg.okB&&!((l.getD i Fm0).dirty&&(decide ((l.getD i Fm0).rc<1)||decide ((l.getD i Fm0).pg.lsn<(l.getD i Fm0).rc)))&&!(!(l.getD i Fm0).dirty&&!decide ((l.getD i Fm0).rc=0))&&(Jz i).all (Qxb l i)
def Pl.hd(p:Pl):Prop:=1<=p.size/\p.size<=64/\p.fs.length<=p.size/\0<=p.hand/\p.hand<=max 0 ((p.fs.length:Int)-1)
instance (p:Pl):Decidable p.hd:=by unfold Pl.hd; infer_instance
def plB(p:Pl):Bool:=decide p.hd&&(Jz p.fs.length).all (frC p.fs)
def Qj8{p:Pl}(h:plB p=true):p.hd:=by unfold plB at h; simp at h; exact h.1
def Qaj(p:Pl)(hl:p.fs.length<=1000000):VCalls prog 143 [.agg p.d] [] (Ret (.bool (plB p))):=by
 refine dd Tryz.func143 ?_
 obtain⟨z,l,hn⟩:=p
 dsimp only at hl
 have hB:plB ⟨z,l,hn⟩=(decide (Pl.hd ⟨z,l,hn⟩)&&(Jz l.length).all (frC l)):=rfl
 have hH:Pl.hd ⟨z,l,hn⟩=(1<=z/\z<=64/\l.length<=z/\0<=hn/\hn<=max 0 ((l.length:Int)-1)):=rfl
 have hB':Pl.hd ⟨z,l,hn⟩->plB ⟨z,l,hn⟩=(Jz l.length).all (frC l):=fun h=>by rw[hB,decide_eq_true h,Ku]
 have no:¬ Pl.hd ⟨z,l,hn⟩->plB ⟨z,l,hn⟩=false:=fun h=>by rw[hB,decide_eq_false h]; rfl
 generalize plB ⟨z,l,hn⟩=b at *
 (unfold Tryz.f143; refine rn trivial ?_)
 refine rn F ?_
 repeat' (first
  | with_reducible exact⟨⟩
  | (refine sG F ?_ ?_<;>intro hZ)
  | (refine sB F ?_ ?_<;>intro hZ))
 all_goals first | (rw[no (by rw[hH]; omega)]) | skip
 refine Qg (fun s:Okay l.length (frC l)=>⟨94,0,[(4,.int .i64 s.i),(3,.int .i64 l.length),(1,.ptr 0 0)],[⟨52,true,Pl.d ⟨z,l,hn⟩⟩]⟩) (fun s=>l.length-s.i) (Okay.start _ _) (gc [0]) ?_
 intro s
 have hsi:=s.hi
 have hg:=fun h:s.i<l.length=>QbV l s.i h
 have c1:=QqZ (l.getD s.i Fm0).pg
 have e:frC l s.i=((l.getD s.i Fm0).pg.okB&&!((l.getD s.i Fm0).dirty&&(decide ((l.getD s.i Fm0).rc<1)||decide ((l.getD s.i Fm0).pg.lsn<(l.getD s.i Fm0).rc)))&&!(!(l.getD s.i Fm0).dirty&&!decide ((l.getD s.i Fm0).rc=0))&&(Jz s.i).all (Qxb l s.i)):=rfl
 generalize (l.getD s.i Fm0).pg.okB=ok at *
 have F:=@hg
 refine rn F ?_
 repeat' (first
  | with_reducible exact⟨⟩
  | (refine sG F ?_ ?_<;>intro hZ)
  | (refine sB F ?_ ?_<;>intro hZ)
  | refine vp F (c1) ?_)
 all_goals first
  | (exact congrArg DV.bool (s.no (by omega) (hB' (by rw[hH]; omega)) (by rw[e]; simp_all)).symm)
  | (exact congrArg DV.bool (s.yes (by omega) (hB' (by rw[hH]; omega))).symm)
  | skip
 all_goals
  refine Qg (fun r:Okay s.i (Qxb l s.i)=>⟨94,0,[(6,.int .i64 r.i),(5,.ptr 1 0),(4,.int .i64 s.i),(3,.int .i64 l.length),(1,.ptr 0 0)],[⟨52,true,Pl.d ⟨z,l,hn⟩⟩,⟨211,true,(l.getD s.i Fm0).d⟩]⟩) (fun r=>s.i-r.i) (Okay.start _ _) (gc [0,1]) ?_
  intro r
  have hri:=r.hi
  have hk:=fun h:r.i<l.length=>QbV l r.i h
  have e2:Qxb l s.i r.i=!decide ((l.getD r.i Fm0).pg.id=(l.getD s.i Fm0).pg.id):=rfl
  have F:=@hk
  refine rn F ?_
  repeat' (first
   | with_reducible exact⟨⟩
   | (refine sB F ?_ ?_<;>intro hZ)
   | (refine Qc (id:=13) [0,1,2,3,4,5,6,7,8,9,10] [] (by kernel_rfl) (by kernel_rfl) ?_; refine rn F ?_))
 all_goals first
  | (exact congrArg DV.bool (s.no (by omega) (hB' (by rw[hH]; omega)) (by rw[e,Qaz (i:=r.i) (by omega) (by rw[e2]; simp_all),JH])).symm)
  | (exact⟨r.next (by omega) (by rw[e2]; simp_all),r.dec (by omega),(gc [0,1])⟩)
  | (exact⟨s.next (by omega) (by rw[e,r.all (by omega)]; simp_all),s.dec (by omega),(gc [0])⟩)
  | skip
end
section
attribute [local go_sem] Qa5
def Qbe(p:Pl)(a:Int):Int:=if plB p=true then idF p.fs a else -1
def QaU(l:List Fm)(a:Int):idF l a=-1\/∃ i:Nat,∃ _:i<l.length,idF l a=i/\(l.getD i Fm0).pg.id=a:=by
 rcases Qst l (fun f=>f.pg.id==a) with⟨h,_⟩ | ⟨i,hi,h,hf⟩
 ·exact .inl h
 ·refine .inr ⟨i,hi,h,?_⟩
  have:=List.find?_some hf
  rw[Qd l i hi]; simpa using this
def QbN(p:Pl)(a:Int):Qbe p a=-1\/(plB p=true/\∃ i:Nat,∃ _:i<p.fs.length,Qbe p a=i/\idF p.fs a=i/\(p.fs.getD i Fm0).pg.id=a):=by
 unfold Qbe
 split
 ·rename_i hv
  rcases QaU p.fs a with h | ⟨i,hi,h,hx⟩
  ·exact .inl h
  ·exact .inr ⟨hv,i,hi,h,h,hx⟩
 ·exact .inl rfl
def Qep(p:Pl)(a:Int):Pg×Bool:=if Qbe p a<0 then (Pg0,false) else ((p.fs.getD (Qbe p a).toNat Fm0).pg,true)
def Qcs(p:Pl)(hl:p.fs.length<=1000000)(a:Int):VCalls prog 126 [.agg p.d,.int .i64 a] [] (Ret (.int .i64 (Qbe p a))):=by
 refine dd Tryz.func126 ?_
 have c1:=Qaj p hl
 have c2:=Qct p hl a
 unfold Qbe
 generalize plB p=b at *
 (unfold Tryz.f126; refine rn trivial ?_)
 refine rn F ?_
 repeat' (first
  | with_reducible exact⟨⟩
  | (refine sB F ?_ ?_<;>intro hZ)
  | refine vp F (c1) ?_
  | refine vp F (c2) ?_)
 all_goals (simp_all)
def Qgh(p:Pl)(hl:p.fs.length<=1000000)(a:Int):VCalls prog 141 [.agg p.d,.int .i64 a] [] (Ret (.tup [.agg (Qep p a).1.d,.bool (Qep p a).2])):=by
 refine dd Tryz.func141 ?_
 have c1:=Qcs p hl a
 unfold Qep
 rcases QbN p a with h | ⟨_,i,hi,h,_⟩
 ·rw [h] at c1 |-
  (unfold Tryz.f141; refine rn trivial ?_)
  refine rn F ?_
  repeat' (first
   | with_reducible exact⟨⟩
   | refine vp F (c1) ?_)
  all_goals rfl
 ·rw [h] at c1 |-
  rw[if_neg (by omega),Jw]
  have hg:=QbV p.fs i hi
  generalize p.fs.getD i Fm0=f at *
  (unfold Tryz.f141; refine rn trivial ?_)
  have F:=@hg
  refine rn F ?_
  repeat' (first
   | with_reducible exact⟨⟩
   | refine vp F (c1) ?_)
def Qye(l:List Fm)(i:Nat)(f:Fm)(hi:i<l.length):(cells Qco l).take (i*37)++f.d++(cells Qco l).drop (i*37+37)=cells Qco (l.set i f):=QqD Qco l i f hi
def QiD(p:Pl)(hl:p.fs.length<=1000000)(i:Nat)(hi:i<p.fs.length)(f:Fm):VCalls prog 231 [.agg p.d,.int .i64 i,.agg f.d] [] (Ret (.agg (Pl.d ⟨p.size,p.fs.set i f,p.hand⟩))):=by
 refine dd Tryz.func231 ?_
 obtain⟨z,l,hn⟩:=p
 dsimp only at hl hi
 have hb:i*37+37<=l.length*37:=by omega
 have hse:=Qye l i f hi
 have hle:(l.set i f).length=l.length:=J6
 (unfold Tryz.f231; refine rn trivial ?_)
 have F:=(Ja @hb (Ja @hse @hle))
 (refine rn F ?_; try with_reducible exact⟨⟩)
def QxS(p:Pl)(a:Int):Pl:=if Qbe p a<0 then p else ⟨p.size,p.fs.set (Qbe p a).toNat ⟨(p.fs.getD (Qbe p a).toNat Fm0).pg,(p.fs.getD (Qbe p a).toNat Fm0).dirty,(p.fs.getD (Qbe p a).toNat Fm0).rc,true⟩,p.hand⟩
def Qyq(p:Pl)(hl:p.fs.length<=1000000)(a:Int):VCalls prog 264 [.agg p.d,.int .i64 a] [] (Ret (.agg (QxS p a).d)):=by
 refine dd Tryz.func264 ?_
 have c1:=Qcs p hl a
 unfold QxS
 rcases QbN p a with h | ⟨_,i,hi,h,_⟩
 ·rw [h] at c1 |-
  (unfold Tryz.f264; refine rn trivial ?_)
  refine rn F ?_
  repeat' (first
   | with_reducible exact⟨⟩
   | refine vp F (c1) ?_)
  all_goals rfl
 ·rw [h] at c1 |-
  rw[if_neg (by omega),Jw]
  have hg:=QbV p.fs i hi
  have c2:=QiD p hl i hi ⟨(p.fs.getD i Fm0).pg,(p.fs.getD i Fm0).dirty,(p.fs.getD i Fm0).rc,true⟩
  generalize p.fs.getD i Fm0=f at *
  (unfold Tryz.f264; refine rn trivial ?_)
  have F:=@hg
  refine rn F ?_
  repeat' (first
   | with_reducible exact⟨⟩
   | refine vp F (c1) ?_
   | refine vp F (c2) ?_)
def Qhb(n:Int):Pl×Int:=if n<1\/64<n then (Pl0,1) else (⟨n,[],0⟩,0)
def Qq0(n:Int):VCalls prog 106 [.int .i64 n] [] (Ret (.tup [.agg (Qhb n).1.d,.int .i64 (Qhb n).2])):=by
 refine dk Tryz.func106 ?_
 unfold Qhb
 (unfold Tryz.f106; refine rn trivial ?_)
 refine rn F ?_
 repeat' (first
  | with_reducible exact⟨⟩
  | (refine sG F ?_ ?_<;>intro hZ)
  | (refine sB F ?_ ?_<;>intro hZ))
 all_goals first | (rw[if_pos (by omega)]; rfl) | (rw[if_neg (by omega)]; rfl)
def Qm3(p:Pl)(x:Pg):Pl×Int:=
 if plB p=false then (Pl0,15) else if QaI x≠0 then (Pl0,QaI x) else if 0<=idF p.fs x.id then (Pl0,25) else if (p.fs.length:Int)=p.size then (Pl0,21)
 else (⟨p.size,p.fs++[⟨x,false,0,true⟩],p.hand⟩,0)
def Qys(p:Pl)(hl:p.fs.length<=100000)(x:Pg):VCalls prog 206 [.agg p.d,.agg x.d] [] (Ret (.tup [.agg (Qm3 p x).1.d,.int .i64 (Qm3 p x).2])):=by
 refine dk Tryz.func206 ?_
 have c1:=Qaj p (by omega)
 have c2:=Qdn x
 have c3:=Qct p (by omega) x.id
 have e:Qm3 p x=if plB p=false then (Pl0,15) else if QaI x≠0 then (Pl0,QaI x) else if 0<=idF p.fs x.id then (Pl0,25) else if (p.fs.length:Int)=p.size then (Pl0,21)
  else (⟨p.size,p.fs++[⟨x,false,0,true⟩],p.hand⟩,0):=rfl
 generalize Qm3 p x=r at *
 generalize plB p=b at *
 generalize QaI x=k at *
 generalize idF p.fs x.id=m at *
 have hb:(p.fs.length+1)*304<=140737488355328:=by omega
 (unfold Tryz.f206; refine rn trivial ?_)
 have F:=@hb
 refine rn F ?_
 repeat' (first
  | with_reducible exact⟨⟩
  | (refine sB F ?_ ?_<;>intro hZ)
  | refine vp F (c1) ?_
  | refine vp F (c2) ?_
  | refine vp F (c3) ?_
  | (refine Qc (id:=10) [0,1,3,4] [⟨[5],[],2,[0,3,4],[]⟩,⟨[5],[5],6,[0,1,3,4],[7]⟩,⟨[],[],8,[],[]⟩] (by kernel_rfl) (by kernel_rfl) ?_; refine rn F ?_))
 all_goals first | (first | (rw[e]; simp(disch:=first | assumption | omega | exact rfl | exact nf (by assumption) | exact nt (by assumption) | decide | fail) only[if_pos,if_neg]; first | done | rfl) | (rw[e]; simp(disch:=first | assumption | omega | exact rfl | exact nf (by assumption) | exact nt (by assumption) | decide | (simp_all; done) | fail) only[if_pos,if_neg]; first | done | rfl)) | skip
end
section
attribute [local go_sem] Qa5
def Qpi(f:Fm)(x:Pg):Fm:=⟨x,true,if f.dirty=true then f.rc else x.lsn,true⟩
def Qjd(p:Pl)(x:Pg):Pl×Int:=
 if plB p=false then (Pl0,15) else if QaI x≠0 then (Pl0,QaI x) else if idF p.fs x.id<0 then (Pl0,18)
 else if x.lsn<=(p.fs.getD (idF p.fs x.id).toNat Fm0).pg.lsn then (Pl0,8)
 else (⟨p.size,p.fs.set (idF p.fs x.id).toNat (Qpi (p.fs.getD (idF p.fs x.id).toNat Fm0) x),p.hand⟩,0)
def Qyr(p:Pl)(hl:p.fs.length<=100000)(x:Pg):VCalls prog 257 [.agg p.d,.agg x.d] [] (Ret (.tup [.agg (Qjd p x).1.d,.int .i64 (Qjd p x).2])):=by
 refine dk Tryz.func257 ?_
 have c1:=Qaj p (by omega)
 have c2:=Qdn x
 have c3:=Qct p (by omega) x.id
 have c4:=QiD p (by omega)
 have e:Qjd p x=if plB p=false then (Pl0,15) else if QaI x≠0 then (Pl0,QaI x) else if idF p.fs x.id<0 then (Pl0,18)
  else if x.lsn<=(p.fs.getD (idF p.fs x.id).toNat Fm0).pg.lsn then (Pl0,8)
  else (⟨p.size,p.fs.set (idF p.fs x.id).toNat (Qpi (p.fs.getD (idF p.fs x.id).toNat Fm0) x),p.hand⟩,0):=rfl
 have hi:=QaU p.fs x.id
 generalize Qjd p x=r at *
 generalize plB p=b at *
 generalize QaI x=k at *
 rcases hi with h | ⟨i,hi,h,_⟩
 ·rw [h] at c3 e
  (unfold Tryz.f257; refine rn trivial ?_)
  refine rn F ?_
  repeat' (first
   | with_reducible exact⟨⟩
   | (refine sB F ?_ ?_<;>intro hZ)
   | refine vp F (c1) ?_
   | refine vp F (c2) ?_
   | refine vp F (c3) ?_)
  all_goals first | (first | (rw[e]; simp(disch:=first | assumption | omega | exact rfl | exact nf (by assumption) | exact nt (by assumption) | decide | fail) only[if_pos,if_neg]; first | done | rfl) | (rw[e]; simp(disch:=first | assumption | omega | exact rfl | exact nf (by assumption) | exact nt (by assumption) | decide | (simp_all; done) | fail) only[if_pos,if_neg]; first | done | rfl)) | skip
 ·rw [h] at c3 e
  rw[Jw] at e
  have hg:=QbV p.fs i hi
  have e2:∀ f:Fm,f.dirty=true->Qpi f x=⟨x,true,f.rc,true⟩:=fun f h=>by unfold Qpi; rw[if_pos h]
  have e3:∀ f:Fm,¬ f.dirty=true->Qpi f x=⟨x,true,x.lsn,true⟩:=fun f h=>by unfold Qpi; rw[if_neg h]
  have c4:=fun f=>c4 i hi f
  generalize p.fs.getD i Fm0=f at *
  (unfold Tryz.f257; refine rn trivial ?_)
  have F:=@hg
  refine rn F ?_
  repeat' (first
   | with_reducible exact⟨⟩
   | (refine sB F ?_ ?_<;>intro hZ)
   | refine vp F (c1) ?_
   | refine vp F (c2) ?_
   | refine vp F (c3) ?_
   | refine vp F (c4 ⟨_,_,_,_⟩) ?_)
  all_goals first | (first | (rw[e]; simp(disch:=first | assumption | omega | exact rfl | exact nf (by assumption) | exact nt (by assumption) | decide | fail) only[if_pos,if_neg]; first | done | rfl) | (rw[e]; simp(disch:=first | assumption | omega | exact rfl | exact nf (by assumption) | exact nt (by assumption) | decide | (simp_all; done) | fail) only[if_pos,if_neg]; first | done | rfl)) | (first | (rw[e,e2 f (by assumption)]; simp(disch:=first | assumption | omega | exact rfl | exact nf (by assumption) | exact nt (by assumption) | decide | fail) only[if_pos,if_neg]; first | done | rfl) | (rw[e,e2 f (by assumption)]; simp(disch:=first | assumption | omega | exact rfl | exact nf (by assumption) | exact nt (by assumption) | decide | (simp_all; done) | fail) only[if_pos,if_neg]; first | done | rfl)) | (first | (rw[e,e3 f (by simp_all)]; simp(disch:=first | assumption | omega | exact rfl | exact nf (by assumption) | exact nt (by assumption) | decide | fail) only[if_pos,if_neg]; first | done | rfl) | (rw[e,e3 f (by simp_all)]; simp(disch:=first | assumption | omega | exact rfl | exact nf (by assumption) | exact nt (by assumption) | decide | (simp_all; done) | fail) only[if_pos,if_neg]; first | done | rfl)) | skip
def QeA(f:Fm)(n:Int):Fm:=if f.pg.lsn=n then ⟨f.pg,false,0,f.used⟩ else if f.rc<=n then ⟨f.pg,f.dirty,n+1,f.used⟩ else f
def QaH(p:Pl)(a n:Int):Pl×Int:=
 if plB p=false then (Pl0,15) else if idF p.fs a<0 then (Pl0,18)
 else if (p.fs.getD (idF p.fs a).toNat Fm0).pg.lsn<n then (Pl0,9)
 else if (p.fs.getD (idF p.fs a).toNat Fm0).dirty=false then (p,0)
 else (⟨p.size,p.fs.set (idF p.fs a).toNat (QeA (p.fs.getD (idF p.fs a).toNat Fm0) n),p.hand⟩,0)
def Qq1(p:Pl)(hl:p.fs.length<=100000)(a n:Int)(hn:n<=1099511627776)(hn0:0<=n):VCalls prog 184 [.agg p.d,.int .i64 a,.int .i64 n] [] (Ret (.tup [.agg (QaH p a n).1.d,.int .i64 (QaH p a n).2])):=by
 refine dk Tryz.func184 ?_
 have c1:=Qaj p (by omega)
 have c3:=Qct p (by omega) a
 have c4:=QiD p (by omega)
 have e:QaH p a n=if plB p=false then (Pl0,15) else if idF p.fs a<0 then (Pl0,18)
  else if (p.fs.getD (idF p.fs a).toNat Fm0).pg.lsn<n then (Pl0,9)
  else if (p.fs.getD (idF p.fs a).toNat Fm0).dirty=false then (p,0)
  else (⟨p.size,p.fs.set (idF p.fs a).toNat (QeA (p.fs.getD (idF p.fs a).toNat Fm0) n),p.hand⟩,0):=rfl
 have hi:=QaU p.fs a
 generalize QaH p a n=r at *
 generalize plB p=b at *
 rcases hi with h | ⟨i,hi,h,_⟩
 ·rw [h] at c3 e
  (unfold Tryz.f184; refine rn trivial ?_)
  refine rn F ?_
  repeat' (first
   | with_reducible exact⟨⟩
   | (refine sB F ?_ ?_<;>intro hZ)
   | refine vp F (c1) ?_
   | refine vp F (c3) ?_)
  all_goals first | (first | (rw[e]; simp(disch:=first | assumption | omega | exact rfl | exact nf (by assumption) | exact nt (by assumption) | decide | fail) only[if_pos,if_neg]; first | done | rfl) | (rw[e]; simp(disch:=first | assumption | omega | exact rfl | exact nf (by assumption) | exact nt (by assumption) | decide | (simp_all; done) | fail) only[if_pos,if_neg]; first | done | rfl)) | skip
 ·rw [h] at c3 e
  rw[Jw] at e
  have hg:=QbV p.fs i hi
  have c4:=fun f=>c4 i hi f
  generalize p.fs.getD i Fm0=f at *
  obtain⟨pg,dirty,rc,used⟩:=f
  have e1:pg.lsn=n->QeA ⟨pg,dirty,rc,used⟩ n=⟨pg,false,0,used⟩:=fun h=>if_pos h
  have e2:¬ pg.lsn=n->rc<=n->QeA ⟨pg,dirty,rc,used⟩ n=⟨pg,dirty,n+1,used⟩:=fun h h2=>by unfold QeA; rw[if_neg h,if_pos h2]
  have e3:¬ pg.lsn=n->¬ rc<=n->QeA ⟨pg,dirty,rc,used⟩ n=⟨pg,dirty,rc,used⟩:=fun h h2=>by unfold QeA; rw[if_neg h,if_neg h2]
  cases dirty
  all_goals
   (unfold Tryz.f184; refine rn trivial ?_)
   have F:=@hg
   refine rn F ?_
   repeat' (first
    | with_reducible exact⟨⟩
    | (refine sB F ?_ ?_<;>intro hZ)
    | refine vp F (c1) ?_
    | refine vp F (c3) ?_
    | refine vp F (c4 ⟨_,_,_,_⟩) ?_)
  all_goals first | (first | (rw[e]; simp(disch:=first | assumption | omega | exact rfl | exact nf (by assumption) | exact nt (by assumption) | decide | fail) only[if_pos,if_neg]; first | done | rfl) | (rw[e]; simp(disch:=first | assumption | omega | exact rfl | exact nf (by assumption) | exact nt (by assumption) | decide | (simp_all; done) | fail) only[if_pos,if_neg]; first | done | rfl)) | (first | (rw[e,e1 (by omega)]; simp(disch:=first | assumption | omega | exact rfl | exact nf (by assumption) | exact nt (by assumption) | decide | fail) only[if_pos,if_neg]; first | done | rfl) | (rw[e,e1 (by omega)]; simp(disch:=first | assumption | omega | exact rfl | exact nf (by assumption) | exact nt (by assumption) | decide | (simp_all; done) | fail) only[if_pos,if_neg]; first | done | rfl)) | (first | (rw[e,e2 (by omega) (by omega)]; simp(disch:=first | assumption | omega | exact rfl | exact nf (by assumption) | exact nt (by assumption) | decide | fail) only[if_pos,if_neg]; first | done | rfl) | (rw[e,e2 (by omega) (by omega)]; simp(disch:=first | assumption | omega | exact rfl | exact nf (by assumption) | exact nt (by assumption) | decide | (simp_all; done) | fail) only[if_pos,if_neg]; first | done | rfl)) | (first | (rw[e,e3 (by omega) (by omega)]; simp(disch:=first | assumption | omega | exact rfl | exact nf (by assumption) | exact nt (by assumption) | decide | fail) only[if_pos,if_neg]; first | done | rfl) | (rw[e,e3 (by omega) (by omega)]; simp(disch:=first | assumption | omega | exact rfl | exact nf (by assumption) | exact nt (by assumption) | decide | (simp_all; done) | fail) only[if_pos,if_neg]; first | done | rfl)) | skip
def Qhj(n:Nat)(i h:Int):Int:=if (n:Int)<=(if i<h then h-1 else h) then 0 else (if i<h then h-1 else h)
def Qdz(p:Pl)(a:Int):Pl×Int:=
 if plB p=false then (Pl0,15) else if idF p.fs a<0 then (Pl0,18)
 else if (p.fs.getD (idF p.fs a).toNat Fm0).dirty=true then (Pl0,23)
 else (⟨p.size,p.fs.take (idF p.fs a).toNat++p.fs.drop ((idF p.fs a).toNat+1),Qhj (p.fs.length-1) (idF p.fs a) p.hand⟩,0)
def QuV(p:Pl)(hl:p.fs.length<=100000)(a:Int):VCalls prog 250 [.agg p.d,.int .i64 a] [] (Ret (.tup [.agg (Qdz p a).1.d,.int .i64 (Qdz p a).2])):=by
 refine dk Tryz.func250 ?_
 have c1:=Qaj p (by omega)
 have c3:=Qct p (by omega) a
 have e:Qdz p a=if plB p=false then (Pl0,15) else if idF p.fs a<0 then (Pl0,18)
  else if (p.fs.getD (idF p.fs a).toNat Fm0).dirty=true then (Pl0,23)
  else (⟨p.size,p.fs.take (idF p.fs a).toNat++p.fs.drop ((idF p.fs a).toNat+1),Qhj (p.fs.length-1) (idF p.fs a) p.hand⟩,0):=rfl
 have hi:=QaU p.fs a
 have hh:=@Qj8 p
 generalize Qdz p a=r at *
 generalize plB p=b at *
 rcases hi with h | ⟨i,hi,h,_⟩
 ·rw [h] at c3 e
  (unfold Tryz.f250; refine rn trivial ?_)
  refine rn F ?_
  repeat' (first
   | with_reducible exact⟨⟩
   | (refine sB F ?_ ?_<;>intro hZ)
   | refine vp F (c1) ?_
   | refine vp F (c3) ?_)
  all_goals first | (first | (rw[e]; simp(disch:=first | assumption | omega | exact rfl | exact nf (by assumption) | exact nt (by assumption) | decide | fail) only[if_pos,if_neg]; first | done | rfl) | (rw[e]; simp(disch:=first | assumption | omega | exact rfl | exact nf (by assumption) | exact nt (by assumption) | decide | (simp_all; done) | fail) only[if_pos,if_neg]; first | done | rfl)) | skip
 ·rw [h] at c3 e
  rw[Jw] at e
  cases b
  ·(unfold Tryz.f250; refine rn trivial ?_; try with_reducible exact ⟨⟩)
   refine rn F ?_
   repeat' (first
    | with_reducible exact⟨⟩
    | refine vp F (c1) ?_)
   all_goals (first | (rw[e]; simp(disch:=first | assumption | omega | exact rfl | exact nf (by assumption) | exact nt (by assumption) | decide | fail) only[if_pos,if_neg]; first | done | rfl) | (rw[e]; simp(disch:=first | assumption | omega | exact rfl | exact nf (by assumption) | exact nt (by assumption) | decide | (simp_all; done) | fail) only[if_pos,if_neg]; first | done | rfl))
  have hh:=hh rfl
  obtain⟨z,l,hn⟩:=p
  dsimp only at hl e hi
  simp only[Pl.hd] at hh
  have hg:=QbV l i hi
  have hb:(i+(l.length-(i+1)))*304<=140737488355328:=by omega
  have hb1:i*304<=140737488355328:=by omega
  have hmin:min i l.length=i:=by omega
  have e1:(i:Int)<hn->¬ ((l.length-1:Nat):Int)<=hn-1->Qhj (l.length-1) i hn=hn-1:=fun h h2=>by unfold Qhj; rw[if_pos h,if_neg h2]
  have e2:¬ (i:Int)<hn->¬ ((l.length-1:Nat):Int)<=hn->Qhj (l.length-1) i hn=hn:=fun h h2=>by unfold Qhj; rw[if_neg h,if_neg h2]
  have e3:(i:Int)<hn->((l.length-1:Nat):Int)<=hn-1->Qhj (l.length-1) i hn=0:=fun h h2=>by unfold Qhj; rw[if_pos h,if_pos h2]
  have e4:¬ (i:Int)<hn->((l.length-1:Nat):Int)<=hn->Qhj (l.length-1) i hn=0:=fun h h2=>by unfold Qhj; rw[if_neg h,if_pos h2]
  generalize l.getD i Fm0=f at *
  (unfold Tryz.f250; refine rn trivial ?_)
  have F:=(Ja @hg (Ja @hb (Ja @hb1 @hmin)))
  refine rn F ?_
  repeat' (first
   | with_reducible exact⟨⟩
   | (refine sB F ?_ ?_<;>intro hZ)
   | refine vp F (c1) ?_
   | refine vp F (c3) ?_
   | (refine Qc (id:=8) [0,1,2,3,5,6,7,8,9] [⟨[],[],4,[0,1,2,5,6,7,8,9],[]⟩,⟨[],[],10,[0,1,2,3,5,6,7,8],[11]⟩,⟨[],[],12,[],[]⟩] (by kernel_rfl) (by kernel_rfl) ?_; refine rn F ?_))
  all_goals first | (first | (rw[e]; simp(disch:=first | assumption | omega | exact rfl | exact nf (by assumption) | exact nt (by assumption) | decide | fail) only[if_pos,if_neg]; first | done | rfl) | (rw[e]; simp(disch:=first | assumption | omega | exact rfl | exact nf (by assumption) | exact nt (by assumption) | decide | (simp_all; done) | fail) only[if_pos,if_neg]; first | done | rfl)) | (first | (rw[e,e1 (by omega) (by omega)]; simp(disch:=first | assumption | omega | exact rfl | exact nf (by assumption) | exact nt (by assumption) | decide | fail) only[if_pos,if_neg]; first | done | rfl) | (rw[e,e1 (by omega) (by omega)]; simp(disch:=first | assumption | omega | exact rfl | exact nf (by assumption) | exact nt (by assumption) | decide | (simp_all; done) | fail) only[if_pos,if_neg]; first | done | rfl)) | (first | (rw[e,e2 (by omega) (by omega)]; simp(disch:=first | assumption | omega | exact rfl | exact nf (by assumption) | exact nt (by assumption) | decide | fail) only[if_pos,if_neg]; first | done | rfl) | (rw[e,e2 (by omega) (by omega)]; simp(disch:=first | assumption | omega | exact rfl | exact nf (by assumption) | exact nt (by assumption) | decide | (simp_all; done) | fail) only[if_pos,if_neg]; first | done | rfl)) | (first | (rw[e,e3 (by omega) (by omega)]; simp(disch:=first | assumption | omega | exact rfl | exact nf (by assumption) | exact nt (by assumption) | decide | fail) only[if_pos,if_neg]; first | done | rfl) | (rw[e,e3 (by omega) (by omega)]; simp(disch:=first | assumption | omega | exact rfl | exact nf (by assumption) | exact nt (by assumption) | decide | (simp_all; done) | fail) only[if_pos,if_neg]; first | done | rfl)) | (first | (rw[e,e4 (by omega) (by omega)]; simp(disch:=first | assumption | omega | exact rfl | exact nf (by assumption) | exact nt (by assumption) | decide | fail) only[if_pos,if_neg]; first | done | rfl) | (rw[e,e4 (by omega) (by omega)]; simp(disch:=first | assumption | omega | exact rfl | exact nf (by assumption) | exact nt (by assumption) | decide | (simp_all; done) | fail) only[if_pos,if_neg]; first | done | rfl)) | skip
end
section
attribute [local go_sem] Qa5
def Fm.clr(f:Fm):Fm:=⟨f.pg,f.dirty,f.rc,false⟩
def SameF(l m:List Fm):Prop:=m.map Fm.clr=l.map Fm.clr
def QfO(l:List Fm)(i:Nat):(l.map Fm.clr).getD i Fm0=(l.getD i Fm0).clr:=by
 rw[Jf,Jf,Kj]; cases l[i]?<;>rfl
def QsP(l:List Fm)(i:Nat):frC (l.map Fm.clr) i=frC l i:=by
 have h:Qxb (l.map Fm.clr) i=Qxb l i:=by funext k; simp only[Qxb,QfO]; rfl
 simp only[frC,h,QfO]; rfl
def SameF.len(h:SameF l m):m.length=l.length:=by have:=congrArg JJ h; simpa using this
theorem SameF.refl(l:List Fm):SameF l l:=rfl
def SameF.trans(h:SameF a b)(g:SameF b c):SameF a c:=Eq.trans (b:=b.map Fm.clr) g h
def SameF.at_(h:SameF l m)(i:Nat):(m.getD i Fm0).clr=(l.getD i Fm0).clr:=by
 rw[<- QfO,<- QfO,show m.map Fm.clr=l.map Fm.clr from h]
def SameF.frC{l m:List Fm}(h:SameF l m):frC m=frC l:=by
 funext i; rw[<- QsP m,<- QsP l,show m.map Fm.clr=l.map Fm.clr from h]
def SameF.plB{p q:Pl}(h:SameF p.fs q.fs)(hs:q.size=p.size)(hh:0<=q.hand/\q.hand<=max 0 ((p.fs.length:Int)-1))(hp:plB p=true):plB q=true:=by
 have h1:=Qj8 hp
 simp only[Pl.hd] at h1
 have hl:=h.len
 unfold Proofs.YtepdccfgnafgcaaGreat.plB at hp |-
 rw[h.frC,hl,decide_eq_true (by simp only[Pl.hd]; omega)]
 simp only[Jb] at hp
 simpa using hp.2
def Qsv(l:List Fm)(a:Int):idF (l.map Fm.clr) a=idF l a:=by
 unfold idF Qk9
 rw[List.any_map,List.findIdx_map]; rfl
def SameF.idF{l m:List Fm}(h:SameF l m)(a:Int):idF m a=idF l a:=by
 rw[<- Qsv m,<- Qsv l,show m.map Fm.clr=l.map Fm.clr from h]
def SameF.set (l:List Fm) (i:Nat) (b:Bool):SameF l (l.set i ⟨(l.getD i Fm0).pg,(l.getD i Fm0).dirty,(l.getD i Fm0).rc,b⟩):=by
 unfold SameF
 rw[List.map_set]
 rcases JW i l.length with h | h
 ·have:(⟨(l.getD i Fm0).pg,(l.getD i Fm0).dirty,(l.getD i Fm0).rc,b⟩:Fm).clr = (l.map Fm.clr)[i]'(by simpa using h):=by
   rw[Qd l i h,J2]; rfl
  rw[this,List.set_getElem_self]
 ·rw[List.set_eq_of_length_le (by simpa using h)]
def Quf(l:List Fm):Nat:=l.countP (·.used)
def Qp8(l:List Fm)(i:Nat)(h:i<l.length)(hu:(l.getD i Fm0).used=true):Quf (l.set i ⟨(l.getD i Fm0).pg,(l.getD i Fm0).dirty,(l.getD i Fm0).rc,false⟩)<Quf l:=by
 unfold Quf
 rw[List.countP_set h]
 rw[Qd l i h] at *
 have:0<l.countP (·.used):=List.countP_pos_iff.2 ⟨l[i],J1 h,hu⟩
 simp only[hu,if_true]
 simp
 omega
structure Vic(p:Pl) where
 q:Pl
 ok:plB q=true
 sm:SameF p.fs q.fs
 sz:q.size=p.size
 ne:0<q.fs.length
def QDX(p:Pl)(a:Pl×Int×Int):Prop:=(a.2.2=0->plB p=true/\plB a.1=true/\SameF p.fs a.1.fs/\a.1.size=p.size/\∃ i,i<a.1.fs.length/\a.2.1=(a.1.fs.getD i Fm0).pg.id)/\(plB p=true->0<p.fs.length->a.2.2=0)/\a.1.fs.length<=p.fs.length
def QDY(a:Pl×Int×Int):DV:=.tup [.agg a.1.d,.int .i64 a.2.1,.int .i64 a.2.2]
def Qyp(p:Pl)(hl:p.fs.length<=100000):VCalls prog 249 [.agg p.d] [] (Qz QDY (QDX p)):=by
 refine dk Tryz.func249 ?_
 have c1:=Qaj p (by omega)
 cases hb:plB p
 ·rw [hb] at c1
  (unfold Tryz.f249; refine rn trivial ?_)
  refine rn F ?_
  repeat' (first
   | with_reducible exact⟨⟩
   | refine vp F (c1) ?_)
  all_goals exact⟨rfl,rfl,(Pl0,0,15),rfl,by simp[QDX,hb,Pl0]⟩
 ·rw [hb] at c1
  (unfold Tryz.f249; refine rn trivial ?_)
  refine rn F ?_
  repeat' (first
   | with_reducible exact⟨⟩
   | (refine sB F ?_ ?_<;>intro hZ)
   | refine vp F (c1) ?_)
  ·exact⟨rfl,rfl,(Pl0,0,18),rfl,fun h=>absurd h (by decide),fun _ h=>by omega,Jy _⟩
  refine Qg (fun s:Vic p=>⟨51,0,[(2,.ptr 1 0),(1,.ptr 0 0)],[⟨52,true,s.q.d⟩,⟨52,true,[.int .i64 0,.pv (.slc []),.int .i64 0]⟩]⟩) (fun s=>Quf s.q.fs) ⟨p,hb,SameF.refl _,rfl,by omega⟩ (gc [0,1]) ?_
  intro s
  obtain⟨q,ok,sm,sz,ne⟩:=s
  obtain⟨qz,l,hn⟩:=q
  dsimp only at ok sm sz ne |-
  have hh:=Qj8 ok
  have hlen:=sm.len
  simp only[Pl.hd] at hh
  obtain⟨i,rfl⟩:∃ i:Nat,hn=i:=⟨hn.toNat,by omega⟩
  have hi:i<l.length:=by omega
  have hg:=QbV l i hi
  have c2:=fun f=>QiD ⟨qz,l,i⟩ (by dsimp only; omega) i hi f
  have hst:=SameF.set l i false
  have hus:=Qp8 l i hi
  have hmod:((i:Int)+1).tmod (l.length:Int)=((i+1) % l.length:Nat):=Int.ofNat_tmod (i+1) l.length
  have hml:(i+1) % l.length<l.length:=Kh _ ne
  have hle:∀ f,(l.set i f).length=l.length:=fun f=>J6
  generalize hf:l.getD i Fm0=f at *
  have F:=(Ja @hg @hle)
  refine rn F ?_
  repeat' (first
   | with_reducible exact⟨⟩
   | (refine sB F ?_ ?_<;>intro hZ)
   | refine vp F (c2 ⟨_,_,_,_⟩) ?_
   | (refine Qc (id:=10) [0,1,2,3,4,5,6,7,8] [⟨[],[],9,[1,2,3,4,5,6,7,8],[]⟩,⟨[],[],10,[],[]⟩,⟨[],[],11,[],[]⟩] (by kernel_rfl) (by kernel_rfl) ?_; refine rn F ?_))
  ·rw [hmod]
   refine⟨⟨⟨qz,l.set i ⟨f.pg,f.dirty,f.rc,false⟩,((i+1) % l.length:Nat)⟩,(sm.trans hst).plB sz ?_ hb,sm.trans hst,sz,?_⟩,hus (by assumption),(gc [0,1])⟩
   ·dsimp only at hlen |-; omega
   ·rw[hle]; exact ne
  ·exact⟨rfl,rfl,(⟨qz,l,i⟩,f.pg.id,0),rfl,fun _=>⟨hb,ok,sm,sz,i,hi,by rw[hf]⟩,fun _ _=>rfl,by dsimp only at hlen |-; omega⟩
end
def QeR(x:Lg)(h1 : -1099511627776<=x.f/\x.f<=1099511627776)(h2:x.es.length<=1000000):VCalls prog 30 [.agg x.c] [] (Ret (.int .i64 x.end_)):=by
 refine dd Tryz.func30 ?_
 unfold Lg.end_
 (unfold Tryz.f30; refine rn trivial ?_; try with_reducible exact⟨⟩)
def Qr8{x:Lg}(h:lgB x=true):x.end_<=1099511627776:=by
 have hd:=Qan h
 unfold Lg.hd at hd
 unfold Lg.end_
 unfold lgB at h
 simp only[Jb,JE] at h
 by_cases h0:x.es.length=0
 ·omega
 ·have:=h.2 (x.es.length - 1) (JC.2 (by omega))
  unfold lgC at this
  simp only[Jb,decide_eq_true_eq] at this
  obtain⟨h3,h4⟩:=this
  generalize x.es.getD (x.es.length-1) E0=e at *
  unfold E.okB at h4
  simp only[Jb,decide_eq_true_eq] at h4
  omega
def Qae(x:Lg)(hx:x.es.length<=9223372036854775807):VCalls prog 22 [.agg x.c] [] (Ret (.bool (lgB x))):=by
 refine dd Tryz.func22 ?_
 obtain⟨f,es,d⟩:=x
 dsimp only at hx
 have c1:=QeR ⟨f,es,d⟩
 unfold Lg.end_ at c1
 dsimp only at c1
 have hB:lgB ⟨f,es,d⟩=(decide (Lg.hd ⟨f,es,d⟩)&&(Jz es.length).all (lgC ⟨f,es,d⟩)):=rfl
 have hH:Lg.hd ⟨f,es,d⟩=(1<=f/\f<=1099511627776/\es.length<=4096/\f-1<=d/\d<=f+es.length-1):=rfl
 have hB':Lg.hd ⟨f,es,d⟩->lgB ⟨f,es,d⟩=(Jz es.length).all (lgC ⟨f,es,d⟩):=fun h=>by rw[hB,decide_eq_true h,Ku]
 have no:¬ Lg.hd ⟨f,es,d⟩->lgB ⟨f,es,d⟩=false:=fun h=>by rw[hB,decide_eq_false h]; rfl
 have hlc:∀ i,lgC ⟨f,es,d⟩ i=(decide ((es.getD i E0).lsn=f+i)&&(es.getD i E0).okB):=fun _=>rfl
 generalize lgB ⟨f,es,d⟩=b at *
 generalize lgC ⟨f,es,d⟩=lc at *
 (unfold Tryz.f22; refine rn trivial ?_)
 refine rn F ?_
 repeat' (first
  | with_reducible exact⟨⟩
  | (refine sG F ?_ ?_<;>intro hZ)
  | (refine sB F ?_ ?_<;>intro hZ)
  | refine vp F (c1 (by omega) (by omega)) ?_
  | (refine Qc (id:=1) [0,1,2,3,4,5,6,7,8,9,10,11,12,13,14,15,16,17,18,19,20,21,22,23,24,25] [⟨[],[],26,[0,1,2,3,4,5,6,7,8,9,10,11,12,13,14,15,16,17,18,19,20,21,23,24],[27,28]⟩] (by kernel_rfl) (by kernel_rfl) ?_; refine rn F ?_))
 all_goals first | (rw[no (by rw[hH]; omega)]) | skip
 refine Qg (fun s:Okay es.length lc=>⟨60,0,[(3,.int .i64 s.i),(1,.ptr 0 0)],[⟨34,true,Lg.c ⟨f,es,d⟩⟩]⟩) (fun s=>es.length-s.i) (Okay.start _ _) (gc [0]) ?_
 intro s
 have hsi:=s.hi
 have hg:=fun h:s.i<es.length=>Qma es s.i h
 have c2:=Qcr (es.getD s.i E0)
 have e:=hlc s.i
 generalize (es.getD s.i E0).okB=ok at *
 have F:=@hg
 refine rn F ?_
 repeat' (first
  | with_reducible exact⟨⟩
  | (refine sG F ?_ ?_<;>intro hZ)
  | (refine sB F ?_ ?_<;>intro hZ)
  | refine vp F (c2) ?_
  | (refine Qc (id:=6) [0,1,2,3,4,5,6,7,8,9,10,11,12,13,14,15,16] [⟨[],[],17,[0,1,2,3,4,5,6,7,8,9,10,12,13,14,15],[18,19]⟩] (by kernel_rfl) (by kernel_rfl) ?_; refine rn F ?_))
 all_goals first
  | (exact congrArg DV.bool (s.no (by omega) (hB' (by rw[hH]; omega)) (by rw[e]; first | (rw[decide_eq_false (by omega)]; rfl) | simp_all)).symm)
  | (exact congrArg DV.bool (s.yes (by omega) (hB' (by rw[hH]; omega))).symm)
  | (exact⟨s.next (by omega) (by rw[e]; simp_all),s.dec (by omega),(gc [0])⟩)
  | skip
section
attribute [local go_sem] QiW Qk1 QjO Qfi Qsa QtB Qqz Qqw Qfh
def Mz:Md:=⟨false,[],[]⟩
def QtO(e:E):Bool:=decide (e.kind=8)&&Qcz e.blob
def Qhh(es:List E):Nat->Md×Int×Bool
 | 0=>(Mz,0,false)
 | n+1=>if QtO (es.getD n E0)=true then (rdS (es.getD n E0).blob,(es.getD n E0).lsn,true) else Qhh es n
def QvD(x:Lg):Md×Int×Bool:=if lgB x=true then Qhh x.es x.es.length else (Mz,0,false)
def QhS:∀ {n:Nat},(∀ i,i<n->QtO (es.getD i E0)=false)->Qhh es n=(Mz,0,false)
 | 0,_=>rfl
 | n+1,h=>by rw[Qhh,if_neg (by rw[h n (by omega)]; decide)]; exact QhS fun i hi=>h i (by omega)
def Qko (hh:QtO (es.getD i E0) = true):∀ {n:Nat},i < n->(∀ j,i < j->j < n->QtO (es.getD j E0) = false)->Qhh es n = (rdS (es.getD i E0).blob,(es.getD i E0).lsn,true)
 | n + 1,hi,h=>by
   rw[Qhh]
   by_cases e:i=n
   ·subst e; rw[if_pos hh]
   ·rw[if_neg (by rw[h n (by omega) (by omega)]; decide)]; exact Qko hh (by omega) fun j h1 h2=>h j h1 (by omega)
def Qr4{x:Lg}(h:lgB x=true){i:Nat}(hi:i<x.es.length)(hk:(x.es.getD i E0).kind=8):(x.es.getD i E0).blob.length<=8192:=by
 unfold lgB at h
 simp only[Jb,JE,JC] at h
 have:=h.2 i hi
 simp only[lgC,Jb] at this
 have h2:=this.2
 generalize x.es.getD i E0=e at *
 unfold E.okB at h2
 simp only[Jb] at h2
 have h3:=h2.2
 unfold E.kindB at h3
 rw[hk] at h3
 simp at h3
 omega
@[go_sem] def QEG(a:Md×Int×Bool):DV:=.tup [.agg a.1.c,.int .i64 a.2.1,.bool a.2.2]
structure mLk(es:List E) where
 k:Nat
 hk:k<=es.length
 he:Qhh es es.length=Qhh es k
def Qy6(es:List E):VCalls prog 38 [.pv (.sl (fz encE es))] [] (fun r h'=>r=.fn (.func 70) [] [.ptr 0 0]/\h'=[⟨32,true,[.pv (.sl (fz encE es))]⟩]):=by
 refine Qab (fn:=Tryz.f38) Tryz.func38 rfl (by kernel_rfl) (by simp[Tryz.f38]) ?_
 (unfold Tryz.f38; refine rn trivial ?_; try with_reducible exact⟨⟩)
def Qy5(es:List E)(hl:es.length<=4096)(hkb:hp[kb]?=some ⟨32,true,[.pv (.sl (fz encE es))]⟩):QtM prog 70 (.ptr kb 0) hp (fz encE es):=by
 refine QAT Tryz.func70 rfl rfl rfl rfl rfl rfl rfl rfl rfl ?_ ?_ ?_ ?_ ?_ ?_ ?_ hkb
 ·decide +kernel
 ·intro i hi
  rw[Qc3] at hi
  rw[Jf,QbM encE es E0 i hi]
  rfl
 ·intro l
  have hll:=Qc3 encE es
  (refine rn @hll ?_; try with_reducible exact⟨⟩)
 ·intro l k hk
  unfold itS
  by_cases h0:0<k
  ·have h0':(0:Int)<=(k:Int) - 1:=by omega
   rw[decide_eq_true h0]
   (refine rn @h0' ?_; try with_reducible exact⟨⟩)
  ·have h0':¬ (0:Int)<=(k:Int) - 1:=by omega
   rw[decide_eq_false h0]
   (refine rn @h0' ?_; try with_reducible exact⟨⟩)
 ·intro l k h0 hk
  unfold itS
  rw[Qc3] at hk
  (refine rn trivial ?_; try with_reducible exact⟨⟩)
 ·intro l k h0 hk
  unfold itS
  rw[Qc3] at hk
  obtain⟨i,rfl⟩:∃ i,k=i+1:=⟨k-1,by omega⟩
  have e1:((i+1:Nat):Int)-1=i:=by omega
  have hg:=Qma es i (by omega)
  have he:Qey (fz encE es) (i+1-1)=.agg ((encE.enc (es.getD i E0)).map .pv):=by
   unfold Qey
   rw[JX,Jf,QbM encE es E0 i (by omega)]; rfl
  rw[he]
  refine rn (Ja @e1 @hg) ?_
  rfl
 ·intro k b
  (refine rn trivial ?_; try with_reducible exact⟨⟩)
theorem QBv(a b:Nat)(tm:List (Nat×DV))(hp:Qa):(⟨a,b,tm,hp⟩:St).reb=⟨a,hp.length,tm,hp⟩:=rfl
attribute [go_sem] QBv
def QvC(hK:K (.fn (.func 70) [] [.ptr hp.length 0]) (hp++[⟨32,true,[.pv (.sl (fz encE es))]⟩])):VCalls prog 38 [.pv (.sl (fz encE es))] hp K:=by
 refine(VCalls.frame [] (by simp) rfl rfl (Qy6 es) rfl rfl).mono ?_
 rintro r h2 ⟨r0,h',⟨rfl,rfl⟩,-,rfl,rfl⟩
 have e0:List.map (fun k=>hp[k]?.getD default) (Jz hp.length)=hp:=by
  apply List.ext_getElem (by simp)
  intro i h1 h2
  simp[h2]
 have e1:QQ hp [] [(⟨32,true,[.pv (.sl (fz encE es))]⟩:Blk)]=hp++[⟨32,true,[.pv (.sl (fz encE es))]⟩]:=by
  simp[QQ,Qdx,DV.ren]
  try exact e0
 have e2:DV.ren (back [] hp.length) (.fn (.func 70) [] [.ptr 0 0])=.fn (.func 70) [] [.ptr hp.length 0]:=by simp[DV.ren,DV.ren.go,back]
 rw[e1,e2]; exact hK
def Qr3(x:Lg)(hx:x.es.length<=9223372036854775807):VCalls prog 12 [.agg x.c] [] (Ret (QEG (QvD x))):=by
 refine Qjw (fn:=Tryz.f12) Tryz.func12 rfl (by kernel_rfl) (by simp[Tryz.f12]) ?_
 have c1:=QvQ x hx
 have hd:=@Qan x
 simp only[Lg.hd] at hd
 have hbl:=fun h i=>@Qr4 x h i
 have e0:QvD x=if lgB x=true then Qhh x.es x.es.length else (Mz,0,false):=rfl
 refine VWp0.first ?_
 (unfold Tryz.f12; refine rn trivial ?_)
 refine VWp0.first ?_
 refine rn trivial ?_
 cases hv:lgB x
 ·rw [hv] at c1 e0
  rw[e0]
  refine rn F ?_
  repeat' (first
   | with_reducible exact⟨⟩
   | refine vp F (c1) ?_)
  all_goals rfl
 rw[hv] at c1 e0
 rw[if_pos rfl] at e0
 rw[e0]
 replace hd:=hd hv
 have hbl:=fun i=>hbl hv i
 obtain⟨f,es,d⟩:=x
 dsimp only at hd hbl hx |-
 have hlen:es.length<=4096:=hd.2.2.1
 refine rn F ?_
 repeat' (first
  | with_reducible exact⟨⟩
  | refine vp F (c1) ?_)
 refine VWp0.then (VWp0.first ?_)
 refine rn trivial ?_
 refine QvC ?_
 refine rn trivial ?_
 refine VWp0.block ?_
 refine VWp0.down (xs:=fz encE es) (fn:=Tryz.f70) rfl Tryz.func70 (by kernel_rfl) (by kernel_rfl) (Qy5 es hlen rfl) (by show 16<32; decide) (by show 17<32; decide) ?_ (fun i=>QtO (es.getD i E0))
  (fun i hp'=>∃ r,hp' = [⟨34,true,[.int .i64 f,.pv (.sl (fz encE es)),.int .i64 d]⟩,⟨29,true,(rdS (es.getD i E0).blob).c⟩,⟨3,true,[.int .i64 (es.getD i E0).lsn]⟩,⟨4,true,[.bool true]⟩,⟨32,true,[.pv (.sl (fz encE es))]⟩,⟨44,true,(es.getD i E0).d⟩,⟨29,true,Md.c r⟩]) (by kernel_rfl) (BodyOf.cut (K:=77) (by kernel_rfl) ?_ (by
   first
    | (repeat' constructor)
    | skip)) ?_ ?_ ?_
 ·intro k B h
  rcases k with _ | _ | _ | _ | _ | k<;>simp at h<;>subst h<;>rfl
 ·decide +kernel
 ·intro i hi
  rw[Qc3] at hi
  have he:Qey (fz encE es) i=.agg (es.getD i E0).d:=by
   unfold Qey
   rw[Jf,QbM encE es E0 i hi]; rfl
  rw[he]
  have c2:=Qx5 (es.getD i E0).blob
  have hb8:=hbl i hi
  unfold QgL QA0
  by_cases h8:(es.getD i E0).kind=8
  rotate_left
  ·have hno:QtO (es.getD i E0) = false:=by unfold QtO; rw [decide_eq_false h8]; rfl
   have F:=@h8
   refine rn F ?_
   exact hno
  have F:=@h8
  refine rn F ?_
  repeat' (first
   | with_reducible exact⟨⟩
   | (refine sB F ?_ ?_<;>intro hZ)
   | (refine Ql (c2 (Kl (hb8 h8) (by decide))) rfl ?_; rintro⟨r,ok⟩ hq; refine rn F ?_))
  ·have h1:=hq.1
   dsimp only at h1
   have hr:=hq.2 (by simpa using hZ)
   dsimp only at hr
   subst hr
   refine⟨?_,_,rfl⟩
   unfold QtO; rw[decide_eq_true h8,<- h1]; simpa using hZ
  ·have h1:=hq.1
   dsimp only at h1
   unfold QtO; rw[decide_eq_true h8,<- h1]; simp[hZ]
 ·intro hno
  rw[QhS (fun i hi=>hno i (by rw[Qc3]; exact hi))]
  refine VWpE.plain ?_
  refine rn trivial ?_
  rfl
 ·rintro i hp' hi hh hno ⟨r,rfl⟩
  rw[Qc3] at hi
  rw[Qko hh hi (fun j h1 h2=>hno j h1 (by rw[Qc3]; exact h2))]
  (refine rn trivial ?_; try with_reducible exact⟨⟩)
end
section
attribute [local go_sem] QiW Qk1 QjO Qfi Qsa QtB Qqz Qqw Qfh
def Qx3(a:Md)(h:a.done.length<=100000/\a.wait.length<=100000):VCalls prog 13 [.agg a.c,.agg a.c] [] (Ret (.bool true)):=by
 refine dk Tryz.func13 ?_
 obtain⟨h1,h2⟩:=h
 have e1:(a.on != a.on)=false:=by simp
 have e2:((a.done.length:Int) != a.done.length)=false:=by simp
 have e3:((a.wait.length:Int) != a.wait.length)=false:=by simp
 (unfold Tryz.f13; refine rn trivial ?_)
 have F:=(Ja @e1 (Ja @e2 @e3))
 refine rn F ?_
 refine Qg (fun s:{i:Nat // i<=a.done.length}=>⟨66,0,[(5,.int .i64 s.1),(3,.ptr 1 0),(2,.ptr 0 0)],[⟨29,true,a.c⟩,⟨29,true,a.c⟩]⟩) (fun s=>a.done.length-s.1) ⟨0,Jy _⟩ (gc [0,1]) ?_
 rintro⟨i,hi⟩
 dsimp only
 by_cases h:i<a.done.length
 ·have hg:=Qfd a.done i h
  have e4:(a.done.getD i false != a.done.getD i false)=false:=by simp
  have F:=(Ja @hg @e4)
  refine rn F ?_
  repeat' (first
   | with_reducible exact⟨⟩
   | (refine Qc (id:=6) [0,1,2,3,4,5,6,7,8,9,10] [] (by kernel_rfl) (by kernel_rfl) ?_; refine rn F ?_))
  all_goals first
   | exact⟨⟨i+1,h⟩,by dsimp only; omega,(gc [0,1])⟩
   | skip
 ·obtain rfl:i = a.done.length:=by omega
  have F:=trivial
  refine rn F ?_
  refine Qg (fun s:{i:Nat // i<=a.wait.length}=>⟨66,0,[(6,.int .i64 s.1),(3,.ptr 1 0),(2,.ptr 0 0)],[⟨29,true,a.c⟩,⟨29,true,a.c⟩]⟩) (fun s=>a.wait.length-s.1) ⟨0,Jy _⟩ (gc [0,1]) ?_
  rintro⟨j,hj⟩
  dsimp only
  by_cases h:j<a.wait.length
  ·have hg:=QkI a.wait j h
   have e5:(a.wait.getD j 0 != a.wait.getD j 0)=false:=by simp
   have F:=(Ja @hg @e5)
   refine rn F ?_
   repeat' (first
    | with_reducible exact⟨⟩
    | (refine Qc (id:=11) [0,1,2,3,4,5,6,7,8,9,10] [] (by kernel_rfl) (by kernel_rfl) ?_; refine rn F ?_))
   all_goals first
    | exact⟨⟨j+1,h⟩,by dsimp only; omega,(gc [0,1])⟩
    | skip
  ·obtain rfl:j = a.wait.length:=by omega
   have F:=trivial
   (refine rn F ?_; try with_reducible exact⟨⟩)
end
def Qfl(a b c d:Int):Q5 [.pv (.lit (.int .i64 a)),.pv (.lit (.int .i64 b))] [.pv (.lit (.int .i64 c)),.pv (.lit (.int .i64 d))] [(0,1),(1,1)]=some (decide (a=c)&&decide (b=d)):=by simp[Q5,QbJ,J7]
def grB(g:Gr):Bool:=decide (1<=g.tx)&&decide (g.tx<=1073741824)&&decide (0<=g.pg)&&decide (g.pg<64)&&decide (0<=g.sl)&&decide (g.sl<16)&&(decide (g.md=1)||decide (g.md=2))
def lessG(a b:Gr):Bool:=if a.pg≠b.pg then decide (a.pg<b.pg) else if a.sl≠b.sl then decide (a.sl<b.sl) else decide (a.tx<b.tx)
def Qth(a b:Gr):Bool:=!decide (a.tx=b.tx)&&(decide (a.pg=b.pg)&&decide (a.sl=b.sl))&&(decide (a.md=2)||decide (b.md=2))
def Qrd(g:Gr):VCalls prog 245 [.agg g.d] [] (Ret (.bool (grB g))):=by
 refine dd Tryz.func245 ?_
 (unfold Tryz.f245; refine rn trivial ?_)
 refine rn F ?_
 repeat' (first
  | with_reducible exact⟨⟩
  | (refine sG F ?_ ?_<;>intro hZ))
 all_goals (first | rfl | (congr 3; rw[Jo]; (try simp only[grB,decide_eq_true_eq,Jb,Jh,Ji,Jg,decide_eq_false_iff_not,beq_iff_eq,bne_iff_ne,ne_eq,Jp,Js,iff_true,true_iff,iff_false,false_iff]); first | done | omega | grind))
def QmO(a b:Gr):VCalls prog 246 [.agg a.d,.agg b.d] [] (Ret (.bool (lessG a b))):=by
 refine dd Tryz.func246 ?_
 have e:lessG a b=if a.pg≠b.pg then decide (a.pg<b.pg) else if a.sl≠b.sl then decide (a.sl<b.sl) else decide (a.tx<b.tx):=rfl
 generalize lessG a b=r at *
 (unfold Tryz.f246; refine rn trivial ?_)
 refine rn F ?_
 repeat' (first
  | with_reducible exact⟨⟩
  | (refine sB F ?_ ?_<;>intro hZ))
 all_goals first | (first | (rw[e]; simp(disch:=first | assumption | omega | exact rfl | exact nf (by assumption) | exact nt (by assumption) | decide | fail) only[if_pos,if_neg]; first | done | rfl) | (rw[e]; simp(disch:=first | assumption | omega | exact rfl | exact nf (by assumption) | exact nt (by assumption) | decide | (simp_all; done) | fail) only[if_pos,if_neg]; first | done | rfl)) | skip
def QfF(a b:Gr):VCalls prog 225 [.agg a.d,.agg b.d] [] (Ret (.bool (Qth a b))):=by
 refine dd Tryz.func225 ?_
 (unfold Tryz.f225; refine rn trivial ?_)
 have F:=@Qfl
 refine rn F ?_
 repeat' (first
  | with_reducible exact⟨⟩
  | (refine sG F ?_ ?_<;>intro hZ))
 all_goals (unfold Qth; simp_all [J7])
def QAL(tx pg sl:Int)(g:Gr):Bool:=decide (g.tx=tx)&&(decide (g.pg=pg)&&decide (g.sl=sl))
def QwY(l:List Gr)(tx pg sl:Int):Int:=match l.find? (QAL tx pg sl) with | some g=>g.md | none=>0
def QlJ (t:Lk) (hs:t.held.length<=1000000) (tx pg sl:Int):VCalls prog 247 [.agg t.d,.int .i64 tx,.agg [.int .i64 pg,.int .i64 sl]] [] (Ret (.int .i64 (QwY t.held tx pg sl))):=by
 refine dd Tryz.func247 ?_
 obtain⟨l,w⟩:=t
 dsimp only at hs |-
 (unfold Tryz.f247; refine rn trivial ?_)
 refine Qg (fun s:Pass l (fun x=>QAL tx pg sl x=true)=>⟨39,0,[(7,.int .i64 s.i),(5,.ptr 1 0),(3,.ptr 0 0),(1,.int .i64 tx)],[⟨55,true,[.pv (.sl (fz Qak l)),.pv (.sl (fz Qak w))]⟩,⟨225,true,[.int .i64 pg,.int .i64 sl]⟩]⟩) (fun s=>l.length-s.i) (Pass.start l _) (gc [0,1]) ?_
 intro s
 have hsi:=s.hi
 have hg:=fun h:s.i<l.length=>Qax l s.i h
 have hkey:s.i<l.length->QAL tx pg sl (l.getD s.i Gr0)=QAL tx pg sl (l[s.i]?.getD Gr0):=fun _=>by rw[Jf]
 have hk0:QAL tx pg sl (l.getD s.i Gr0)=(decide ((l.getD s.i Gr0).tx=tx)&&(decide ((l.getD s.i Gr0).pg=pg)&&decide ((l.getD s.i Gr0).sl=sl))):=rfl
 have F:=(Ja @hg @Qfl)
 refine rn F ?_
 repeat' (first
  | with_reducible exact⟨⟩
  | (refine sG F ?_ ?_<;>intro hZ)
  | (refine sB F ?_ ?_<;>intro hZ)
  | (refine Qc (id:=4) [0,1,2,3,4,5,6,7,8,9,10,11,12,13,14,15,16,17] [] (by kernel_rfl) (by kernel_rfl) ?_; refine rn F ?_))
 all_goals first
  | (have h:=s.all (by omega)
     rw[QwY,Kd.2 h])
  | (have hlt:s.i < l.length:=by omega
     have hk:QAL tx pg sl l[s.i]=true:=by rw[<- Qd l s.i hlt Gr0,hk0]; simp_all
     rw[Qd l s.i hlt,QwY,List.find?_eq_some_iff_getElem.2 ⟨hk,s.i,hlt,rfl,fun j hj=>by simpa using s.no l[j] (List.mem_take_iff_getElem.2 ⟨j,by omega,rfl⟩)⟩])
  | (have hlt:s.i < l.length:=by omega
     exact⟨s.next hlt (by rw[<- Qd l s.i hlt Gr0,hk0]; simp_all),by show l.length-(s.i+1)<l.length-s.i; omega,(gc [0,1])⟩)
  | skip
def QiF(l:List Gr)(hl:l.length<=100000)(tx:Int)(one:Bool)(pg sl:Int):VCalls prog 208 [.pv (.sl (fz Qak l)),.int .i64 tx,.bool one,.agg [.int .i64 pg,.int .i64 sl]] [] (Qz (fun m:List Gr=>.pv (.sl (fz Qak m))) fun m=>m.length<=l.length):=by
 refine dd Tryz.func208 ?_
 (unfold Tryz.f208; refine rn trivial ?_)
 refine VLoop.nilOwn 9 248 4 rfl ?_
 refine rn trivial ?_
 refine Qg (fun s:{s:Nat×List Gr // s.1<=l.length/\s.2.length<=s.1}=>⟨44,0,[(10,.int .i64 s.1.1),(9,.own 1 4 0 s.1.2.length),(7,.ptr 0 0),(2,.bool one),(1,.int .i64 tx),(0,.pv (.sl (fz Qak l)))],[⟨225,true,[.int .i64 pg,.int .i64 sl]⟩,⟨248,true,cells Qak s.1.2⟩]⟩) (fun s=>l.length-s.1.1) ⟨(0,[]),by simp⟩ (gc [0,1]) ?_
 rintro⟨⟨i,out⟩,hi,ho⟩
 dsimp only at hi ho |-
 have hg:=fun h:i<l.length=>Qax l i h
 have hb:(out.length+1)*32<=140737488355328:=by omega
 have F:=(Ja @hg (Ja @hb @Qfl))
 refine rn F ?_
 repeat' (first
  | with_reducible exact⟨⟩
  | (refine sG F ?_ ?_<;>intro hZ)
  | (refine sB F ?_ ?_<;>intro hZ)
  | (refine Qc (id:=5) [0,1,2,3,4,5,6,7,8,9,10,11,12,13,14,15,16,17,18] [] (by kernel_rfl) (by kernel_rfl) ?_; refine rn F ?_))
 all_goals first
  | exact⟨rfl,rfl,out,rfl,by omega⟩
  | exact⟨⟨(i+1,out),by dsimp only; omega,by dsimp only; omega⟩,by dsimp only; omega,(gc [0,1])⟩
  | exact⟨⟨(i+1,out++[⟨(l.getD i Gr0).tx,(l.getD i Gr0).pg,(l.getD i Gr0).sl,(l.getD i Gr0).md⟩]),by dsimp only; omega,by simp; omega⟩,by dsimp only; omega,by dsimp only; rw[Je]; exact(gc [0,3])⟩
  | skip
def QyN(t:Lk)(hs:t.held.length<=100000/\t.wait.length<=100000)(i:Nat)(hi:i<t.wait.length):VCalls prog 255 [.agg t.d,.int .i64 i] [] (Qz (fun b:Bool=>.bool b) fun _=>True):=by
 refine dd Tryz.func255 ?_
 obtain⟨l,w⟩:=t
 dsimp only at hs hi |-
 have hw:=Qax w i hi
 have c:=fun a=>QfF a (w.getD i Gr0)
 (unfold Tryz.f255; refine rn trivial ?_)
 refine Qg (fun s:To l.length=>⟨41,0,[(5,.int .i64 s.i),(2,.ptr 0 0),(1,.int .i64 i)],[⟨55,true,[.pv (.sl (fz Qak l)),.pv (.sl (fz Qak w))]⟩]⟩) (fun s=>l.length-s.i) ⟨0,Jy _⟩ (gc [0]) ?_
 intro s
 have hsi:=s.hi
 have hg:=fun h:s.i<l.length=>Qax l s.i h
 have c1:=c (l.getD s.i Gr0)
 have F:=(Ja @hg @hw)
 refine rn F ?_
 repeat' (first
  | with_reducible exact⟨⟩
  | (refine sB F ?_ ?_<;>intro hZ)
  | refine vp F (c1) ?_
  | (refine Qc (id:=4) [0,1,2,3,4,5,6,7,8,9] [⟨[],[],10,[0,1,2,3,5,6,7,8],[]⟩] (by kernel_rfl) (by kernel_rfl) ?_; refine rn F ?_))
 all_goals first
  | exact⟨rfl,rfl,_,rfl,trivial⟩
  | exact⟨⟨s.i+1,by omega⟩,by dsimp only; omega,(gc [0])⟩
  | skip
 refine Qg (fun s:To i=>⟨41,0,[(6,.int .i64 s.i),(2,.ptr 0 0),(1,.int .i64 i)],[⟨55,true,[.pv (.sl (fz Qak l)),.pv (.sl (fz Qak w))]⟩]⟩) (fun s=>i-s.i) ⟨0,Jy _⟩ (gc [0]) ?_
 intro s
 have hsi:=s.hi
 have hg:=fun h:s.i<w.length=>Qax w s.i h
 have c1:=c (w.getD s.i Gr0)
 have F:=(Ja @hg @hw)
 refine rn F ?_
 repeat' (first
  | with_reducible exact⟨⟩
  | (refine sB F ?_ ?_<;>intro hZ)
  | refine vp F (c1) ?_
  | (refine Qc (id:=9) [0,1,2,3,4,5,6,7,8,9] [⟨[],[],10,[0,1,2,3,5,6,7,8],[]⟩] (by kernel_rfl) (by kernel_rfl) ?_; refine rn F ?_))
 all_goals first
  | exact⟨rfl,rfl,_,rfl,trivial⟩
  | exact⟨⟨s.i+1,by omega⟩,by dsimp only; omega,(gc [0])⟩
  | skip
def QyB(l:List Gr)(hl:l.length<=100000)(g:Gr):VCalls prog 256 [.pv (.sl (fz Qak l)),.agg g.d] [] (Qz (fun m:List Gr=>.pv (.sl (fz Qak m))) fun m=>m.length<=l.length+1):=by
 refine dd Tryz.func256 ?_
 (unfold Tryz.f256; refine rn trivial ?_)
 refine VLoop.nilOwn 5 248 4 rfl ?_
 refine rn trivial ?_
 refine Qg (fun s:{s:Nat×List Gr×Bool // s.1<=l.length/\s.2.1.length<=s.1+1/\(s.2.2=false->s.2.1.length<=s.1)}=>⟨61,0,[(7,.int .i64 s.1.1),(6,.bool s.1.2.2),(5,.own 1 4 0 s.1.2.1.length),(3,.ptr 0 0),(0,.pv (.sl (fz Qak l)))],[⟨248,true,g.d⟩,⟨248,true,cells Qak s.1.2.1⟩]⟩) (fun s=>l.length-s.1.1) ⟨(0,[],false),by simp⟩ (gc [0,1]) ?_
 rintro⟨⟨i,out,dn⟩,hi,ho,hd⟩
 dsimp only at hi ho hd |-
 have hg:=fun h:i<l.length=>Qax l i h
 have c:=QmO (l.getD i Gr0) g
 have hb:(out.length+1)*32<=140737488355328:=by omega
 have hb2:(out.length+1+1)*32<=140737488355328:=Kl (J8 32 (show out.length+1+1<=100003 by omega)) (by decide)
 cases dn
 all_goals
  simp only[forall_const,reduceCtorEq,false_implies] at hd
  have F:=(Ja @hg (Ja @hb (Ja @hb2 @Qfl)))
  refine rn F ?_
  repeat' (first
   | with_reducible exact⟨⟩
   | (refine sG F ?_ ?_<;>intro hZ)
   | (refine sB F ?_ ?_<;>intro hZ)
   | refine vp F (c) ?_
   | (refine Qc (id:=6) [0,1,2,3,4,5,6,7] [⟨[],[],8,[0,1,3,4,5],[9,10]⟩] (by kernel_rfl) (by kernel_rfl) ?_; refine rn F ?_)
   | (refine Qc (id:=9) [0,1,2,3,4,5,6,7,8,9,10,11,12,13,14,15,16,17] [] (by kernel_rfl) (by kernel_rfl) ?_; refine rn F ?_))
 all_goals first
  | exact⟨rfl,rfl,out,rfl,by omega⟩
  | exact⟨rfl,rfl,out++[g],rfl,by simp; omega⟩
  | exact⟨⟨(i+1,out,false),by dsimp only; omega,by dsimp only; (try rw[Jj]); omega,by dsimp only; (try rw[Jj]); first | omega | (intro h; omega) | (intro h; cases h)⟩,by dsimp only; omega,by dsimp only; (try rw[Jj]); exact(gc [0,1])⟩
  | exact⟨⟨(i+1,out++[⟨(l.getD i Gr0).tx,(l.getD i Gr0).pg,(l.getD i Gr0).sl,(l.getD i Gr0).md⟩],false),by dsimp only; omega,by dsimp only; (try rw[Je,Jn,Jj]); omega,by dsimp only; (try rw[Je,Jn,Jj]); first | omega | (intro h; omega) | (intro h; cases h)⟩,by dsimp only; omega,by dsimp only; (try rw[Je,Jn,Jj]); exact(gc [0,3])⟩
  | exact⟨⟨(i+1,out,true),by dsimp only; omega,by dsimp only; (try rw[Jj]); omega,by dsimp only; (try rw[Jj]); first | omega | (intro h; omega) | (intro h; cases h)⟩,by dsimp only; omega,by dsimp only; (try rw[Jj]); exact(gc [0,1])⟩
  | exact⟨⟨(i+1,out++[⟨(l.getD i Gr0).tx,(l.getD i Gr0).pg,(l.getD i Gr0).sl,(l.getD i Gr0).md⟩],true),by dsimp only; omega,by dsimp only; (try rw[Je,Jn,Jj]); omega,by dsimp only; (try rw[Je,Jn,Jj]); first | omega | (intro h; omega) | (intro h; cases h)⟩,by dsimp only; omega,by dsimp only; (try rw[Je,Jn,Jj]); exact(gc [0,3])⟩
  | exact⟨⟨(i+1,out++[g],true),by dsimp only; omega,by dsimp only; (try rw[Je,Jn,Jj]); omega,by dsimp only; (try rw[Je,Jn,Jj]); first | omega | (intro h; omega) | (intro h; cases h)⟩,by dsimp only; omega,by dsimp only; (try rw[Je,Jn,Jj]); exact(gc [0,3])⟩
  | exact⟨⟨(i+1,out++[g]++[⟨(l.getD i Gr0).tx,(l.getD i Gr0).pg,(l.getD i Gr0).sl,(l.getD i Gr0).md⟩],true),by dsimp only; omega,by dsimp only; (try rw[Je,Je,Jn,Jj,Jn,Jj]); omega,by dsimp only; (try rw[Je,Je,Jn,Jj,Jn,Jj]); first | omega | (intro h; omega) | (intro h; cases h)⟩,by dsimp only; omega,by dsimp only; (try rw[Je,Je,Jn,Jj,Jn,Jj]); exact(gc [0,5])⟩
  | skip
section
attribute [local go_sem] Qbk
def Lk.sum(t:Lk):Nat:=t.held.length+t.wait.length
def Qd5(t:Lk)(hs:t.sum<=5000):VCalls prog 207 [.agg t.d] [] (Qz (fun u:Lk=>.agg u.d) fun u=>u.sum<=t.sum):=by
 refine dk Tryz.func207 ?_
 (unfold Tryz.f207; refine rn trivial ?_)
 refine QAR (fun s:{s:Lk×Nat // s.2<=s.1.wait.length/\s.1.sum<=t.sum}=>⟨36,0,[(3,.int .i64 s.1.2),(2,.ptr 1 0),(1,.ptr 0 0)],[⟨55,true,s.1.1.d⟩,⟨55,true,[.pv (.slc []),.pv (.slc [])]⟩]⟩) (fun s=>s.1.1.wait.length*5001+(s.1.1.wait.length-s.1.2)) ⟨(t,0),Jy _,JT _⟩ (.inl (by exact(gc [0,1]))) ?_
 rintro⟨⟨⟨l,w⟩,i⟩,hi,hsum⟩
 unfold Lk.sum at *
 dsimp only at hi hsum |-
 have hgx:=fun h:i<w.length=>Qax w i h
 have c1:=fun h:i<w.length=>QyN ⟨l,w⟩ ⟨by dsimp only; omega,by dsimp only; omega⟩ i h
 have c2:=QyB l (by omega)
 have hb:(i+(w.length-(i+1)))*32<=140737488355328:=by omega
 have hb1:i*32<=140737488355328:=by omega
 have hmin:i<w.length->min i w.length=i:=fun h=>by omega
 have F:=(Ja @hgx (Ja @hb (Ja @hb1 @hmin)))
 refine rn F ?_
 repeat' (first
  | with_reducible exact⟨⟩
  | (refine sB F ?_ ?_<;>intro hZ)
  | (refine Ql (c1 (by omega)) rfl ?_; rintro b -; refine rn F ?_)
  | (refine Ql (c2 ⟨_,_,_,_⟩) rfl ?_; rintro m hm; refine rn F ?_)
  | (refine Qc (id:=5) [0,1,2,3,4,5,6] [⟨[],[],7,[0,2,3,4,5],[8]⟩,⟨[],[],9,[],[]⟩] (by kernel_rfl) (by kernel_rfl) ?_; refine rn F ?_)
  | (refine Qc (id:=6) [0,1,2,3,5,6,7,8,9] [⟨[],[],4,[0,1,2,5,6,7,8,9],[]⟩,⟨[],[],10,[0,1,2,3,5,6,7,8],[11]⟩,⟨[],[],12,[],[]⟩] (by kernel_rfl) (by kernel_rfl) ?_; refine rn F ?_))
 ·have hl:(w.take i ++ w.drop (i + 1)).length = i + (w.length - (i + 1)):=by rw [Je,Jq,JF]; omega
  refine⟨⟨(⟨m,w.take i++w.drop (i+1)⟩,0),Jy _,by dsimp only; rw[hl]; omega⟩,by dsimp only; rw[hl]; omega,?_⟩
  dsimp only
  generalize w.take i++w.drop (i+1)=L at *
  generalize i+(w.length-(i+1))=n at *
  refine .inr ⟨2,⟨36,0,[(3,.int .i64 0),(2,.ptr 1 0),(1,.ptr 0 0)],[⟨55,true,[.pv (.sl (fz Qak m)),.own 2 4 0 n]⟩,⟨55,true,[.pv (.slc []),.pv (.slc [])]⟩,⟨248,true,cells Qak L⟩]⟩,(gc [0,1,3]),⟨rfl,rfl,Jy _,by simp,?_,⟨rfl,rfl,rfl,trivial⟩⟩⟩
  (refine rn @hl ?_; try with_reducible exact⟨⟩)
 ·exact⟨⟨(⟨l,w⟩,i+1),by dsimp only; omega,by dsimp only; omega⟩,by dsimp only; omega,.inl (gc [0,1])⟩
 ·exact⟨rfl,rfl,⟨l,w⟩,rfl,hsum⟩
def QuU(t:Lk)(hs:t.sum<=5000)(g:Gr):VCalls prog 263 [.agg t.d,.agg g.d] [] (Qz (fun n:Nat=>.int .i64 n) fun n=>n<=t.wait.length):=by
 refine dd Tryz.func263 ?_
 unfold Lk.sum at hs
 have c1:=QlJ t (by omega)
 obtain⟨l,w⟩:=t
 dsimp only at hs c1 |-
 generalize hm:QwY l=M at *
 (unfold Tryz.f263; refine rn trivial ?_)
 refine rn F ?_
 repeat' (first
  | with_reducible exact⟨⟩
  | (refine sB F ?_ ?_<;>intro hZ)
  | refine vp F (c1 _ _ _) ?_)
 ·exact⟨rfl,rfl,w.length,rfl,JT _⟩
 refine Qg (fun s:To w.length=>⟨47,0,[(5,.int .i64 s.i),(3,.ptr 1 0),(2,.ptr 0 0)],[⟨55,true,[.pv (.sl (fz Qak l)),.pv (.sl (fz Qak w))]⟩,⟨248,true,g.d⟩]⟩) (fun s=>w.length-s.i) ⟨0,Jy _⟩ (gc [0,1]) ?_
 intro s
 have hsi:=s.hi
 have hg:=fun h:s.i<w.length=>Qax w s.i h
 have F:=(Ja @hg @Qfl)
 refine rn F ?_
 repeat' (first
  | with_reducible exact⟨⟩
  | (refine sG F ?_ ?_<;>intro hZ)
  | (refine sB F ?_ ?_<;>intro hZ)
  | refine vp F (c1 _ _ _) ?_)
 all_goals first
  | exact⟨rfl,rfl,s.i,rfl,by omega⟩
  | exact⟨⟨s.i+1,by omega⟩,by dsimp only; omega,(gc [0,1])⟩
  | exact⟨rfl,rfl,w.length,rfl,JT _⟩
  | skip
end
end Go.Proofs.YtepdccfgnafgcaaGreat
