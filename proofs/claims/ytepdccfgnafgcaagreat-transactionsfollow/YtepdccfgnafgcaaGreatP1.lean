/-
  Contracts of functions and plain laws. No condition.
-/
import Derived.Test.YtepdccfgnafgcaaGreatProg
import Derived.Test.YtepdccfgnafgcaaGreatV4
import Derived.KernelRfl
set_option linter.unusedSimpArgs false
set_option linter.unusedVariables false
set_option linter.defProp false
set_option maxRecDepth 100000
set_option maxHeartbeats 8000000
set_option autoImplicit true
set_option relaxedAutoImplicit true
open And renaming intro->Ja
open Bool renaming and_eq_true->Jb,or_eq_true->Jf,not_eq_false'->Jg,not_eq_true'->Jh,and_eq_false_imp->Jl,or_eq_false_iff->Jn,eq_iff_iff->Jp,eq_false_iff->Jq,false_eq_true->Jr,true_eq_false->Jv,and_false->JD,not_eq_eq_eq_not->JV,beq_eq_decide_eq->Kd,false_and->Kf,not_false->Kg,not_true->Kp
open Int renaming reduceBEq->Je,reduceAdd->Jt,toNat_natCast->Jy,reduceLT->JC,reduceNeg->JS,fdiv_eq_ediv_of_nonneg->J3,natCast_pow->Ka,natCast_mul->Kx,reduceToNat->KA,natCast_one->KB,lt_trans->KG
open List renaming length_append->Jc,length_take->Ji,length_nil->Jj,getD_eq_getElem?_getD->Jk,length_cons->Jm,take_of_length_le->Jo,length_drop->Ju,take_succ_eq_append_getElem->Jw,take_length->Jz,getElem?_eq_getElem->JA,pairwise_iff_getElem->JG,findIdx_lt_length_of_exists->JH,any_eq_true->JJ,range->JK,append_nil->JL,length->JM,mem_range->JN,mem_take_iff_getElem->JO,all_eq_true->JP,getElem_mem->JQ,getElem?_take->JR,find?_eq_some_iff_getElem->JT,length_filter_le->JU,getElem_map->JX,findIdx_getElem->JY,takeWhile_cons->J0,length_set->J2,drop_drop->J4,getElem?_eq_some_iff->J5,drop_eq_getElem_cons->J6,mem_cons->J7,not_of_lt_findIdx->J8,getElem_cons_zero->J9,length_map->Kb,length_singleton->Kc,filter_eq_self->Kh,getElem_of_mem->Ki,drop_succ_cons->Kj,length_pos_iff->Kk,find?_eq_none->Kl,filter_append->Km,append_assoc->Kq,filter_cons->Kv,foldl_cons->Kz,map_nil->KE,drop->KM
open Nat renaming reduceBEq->Jd,reduceAdd->Js,reduceLT->JB,zero_le->JE,lt_of_lt_of_le->JF,pow_le_pow_right->JI,reduceLeDiff->JW,two_pow_add_eq_or_of_lt->JZ,le_refl->J1,mul_le_mul_right->Ke,add_sub_cancel->Ko,zero_add->Ks,lt_or_ge->Kt,two_pow_pos->Kw,mul_le_mul->KC,mod_lt->KD,mul_comm->KF,le_trans->KH,or_comm->KJ,mul_add->KK,pow_add->KL
open Option renaming getD_some->Ku,map_some->Ky
namespace Go.Proofs.YtepdccfgnafgcaaGreat
open Go.V Go
open Tryz (prog)
def F:True:=trivial
end Go.Proofs.YtepdccfgnafgcaaGreat
namespace Go.Proofs
open Go.V
theorem Tryz.vt3:vt prog 3=some none:=by kernel_rfl
theorem Tryz.vkind3:Qab prog 3=.int .i64:=by kernel_rfl
theorem Tryz.vzero3:QR prog 3=some [.pv (.lit (.int .i64 0))]:=by kernel_rfl
theorem Tryz.bytes3:QaQ prog 3=some 8:=by kernel_rfl
theorem Tryz.vt4:vt prog 4=some none:=by kernel_rfl
theorem Tryz.vt5:vt prog 5=some none:=by kernel_rfl
theorem Tryz.vkind5:Qab prog 5=.int .u8:=by kernel_rfl
theorem Tryz.vzero5:QR prog 5=some [.pv (.lit (.int .u8 0))]:=by kernel_rfl
theorem Tryz.bytes5:QaQ prog 5=some 1:=by kernel_rfl
theorem Tryz.vt9:vt prog 9=some none:=by kernel_rfl
theorem Tryz.vkind9:Qab prog 9=.str:=by kernel_rfl
theorem Tryz.vzero9:QR prog 9=some [.pv (.str [])]:=by kernel_rfl
theorem Tryz.bytes9:QaQ prog 9=some 16:=by kernel_rfl
theorem Tryz.vt22:vt prog 22=some none:=by kernel_rfl
theorem Tryz.velem22:QE prog 22=some (none,5,1):=by kernel_rfl
theorem Tryz.notInt22:QaX prog 22=true:=by kernel_rfl
theorem Tryz.vkind22:Qab prog 22=.sl 5:=by kernel_rfl
theorem Tryz.vt27:vt prog 27=some none:=by kernel_rfl
theorem Tryz.velem27:QE prog 27=some (none,3,1):=by kernel_rfl
theorem Tryz.notInt27:QaX prog 27=true:=by kernel_rfl
theorem Tryz.vkind27:Qab prog 27=.sl 3:=by kernel_rfl
theorem Tryz.vt32:vt prog 32=some none:=by kernel_rfl
theorem Tryz.velem32:QE prog 32=some (none,44,13):=by kernel_rfl
theorem Tryz.notInt32:QaX prog 32=true:=by kernel_rfl
theorem Tryz.vkind32:Qab prog 32=.sl 44:=by kernel_rfl
theorem Tryz.vzero32:QR prog 32=some [.pv (.slc [])]:=by kernel_rfl
theorem Tryz.vt34:vt prog 34=some (some 3):=by kernel_rfl
theorem Tryz.vfield34x0:Qf prog 34 0=some (3,0,1):=by kernel_rfl
theorem Tryz.vfield34x1:Qf prog 34 1=some (32,1,1):=by kernel_rfl
theorem Tryz.vfield34x2:Qf prog 34 2=some (3,2,1):=by kernel_rfl
theorem Tryz.vplaces34:QG prog 34=some fun j=>([(0,1),(1,1),(2,1)]:List (Nat×Nat))[j]?:=by kernel_rfl
theorem Tryz.vzero34:QR prog 34=some [.pv (.lit (.int .i64 0)),.pv (.slc []),.pv (.lit (.int .i64 0))]:=by kernel_rfl
theorem Tryz.vt35:vt prog 35=some none:=by kernel_rfl
theorem Tryz.vzero35:QR prog 35=some [.pv (.lit (.int .i64 0))]:=by kernel_rfl
theorem Tryz.vt40:vt prog 40=some (some 2):=by kernel_rfl
theorem Tryz.vfield40x0:Qf prog 40 0=some (4,0,1):=by kernel_rfl
theorem Tryz.vfield40x1:Qf prog 40 1=some (9,1,1):=by kernel_rfl
theorem Tryz.vplaces40:QG prog 40=some fun j=>([(0,1),(1,1)]:List (Nat×Nat))[j]?:=by kernel_rfl
theorem Tryz.vzero40:QR prog 40=some [.pv (.lit (.bool false)),.pv (.str [])]:=by kernel_rfl
theorem Tryz.leaves40:QaY prog 8 40=some [(0,0),(1,2)]:=by kernel_rfl
theorem Tryz.eqg40:prog.eqGuardType prog.depth 40=false:=by kernel_rfl
theorem Tryz.vt42:vt prog 42=some (some 6):=by kernel_rfl
theorem Tryz.vfield42x0:Qf prog 42 0=some (3,0,1):=by kernel_rfl
theorem Tryz.vfield42x1:Qf prog 42 1=some (3,1,1):=by kernel_rfl
theorem Tryz.vfield42x2:Qf prog 42 2=some (40,2,2):=by kernel_rfl
theorem Tryz.vfield42x3:Qf prog 42 3=some (40,4,2):=by kernel_rfl
theorem Tryz.vplaces42:QG prog 42=some fun j=>([(0,1),(1,1),(2,2),(4,2)]:List (Nat×Nat))[j]?:=by kernel_rfl
theorem Tryz.vzero42:QR prog 42=some [.pv (.lit (.int .i64 0)),.pv (.lit (.int .i64 0)),.pv (.lit (.bool false)),.pv (.str []),.pv (.lit (.bool false)),.pv (.str [])]:=by kernel_rfl
theorem Tryz.leaves42:QaY prog 8 42=some [(0,1),(1,1),(2,0),(3,2),(4,0),(5,2)]:=by kernel_rfl
theorem Tryz.eqg42:prog.eqGuardType prog.depth 42=false:=by kernel_rfl
theorem Tryz.vt44:vt prog 44=some (some 13):=by kernel_rfl
theorem Tryz.vfield44x0:Qf prog 44 0=some (3,0,1):=by kernel_rfl
theorem Tryz.vfield44x1:Qf prog 44 1=some (3,1,1):=by kernel_rfl
theorem Tryz.vfield44x2:Qf prog 44 2=some (3,2,1):=by kernel_rfl
theorem Tryz.vfield44x3:Qf prog 44 3=some (3,3,1):=by kernel_rfl
theorem Tryz.vfield44x4:Qf prog 44 4=some (3,4,1):=by kernel_rfl
theorem Tryz.vfield44x5:Qf prog 44 5=some (3,5,1):=by kernel_rfl
theorem Tryz.vfield44x6:Qf prog 44 6=some (42,6,6):=by kernel_rfl
theorem Tryz.vfield44x7:Qf prog 44 7=some (9,12,1):=by kernel_rfl
theorem Tryz.vplaces44:QG prog 44=some fun j=>([(0,1),(1,1),(2,1),(3,1),(4,1),(5,1),(6,6),(12,1)]:List (Nat×Nat))[j]?:=by kernel_rfl
theorem Tryz.vzero44:QR prog 44=some [.pv (.lit (.int .i64 0)),.pv (.lit (.int .i64 0)),.pv (.lit (.int .i64 0)),.pv (.lit (.int .i64 0)),.pv (.lit (.int .i64 0)),.pv (.lit (.int .i64 0)),.pv (.lit (.int .i64 0)),.pv (.lit (.int .i64 0)),.pv (.lit (.bool false)),.pv (.str []),.pv (.lit (.bool false)),.pv (.str []),.pv (.str [])]:=by kernel_rfl
theorem Tryz.bytes44:QaQ prog 44=some 128:=by kernel_rfl
theorem Tryz.leaves44:QaY prog 8 44=some [(0,1),(1,1),(2,1),(3,1),(4,1),(5,1),(6,1),(7,1),(8,0),(9,2),(10,0),(11,2),(12,2)]:=by kernel_rfl
theorem Tryz.eqg44:prog.eqGuardType prog.depth 44=false:=by kernel_rfl
theorem Tryz.vt50:vt prog 50=some none:=by kernel_rfl
theorem Tryz.velem50:QE prog 50=some (none,211,37):=by kernel_rfl
theorem Tryz.notInt50:QaX prog 50=true:=by kernel_rfl
theorem Tryz.vkind50:Qab prog 50=.sl 211:=by kernel_rfl
theorem Tryz.vt52:vt prog 52=some (some 3):=by kernel_rfl
theorem Tryz.vfield52x0:Qf prog 52 0=some (3,0,1):=by kernel_rfl
theorem Tryz.vfield52x1:Qf prog 52 1=some (50,1,1):=by kernel_rfl
theorem Tryz.vfield52x2:Qf prog 52 2=some (3,2,1):=by kernel_rfl
theorem Tryz.vplaces52:QG prog 52=some fun j=>([(0,1),(1,1),(2,1)]:List (Nat×Nat))[j]?:=by kernel_rfl
theorem Tryz.vzero52:QR prog 52=some [.pv (.lit (.int .i64 0)),.pv (.slc []),.pv (.lit (.int .i64 0))]:=by kernel_rfl
theorem Tryz.vt53:vt prog 53=some none:=by kernel_rfl
theorem Tryz.velem53:QE prog 53=some (none,248,4):=by kernel_rfl
theorem Tryz.notInt53:QaX prog 53=true:=by kernel_rfl
theorem Tryz.vkind53:Qab prog 53=.sl 248:=by kernel_rfl
theorem Tryz.vt55:vt prog 55=some (some 2):=by kernel_rfl
theorem Tryz.vfield55x0:Qf prog 55 0=some (53,0,1):=by kernel_rfl
theorem Tryz.vfield55x1:Qf prog 55 1=some (53,1,1):=by kernel_rfl
theorem Tryz.vplaces55:QG prog 55=some fun j=>([(0,1),(1,1)]:List (Nat×Nat))[j]?:=by kernel_rfl
theorem Tryz.vzero55:QR prog 55=some [.pv (.slc []),.pv (.slc [])]:=by kernel_rfl
theorem Tryz.vt56:vt prog 56=some none:=by kernel_rfl
theorem Tryz.velem56:QE prog 56=some (none,71,6):=by kernel_rfl
theorem Tryz.notInt56:QaX prog 56=true:=by kernel_rfl
theorem Tryz.vkind56:Qab prog 56=.sl 71:=by kernel_rfl
theorem Tryz.vt57:vt prog 57=some none:=by kernel_rfl
theorem Tryz.velem57:QE prog 57=some (none,300,3):=by kernel_rfl
theorem Tryz.notInt57:QaX prog 57=true:=by kernel_rfl
theorem Tryz.vkind57:Qab prog 57=.sl 300:=by kernel_rfl
theorem Tryz.vt59:vt prog 59=some (some 1):=by kernel_rfl
theorem Tryz.vfield59x0:Qf prog 59 0=some (57,0,1):=by kernel_rfl
theorem Tryz.vplaces59:QG prog 59=some fun j=>([(0,1)]:List (Nat×Nat))[j]?:=by kernel_rfl
theorem Tryz.vzero59:QR prog 59=some [.pv (.slc [])]:=by kernel_rfl
theorem Tryz.vt60:vt prog 60=some none:=by kernel_rfl
theorem Tryz.velem60:QE prog 60=some (none,219,3):=by kernel_rfl
theorem Tryz.notInt60:QaX prog 60=true:=by kernel_rfl
theorem Tryz.vkind60:Qab prog 60=.sl 219:=by kernel_rfl
theorem Tryz.vt62:vt prog 62=some (some 13):=by kernel_rfl
theorem Tryz.vfield62x0:Qf prog 62 0=some (3,0,1):=by kernel_rfl
theorem Tryz.vfield62x1:Qf prog 62 1=some (3,1,1):=by kernel_rfl
theorem Tryz.vfield62x2:Qf prog 62 2=some (34,2,3):=by kernel_rfl
theorem Tryz.vfield62x3:Qf prog 62 3=some (52,5,3):=by kernel_rfl
theorem Tryz.vfield62x4:Qf prog 62 4=some (55,8,2):=by kernel_rfl
theorem Tryz.vfield62x5:Qf prog 62 5=some (56,10,1):=by kernel_rfl
theorem Tryz.vfield62x6:Qf prog 62 6=some (59,11,1):=by kernel_rfl
theorem Tryz.vfield62x7:Qf prog 62 7=some (60,12,1):=by kernel_rfl
theorem Tryz.vplaces62:QG prog 62=some fun j=>([(0,1),(1,1),(2,3),(5,3),(8,2),(10,1),(11,1),(12,1)]:List (Nat×Nat))[j]?:=by kernel_rfl
theorem Tryz.vzero62:QR prog 62=some [.pv (.lit (.int .i64 0)),.pv (.lit (.int .i64 0)),.pv (.lit (.int .i64 0)),.pv (.slc []),.pv (.lit (.int .i64 0)),.pv (.lit (.int .i64 0)),.pv (.slc []),.pv (.lit (.int .i64 0)),.pv (.slc []),.pv (.slc []),.pv (.slc []),.pv (.slc []),.pv (.slc [])]:=by kernel_rfl
theorem Tryz.vt71:vt prog 71=some (some 6):=by kernel_rfl
theorem Tryz.vfield71x0:Qf prog 71 0=some (3,0,1):=by kernel_rfl
theorem Tryz.vfield71x1:Qf prog 71 1=some (3,1,1):=by kernel_rfl
theorem Tryz.vfield71x2:Qf prog 71 2=some (3,2,1):=by kernel_rfl
theorem Tryz.vfield71x3:Qf prog 71 3=some (3,3,1):=by kernel_rfl
theorem Tryz.vfield71x4:Qf prog 71 4=some (27,4,1):=by kernel_rfl
theorem Tryz.vfield71x5:Qf prog 71 5=some (27,5,1):=by kernel_rfl
theorem Tryz.vplaces71:QG prog 71=some fun j=>([(0,1),(1,1),(2,1),(3,1),(4,1),(5,1)]:List (Nat×Nat))[j]?:=by kernel_rfl
theorem Tryz.vzero71:QR prog 71=some [.pv (.lit (.int .i64 0)),.pv (.lit (.int .i64 0)),.pv (.lit (.int .i64 0)),.pv (.lit (.int .i64 0)),.pv (.slc []),.pv (.slc [])]:=by kernel_rfl
theorem Tryz.bytes71:QaQ prog 71=some 80:=by kernel_rfl
theorem Tryz.vfield80x0:Qf prog 80 0=some (22,0,1):=by kernel_rfl
theorem Tryz.vfield80x1:Qf prog 80 1=some (3,1,1):=by kernel_rfl
theorem Tryz.vplaces80:QG prog 80=some fun j=>([(0,1),(1,1)]:List (Nat×Nat))[j]?:=by kernel_rfl
theorem Tryz.vzero80:QR prog 80=some [.pv (.slc []),.pv (.lit (.int .i64 0))]:=by kernel_rfl
theorem Tryz.vt85:vt prog 85=some none:=by kernel_rfl
theorem Tryz.vt96:vt prog 96=some none:=by kernel_rfl
theorem Tryz.velem96:QE prog 96=some (none,9,1):=by kernel_rfl
theorem Tryz.notInt96:QaX prog 96=true:=by kernel_rfl
theorem Tryz.vkind96:Qab prog 96=.sl 9:=by kernel_rfl
theorem Tryz.vt97:vt prog 97=some none:=by kernel_rfl
theorem Tryz.velem97:QE prog 97=some (none,276,6):=by kernel_rfl
theorem Tryz.notInt97:QaX prog 97=true:=by kernel_rfl
theorem Tryz.vkind97:Qab prog 97=.sl 276:=by kernel_rfl
theorem Tryz.vt99:vt prog 99=some (some 5):=by kernel_rfl
theorem Tryz.vfield99x0:Qf prog 99 0=some (96,0,1):=by kernel_rfl
theorem Tryz.vfield99x1:Qf prog 99 1=some (3,1,1):=by kernel_rfl
theorem Tryz.vfield99x2:Qf prog 99 2=some (27,2,1):=by kernel_rfl
theorem Tryz.vfield99x3:Qf prog 99 3=some (4,3,1):=by kernel_rfl
theorem Tryz.vfield99x4:Qf prog 99 4=some (97,4,1):=by kernel_rfl
theorem Tryz.vplaces99:QG prog 99=some fun j=>([(0,1),(1,1),(2,1),(3,1),(4,1)]:List (Nat×Nat))[j]?:=by kernel_rfl
theorem Tryz.vzero99:QR prog 99=some [.pv (.slc []),.pv (.lit (.int .i64 0)),.pv (.slc []),.pv (.lit (.bool false)),.pv (.slc [])]:=by kernel_rfl
theorem Tryz.vt101:vt prog 101=some (some 18):=by kernel_rfl
theorem Tryz.vfield101x0:Qf prog 101 0=some (62,0,13):=by kernel_rfl
theorem Tryz.vfield101x1:Qf prog 101 1=some (99,13,5):=by kernel_rfl
theorem Tryz.vplaces101:QG prog 101=some fun j=>([(0,13),(13,5)]:List (Nat×Nat))[j]?:=by kernel_rfl
theorem Tryz.vzero101:QR prog 101=some [.pv (.lit (.int .i64 0)),.pv (.lit (.int .i64 0)),.pv (.lit (.int .i64 0)),.pv (.slc []),.pv (.lit (.int .i64 0)),.pv (.lit (.int .i64 0)),.pv (.slc []),.pv (.lit (.int .i64 0)),.pv (.slc []),.pv (.slc []),.pv (.slc []),.pv (.slc []),.pv (.slc []),.pv (.slc []),.pv (.lit (.int .i64 0)),.pv (.slc []),.pv (.lit (.bool false)),.pv (.slc [])]:=by kernel_rfl
theorem Tryz.vkind132:Qab prog 132=.int .u64:=by kernel_rfl
theorem Tryz.velem139:QE prog 139=some (none,173,6):=by kernel_rfl
theorem Tryz.notInt139:QaX prog 139=true:=by kernel_rfl
theorem Tryz.vt140:vt prog 140=some none:=by kernel_rfl
theorem Tryz.velem140:QE prog 140=some (none,204,6):=by kernel_rfl
theorem Tryz.notInt140:QaX prog 140=true:=by kernel_rfl
theorem Tryz.velem143:QE prog 143=some (none,178,9):=by kernel_rfl
theorem Tryz.notInt143:QaX prog 143=true:=by kernel_rfl
theorem Tryz.vkind143:Qab prog 143=.sl 178:=by kernel_rfl
theorem Tryz.vt149:vt prog 149=some none:=by kernel_rfl
theorem Tryz.vt151:vt prog 151=some (some 7):=by kernel_rfl
theorem Tryz.vfield151x0:Qf prog 151 0=some (4,0,1):=by kernel_rfl
theorem Tryz.vfield151x1:Qf prog 151 1=some (4,1,1):=by kernel_rfl
theorem Tryz.vfield151x2:Qf prog 151 2=some (4,2,1):=by kernel_rfl
theorem Tryz.vfield151x3:Qf prog 151 3=some (4,3,1):=by kernel_rfl
theorem Tryz.vfield151x4:Qf prog 151 4=some (4,4,1):=by kernel_rfl
theorem Tryz.vfield151x5:Qf prog 151 5=some (85,5,1):=by kernel_rfl
theorem Tryz.vfield151x6:Qf prog 151 6=some (149,6,1):=by kernel_rfl
theorem Tryz.vplaces151:QG prog 151=some fun j=>([(0,1),(1,1),(2,1),(3,1),(4,1),(5,1),(6,1)]:List (Nat×Nat))[j]?:=by kernel_rfl
theorem Tryz.vzero151:QR prog 151=some [.pv (.lit (.bool false)),.pv (.lit (.bool false)),.pv (.lit (.bool false)),.pv (.lit (.bool false)),.pv (.lit (.bool false)),.pv (.lit .nilFunc),.pv (.lit .nilFunc)]:=by kernel_rfl
theorem Tryz.vt152:vt prog 152=some (some 63):=by kernel_rfl
theorem Tryz.velem152:QE prog 152=some (some 9,151,7):=by kernel_rfl
theorem Tryz.vplaces152:QG prog 152=some fun j=>some (j*7,7):=by kernel_rfl
theorem Tryz.vzero152:QR prog 152=some [.pv (.lit (.bool false)),.pv (.lit (.bool false)),.pv (.lit (.bool false)),.pv (.lit (.bool false)),.pv (.lit (.bool false)),.pv (.lit .nilFunc),.pv (.lit .nilFunc),.pv (.lit (.bool false)),.pv (.lit (.bool false)),.pv (.lit (.bool false)),.pv (.lit (.bool false)),.pv (.lit (.bool false)),.pv (.lit .nilFunc),.pv (.lit .nilFunc),.pv (.lit (.bool false)),.pv (.lit (.bool false)),.pv (.lit (.bool false)),.pv (.lit (.bool false)),.pv (.lit (.bool false)),.pv (.lit .nilFunc),.pv (.lit .nilFunc),.pv (.lit (.bool false)),.pv (.lit (.bool false)),.pv (.lit (.bool false)),.pv (.lit (.bool false)),.pv (.lit (.bool false)),.pv (.lit .nilFunc),.pv (.lit .nilFunc),.pv (.lit (.bool false)),.pv (.lit (.bool false)),.pv (.lit (.bool false)),.pv (.lit (.bool false)),.pv (.lit (.bool false)),.pv (.lit .nilFunc),.pv (.lit .nilFunc),.pv (.lit (.bool false)),.pv (.lit (.bool false)),.pv (.lit (.bool false)),.pv (.lit (.bool false)),.pv (.lit (.bool false)),.pv (.lit .nilFunc),.pv (.lit .nilFunc),.pv (.lit (.bool false)),.pv (.lit (.bool false)),.pv (.lit (.bool false)),.pv (.lit (.bool false)),.pv (.lit (.bool false)),.pv (.lit .nilFunc),.pv (.lit .nilFunc),.pv (.lit (.bool false)),.pv (.lit (.bool false)),.pv (.lit (.bool false)),.pv (.lit (.bool false)),.pv (.lit (.bool false)),.pv (.lit .nilFunc),.pv (.lit .nilFunc),.pv (.lit (.bool false)),.pv (.lit (.bool false)),.pv (.lit (.bool false)),.pv (.lit (.bool false)),.pv (.lit (.bool false)),.pv (.lit .nilFunc),.pv (.lit .nilFunc)]:=by kernel_rfl
theorem Tryz.vkind154:Qab prog 154=.int .u64:=by kernel_rfl
theorem Tryz.vt159:vt prog 159=some none:=by kernel_rfl
theorem Tryz.vt161:vt prog 161=some (some 14):=by kernel_rfl
theorem Tryz.vfield161x0:Qf prog 161 0=some (44,0,13):=by kernel_rfl
theorem Tryz.vfield161x1:Qf prog 161 1=some (35,13,1):=by kernel_rfl
theorem Tryz.vplaces161:QG prog 161=some fun j=>([(0,13),(13,1)]:List (Nat×Nat))[j]?:=by kernel_rfl
theorem Tryz.vzero161:QR prog 161=some [.pv (.lit (.int .i64 0)),.pv (.lit (.int .i64 0)),.pv (.lit (.int .i64 0)),.pv (.lit (.int .i64 0)),.pv (.lit (.int .i64 0)),.pv (.lit (.int .i64 0)),.pv (.lit (.int .i64 0)),.pv (.lit (.int .i64 0)),.pv (.lit (.bool false)),.pv (.str []),.pv (.lit (.bool false)),.pv (.str []),.pv (.str []),.pv (.lit (.int .i64 0))]:=by kernel_rfl
theorem Tryz.vfield171x0:Qf prog 171 0=some (101,0,18):=by kernel_rfl
theorem Tryz.vfield171x1:Qf prog 171 1=some (27,18,1):=by kernel_rfl
theorem Tryz.vfield171x2:Qf prog 171 2=some (140,19,1):=by kernel_rfl
theorem Tryz.vfield171x3:Qf prog 171 3=some (4,20,1):=by kernel_rfl
theorem Tryz.vplaces171:QG prog 171=some fun j=>([(0,18),(18,1),(19,1),(20,1)]:List (Nat×Nat))[j]?:=by kernel_rfl
theorem Tryz.vzero171:QR prog 171=some [.pv (.lit (.int .i64 0)),.pv (.lit (.int .i64 0)),.pv (.lit (.int .i64 0)),.pv (.slc []),.pv (.lit (.int .i64 0)),.pv (.lit (.int .i64 0)),.pv (.slc []),.pv (.lit (.int .i64 0)),.pv (.slc []),.pv (.slc []),.pv (.slc []),.pv (.slc []),.pv (.slc []),.pv (.slc []),.pv (.lit (.int .i64 0)),.pv (.slc []),.pv (.lit (.bool false)),.pv (.slc []),.pv (.slc []),.pv (.slc []),.pv (.lit (.bool false))]:=by kernel_rfl
theorem Tryz.vt173:vt prog 173=some (some 6):=by kernel_rfl
theorem Tryz.vfield173x0:Qf prog 173 0=some (3,0,1):=by kernel_rfl
theorem Tryz.vfield173x1:Qf prog 173 1=some (3,1,1):=by kernel_rfl
theorem Tryz.vfield173x2:Qf prog 173 2=some (3,2,1):=by kernel_rfl
theorem Tryz.vfield173x3:Qf prog 173 3=some (40,3,2):=by kernel_rfl
theorem Tryz.vfield173x4:Qf prog 173 4=some (35,5,1):=by kernel_rfl
theorem Tryz.vplaces173:QG prog 173=some fun j=>([(0,1),(1,1),(2,1),(3,2),(5,1)]:List (Nat×Nat))[j]?:=by kernel_rfl
theorem Tryz.vzero173:QR prog 173=some [.pv (.lit (.int .i64 0)),.pv (.lit (.int .i64 0)),.pv (.lit (.int .i64 0)),.pv (.lit (.bool false)),.pv (.str []),.pv (.lit (.int .i64 0))]:=by kernel_rfl
theorem Tryz.bytes173:QaQ prog 173=some 56:=by kernel_rfl
theorem Tryz.vt176:vt prog 176=some (some 4):=by kernel_rfl
theorem Tryz.vfield176x0:Qf prog 176 0=some (3,0,1):=by kernel_rfl
theorem Tryz.vfield176x1:Qf prog 176 1=some (3,1,1):=by kernel_rfl
theorem Tryz.vfield176x2:Qf prog 176 2=some (3,2,1):=by kernel_rfl
theorem Tryz.vfield176x3:Qf prog 176 3=some (9,3,1):=by kernel_rfl
theorem Tryz.vplaces176:QG prog 176=some fun j=>([(0,1),(1,1),(2,1),(3,1)]:List (Nat×Nat))[j]?:=by kernel_rfl
theorem Tryz.vzero176:QR prog 176=some [.pv (.lit (.int .i64 0)),.pv (.lit (.int .i64 0)),.pv (.lit (.int .i64 0)),.pv (.str [])]:=by kernel_rfl
theorem Tryz.leaves176:QaY prog 8 176=some [(0,1),(1,1),(2,1),(3,2)]:=by kernel_rfl
theorem Tryz.eqg176:prog.eqGuardType prog.depth 176=false:=by kernel_rfl
theorem Tryz.vt178:vt prog 178=some (some 9):=by kernel_rfl
theorem Tryz.vfield178x0:Qf prog 178 0=some (3,0,1):=by kernel_rfl
theorem Tryz.vfield178x1:Qf prog 178 1=some (3,1,1):=by kernel_rfl
theorem Tryz.vfield178x2:Qf prog 178 2=some (3,2,1):=by kernel_rfl
theorem Tryz.vfield178x3:Qf prog 178 3=some (3,3,1):=by kernel_rfl
theorem Tryz.vfield178x4:Qf prog 178 4=some (3,4,1):=by kernel_rfl
theorem Tryz.vfield178x5:Qf prog 178 5=some (176,5,4):=by kernel_rfl
theorem Tryz.vplaces178:QG prog 178=some fun j=>([(0,1),(1,1),(2,1),(3,1),(4,1),(5,4)]:List (Nat×Nat))[j]?:=by kernel_rfl
theorem Tryz.vzero178:QR prog 178=some [.pv (.lit (.int .i64 0)),.pv (.lit (.int .i64 0)),.pv (.lit (.int .i64 0)),.pv (.lit (.int .i64 0)),.pv (.lit (.int .i64 0)),.pv (.lit (.int .i64 0)),.pv (.lit (.int .i64 0)),.pv (.lit (.int .i64 0)),.pv (.str [])]:=by kernel_rfl
theorem Tryz.bytes178:QaQ prog 178=some 80:=by kernel_rfl
theorem Tryz.vplaces204:QG prog 204=some fun j=>([(0,1),(1,1),(2,1),(3,1),(4,2)]:List (Nat×Nat))[j]?:=by kernel_rfl
theorem Tryz.vzero204:QR prog 204=some [.pv (.lit (.int .i64 0)),.pv (.lit (.int .i64 0)),.pv (.lit (.int .i64 0)),.pv (.lit (.int .i64 0)),.pv (.lit (.bool false)),.pv (.str [])]:=by kernel_rfl
theorem Tryz.bytes204:QaQ prog 204=some 56:=by kernel_rfl
theorem Tryz.velem205:QE prog 205=some (some 16,40,2):=by kernel_rfl
theorem Tryz.vt207:vt prog 207=some (some 34):=by kernel_rfl
theorem Tryz.vfield207x0:Qf prog 207 0=some (3,0,1):=by kernel_rfl
theorem Tryz.vfield207x1:Qf prog 207 1=some (3,1,1):=by kernel_rfl
theorem Tryz.vfield207x2:Qf prog 207 2=some (205,2,32):=by kernel_rfl
theorem Tryz.vplaces207:QG prog 207=some fun j=>([(0,1),(1,1),(2,32)]:List (Nat×Nat))[j]?:=by kernel_rfl
theorem Tryz.vzero207:QR prog 207=some [.pv (.lit (.int .i64 0)),.pv (.lit (.int .i64 0)),.pv (.lit (.bool false)),.pv (.str []),.pv (.lit (.bool false)),.pv (.str []),.pv (.lit (.bool false)),.pv (.str []),.pv (.lit (.bool false)),.pv (.str []),.pv (.lit (.bool false)),.pv (.str []),.pv (.lit (.bool false)),.pv (.str []),.pv (.lit (.bool false)),.pv (.str []),.pv (.lit (.bool false)),.pv (.str []),.pv (.lit (.bool false)),.pv (.str []),.pv (.lit (.bool false)),.pv (.str []),.pv (.lit (.bool false)),.pv (.str []),.pv (.lit (.bool false)),.pv (.str []),.pv (.lit (.bool false)),.pv (.str []),.pv (.lit (.bool false)),.pv (.str []),.pv (.lit (.bool false)),.pv (.str []),.pv (.lit (.bool false)),.pv (.str [])]:=by kernel_rfl
theorem Tryz.vt211:vt prog 211=some (some 37):=by kernel_rfl
theorem Tryz.vfield211x0:Qf prog 211 0=some (207,0,34):=by kernel_rfl
theorem Tryz.vfield211x1:Qf prog 211 1=some (4,34,1):=by kernel_rfl
theorem Tryz.vfield211x2:Qf prog 211 2=some (3,35,1):=by kernel_rfl
theorem Tryz.vfield211x3:Qf prog 211 3=some (4,36,1):=by kernel_rfl
theorem Tryz.vplaces211:QG prog 211=some fun j=>([(0,34),(34,1),(35,1),(36,1)]:List (Nat×Nat))[j]?:=by kernel_rfl
theorem Tryz.vzero211:QR prog 211=some [.pv (.lit (.int .i64 0)),.pv (.lit (.int .i64 0)),.pv (.lit (.bool false)),.pv (.str []),.pv (.lit (.bool false)),.pv (.str []),.pv (.lit (.bool false)),.pv (.str []),.pv (.lit (.bool false)),.pv (.str []),.pv (.lit (.bool false)),.pv (.str []),.pv (.lit (.bool false)),.pv (.str []),.pv (.lit (.bool false)),.pv (.str []),.pv (.lit (.bool false)),.pv (.str []),.pv (.lit (.bool false)),.pv (.str []),.pv (.lit (.bool false)),.pv (.str []),.pv (.lit (.bool false)),.pv (.str []),.pv (.lit (.bool false)),.pv (.str []),.pv (.lit (.bool false)),.pv (.str []),.pv (.lit (.bool false)),.pv (.str []),.pv (.lit (.bool false)),.pv (.str []),.pv (.lit (.bool false)),.pv (.str []),.pv (.lit (.bool false)),.pv (.lit (.int .i64 0)),.pv (.lit (.bool false))]:=by kernel_rfl
theorem Tryz.bytes211:QaQ prog 211=some 424:=by kernel_rfl
theorem Tryz.vt219:vt prog 219=some (some 3):=by kernel_rfl
theorem Tryz.vfield219x0:Qf prog 219 0=some (3,0,1):=by kernel_rfl
theorem Tryz.vfield219x1:Qf prog 219 1=some (3,1,1):=by kernel_rfl
theorem Tryz.vfield219x2:Qf prog 219 2=some (3,2,1):=by kernel_rfl
theorem Tryz.vplaces219:QG prog 219=some fun j=>([(0,1),(1,1),(2,1)]:List (Nat×Nat))[j]?:=by kernel_rfl
theorem Tryz.vzero219:QR prog 219=some [.pv (.lit (.int .i64 0)),.pv (.lit (.int .i64 0)),.pv (.lit (.int .i64 0))]:=by kernel_rfl
theorem Tryz.bytes219:QaQ prog 219=some 24:=by kernel_rfl
theorem Tryz.vt225:vt prog 225=some (some 2):=by kernel_rfl
theorem Tryz.vfield225x0:Qf prog 225 0=some (3,0,1):=by kernel_rfl
theorem Tryz.vfield225x1:Qf prog 225 1=some (3,1,1):=by kernel_rfl
theorem Tryz.vplaces225:QG prog 225=some fun j=>([(0,1),(1,1)]:List (Nat×Nat))[j]?:=by kernel_rfl
theorem Tryz.vzero225:QR prog 225=some [.pv (.lit (.int .i64 0)),.pv (.lit (.int .i64 0))]:=by kernel_rfl
theorem Tryz.leaves225:QaY prog 8 225=some [(0,1),(1,1)]:=by kernel_rfl
theorem Tryz.eqg225:prog.eqGuardType prog.depth 225=false:=by kernel_rfl
theorem Tryz.vt238:vt prog 238=some (some 5):=by kernel_rfl
theorem Tryz.vfield238x0:Qf prog 238 0=some (3,0,1):=by kernel_rfl
theorem Tryz.vfield238x1:Qf prog 238 1=some (3,1,1):=by kernel_rfl
theorem Tryz.vfield238x2:Qf prog 238 2=some (56,2,1):=by kernel_rfl
theorem Tryz.vfield238x3:Qf prog 238 3=some (60,3,1):=by kernel_rfl
theorem Tryz.vfield238x4:Qf prog 238 4=some (59,4,1):=by kernel_rfl
theorem Tryz.vplaces238:QG prog 238=some fun j=>([(0,1),(1,1),(2,1),(3,1),(4,1)]:List (Nat×Nat))[j]?:=by kernel_rfl
theorem Tryz.vzero238:QR prog 238=some [.pv (.lit (.int .i64 0)),.pv (.lit (.int .i64 0)),.pv (.slc []),.pv (.slc []),.pv (.slc [])]:=by kernel_rfl
theorem Tryz.vt248:vt prog 248=some (some 4):=by kernel_rfl
theorem Tryz.vfield248x0:Qf prog 248 0=some (3,0,1):=by kernel_rfl
theorem Tryz.vfield248x1:Qf prog 248 1=some (225,1,2):=by kernel_rfl
theorem Tryz.vfield248x2:Qf prog 248 2=some (3,3,1):=by kernel_rfl
theorem Tryz.vplaces248:QG prog 248=some fun j=>([(0,1),(1,2),(3,1)]:List (Nat×Nat))[j]?:=by kernel_rfl
theorem Tryz.vzero248:QR prog 248=some [.pv (.lit (.int .i64 0)),.pv (.lit (.int .i64 0)),.pv (.lit (.int .i64 0)),.pv (.lit (.int .i64 0))]:=by kernel_rfl
theorem Tryz.bytes248:QaQ prog 248=some 32:=by kernel_rfl
theorem Tryz.leaves248:QaY prog 8 248=some [(0,1),(1,1),(2,1),(3,1)]:=by kernel_rfl
theorem Tryz.eqg248:prog.eqGuardType prog.depth 248=false:=by kernel_rfl
theorem Tryz.vkind271:Qab prog 271=.int .u32:=by kernel_rfl
theorem Tryz.vzero276:QR prog 276=some [.pv (.lit (.int .i64 0)),.pv (.lit (.int .i64 0)),.pv (.lit (.int .i64 0)),.pv (.lit (.int .i64 0)),.pv (.lit (.int .i64 0)),.pv (.lit (.int .u8 0))]:=by kernel_rfl
theorem Tryz.bytes276:QaQ prog 276=some 48:=by kernel_rfl
theorem Tryz.vt289:vt prog 289=some (some 7):=by kernel_rfl
theorem Tryz.vfield289x0:Qf prog 289 0=some (3,0,1):=by kernel_rfl
theorem Tryz.vfield289x1:Qf prog 289 1=some (3,1,1):=by kernel_rfl
theorem Tryz.vfield289x2:Qf prog 289 2=some (3,2,1):=by kernel_rfl
theorem Tryz.vfield289x3:Qf prog 289 3=some (56,3,1):=by kernel_rfl
theorem Tryz.vfield289x4:Qf prog 289 4=some (53,4,1):=by kernel_rfl
theorem Tryz.vfield289x5:Qf prog 289 5=some (60,5,1):=by kernel_rfl
theorem Tryz.vfield289x6:Qf prog 289 6=some (59,6,1):=by kernel_rfl
theorem Tryz.vplaces289:QG prog 289=some fun j=>([(0,1),(1,1),(2,1),(3,1),(4,1),(5,1),(6,1)]:List (Nat×Nat))[j]?:=by kernel_rfl
theorem Tryz.vzero289:QR prog 289=some [.pv (.lit (.int .i64 0)),.pv (.lit (.int .i64 0)),.pv (.lit (.int .i64 0)),.pv (.slc []),.pv (.slc []),.pv (.slc []),.pv (.slc [])]:=by kernel_rfl
theorem Tryz.vt300:vt prog 300=some (some 3):=by kernel_rfl
theorem Tryz.vfield300x0:Qf prog 300 0=some (3,0,1):=by kernel_rfl
theorem Tryz.vfield300x1:Qf prog 300 1=some (3,1,1):=by kernel_rfl
theorem Tryz.vfield300x2:Qf prog 300 2=some (3,2,1):=by kernel_rfl
theorem Tryz.vzero300:QR prog 300=some [.pv (.lit (.int .i64 0)),.pv (.lit (.int .i64 0)),.pv (.lit (.int .i64 0))]:=by kernel_rfl
theorem Tryz.bytes300:QaQ prog 300=some 24:=by kernel_rfl
theorem Tryz.vfield358x0:Qf prog 358 0=some (9,0,1):=by kernel_rfl
theorem Tryz.vfield358x1:Qf prog 358 1=some (3,1,1):=by kernel_rfl
theorem Tryz.vfield358x2:Qf prog 358 2=some (35,2,1):=by kernel_rfl
theorem Tryz.vplaces358:QG prog 358=some fun j=>([(0,1),(1,1),(2,1)]:List (Nat×Nat))[j]?:=by kernel_rfl
theorem Tryz.vzero358:QR prog 358=some [.pv (.str []),.pv (.lit (.int .i64 0)),.pv (.lit (.int .i64 0))]:=by kernel_rfl
theorem Tryz.vfield370x0:Qf prog 370 0=some (9,0,1):=by kernel_rfl
theorem Tryz.vfield370x1:Qf prog 370 1=some (3,1,1):=by kernel_rfl
theorem Tryz.vfield370x2:Qf prog 370 2=some (4,2,1):=by kernel_rfl
theorem Tryz.vplaces370:QG prog 370=some fun j=>([(0,1),(1,1),(2,1)]:List (Nat×Nat))[j]?:=by kernel_rfl
theorem Tryz.vzero370:QR prog 370=some [.pv (.str []),.pv (.lit (.int .i64 0)),.pv (.lit (.bool false))]:=by kernel_rfl
attribute [go_sem] Tryz.vt3 Tryz.vkind3 Tryz.vzero3 Tryz.bytes3 Tryz.vt4 Tryz.vt5 Tryz.vkind5 Tryz.vzero5 Tryz.bytes5 Tryz.vt9 Tryz.vkind9 Tryz.vzero9 Tryz.bytes9 Tryz.vt22 Tryz.velem22 Tryz.notInt22 Tryz.vkind22 Tryz.vt27 Tryz.velem27 Tryz.notInt27 Tryz.vkind27 Tryz.vt32 Tryz.velem32 Tryz.notInt32 Tryz.vkind32 Tryz.vzero32 Tryz.vt34 Tryz.vfield34x0 Tryz.vfield34x1 Tryz.vfield34x2 Tryz.vplaces34 Tryz.vzero34 Tryz.vt35 Tryz.vzero35 Tryz.vt40 Tryz.vfield40x0 Tryz.vfield40x1 Tryz.vplaces40 Tryz.vzero40 Tryz.leaves40 Tryz.eqg40 Tryz.vt42 Tryz.vfield42x0 Tryz.vfield42x1 Tryz.vfield42x2 Tryz.vfield42x3 Tryz.vplaces42 Tryz.vzero42 Tryz.leaves42 Tryz.eqg42 Tryz.vt44 Tryz.vfield44x0 Tryz.vfield44x1 Tryz.vfield44x2 Tryz.vfield44x3 Tryz.vfield44x4 Tryz.vfield44x5 Tryz.vfield44x6 Tryz.vfield44x7 Tryz.vplaces44 Tryz.vzero44 Tryz.bytes44 Tryz.leaves44 Tryz.eqg44 Tryz.vt50 Tryz.velem50 Tryz.notInt50 Tryz.vkind50 Tryz.vt52 Tryz.vfield52x0 Tryz.vfield52x1 Tryz.vfield52x2 Tryz.vplaces52 Tryz.vzero52 Tryz.vt53 Tryz.velem53 Tryz.notInt53 Tryz.vkind53 Tryz.vt55 Tryz.vfield55x0 Tryz.vfield55x1 Tryz.vplaces55 Tryz.vzero55 Tryz.vt56 Tryz.velem56 Tryz.notInt56 Tryz.vkind56 Tryz.vt57 Tryz.velem57 Tryz.notInt57 Tryz.vkind57 Tryz.vt59 Tryz.vfield59x0 Tryz.vplaces59 Tryz.vzero59 Tryz.vt60 Tryz.velem60 Tryz.notInt60 Tryz.vkind60 Tryz.vt62 Tryz.vfield62x0 Tryz.vfield62x1 Tryz.vfield62x2 Tryz.vfield62x3 Tryz.vfield62x4 Tryz.vfield62x5 Tryz.vfield62x6 Tryz.vfield62x7 Tryz.vplaces62 Tryz.vzero62 Tryz.vt71 Tryz.vfield71x0 Tryz.vfield71x1 Tryz.vfield71x2 Tryz.vfield71x3 Tryz.vfield71x4 Tryz.vfield71x5 Tryz.vplaces71 Tryz.vzero71 Tryz.bytes71 Tryz.vfield80x0 Tryz.vfield80x1 Tryz.vplaces80 Tryz.vzero80 Tryz.vt85 Tryz.vt96 Tryz.velem96 Tryz.notInt96 Tryz.vkind96 Tryz.vt97 Tryz.velem97 Tryz.notInt97 Tryz.vkind97 Tryz.vt99 Tryz.vfield99x0 Tryz.vfield99x1 Tryz.vfield99x2 Tryz.vfield99x3 Tryz.vfield99x4 Tryz.vplaces99 Tryz.vzero99 Tryz.vt101 Tryz.vfield101x0 Tryz.vfield101x1 Tryz.vplaces101 Tryz.vzero101 Tryz.vkind132 Tryz.velem139 Tryz.notInt139 Tryz.vt140 Tryz.velem140 Tryz.notInt140 Tryz.velem143 Tryz.notInt143 Tryz.vkind143 Tryz.vt149 Tryz.vt151 Tryz.vfield151x0 Tryz.vfield151x1 Tryz.vfield151x2 Tryz.vfield151x3 Tryz.vfield151x4 Tryz.vfield151x5 Tryz.vfield151x6 Tryz.vplaces151 Tryz.vzero151 Tryz.vt152 Tryz.velem152 Tryz.vplaces152 Tryz.vzero152 Tryz.vkind154 Tryz.vt159 Tryz.vt161 Tryz.vfield161x0 Tryz.vfield161x1 Tryz.vplaces161 Tryz.vzero161 Tryz.vfield171x0 Tryz.vfield171x1 Tryz.vfield171x2 Tryz.vfield171x3 Tryz.vplaces171 Tryz.vzero171 Tryz.vt173 Tryz.vfield173x0 Tryz.vfield173x1 Tryz.vfield173x2 Tryz.vfield173x3 Tryz.vfield173x4 Tryz.vplaces173 Tryz.vzero173 Tryz.bytes173 Tryz.vt176 Tryz.vfield176x0 Tryz.vfield176x1 Tryz.vfield176x2 Tryz.vfield176x3 Tryz.vplaces176 Tryz.vzero176 Tryz.leaves176 Tryz.eqg176 Tryz.vt178 Tryz.vfield178x0 Tryz.vfield178x1 Tryz.vfield178x2 Tryz.vfield178x3 Tryz.vfield178x4 Tryz.vfield178x5 Tryz.vplaces178 Tryz.vzero178 Tryz.bytes178 Tryz.vplaces204 Tryz.vzero204 Tryz.bytes204 Tryz.velem205 Tryz.vt207 Tryz.vfield207x0 Tryz.vfield207x1 Tryz.vfield207x2 Tryz.vplaces207 Tryz.vzero207 Tryz.vt211 Tryz.vfield211x0 Tryz.vfield211x1 Tryz.vfield211x2 Tryz.vfield211x3 Tryz.vplaces211 Tryz.vzero211 Tryz.bytes211 Tryz.vt219 Tryz.vfield219x0 Tryz.vfield219x1 Tryz.vfield219x2 Tryz.vplaces219 Tryz.vzero219 Tryz.bytes219 Tryz.vt225 Tryz.vfield225x0 Tryz.vfield225x1 Tryz.vplaces225 Tryz.vzero225 Tryz.leaves225 Tryz.eqg225 Tryz.vt238 Tryz.vfield238x0 Tryz.vfield238x1 Tryz.vfield238x2 Tryz.vfield238x3 Tryz.vfield238x4 Tryz.vplaces238 Tryz.vzero238 Tryz.vt248 Tryz.vfield248x0 Tryz.vfield248x1 Tryz.vfield248x2 Tryz.vplaces248 Tryz.vzero248 Tryz.bytes248 Tryz.leaves248 Tryz.eqg248 Tryz.vkind271 Tryz.vzero276 Tryz.bytes276 Tryz.vt289 Tryz.vfield289x0 Tryz.vfield289x1 Tryz.vfield289x2 Tryz.vfield289x3 Tryz.vfield289x4 Tryz.vfield289x5 Tryz.vfield289x6 Tryz.vplaces289 Tryz.vzero289 Tryz.vt300 Tryz.vfield300x0 Tryz.vfield300x1 Tryz.vfield300x2 Tryz.vzero300 Tryz.bytes300 Tryz.vfield358x0 Tryz.vfield358x1 Tryz.vfield358x2 Tryz.vplaces358 Tryz.vzero358 Tryz.vfield370x0 Tryz.vfield370x1 Tryz.vfield370x2 Tryz.vplaces370 Tryz.vzero370
end Go.Proofs
namespace Go.Proofs.YtepdccfgnafgcaaGreat
open Go.V Go
open Tryz (prog)
theorem pe:QyA prog 124=true:=by kernel_rfl
def Qzk(n:Int)(i:Nat):Int:=IntKind.u8.wrap ((IntKind.u64.wrap n).fdiv (2 ^ min (8*(i:Int)).toNat 64))
def QmA(n:Int)(i:Nat):UInt8:=UInt8.ofNat (Qzk n i).toNat
def Qir(x:Int):IntKind.u8.wrap x=x % 256:=by
 simp[IntKind.wrap,IntKind.signed,IntKind.bits]
def Qzl(n:Int)(i:Nat):Qzk n i=((QmA n i).toNat:Int):=by
 unfold QmA Qzk
 rw[Qir]
 generalize (IntKind.u64.wrap n).fdiv (2 ^ min (8*(i:Int)).toNat 64)=y
 simp only[UInt8.toNat_ofNat']
 omega
def Ql(s:List UInt8)(n:Int)(k:Nat):List UInt8:=s++(JK k).map (QmA n)
def Qd(s:List UInt8)(n:Int)(k:Nat):(Ql s n k).length=s.length+k:=by simp[Ql]
def QtL(s:List UInt8)(n:Int)(k:Nat):Ql s n (k+1)=Ql s n k++[QmA n k]:=by simp[Ql,List.range_succ]
theorem QIx:bts prog 22 9=true:=by kernel_rfl
def Q0(s:List UInt8)(hs:s.length<=1000000000)(n:Int)(k:Nat)(h1:1<=k)(h8:k<=8):VCalls prog 177 [.pv (.str s),.int .i64 n,.int .i64 k] [] (Ret (.pv (.str (Ql s n k)))):=by
 refine dd Tryz.func177 ?_
 simp(config:={ maxSteps:=2000000 }) (implicitDefEqProofs:=false) (disch:=first | omega | assumption | (simp only[]; done) | fail) only[go_sem,Js,Jd,Jt,Je,Tryz.f177]
 refine Qj (fun i:{i:Nat // i<=k}=>⟨32,0,[(7,.int .i64 i.1),(2,.int .i64 k),(0,.pv (.str (Ql s n i.1))),(1,.int .i64 n)],[]⟩) (fun i=>k-i.1) ⟨0,by omega⟩ (.inl (by simpa only[Ql,List.range_zero,KE,JL] using(by refine⟨rfl,rfl,by simp,?_,?_,.inr ⟨?_,?_⟩⟩<;>(repeat' apply Ja)<;>first | rfl | trivial | (intro _; first | rfl | apply QfA)))) ?_
 intro i
 obtain⟨i,hi⟩:=i
 dsimp only
 simp(config:={ maxSteps:=2000000 }) (implicitDefEqProofs:=false) (disch:=first | omega | assumption | (simp only[]; done) | fail) only[go_sem,Jd,Je]
 refine QM (fun hc=>?_) (fun hc=>?_)<;>simp only[decide_eq_true_eq,decide_eq_false_iff_not,Jf,Jb,Jn,Jl,Jh,Jg,beq_iff_eq,beq_eq_false_iff_ne,bne_iff_ne,bne_eq_false_iff_eq,ne_eq] at hc
 ·have hw8:IntKind.u64.wrap (8 * (i:Int)) = 8 * (i:Int):=by simp [IntKind.wrap,IntKind.signed,IntKind.bits]; omega
  have hl:(Ql s n i).length+1<=9223372036854775807:=by rw[Qd]; omega
  simp(config:={ maxSteps:=2000000 }) (implicitDefEqProofs:=false) (disch:=first | omega | assumption | (simp only[]; done) | fail) only[go_sem,V.splice,V.mk,↓reduceIte,JB,JW,Jd,JC,Je,hw8,Qgw QIx,QwK]
  refine⟨⟨i+1,by omega⟩,by show k-(i+1)<k-i; omega,?_⟩
  rw[QtL]
  refine QuM (keep:=[]) rfl rfl rfl (by decide) trivial ?_
  refine⟨⟨rfl,rfl⟩,⟨rfl,rfl⟩,⟨rfl,rfl⟩,⟨rfl,rfl⟩,trivial⟩
 ·simp (config:={ maxSteps:=2000000 }) (implicitDefEqProofs:=false) (disch:=first | omega | assumption | (simp only []; done) | fail) only [go_sem,↓reduceIte,JB,Jd,JC,Je]
  have hik:i=k:=by omega
  rw[hik]
def Qe8(s:List UInt8)(a:Nat):Nat->Int
 | 0=>0
 | i+1=>bits BinOp.or .u64 (Qe8 s a i) (IntKind.u64.wrap (IntKind.u64.wrap (s.getD (a+i) 0).toNat*2 ^ min (8*(i:Int)).toNat 64))
def QBd(s:List UInt8)(a i:Nat)(h:a+i<s.length):s[((a:Int)+(i:Int)).toNat]?=some (s.getD (a+i) 0):=by
 have e:((a:Int)+(i:Int)).toNat=a+i:=by omega
 rw[e,Jk,JA h]; rfl
def QdH(s:List UInt8)(a k:Int)(h:1<=k/\k<=8)(h0:0<=a)(hh:¬ a+k<=s.length):VCalls prog 240 [.pv (.str s),.int .i64 a,.int .i64 k] [] (Ret (.tup [.int .i64 0,.int .i64 5])):=by
 refine dd Tryz.func240 ?_
 have h1:¬ k<1:=by omega
 have h2:¬ 8<k:=by omega
 have h3:¬ a<0:=by omega
 by_cases h4:(s.length:Int)<a
 ·simp(config:={ maxSteps:=2000000 }) (implicitDefEqProofs:=false) (disch:=first | omega | assumption | (simp only[]; done) | fail) only[go_sem,Js,Jd,Jt,Je,Tryz.f240,h1,h2,h3,h4]
 ·have h5:(s.length:Int) - a < k:=by omega
  simp(config:={ maxSteps:=2000000 }) (implicitDefEqProofs:=false) (disch:=first | omega | assumption | (simp only[]; done) | fail) only[go_sem,Js,Jd,Jt,Je,Tryz.f240,h1,h2,h3,h4,h5]
def QiL(s:List UInt8)(hs:s.length<=1000000000)(a k:Nat)(h:1<=k/\k<=8)(hh:a+k<=s.length):VCalls prog 240 [.pv (.str s),.int .i64 a,.int .i64 k] [] (Ret (.tup [.int .i64 (IntKind.i64.wrap (Qe8 s a k)),.int .i64 0])):=by
 refine dd Tryz.func240 ?_
 have h1:¬ (k:Int)<1:=by omega
 have h2:¬ 8<(k:Int):=by omega
 have h3:¬ (a:Int)<0:=by omega
 have h4:¬ (s.length:Int)<a:=by omega
 have h5:¬ (s.length:Int)-a<k:=by omega
 simp(config:={ maxSteps:=2000000 }) (implicitDefEqProofs:=false) (disch:=first | omega | assumption | (simp only[]; done) | fail) only[go_sem,Js,Jd,Jt,Je,Tryz.f240,h1,h2,h3,h4,h5]
 refine QpR (fun i:{i:Nat // i<=k}=>⟨51,0,[(9,.int .i64 i.1),(2,.int .i64 k),(8,.int .u64 (Qe8 s a i.1)),(0,.pv (.str s)),(1,.int .i64 a)],[]⟩) (fun i=>k-i.1) ⟨0,by omega⟩ (by refine⟨rfl,rfl,by simp,?_,?_,.inl rfl⟩<;>(repeat' apply Ja)<;>first | rfl | trivial) ?_
 intro i
 obtain⟨i,hi⟩:=i
 dsimp only
 simp(config:={ maxSteps:=2000000 }) (implicitDefEqProofs:=false) (disch:=first | omega | assumption | (simp only[]; done) | fail) only[go_sem,Jd,Je]
 refine QM (fun hc=>?_) (fun hc=>?_)<;>simp only[decide_eq_true_eq,decide_eq_false_iff_not,Jf,Jb,Jn,Jl,Jh,Jg,beq_iff_eq,beq_eq_false_iff_ne,bne_iff_ne,bne_eq_false_iff_eq,ne_eq] at hc
 ·have hg:s[((a:Int) + (i:Int)).toNat]? = some (s.getD (a + i) 0):=QBd s a i (by omega)
  have h0:0<=(a:Int)+(i:Int):=by omega
  have hw8:IntKind.u64.wrap (8*(i:Int))=8*(i:Int):=by simp[IntKind.wrap,IntKind.signed,IntKind.bits]; omega
  simp(config:={ maxSteps:=2000000 }) (implicitDefEqProofs:=false) (disch:=first | omega | assumption | (simp only[]; done) | fail) only[go_sem,Jd,Je,hg,hw8]
  exact⟨⟨i+1,by omega⟩,by show k-(i+1)<k-i; omega,(by refine⟨rfl,rfl,by simp,?_,?_,.inl rfl⟩<;>(repeat' apply Ja)<;>first | rfl | trivial)⟩
 ·simp (config:={ maxSteps:=2000000 }) (implicitDefEqProofs:=false) (disch:=first | omega | assumption | (simp only []; done) | fail) only [go_sem,↓reduceIte,JB,Jd,JC,Je]
  have hik:i=k:=by omega
  rw[hik]
def u64N(n:Int):Nat:=(n % 18446744073709551616).toNat
def QA7(n:Int):u64N n<2 ^ 64:=by unfold u64N; omega
def Qis(n:Int):IntKind.u64.wrap n=(u64N n:Int):=by
 unfold u64N
 simp[IntKind.wrap,IntKind.signed,IntKind.bits]; omega
def Qkc(i:Nat)(h:i<8):min (8*(i:Int)).toNat 64=8*i:=by
 have e:(8*(i:Int)).toNat=8*i:=by omega
 rw[e]; omega
def QvN(n:Int)(i:Nat)(h:i<8):(QmA n i).toNat=u64N n / 2 ^ (8*i) % 256:=by
 have hx:=Qzl n i
 unfold Qzk at hx
 rw[Qir,Qis,Qkc i h] at hx
 have e:((u64N n:Int).fdiv (2 ^ (8*i)))=((u64N n / 2 ^ (8*i):Nat):Int):=by
  have e2:((2:Int) ^ (8*i))=((2 ^ (8*i):Nat):Int):=by rw[Ka]; rfl
  rw[e2,J3 _ (Int.natCast_nonneg _)]
  rfl
 rw[e] at hx
 generalize u64N n / 2 ^ (8*i)=q at hx |-
 omega
def QzY(x y:Nat)(hx:x<2 ^ 64)(hy:y<2 ^ 64):bits .or .u64 (x:Int) (y:Int)=((x ||| y:Nat):Int):=by
 have e:bits .or .u64 (x:Int) (y:Int)=IntKind.u64.wrap ((BitVec.ofInt 64 (x:Int) ||| BitVec.ofInt 64 (y:Int)).toNat:Int):=rfl
 rw[e,BitVec.toNat_or]
 have h1:(BitVec.ofInt 64 (x:Int)).toNat=x:=by simp; omega
 have h2:(BitVec.ofInt 64 (y:Int)).toNat=y:=by simp; omega
 rw[h1,h2,Qis]
 have h3:x ||| y<2 ^ 64:=Nat.or_lt_two_pow hx hy
 unfold u64N; omega
def Qw4(N i:Nat):(N % 2 ^ (8*i)) ||| (N / 2 ^ (8*i) % 256*2 ^ (8*i))=N % 2 ^ (8*(i+1)):=by
 have h:N % 2 ^ (8*i)<2 ^ (8*i):=KD _ (Kw _)
 rw[KJ,KF,<- JZ h]
 have e:2 ^ (8*(i+1))=2 ^ (8*i)*256:=by rw[KK,KL]
 rw[e,Nat.mod_mul]; omega
def Qx3(s t:List UInt8)(n:Int)(k i:Nat)(hi:i<k):(Ql s n k++t).getD (s.length+i) 0=QmA n i:=by
 rw[Jk,Ql,Kq,List.getElem?_append_right (by omega),List.getElem?_append_left (by simp; omega)]
 simp[hi]
def QhO (s t:List UInt8) (n:Int) (k:Nat) (hk:k<=8):∀ i,i<=k->Qe8 (Ql s n k ++ t) s.length i = ((u64N n % 2 ^ (8 * i):Nat):Int)
 | 0,_=>by simp[Qe8,Nat.mod_one]
 | i + 1,hi=>by
   have ih:=QhO s t n k hk i (by omega)
   have h8:i<8:=by omega
   unfold Qe8
   rw[ih,Qx3 s t n k i (by omega),QvN n i h8,Qkc i h8]
   have hb:u64N n / 2 ^ (8*i) % 256<256:=KD _ (by omega)
   have hw:IntKind.u64.wrap ((u64N n / 2 ^ (8*i) % 256:Nat):Int)=((u64N n / 2 ^ (8*i) % 256:Nat):Int):=by rw[Qis]; unfold u64N at *; omega
   rw[hw]
   have hp:(2:Nat) ^ (8*i)<=2 ^ 56:=JI (by omega) (by omega)
   have hlt:u64N n / 2 ^ (8*i) % 256*2 ^ (8*i)<2 ^ 64:=by
    have:u64N n / 2 ^ (8*i) % 256*2 ^ (8*i)<=255*2 ^ 56:=KC (by omega) hp
    omega
   have e2:((u64N n / 2 ^ (8*i) % 256:Nat):Int)*2 ^ (8*i)=((u64N n / 2 ^ (8*i) % 256*2 ^ (8*i):Nat):Int):=by
    rw[Kx,Ka]; rfl
   rw[e2]
   have hw2:IntKind.u64.wrap ((u64N n / 2 ^ (8*i) % 256*2 ^ (8*i):Nat):Int)=((u64N n / 2 ^ (8*i) % 256*2 ^ (8*i):Nat):Int):=by
    generalize u64N n / 2 ^ (8*i) % 256*2 ^ (8*i)=z at hlt
    rw[Qis]; unfold u64N; omega
   rw[hw2,QzY _ _ (Nat.lt_of_le_of_lt (Nat.mod_le _ _) (QA7 n)) hlt,Qw4]
def Qrt(n:Int)(h : -9223372036854775808<=n/\n<=9223372036854775807):IntKind.i64.wrap ((u64N n % 2 ^ 64:Nat):Int)=n:=by
 rw[IntKind.wrap_i64]; unfold u64N; omega
def QpD(n:Int)(m:Nat)(hm:m<=56):IntKind.i64.wrap ((u64N n % 2 ^ m:Nat):Int)=((u64N n % 2 ^ m:Nat):Int):=by
 have hp:(2:Nat) ^ m<=2 ^ 56:=JI (by omega) hm
 have h3:u64N n % 2 ^ m<2 ^ m:=KD _ (Kw m)
 rw[IntKind.wrap_i64]
 generalize u64N n % 2 ^ m=q at *
 omega
def rnd(r:Int):Int:=if bits .and .u32 r 1=1 then bits .xor .u32 (r.fdiv 2) 2197175160 else r.fdiv 2
def Qqk:Nat->Int->Int
 | 0,r=>r
 | n+1,r=>rnd (Qqk n r)
def QEI(i:Nat):Int:=Qqk 4 i
def QGQ(i:Nat):List Int:=(JK 16).map fun j=>if j<i then QEI j else 0
def QGu(r:Int):Int:=bits .xor .u32 (r.fdiv (2 ^ min 4 32)) ((QGQ 16).getD (bits .and .u32 r 15).toNat 0)
def Qq7(r:Int)(b:UInt8):Int:=QGu (QGu (bits .xor .u32 r (IntKind.u32.wrap b.toNat)))
def Qng(s:List UInt8):Int:=s.foldl Qq7 4294967295
def Qnf(s:List UInt8):Int:=bits .xor .u32 4294967295 (Qng s)
def Qsz(s:List UInt8)(i:Nat)(h:i<s.length):Qng (s.take (i+1))=Qq7 (Qng (s.take i)) (s.getD i 0):=by
 rw[Qng,Jw h,List.foldl_append]
 rw[Jk,JA h]; rfl
def QGW(x:BitVec 32):rnd (x.toNat:Int)=((rb x).toNat:Int):=by
 have h1:bits .and .u32 (x.toNat:Int) 1=((x &&& 1#32).toNat:Int):=QFW x 1#32
 have h2:(x.toNat:Int).fdiv 2=((x >>> 1).toNat:Int):=QEs x 1
 have h3:(x &&& 1#32).toNat=x.toNat % 2:=by rw[BitVec.toNat_and]; exact Nat.and_one_is_mod _
 have h4:x.getLsbD 0=decide (x.toNat % 2=1):=by simp[BitVec.getLsbD,Nat.testBit_zero]
 unfold rnd rb
 rw[h1,h2,h3,h4]
 by_cases h:x.toNat % 2=1
 ·rw [if_pos (by omega),if_pos (by simpa using h)]
  exact Qrr _ polyB
 ·rw[if_neg (by omega),if_neg (by simpa using h)]; simp
def QzR(n:Nat)(x:BitVec 32):Qqk n (x.toNat:Int)=((rbN n x).toNat:Int):=by
 induction n with
 | zero=>rfl
 | succ n ih=>rw[Qqk,ih,QGW]; rfl
def Qz7 (x:BitVec 32):QGu (x.toNat:Int) = ((rbN 4 x).toNat:Int):=by
 have h1:bits .and .u32 (x.toNat:Int) 15=((x &&& 15#32).toNat:Int):=QFW x 15#32
 have h15:(x &&& 15#32).toNat<16:=by rw[BitVec.toNat_and]; exact Nat.lt_succ_of_le Nat.and_le_right
 have h2:(QGQ 16).getD (x &&& 15#32).toNat 0=((rbN 4 (x &&& 15#32)).toNat:Int):=by
  rw[<- QzR]
  simp only[QGQ,Jk,List.getElem?_map,List.getElem?_range h15,Ky,Ku,QEI]
  rw[if_pos h15]
 have h3:(x.toNat:Int).fdiv (2 ^ min 4 32)=((x >>> 4).toNat:Int):=QEs x 4
 have e1:x = (x &&& 15#32) ^^^ ((x >>> 4) <<< 4):=by
  apply BitVec.eq_of_getLsbD_eq
  intro i hi
  rw[BitVec.getLsbD_xor,BitVec.getLsbD_and,BitVec.getLsbD_shiftLeft,BitVec.getLsbD_ushiftRight]
  by_cases h:i<4
  ·have h15:(15#32).getLsbD i = true:=by
    rcases i with _ | _ | _ | _ | i<;>first | rfl | omega
   simp[h15,h]
  ·have h15:(15#32).getLsbD i = false:=by
    have:(15#32).getLsbD i=(15:Nat).testBit i:=by simp[BitVec.getLsbD]
    rw[this]; apply Nat.testBit_lt_two_pow
    exact JF (show 15<2 ^ 4 by omega) (JI (by omega) (by omega))
   rw[h15]; simp[h,hi,show 4+(i-4)=i by omega]
 have e2:rbN 4 x=rbN 4 (x &&& 15#32) ^^^ (x >>> 4):=by
  have hs:rbN 4 ((x >>> 4) <<< 4)=x >>> 4:=QBh _ _ (fun i hi=>by rw[BitVec.getLsbD_ushiftRight]; exact BitVec.getLsbD_of_ge _ _ (by omega)) (by omega)
  conv=>lhs; rw[e1]
  rw[QBV,hs]
 unfold QGu
 rw[h1,h3,Jy,h2,Qrr,e2,BitVec.xor_comm]
def QvO(x:BitVec 32)(b:UInt8):Qq7 (x.toNat:Int) b=((cb x b).toNat:Int):=by
 unfold Qq7
 rw[QvV,Qrr,Qz7,Qz7,<- QBX]; rfl
def QAc:∀ (s:List UInt8) (x:BitVec 32),s.foldl Qq7 (x.toNat:Int)=((s.foldl cb x).toNat:Int)
 | [],_=>rfl
 | b::s,x=>by rw[Kz,QvO,QAc s,Kz]
def QzN(s:List UInt8):Qng s=((s.foldl cb 4294967295#32).toNat:Int):=QAc s 4294967295#32
def QEp(s:List UInt8):Qnf s=((4294967295#32 ^^^ s.foldl cb 4294967295#32).toNat:Int):=by
 rw[Qnf,QzN]; exact Qrr 4294967295#32 _
def Qne(s:List UInt8):0<=Qnf s/\Qnf s<4294967296:=by
 rw[QEp]
 have:=(4294967295#32 ^^^ s.foldl cb 4294967295#32).isLt
 omega
def QBv(r:Int)(b:UInt8):Int:=Qqk 8 (bits .xor .u32 r (IntKind.u32.wrap b.toNat))
def Qxh(x:BitVec 32)(b:UInt8):QBv (x.toNat:Int) b=Qq7 (x.toNat:Int) b:=by
 rw[QvO,QBv,QvV,Qrr,QzR]; rfl
def Qp1(s:List UInt8)(i:Nat)(h:i<s.length):Qng (s.take (i+1))=QBv (Qng (s.take i)) (s.getD i 0):=by
 rw[Qsz s i h,QzN (s.take i),Qxh]
def QoC(s:List UInt8)(hs:s.length<=100000000):VCalls prog 179 [.pv (.str s)] [] (Ret (.int .u32 (Qnf s))):=by
 refine dd Tryz.func179 ?_
 simp(config:={ maxSteps:=2000000 }) (implicitDefEqProofs:=false) (disch:=first | omega | assumption | (simp only[]; done) | fail) only[go_sem,Tryz.f179]
 refine QpR (fun i:{i:Nat // i<=s.length}=>⟨32,0,[(4,.int .i64 i.1),(3,.int .u32 (Qng (s.take i.1))),(0,.pv (.str s))],[]⟩) (fun i=>s.length-i.1) ⟨0,by omega⟩ (by refine⟨rfl,rfl,by simp,?_,?_,.inl rfl⟩<;>(repeat' apply Ja)<;>first | rfl | trivial) ?_
 intro i
 obtain⟨i,hi⟩:=i
 dsimp only
 simp(config:={ maxSteps:=2000000 }) (implicitDefEqProofs:=false) (disch:=first | omega | assumption | (simp only[]; done) | fail) only[go_sem,Jd,Je]
 refine QM (fun hc=>?_) (fun hc=>?_)<;>simp only[decide_eq_true_eq,decide_eq_false_iff_not,Jf,Jb,Jn,Jl,Jh,Jg,beq_iff_eq,beq_eq_false_iff_ne,bne_iff_ne,bne_eq_false_iff_eq,ne_eq] at hc
 ·have hlt:i < s.length:=by omega
  have hg:s[i]?=some (s.getD i 0):=by rw[Jk,JA hlt]; rfl
  simp(config:={ maxSteps:=2000000 }) (implicitDefEqProofs:=false) (disch:=first | omega | assumption | (simp only[]; done) | fail) only[go_sem,Jd,Je,hg]
  refine QpR (fun j:{j:Nat // j<=8}=>⟨32,0,[(5,.int .i64 j.1),(4,.int .i64 i),(3,.int .u32 (Qqk j.1 (bits .xor .u32 (Qng (s.take i)) (IntKind.u32.wrap (s.getD i 0).toNat)))),(0,.pv (.str s))],[]⟩) (fun j=>8-j.1) ⟨0,by omega⟩ (by refine⟨rfl,rfl,by simp,?_,?_,.inl rfl⟩<;>(repeat' apply Ja)<;>first | rfl | trivial) ?_
  intro j
  obtain⟨j,hj⟩:=j
  dsimp only
  simp(config:={ maxSteps:=2000000 }) (implicitDefEqProofs:=false) (disch:=first | omega | assumption | (simp only[]; done) | fail) only[go_sem]
  refine QM (fun hcj=>?_) (fun hcj=>?_)<;>simp only[decide_eq_true_eq,decide_eq_false_iff_not,Jf,Jb,Jn,Jl,Jh,Jg,beq_iff_eq,beq_eq_false_iff_ne,bne_iff_ne,bne_eq_false_iff_eq,ne_eq] at hcj
  ·simp (config:={ maxSteps:=2000000 }) (implicitDefEqProofs:=false) (disch:=first | omega | assumption | (simp only []; done) | fail) only [go_sem,Jd,Je]
   refine QM (fun hb=>?_) (fun hb=>?_)<;>simp only[decide_eq_true_eq,decide_eq_false_iff_not,Jf,Jb,Jn,Jl,Jh,Jg,beq_iff_eq,beq_eq_false_iff_ne,bne_iff_ne,bne_eq_false_iff_eq,ne_eq] at hb
   ·simp (config:={ maxSteps:=2000000 }) (implicitDefEqProofs:=false) (disch:=first | omega | assumption | (simp only []; done) | fail) only [go_sem,Jd,KA,Je]
    refine⟨⟨j+1,by omega⟩,by show 8-(j+1)<8-j; omega,?_⟩
    have e:Qqk (j+1) (bits .xor .u32 (Qng (s.take i)) (IntKind.u32.wrap (s.getD i 0).toNat))=bits .xor .u32 ((Qqk j (bits .xor .u32 (Qng (s.take i)) (IntKind.u32.wrap (s.getD i 0).toNat))).fdiv 2) 2197175160:=by rw[Qqk,rnd,if_pos hb]
    rw[e]
    exact(by refine⟨rfl,rfl,by simp,?_,?_,.inl rfl⟩<;>(repeat' apply Ja)<;>first | rfl | trivial)
   ·simp (config:={ maxSteps:=2000000 }) (implicitDefEqProofs:=false) (disch:=first | omega | assumption | (simp only []; done) | fail) only [go_sem,Jd,KA,Je]
    refine⟨⟨j+1,by omega⟩,by show 8-(j+1)<8-j; omega,?_⟩
    have e:Qqk (j+1) (bits .xor .u32 (Qng (s.take i)) (IntKind.u32.wrap (s.getD i 0).toNat))=(Qqk j (bits .xor .u32 (Qng (s.take i)) (IntKind.u32.wrap (s.getD i 0).toNat))).fdiv 2:=by rw[Qqk,rnd,if_neg hb]
    rw[e]
    exact(by refine⟨rfl,rfl,by simp,?_,?_,.inl rfl⟩<;>(repeat' apply Ja)<;>first | rfl | trivial)
  ·have hj8:j = 8:=by omega
   subst hj8
   simp(config:={ maxSteps:=2000000 }) (implicitDefEqProofs:=false) (disch:=first | omega | assumption | (simp only[]; done) | fail) only[go_sem,↓reduceIte,Jd,Je]
   refine⟨⟨i+1,hlt⟩,by show s.length-(i+1)<s.length-i; omega,?_⟩
   have e:Qng (s.take (i+1))=Qqk 8 (bits .xor .u32 (Qng (s.take i)) (IntKind.u32.wrap (s.getD i 0).toNat)):=Qp1 s i hlt
   rw[e]
   exact(by refine⟨rfl,rfl,by simp,?_,?_,.inl rfl⟩<;>(repeat' apply Ja)<;>first | rfl | trivial)
 ·simp (config:={ maxSteps:=2000000 }) (implicitDefEqProofs:=false) (disch:=first | omega | assumption | (simp only []; done) | fail) only [go_sem,↓reduceIte,JB,Jd,JC,Je]
  rw[Jo (by omega)]
  rfl
def frm(s:List UInt8):List UInt8:=if s.length<=8392 then Ql (Ql [] s.length 4++s) (Qnf (Ql [] s.length 4++s)) 4 else []
def QoJ(s:List UInt8)(hs:s.length<=90000000):VCalls prog 237 [.pv (.str s)] [] (Ret (.pv (.str (frm s)))):=by
 refine dd Tryz.func237 ?_
 by_cases h:s.length<=8392
 ·have h1:¬ 8392 < (s.length:Int):=by omega
  have hl:=Qd [] s.length 4
  simp only[Jj,Ks] at hl
  have hl2:(Ql [] s.length 4++s).length<=10000:=by rw[Jc,hl]; omega
  simp(config:={ maxSteps:=2000000 }) (implicitDefEqProofs:=false) (disch:=first | omega | assumption | (simp only[]; done) | fail) only[go_sem,Jd,Je,Tryz.f237,h1]
  refine Qav (Q0 [] (by simp) s.length 4 (by omega) (by omega)) rfl ?_
  simp(config:={ maxSteps:=2000000 }) (implicitDefEqProofs:=false) (disch:=first | omega | assumption | (simp only[]; done) | fail) only[go_sem,Jd,Je]
  refine Qav (QoC _ (by omega)) rfl ?_
  have hx:=Qne (Ql [] s.length 4++s)
  simp(config:={ maxSteps:=2000000 }) (implicitDefEqProofs:=false) (disch:=first | omega | assumption | (simp only[]; done) | fail) only[go_sem,JB,Jd,JC,Je]
  refine Qav (Q0 (Ql [] s.length 4++s) (by omega) _ 4 (by omega) (by omega)) rfl ?_
  simp(config:={ maxSteps:=2000000 }) (implicitDefEqProofs:=false) (disch:=first | omega | assumption | (simp only[]; done) | fail) only[go_sem,↓reduceIte,frm,h]
 ·have h1:8392 < (s.length:Int):=by omega
  simp(config:={ maxSteps:=2000000 }) (implicitDefEqProofs:=false) (disch:=first | omega | assumption | (simp only[]; done) | fail) only[go_sem,↓reduceIte,Jd,Je,Tryz.f237,h1,frm,h]
def leN(s:List UInt8)(a:Nat):Nat->Nat
 | 0=>0
 | i+1=>leN s a i+(s.getD (a+i) 0).toNat*2 ^ (8*i)
def Ql4 (s:List UInt8) (a:Nat):∀ i,leN s a i < 2 ^ (8 * i)
 | 0=>by simp[leN]
 | i + 1=>by
   have ih:=Ql4 s a i
   have hb:=(s.getD (a+i) 0).toNat_lt
   rw[leN,KK,KL]
   have:(s.getD (a+i) 0).toNat*2 ^ (8*i)<=255*2 ^ (8*i):=Ke _ (by omega)
   omega
def Qe7 (s:List UInt8) (a:Nat):∀ i,i<=8->Qe8 s a i = (leN s a i:Int)
 | 0,_=>rfl
 | i + 1,hi=>by
   have ih:=Qe7 s a i (by omega)
   have hlt:=Ql4 s a i
   have hb:=(s.getD (a+i) 0).toNat_lt
   unfold Qe8
   rw[ih,Qkc i (by omega)]
   have hw:IntKind.u64.wrap ((s.getD (a+i) 0).toNat:Int)=((s.getD (a+i) 0).toNat:Int):=by rw[Qis]; unfold u64N; omega
   have hp:(2:Nat) ^ (8*i)<=2 ^ 56:=JI (by omega) (by omega)
   have hm:(s.getD (a+i) 0).toNat*2 ^ (8*i)<=255*2 ^ 56:=KC (by omega) hp
   have e2:((s.getD (a+i) 0).toNat:Int)*2 ^ (8*i)=(((s.getD (a+i) 0).toNat*2 ^ (8*i):Nat):Int):=by
    rw[Kx,Ka]; rfl
   rw[hw,e2]
   have hw2:IntKind.u64.wrap (((s.getD (a+i) 0).toNat*2 ^ (8*i):Nat):Int)=(((s.getD (a+i) 0).toNat*2 ^ (8*i):Nat):Int):=by
    generalize (s.getD (a+i) 0).toNat*2 ^ (8*i)=z at hm
    rw[Qis]; unfold u64N; omega
   have h64:leN s a i<2 ^ 64:=JF hlt (JI (by omega) (by omega))
   rw[hw2,QzY _ _ h64 (by omega),leN]
   congr 1
   rw[KJ,KF _ (2 ^ (8*i)),<- JZ hlt,Nat.add_comm]
def n4(s:List UInt8)(a:Nat):Nat:=leN s a 4
def QCh(s:List UInt8)(a:Nat):n4 s a<4294967296:=Ql4 s a 4
def QAq(s:List UInt8)(a:Nat):IntKind.i64.wrap (Qe8 s a 4)=(n4 s a:Int):=by
 rw[Qe7 s a 4 (by omega)]
 have:=QCh s a
 unfold n4 at this |-
 rw[IntKind.wrap_i64]; omega
def QEH(s:List UInt8)(hs:s.length<=100000000)(a:Nat)(hh:a+4<=s.length):VCalls prog 240 [.pv (.str s),.int .i64 a,.int .i64 4] [] (Ret (.tup [.int .i64 (n4 s a),.int .i64 0])):=by
 have h:=QiL s (by omega) a 4 (by omega) hh
 rwa [QAq] at h
section
structure Ce where
 set:Bool
 data:List UInt8
structure Ch where
 pg:Int
 sl:Int
 b:Ce
 a:Ce
structure E where
 lsn:Int
 kind:Int
 tx:Int
 ptx:Int
 ppg:Int
 ref:Int
 c:Ch
 blob:List UInt8
def Ce.d(x:Ce):List DV:=[.bool x.set,.pv (.str x.data)]
def Ch.d(x:Ch):List DV:=[.int .i64 x.pg,.int .i64 x.sl,.bool x.b.set,.pv (.str x.b.data),.bool x.a.set,.pv (.str x.a.data)]
def E.d(x:E):List DV:=[.int .i64 x.lsn,.int .i64 x.kind,.int .i64 x.tx,.int .i64 x.ptx,.int .i64 x.ppg,.int .i64 x.ref,.int .i64 x.c.pg,.int .i64 x.c.sl,.bool x.c.b.set,.pv (.str x.c.b.data),.bool x.c.a.set,.pv (.str x.c.a.data),.pv (.str x.blob)]
def Ce0:Ce:=⟨false,[]⟩
def Ch0:Ch:=⟨0,0,Ce0,Ce0⟩
def E0:E:=⟨0,0,0,0,0,0,Ch0,[]⟩
def Ce.okB(x:Ce):Bool:=decide (x.data.length<=12)&&(x.set||x.data==[])
def Ch.okB(x:Ch):Bool:=decide (0<=x.pg)&&decide (x.pg<64)&&decide (0<=x.sl)&&decide (x.sl<16)&&x.b.okB&&x.a.okB
def Ce.no(x:Ce):Bool:=!x.set&&x.data==[]
def Ch.no(x:Ch):Bool:=x.pg==0&&x.sl==0&&x.b.no&&x.a.no
def bef(n l:Int):Bool:=decide (0<=n)&&decide (n<l)
attribute [local go_sem] Ce.d Ch.d E.d QQ Q9
def Qpx(x:Ce):VCalls prog 122 [.agg x.d] [] (Ret (.bool x.okB)):=by
 refine dd Tryz.func122 ?_
 (unfold Tryz.f122; refine rn trivial ?_)
 refine rn F ?_
 repeat' (first
  | with_reducible exact⟨⟩
  | (refine sG F ?_ ?_<;>intro hZ))
 all_goals (first | rfl | (congr 3; rw[Jp]; (try simp only[Ce.okB,decide_eq_true_eq,Jb,Jf,Jh,Jg,decide_eq_false_iff_not,beq_iff_eq,bne_iff_ne,ne_eq,Jr,Jv,iff_true,true_iff,iff_false,false_iff]); first | done | omega | grind))
def Qg4(x:Ce):VCalls prog 104 [.agg x.d] [] (Ret (.bool x.okB)):=by
 refine dd Tryz.func104 ?_
 (unfold Tryz.f104; refine rn trivial ?_)
 refine rn F ?_
 repeat' (first
  | with_reducible exact⟨⟩
  | (refine sG F ?_ ?_<;>intro hZ))
 all_goals (first | rfl | (congr 3; rw[Jp]; (try simp only[Ce.okB,decide_eq_true_eq,Jb,Jf,Jh,Jg,decide_eq_false_iff_not,beq_iff_eq,bne_iff_ne,ne_eq,Jr,Jv,iff_true,true_iff,iff_false,false_iff]); first | done | omega | grind))
def QE0(x:Ch):VCalls prog 98 [.agg x.d] [] (Ret (.bool x.no)):=by
 refine dd Tryz.func98 ?_
 (unfold Tryz.f98; refine rn trivial ?_)
 simp only[Ch.no,Ce.no,Bool.and_assoc]
def Qkx(n:Int)(x:E):VCalls prog 79 [.int .i64 n,.agg x.d] [] (Ret (.bool (bef n x.lsn))):=by
 refine dd Tryz.func79 ?_
 (unfold Tryz.f79; refine rn trivial ?_)
 refine rn F ?_
 repeat' (first
  | with_reducible exact⟨⟩
  | (refine sG F ?_ ?_<;>intro hZ))
 all_goals (first | rfl | (congr 3; rw[Jp]; (try simp only[bef,decide_eq_true_eq,Jb,Jf,Jh,Jg,decide_eq_false_iff_not,beq_iff_eq,bne_iff_ne,ne_eq,Jr,Jv,iff_true,true_iff,iff_false,false_iff]); first | done | omega | grind))
def Qg5(n l:Int):VCalls prog 65 [.int .i64 n,.int .i64 l] [] (Ret (.bool (bef n l))):=by
 refine dd Tryz.func65 ?_
 (unfold Tryz.f65; refine rn trivial ?_)
 refine rn F ?_
 repeat' (first
  | with_reducible exact⟨⟩
  | (refine sG F ?_ ?_<;>intro hZ))
 all_goals (first | rfl | (congr 3; rw[Jp]; (try simp only[bef,decide_eq_true_eq,Jb,Jf,Jh,Jg,decide_eq_false_iff_not,beq_iff_eq,bne_iff_ne,ne_eq,Jr,Jv,iff_true,true_iff,iff_false,false_iff]); first | done | omega | grind))
def QB5(n:Int):VCalls prog 121 [.int .i64 n] [] (Ret (.bool (decide (0<=n)&&decide (n<64)))):=by
 refine dd Tryz.func121 ?_
 (unfold Tryz.f121; refine rn trivial ?_)
 refine rn F ?_
 repeat' (first
  | with_reducible exact⟨⟩
  | (refine sG F ?_ ?_<;>intro hZ))
 all_goals (first | rfl | (congr 3; rw[Jp]; (try simp only[decide_eq_true_eq,Jb,Jf,Jh,Jg,decide_eq_false_iff_not,beq_iff_eq,bne_iff_ne,ne_eq,Jr,Jv,iff_true,true_iff,iff_false,false_iff]); first | done | omega | grind))
def Qzy(x:E):VCalls prog 97 [.agg x.d] [] (Ret (.bool true)):=by
 refine dd Tryz.func97 ?_
 (unfold Tryz.f97; refine rn trivial ?_; try with_reducible exact⟨⟩)
def Qsm(x:E):VCalls prog 100 [.agg x.d] [] (Ret (.bool (decide (1<=x.ref)&&decide (x.ref<=x.ptx)))):=by
 refine dd Tryz.func100 ?_
 (unfold Tryz.f100; refine rn trivial ?_)
 refine rn F ?_
 repeat' (first
  | with_reducible exact⟨⟩
  | (refine sG F ?_ ?_<;>intro hZ))
 all_goals (first | rfl | (congr 3; rw[Jp]; (try simp only[decide_eq_true_eq,Jb,Jf,Jh,Jg,decide_eq_false_iff_not,beq_iff_eq,bne_iff_ne,ne_eq,Jr,Jv,iff_true,true_iff,iff_false,false_iff]); first | done | omega | grind))
def Ch.ix(x:Ch):Bool:=x.sl==0&&x.b.no&&x.a.no&&decide (0<=x.pg)&&decide (x.pg<64)
def QCK(x:Ch):VCalls prog 101 [.agg x.d] [] (Ret (.bool x.ix)):=by
 refine dd Tryz.func101 ?_
 (unfold Tryz.f101; refine rn trivial ?_)
 refine rn F ?_
 repeat' (first
  | with_reducible exact⟨⟩
  | (refine sG F ?_ ?_<;>intro hZ))
 all_goals (first | rfl | (congr 3; rw[Jp]; (try simp only[Ch.ix,Ce.no,decide_eq_true_eq,Jb,Jf,Jh,Jg,decide_eq_false_iff_not,beq_iff_eq,bne_iff_ne,ne_eq,Jr,Jv,iff_true,true_iff,iff_false,false_iff]); first | done | omega | grind))
def Qcs(x:E):VCalls prog 190 [.agg x.d] [] (Ret (.bool (x.kind==1||x.kind==2))):=by
 refine dd Tryz.func190 ?_
 (unfold Tryz.f190; refine rn trivial ?_)
 refine rn F ?_
 repeat' (first
  | with_reducible exact⟨⟩
  | (refine sG F ?_ ?_<;>intro hZ))
 all_goals (first | rfl | (congr 3; rw[Jp]; (try simp only[decide_eq_true_eq,Jb,Jf,Jh,Jg,decide_eq_false_iff_not,beq_iff_eq,bne_iff_ne,ne_eq,Jr,Jv,iff_true,true_iff,iff_false,false_iff]); first | done | omega | grind))
def QFI(x:Ch):VCalls prog 99 [.agg x.d] [] (Ret (.bool x.okB)):=by
 refine dd Tryz.func99 ?_
 (unfold Tryz.f99; refine rn trivial ?_)
 refine rn F ?_
 repeat' (first
  | with_reducible exact⟨⟩
  | (refine sG F ?_ ?_<;>intro hZ)
  | refine vp F (QB5 x.pg) ?_
  | refine vp F (Qpx x.b) ?_
  | refine vp F (Qpx x.a) ?_)
 all_goals (first | rfl | (congr 3; rw[Jp]; (try simp only[Ch.okB,decide_eq_true_eq,Jb,Jf,Jh,Jg,decide_eq_false_iff_not,beq_iff_eq,bne_iff_ne,ne_eq,Jr,Jv,iff_true,true_iff,iff_false,false_iff]); first | done | omega | grind))
def QtB(x:Ch):VCalls prog 90 [.agg x.d] [] (Ret (.bool x.okB)):=by
 refine dd Tryz.func90 ?_
 (unfold Tryz.f90; refine rn trivial ?_)
 refine rn F ?_
 repeat' (first
  | with_reducible exact⟨⟩
  | (refine sG F ?_ ?_<;>intro hZ)
  | refine vp F (Qg4 x.b) ?_
  | refine vp F (Qg4 x.a) ?_)
 all_goals (first | rfl | (congr 3; rw[Jp]; (try simp only[Ch.okB,decide_eq_true_eq,Jb,Jf,Jh,Jg,decide_eq_false_iff_not,beq_iff_eq,bne_iff_ne,ne_eq,Jr,Jv,iff_true,true_iff,iff_false,false_iff]); first | done | omega | grind))
def rl(tx ch pg rf bl:Bool)(f g:Nat):List DV:=[.bool tx,.bool ch,.bool pg,.bool rf,.bool bl,.fn (.func f) [] [],.fn (.func g) [] []]
def rl0:List DV:=[.bool false,.bool false,.bool false,.bool false,.bool false,.pv (.lit .nilFunc),.pv (.lit .nilFunc)]
def QxC:List DV:=rl true true false false false 97 98
def Qtf:List DV:=rl false false false false true 97 98
def QEB:List DV:=rl0++rl true false true false false 97 99++rl true true true true false 100 99++QxC++QxC++QxC++Qtf++rl false false false true false 97 101++Qtf
def QBr:VCalls prog 80 [] [] (Ret (.agg QEB)):=by
 refine dd Tryz.func80 ?_
 (unfold Tryz.f80; refine rn trivial ?_)
 rfl
end
section
attribute [local go_sem] QEB rl0 rl QxC Qtf
def txB(n:Int):Bool:=decide (1<=n)&&decide (n<=1073741824)
def E.kindB(e:E):Bool:=
 if e.kind=1 then txB e.tx&&e.ref==0&&e.blob==[]&&e.c.okB
 else if e.kind=2 then txB e.tx&&e.ptx != 0&&e.blob==[]&&decide (1<=e.ref)&&decide (e.ref<=e.ptx)&&e.c.okB
 else if e.kind=3\/e.kind=4\/e.kind=5 then txB e.tx&&e.ptx != 0&&e.ppg==0&&e.ref==0&&e.blob==[]&&e.c.no
 else if e.kind=6\/e.kind=8 then e.tx==0&&e.ptx==0&&e.ppg==0&&e.ref==0&&decide (e.blob.length<=8192)&&e.c.no
 else if e.kind=7 then e.tx==0&&e.ptx==0&&e.ppg==0&&e.blob==[]&&e.c.ix
 else false
def E.okB(e:E):Bool:=decide (1<=e.lsn)&&decide (e.lsn<=1099511627776)&&bef e.ptx e.lsn&&bef e.ppg e.lsn&&bef e.ref e.lsn&&e.kindB
theorem Qo9(lsn kind tx ptx ppg ref:Int)(c:Ch)(blob:List UInt8):(⟨lsn,kind,tx,ptx,ppg,ref,c,blob⟩:E).kindB =
 if kind=1 then txB tx&&ref==0&&blob==[]&&c.okB
 else if kind=2 then txB tx&&ptx != 0&&blob==[]&&decide (1<=ref)&&decide (ref<=ptx)&&c.okB
 else if kind=3\/kind=4\/kind=5 then txB tx&&ptx != 0&&ppg==0&&ref==0&&blob==[]&&c.no
 else if kind=6\/kind=8 then tx==0&&ptx==0&&ppg==0&&ref==0&&decide (blob.length<=8192)&&c.no
 else if kind=7 then tx==0&&ptx==0&&ppg==0&&blob==[]&&c.ix
 else false:=rfl
def Qyt{e:E}(h:e.kind<1\/8<e.kind):e.kindB=false:=by
 unfold E.kindB; rw[if_neg (by omega),if_neg (by omega),if_neg (by omega),if_neg (by omega),if_neg (by omega)]
def Qfn(k:Int):(k<1\/8<k)\/k=1\/k=2\/k=3\/k=4\/k=5\/k=6\/k=7\/k=8:=by omega
def Qsi(e:E):VCalls prog 48 [.agg e.d] [] (Ret (.bool e.okB)):=by
 refine dd Tryz.func48 ?_
 obtain⟨lsn,kind,tx,ptx,ppg,ref,c,blob⟩:=e
 have r1:=Qkx ptx ⟨lsn,kind,tx,ptx,ppg,ref,c,blob⟩
 have r2:=Qkx ppg ⟨lsn,kind,tx,ptx,ppg,ref,c,blob⟩
 have r3:=Qkx ref ⟨lsn,kind,tx,ptx,ppg,ref,c,blob⟩
 have r4:=Qzy ⟨lsn,kind,tx,ptx,ppg,ref,c,blob⟩
 have r5:=Qsm ⟨lsn,kind,tx,ptx,ppg,ref,c,blob⟩
 have q1:=QE0 c
 have q2:=QFI c
 have q3:=QCK c
 have e1:(⟨lsn,kind,tx,ptx,ppg,ref,c,blob⟩:E).okB=(decide (1<=lsn)&&decide (lsn<=1099511627776)&&bef ptx lsn&&bef ppg lsn&&bef ref lsn&&(⟨lsn,kind,tx,ptx,ppg,ref,c,blob⟩:E).kindB):=rfl
 dsimp only[E.d] at *
 generalize bef ptx lsn=B1 at *
 generalize bef ppg lsn=B2 at *
 generalize bef ref lsn=B3 at *
 have e2:=Qo9 lsn kind tx ptx ppg ref c blob
 dsimp only[Ch.d] at q1 q2 q3
 generalize c.no=N at *
 generalize c.okB=K at *
 generalize c.ix=X at *
 have e3:=@Qyt ⟨lsn,kind,tx,ptx,ppg,ref,c,blob⟩
 dsimp only at e3
 generalize (⟨lsn,kind,tx,ptx,ppg,ref,c,blob⟩:E).kindB=Q at *
 generalize (⟨lsn,kind,tx,ptx,ppg,ref,c,blob⟩:E).okB=R at *
 (unfold Tryz.f48; refine rn trivial ?_)
 refine rn F ?_
 repeat' (first
  | with_reducible exact⟨⟩
  | (refine sG F ?_ ?_<;>intro hZ)
  | (refine sB F ?_ ?_<;>intro hZ)
  | refine vp F (r1) ?_
  | refine vp F (r2) ?_
  | refine vp F (r3) ?_
  | (refine Qb (id:=3) [1,2] [⟨[4],[],0,[1,2],[3]⟩,⟨[4],[4],5,[],[]⟩] (by kernel_rfl) (by kernel_rfl) ?_; refine rn F ?_))
 all_goals first
  | (congr 3; rw[Jp,e1]; simp only[Jb,decide_eq_true_eq,Jr,false_iff]; first | omega | (intro h; simp_all; done) | (intro h; rw[e3 (by omega)] at h; simp at h; done))
  | skip
 all_goals
  have hT:R=Q:=by rw[e1]; simp_all
  rcases Qfn kind with hk | rfl | rfl | rfl | rfl | rfl | rfl | rfl | rfl
  ·omega
 all_goals
  refine rn F ?_
  repeat' (first
   | with_reducible exact⟨⟩
   | (refine sG F ?_ ?_<;>intro hZ)
   | (refine sB F ?_ ?_<;>intro hZ)
   | refine vp F (QBr) ?_
   | refine vp F (r4) ?_
   | refine vp F (r5) ?_
   | refine vp F (q1) ?_
   | refine vp F (q2) ?_
   | refine vp F (q3) ?_)
 all_goals (try (congr 3; rw[hT,Jp,e2]; clear hT e1 e2 e3 r1 r2 r3 r4 r5 q1 q2 q3; simp[txB]; first | omega | grind))
 all_goals skip
end
section
def QaR:Enc E:=⟨13,fun x=>[.lit (.int .i64 x.lsn),.lit (.int .i64 x.kind),.lit (.int .i64 x.tx),.lit (.int .i64 x.ptx),.lit (.int .i64 x.ppg),.lit (.int .i64 x.ref),.lit (.int .i64 x.c.pg),.lit (.int .i64 x.c.sl),.lit (.bool x.c.b.set),.str x.c.b.data,.lit (.bool x.c.a.set),.str x.c.a.data,.str x.blob],by decide,fun _=>rfl⟩
def QhS(l:List E):(cells QaR l).length=l.length*13:=Qo QaR l
def Qjc(l:List E)(n:Nat)(h:l.length*13<=n):(cells QaR l).take n=cells QaR l:=by rw[Jo]; rw[QhS]; exact h
def QiC(l:List E):(fz QaR l=[]\/(fz QaR l)[0]?.map JM=some 13)=True:=QfU QaR l
def QiW(h:l.length=len):Qpi n hp 0 13 len (some (cells QaR l))=some (.sl (fz QaR l)):=Qac QaR h
def Qep(l:List E)(e:E):cells QaR l++[.pv (.lit (.int .i64 e.lsn)),.pv (.lit (.int .i64 e.kind)),.pv (.lit (.int .i64 e.tx)),.pv (.lit (.int .i64 e.ptx)),.pv (.lit (.int .i64 e.ppg)),.pv (.lit (.int .i64 e.ref)),.pv (.lit (.int .i64 e.c.pg)),.pv (.lit (.int .i64 e.c.sl)),.pv (.lit (.bool e.c.b.set)),.pv (.str e.c.b.data),.pv (.lit (.bool e.c.a.set)),.pv (.str e.c.a.data),.pv (.str e.blob)]=cells QaR (l++[e]):=by rw[QD]; rfl
def Qc{α:Type}(l:List α)(i:Nat)(h:i<l.length)(d:α):l.getD i d=l[i]:=by rw[Jk,JA h]; rfl
structure To(n:Nat) where
 i:Nat
 hi:i<=n
structure Okay(n:Nat)(c:Nat->Bool) where
 i:Nat
 hi:i<=n
 ok:∀ k,k<i->c k=true
def Okay.start(n:Nat)(c:Nat->Bool):Okay n c:=⟨0,JE _,fun k h=>by omega⟩
def Okay.next{n:Nat}{c:Nat->Bool}(s:Okay n c)(h:s.i<n)(hc:c s.i=true):Okay n c:=⟨s.i+1,h,fun k hk=>by
 rcases Kt k s.i with hlt | hge
 ·exact s.ok k hlt
 ·obtain rfl:k = s.i:=by omega
  exact hc⟩
def Okay.all(s:Okay n c)(h:¬ s.i<n):(JK n).all c=true:=by
 rw[JP]
 intro k hk
 rw[JN] at hk
 exact s.ok k (by omega)
def Qai(h:i<n)(hc:c i=false):(JK n).all c=false:=by
 rw[List.all_eq_false]
 exact⟨i,JN.2 h,by rw[hc]; decide⟩
def QCQ(l:List E)(i:Nat)(h:i<l.length):(fz QaR l)[i]?=some [.lit (.int .i64 (l.getD i E0).lsn),.lit (.int .i64 (l.getD i E0).kind),.lit (.int .i64 (l.getD i E0).tx),.lit (.int .i64 (l.getD i E0).ptx),.lit (.int .i64 (l.getD i E0).ppg),.lit (.int .i64 (l.getD i E0).ref),.lit (.int .i64 (l.getD i E0).c.pg),.lit (.int .i64 (l.getD i E0).c.sl),.lit (.bool (l.getD i E0).c.b.set),.str (l.getD i E0).c.b.data,.lit (.bool (l.getD i E0).c.a.set),.str (l.getD i E0).c.a.data,.str (l.getD i E0).blob]:=by rw[Qc l i h]; exact Qht QaR l i h
structure Lg where
 f:Int
 es:List E
 d:Int
def Lg.c(x:Lg):List DV:=[.int .i64 x.f,.pv (.sl (fz QaR x.es)),.int .i64 x.d]
attribute [local go_sem] Lg.c
def Lg0:Lg:=⟨0,[],0⟩
def Lg.hd(x:Lg):Prop:=1<=x.f/\x.f<=1099511627776/\x.es.length<=4096/\x.f-1<=x.d/\x.d<=x.f+x.es.length-1
instance (x:Lg):Decidable x.hd:=by unfold Lg.hd; infer_instance
def lgC(x:Lg)(i:Nat):Bool:=decide ((x.es.getD i E0).lsn=x.f+i)&&(x.es.getD i E0).okB
def lgB(x:Lg):Bool:=decide x.hd&&(JK x.es.length).all (lgC x)
def Lg.end_(x:Lg):Int:=x.f+x.es.length-1
def Qat{x:Lg}(h:lgB x=true):x.hd:=by unfold lgB at h; simp at h; exact h.1
def QFc(x:Lg)(h1 : -1099511627776<=x.f/\x.f<=1099511627776)(h2:x.es.length<=1000000):VCalls prog 69 [.agg x.c] [] (Ret (.int .i64 x.end_)):=by
 refine dd Tryz.func69 ?_
 obtain⟨f,es,d⟩:=x
 dsimp only at h1 h2
 (unfold Tryz.f69; refine rn trivial ?_)
 (refine rn F ?_; try with_reducible exact⟨⟩)
 all_goals rfl
def Qyz(x:Lg)(hx:x.es.length<=9223372036854775807):VCalls prog 37 [.agg x.c] [] (Ret (.bool (lgB x))):=by
 refine dd Tryz.func37 ?_
 obtain⟨f,es,d⟩:=x
 dsimp only at hx
 have hr:=fun(i:Nat)=>Qsi (es.getD i E0)
 have c1:=QFc ⟨f,es,d⟩
 have hlg:∀ i,lgC ⟨f,es,d⟩ i=true ↔ (es.getD i E0).lsn=f+i/\(es.getD i E0).okB=true:=fun i=>by simp[lgC]
 have hB:lgB ⟨f,es,d⟩=(decide (Lg.hd ⟨f,es,d⟩)&&(JK es.length).all (lgC ⟨f,es,d⟩)):=rfl
 have hH:Lg.hd ⟨f,es,d⟩=(1<=f/\f<=1099511627776/\es.length<=4096/\f-1<=d/\d<=f+es.length-1):=rfl
 have no:¬ Lg.hd ⟨f,es,d⟩->lgB ⟨f,es,d⟩=false:=fun h=>by rw[hB,decide_eq_false h]; rfl
 unfold Lg.c at c1 |-
 unfold Lg.end_ at c1
 unfold E.d at hr
 dsimp only at c1 |-
 generalize lgC ⟨f,es,d⟩=lc at *
 generalize lgB ⟨f,es,d⟩=b at *
 (unfold Tryz.f37; refine rn trivial ?_)
 refine rn F ?_
 repeat' (first
  | with_reducible exact⟨⟩
  | (refine sG F ?_ ?_<;>intro hZ)
  | (refine sB F ?_ ?_<;>intro hZ)
  | refine vp F (c1 (by omega) (by omega)) ?_
  | (refine Qb (id:=1) [0,1,2,3,4,5,6,7,8,9,10,11,12,13,14,15,16,17,18,19,20,21,22,23,24,25] [⟨[],[],26,[0,1,2,3,4,5,6,7,8,9,10,11,12,13,14,15,16,17,18,19,20,21,23,24],[27,28]⟩] (by kernel_rfl) (by kernel_rfl) ?_; refine rn F ?_))
 all_goals first | (rw[no (by rw[hH]; omega)]) | skip
 refine Qj (fun s:Okay es.length lc=>⟨55,0,[(37,.int .i64 s.i),(36,.int .i64 es.length),(35,.pv (.sl (fz QaR es))),(1,.ptr 0 0)],[⟨34,true,[.int .i64 f,.pv (.sl (fz QaR es)),.int .i64 d]⟩]⟩) (fun s=>es.length-s.i) (Okay.start _ _) (gc [0]) ?_
 intro s
 have hsi:=s.hi
 have hg:=fun h:s.i<es.length=>QCQ es s.i h
 have F:=@hg
 refine rn F ?_
 repeat' (first
  | with_reducible exact⟨⟩
  | (refine sG F ?_ ?_<;>intro hZ)
  | (refine sB F ?_ ?_<;>intro hZ)
  | refine vp F (hr s.i) ?_)
 all_goals first
  | (rw[hB,Qai (i:=s.i) (by omega) (Jq.2 fun h=>by rw[hlg] at h; omega),JD])
  | (rw[hB,Qai (i:=s.i) (by omega) (Jq.2 fun h=>by rw[hlg] at h; exact absurd h.2 (by simp_all)),JD])
  | (rw[hB,s.all (by omega),decide_eq_true (by rw[hH]; omega)]; rfl)
  | (exact⟨s.next (by omega) ((hlg _).2 ⟨by omega,by assumption⟩),by show es.length-(s.i+1)<es.length-s.i; omega,(gc [0])⟩)
  | skip
end
section
attribute [local go_sem] QhS Qjc QiC QiW Qep Tryz.underlying32
abbrev noK:Nat->Bool:=fun _=>false
def QfG(x:Lg)(e:E):Lg×Int×Int:=if lgB x=false then (Lg0,0,26) else if x.es.length=4096\/1099511627776<x.end_+1 then (Lg0,0,21)
 else if ({ e with lsn:=x.end_+1 }:E).okB=false then (Lg0,0,12) else (⟨x.f,x.es++[{ e with lsn:=x.end_+1 }],x.d⟩,x.end_+1,0)
def QHu(r:Lg×Int×Int):DV:=.tup [.agg r.1.c,.int .i64 r.2.1,.int .i64 r.2.2]
end
section
attribute [local go_sem] QhS Qjc QiC QiW Qep
def Qaa(x:Lg)(n:Int):Lg×Int:=if lgB x=false then (Lg0,26) else if x.end_<n then (Lg0,14) else (⟨x.f,x.es,if n > x.d then n else x.d⟩,0)
def lgD(r:Lg×Int):DV:=.tup [.agg r.1.c,.int .i64 r.2]
end
section
attribute [local go_sem] E.d Ch0 Ce0
def QCq(l:List UInt8):decide ((l.length:Int)<=8192)=decide (l.length<=8192):=by
 apply decide_eq_decide.2; omega
def E.shp(e:E):E:=
 if e.kind=1 then ⟨e.lsn,e.kind,e.tx,e.ptx,e.ppg,0,e.c,[]⟩
 else if e.kind=2 then ⟨e.lsn,e.kind,e.tx,e.ptx,e.ppg,e.ref,e.c,[]⟩
 else if e.kind=3\/e.kind=4\/e.kind=5 then ⟨e.lsn,e.kind,e.tx,e.ptx,0,0,Ch0,[]⟩
 else if e.kind=6\/e.kind=8 then ⟨e.lsn,e.kind,0,0,0,0,Ch0,e.blob⟩
 else if e.kind=7 then ⟨e.lsn,e.kind,0,0,0,e.ref,⟨e.c.pg,0,Ce0,Ce0⟩,[]⟩
 else ⟨e.lsn,e.kind,0,0,0,0,Ch0,[]⟩
def E.shok(e:E):Bool:=
 if e.kind=1 then e.c.okB&&decide (1<=e.tx)&&decide (e.tx<=1073741824)
 else if e.kind=2 then e.c.okB&&decide (0<e.ptx)&&decide (1<=e.ref)&&decide (e.ref<=e.ptx)&&decide (1<=e.tx)&&decide (e.tx<=1073741824)
 else if e.kind=3\/e.kind=4\/e.kind=5 then decide (1<=e.tx)&&decide (e.tx<=1073741824)&&decide (0<e.ptx)
 else if e.kind=6\/e.kind=8 then decide (e.blob.length<=8192)
 else if e.kind=7 then decide (0<=e.c.pg)&&decide (e.c.pg<64)
 else false
def shD(e:E):DV:=.tup [.agg e.shp.d,.bool e.shok]
theorem QEt(lsn kind tx ptx ppg ref:Int)(c:Ch)(blob:List UInt8):(⟨lsn,kind,tx,ptx,ppg,ref,c,blob⟩:E).shp =
 if kind=1 then ⟨lsn,kind,tx,ptx,ppg,0,c,[]⟩
 else if kind=2 then ⟨lsn,kind,tx,ptx,ppg,ref,c,[]⟩
 else if kind=3\/kind=4\/kind=5 then ⟨lsn,kind,tx,ptx,0,0,Ch0,[]⟩
 else if kind=6\/kind=8 then ⟨lsn,kind,0,0,0,0,Ch0,blob⟩
 else if kind=7 then ⟨lsn,kind,0,0,0,ref,⟨c.pg,0,Ce0,Ce0⟩,[]⟩
 else ⟨lsn,kind,0,0,0,0,Ch0,[]⟩:=rfl
theorem QBg(lsn kind tx ptx ppg ref:Int)(c:Ch)(blob:List UInt8):(⟨lsn,kind,tx,ptx,ppg,ref,c,blob⟩:E).shok =
 if kind=1 then c.okB&&decide (1<=tx)&&decide (tx<=1073741824)
 else if kind=2 then c.okB&&decide (0<ptx)&&decide (1<=ref)&&decide (ref<=ptx)&&decide (1<=tx)&&decide (tx<=1073741824)
 else if kind=3\/kind=4\/kind=5 then decide (1<=tx)&&decide (tx<=1073741824)&&decide (0<ptx)
 else if kind=6\/kind=8 then decide (blob.length<=8192)
 else if kind=7 then decide (0<=c.pg)&&decide (c.pg<64)
 else false:=rfl
def QBi(e:E):VCalls prog 64 [.agg e.d] [] (Ret (shD e)):=by
 refine dd Tryz.func64 ?_
 unfold shD
 obtain⟨lsn,kind,tx,ptx,ppg,ref,c,blob⟩:=e
 have q1:=QtB c
 dsimp only[Ch.d] at q1
 rw[QEt,QBg]
 generalize c.okB=K at *
 rcases Qfn kind with hk | rfl | rfl | rfl | rfl | rfl | rfl | rfl | rfl
 ·rw [if_neg (by omega),if_neg (by omega),if_neg (by omega),if_neg (by omega),if_neg (by omega),if_neg (by omega),if_neg (by omega),if_neg (by omega),if_neg (by omega),if_neg (by omega)]
  have k1:(kind==1)=false:=by simp; omega
  have k2:(kind==2)=false:=by simp; omega
  have k3:(kind==3)=false:=by simp; omega
  have k4:(kind==4)=false:=by simp; omega
  have k5:(kind==5)=false:=by simp; omega
  have k6:(kind==6)=false:=by simp; omega
  have k7:(kind==7)=false:=by simp; omega
  have k8:(kind==8)=false:=by simp; omega
  (unfold Tryz.f64; refine rn (Ja @k1 (Ja @k2 (Ja @k3 (Ja @k4 (Ja @k5 (Ja @k6 (Ja @k7 @k8))))))) ?_; try with_reducible exact⟨⟩)
 all_goals
  (unfold Tryz.f64; refine rn trivial ?_)
  refine rn F ?_
  repeat' (first
   | with_reducible exact⟨⟩
   | (refine sG F ?_ ?_<;>intro hZ)
   | refine vp F (q1) ?_
   | (refine Qb (id:=5) [0,1,2,3,4,5,6,7,8] [⟨[],[],9,[2,3,4,5,6,7],[10]⟩,⟨[],[],11,[4,5,6,7],[12]⟩,⟨[],[],13,[6,7],[14]⟩,⟨[],[],15,[],[]⟩] (by kernel_rfl) (by kernel_rfl) ?_; refine rn F ?_)
   | (refine Qb (id:=10) [0,1,2,3,4,5,6,7,8,9,10,11] [⟨[],[],12,[1,2,3,4,5,6,8,9,10,11],[]⟩,⟨[],[],13,[],[]⟩] (by kernel_rfl) (by kernel_rfl) ?_; refine rn F ?_)
   | (refine Qb (id:=14) [0,1,2,3,4] [⟨[],[],5,[2,3],[6]⟩,⟨[],[],7,[],[]⟩] (by kernel_rfl) (by kernel_rfl) ?_; refine rn F ?_)
   | (refine Qb (id:=15) [0,1,2,3,4,5,6,7,8,9,10,11,12,13] [⟨[],[],14,[1,2,3,4,5,6,7,8,10,11,12,13],[]⟩,⟨[],[],15,[],[]⟩] (by kernel_rfl) (by kernel_rfl) ?_; refine rn F ?_)
   | (refine Qb (id:=19) [0,1,2,3,4] [⟨[],[],5,[1,2,3,4],[]⟩,⟨[],[],6,[],[]⟩] (by kernel_rfl) (by kernel_rfl) ?_; refine rn F ?_)
   | (refine Qb (id:=21) [0,1,2,3,4,5] [⟨[],[],6,[2,3,4],[7,8]⟩,⟨[],[],9,[7],[]⟩] (by kernel_rfl) (by kernel_rfl) ?_; refine rn F ?_)
   | (refine Qb (id:=22) [0,1,2,3,4,5,6,7,8,9,10] [⟨[],[],11,[1,2,3,4,6,7,8,9,10],[]⟩,⟨[],[],12,[],[]⟩] (by kernel_rfl) (by kernel_rfl) ?_; refine rn F ?_))
 all_goals first | rfl | (simp[Ch0,Ce0,QCq]; done)
def eqE(x y:E):Bool:=x.lsn==y.lsn&&(x.kind==y.kind&&(x.tx==y.tx&&(x.ptx==y.ptx&&(x.ppg==y.ppg&&(x.ref==y.ref&&(x.c.pg==y.c.pg&&(x.c.sl==y.c.sl&&(x.c.b.set==y.c.b.set&&(x.c.b.data==y.c.b.data&&(x.c.a.set==y.c.a.set&&(x.c.a.data==y.c.a.data&&x.blob==y.blob)))))))))))
def QFX(x y:E):QQ x.d y.d [(0,1),(1,1),(2,1),(3,1),(4,1),(5,1),(6,1),(7,1),(8,0),(9,2),(10,0),(11,2),(12,2)]=some (eqE x y):=by
 simp[QQ,Q9,E.d,eqE]
def E.okR(e:E):Bool:=e.shok&&eqE e.shp e&&decide (1<=e.lsn)&&decide (e.lsn<=1099511627776)&&bef e.ptx e.lsn&&bef e.ppg e.lsn&&bef e.ref e.lsn
def QsO(e:E):VCalls prog 31 [.agg e.d] [] (Ret (.bool e.okR)):=by
 refine dd Tryz.func31 ?_
 have hq:=QFX e.shp e
 have hs:=QBi e
 unfold shD at hs
 simp only[E.d] at hq hs
 have b1:=Qg5 e.ptx e.lsn
 have b2:=Qg5 e.ppg e.lsn
 have b3:=Qg5 e.ref e.lsn
 have e1:e.okR=(e.shok&&eqE e.shp e&&decide (1<=e.lsn)&&decide (e.lsn<=1099511627776)&&bef e.ptx e.lsn&&bef e.ppg e.lsn&&bef e.ref e.lsn):=rfl
 generalize e.okR=R at *
 generalize bef e.ptx e.lsn=B1 at *
 generalize bef e.ppg e.lsn=B2 at *
 generalize bef e.ref e.lsn=B3 at *
 generalize e.shp=s at *
 generalize e.shok=ok at *
 generalize eqE s e=q at *
 (unfold Tryz.f31; refine rn trivial ?_)
 have F:=@hq
 refine rn F ?_
 repeat' (first
  | with_reducible exact⟨⟩
  | (refine sG F ?_ ?_<;>intro hZ)
  | refine vp F (hs) ?_
  | refine vp F (b1) ?_
  | refine vp F (b2) ?_
  | refine vp F (b3) ?_)
 all_goals (congr 3; rw[e1,Jp]; clear e1 b1 b2 b3 hs hq; simp; first | omega | grind)
def QEW(e:E):e.okR=e.okB:=by
 obtain⟨lsn,kind,tx,ptx,ppg,ref,⟨pg,sl,⟨b1,b2⟩,⟨a1,a2⟩⟩,blob⟩:=e
 rw[Jp]
 by_cases h:kind<1\/8<kind
 ·have e1:E.shok ⟨lsn,kind,tx,ptx,ppg,ref,⟨pg,sl,⟨b1,b2⟩,⟨a1,a2⟩⟩,blob⟩ = false:=by unfold E.shok; rw [if_neg (by dsimp only; omega),if_neg (by dsimp only; omega),if_neg (by dsimp only; omega),if_neg (by dsimp only; omega),if_neg (by dsimp only; omega)]
  have e2:E.kindB ⟨lsn,kind,tx,ptx,ppg,ref,⟨pg,sl,⟨b1,b2⟩,⟨a1,a2⟩⟩,blob⟩=false:=by unfold E.kindB; rw[if_neg (by dsimp only; omega),if_neg (by dsimp only; omega),if_neg (by dsimp only; omega),if_neg (by dsimp only; omega),if_neg (by dsimp only; omega)]
  simp[E.okR,E.okB,e1,e2]
 ·have hk:kind = 1\/kind = 2\/kind = 3\/kind = 4\/kind = 5\/kind = 6\/kind = 7\/kind = 8:=by omega
  rcases hk with hk | hk | hk | hk | hk | hk | hk | hk<;>subst hk
  all_goals
   simp only[E.okR,E.okB,E.shok,E.shp,E.kindB,eqE,bef,txB,Ch.no,Ce.no,Ch.ix,Ch0,Ce0,Jb,decide_eq_true_eq,beq_iff_eq,bne_iff_ne,Jh,reduceIte,Int.reduceEq,or_self,or_false,false_or,or_true,true_or]
   grind
def QcJ(e:E):VCalls prog 31 [.agg e.d] [] (Ret (.bool e.okB)):=by
 rw[<- QEW]; exact QsO e
end
section
structure Tx where
 id:Int
 st:Int
 n:Int
 b:Int
 l:List Int
 s:List Int
def Qu:Enc Tx:=⟨6,fun t=>[.lit (.int .i64 t.id),.lit (.int .i64 t.st),.lit (.int .i64 t.n),.lit (.int .i64 t.b),.sl (fz Qx t.l),.sl (fz Qx t.s)],by decide,fun _=>rfl⟩
def Tx.d(t:Tx):List DV:=[.int .i64 t.id,.int .i64 t.st,.int .i64 t.n,.int .i64 t.b,.pv (.sl (fz Qx t.l)),.pv (.sl (fz Qx t.s))]
def Qzv(l:List Int)(lo hi d:Int)(i:Nat):Bool:=decide (lo<=l.getD i 0)&&decide (l.getD i 0<=hi)&&(decide (i=0)||decide (l.getD (i-1) 0+d<=l.getD i 0))
def Qgy(l:List Int)(lo hi d:Int):Bool:=(JK l.length).all (Qzv l lo hi d)
def Qbu(l:List Int)(lo hi d:Int)(i:Nat):Qzv l lo hi d i=true ↔ lo<=l.getD i 0/\l.getD i 0<=hi/\(i=0\/l.getD (i-1) 0+d<=l.getD i 0):=by
 simp only[Qzv,Jb,Jf,decide_eq_true_eq,and_assoc]
def Tx.sm(t:Tx):Prop:=t.l.length<=9223372036854775807/\t.s.length<=9223372036854775807
def Tx.hdB(t:Tx):Bool:=decide (1<=t.id)&&decide (t.id<=1073741824)&&decide (1<=t.st)&&decide (t.st<=3)&&decide (0<=t.n)&&decide (t.n<=1099511627776)&&(decide (t.b=0)||(decide (t.st=2)&&decide (0<t.b)&&decide (t.b<=t.n)))&&decide (t.l.length<=4096)&&decide (t.s.length<=8)
def Tx.okB(t:Tx):Bool:=t.hdB&&Qgy t.l 1 t.n 1&&Qgy t.s 0 t.n 0
def Tx0:Tx:=⟨0,0,0,0,[],[]⟩
def tC(l:List Tx)(i:Nat):Bool:=(l.getD i Tx0).okB&&(decide (i=0)||decide ((l.getD (i-1) Tx0).id<(l.getD i Tx0).id))
def Qd4(l:List Tx)(i:Nat):tC l i=true ↔ (l.getD i Tx0).okB=true/\(i=0\/(l.getD (i-1) Tx0).id<(l.getD i Tx0).id):=by
 simp only[tC,Jb,Jf,decide_eq_true_eq]
def QaF(l:List Tx):Bool:=decide (l.length<=64)&&(JK l.length).all (tC l)
def smL(l:List Tx):Prop:=l.length<=1000000/\∀ t∈l,t.sm
def Qd7(l:List Tx)(i:Nat)(h:i<l.length):(fz Qu l)[i]?=some [.lit (.int .i64 l[i].id),.lit (.int .i64 l[i].st),.lit (.int .i64 l[i].n),.lit (.int .i64 l[i].b),.sl (fz Qx l[i].l),.sl (fz Qx l[i].s)]:=Qht Qu l i h
structure Pass{α:Type}(l:List α)(p:α->Prop) where
 i:Nat
 hi:i<=l.length
 no:∀ x∈l.take i,¬ p x
def Pass.start{α:Type}(l:List α)(p:α->Prop):Pass l p:=⟨0,JE _,by simp⟩
def Pass.next{α:Type}{l:List α}{p:α->Prop}(s:Pass l p)(h:s.i<l.length)(hp:¬ p l[s.i]):Pass l p :=
 ⟨s.i + 1,h,fun x hx=>by
  rw[Jw h,List.mem_append] at hx
  rcases hx with hx | hx
  ·exact s.no x hx
  ·simp at hx; subst hx; exact hp⟩
def Pass.all(s:Pass l p)(h:¬ s.i<l.length):∀ x∈l,¬ p x:=by
 have:=s.no
 rwa [Jo (by omega)] at this
def Qhr{α:Type}(l:List α)(p:α->Bool):Int:=if l.any p=true then (l.findIdx p:Int) else -1
def QnP(l:List α)(p:α->Bool)(i:Nat)(h:i<l.length)(hx:p l[i]=true)(no:∀ x∈l.take i,¬ p x=true):Qhr l p=i:=by
 rw[Qhr,if_pos (JJ.2 ⟨l[i],JQ h,hx⟩)]
 congr 1
 rw[List.findIdx_eq h]
 refine⟨hx,fun j hj=>?_⟩
 have:=no l[j] (JO.2 ⟨j,by omega,rfl⟩)
 simpa using this
def QFm(e:Enc α)(l:List α)(i:Nat)(h:i<l.length):(fz e l)[i]?=some (e.enc l[i]):=Qht e l i h
def QuB(l:List α)(p:α->Bool):(Qhr l p=-1/\l.find? p=none)\/∃ i,∃ h:i<l.length,Qhr l p=i/\l.find? p=some l[i]:=by
 by_cases ha:l.any p=true
 ·obtain ⟨x,hm,hp⟩:=JJ.1 ha
  have hlt:=JH ⟨x,hm,hp⟩
  refine .inr ⟨l.findIdx p,hlt,by rw[Qhr,if_pos ha],?_⟩
  rw[JT]
  refine⟨JY (w:=hlt),_,hlt,rfl,fun j hj=>?_⟩
  have:=J8 hj
  simpa using this
 ·refine .inl ⟨by rw [Qhr,if_neg ha],?_⟩
  rw[Kl]
  intro x hx hp
  exact ha (JJ.2 ⟨x,hx,hp⟩)
def lo{α:Type}(l:List α)(f:α->Bool):Nat:=(l.takeWhile f).length
def QF7{α:Type}(l:List α)(f:α->Bool):Prop:=∀ i j:Nat,∀ hi:i<l.length,∀ hj:j<l.length,i<j->f l[j]=true->f l[i]=true
def QE3(l:List α)(f:α->Bool):lo l f<=l.length:=(List.takeWhile_sublist _).length_le
def QE4 (l:List α) (f:α->Bool) (i:Nat) (hi:i<=l.length) (h1:∀ k,∀ hk:k < l.length,k < i->f l[k] = true) (h2:∀ hi:i < l.length,f l[i] = false):lo l f = i:=by
 unfold lo
 induction l generalizing i with
 | nil=>simp at hi; subst hi; rfl
 | cons a r ih =>
   cases i with
   | zero =>
     have:=h2 (by simp)
     simp only[J9] at this
     rw[J0,this]; rfl
   | succ i =>
     have h0:=h1 0 (by simp) (by omega)
     simp only[J9] at h0
     rw[J0,h0]
     simp only[if_true,Jm]
     rw[ih i (by simpa using hi) (fun k hk hki=>h1 (k+1) (by simpa using hk) (by omega)) (fun hi=>h2 (by simpa using hi))]
structure BS{α:Type}(l:List α)(f:α->Bool) where
 i:Nat
 j:Nat
 hij:i<=j
 hj:j<=l.length
 h1:∀ k,∀ hk:k<l.length,k<i->f l[k]=true
 h2:∀ hj:j<l.length,f l[j]=false
def BS.start{α:Type}(l:List α)(f:α->Bool):BS l f:=⟨0,l.length,JE _,J1 _,fun k hk h=>by omega,fun h=>by omega⟩
def BS.up{α:Type}{l:List α}{f:α->Bool}(s:BS l f)(hf:QF7 l f)(h:Nat)(h1:s.i<=h)(h2:h<s.j)(hx:f (l[h]'(JF h2 s.hj))=true):BS l f :=
 ⟨h + 1,s.j,h2,s.hj,fun k hk hki=>by
  rcases Kt k h with hlt | hge
  ·exact hf k h hk (JF h2 s.hj) hlt hx
  ·obtain rfl:k = h:=by omega
   exact hx,s.h2⟩
def BS.down{α:Type}{l:List α}{f:α->Bool}(s:BS l f)(h:Nat)(h1:s.i<=h)(h2:h<s.j)(hx:f (l[h]'(JF h2 s.hj))=false):BS l f:=
 ⟨s.i,h,h1,Nat.le_of_lt (JF h2 s.hj),s.h1,fun _=>hx⟩
def BS.fin(s:BS l f)(h:¬ s.i<s.j):lo l f=s.i:=by
 have e:s.i=s.j:=by have:=s.hij; omega
 exact QE4 l f s.i (by have:=s.hj; omega) s.h1 (fun hi=>by
  have:=s.h2 (e▸hi)
  simpa only[e] using this)
def QFl(i j:Nat)(h:j<=1000000)(hij:i<=j):IntKind.i64.wrap ((IntKind.u64.wrap ((i:Int)+j)).fdiv (2 ^ min 1 64))=((i+j) / 2:Nat):=by
 have e0:((2:Int) ^ min 1 64)=2:=by decide
 rw[e0]
 have e1:IntKind.u64.wrap ((i:Int)+j)=(i:Int)+j:=by
  simp[IntKind.wrap,IntKind.signed,IntKind.bits]; omega
 rw[e1,J3 _ (by omega),IntKind.wrap_i64]
 omega
def Qxd(l:List α)(hl:l.length<=1000000)(f:α->Bool)(g:FuncId)(caps:List DV)(hc:DV.nums.go (fun _=>false) caps=true)(hf:∀ i,∀ h:i<l.length,VCalls prog g (.int .i64 i::caps) [] (Ret (.bool (!f l[i]))))(hF:QF7 l f):
 VCalls prog 77 [.int .i64 l.length,.fn (.func g) [] caps] [] (Ret (.int .i64 (lo l f))):=by
 refine dd Tryz.func77 ?_
 (unfold Tryz.f77; refine rn trivial ?_)
 refine QpR (fun s:BS l f=>⟨26,0,[(6,.int .i64 s.j),(5,.int .i64 s.i),(1,.fn (.func g) [] caps)],[]⟩) (fun s=>s.j-s.i) (BS.start l _) (by refine⟨rfl,rfl,by simp,?_,?_,.inl rfl⟩<;>(repeat' apply Ja)<;>first | rfl | trivial) ?_
 intro s
 have hij:=s.hij
 have hj:=s.hj
 have hh:=QFl s.i s.j (by omega) hij
 refine rn trivial ?_
 refine QM (fun hc1=>?_) (fun hc1=>?_)<;>simp only[decide_eq_true_eq,decide_eq_false_iff_not,Jf,Jb,Jn,Jl,Jh,Jg,beq_iff_eq,beq_eq_false_iff_ne,bne_iff_ne,bne_eq_false_iff_eq,ne_eq] at hc1
 ·have hlt:(s.i + s.j) / 2 < l.length:=by omega
  have hm:=hf _ hlt
  refine rn @hh ?_
  refine Qav hm (by simpa [DV.nums.go,DV.nums] using hc) ?_
  cases hx:f l[(s.i+s.j) / 2]
  ·(refine rn trivial ?_; try with_reducible exact ⟨⟩)
   exact⟨s.down ((s.i+s.j) / 2) (by omega) (by omega) hx,by show(s.i+s.j) / 2-s.i<s.j-s.i; omega,(by refine⟨rfl,rfl,by simp,?_,?_,.inl rfl⟩<;>(repeat' apply Ja)<;>first | rfl | trivial)⟩
  ·(refine rn trivial ?_; try with_reducible exact ⟨⟩)
   exact⟨s.up hF _ (by omega) (by omega) hx,by show s.j-((s.i+s.j) / 2+1)<s.j-s.i; omega,(by refine⟨rfl,rfl,by simp,?_,?_,.inl rfl⟩<;>(repeat' apply Ja)<;>first | rfl | trivial)⟩
 ·have hlo:=s.fin (by omega)
  rw[hlo]
  (refine rn trivial ?_; try with_reducible exact⟨⟩)
def QyB(l:List Tx)(h:(l.map (·.id)).Pairwise (·<·))(a:Int):QF7 l (fun t=>decide (t.id<a)):=fun i j hi hj hij hx=>by
 have:=JG.mp h i j (by rwa [Kb]) (by rwa [Kb]) hij
 rw[JX,JX] at this
 rw[decide_eq_true_eq] at hx |-
 omega
def QqI(l:List Tx)(i:Nat)(h:i<l.length):(fz Qu l)[i]?=some [.lit (.int .i64 (l.getD i Tx0).id),.lit (.int .i64 (l.getD i Tx0).st),.lit (.int .i64 (l.getD i Tx0).n),.lit (.int .i64 (l.getD i Tx0).b),.sl (fz Qx (l.getD i Tx0).l),.sl (fz Qx (l.getD i Tx0).s)]:=by rw[Qc l i h]; exact Qd7 l i h
attribute [local go_sem] Tx.d Qhn Jc Ji Ju Jz Qbk QaV
def Qxt(t:Tx)(hs:t.sm):VCalls prog 214 [.agg t.d] [] (Ret (.bool t.okB)):=by
 refine dd Tryz.func214 ?_
 obtain⟨id,st,n,b,l,s⟩:=t
 obtain⟨hs1,hs2⟩:=hs
 dsimp only at hs1 hs2
 have e:(⟨id,st,n,b,l,s⟩:Tx).okB=((⟨id,st,n,b,l,s⟩:Tx).hdB&&Qgy l 1 n 1&&Qgy s 0 n 0):=rfl
 have eh:(⟨id,st,n,b,l,s⟩:Tx).hdB=(decide (1<=id)&&decide (id<=1073741824)&&decide (1<=st)&&decide (st<=3)&&decide (0<=n)&&decide (n<=1099511627776)&&(decide (b=0)||(decide (st=2)&&decide (0<b)&&decide (b<=n)))&&decide (l.length<=4096)&&decide (s.length<=8)):=rfl
 generalize (⟨id,st,n,b,l,s⟩:Tx).hdB=H at *
 generalize (⟨id,st,n,b,l,s⟩:Tx).okB=K at *
 unfold Tx.d
 (unfold Tryz.f214; refine rn trivial ?_)
 refine rn F ?_
 repeat' (first
  | with_reducible exact⟨⟩
  | (refine sG F ?_ ?_<;>intro hZ)
  | (refine sB F ?_ ?_<;>intro hZ))
 all_goals first
  | (rw[e,Jq.2 (show ¬ H=true from fun h=>by rw[eh] at h; simp only[Jb,Jf,decide_eq_true_eq] at h; omega)]; rfl)
  | skip
 all_goals
  have hh:H=true:=by rw[eh]; simp only[Jb,Jf,decide_eq_true_eq]; omega
  refine Qj (fun q:Okay l.length (Qzv l 1 n 1)=>⟨147,0,[(3,.int .i64 q.i),(1,.ptr 0 0)],[⟨71,true,[.int .i64 id,.int .i64 st,.int .i64 n,.int .i64 b,.pv (.sl (fz Qx l)),.pv (.sl (fz Qx s))]⟩]⟩) (fun q=>l.length-q.i) (Okay.start _ _) (by exact(gc [0])) ?_
  intro q
  have hqi:=q.hi
  have hg:=fun h:q.i<l.length=>QV l q.i h
  have hgp:0<(q.i:Int)->(q.i:Int)<l.length->(fz Qx l)[q.i-1]?=some [.lit (.int .i64 (l.getD (q.i-1) 0))]:=fun h h2=>by
   exact QV l (q.i-1) (by omega)
  have F:=(Ja @hg @hgp)
  refine rn F ?_
  repeat' (first
   | with_reducible exact⟨⟩
   | (refine sG F ?_ ?_<;>intro hZ)
   | (refine sB F ?_ ?_<;>intro hZ)
   | (refine Qb (id:=8) [0,1,2,3,4,5,6,7,8,9,10,11,12,13,14,15,16,17,18,19,20,21,22,23,24,25,26,27,28,29,30,31,32,33] [] (by kernel_rfl) (by kernel_rfl) ?_; refine rn F ?_))
  all_goals first
   | (rw[e,Qgy,Qgy,Qai (n:=l.length) (c:=Qzv l 1 n 1) (i:=q.i) (by omega) (Jq.2 fun h=>by rw[Qbu] at h; omega)]; simp)
   | (exact⟨q.next (by omega) ((Qbu _ _ _ _ _).2 (by omega)),by show l.length-(q.i+1)<l.length-q.i; omega,(gc [0])⟩)
   | skip
  have hL:Qgy l 1 n 1=true:=q.all (by omega)
  clear hg hgp hqi
  refine Qj (fun q:Okay s.length (Qzv s 0 n 0)=>⟨147,0,[(4,.int .i64 q.i),(1,.ptr 0 0)],[⟨71,true,[.int .i64 id,.int .i64 st,.int .i64 n,.int .i64 b,.pv (.sl (fz Qx l)),.pv (.sl (fz Qx s))]⟩]⟩) (fun q=>s.length-q.i) (Okay.start _ _) (by exact(gc [0])) ?_
  intro q
  have hqi:=q.hi
  have hg:=fun h:q.i<s.length=>QV s q.i h
  have hgp:0<(q.i:Int)->(q.i:Int)<s.length->(fz Qx s)[q.i-1]?=some [.lit (.int .i64 (s.getD (q.i-1) 0))]:=fun h h2=>by
   exact QV s (q.i-1) (by omega)
  have F:=(Ja @hg @hgp)
  refine rn F ?_
  repeat' (first
   | with_reducible exact⟨⟩
   | (refine sG F ?_ ?_<;>intro hZ)
   | (refine sB F ?_ ?_<;>intro hZ)
   | (refine Qb (id:=13) [0,1,2,3,4,5,6,7,8,9,10,11,12,13,14,15,16,17,18,19,20,21,22,23,24,25,26,27,28,29,30,31,32,33] [] (by kernel_rfl) (by kernel_rfl) ?_; refine rn F ?_))
  all_goals first
   | (rw[e,Qgy,Qgy,Qai (n:=s.length) (c:=Qzv s 0 n 0) (i:=q.i) (by omega) (Jq.2 fun h=>by rw[Qbu] at h; omega)]; simp)
   | (exact⟨q.next (by omega) ((Qbu _ _ _ _ _).2 (by omega)),by show s.length-(q.i+1)<s.length-q.i; omega,(gc [0])⟩)
   | skip
  rw[e,hh,hL,show Qgy s 0 n 0=true from q.all (by omega)]
  rfl
def QbR(l:List Tx)(hl:smL l):VCalls prog 167 [.pv (.sl (fz Qu l))] [] (Ret (.bool (QaF l))):=by
 refine dd Tryz.func167 ?_
 obtain⟨hl,hm⟩:=hl
 have hr:=fun(i:Nat) (h:i<l.length)=>Qxt (l.getD i Tx0) (by rw[Qc l i h]; exact hm _ (JQ h))
 unfold Tx.d at hr
 (unfold Tryz.f167; refine rn trivial ?_)
 refine rn F ?_
 repeat' (first
  | with_reducible exact⟨⟩
  | (refine sB F ?_ ?_<;>intro hZ))
 ·rw[QaF,decide_eq_false (by omega)]; rfl
 refine Qj (fun s:Okay l.length (tC l)=>⟨37,0,[(3,.int .i64 s.i),(0,.pv (.sl (fz Qu l)))],[]⟩) (fun s=>l.length-s.i) (Okay.start _ _) (gc []) ?_
 intro s
 have hsi:=s.hi
 have hg:=fun h:s.i<l.length=>QqI l s.i h
 have hgp:0<(s.i:Int)->(s.i:Int)<l.length->(fz Qu l)[s.i-1]?=some [.lit (.int .i64 (l.getD (s.i-1) Tx0).id),.lit (.int .i64 (l.getD (s.i-1) Tx0).st),.lit (.int .i64 (l.getD (s.i-1) Tx0).n),.lit (.int .i64 (l.getD (s.i-1) Tx0).b),.sl (fz Qx (l.getD (s.i-1) Tx0).l),.sl (fz Qx (l.getD (s.i-1) Tx0).s)]:=fun h h2=>by
  exact QqI l (s.i-1) (by omega)
 have F:=(Ja @hg @hgp)
 refine rn F ?_
 repeat' (first
  | with_reducible exact⟨⟩
  | (refine sG F ?_ ?_<;>intro hZ)
  | (refine sB F ?_ ?_<;>intro hZ)
  | refine vp F (hr s.i (by omega)) ?_
  | (refine Qb (id:=6) [0,1,2,3] [⟨[],[],4,[0,1,2],[5,6,7,8,9,10,11,12,13,14,15,16,17,18,19,20,21,22,23]⟩] (by kernel_rfl) (by kernel_rfl) ?_; refine rn F ?_))
 all_goals first
  | (rw[QaF,Qai (i:=s.i) (by omega) (Jq.2 fun h=>by rw[Qd4] at h; omega),JD])
  | (rw[QaF,Qai (i:=s.i) (by omega) (Jq.2 fun h=>by rw[Qd4] at h; first | exact absurd h.1 (by assumption) | (have h1:=h.1; simp_all)),JD])
  | (rw[QaF,s.all (by omega),decide_eq_true (by omega)]; rfl)
  | (exact⟨s.next (by omega) ((Qd4 _ _).2 ⟨by assumption,by omega⟩),by show l.length-(s.i+1)<l.length-s.i; omega,(gc [])⟩)
  | skip
def Qal{α:Type}(l:List α)(p:α->Bool):List α:=l.filter fun x=>!p x
structure DF{α:Type}(l:List α)(p:α->Bool) where
 j:Nat
 hj:j<=l.length
 cur:List α
 hl:cur.length=l.length
 h1:cur.take (Qal (l.take j) p).length=Qal (l.take j) p
 h2:cur.drop j=l.drop j
 h3:(Qal (l.take j) p).length<j
def DF.i{α:Type}{l:List α}{p:α->Bool}(s:DF l p):Nat:=(Qal (l.take s.j) p).length
def Q3(l:List α)(p:α->Bool)(j:Nat)(h:j<l.length):Qal (l.take (j+1)) p=Qal (l.take j) p++(if p l[j]=true then [] else [l[j]]):=by
 rw[Jw h,Qal,Km]
 cases hp:p l[j]<;>simp[Qal,hp]
def Qfo(l:List α)(p:α->Bool)(h:∀ x∈l,¬ p x=true):Qal l p=l:=by
 rw[Qal,Kh]; intro x hx; simpa using h x hx
def DF.start{α:Type}(l:List α)(p:α->Bool)(i:Nat)(h:i<l.length)(hp:p l[i]=true)(no:∀ x∈l.take i,¬ p x=true):DF l p:=
 have e:Qal (l.take (i+1)) p=l.take i:=by rw[Q3 l p i h,if_pos hp,JL,Qfo _ p no]
 have el:(l.take i).length=i:=by rw[Ji]; omega
 ⟨i+1,h,l,rfl,by rw[e,el],rfl,by rw[e,el]; omega⟩
def DF.start_i(l:List α)(p:α->Bool)(i:Nat)(h:i<l.length)(hp:p l[i]=true)(no:∀ x∈l.take i,¬ p x=true):(DF.start l p i h hp no).i=i:=by
 show(Qal (l.take (i+1)) p).length=i
 rw[Q3 l p i h,if_pos hp,JL,Qfo _ p no,Ji]; omega
def DF.get{α:Type}{l:List α}{p:α->Bool}(s:DF l p)(h:s.j<l.length)(d:α):s.cur.getD s.j d=l[s.j]:=by
 have:=congrArg (fun x=>x[0]?) s.h2
 simp only[List.getElem?_drop,Nat.add_zero] at this
 rw[Jk,this,JA h]; rfl
def DF.out{α:Type}{l:List α}{p:α->Bool}(s:DF l p)(h:s.j<l.length)(hp:p l[s.j]=true):DF l p :=
 have e:Qal (l.take (s.j+1)) p=Qal (l.take s.j) p:=by rw[Q3 l p s.j h,if_pos hp,JL]
 ⟨s.j + 1,h,s.cur,s.hl,by rw [e]; exact s.h1,by
  have:=congrArg (KM 1) s.h2
  rwa [J4,J4] at this,by rw[e]; have:=s.h3; omega⟩
def DF.out_i(s:DF l p)(h:s.j<l.length)(hp:p l[s.j]=true):(s.out h hp).i=s.i:=by
 show(Qal (l.take (s.j+1)) p).length=_
 rw[Q3 l p s.j h,if_pos hp,JL]; rfl
def DF.stay{α:Type}{l:List α}{p:α->Bool}(s:DF l p)(h:s.j<l.length)(hp:¬ p l[s.j]=true):DF l p :=
 have e:Qal (l.take (s.j+1)) p=Qal (l.take s.j) p++[l[s.j]]:=by rw[Q3 l p s.j h,if_neg hp]
 have hi:s.i<s.j:=s.h3
 have hil:s.i<s.cur.length:=by rw[s.hl]; have:=s.hj; omega
 ⟨s.j + 1,h,s.cur.set s.i l[s.j],by rw [J2]; exact s.hl,by
  rw[e,Jc,Kc]
  show(s.cur.set s.i l[s.j]).take (s.i+1)=_
  rw[Jw (by rw[J2]; exact hil),List.getElem_set_self,List.take_set_of_le (J1 _)]
  congr 1
  exact s.h1,by
  rw[List.drop_set_of_lt (by omega)]
  have:=congrArg (KM 1) s.h2
  rwa [J4,J4] at this,by
  rw[e,Jc,Kc]
  have:(Qal (l.take s.j) p).length=s.i:=rfl
  omega⟩
def DF.stay_i(s:DF l p)(h:s.j<l.length)(hp:¬ p l[s.j]=true):(s.stay h hp).i=s.i+1:=by
 show(Qal (l.take (s.j+1)) p).length=_
 rw[Q3 l p s.j h,if_neg hp,Jc]; rfl
def Qyy(l:List α)(p:α->Bool):(Qal l p).length<=l.length:=JU _ _
def Quf(l:List Tx):(cells Qu l).length=l.length*6:=Qo Qu l
def Qwh(l:List Tx)(n:Nat)(h:l.length*6<=n):(cells Qu l).take n=cells Qu l:=by rw[Jo]; rw[Quf]; exact h
def Qzw(l m:List Tx):cells Qu l++cells Qu m=cells Qu (l++m):=(QD Qu l m).symm
def Qw8(l:List Tx)(T:TypeId)(a b:Nat)(h:a<=b/\b<=l.length):Qri (some (none,T,6)) (fz Qu l) a b=some (.pv (.sl (fz Qu ((l.take b).drop a)))):=Qjg Qu l T a b h
def Qw6(l:List Tx):(fz Qu l=[]\/(fz Qu l)[0]?.map JM=some 6)=True:=QfU Qu l
def QmO{n:Nat}{hp:Qa}{len:Nat}{l:List Tx}(h:l.length=len):Qpi n hp 0 6 len (some (cells Qu l))=some (.sl (fz Qu l)):=Qac Qu h
def QD2(l:List Tx):DV.wk.go (cells Qu l)=cells Qu l:=Qbr Qu l fun a p hp=>by
 simp[Qu] at hp; rcases hp with rfl | rfl | rfl | rfl | rfl | rfl<;>rfl
def Qou(r:List Tx×Int):DV:=.tup [.pv (.sl (fz Qu r.1)),.int .i64 r.2]
def idT(l:List Tx)(a:Int):Int:=Qhr l fun t=>t.id==a
def QmN(l:List Tx)(a:Int):Nat:=lo l fun t=>decide (t.id<a)
def Qpe(l:List Tx)(t:Tx):List Tx:=l.take (QmN l t.id)++t::l.drop (QmN l t.id)
def QN(l:List Tx)(a:Int):List Tx×Int:=
 if QaF l=false then ([],15) else if a<1\/1073741824<a then ([],1) else if 0<=idT l a then ([],25) else if l.length=64 then ([],21) else (Qpe l ⟨a,1,0,0,[],[]⟩,0)
def QdC{l:List Tx}(h:QaF l=true):l.length<=64:=by
 simp[QaF] at h; exact h.1
def QcI(h:QaF l=true):(l.map (·.id)).Pairwise (·<·):=by
 simp only[QaF,Jb,JP,JN] at h
 obtain⟨_,h⟩:=h
 rw[JG]
 have step:∀ i,∀ h2:i+1<l.length,l[i].id<l[i+1].id:=fun i h2=>by
  have:=((Qd4 l (i+1)).1 (h (i+1) h2)).2
  rw[Qc l (i+1) h2,Ko,Qc l i (by omega)] at this
  omega
 have all:∀ d i,∀ h2:i+d+1<l.length,l[i].id<l[i+d+1].id:=fun d=>by
  induction d with
  | zero=>exact step
  | succ d ih=>intro i h2; exact KG (ih i (by omega)) (step (i+d+1) h2)
 intro i j hi hj hij
 rw[JX,JX]
 have:=all (j-i-1) i (by rw[Kb] at hj; omega)
 simpa only[show i+(j-i-1)+1=j by omega] using this
def QjD(h:QaF l=true):smL l:=by
 simp only[QaF,Jb,JP,JN,decide_eq_true_eq] at h
 refine⟨by omega,fun t ht=>?_⟩
 obtain⟨i,hi,rfl⟩:=Ki ht
 have:=((Qd4 l i).1 (h.2 i hi)).1
 rw[Qc l i hi] at this
 simp only[Tx.okB,Tx.hdB,Jb,decide_eq_true_eq] at this
 unfold Tx.sm; omega
def QhR(l:List Tx)(a:Int):List Tx:=Qal l fun t=>t.id==a
def Qdj(t:Tx)(a:Int):Bool:=decide (0<t.l.length)&&decide (a<t.l.getD (t.l.length-1) 0)
def QG6(l:List Int)(h:0<l.length):(fz Qx l)[((l.length:Int)-1).toNat]?=some [.lit (.int .i64 (l.getD (l.length-1) 0))]:=by
 rw[show((l.length:Int)-1).toNat=l.length-1 by omega]; exact QV l (l.length-1) (by omega)
def Qy(l:List Tx)(a:Int):idT l a=-1\/∃ i,∃ h:i<l.length,idT l a=i/\l[i].id=a:=by
 unfold idT Qhr
 split
 ·rename_i h
  obtain⟨x,hm,hp⟩:=JJ.1 h
  have hlt:=JH (p:=fun t:Tx=>t.id==a) ⟨x,hm,hp⟩
  have:=JY (w:=hlt)
  exact .inr ⟨_,hlt,rfl,by simpa using this⟩
 ·exact .inl rfl
def Qn(l:List Tx)(a:Int):Tx×Int:=
 if QaF l=false then (Tx0,15) else if idT l a<0 then (Tx0,16) else if (l.getD (idT l a).toNat Tx0).st≠1 then (Tx0,15) else (l.getD (idT l a).toNat Tx0,0)
def Qa1{l:List Tx}{a:Int}(h:(Qn l a).2=0):QaF l=true/\∃ i,∃ hi:i<l.length,idT l a=i/\l[i].id=a/\(Qn l a).1=l[i]:=by
 unfold Qn at h |-
 split at h
 ·simp at h
 rename_i h1
 split at h
 ·simp at h
 rename_i h2
 split at h
 ·simp at h
 rename_i h3
 refine⟨by simpa using h1,?_⟩
 rcases Qy l a with h4 | ⟨i,hi,h4,h5⟩
 ·omega
 ·rw [if_neg h1,if_neg h2,if_neg h3]
  exact⟨i,hi,h4,h5,by rw[h4,Jy,Qc l i hi]⟩
def QD1(r:Tx×Int):DV:=.tup [.agg r.1.d,.int .i64 r.2]
def Qgg(l:List Int)(x:Int):cells Qx l++[.pv (.lit (.int .i64 x))]=cells Qx (l++[x]):=by rw[QD]; rfl
def Qwe(l:List Int):(cells Qx l).length=l.length*1:=Qo Qx l
def Qwi(l:List Int)(n:Nat)(h:l.length*1<=n):(cells Qx l).take n=cells Qx l:=by rw[Jo]; rw[Qwe]; exact h
def Qwd(l:List Int)(T:TypeId)(a b:Nat)(h:a<=b/\b<=l.length):Qri (some (none,T,1)) (fz Qx l) a b=some (.pv (.sl (fz Qx ((l.take b).drop a)))):=Qjg Qx l T a b h
def Qwc(l:List Int):(fz Qx l=[]\/(fz Qx l)[0]?.map JM=some 1)=True:=QfU Qx l
def QaE(h:QaF l=true)(hi:i<l.length):l[i].okB=true:=by
 simp only[QaF,Jb,JP,JN,decide_eq_true_eq] at h
 have:=((Qd4 l i).1 (h.2 i hi)).1
 rwa [Qc l i hi] at this
def Qfk(l:List Tx)(a:Int):List Tx×Int:=
 if (Qn l a).2≠0 then ([],(Qn l a).2) else if (Qn l a).1.s.length=8 then ([],21) else (l.set (idT l a).toNat { (Qn l a).1 with s:=(Qn l a).1.s++[(Qn l a).1.n] },0)
def QfF(l:List Tx)(a sv:Int):List Tx×Int:=
 if (Qn l a).2≠0 then ([],(Qn l a).2)
 else if sv<0\/((Qn l a).1.s.length:Int)<=sv then ([],19)
 else if Qdj (Qn l a).1 ((Qn l a).1.s.getD sv.toNat 0)=true then (l.set (idT l a).toNat { (Qn l a).1 with s:=(Qn l a).1.s.take (sv.toNat+1),st:=2,b:=(Qn l a).1.s.getD sv.toNat 0 },0)
 else (l.set (idT l a).toNat { (Qn l a).1 with s:=(Qn l a).1.s.take (sv.toNat+1) },0)
def QCk(a:α)(r:List α)(f:α->Bool):lo (a::r) f=if f a=true then lo r f+1 else 0:=by
 unfold lo; rw[J0]; split<;>simp[*]
def Qlh:∀ (l:List Int) (_:l.Pairwise (· < ·)) (y:Int),((l[lo l (fun x=>decide (x < y))]?.map fun x=>x == y).getD false = decide (y ∈ l))/\(y ∈ l->lo l (fun x=>decide (x < y)) < l.length/\l.take (lo l (fun x=>decide (x < y))) ++ l.drop (lo l (fun x=>decide (x < y)) + 1) = l.filter fun x=>decide (x ≠ y))
 | [],_,y=>by simp[lo]
 | a :: r,h,y=>by
   rw[List.pairwise_cons] at h
   obtain⟨h1,h2⟩:=Qlh r h.2 y
   rw[QCk]
   by_cases ha:a<y
   ·rw [if_pos (by simpa using ha)]
    constructor
    ·rw [List.getElem?_cons_succ,h1,decide_eq_decide,J7]
     constructor
     ·exact .inr
     ·rintro (rfl | h)
      ·omega
      ·exact h
    ·intro hm
     have hm':y∈r:=by
      rcases J7.1 hm with rfl | h
      ·omega
      ·exact h
     obtain⟨g1,g2⟩:=h2 hm'
     refine⟨by simpa using g1,?_⟩
     rw[List.take_succ_cons,Kj,List.cons_append,g2,Kv,if_pos (decide_eq_true (by omega))]
   ·rw [if_neg (by simpa using ha)]
    have hr:∀ x∈r,y<x\/a=y/\y<x:=fun x hx=>by have:=h.1 x hx; omega
    have hn:y ∉ r:=fun hy=>by have:=hr y hy; omega
    constructor
    ·rw [List.getElem?_cons_zero]
     rw[Ky,Ku]
     have:(y∈a::r)=(y=a):=by rw[J7]; exact propext ⟨fun h=>h.resolve_right hn,.inl⟩
     simp only[this]
     rw[Jp,beq_iff_eq,decide_eq_true_eq]; exact⟨Eq.symm,Eq.symm⟩
    ·intro hm
     have hay:a=y:=by
      rcases J7.1 hm with h | h
      ·exact h.symm
      ·exact absurd h hn
     refine⟨by simp,?_⟩
     rw[List.take_zero,List.nil_append,Kj,List.drop_zero,Kv,if_neg (by rw[decide_eq_true_eq]; exact fun h=>h hay)]
     refine(Kh.2 fun x hx=>?_).symm
     have:=hr x hx
     exact decide_eq_true (by omega)
def QmD{lo hi:Int}(h:Qgy l lo hi 1=true):l.Pairwise (·<·):=by
 simp only[Qgy,JP,JN] at h
 rw[JG]
 have step:∀ i,∀ h2:i+1<l.length,l[i]<l[i+1]:=fun i h2=>by
  have:=(Qbu _ _ _ _ _).1 (h (i+1) h2)
  rw[Qc l (i+1) h2,Ko,Qc l i (by omega)] at this
  omega
 have all:∀ d i,∀ h2:i+d+1<l.length,l[i]<l[i+d+1]:=fun d=>by
  induction d with
  | zero=>exact step
  | succ d ih=>intro i h2; exact KG (ih i (by omega)) (step (i+d+1) h2)
 intro i j hi hj hij
 have:=all (j-i-1) i (by omega)
 simpa only[show i+(j-i-1)+1=j by omega] using this
def Qni(h:l.Pairwise (·<·))(y:Int):QF7 l (fun x=>decide (x<y)):=fun i j hi hj hij hx=>by
 have:=JG.mp h i j hi hj hij
 rw[decide_eq_true_eq] at hx |-
 omega
def QnF{t:Tx}(h:t.okB=true):t.l.Pairwise (·<·):=by
 simp only[Tx.okB,Jb] at h
 exact QmD h.1.2
def Qdf{t:Tx}(h:t.okB=true):t.l.length<=4096/\t.s.length<=8:=by
 simp only[Tx.okB,Tx.hdB,Jb,decide_eq_true_eq] at h
 omega
def QF(t:Tx):Tx:=if t.st=2/\Qdj t t.b=false then { t with st:=1,b:=0 } else t
def QaU(t:Tx)(e:E):Tx:=
 if e.kind=1 then { t with n:=e.lsn,l:=t.l++[e.lsn] }
 else if e.kind=2 then { t with n:=e.lsn,l:=t.l.filter fun x=>decide (x≠e.ref) }
 else { t with n:=e.lsn,st:=3,b:=0,s:=[] }
def Qhl(l:List Tx)(i:Nat)(t:Tx)(e:E):List Tx×Int:=
 if e.ptx≠t.n\/(e.kind=2/\e.ref ∉ t.l) then ([],13)
 else if e.kind=3\/e.kind=5 then (QhR l e.tx,0)
 else (l.set i (QF (QaU t e)),0)
def QJ(l:List Tx)(e:E):List Tx×Int:=
 if QaF l=false then ([],15) else if e.okB=false then ([],12) else if e.tx=0 then (l,0) else if idT l e.tx<0 then ([],16)
 else Qhl l (idT l e.tx).toNat (l.getD (idT l e.tx).toNat Tx0) e
def QdN{e:E}(h:e.okB=true)(ht:e.tx≠0):e.kind=1\/e.kind=2\/e.kind=3\/e.kind=4\/e.kind=5:=by
 obtain⟨lsn,kind,tx,ptx,ppg,ref,c,blob⟩:=e
 simp only[E.okB,Jb] at h
 have h:=h.2
 rw[Qo9] at h
 dsimp only at ht |-
 rcases Qfn kind with hk | rfl | rfl | rfl | rfl | rfl | rfl | rfl | rfl
 ·rw[if_neg (by omega),if_neg (by omega),if_neg (by omega),if_neg (by omega),if_neg (by omega)] at h; cases h
 all_goals first | omega | (simp at h; omega)
def Qka{l:List Tx}{e:E}(h1:QaF l=true)(h2:e.okB=true)(h3:e.tx≠0){i:Nat}(hi:i<l.length)(h4:idT l e.tx=i):QJ l e=Qhl l i l[i] e:=by
 unfold QJ
 rw[if_neg (by rw[h1]; decide),if_neg (by rw[h2]; decide),if_neg h3,h4,if_neg (by omega),Jy,Qc l i hi]
def w0:List Tx:=[⟨1,1,0,0,[],[]⟩]
def w1:List Tx:=[⟨1,1,1,0,[1],[]⟩]
def w2:List Tx:=[⟨1,1,1,0,[1],[1]⟩]
def w3:List Tx:=[⟨1,1,2,0,[1,2],[1]⟩]
def w4:List Tx:=[⟨1,1,3,0,[1,2,3],[1]⟩]
def w5:List Tx:=[⟨1,2,3,1,[1,2,3],[1]⟩]
def Qli(t:Tx)(h:t.l.length<=9223372036854775807/\t.s.length<=9223372036854775807):smL [t]:=⟨by simp,fun x hx=>by simp at hx; subst hx; exact h⟩
end
section
attribute [local go_sem] Tx.d Quf Qwh Qzw Qw8 Qw6 QmO Qwe Qwi Qwd Qwc Qhn Jc Ji Ju Jz Qbk QaV
def Qgl(l:List Tx)(hl:l.length<=1000000)(a:Int):VCalls prog 168 [.pv (.sl (fz Qu l)),.int .i64 a] [] (Ret (.int .i64 (idT l a))):=by
 refine dd Tryz.func168 ?_
 (unfold Tryz.f168; refine rn trivial ?_)
 refine Qj (fun i:Pass l (fun x=>(x.id==a)=true)=>⟨20,0,[(5,.int .i64 i.i),(0,.pv (.sl (fz Qu l))),(1,.int .i64 a)],[]⟩) (fun i=>l.length-i.i) (Pass.start l _) (gc []) ?_
 intro i
 have hi:=i.hi
 have hg:=fun h:i.i<l.length=>QqI l i.i h
 have F:=@hg
 refine rn F ?_
 repeat' (first
  | with_reducible exact⟨⟩
  | (refine sB F ?_ ?_<;>intro hZ))
 ·have:=QnP l (fun x=>x.id == a) i.i (by omega) (by rw [<- Qc l i.i (by omega) Tx0]; simpa using (by assumption:(l.getD i.i Tx0).id = a)) i.no
  rw[idT,this]
 ·exact⟨i.next (by omega) (by rw[<- Qc l i.i (by omega) Tx0]; simpa using(by assumption:¬ (l.getD i.i Tx0).id=a)),by show l.length-(i.i+1)<l.length-i.i; omega,(gc [])⟩
 ·have:=i.all (by omega)
  rw[idT,Qhr,if_neg (by simpa using this)]
def Qcc(l:List Tx)(hl:l.length<=1000000)(a:Int):VCalls prog 189 [.pv (.sl (fz Qu l)),.int .i64 a] [] (Ret (.int .i64 (idT l a))):=by
 refine dd Tryz.func189 ?_
 have h:=Qgl l hl a
 (unfold Tryz.f189; refine rn trivial ?_)
 refine rn F ?_
 repeat' (first
  | with_reducible exact⟨⟩
  | refine vp F (h) ?_)
def QsZ(l:List Tx)(hl:l.length<=1000000)(i:Nat)(hi:i<l.length)(t:Tx):VCalls prog 234 [.pv (.sl (fz Qu l)),.int .i64 i,.agg t.d] [] (Ret (.pv (.sl (fz Qu (l.set i t))))):=by
 refine dd Tryz.func234 ?_
 have hb:i*6+6<=l.length*6:=by omega
 have hse:(cells Qu l).take (i*6)++[.pv (.lit (.int .i64 t.id)),.pv (.lit (.int .i64 t.st)),.pv (.lit (.int .i64 t.n)),.pv (.lit (.int .i64 t.b)),.pv (.sl (fz Qx t.l)),.pv (.sl (fz Qx t.s))]++(cells Qu l).drop (i*6+6)=cells Qu (l.set i t):=QiF Qu l i t hi
 have hle:(l.set i t).length=l.length:=J2
 (unfold Tryz.f234; refine rn trivial ?_)
 have F:=(Ja @hb (Ja @hse @hle))
 (refine rn F ?_; try with_reducible exact⟨⟩)
def QeC(t:Tx)(hs:t.sm):VCalls prog 235 [.agg t.d] [] (Ret (.agg (QF t).d)):=by
 refine dd Tryz.func235 ?_
 have hg:=fun h:0<t.l.length=>QG6 t.l h
 simp only[QaV] at hg
 obtain⟨id,st,n,b,l,s⟩:=t
 obtain⟨h1,h2⟩:=hs
 dsimp only at h1 h2 hg
 have eS:QF ⟨id,st,n,b,l,s⟩=if st=2/\Qdj ⟨id,st,n,b,l,s⟩ b=false then ⟨id,1,n,0,l,s⟩ else ⟨id,st,n,b,l,s⟩:=rfl
 have eL:Qdj ⟨id,st,n,b,l,s⟩ b=(decide (0<l.length)&&decide (b<l.getD (l.length-1) 0)):=rfl
 generalize QF ⟨id,st,n,b,l,s⟩=u at *
 generalize Qdj ⟨id,st,n,b,l,s⟩ b=B at *
 (unfold Tryz.f235; refine rn trivial ?_)
 have F:=@hg
 refine rn F ?_
 repeat' (first
  | with_reducible exact⟨⟩
  | (refine sG F ?_ ?_<;>intro hZ)
  | (refine sB F ?_ ?_<;>intro hZ)
  | (refine Qb (id:=1) [0,1,2,3,4,5,6,7,8,9,10,11,12,13,14,15,16,17,18,19,20,21] [] (by kernel_rfl) (by kernel_rfl) ?_; refine rn F ?_))
 all_goals first
  | (rw[eS,if_pos ⟨by assumption,by rw[eL,decide_eq_false (show ¬ b<l.getD (l.length-1) 0 by omega),JD]⟩])
  | (rw[eS,if_pos ⟨by assumption,by rw[eL,decide_eq_false (show ¬ 0<l.length by omega),Kf]⟩])
  | (rw[eS,if_neg (by rintro⟨h,_⟩; omega)])
  | (rw[eS,if_neg (by rintro⟨_,h⟩; rw[eL,decide_eq_true (show b<l.getD (l.length-1) 0 by omega),decide_eq_true (show 0<l.length by omega)] at h; cases h)])
def Qgf(l:List Tx)(t:Tx):cells Qu l++[.pv (.lit (.int .i64 t.id)),.pv (.lit (.int .i64 t.st)),.pv (.lit (.int .i64 t.n)),.pv (.lit (.int .i64 t.b)),.pv (.sl (fz Qx t.l)),.pv (.sl (fz Qx t.s))]=cells Qu (l++[t]):=by rw[QD]; rfl
def Qtp(l:List Tx)(a:Int):(QhR l a).length<=l.length:=Qyy _ _
def Qto(l:List Tx)(a:Int)(i:Nat)(h:i<l.length):QhR (l.take (i+1)) a=if (l.getD i Tx0).id=a then QhR (l.take i) a else QhR (l.take i) a++[l.getD i Tx0]:=by
 rw[Qc l i h]
 unfold QhR
 rw[Q3 l _ i h]
 by_cases hx:l[i].id=a<;>simp[hx]
def QgY(l:List Tx)(hl:l.length<=1000000)(a:Int):VCalls prog 233 [.pv (.sl (fz Qu l)),.int .i64 a] [] (Ret (.pv (.sl (fz Qu (QhR l a))))):=by
 refine dd Tryz.func233 ?_
 (unfold Tryz.f233; refine rn trivial ?_)
 refine VLoop.nilOwn 5 71 6 rfl ?_
 refine Qj (fun s:To l.length=>⟨28,0,[(6,.int .i64 s.i),(5,.own 0 6 0 (QhR (l.take s.i) a).length),(0,.pv (.sl (fz Qu l))),(1,.int .i64 a)],[⟨71,true,cells Qu (QhR (l.take s.i) a)⟩]⟩) (fun s=>l.length-s.i) ⟨0,JE _⟩ (gc [0]) ?_
 intro s
 have hi:=s.hi
 have hg:=fun h:s.i<l.length=>QqI l s.i h
 have hle:=Qtp (l.take s.i) a
 rw[Ji] at hle
 have hb:((QhR (l.take s.i) a).length+1)*80<=140737488355328:=by omega
 have hs:=Qto l a s.i
 have F:=(Ja @hg (Ja @hb @Qgf))
 refine rn F ?_
 repeat' (first
  | with_reducible exact⟨⟩
  | (refine sB F ?_ ?_<;>intro hZ))
 ·replace hs:=hs (by omega)
  rw[if_neg (by assumption)] at hs
  refine⟨⟨s.i+1,by omega⟩,by show l.length-(s.i+1)<l.length-s.i; omega,?_⟩
  rw[hs,Jc]
  exact(gc [2])
 ·replace hs:=hs (by omega)
  rw[if_pos (by assumption)] at hs
  refine⟨⟨s.i+1,by omega⟩,by show l.length-(s.i+1)<l.length-s.i; omega,?_⟩
  rw[hs]
  exact(gc [0])
 ·rw[Jo (by omega)]
def QjU(l:List Tx)(a:Int):Int×Int:=
 if QaF l=false then (0,15) else if idT l a<0 then (0,16) else if (l.getD (idT l a).toNat Tx0).st≠1 then (0,15) else (idT l a,0)
def QlC(l:List Tx)(a:Int):(QjU l a).2=(Qn l a).2:=by
 unfold QjU Qn
 split
 ·rfl
 ·split
  ·rfl
  ·split<;>rfl
def QlD(h:(Qn l a).2=0):(QjU l a).1=idT l a:=by
 unfold QjU
 unfold Qn at h
 split at h
 ·simp at h
 ·rename_i h1
  split at h
  ·simp at h
  ·rename_i h2
   split at h
   ·simp at h
   ·rename_i h3
    rw[if_neg h1,if_neg h2,if_neg h3]
def QlB(l:List Tx)(hs:smL l)(a:Int):VCalls prog 262 [.pv (.sl (fz Qu l)),.int .i64 a] [] (Ret (.tup [.int .i64 (QjU l a).1,.int .i64 (QjU l a).2])):=by
 refine dd Tryz.func262 ?_
 have c1:=QbR l hs
 have c2:=Qgl l hs.1 a
 unfold QjU
 rcases Qy l a with h | ⟨i,hi,h,hid⟩
 ·rw [h] at c2 |-
  (unfold Tryz.f262; refine rn trivial ?_)
  refine rn F ?_
  repeat' (first
   | with_reducible exact⟨⟩
   | (refine sB F ?_ ?_<;>intro hZ)
   | refine vp F (c1) ?_
   | refine vp F (c2) ?_)
  all_goals rfl
 ·rw [h] at c2 |-
  have hg:=QqI l i hi
  rw[Jy,if_neg (show ¬ (i:Int)<0 by omega)]
  (unfold Tryz.f262; refine rn trivial ?_)
  have F:=@hg
  refine rn F ?_
  repeat' (first
   | with_reducible exact⟨⟩
   | (refine sB F ?_ ?_<;>intro hZ)
   | refine vp F (c1) ?_
   | refine vp F (c2) ?_)
  all_goals first | rfl | (rw[if_pos (by assumption)]) | (rw[if_neg (by omega)])
def QBw(l:List Tx)(hs:smL l)(a:Int):VCalls prog 218 [.pv (.sl (fz Qu l)),.int .i64 a] [] (Ret (Qou (Qfk l a))):=by
 refine VCalls.unwk ?_
 refine dd Tryz.func218 ?_
 have c1:=QlB l hs a
 have hok:=@Qa1 l a
 rw[QlC] at c1
 unfold Qfk
 by_cases hz:(Qn l a).2=0
 ·obtain ⟨hv,i,hi,h1,h2,h3⟩:=hok hz
  rw[QlD hz,h1,hz] at c1
  have hts:=Qdf (QaE hv hi)
  have hg:=Qd7 l i hi
  have hw:=QsZ l hs.1 i hi ⟨l[i].id,l[i].st,l[i].n,l[i].b,l[i].l,l[i].s++[l[i].n]⟩
  rw[if_neg (by rw[hz]; simp),h3,h1,Jy]
  generalize l[i]=t at *
  obtain⟨id,st,n,b,q,s⟩:=t
  dsimp only at hts hg hw
  (unfold Tryz.f218; refine rn trivial ?_)
  have F:=(Ja @hg @Qgg)
  refine rn F ?_
  repeat' (first
   | with_reducible exact⟨⟩
   | (refine sB F ?_ ?_<;>intro hZ)
   | refine vp F (c1) ?_
   | (refine Qa6 [3] _ _ (hw) rfl ⟨⟨by simp,Qg _ _ _⟩,trivial⟩ (by decide) rfl (by simp[DV.nums.go,DV.nums]) ?_ ?_; (focus (refine rd F)); refine rn F ?_)
   | (refine Qb (id:=7) [0,1,3,4] [⟨[5],[],2,[0,3,4],[]⟩,⟨[5],[5],6,[0,1,3,4],[7]⟩,⟨[],[],8,[],[]⟩] (by kernel_rfl) (by kernel_rfl) ?_; refine rn F ?_))
  all_goals first | rfl | (rw[if_pos (by omega)]; rfl) | (rw[if_neg (by omega)]; rfl) | skip
 ·generalize Qn l a = r at *
  generalize (QjU l a).1=j at *
  rw[if_pos hz]
  (unfold Tryz.f218; refine rn trivial ?_)
  have F:=trivial
  refine rn F ?_
  repeat' (first
   | with_reducible exact⟨⟩
   | refine vp F (c1) ?_)
  all_goals first | rfl | contradiction | skip
def Qjd{l:List Tx}{a:Int}(h:(Qn l a).2=0):(Qn l a).1.st=1/\(Qn l a).1.b=0:=by
 obtain⟨hv,i,hi,h1,h2,h3⟩:=Qa1 h
 have hst:(Qn l a).1.st=1:=by
  unfold Qn at h |-
  split at h
  ·simp at h
  ·rename_i q1
   split at h
   ·simp at h
   ·rename_i q2
    split at h
    ·simp at h
    ·rename_i q3
     rw[if_neg q1,if_neg q2,if_neg q3]
     simpa using q3
 refine⟨hst,?_⟩
 have ho:=QaE hv hi
 rw[h3] at hst |-
 simp only[Tx.okB,Tx.hdB,Jb,Jf,decide_eq_true_eq] at ho
 omega
def QBT(l:List Tx)(hs:smL l)(a sv:Int):VCalls prog 219 [.pv (.sl (fz Qu l)),.int .i64 a,.int .i64 sv] [] (Ret (Qou (QfF l a sv))):=by
 refine VCalls.unwk ?_
 refine dd Tryz.func219 ?_
 have c1:=QlB l hs a
 have hok:=@Qa1 l a
 have hab:=@Qjd l a
 rw[QlC] at c1
 unfold QfF
 by_cases hz:(Qn l a).2=0
 ·obtain ⟨hv,i,hi,h1,h2,h3⟩:=hok hz
  obtain⟨hst,hb0⟩:=hab hz
  rw[QlD hz,h1,hz] at c1
  have hts:=Qdf (QaE hv hi)
  have hg:=Qd7 l i hi
  rw[if_neg (by rw[hz]; simp),h3,h1,Jy]
  rw[h3] at hst hb0
  have hw:=QsZ l hs.1 i hi
  by_cases hr:sv<0\/((l[i].s.length:Int)<=sv)
  ·generalize l[i] = t at *
   obtain⟨id,st,n,b,q,s⟩:=t
   dsimp only at hr hg |-
   rw[if_pos hr]
   (unfold Tryz.f219; refine rn trivial ?_)
   have F:=@hg
   refine rn F ?_
   repeat' (first
    | with_reducible exact⟨⟩
    | (refine sG F ?_ ?_<;>intro hZ)
    | refine vp F (c1) ?_)
   all_goals first | rfl | (exfalso; omega)
  obtain⟨k,rfl⟩:∃ k:Nat,sv=k:=⟨sv.toNat,by omega⟩
  have hk:k<l[i].s.length:=by omega
  rw[if_neg (by omega),Jy]
  have hw2:=hw (QF ⟨l[i].id,2,l[i].n,l[i].s.getD k 0,l[i].l,l[i].s.take (k+1)⟩)
  generalize l[i]=t at *
  obtain⟨id,st,n,b,q,s⟩:=t
  dsimp only at hts hg hk hst hb0 hw2 |-
  subst hst hb0
  have hse:=QeC ⟨id,2,n,s.getD k 0,q,s.take (k+1)⟩ ⟨by show q.length<=_; omega,by show(s.take (k+1)).length<=_; rw[Ji]; omega⟩
  have eS:QF ⟨id,2,n,s.getD k 0,q,s.take (k+1)⟩=if Qdj ⟨id,1,n,0,q,s⟩ (s.getD k 0)=true then ⟨id,2,n,s.getD k 0,q,s.take (k+1)⟩ else ⟨id,1,n,0,q,s.take (k+1)⟩:=by
   unfold QF
   have e:Qdj ⟨id,2,n,s.getD k 0,q,s.take (k+1)⟩ (s.getD k 0)=Qdj ⟨id,1,n,0,q,s⟩ (s.getD k 0):=rfl
   cases hB:Qdj ⟨id,1,n,0,q,s⟩ (s.getD k 0)
   ·rw[if_pos ⟨rfl,by rw[<- hB]; exact e⟩]; rfl
   ·rw[if_neg (by rintro⟨_,h⟩; rw[show Qdj ⟨id,2,n,s.getD k 0,q,s.take (k+1)⟩ (s.getD k 0)=true from e.trans hB] at h; cases h)]; rfl
  have hgc:((cells Qx (s.take (k+1))).drop k).take 1=[.int .i64 (s.getD k 0)]:=by
   have hgc:(cells Qx (s.take (k+1)))[k]?=some (.int .i64 (s.getD k 0)):=by
    rw[QdX _ _ (by rw[Ji]; omega)]
    simp[Jk,JR]
   obtain⟨h,e⟩:=J5.1 hgc
   rw[J6 h,e]; rfl
  have hgd:(cells Qx (s.take (k+1)))[k]?=some (.int .i64 (s.getD k 0)):=by
   rw[QdX _ _ (by rw[Ji]; omega)]
   simp[Jk,JR]
  have hl1:(s.take (k+1)).length=k+1:=by rw[Ji]; omega
  have ek:((k:Int)+1).toNat=k+1:=by omega
  have fin:(if Qdj ⟨id,1,n,0,q,s⟩ (s.getD k 0)=true then (l.set i ⟨id,2,n,s.getD k 0,q,s.take (k+1)⟩,(0:Int)) else (l.set i ⟨id,1,n,0,q,s.take (k+1)⟩,0))=(l.set i (QF ⟨id,2,n,s.getD k 0,q,s.take (k+1)⟩),0):=by
   rw[eS]; split<;>rfl
  rw[fin]
  clear fin eS
  generalize hT:QF ⟨id,2,n,s.getD k 0,q,s.take (k+1)⟩=T at *
  (unfold Tryz.f219; refine rn trivial ?_)
  have F:=(Ja @hg (Ja @hl1 (Ja @ek (Ja @hgc @hgd))))
  refine rn F ?_
  repeat' (first
   | with_reducible exact⟨⟩
   | refine vp F (c1) ?_
   | (refine Qa6 [1] _ _ (hse) rfl ⟨⟨by simp,Qg _ _ _⟩,trivial⟩ (by decide) rfl (by simp[DV.nums.go,DV.nums]) ?_ ?_; (focus (refine rd F)); refine rn F ?_)
   | refine vp F (hw2) ?_
   | (refine Qb (id:=8) [0,1,2,3,4,5] [⟨[],[],6,[2,3,4],[7]⟩,⟨[],[],8,[],[]⟩] (by kernel_rfl) (by kernel_rfl) ?_; refine rn F ?_))
  all_goals first | rfl | skip
 ·generalize Qn l a = r at *
  generalize (QjU l a).1=j at *
  rw[if_pos hz]
  (unfold Tryz.f219; refine rn trivial ?_)
  have F:=trivial
  refine rn F ?_
  repeat' (first
   | with_reducible exact⟨⟩
   | refine vp F (c1) ?_)
  all_goals first | rfl | contradiction | skip
end
section
attribute [local go_sem] Tx.d Quf Qwh Qzw Qw8 Qw6 QmO Qwe Qwi Qwd Qwc Qhn Jc Ji Ju Jz Qbk QaV Qim Qdm Qcz Qa8 Qay Qop Qk9 QeR Qdl Qc1 Qcm QD2
structure Fr(l:List Tx)(a:Int) where
 j:Nat
 hj:j<=l.length
 lt:∀ k,∀ h:k<l.length,k<j->l[k].id<a
def Fr.fin{l:List Tx}{a:Int}(s:Fr l a)(h:∀ h:s.j<l.length,¬ l[s.j].id<a):QmN l a=s.j:=
 QE4 l _ s.j s.hj (fun k hk hkj=>decide_eq_true (s.lt k hk hkj)) (fun hj=>decide_eq_false (h hj))
def QwW{l:List Tx}(h:j<=l.length):(l.take j).length=j:=by rw[Ji]; omega
def Qnd(l:List Tx)(j:Nat)(h:j<l.length):cells Qu (l.take j)++[.pv (.lit (.int .i64 (l.getD j Tx0).id)),.pv (.lit (.int .i64 (l.getD j Tx0).st)),.pv (.lit (.int .i64 (l.getD j Tx0).n)),.pv (.lit (.int .i64 (l.getD j Tx0).b)),.pv (.sl (fz Qx (l.getD j Tx0).l)),.pv (.sl (fz Qx (l.getD j Tx0).s))]=cells Qu (l.take (j+1)):=by
 rw[Qgf,Jw h,Qc l j h]
def QoQ (l:List Tx) (hs:smL l) (a:Int):VCalls prog 137 [.pv (.sl (fz Qu l)),.int .i64 a] [] (Ret (Qou (QN l a))):=by
 refine VCalls.unwk ?_
 have hl:=hs.1
 have c1:=QbR l hs
 have c2:=Qgl l hl a
 have eS:QN l a=if QaF l=false then ([],15) else if a<1\/1073741824<a then ([],1) else if 0<=idT l a then ([],25) else if l.length=64 then ([],21) else (l.take (QmN l a)++⟨a,1,0,0,[],[]⟩::l.drop (QmN l a),0):=rfl
 have hfin:=@Fr.fin l a
 have hp:QmN l a<=l.length:=QE3 _ _
 have hsm:=@QdC l
 generalize idT l a=d at *
 generalize QN l a=res at *
 generalize QaF l=T at *
 refine Qc8 (fn:=Tryz.f137) (c:=Qim Tryz.f137) Tryz.func137 rfl (by kernel_rfl) (by simp[Tryz.f137]) ?_
 refine QGH 5 ?_
 generalize hrest:QjR 5 (Qim Tryz.f137)=rest
 (unfold Tryz.f137; refine rn trivial ?_)
 have F:=trivial
 refine rn F ?_
 repeat' (first
  | (refine sG F ?_ ?_<;>intro hZ<;>try with_reducible exact⟨⟩)
  | (refine sB F ?_ ?_<;>intro hZ<;>try with_reducible exact⟨⟩)
  | (refine sD F ?_ ?_<;>intro hZ<;>try with_reducible exact⟨⟩)
  | (refine vp F (c1) ?_; try with_reducible exact⟨⟩)
  | (refine vd F (c1) ?_; try with_reducible exact⟨⟩)
  | (refine vl F (c1) ?_; try with_reducible exact⟨⟩)
  | (refine vp F (c2) ?_; try with_reducible exact⟨⟩)
  | (refine vd F (c2) ?_; try with_reducible exact⟨⟩)
  | (refine vl F (c2) ?_; try with_reducible exact⟨⟩)
  | (refine Qb (id:=14) [0,1,2,5,6,7,8] [⟨[3],[3],4,[1,2,5,6,7,8],[]⟩,⟨[],[],9,[0,1,2,5,6,7],[]⟩,⟨[],[],10,[],[]⟩,⟨[],[],11,[],[]⟩] (by kernel_rfl) (by kernel_rfl) ?_; refine rn F ?_; try with_reducible exact⟨⟩)
  | (refine Qby (by kernel_rfl) (by kernel_rfl) ?_; refine rn F ?_; try with_reducible exact⟨⟩))
 all_goals first
  | (rw [eS]; repeat (first | rw [if_pos (by first | assumption | omega)] | rw [if_neg (by first | assumption | omega | (rw [show T = true by assumption]; decide))])
     rfl)
  | skip
 rw[eS]
 repeat (first | rw[if_pos (by first | assumption | omega)] | rw[if_neg (by first | assumption | omega | (rw[show T=true by assumption]; decide))])
 have hsm:=hsm (by assumption)
 refine VLoop.nilOwn 6 71 6 rfl ?_
 refine Qj (fun s:Fr l a=>⟨60,0,[(7,.int .i64 s.j),(6,.own 0 6 0 s.j),(0,.pv (.sl (fz Qu l))),(1,.int .i64 a)],[⟨71,true,cells Qu (l.take s.j)⟩]⟩) (fun s=>l.length-s.j) ⟨0,JE _,fun k _ h=>by omega⟩ (gc [0]) ?_
 intro s
 have hj:=s.hj
 have hlt:=s.lt
 have hf:=hfin s
 have htl:=QwW s.hj
 have hg:=fun h:s.j<l.length=>QqI l s.j h
 have hts:=fun h:s.j<l.length=>Qnd l s.j h
 have hcl:(cells Qu (l.take s.j)).length=s.j*6:=by rw[Quf,htl]
 have hta:(cells Qu (l.take s.j)).take (s.j*6)=cells Qu (l.take s.j):=Qwh _ _ (by rw[htl]; exact J1 _)
 have hb:(s.j+1)*80<=140737488355328:=by omega
 have htx:(cells Qu (l.take s.j)++([.pv (.lit (.int .i64 a)),.pv (.lit (.int .i64 1)),.pv (.lit (.int .i64 0)),.pv (.lit (.int .i64 0)),.pv (.slc []),.pv (.slc [])]:List DV)).take ((s.j+1)*6)=cells Qu (l.take s.j)++[.pv (.lit (.int .i64 a)),.pv (.lit (.int .i64 1)),.pv (.lit (.int .i64 0)),.pv (.lit (.int .i64 0)),.pv (.slc []),.pv (.slc [])]:=by
  rw[Jo]; rw[Jc,hcl]; simp; omega
 have hb2:(s.j+1+(l.length-s.j))*80<=140737488355328:=by omega
 have hb3:(s.j+1)*6<=s.j*6+6:=by omega
 have hw:DV.wk.go (cells Qu (l.take s.j)++[.pv (.lit (.int .i64 a)),.pv (.lit (.int .i64 1)),.pv (.lit (.int .i64 0)),.pv (.lit (.int .i64 0)),.pv (.slc []),.pv (.slc [])]++cells Qu (l.drop s.j))=cells Qu (l.take s.j++⟨a,1,0,0,[],[]⟩::l.drop s.j):=by
  rw[QzG,QzG,QD2,QD2,QD,Kq]
  rfl
 have hfl:(l.take s.j++(⟨a,1,0,0,[],[]⟩:Tx)::l.drop s.j).length=s.j+1+(l.length-s.j):=by
  rw[Jc,Jm,Ju,htl]; omega
 have F:=(Ja @hg (Ja @hts (Ja @hcl (Ja @hta (Ja @hb (Ja @htx (Ja @hb2 @hb3)))))))
 refine rn F ?_
 repeat' (first
  | (refine sG F ?_ ?_<;>intro hZ<;>try with_reducible exact⟨⟩)
  | (refine sB F ?_ ?_<;>intro hZ<;>try with_reducible exact⟨⟩)
  | (refine sD F ?_ ?_<;>intro hZ<;>try with_reducible exact⟨⟩)
  | (refine Qb (id:=14) [0,1,2,5,6,7,8] [⟨[3],[3],4,[1,2,5,6,7,8],[]⟩,⟨[],[],9,[0,1,2,5,6,7],[]⟩,⟨[],[],10,[],[]⟩,⟨[],[],11,[],[]⟩] (by kernel_rfl) (by kernel_rfl) ?_; refine rn F ?_; try with_reducible exact⟨⟩)
  | (refine Qby (by kernel_rfl) (by kernel_rfl) ?_; refine rn F ?_; try with_reducible exact⟨⟩))
 all_goals first
  | (refine ⟨⟨s.j + 1,by omega,fun k h' hkj=>?_⟩,by show l.length - (s.j + 1) < l.length - s.j; omega,(gc [2])⟩
     rcases Kt k s.j with h | h
     ·exact hlt k h' h
     ·obtain rfl:k = s.j:=by omega
      rw[<- Qc l s.j h' Tx0]
      assumption)
  | (rw [hf (fun h=>by first | (rw [<- Qc l s.j h Tx0]; exact Int.not_lt.2 (by assumption)) | (clear F hg hts hf hlt htx hw; omega))]
     refine QAT ?_
     subst hrest
     simp(config:={ maxSteps:=2000000 }) (implicitDefEqProofs:=false) (disch:=first | omega | assumption) only[go_sem,↓reduceIte,JB,Jd,JC,Je,Tryz.f137,hw,QmO hfl]
     rfl)
end
section
attribute [local go_sem] Tx.d Quf Qwh Qzw Qw8 Qw6 QmO Qwe Qwi Qwd Qwc Qhn Jc Ji Ju Jz Qbk QaV
def Qvc(q:List Int)(r:Int)(i:Nat)(h:i<q.length):(q.take (i+1)).filter (fun x=>decide (x≠r))=(q.take i).filter (fun x=>decide (x≠r))++(if q.getD i 0=r then [] else [q.getD i 0]):=by
 rw[Jw h,Km,Qc q i h]
 by_cases hx:q[i]=r<;>simp[hx]
def QC5(q:List Int)(r:Int)(i:Nat):((q.take i).filter fun x=>decide (x≠r)).length<=i:=by
 refine KH (JU _ _) ?_
 rw[Ji]; omega
def QC6(q:List Int)(r:Int):(q.filter fun x=>decide (x≠r)).length=q.length ↔ r ∉ q:=by
 rw[List.length_filter_eq_length_iff]
 constructor
 ·intro h hm; simpa using h r hm
 ·intro h x hx; exact decide_eq_true fun e=>h (e▸hx)
def Qnq(l:List Tx)(hs:smL l)(e:E):VCalls prog 192 [.pv (.sl (fz Qu l)),.agg e.d] [] (Ret (Qou (QJ l e))):=by
 refine VCalls.unwk ?_
 have c1:=QbR l hs
 have c2:=QcJ e
 have c3:=Qgl l hs.1 e.tx
 have c4:=QgY l hs.1 e.tx
 have hw:=fun(i:Nat) (hi:i<l.length) (t:Tx)=>QsZ l hs.1 i hi t
 have hok:=@QdN e
 have hat:=@Qka l e
 have e0:QJ l e=if QaF l=false then ([],15) else if e.okB=false then ([],12) else if e.tx=0 then (l,0) else if idT l e.tx<0 then ([],16)
  else Qhl l (idT l e.tx).toNat (l.getD (idT l e.tx).toNat Tx0) e:=rfl
 by_cases hv:QaF l=true
 rotate_left
 ·have hv':QaF l = false:=by simpa using hv
  rw[e0,if_pos hv']
  rw[hv'] at c1
  refine dd Tryz.func192 ?_
  unfold E.d
  (unfold Tryz.f192; refine rn trivial ?_)
  refine rn F ?_
  repeat' (first
   | with_reducible exact⟨⟩
   | refine vp F (c1) ?_)
  rfl
 by_cases hk:e.okB=true
 rotate_left
 ·have hk':e.okB = false:=by simpa using hk
  rw[e0,if_neg (by rw[hv]; decide),if_pos hk']
  rw[hv] at c1
  rw[hk'] at c2
  unfold E.d at c2 |-
  refine dd Tryz.func192 ?_
  (unfold Tryz.f192; refine rn trivial ?_)
  refine rn F ?_
  repeat' (first
   | with_reducible exact⟨⟩
   | refine vp F (c1) ?_
   | refine vp F (c2) ?_)
  rfl
 by_cases ht:e.tx=0
 ·rw [e0,if_neg (by rw [hv]; decide),if_neg (by rw [hk]; decide),if_pos ht]
  rw[hv] at c1
  rw[hk] at c2
  unfold E.d at c2 |-
  refine dd Tryz.func192 ?_
  (unfold Tryz.f192; refine rn trivial ?_)
  have F:=@ht
  refine rn F ?_
  repeat' (first
   | with_reducible exact⟨⟩
   | refine vp F (c1) ?_
   | refine vl F (c2) ?_)
  rfl
 rw[hv] at c1
 rw[hk] at c2
 rcases Qy l e.tx with h | ⟨i,hi,h,hid⟩
 ·rw [e0,if_neg (by rw [hv]; decide),if_neg (by rw [hk]; decide),if_neg ht,h,if_pos (by decide)]
  rw[h] at c3
  unfold E.d at c2 |-
  refine dd Tryz.func192 ?_
  (unfold Tryz.f192; refine rn trivial ?_)
  have F:=@ht
  refine rn F ?_
  repeat' (first
   | with_reducible exact⟨⟩
   | refine vp F (c1) ?_
   | refine vp F (c2) ?_
   | refine vp F (c3) ?_)
  all_goals first | rfl | contradiction
 rw[hat hv hk ht hi h]
 have hkk:=hok hk ht
 rw[h] at c3
 have hg:=Qd7 l i hi
 have hto:=QaE hv hi
 have hso:=QnF hto
 have hle:=Qdf hto
 clear hat e0 hok
 generalize hT:l[i]=t at *
 obtain⟨id,st,n,b,q,s⟩:=t
 dsimp only at hid hso hle hg
 obtain⟨lsn,kind,tx,ptx,ppg,ref,c,blob⟩:=e
 dsimp only at hid c4 c3 h hkk ht
 unfold E.d at c2 |-
 dsimp only at c2 |-
 unfold Qhl
 dsimp only
 by_cases hp:ptx=n
 rotate_left
 ·rw [if_pos (.inl hp)]
  refine dd Tryz.func192 ?_
  (unfold Tryz.f192; refine rn trivial ?_)
  have F:=(Ja @ht @hg)
  refine rn F ?_
  repeat' (first
   | with_reducible exact⟨⟩
   | refine vp F (c1) ?_
   | refine vp F (c2) ?_
   | refine vp F (c3) ?_)
  all_goals first | rfl | contradiction | omega
 subst hp
 rcases hkk with rfl | rfl | rfl | rfl | rfl
 ·rw [if_neg (by rintro (h | h); exact h rfl; omega),if_neg (by omega)]
  have hwA:=hw i hi (QF (QaU ⟨id,st,ptx,b,q,s⟩ ⟨lsn,1,tx,ptx,ppg,ref,c,blob⟩))
  have hse:=QeC (QaU ⟨id,st,ptx,b,q,s⟩ ⟨lsn,1,tx,ptx,ppg,ref,c,blob⟩)
  have eN:QaU ⟨id,st,ptx,b,q,s⟩ ⟨lsn,1,tx,ptx,ppg,ref,c,blob⟩=⟨id,st,lsn,b,q++[lsn],s⟩:=rfl
  rw[eN] at hwA hse |-
  replace hse:=hse ⟨by simp; omega,by show s.length<=_; omega⟩
  generalize QF ⟨id,st,lsn,b,q++[lsn],s⟩=u at *
  refine dd Tryz.func192 ?_
  (unfold Tryz.f192; refine rn trivial ?_)
  have F:=(Ja @ht (Ja @hg @Qgg))
  refine rn F ?_
  repeat' (first
   | with_reducible exact⟨⟩
   | refine vp F (c1) ?_
   | refine vp F (c2) ?_
   | refine vp F (c3) ?_
   | (refine Qa6 [4] _ _ (hse) rfl ⟨⟨by simp,Qg _ _ _⟩,trivial⟩ (by decide) rfl (by simp[DV.nums.go,DV.nums]) ?_ ?_; (focus (refine rd F)); refine rn F ?_)
   | refine vp F (hwA) ?_
   | (refine Qb (id:=17) [0,1,3,4] [⟨[5],[],2,[0,3,4],[]⟩,⟨[5],[5],6,[0,1,3,4],[7]⟩,⟨[],[],8,[],[]⟩] (by kernel_rfl) (by kernel_rfl) ?_; refine rn F ?_))
  all_goals first | rfl | skip
 ·refine dd Tryz.func192 ?_
  (unfold Tryz.f192; refine rn trivial ?_)
  have F:=(Ja @ht @hg)
  refine rn F ?_
  repeat' (first
   | with_reducible exact⟨⟩
   | refine vp F (c1) ?_
   | refine vp F (c2) ?_
   | refine vp F (c3) ?_)
  rotate_left
  all_goals first | contradiction | skip
  refine VLoop.nilOwn 8 3 1 rfl ?_
  refine Qj (fun s0:To q.length=>⟨100,0,[(9,.int .i64 s0.i),(8,.own 2 1 0 ((q.take s0.i).filter fun x=>decide (x≠ref)).length),(7,.ptr 1 0),(6,.int .i64 i),(3,.ptr 0 0),(0,.pv (.sl (fz Qu l)))],
   [⟨44,true,[.int .i64 lsn,.int .i64 2,.int .i64 tx,.int .i64 ptx,.int .i64 ppg,.int .i64 ref,.int .i64 c.pg,.int .i64 c.sl,.bool c.b.set,.pv (.str c.b.data),.bool c.a.set,.pv (.str c.a.data),.pv (.str blob)]⟩,
    ⟨71,true,[.int .i64 id,.int .i64 st,.int .i64 lsn,.int .i64 b,.pv (.sl (fz Qx q)),.pv (.sl (fz Qx s))]⟩,
    ⟨3,true,cells Qx ((q.take s0.i).filter fun x=>decide (x≠ref))⟩]⟩) (fun s0=>q.length-s0.i) ⟨0,JE _⟩ (gc [0,1,2]) ?_
  intro s0
  have hi0:=s0.hi
  have hgq:=fun h:s0.i<q.length=>QV q s0.i h
  have hfl:=QC5 q ref s0.i
  have hfs:=Qvc q ref s0.i
  have hwA:=hw i hi (QF (QaU ⟨id,st,ptx,b,q,s⟩ ⟨lsn,2,tx,ptx,ppg,ref,c,blob⟩))
  have hse:=QeC (QaU ⟨id,st,ptx,b,q,s⟩ ⟨lsn,2,tx,ptx,ppg,ref,c,blob⟩)
  have eN:QaU ⟨id,st,ptx,b,q,s⟩ ⟨lsn,2,tx,ptx,ppg,ref,c,blob⟩=⟨id,st,lsn,b,q.filter fun x=>decide (x≠ref),s⟩:=rfl
  have hfq:=QC6 q ref
  rw[eN] at hwA hse |-
  have hfl2:(q.filter fun x=>decide (x≠ref)).length<=q.length:=JU _ _
  replace hse:=hse ⟨by show(q.filter fun x=>decide (x≠ref)).length<=_; omega,by show s.length<=_; omega⟩
  by_cases hc:s0.i<q.length
  ·replace hfs:=hfs hc
   generalize ((q.take s0.i).filter fun x=>decide (x≠ref))=out at *
   have hb:(out.length+1)*8<=140737488355328:=by omega
   have F:=(Ja @hgq (Ja @Qgg @hb))
   refine rn F ?_
   repeat' (first
    | with_reducible exact⟨⟩
    | (refine sB F ?_ ?_<;>intro hZ)
    | (refine Qb (id:=23) [0,1,2,3,4,5,6,7] [] (by kernel_rfl) (by kernel_rfl) ?_; refine rn F ?_))
   ·have hf2:(q.take (s0.i + 1)).filter (fun x=>decide ¬x = ref) = out ++ [q.getD s0.i 0]:=by rw [if_neg (by assumption)] at hfs; exact hfs
    refine⟨⟨s0.i+1,by omega⟩,by show q.length-(s0.i+1)<q.length-s0.i; omega,?_⟩
    dsimp only
    rw[hf2,Jc]
    exact(gc [0,1,4])
   ·have hf2:(q.take (s0.i + 1)).filter (fun x=>decide ¬x = ref) = out:=by rw [if_pos (by assumption),JL] at hfs; exact hfs
    refine⟨⟨s0.i+1,by omega⟩,by show q.length-(s0.i+1)<q.length-s0.i; omega,?_⟩
    dsimp only
    rw[hf2]
    exact(gc [0,1,2])
  ·rw [Jo (by omega)] at *
   generalize (q.filter fun x=>decide (x≠ref))=out at *
   generalize QF ⟨id,st,lsn,b,out,s⟩=u at *
   have F:=trivial
   refine rn F ?_
   repeat' (first
    | with_reducible exact⟨⟩
    | (refine sB F ?_ ?_<;>intro hZ)
    | (refine Qa6 [2] _ _ (hse) rfl ⟨⟨by simp,Qg _ _ _⟩,trivial⟩ (by decide) rfl (by simp[DV.nums.go,DV.nums]) ?_ ?_; (focus (refine rd F)); refine rn F ?_)
    | refine vp F (hwA) ?_)
   all_goals first | (rw[if_pos (hfq.1 (by omega))]; rfl) | (rw[if_neg (fun h=>absurd (hfq.2 h) (by omega))]; rfl) | skip
 ·rw [if_neg (by rintro (h | h); exact h rfl; omega),if_pos (by omega)]
  refine dd Tryz.func192 ?_
  (unfold Tryz.f192; refine rn trivial ?_)
  have F:=(Ja @ht @hg)
  refine rn F ?_
  repeat' (first
   | with_reducible exact⟨⟩
   | refine vp F (c1) ?_
   | refine vp F (c2) ?_
   | refine vp F (c3) ?_
   | refine vp F (c4) ?_)
  all_goals rfl
 ·rw [if_neg (by rintro (h | h); exact h rfl; omega),if_neg (by omega)]
  have hwA:=hw i hi (QF (QaU ⟨id,st,ptx,b,q,s⟩ ⟨lsn,4,tx,ptx,ppg,ref,c,blob⟩))
  have hse:=QeC (QaU ⟨id,st,ptx,b,q,s⟩ ⟨lsn,4,tx,ptx,ppg,ref,c,blob⟩)
  have eN:QaU ⟨id,st,ptx,b,q,s⟩ ⟨lsn,4,tx,ptx,ppg,ref,c,blob⟩=⟨id,3,lsn,0,q,[]⟩:=rfl
  rw[eN] at hwA hse |-
  replace hse:=hse ⟨by show q.length<=_; omega,by simp⟩
  have hse2:VCalls prog 235 [.agg [.int .i64 id,.int .i64 3,.int .i64 lsn,.int .i64 0,.pv (.sl (fz Qx q)),.pv (.slc [])]] [] (Ret (.agg (QF ⟨id,3,lsn,0,q,[]⟩).d)):=VCalls.wkA hse
  generalize QF ⟨id,3,lsn,0,q,[]⟩=u at *
  refine dd Tryz.func192 ?_
  (unfold Tryz.f192; refine rn trivial ?_)
  have F:=(Ja @ht @hg)
  refine rn F ?_
  repeat' (first
   | with_reducible exact⟨⟩
   | refine vp F (c1) ?_
   | refine vp F (c2) ?_
   | refine vp F (c3) ?_
   | refine vp F (hse2) ?_
   | refine vp F (hwA) ?_)
  all_goals rfl
 ·rw [if_neg (by rintro (h | h); exact h rfl; omega),if_pos (by omega)]
  refine dd Tryz.func192 ?_
  (unfold Tryz.f192; refine rn trivial ?_)
  have F:=(Ja @ht @hg)
  refine rn F ?_
  repeat' (first
   | with_reducible exact⟨⟩
   | refine vp F (c1) ?_
   | refine vp F (c2) ?_
   | refine vp F (c3) ?_
   | refine vp F (c4) ?_)
  all_goals rfl
end
attribute [go_sem] Ce.d Ch.d E.d Lg.c Qhn Jc Ji Ju Jz Qbk QaV
attribute [go_sem] QhS Qjc QiC QiW Qep
def Okay.no(s:Okay n c)(h:s.i<n)(hB:B=(JK n).all c)(hc:c s.i=false):B=false:=by rw[hB,Qai h hc]
def Okay.yes(s:Okay n c)(h:¬ s.i<n)(hB:B=(JK n).all c):B=true:=by rw[hB,s.all h]
def Okay.dec(s:Okay n c)(h:s.i<n):n-(s.i+1)<n-s.i:=by omega
structure Pg where
 id:Int
 lsn:Int
 cel:Nat->Ce
def QIw(c:Nat->Ce):List PV:=(JK 16).flatMap fun i=>[.lit (.bool (c i).set),.str (c i).data]
def Pg.p(x:Pg):List PV:=.lit (.int .i64 x.id)::.lit (.int .i64 x.lsn)::QIw x.cel
def Pg.d(x:Pg):List DV:=x.p.map .pv
def Pg0:Pg:=⟨0,0,fun _=>Ce0⟩
structure Fm where
 pg:Pg
 dirty:Bool
 rc:Int
 used:Bool
def Fm.p(f:Fm):List PV:=f.pg.p++[.lit (.bool f.dirty),.lit (.int .i64 f.rc),.lit (.bool f.used)]
def Fm.d(f:Fm):List DV:=f.p.map .pv
def Fm0:Fm:=⟨Pg0,false,0,false⟩
def QcH:Enc Fm:=⟨37,Fm.p,by decide,fun _=>rfl⟩
def QGr(l:List Fm):(cells QcH l).length=l.length*37:=Qo QcH l
def QII(l:List Fm)(n:Nat)(h:l.length*37<=n):(cells QcH l).take n=cells QcH l:=by rw[Jo]; rw[QGr]; exact h
def QIB(l m:List Fm):cells QcH l++cells QcH m=cells QcH (l++m):=(QD QcH l m).symm
def QIe(l:List Fm)(T:TypeId)(a b:Nat)(h:a<=b/\b<=l.length):Qri (some (none,T,37)) (fz QcH l) a b=some (.pv (.sl (fz QcH ((l.take b).drop a)))):=Qjg QcH l T a b h
def QIb(l:List Fm):(fz QcH l=[]\/(fz QcH l)[0]?.map JM=some 37)=True:=QfU QcH l
def QGv(h:l.length=len):Qpi n hp 0 37 len (some (cells QcH l))=some (.sl (fz QcH l)):=Qac QcH h
def Qdo(e:Enc α)(l:List α)(d:α)(i:Nat)(h:i<l.length):(fz e l)[i]?=some (e.enc (l.getD i d)):=by rw[Qc l i h d]; exact Qht e l i h
def Qb9(l:List Fm)(i:Nat)(h:i<l.length):(fz QcH l)[i]?=some (l.getD i Fm0).p:=Qdo QcH l Fm0 i h
def QvZ(l:List Fm)(f:Fm):cells QcH l++f.d=cells QcH (l++[f]):=by rw[QD]; simp[cells,QcH,Fm.d]
@[go_sem] def QH5(x:Fm)(h0:0<=i):QD9 (some (none,T,37)) (some x.p) i=some (.ip x.p):=QkP h0 rfl (by decide)
@[go_sem] theorem Pg.p_len(x:Pg):x.p.length=34:=rfl
@[go_sem] theorem Pg.d_len(x:Pg):x.d.length=34:=rfl
@[go_sem] theorem Fm.p_len(x:Fm):x.p.length=37:=rfl
@[go_sem] theorem Fm.d_len(x:Fm):x.d.length=37:=rfl
@[go_sem] def Pg.p_map(x:Pg):x.p.map DV.pv=x.d:=(rfl)
@[go_sem] def Fm.p_map(x:Fm):x.p.map DV.pv=x.d:=(rfl)
@[go_sem] def Fm.p_take(x:Fm):x.p.take 37=x.p:=(rfl)
@[go_sem] def Fm.d_take(x:Fm):x.d.take 37=x.d:=(rfl)
@[go_sem] def Pg.p_take(x:Pg):x.p.take 34=x.p:=(rfl)
@[go_sem] def Pg.d_take(x:Pg):x.d.take 34=x.d:=(rfl)
@[go_sem] def Fm.p_pg(x:Fm):x.p.take 34=x.pg.p:=(rfl)
@[go_sem] def Fm.d_pg(x:Fm):x.d.take 34=x.pg.d:=(rfl)
@[go_sem] def Fm.p0(x:Fm):x.p[0]?=some (.lit (.int .i64 x.pg.id)):=(rfl)
def Fm.p1(x:Fm):x.p[1]?=some (.lit (.int .i64 x.pg.lsn)):=(rfl)
@[go_sem] def Fm.pd1(x:Fm):(x.p.drop 1)[0]?=some (.lit (.int .i64 x.pg.lsn)):=(rfl)
@[go_sem] def Fm.pd34(x:Fm):(x.p.drop 34)[0]?=some (.lit (.bool x.dirty)):=(rfl)
@[go_sem] def Fm.pd35(x:Fm):(x.p.drop 35)[0]?=some (.lit (.int .i64 x.rc)):=(rfl)
@[go_sem] def Fm.pd36(x:Fm):(x.p.drop 36)[0]?=some (.lit (.bool x.used)):=(rfl)
@[go_sem] def Fm.d0(x:Fm):x.d[0]?=some (.pv (.lit (.int .i64 x.pg.id))):=(rfl)
@[go_sem] def Fm.d1(x:Fm):x.d[1]?=some (.pv (.lit (.int .i64 x.pg.lsn))):=(rfl)
@[go_sem] def Fm.d34(x:Fm):x.d[34]?=some (.pv (.lit (.bool x.dirty))):=(rfl)
@[go_sem] def Fm.d35(x:Fm):x.d[35]?=some (.pv (.lit (.int .i64 x.rc))):=(rfl)
@[go_sem] def Pg.p0(x:Pg):x.p[0]?=some (.lit (.int .i64 x.id)):=(rfl)
def Pg.p1(x:Pg):x.p[1]?=some (.lit (.int .i64 x.lsn)):=(rfl)
@[go_sem] def Pg.d0(x:Pg):x.d[0]?=some (.pv (.lit (.int .i64 x.id))):=(rfl)
@[go_sem] def Pg.d1(x:Pg):x.d[1]?=some (.pv (.lit (.int .i64 x.lsn))):=(rfl)
@[go_sem] def Pg.d_one(x:Pg):Qp x.d=true:=(rfl)
@[go_sem] def Fm.d_one(x:Fm):Qp x.d=true:=(rfl)
@[go_sem] def Pg.d_nums(x:Pg)(k:Nat->Bool):DV.nums.go k x.d=true:=(rfl)
@[go_sem] def Fm.d_nums(x:Fm)(k:Nat->Bool):DV.nums.go k x.d=true:=(rfl)
@[go_sem] def Fm.set34(x:Fm)(b:Bool):x.d.set 34 (.pv (.lit (.bool b)))=Fm.d ⟨x.pg,b,x.rc,x.used⟩:=(rfl)
@[go_sem] def Fm.set35(x:Fm)(b:Int):x.d.set 35 (.pv (.lit (.int .i64 b)))=Fm.d ⟨x.pg,x.dirty,b,x.used⟩:=(rfl)
@[go_sem] def Fm.set36(x:Fm)(b:Bool):x.d.set 36 (.pv (.lit (.bool b)))=Fm.d ⟨x.pg,x.dirty,x.rc,b⟩:=(rfl)
@[go_sem] def Fm.setpg(x:Fm)(p:Pg):p.d++x.d.drop 34=Fm.d ⟨p,x.dirty,x.rc,x.used⟩:=(rfl)
@[go_sem] def Fm.mk36(x:Pg)(a c u:Bool)(b:Int):(x.d++([.pv (.lit (.bool a)),.pv (.lit (.int .i64 b)),.pv (.lit (.bool c))]:List DV)).take 36++[.pv (.lit (.bool u))]++(x.d++([.pv (.lit (.bool a)),.pv (.lit (.int .i64 b)),.pv (.lit (.bool c))]:List DV)).drop 37=Fm.d ⟨x,a,b,u⟩:=(rfl)
@[go_sem] def Pg.set1(x:Pg)(b:Int):x.d.set 1 (.pv (.lit (.int .i64 b)))=Pg.d ⟨x.id,b,x.cel⟩:=(rfl)
@[go_sem] def Pg.d_drop(x:Pg):x.d.drop 34=[]:=(rfl)
@[go_sem] def Fm.d_drop(x:Fm):x.d.drop 37=[]:=(rfl)
def QjV(n:Nat)(hp:Qa):∀ l:List PV,Qi ((l.map DV.pv).map (QcU n hp))=some (l.map DV.pv)
 | []=>rfl
 | p::l=>by show Qi (some (.pv p)::(l.map DV.pv).map (QcU n hp))=_; rw[QfZ,QjV n hp l]; rfl
@[go_sem] def Pg.d_frz1(x:Pg)(n:Nat)(hp:Qa):Qi (x.d.map (QcU n hp))=some x.d:=QjV n hp x.p
@[go_sem] def Fm.d_frz1(x:Fm)(n:Nat)(hp:Qa):Qi (x.d.map (QcU n hp))=some x.d:=QjV n hp x.p
@[go_sem] def Pg.d_wk(x:Pg):DV.wk.go x.d=x.d:=(rfl)
@[go_sem] def Fm.d_wk(x:Fm):DV.wk.go x.d=x.d:=(rfl)
def Qpy(x:Pg)(i:Nat)(h:i<16):(x.d.drop (2+i*2)).take 2=[.pv (.lit (.bool (x.cel i).set)),.pv (.str (x.cel i).data)]:=by
 have:i=0\/i=1\/i=2\/i=3\/i=4\/i=5\/i=6\/i=7\/i=8\/i=9\/i=10\/i=11\/i=12\/i=13\/i=14\/i=15:=by omega
 rcases this with h | h | h | h | h | h | h | h | h | h | h | h | h | h | h | h<;>subst h<;>rfl
def QvM(x:Pg)(i:Nat)(h:i<16):x.d[2+i*2]?=some (.pv (.lit (.bool (x.cel i).set))):=by
 have:i=0\/i=1\/i=2\/i=3\/i=4\/i=5\/i=6\/i=7\/i=8\/i=9\/i=10\/i=11\/i=12\/i=13\/i=14\/i=15:=by omega
 rcases this with h | h | h | h | h | h | h | h | h | h | h | h | h | h | h | h<;>subst h<;>rfl
def Pg.setc(x:Pg)(i:Nat)(c:Ce):Pg:=⟨x.id,x.lsn,fun k=>if k=i then c else x.cel k⟩
def QDq(x:Pg)(i:Nat)(h:i<16)(c:Ce):splice x.d (2+i*2) [.pv (.lit (.bool c.set)),.pv (.str c.data)]=(x.setc i c).d:=by
 have:i=0\/i=1\/i=2\/i=3\/i=4\/i=5\/i=6\/i=7\/i=8\/i=9\/i=10\/i=11\/i=12\/i=13\/i=14\/i=15:=by omega
 rcases this with h | h | h | h | h | h | h | h | h | h | h | h | h | h | h | h<;>subst h<;>rfl
structure Rw where
 lsn:Int
 im:Int
 at_:Int
def Qcl:Enc Rw:=⟨3,fun r=>[.lit (.int .i64 r.lsn),.lit (.int .i64 r.im),.lit (.int .i64 r.at_)],by decide,fun _=>rfl⟩
@[go_sem] def Rw.d(r:Rw):List DV:=[.int .i64 r.lsn,.int .i64 r.im,.int .i64 r.at_]
def QHM(l:List Rw):(cells Qcl l).length=l.length*3:=Qo Qcl l
def QIF(l:List Rw)(n:Nat)(h:l.length*3<=n):(cells Qcl l).take n=cells Qcl l:=by rw[Jo]; rw[QHM]; exact h
def QH9(l:List Rw):(fz Qcl l=[]\/(fz Qcl l)[0]?.map JM=some 3)=True:=QfU Qcl l
def QIs(h:l.length=len):Qpi n hp 0 3 len (some (cells Qcl l))=some (.sl (fz Qcl l)):=Qac Qcl h
def Rw0:Rw:=⟨0,0,0⟩
def Qmj(l:List Rw)(i:Nat)(h:i<l.length):(fz Qcl l)[i]?=some [.lit (.int .i64 (l.getD i Rw0).lsn),.lit (.int .i64 (l.getD i Rw0).im),.lit (.int .i64 (l.getD i Rw0).at_)]:=Qdo Qcl l Rw0 i h
def QHr(l:List Rw)(a b c:Int):cells Qcl l++[.pv (.lit (.int .i64 a)),.pv (.lit (.int .i64 b)),.pv (.lit (.int .i64 c))]=cells Qcl (l++[⟨a,b,c⟩]):=by rw[QD]; rfl
structure Dt where
 pg:Int
 rc:Int
 last:Int
def QcZ:Enc Dt:=⟨3,fun r=>[.lit (.int .i64 r.pg),.lit (.int .i64 r.rc),.lit (.int .i64 r.last)],by decide,fun _=>rfl⟩
@[go_sem] def Dt.d(r:Dt):List DV:=[.int .i64 r.pg,.int .i64 r.rc,.int .i64 r.last]
def QHJ(l:List Dt):(cells QcZ l).length=l.length*3:=Qo QcZ l
def QIC(l:List Dt)(n:Nat)(h:l.length*3<=n):(cells QcZ l).take n=cells QcZ l:=by rw[Jo]; rw[QHJ]; exact h
def QIp(h:l.length=len):Qpi n hp 0 3 len (some (cells QcZ l))=some (.sl (fz QcZ l)):=Qac QcZ h
def Dt0:Dt:=⟨0,0,0⟩
def QeU(l:List Dt)(i:Nat)(h:i<l.length):(fz QcZ l)[i]?=some [.lit (.int .i64 (l.getD i Dt0).pg),.lit (.int .i64 (l.getD i Dt0).rc),.lit (.int .i64 (l.getD i Dt0).last)]:=Qdo QcZ l Dt0 i h
def QHo(l:List Dt)(a b c:Int):cells QcZ l++[.pv (.lit (.int .i64 a)),.pv (.lit (.int .i64 b)),.pv (.lit (.int .i64 c))]=cells QcZ (l++[⟨a,b,c⟩]):=by rw[QD]; rfl
structure Gr where
 tx:Int
 pg:Int
 sl:Int
 md:Int
def Gr0:Gr:=⟨0,0,0,0⟩
def Qau:Enc Gr:=⟨4,fun g=>[.lit (.int .i64 g.tx),.lit (.int .i64 g.pg),.lit (.int .i64 g.sl),.lit (.int .i64 g.md)],by decide,fun _=>rfl⟩
@[go_sem] def Gr.d(g:Gr):List DV:=[.int .i64 g.tx,.int .i64 g.pg,.int .i64 g.sl,.int .i64 g.md]
def QHO(l:List Gr):(cells Qau l).length=l.length*4:=Qo Qau l
def QIH(l:List Gr)(n:Nat)(h:l.length*4<=n):(cells Qau l).take n=cells Qau l:=by rw[Jo]; rw[QHO]; exact h
def QIA(l m:List Gr):cells Qau l++cells Qau m=cells Qau (l++m):=(QD Qau l m).symm
def QId(l:List Gr)(T:TypeId)(a b:Nat)(h:a<=b/\b<=l.length):Qri (some (none,T,4)) (fz Qau l) a b=some (.pv (.sl (fz Qau ((l.take b).drop a)))):=Qjg Qau l T a b h
def QIa(l:List Gr):(fz Qau l=[]\/(fz Qau l)[0]?.map JM=some 4)=True:=QfU Qau l
def QIu(h:l.length=len):Qpi n hp 0 4 len (some (cells Qau l))=some (.sl (fz Qau l)):=Qac Qau h
def QaD(l:List Gr)(i:Nat)(h:i<l.length):(fz Qau l)[i]?=some [.lit (.int .i64 (l.getD i Gr0).tx),.lit (.int .i64 (l.getD i Gr0).pg),.lit (.int .i64 (l.getD i Gr0).sl),.lit (.int .i64 (l.getD i Gr0).md)]:=Qdo Qau l Gr0 i h
def QHt(l:List Gr)(a b c d:Int):cells Qau l++[.pv (.lit (.int .i64 a)),.pv (.lit (.int .i64 b)),.pv (.lit (.int .i64 c)),.pv (.lit (.int .i64 d))]=cells Qau (l++[⟨a,b,c,d⟩]):=by rw[QD]; rfl
def Qkm(l:List E)(i:Nat)(h:i<l.length):(fz QaR l)[i]?=some [.lit (.int .i64 (l.getD i E0).lsn),.lit (.int .i64 (l.getD i E0).kind),.lit (.int .i64 (l.getD i E0).tx),.lit (.int .i64 (l.getD i E0).ptx),.lit (.int .i64 (l.getD i E0).ppg),.lit (.int .i64 (l.getD i E0).ref),.lit (.int .i64 (l.getD i E0).c.pg),.lit (.int .i64 (l.getD i E0).c.sl),.lit (.bool (l.getD i E0).c.b.set),.str (l.getD i E0).c.b.data,.lit (.bool (l.getD i E0).c.a.set),.str (l.getD i E0).c.a.data,.str (l.getD i E0).blob]:=Qdo QaR l E0 i h
def QdZ(l:List Tx)(i:Nat)(h:i<l.length):(fz Qu l)[i]?=some [.lit (.int .i64 (l.getD i Tx0).id),.lit (.int .i64 (l.getD i Tx0).st),.lit (.int .i64 (l.getD i Tx0).n),.lit (.int .i64 (l.getD i Tx0).b),.sl (fz Qx (l.getD i Tx0).l),.sl (fz Qx (l.getD i Tx0).s)]:=Qdo Qu l Tx0 i h
def QGz(l:List E):DV.wk.go (cells QaR l)=cells QaR l:=Qbr QaR l fun a p hp=>by
 simp[QaR] at hp
 rcases hp with h | h | h | h | h | h | h | h | h | h | h | h | h<;>subst h<;>rfl
def QH2(l:List Gr):DV.wk.go (cells Qau l)=cells Qau l:=Qbr Qau l fun a p hp=>by
 simp[Qau] at hp
 rcases hp with h | h | h | h<;>subst h<;>rfl
def QHZ(l:List Rw):DV.wk.go (cells Qcl l)=cells Qcl l:=Qbr Qcl l fun a p hp=>by
 simp[Qcl] at hp
 rcases hp with h | h | h<;>subst h<;>rfl
def QHX(l:List Dt):DV.wk.go (cells QcZ l)=cells QcZ l:=Qbr QcZ l fun a p hp=>by
 simp[QcZ] at hp
 rcases hp with h | h | h<;>subst h<;>rfl
def QH3(l:List Fm):DV.wk.go (cells QcH l)=cells QcH l:=Qbr QcH l fun a p hp=>by
 have hm:a.p.map PV.wk=a.p:=rfl
 have hp:p∈a.p:=hp
 obtain⟨i,hi,rfl⟩:=Ki hp
 have:=congrArg (fun l=>l[i]?) hm
 simpa [hi] using this
attribute [go_sem] QGz QH2 QHZ QHX QH3 QD2
attribute [go_sem] QGr QII QIB QIe QIb QGv QvZ QHM QIF QH9 QIs QHr QHJ QIC QIp QHo QHO QIH QIA QId QIa QIu QHt
structure Pl where
 size:Int
 fs:List Fm
 hand:Int
@[go_sem] def Pl.d(p:Pl):List DV:=[.int .i64 p.size,.pv (.sl (fz QcH p.fs)),.int .i64 p.hand]
def Pl0:Pl:=⟨0,[],0⟩
structure Lk where
 held:List Gr
 wait:List Gr
@[go_sem] def Lk.d(t:Lk):List DV:=[.pv (.sl (fz Qau t.held)),.pv (.sl (fz Qau t.wait))]
def cb(c:C):Blk:=⟨80,true,cc c⟩
abbrev CX(R:DV->Prop):DV->Qa->Prop:=fun r h'=>∃ B',h'=[B']/\B'.live=true/\DV.nums.go (fun _=>false) B'.cells=true/\r.nums (fun _=>false)=true/\(R r/\∃ c',B'=cb c')
def Qa2(h:VCalls prog g (args.map (DV.ren fun _=>0)) [cb c] (CX R))(hk:hp[k]?=some (cb c))(ha:DV.nums.go (fun i=>i==k) args=true)(hK:∀ r c',R r->K r (hp.set k (cb c'))):VCalls prog g args hp K:=
 (VCalls.ptr1 (R:=fun r B'=>R r/\∃ c',B'=cb c') hk rfl (Qcj c) h ha).mono fun r h' ⟨B',e1,_,_,e2,e3⟩=>by subst e1; obtain⟨c',rfl⟩:=e3; exact hK r c' e2
abbrev Nx(n:Nat):DV->Prop:=fun r=>∃ x:Nat,r=.int .i64 x/\x<n
def Qt7(c:C)(n:Nat)(h1:1<=n)(hn:n<=256):VCalls prog 26 [.ptr 0 0,.int .i64 n] [cb c] (CX (Nx n)):=by
 refine dd Tryz.func26 ?_
 have ha:=c.ha
 have hl:=c.hl
 simp(config:={ maxSteps:=2000000 }) (implicitDefEqProofs:=false) (disch:=first | omega | assumption | (simp only[]; done) | fail) only[go_sem,Js,Jt,Tryz.f26,cb,cc]
 refine Qby (by kernel_rfl) (by kernel_rfl) ?_
 by_cases a:c.at_<c.l.length
 ·simp (config:={ maxSteps:=2000000 }) (implicitDefEqProofs:=false) (disch:=first | omega | assumption | (simp only []; done) | fail) only [go_sem,↓reduceIte,reduceCtorEq,Js,Jd,Jt,Je]
  refine Qby (by kernel_rfl) (by kernel_rfl) ?_
  have hg:=QuO c.l c.at_ a
  have hh:(c.l.getD c.at_ 0).toNat<256:=UInt8.toNat_lt _
  simp(config:={ maxSteps:=2000000 }) (implicitDefEqProofs:=false) (disch:=first | omega | assumption | (simp only[Jm,Jj,Ks]; done) | fail) only[go_sem,↓reduceIte,reduceCtorEq,Js,JB,Jd,JC,Jt,Je,hg]
  obtain⟨y,hy,hlt⟩:=Qoq (c.l.getD c.at_ 0).toNat n h1
  refine⟨_,rfl,rfl,rfl,rfl,⟨y,by rw[hy],hlt⟩,⟨c.l,c.at_+1,a,hl⟩,rfl⟩
 ·simp (config:={ maxSteps:=2000000 }) (implicitDefEqProofs:=false) (disch:=first | omega | assumption | (simp only []; done) | fail) only [go_sem,↓reduceIte,reduceCtorEq,Js,Jd,Jt,Je]
  exact⟨_,rfl,rfl,rfl,rfl,⟨0,rfl,h1⟩,c,rfl⟩
def QaM(c:C)(n:Nat)(h1:1<=n)(hn:n<=1000000000):VCalls prog 26 [.ptr 0 0,.int .i64 n] [cb c] (CX (Nx n)):=by
 by_cases hs:n<=256
 ·exact Qt7 c n h1 hs
 refine dd Tryz.func26 ?_
 have ha:=c.ha
 have hl:=c.hl
 simp(config:={ maxSteps:=2000000 }) (implicitDefEqProofs:=false) (disch:=first | omega | assumption | (simp only[]; done) | fail) only[go_sem,Js,Jt,Tryz.f26,cb,cc]
 refine Qby (by kernel_rfl) (by kernel_rfl) ?_
 by_cases a:c.at_<c.l.length
 ·simp (config:={ maxSteps:=2000000 }) (implicitDefEqProofs:=false) (disch:=first | omega | assumption | (simp only []; done) | fail) only [go_sem,↓reduceIte,reduceCtorEq,Js,Jd,Jt,Je]
  refine Qby (by kernel_rfl) (by kernel_rfl) ?_
  have hg:=QuO c.l c.at_ a
  have hh:(c.l.getD c.at_ 0).toNat<256:=UInt8.toNat_lt _
  generalize hx:(c.l.getD c.at_ 0).toNat=x at hg hh
  simp(config:={ maxSteps:=2000000 }) (implicitDefEqProofs:=false) (disch:=first | omega | assumption | (simp only[Jm,Jj,Ks]; done) | fail) only[go_sem,↓reduceIte,reduceCtorEq,Js,JB,Jd,JC,Jt,Je,hg]
  refine Qa2 (k:=0) (c:=⟨c.l,c.at_+1,a,hl⟩) (Qt7 _ 256 (by omega) (by omega)) rfl rfl ?_
  rintro r c' ⟨z,rfl,hz⟩
  simp(config:={ maxSteps:=2000000 }) (implicitDefEqProofs:=false) (disch:=first | omega | assumption | (simp only[]; done) | fail) only[go_sem,Jd,Je,cb,cc]
  obtain⟨y,hy,hlt⟩:=Qoq (256*x+z) n h1
  have e:(256*(x:Int)+(z:Int))=((256*x+z:Nat):Int):=by omega
  refine⟨_,rfl,rfl,rfl,rfl,⟨y,by rw[e,hy],hlt⟩,c',rfl⟩
 ·simp (config:={ maxSteps:=2000000 }) (implicitDefEqProofs:=false) (disch:=first | omega | assumption | (simp only []; done) | fail) only [go_sem,↓reduceIte,reduceCtorEq,Js,Jd,Jt,Je]
  exact⟨_,rfl,rfl,rfl,rfl,⟨0,rfl,h1⟩,c,rfl⟩
def Qz1(c:C)(m:Int)(h1:1<=m)(hn:m<=1000000000):VCalls prog 26 [.ptr 0 0,.int .i64 m] [cb c] (CX (Nx m.toNat)):=by
 have h:=QaM c m.toNat (by omega) (by omega)
 rwa [show((m.toNat:Nat):Int)=m by omega] at h
def QFw(l:List UInt8)(most:Nat)(hm:1<=most)(h:most<=1000000)(hl:l.length<=9223372036854775807):VCalls prog 6 [.pv (.sl (fz Qfv l)),.int .i64 most] [] fun r h'=>∃ B,h'=[B]/\r=.ptr 0 0/\B.live=true/\DV.nums.go (fun _=>false) B.cells=true/\∃ c,B=cb c:=by
 refine QO (fn:=Tryz.f6) Tryz.func6 rfl (by kernel_rfl) (by simp[Tryz.f6]) ?_
 simp(config:={ maxSteps:=2000000 }) (implicitDefEqProofs:=false) (disch:=first | omega | assumption | (simp only[]; done) | fail) only[go_sem,Js,Jd,Jt,Je,Tryz.f6]
 refine QM (fun hc=>?_) (fun hc=>?_)<;>simp only[decide_eq_true_eq,decide_eq_false_iff_not,Jf,Jb,Jn,Jl,Jh,Jg,beq_iff_eq,beq_eq_false_iff_ne,bne_iff_ne,bne_eq_false_iff_eq,ne_eq] at hc
 ·have hx:(fz Qfv l)[0]?.map JM = some 1:=Qmi Qfv l (by omega)
  have ht:(fz Qfv l).take most=fz Qfv (l.take most):=QuN Qfv l most
  have hh:most<=(fz Qfv l).length:=by rw[Qmh]; omega
  have h0:(0:Nat)<=most:=by omega
  simp(config:={ maxSteps:=2000000 }) (implicitDefEqProofs:=false) (disch:=first | omega | assumption | (simp only[]; done) | fail) only[go_sem,V.splice,↓reduceIte,Js,JB,JW,Jd,JC,Jt,Je,ht]
  exact⟨_,rfl,rfl,rfl,⟨l.take most,0,by omega,by rw[Ji]; omega⟩,rfl⟩
 ·simp (config:={ maxSteps:=2000000 }) (implicitDefEqProofs:=false) (disch:=first | omega | assumption | (simp only []; done) | fail) only [go_sem,V.splice,↓reduceIte,Js,JB,JW,Jd,JC,Jt,Je]
  exact⟨_,rfl,rfl,rfl,⟨l,0,by omega,by omega⟩,rfl⟩
def QAY{most:Nat}(hm:1<=most)(h:most<=1000000)(hl:l.length<=9223372036854775807)(hK:∀ c,K (.ptr hp.length 0) (hp++[cb c])):VCalls prog 6 [.pv (.sl (fz Qfv l)),.int .i64 most] hp K:=
 (VCalls.new (QFw l most hm h hl) rfl).mono fun r h' ⟨B,e1,e2,_,_,c,e3⟩=>by subst e1 e2 e3; exact hK c
def QG7(c:C):VCalls prog 136 [.ptr 0 0] [cb c] (CX fun r=>∃ n:Int,r=.int .i64 n/\-9223372036854775808<=n/\n<=9223372036854775807):=by
 refine dd Tryz.func136 ?_
 simp(config:={ maxSteps:=2000000 }) (implicitDefEqProofs:=false) (disch:=first | omega | assumption | (simp only[]; done) | fail) only[go_sem,Jd,JS,Je,Tryz.f136]
 refine Qa2 (k:=0) (c:=c) (QaM c 10 (by omega) (by omega)) rfl rfl ?_
 rintro _ c1 ⟨z,rfl,hz⟩
 (try simp(config:={ maxSteps:=2000000 }) (implicitDefEqProofs:=false) (disch:=first | omega | assumption | (simp only[]; done) | fail) only[go_sem,JS])
 repeat' (first
  | (refine QgD (fun hZ=>?_) (fun hZ=>?_)<;>(try rw[hZ])<;>(try simp only[decide_eq_true_eq,decide_eq_false_iff_not,Jf,Jb,Jn,Jl,Jh,Jg,beq_iff_eq,beq_eq_false_iff_ne,bne_iff_ne,bne_eq_false_iff_eq,ne_eq,JV,Kp,Kg] at hZ)<;>(try (first | rw[(hZ:_=false)] | rw[(hZ:_=true)]))<;>skip)
  | (refine QM (fun hZ=>?_) (fun hZ=>?_)<;>(try rw[hZ])<;>(try simp only[decide_eq_true_eq,decide_eq_false_iff_not,Jf,Jb,Jn,Jl,Jh,Jg,beq_iff_eq,beq_eq_false_iff_ne,bne_iff_ne,bne_eq_false_iff_eq,ne_eq,JV,Kp,Kg] at hZ)<;>(try (first | rw[(hZ:_=false)] | rw[(hZ:_=true)]))<;>(try simp(config:={ maxSteps:=2000000 }) (implicitDefEqProofs:=false) (disch:=first | omega | assumption | (simp only[]; done) | fail) only[go_sem,V.splice,V.mk,↓reduceIte,Js,JB,JW,Jd,JC,JS,Jt,Je]))
  | (refine Qiz (fun hZ=>?_) (fun hZ=>?_)<;>(try rw[hZ])<;>(try simp only[decide_eq_true_eq,decide_eq_false_iff_not,Jf,Jb,Jn,Jl,Jh,Jg,beq_iff_eq,beq_eq_false_iff_ne,bne_iff_ne,bne_eq_false_iff_eq,ne_eq,JV,Kp,Kg] at hZ)<;>(try (first | rw[(hZ:_=false)] | rw[(hZ:_=true)]))<;>skip))
 ·refine Qa2 (k:=0) (c:=c1) (QaM c1 3 (by omega) (by omega)) rfl rfl ?_
  rintro _ c2 ⟨y,rfl,hy⟩
  simp(config:={ maxSteps:=2000000 }) (implicitDefEqProofs:=false) (disch:=first | omega | assumption | (simp only[]; done) | fail) only[go_sem,JS]
  exact⟨_,rfl,rfl,Qcj _,rfl,⟨_,rfl,by omega,by omega⟩,c2,rfl⟩
 ·refine Qa2 (k:=0) (c:=c1) (QaM c1 16 (by omega) (by omega)) rfl rfl ?_
  rintro _ c2 ⟨y,rfl,hy⟩
  have h:y=0\/y=1\/y=2\/y=3\/y=4\/y=5\/y=6\/y=7\/y=8\/y=9\/y=10\/y=11\/y=12\/y=13\/y=14\/y=15:=by omega
  rcases h with rfl | rfl | rfl | rfl | rfl | rfl | rfl | rfl | rfl | rfl | rfl | rfl | rfl | rfl | rfl | rfl<;>(simp(config:={ maxSteps:=2000000 }) (implicitDefEqProofs:=false) (disch:=first | omega | assumption | (simp only[]; done) | fail) only[go_sem,Jd,JS,Je]; exact⟨_,rfl,rfl,Qcj _,rfl,⟨_,rfl,by omega,by omega⟩,c2,rfl⟩)
 ·refine Qa2 (k:=0) (c:=c1) (QaM c1 20 (by omega) (by omega)) rfl rfl ?_
  rintro _ c2 ⟨y,rfl,hy⟩
  simp(config:={ maxSteps:=2000000 }) (implicitDefEqProofs:=false) (disch:=first | omega | assumption | (simp only[]; done) | fail) only[go_sem,JS]
  exact⟨_,rfl,rfl,Qcj _,rfl,⟨_,rfl,by omega,by omega⟩,c2,rfl⟩
theorem QHk:bts prog 22 9=true:=by kernel_rfl
section
attribute [local go_sem] Tx.d Quf Qwh Qzw Qw8 Qw6 QmO Qwe Qwi Qwd Qwc
def Quy(l:List Tx)(x:Tx)(i:Nat)(hi:i<=l.length)(hl:l.length<=1000000) :
 VCalls prog 45 [.own 0 6 0 l.length,.int .i64 i,.own 1 6 0 1] [⟨71,true,cells Qu l⟩,⟨71,true,cells Qu [x]⟩]
  (QhQ noK [⟨71,true,cells Qu l⟩,⟨71,true,cells Qu [x]⟩] 6 (l.length+1) 71 (cells Qu (l.take i++x::l.drop i))):=by
 refine VCalls.newSl ?_
 have hcl:(cells Qu l).length=l.length*6:=Qo Qu l
 have hc1:(cells Qu [x]).length=6:=by rw[Qo]; rfl
 have ht1:(cells Qu [x]).take 6=cells Qu [x]:=QjE Qu [x] _ rfl
 by_cases he:i=l.length
 ·subst he
  refine QO (fn:=Tryz.f45) Tryz.func45 rfl (by kernel_rfl) (by simp[Tryz.f45]) ?_
  have hb:(l.length+1)*80<=140737488355328:=by omega
  have hta:(cells Qu l).take (l.length*6)=cells Qu l:=QjE Qu l _ (by show _=l.length*6; omega)
  (unfold Tryz.f45; refine rn (Ja @hcl (Ja @hc1 (Ja @hta (Ja @ht1 @hb)))) ?_)
  exact⟨by simp,.inr ⟨_,.inl rfl,by simp,by first | (rw[Jz,List.drop_length]; rfl) | (rw[<- QCJ]; rfl) | (rw[List.drop_length]; rfl),Qg _ _ _⟩⟩
 ·have hlt:i < l.length:=by omega
  refine VCalls.room (by omega) fun cap hcap=>?_
  by_cases hr:l.length+1<=cap
  ·have hr1:¬ (cap:Int) < (l.length:Int) + 1:=by omega
   have hi1:i+1<=l.length+1:=by omega
   have hic:i+1<=cap:=by omega
   have hne:¬ (i:Int)=l.length:=by omega
   have ei:((i:Int)+1).toNat=i+1:=by omega
   have el:((l.length:Int)+1).toNat=l.length+1:=by omega
   refine QO (fn:=Tryz.f45) Tryz.func45 rfl (by kernel_rfl) (by simp[Tryz.f45]) ?_
   (unfold Tryz.f45; refine rn (Ja @hcl (Ja @hc1 (Ja @hr (Ja @hr1 (Ja @hi1 (Ja @hic (Ja @hne (Ja @Int.natCast_one (Ja @ei @el))))))))) ?_)
   refine(QkY (k:=1) (k2:=0) (fn:=Tryz.f75) (tS:=56) (tR:=4) (e:=71) (n:=6) Tryz.func75 (by kernel_rfl) rfl (by kernel_rfl) (by kernel_rfl) (by kernel_rfl) rfl rfl rfl rfl (by decide) (by omega) (by show 0<(cells Qu l).length; omega)).mono ?_
   rintro r h' ⟨rfl,rfl⟩
   refine rn trivial ?_
   refine Qb (id:=15) [0,1,2,3,4,5,6,7] [⟨[],[],8,[0,1,2,3,5,6],[]⟩] (by kernel_rfl) (by kernel_rfl) ?_
   have hmin:min (l.length+1-i) (l.length+1-(i+1))=l.length-i:=by omega
   have hmin2:min 1 (l.length+1-i)=1:=by omega
   have hof:(i+1)*6<=l.length*6:=by omega
   have hle:(l.length-i)*6<=l.length*6-i*6:=by omega
   have hup:splice (cells Qu l) ((i+1)*6) (((cells Qu l).drop (i*6)).take ((l.length-i)*6))=cells Qu (l.take (i+1)++l.drop i):=QFg Qu l i hlt
   have hin:splice (cells Qu (l.take (i+1)++l.drop i)) (i*6) (cells Qu [x])=cells Qu (l.take i++x::l.drop i):=QFh Qu l x i hlt
   have hl2:(cells Qu (l.take (i+1)++l.drop i)).length=(l.length+1)*6:=by rw[Qo,Jc,Ji,Ju]; show _*6=_; omega
   have hof2:i*6<=(l.length+1)*6:=by omega
   simp(config:={ maxSteps:=2000000 }) (implicitDefEqProofs:=false) (disch:=first | omega | assumption | (simp only[]; done) | fail) only[go_sem,↓reduceIte,Jd,Je,hcl,hc1,KB,ei,hmin,hmin2,hof,hle,Ju,hup,hin,hl2,hof2,ht1]
   exact⟨by simp,.inr ⟨0,.inr ⟨cap,by omega,rfl⟩,by simp,rfl,Qg _ _ _⟩⟩
  ·have hr1:(cap:Int) < (l.length:Int) + 1:=by omega
   have hne:¬ (i:Int)=l.length:=by omega
   have ei:((i:Int)+1).toNat=i+1:=by omega
   have eL:((l.length:Int)+1-i).toNat=l.length+1-i:=by omega
   have eS:i+(l.length+1-i)=l.length+1:=by omega
   have hb:(l.length+1)*80<=140737488355328:=by omega
   have hcz:cap<l.length+1:=by omega
   have hl0:(0:Int)<(l.length:Int)+1-i:=by omega
   have hlz:(l.length:Int)+1-i<=1000000000:=by omega
   have hoi:i*6<=l.length*6:=by omega
   have hic:i<=cap:=by omega
   generalize hZ:mk [.pv (.lit (.int .i64 0)),.pv (.lit (.int .i64 0)),.pv (.lit (.int .i64 0)),.pv (.lit (.int .i64 0)),.pv (.slc []),.pv (.slc [])] (l.length+1-i)=Z
   have hZl:Z.length=(l.length+1-i)*6:=by rw[<- hZ,Qak]; rfl
   have hg1:(cells Qu l).take (i*6)=cells Qu (l.take i):=Qfy Qu l i
   have hg2:splice (cells Qu (l.take i)++Z) (i*6) (cells Qu [x])=cells Qu (l.take i++[x])++Z.drop 6:=QFj Qu l x i hlt Z
   have hZd:(Z.drop 6).length=(l.length-i)*6:=by rw[Ju]; omega
   have hg3:splice (cells Qu (l.take i++[x])++Z.drop 6) ((i+1)*6) (((cells Qu l).drop (i*6)).take ((l.length-i)*6))=cells Qu (l.take i++x::l.drop i):=QFi Qu l x i hlt (Z.drop 6) (by rw[hZd]; rfl)
   have hmin:min 1 (l.length+1-i)=1:=by omega
   have hmin2:min (l.length-i) (l.length+1-(i+1))=l.length-i:=by omega
   have hl1:(cells Qu (l.take i)++Z).length=(l.length+1)*6:=by rw[Jc,hZl,Qo,Ji]; show _*6+_=_; omega
   have hl2:(cells Qu (l.take i++[x])++Z.drop 6).length=(l.length+1)*6:=by rw[Jc,hZd,Qo,Jc,Ji]; show(_+1)*6+_=_; omega
   have hf1:i*6+(l.length+1-i)*6<=(l.length+1)*6:=by omega
   have hf2:(i+1)*6<=(l.length+1)*6:=by omega
   have hle:(l.length-i)*6<=l.length*6-i*6:=by omega
   refine QO (fn:=Tryz.f45) Tryz.func45 rfl (by kernel_rfl) (by simp[Tryz.f45]) ?_
   simp(config:={ maxSteps:=2000000 }) (implicitDefEqProofs:=false) (disch:=first | omega | assumption | (simp only[]; done) | fail) only[go_sem,↓reduceIte,Js,Jd,Jt,Je,Tryz.f45,hcl,hc1,hr1,KB,eL,eS,hb,hcz,hl0,hlz,hoi,hZ,hg1,hg2,hmin,hl1,ht1,hf1]
   refine Qb (id:=11) [0,1,2,3,4,5,6,7] [⟨[],[],8,[0,1,2,3,5,6],[]⟩] (by kernel_rfl) (by kernel_rfl) ?_
   simp(config:={ maxSteps:=2000000 }) (implicitDefEqProofs:=false) (disch:=first | omega | assumption | (simp only[]; done) | fail) only[go_sem,↓reduceIte,Jd,Je,hcl,ei,hg3,hmin2,hl2,hf2,hle,Ju]
   exact⟨by simp,.inr ⟨2,.inl rfl,by simp,rfl,Qg _ _ _⟩⟩
def Qpu(l:List Int)(hl:l.length<=1000000):VCalls prog 52 [.pv (.sl (fz Qx l))] [] (QhQ noK [] 1 l.length 3 (cells Qx l)):=by
 refine VCalls.newSl ?_
 by_cases hz:l=[]
 ·subst hz
  refine VCalls.open0 fun ad cap hs=>?_
  refine QO (fn:=Tryz.f52) Tryz.func52 rfl (by kernel_rfl) (by simp[Tryz.f52]) ?_
  (unfold Tryz.f52; refine rn @Tryz.underlying27 ?_)
  refine QM (fun h=>?_) (fun h=>?_)
  ·(refine rn trivial ?_; try with_reducible exact ⟨⟩)
   exact⟨by simp,.inl ⟨rfl,rfl,rfl⟩⟩
  ·(refine rn trivial ?_; try with_reducible exact ⟨⟩)
   exact⟨by simp,.inr ⟨_,.inl rfl,by simp,rfl,rfl⟩⟩
 ·have hp:0 < l.length:=Kk.2 hz
  refine QO (fn:=Tryz.f52) Tryz.func52 rfl (by kernel_rfl) (by simp[Tryz.f52]) ?_
  have h0:=Qpc Qx l hp
  have hx:(fz Qx l)[0]?.map JM=some 1:=Qmi Qx l hp
  have hb:l.length*8<=140737488355328:=by omega
  have hfl:pvs (fz Qx l)=cells Qx l:=QnV Qx l
  (unfold Tryz.f52; refine rn (Ja @Tryz.underlying27 (Ja @h0 (Ja @hx (Ja @hb @hfl)))) ?_)
  exact⟨by simp,.inr ⟨_,.inl rfl,by simp,rfl,Qg _ _ _⟩⟩
def QvH(x:Int):VCalls prog 102 [.int .i64 x] [] (Ret (.bool false)):=by
 refine dd Tryz.func102 ?_
 (unfold Tryz.f102; refine rn trivial ?_; try with_reducible exact⟨⟩)
def QbO(x:Int):VCalls prog 82 [.int .i64 x] [] (Ret (.bool false)):=by
 refine dd Tryz.func82 ?_
 (unfold Tryz.f82; refine rn trivial ?_; try with_reducible exact⟨⟩)
def QDm(x y:Int):VCalls prog 81 [.int .i64 x,.int .i64 y] [] (Ret (.bool (decide (x<y)))):=by
 refine dd Tryz.func81 ?_
 (unfold Tryz.f81; refine rn trivial ?_)
 refine rn F ?_
 repeat' (first
  | (refine sG F ?_ ?_<;>intro hZ<;>try with_reducible exact⟨⟩)
  | (refine sB F ?_ ?_<;>intro hZ<;>try with_reducible exact⟨⟩)
  | (refine sD F ?_ ?_<;>intro hZ<;>try with_reducible exact⟨⟩)
  | (refine vp F (QvH x) ?_; try with_reducible exact⟨⟩)
  | (refine vd F (QvH x) ?_; try with_reducible exact⟨⟩)
  | (refine vl F (QvH x) ?_; try with_reducible exact⟨⟩))
def Qq8(l:List Int)(hl:l.length<=1000000)(y:Int)(hF:QF7 l (fun x=>decide (x<y))) :
 VCalls prog 49 [.pv (.sl (fz Qx l)),.int .i64 y] [] (Ret (.tup [.int .i64 (lo l (fun x=>decide (x<y))),.bool ((l[lo l (fun x=>decide (x<y))]?.map fun x=>x==y).getD false)])):=by
 refine dd Tryz.func49 ?_
 (unfold Tryz.f49; refine rn trivial ?_)
 refine QpR (fun s:BS l (fun x=>decide (x<y))=>⟨54,0,[(8,.int .i64 s.j),(7,.int .i64 s.i),(6,.int .i64 l.length),(0,.pv (.sl (fz Qx l))),(1,.int .i64 y)],[]⟩) (fun s=>s.j-s.i) (BS.start l _) (by refine⟨rfl,rfl,by simp,?_,?_,.inl rfl⟩<;>(repeat' apply Ja)<;>first | rfl | trivial) ?_
 intro s
 have hij:=s.hij
 have hj:=s.hj
 have hh:=QFl s.i s.j (by omega) hij
 refine rn trivial ?_
 refine QM (fun hc1=>?_) (fun hc1=>?_)<;>simp only[decide_eq_true_eq,decide_eq_false_iff_not,Jf,Jb,Jn,Jl,Jh,Jg,beq_iff_eq,beq_eq_false_iff_ne,bne_iff_ne,bne_eq_false_iff_eq,ne_eq] at hc1
 ·have hlt:(s.i + s.j) / 2 < l.length:=by omega
  have hg:(fz Qx l)[(s.i+s.j) / 2]?=some [.lit (.int .i64 l[(s.i+s.j) / 2])]:=QFm Qx l _ hlt
  refine rn (Ja @hh @hg) ?_
  refine Qav (QDm l[(s.i+s.j) / 2] y) rfl ?_
  refine rn trivial ?_
  refine QM (fun hx=>?_) (fun hx=>?_)<;>simp only[decide_eq_true_eq,decide_eq_false_iff_not,Jf,Jb,Jn,Jl,Jh,Jg,beq_iff_eq,beq_eq_false_iff_ne,bne_iff_ne,bne_eq_false_iff_eq,ne_eq] at hx
  ·(refine rn trivial ?_; try with_reducible exact ⟨⟩)
   exact⟨s.up hF _ (by omega) (by omega) (decide_eq_true hx),by show s.j-((s.i+s.j) / 2+1)<s.j-s.i; omega,(by refine⟨rfl,rfl,by simp,?_,?_,.inl rfl⟩<;>(repeat' apply Ja)<;>first | rfl | trivial)⟩
  ·(refine rn trivial ?_; try with_reducible exact ⟨⟩)
   exact⟨s.down ((s.i+s.j) / 2) (by omega) (by omega) (decide_eq_false hx),by show(s.i+s.j) / 2-s.i<s.j-s.i; omega,(by refine⟨rfl,rfl,by simp,?_,?_,.inl rfl⟩<;>(repeat' apply Ja)<;>first | rfl | trivial)⟩
 ·have hlo:=s.fin (by omega)
  rw[hlo]
  by_cases hin:s.i<l.length
  ·have hg:(fz Qx l)[s.i]? = some [.lit (.int .i64 l[s.i])]:=QFm Qx l _ hin
   have hin':(s.i:Int)<l.length:=by omega
   have e:(l[s.i]?.map fun x=>x==y).getD false=(l[s.i]==y):=by rw[JA hin]; rfl
   rw[e]
   by_cases he:l[s.i]=y
   ·have he':(l[s.i] == y) = true:=by simpa using he
    have F:=(Ja @hin' (Ja @hg (Ja @he @he')))
    (refine rn F ?_; try with_reducible exact ⟨⟩)
    repeat' (first
     | (refine sG F ?_ ?_<;>intro hZ<;>try with_reducible exact⟨⟩)
     | (refine sB F ?_ ?_<;>intro hZ<;>try with_reducible exact⟨⟩)
     | (refine sD F ?_ ?_<;>intro hZ<;>try with_reducible exact⟨⟩)
     | (refine vp F (QbO y) ?_; try with_reducible exact⟨⟩)
     | (refine vd F (QbO y) ?_; try with_reducible exact⟨⟩)
     | (refine vl F (QbO y) ?_; try with_reducible exact⟨⟩)
     | (refine vp F (QbO _) ?_; try with_reducible exact⟨⟩)
     | (refine vd F (QbO _) ?_; try with_reducible exact⟨⟩)
     | (refine vl F (QbO _) ?_; try with_reducible exact⟨⟩))
   ·have he':(l[s.i] == y) = false:=by simpa using he
    have F:=(Ja @hin' (Ja @hg (Ja @he @he')))
    (refine rn F ?_; try with_reducible exact ⟨⟩)
    repeat' (first
     | (refine sG F ?_ ?_<;>intro hZ<;>try with_reducible exact⟨⟩)
     | (refine sB F ?_ ?_<;>intro hZ<;>try with_reducible exact⟨⟩)
     | (refine sD F ?_ ?_<;>intro hZ<;>try with_reducible exact⟨⟩)
     | (refine vp F (QbO y) ?_; try with_reducible exact⟨⟩)
     | (refine vd F (QbO y) ?_; try with_reducible exact⟨⟩)
     | (refine vl F (QbO y) ?_; try with_reducible exact⟨⟩)
     | (refine vp F (QbO _) ?_; try with_reducible exact⟨⟩)
     | (refine vd F (QbO _) ?_; try with_reducible exact⟨⟩)
     | (refine vl F (QbO _) ?_; try with_reducible exact⟨⟩))
  ·have hin':¬ (s.i:Int) < l.length:=by omega
   have e:(l[s.i]?.map fun x=>x==y).getD false=false:=by rw[List.getElem?_eq_none (by omega)]; rfl
   rw[e]
   have F:=@hin'
   (refine rn F ?_; try with_reducible exact ⟨⟩)
   repeat' (first
    | (refine sG F ?_ ?_<;>intro hZ<;>try with_reducible exact⟨⟩)
    | (refine sB F ?_ ?_<;>intro hZ<;>try with_reducible exact⟨⟩)
    | (refine sD F ?_ ?_<;>intro hZ<;>try with_reducible exact⟨⟩)
    | (refine vp F (QbO y) ?_; try with_reducible exact⟨⟩)
    | (refine vd F (QbO y) ?_; try with_reducible exact⟨⟩)
    | (refine vl F (QbO y) ?_; try with_reducible exact⟨⟩))
def Qvq(l:List Int)(i:Nat)(hi:i<l.length)(hl:l.length<=1000000) :
 VCalls prog 51 [.own 0 1 0 l.length,.int .i64 i,.int .i64 ((i:Int)+1)] [⟨3,true,cells Qx l⟩]
  (QhQ noK [⟨3,true,cells Qx l⟩] 1 (l.length-1) 3 (cells Qx (l.take i++l.drop (i+1)))):=by
 refine VCalls.newSl_cut (t:=[.pv (.lit (.int .i64 0))]) ?_
 refine VCalls.newSl ?_
 refine VCalls.room (by omega) fun cap hcap=>?_
 refine QO (fn:=Tryz.f51) Tryz.func51 rfl (by kernel_rfl) (by simp[Tryz.f51]) ?_
 have hcl:(cells Qx l).length=l.length:=QdW l
 have ei:((i:Int)+1).toNat=i+1:=by omega
 have hic:i+1<=cap:=by omega
 have hic2:i<=cap:=by omega
 have hic3:i+1<=l.length:=by omega
 (unfold Tryz.f51; refine rn (Ja @ei (Ja @hic (Ja @hic2 @hic3))) ?_)
 refine Qb (id:=5) [0,1,2,3,4,5] [⟨[],[],6,[0,1,3,4],[]⟩,⟨[],[],7,[],[]⟩] (by kernel_rfl) (by kernel_rfl) ?_
 have hA:i+(l.length-(i+1))=l.length-1:=by omega
 have hB:(l.length-1)*8<=140737488355328:=by omega
 have hC:i<=l.length:=by omega
 have hD:l.length-1<=cap:=by omega
 have hE:(l.length-(i+1))<=l.length-(i+1):=by omega
 have hF:(i+1)+(l.length-(i+1))<=l.length:=by omega
 have hG:l.length-(l.length-1)=1:=by omega
 have hH:(l.length-1)+1<=l.length:=by omega
 have hH':(l.length-1)+1<=l.length:=by omega
 have hI:splice (cells Qx (l.take i++l.drop (i+1)++l.drop (l.length-1))) ((l.length-1)) [.pv (.lit (.int .i64 0))]=cells Qx (l.take i++l.drop (i+1))++[.pv (.lit (.int .i64 0))]:=by simpa [Qx] using QDf Qx l i hi [.pv (.lit (.int .i64 0))] rfl
 have hJ:(cells Qx (l.take i++l.drop (i+1)++l.drop (l.length-1))).length=l.length:=by simpa [Qx] using QDg Qx l i hi
 have hup:splice (cells Qx l) (i) (((cells Qx l).drop ((i+1))).take ((l.length-(i+1))))=cells Qx (l.take i++l.drop (i+1)++l.drop (l.length-1)):=by simpa [Qx] using QAi Qx l i hi
 have hup2:splice (cells Qx l) (i) ((cells Qx l).drop ((i+1)))=cells Qx (l.take i++l.drop (i+1)++l.drop (l.length-1)):=by simpa [Qx] using QDe Qx l i hi
 have hdl:=Qn4 l i hi
 simp(config:={ maxSteps:=2000000 }) (implicitDefEqProofs:=false) (disch:=first | omega | assumption | (simp only[]; done) | fail) only[go_sem,V.mk,↓reduceIte,JB,Jd,JC,Je,ei,hcl,hA,hB,hC,hD,hE,hup,hG,hH,hI,hJ,Ju]
 exact⟨by simp,.inr ⟨0,.inr ⟨cap,by omega,rfl⟩,by simp,rfl,QuH (Qg _ _ _) (by simp[DV.nums,DV.nums.go])⟩⟩
def Qkt(l:List Int):VCalls prog 50 [.pv (.sl (fz Qx l))] [] (Ret (.pv (.slc (fz Qx l)))):=by
 refine dd Tryz.func50 ?_
 (unfold Tryz.f50; refine rn trivial ?_; try with_reducible exact⟨⟩)
end
section
attribute [local go_sem] DV.ipK DV.ipK.go Tx.d Quf Qwh Qzw Qw8 Qw6 QmO Qwe Qwi Qwd Qwc Qhn Jc Ji Ju Jz Qbk QaV
def QhM(l:List Int)(hl:l.length<=1000000)(lo hi d:Int)(h1:0<=lo)(h2:hi<=1099511627776)(h3:0<=d/\d<=1):VCalls prog 88 [.pv (.sl (fz Qx l)),.int .i64 lo,.int .i64 hi,.int .i64 d] [] (Ret (.bool (Qgy l lo hi d))):=by
 refine dd Tryz.func88 ?_
 (unfold Tryz.f88; refine rn trivial ?_)
 refine Qj (fun s:Okay l.length (Qzv l lo hi d)=>⟨42,0,[(13,.int .i64 s.i),(12,.int .i64 l.length),(11,.pv (.sl (fz Qx l))),(3,.int .i64 d),(2,.int .i64 hi),(1,.int .i64 lo),(0,.pv (.sl (fz Qx l)))],[]⟩) (fun s=>l.length-s.i) (Okay.start _ _) (.inl (by refine⟨rfl,rfl,by simp,?_,?_,.inr ⟨?_,?_⟩⟩<;>(repeat' apply Ja)<;>first | rfl | trivial | (intro _; first | rfl | apply QfA))) ?_
 intro s
 have hsi:=s.hi
 have hprev:0<s.i->Qzv l lo hi d (s.i-1)=true:=fun h=>s.ok _ (by omega)
 simp only[Qbu] at hprev
 have hg:=fun h:s.i<l.length=>QV l s.i h
 have hgp:0<(s.i:Int)->(s.i:Int)<l.length->(fz Qx l)[((s.i:Int)-1).toNat]?=some [.lit (.int .i64 (l.getD (s.i-1) 0))]:=fun h h2=>by
  rw[show((s.i:Int)-1).toNat=s.i-1 by omega]; exact QV l (s.i-1) (by omega)
 have hgq:=fun h:s.i-1<l.length=>QV l (s.i-1) h
 have F:=(Ja @hg (Ja @hgp @hgq))
 refine rn F ?_
 repeat' (first
  | (refine sG F ?_ ?_<;>intro hZ<;>try with_reducible exact⟨⟩)
  | (refine sB F ?_ ?_<;>intro hZ<;>try with_reducible exact⟨⟩)
  | (refine sD F ?_ ?_<;>intro hZ<;>try with_reducible exact⟨⟩))
 all_goals first
  | (rw[Qgy,Qai (i:=s.i) (by omega) (Jq.2 fun h=>by rw[Qbu] at h; omega)])
  | (exact⟨s.next (by omega) ((Qbu _ _ _ _ _).2 (by omega)),by show l.length-(s.i+1)<l.length-s.i; omega,(gc [])⟩)
  | (rw[Qgy,s.all (by omega)])
  | skip
def QBL(t:Tx)(hs:t.sm):VCalls prog 57 [.agg t.d] [] (Ret (.bool t.okB)):=by
 refine dd Tryz.func57 ?_
 obtain⟨id,st,n,b,l,s⟩:=t
 obtain⟨hs1,hs2⟩:=hs
 have h1:=fun(h0:l.length<=4096) h=>QhM l (by omega) 1 n 1 (by omega) h (by omega)
 have h2:=fun(h0:s.length<=8) h=>QhM s (by omega) 0 n 0 (by omega) h (by omega)
 have e:(⟨id,st,n,b,l,s⟩:Tx).okB=((⟨id,st,n,b,l,s⟩:Tx).hdB&&Qgy l 1 n 1&&Qgy s 0 n 0):=rfl
 have eh:(⟨id,st,n,b,l,s⟩:Tx).hdB=(decide (1<=id)&&decide (id<=1073741824)&&decide (1<=st)&&decide (st<=3)&&decide (0<=n)&&decide (n<=1099511627776)&&(decide (b=0)||(decide (st=2)&&decide (0<b)&&decide (b<=n)))&&decide (l.length<=4096)&&decide (s.length<=8)):=rfl
 have no:¬ (⟨id,st,n,b,l,s⟩:Tx).hdB=true->(⟨id,st,n,b,l,s⟩:Tx).okB=false:=fun h=>by rw[e,Jq.2 h]; rfl
 simp only[Jq] at no
 generalize (⟨id,st,n,b,l,s⟩:Tx).hdB=H at *
 generalize (⟨id,st,n,b,l,s⟩:Tx).okB=K at *
 dsimp only[Tx.d]
 generalize Qgy l 1 n 1=P at *
 generalize Qgy s 0 n 0=Q at *
 (unfold Tryz.f57; refine rn trivial ?_)
 refine rn F ?_
 repeat' (first
  | (refine sG F ?_ ?_<;>intro hZ<;>try with_reducible exact⟨⟩)
  | (refine sB F ?_ ?_<;>intro hZ<;>try with_reducible exact⟨⟩)
  | (refine sD F ?_ ?_<;>intro hZ<;>try with_reducible exact⟨⟩)
  | (refine vp F (h1 (by omega) (by omega)) ?_; try with_reducible exact⟨⟩)
  | (refine vd F (h1 (by omega) (by omega)) ?_; try with_reducible exact⟨⟩)
  | (refine vl F (h1 (by omega) (by omega)) ?_; try with_reducible exact⟨⟩)
  | (refine vp F (h2 (by omega) (by omega)) ?_; try with_reducible exact⟨⟩)
  | (refine vd F (h2 (by omega) (by omega)) ?_; try with_reducible exact⟨⟩)
  | (refine vl F (h2 (by omega) (by omega)) ?_; try with_reducible exact⟨⟩))
 all_goals first
  | (rw[e,show P=true from by assumption,show H=true from by rw[eh]; simp only[Jb,Jf,decide_eq_true_eq]; omega]; rfl)
  | (rw[e,Jq.2 (show ¬ H=true from fun h=>by rw[eh] at h; simp only[Jb,Jf,decide_eq_true_eq] at h; omega)]; rfl)
  | (rw[e,Jq.2 (show ¬ P=true from by assumption),JD,Kf])
  | (rw[e,show P=false from by assumption,JD,Kf])
  | skip
def Qgh(l:List Tx)(hl:smL l):VCalls prog 21 [.pv (.sl (fz Qu l))] [] (Ret (.bool (QaF l))):=by
 refine dd Tryz.func21 ?_
 obtain⟨hl,hm⟩:=hl
 have hr:=fun(i:Nat) (h:i<l.length)=>QBL (l.getD i Tx0) (by rw[Qc l i h]; exact hm _ (JQ h))
 unfold Tx.d at hr
 (unfold Tryz.f21; refine rn trivial ?_)
 refine rn F ?_
 repeat' (first
  | (refine sG F ?_ ?_<;>intro hZ<;>try with_reducible exact⟨⟩)
  | (refine sB F ?_ ?_<;>intro hZ<;>try with_reducible exact⟨⟩)
  | (refine sD F ?_ ?_<;>intro hZ<;>try with_reducible exact⟨⟩)
  | (refine Qb (id:=6) [0] [⟨[],[],1,[],[2,3,4,5,6,7,8,9,10,11,12,13,14,15,16,17]⟩] (by kernel_rfl) (by kernel_rfl) ?_; refine rn F ?_; try with_reducible exact⟨⟩)
  | (refine Qby (by kernel_rfl) (by kernel_rfl) ?_; refine rn F ?_; try with_reducible exact⟨⟩))
 ·rw[QaF,decide_eq_false (by omega)]; rfl
 refine Qj (fun s:Okay l.length (tC l)=>⟨34,0,[(10,.int .i64 s.i),(9,.int .i64 l.length),(8,.pv (.sl (fz Qu l))),(0,.pv (.sl (fz Qu l)))],[]⟩) (fun s=>l.length-s.i) (Okay.start _ _) (.inl (by refine⟨rfl,rfl,by simp,?_,?_,.inr ⟨?_,?_⟩⟩<;>(repeat' apply Ja)<;>first | rfl | trivial | (intro _; first | rfl | apply QfA))) ?_
 intro s
 have hsi:=s.hi
 have hg:s.i<l.length->(fz Qu l)[s.i]?=some [.lit (.int .i64 (l.getD s.i Tx0).id),.lit (.int .i64 (l.getD s.i Tx0).st),.lit (.int .i64 (l.getD s.i Tx0).n),.lit (.int .i64 (l.getD s.i Tx0).b),.sl (fz Qx (l.getD s.i Tx0).l),.sl (fz Qx (l.getD s.i Tx0).s)]:=fun h=>by rw[Qc l s.i h]; exact Qd7 l s.i h
 have hd:=fun h:s.i<l.length=>Qc l s.i h Tx0
 have hgq:s.i-1<l.length->(fz Qu l)[s.i-1]?=some [.lit (.int .i64 (l.getD (s.i-1) Tx0).id),.lit (.int .i64 (l.getD (s.i-1) Tx0).st),.lit (.int .i64 (l.getD (s.i-1) Tx0).n),.lit (.int .i64 (l.getD (s.i-1) Tx0).b),.sl (fz Qx (l.getD (s.i-1) Tx0).l),.sl (fz Qx (l.getD (s.i-1) Tx0).s)]:=fun h=>by rw[Qc l (s.i-1) h]; exact Qd7 l (s.i-1) h
 have F:=(Ja @hg @hgq)
 refine rn F ?_
 repeat' (first
  | (refine sG F ?_ ?_<;>intro hZ<;>try with_reducible exact⟨⟩)
  | (refine sB F ?_ ?_<;>intro hZ<;>try with_reducible exact⟨⟩)
  | (refine sD F ?_ ?_<;>intro hZ<;>try with_reducible exact⟨⟩)
  | (refine vp F (hr s.i (by omega)) ?_; try with_reducible exact⟨⟩)
  | (refine vd F (hr s.i (by omega)) ?_; try with_reducible exact⟨⟩)
  | (refine vl F (hr s.i (by omega)) ?_; try with_reducible exact⟨⟩)
  | (refine Qb (id:=6) [0] [⟨[],[],1,[],[2,3,4,5,6,7,8,9,10,11,12,13,14,15,16,17]⟩] (by kernel_rfl) (by kernel_rfl) ?_; refine rn F ?_; try with_reducible exact⟨⟩)
  | (refine Qby (by kernel_rfl) (by kernel_rfl) ?_; refine rn F ?_; try with_reducible exact⟨⟩))
 all_goals first
  | (rw[QaF,Qai (i:=s.i) (by omega) (Jq.2 fun h=>by rw[Qd4] at h; omega),JD])
  | (rw[QaF,Qai (i:=s.i) (by omega) (Jq.2 fun h=>by rw[Qd4] at h; first | exact absurd h.1 (by assumption) | (have h1:=h.1; simp_all)),JD])
  | (rw[QaF,s.all (by omega),decide_eq_true (by omega)]; rfl)
  | (exact⟨s.next (by omega) ((Qd4 _ _).2 ⟨by assumption,by omega⟩),by show l.length-(s.i+1)<l.length-s.i; omega,(gc [])⟩)
  | skip
def Qmc(l:List Tx)(hl:l.length<=1000000)(g:FuncId)(caps:List DV)(hc:DV.nums.go (fun _=>false) caps=true)(p:Tx->Bool)(hf:∀ x∈l,VCalls prog g (.agg x.d::caps) [] (Ret (.bool (p x)))) :
 VCalls prog 43 [.pv (.sl (fz Qu l)),.fn (.func g) [] caps] [] (Ret (.int .i64 (Qhr l p))):=by
 refine dd Tryz.func43 ?_
 unfold Tx.d at hf
 (unfold Tryz.f43; refine rn trivial ?_)
 refine QpR (fun i:Pass l (fun x=>p x=true)=>⟨19,0,[(8,.int .i64 i.i),(7,.int .i64 l.length),(0,.pv (.sl (fz Qu l))),(1,.fn (.func g) [] caps)],[]⟩) (fun i=>l.length-i.i) (Pass.start l _) (by refine⟨rfl,rfl,by simp,?_,?_,.inl rfl⟩<;>(repeat' apply Ja)<;>first | rfl | trivial) ?_
 intro i
 have hi:=i.hi
 refine rn trivial ?_
 refine QM (fun hc1=>?_) (fun hc1=>?_)<;>simp only[decide_eq_true_eq,decide_eq_false_iff_not,Jf,Jb,Jn,Jl,Jh,Jg,beq_iff_eq,beq_eq_false_iff_ne,bne_iff_ne,bne_eq_false_iff_eq,ne_eq] at hc1
 ·have hlt:i.i < l.length:=by omega
  have hg:=Qd7 l i.i hlt
  have hm:=hf l[i.i] (JQ hlt)
  refine rn @hg ?_
  refine Qav hm (by simpa [DV.nums.go,DV.nums] using hc) ?_
  refine rn trivial ?_
  refine QM (fun hx=>?_) (fun hx=>?_)
  ·(refine rn trivial ?_; try with_reducible exact ⟨⟩)
   rw[QnP l p i.i hlt hx i.no]
  ·(refine rn trivial ?_; try with_reducible exact ⟨⟩)
   exact⟨i.next hlt (by rw[hx]; simp),by show l.length-(i.i+1)<l.length-i.i; omega,(by refine⟨rfl,rfl,by simp,?_,?_,.inl rfl⟩<;>(repeat' apply Ja)<;>first | rfl | trivial)⟩
 ·(refine rn trivial ?_; try with_reducible exact ⟨⟩)
  have:=i.all (by omega)
  rw[Qhr,if_neg (by simpa using this)]
def QC4(t:Tx)(a:Int):VCalls prog 44 [.agg t.d,.ip [.lit (.int .i64 a)]] [] (Ret (.bool (t.id==a))):=by
 refine dd Tryz.func44 ?_
 (unfold Tryz.f44; refine rn trivial ?_; try with_reducible exact⟨⟩)
def Qi1(l:List Tx)(hl:l.length<=1000000)(a:Int):VCalls prog 16 [.pv (.sl (fz Qu l)),.int .i64 a] [] (Ret (.int .i64 (Qhr l fun t=>t.id==a))):=by
 refine dd Tryz.func16 ?_
 have hi:=Qmc l hl 44 [.ip [.lit (.int .i64 a)]] rfl (fun t=>t.id==a) (fun t _=>QC4 t a)
 (unfold Tryz.f16; refine rn trivial ?_)
 refine rn F ?_
 repeat' (first
  | (refine sG F ?_ ?_<;>intro hZ<;>try with_reducible exact⟨⟩)
  | (refine sB F ?_ ?_<;>intro hZ<;>try with_reducible exact⟨⟩)
  | (refine sD F ?_ ?_<;>intro hZ<;>try with_reducible exact⟨⟩)
  | (refine vp F (hi) ?_; try with_reducible exact⟨⟩)
  | (refine vd F (hi) ?_; try with_reducible exact⟨⟩)
  | (refine vl F (hi) ?_; try with_reducible exact⟨⟩))
def Qks(l:List Tx)(hl:l.length<=1000000):VCalls prog 46 [.pv (.sl (fz Qu l))] [] (QhQ noK [] 6 l.length 71 (cells Qu l)):=by
 refine VCalls.newSl ?_
 by_cases hz:l=[]
 ·subst hz
  refine VCalls.open0 fun ad cap hs=>?_
  refine QO (fn:=Tryz.f46) Tryz.func46 rfl (by kernel_rfl) (by simp[Tryz.f46]) ?_
  (unfold Tryz.f46; refine rn @Tryz.underlying56 ?_)
  refine QM (fun h=>?_) (fun h=>?_)
  ·(refine rn trivial ?_; try with_reducible exact ⟨⟩)
   exact⟨by simp,.inl ⟨rfl,rfl,rfl⟩⟩
  ·(refine rn trivial ?_; try with_reducible exact ⟨⟩)
   exact⟨by simp,.inr ⟨_,.inl rfl,by simp,rfl,rfl⟩⟩
 ·have hp:0 < l.length:=Kk.2 hz
  refine QO (fn:=Tryz.f46) Tryz.func46 rfl (by kernel_rfl) (by simp[Tryz.f46]) ?_
  have h0:=Qpc Qu l hp
  have hx:(fz Qu l)[0]?.map JM=some 6:=Qmi Qu l hp
  have hb:l.length*80<=140737488355328:=by omega
  have hfl:pvs (fz Qu l)=cells Qu l:=QnV Qu l
  (unfold Tryz.f46; refine rn (Ja @Tryz.underlying56 (Ja @h0 (Ja @hx (Ja @hb @hfl)))) ?_)
  exact⟨by simp,.inr ⟨_,.inl rfl,by simp,rfl,Qg _ _ _⟩⟩
def Qx6(l:List Tx)(a:Int)(i:Nat)(h:i<l.length):VCalls prog 78 [.int .i64 i,.ip [.sl (fz Qu l)],.ip [.lit (.int .i64 a)]] [] (Ret (.bool (!decide (l[i].id<a)))):=by
 refine dd Tryz.func78 ?_
 have hg:=Qd7 l i h
 (unfold Tryz.f78; refine rn trivial ?_)
 have F:=@hg
 refine rn F ?_
 repeat' (first
  | (refine sG F ?_ ?_<;>intro hZ<;>try with_reducible exact⟨⟩)
  | (refine sB F ?_ ?_<;>intro hZ<;>try with_reducible exact⟨⟩)
  | (refine sD F ?_ ?_<;>intro hZ<;>try with_reducible exact⟨⟩)
  | (refine Qb (id:=1) [0,1,2,3,4,5,6] [⟨[],[],7,[],[]⟩] (by kernel_rfl) (by kernel_rfl) ?_; refine rn F ?_; try with_reducible exact⟨⟩)
  | (refine Qby (by kernel_rfl) (by kernel_rfl) ?_; refine rn F ?_; try with_reducible exact⟨⟩))
 rw[show(!decide (l[i].id<a))=decide (a<=l[i].id) by rw[Jp]; simp]
def QB1(l:List Tx)(hl:l.length<=1000000)(h:(l.map (·.id)).Pairwise (·<·))(a:Int):VCalls prog 47 [.pv (.sl (fz Qu l)),.int .i64 a] [] (Ret (.int .i64 (lo l fun t=>decide (t.id<a)))):=by
 refine dd Tryz.func47 ?_
 have hi:=Qxd l hl (fun t=>decide (t.id<a)) 78 [.ip [.sl (fz Qu l)],.ip [.lit (.int .i64 a)]] rfl (fun i h=>Qx6 l a i h) (QyB l h a)
 (unfold Tryz.f47; refine rn trivial ?_)
 refine rn F ?_
 repeat' (first
  | (refine sG F ?_ ?_<;>intro hZ<;>try with_reducible exact⟨⟩)
  | (refine sB F ?_ ?_<;>intro hZ<;>try with_reducible exact⟨⟩)
  | (refine sD F ?_ ?_<;>intro hZ<;>try with_reducible exact⟨⟩)
  | (refine vp F (hi) ?_; try with_reducible exact⟨⟩)
  | (refine vd F (hi) ?_; try with_reducible exact⟨⟩)
  | (refine vl F (hi) ?_; try with_reducible exact⟨⟩))
def QqU(l:List Tx)(hl:l.length<=1000000)(g:FuncId)(caps:List DV)(hc:DV.nums.go (fun _=>false) caps=true)(hcf:∀ hp,Qi (caps.map (Qpj hp))=some caps)(p:Tx->Bool)(hf:∀ x∈l,VCalls prog g (.agg (Tx.d x)::caps) [] (Ret (.bool (p x)))) :
 VCalls prog 83 [.own 0 6 0 l.length,.fn (.func g) [] caps] [⟨71,true,cells Qu l⟩]
  (QhQ noK [⟨71,true,cells Qu l⟩] 6 (Qal l p).length 71 (cells Qu (Qal l p))):=by
 have hfn:∀ {q},(DV.fn (.func g) [] caps).nums q=true:=fun {q}=>Qhg q _ (by simpa [DV.nums,DV.nums.go] using hc)
 have hfr:∀ {σ},(DV.fn (.func g) [] caps).ren σ=DV.fn (.func g) [] caps:=fun {σ}=>Qd5 σ _ (by simpa [DV.nums,DV.nums.go] using hc)
 refine VCalls.newSl_cut (t:=mk [.pv (.lit (.int .i64 0)),.pv (.lit (.int .i64 0)),.pv (.lit (.int .i64 0)),.pv (.lit (.int .i64 0)),.pv (.slc []),.pv (.slc [])] (l.length-(Qal l p).length)) ?_
 refine VCalls.newSl ?_
 have fin:∀ (r:DV) (h':Qa),r=.own 0 6 0 (Qal l p).length->(∃ rest,h'=⟨71,true,cells Qu (Qal l p)++mk [.pv (.lit (.int .i64 0)),.pv (.lit (.int .i64 0)),.pv (.lit (.int .i64 0)),.pv (.lit (.int .i64 0)),.pv (.slc []),.pv (.slc [])] (l.length-(Qal l p).length)⟩::rest)->QAo noK [⟨71,true,cells Qu l⟩] 6 (Qal l p).length 71 (cells Qu (Qal l p)++mk [.pv (.lit (.int .i64 0)),.pv (.lit (.int .i64 0)),.pv (.lit (.int .i64 0)),.pv (.lit (.int .i64 0)),.pv (.slc []),.pv (.slc [])] (l.length-(Qal l p).length)) r h':=by
  rintro r h' rfl ⟨rest,rfl⟩
  exact⟨by simp,.inr ⟨0,.inl rfl,by simp,rfl,QuH (Qg _ _ _) (Qt9 _ _ (by simp[DV.nums,DV.nums.go]) _)⟩⟩
 refine QO (fn:=Tryz.f83) Tryz.func83 rfl (by kernel_rfl) (by simp[Tryz.f83]) ?_
 (unfold Tryz.f83; refine rn trivial ?_)
 refine Qok (Qmc l hl g caps hc p hf) (QzA (QyR Qu l rfl) (by rw[QuV,hcf]; rfl)) rfl ?_
 refine rn trivial ?_
 refine QM (fun hx=>?_) (fun hx=>?_)
 ·(refine rn trivial ?_; try with_reducible exact ⟨⟩)
  have hno:∀ x∈l,¬ p x=true:=by
   intro x hm hp
   rw[Qhr,if_pos (JJ.2 ⟨x,hm,hp⟩)] at hx
   simp at hx
  have hk:=Qfo l p hno
  refine fin _ _ (by rw[hk]) ⟨[],by rw[hk,Nat.sub_self]; simp[V.mk]⟩
 ·have hany:l.any p = true:=by
   cases ha:l.any p with
   | true=>rfl
   | false=>rw[Qhr,ha] at hx; simp at hx
  obtain⟨i,hi,hpi,hno,hidx⟩:∃ i,∃ h:i<l.length,p l[i]=true/\(∀ x∈l.take i,¬ p x=true)/\Qhr l p=i:=by
   obtain⟨x,hm,hp⟩:=JJ.1 hany
   have hlt:=JH ⟨x,hm,hp⟩
   refine⟨l.findIdx p,hlt,JY (w:=hlt),fun y hy=>?_,by rw[Qhr,if_pos hany]⟩
   obtain⟨k,hk,rfl⟩:=JO.1 hy
   have:=J8 (p:=p) (xs:=l) (i:=k) (by omega)
   simpa using this
  rw[hidx]
  refine rn trivial ?_
  refine Qj (fun s:DF l p=>⟨42,1,[(6,.int .i64 s.j),(5,.int .i64 s.i),(0,.own 0 6 0 l.length),(1,.fn (.func g) [] caps)],[⟨71,true,cells Qu s.cur⟩]⟩) (fun s=>l.length-s.j) (DF.start l p i hi hpi hno) ?_ ?_
  ·have e0:=DF.start_i l p i hi hpi hno
   have ej:(DF.start l p i hi hpi hno).j=i+1:=rfl
   have ec:(DF.start l p i hi hpi hno).cur=l:=rfl
   rw[e0,ej,ec]
   exact(by refine QuM (keep:=[0]) rfl rfl rfl (by decide) ?_ ?_<;>(repeat' apply Ja)<;>first | trivial | rfl | exact hfr.symm | exact hfn | exact⟨_,rfl,rfl,rfl,.inl ⟨Qg _ _ _,rfl⟩⟩)
  intro s
  have hsj:=s.hj
  have hcl:=s.hl
  have hlen:(cells Qu s.cur).length=s.cur.length*6:=Qo Qu _
  rw[hcl] at hlen
  refine rn trivial ?_
  refine QM (fun hc1=>?_) (fun hc1=>?_)<;>simp only[decide_eq_true_eq,decide_eq_false_iff_not,Jf,Jb,Jn,Jl,Jh,Jg,beq_iff_eq,beq_eq_false_iff_ne,bne_iff_ne,bne_eq_false_iff_eq,ne_eq] at hc1
  ·have hlt:s.j < l.length:=by omega
   have hg:=Qpv Qu s.cur s.j (by omega)
   rw[show s.cur[s.j]'(by omega)=l[s.j] from by rw[<- s.get hlt Tx0,Qc]] at hg
   have hg':((cells Qu s.cur).drop (s.j*6)).take 6=([.lit (.int .i64 l[s.j].id),.lit (.int .i64 l[s.j].st),.lit (.int .i64 l[s.j].n),.lit (.int .i64 l[s.j].b),.sl (fz Qx l[s.j].l),.sl (fz Qx l[s.j].s)]:List PV).map DV.pv:=hg
   have hm:=hf l[s.j] (JQ hlt)
   have hb1:s.j*6+6<=l.length*6:=by omega
   refine rn (Ja @hg' (Ja @hlen @hb1)) ?_
   refine Qav hm (by simpa [DV.nums.go,DV.nums] using hc) ?_
   refine rn trivial ?_
   refine QM (fun hp=>?_) (fun hp=>?_)
   ·have hp':¬ p l[s.j] = true:=by simpa using hp
    have hil:s.i<l.length:=by have:=s.h3; show(Qal (l.take s.j) p).length<_; omega
    have hse:splice (cells Qu s.cur) (s.i*6) (([.lit (.int .i64 l[s.j].id),.lit (.int .i64 l[s.j].st),.lit (.int .i64 l[s.j].n),.lit (.int .i64 l[s.j].b),.sl (fz Qx l[s.j].l),.sl (fz Qx l[s.j].s)]:List PV).map DV.pv)=cells Qu (s.cur.set s.i l[s.j]):=QiF Qu s.cur s.i l[s.j] (by omega)
    simp only[List.map_cons,KE] at hse
    have hb2:s.i*6+6<=l.length*6:=by omega
    simp(config:={ maxSteps:=2000000 }) (implicitDefEqProofs:=false) (disch:=first | omega | assumption | (simp only[]; done) | fail) only[go_sem,↓reduceIte,Js,Jd,Jt,Je,hse,hlen,hb2]
    refine⟨s.stay hlt hp',by show l.length-(s.j+1)<l.length-s.j; omega,?_⟩
    rw[s.stay_i hlt hp']
    exact(by refine QuM (keep:=[0]) rfl rfl rfl (by decide) ?_ ?_<;>(repeat' apply Ja)<;>first | trivial | rfl | exact hfr.symm | exact hfn | exact⟨_,rfl,rfl,rfl,.inl ⟨Qg _ _ _,rfl⟩⟩)
   ·have hp':p l[s.j] = true:=by simpa using hp
    refine rn trivial ?_
    refine⟨s.out hlt hp',by show l.length-(s.j+1)<l.length-s.j; omega,?_⟩
    rw[s.out_i hlt hp']
    exact(by refine QuM (keep:=[0]) rfl rfl rfl (by decide) ?_ ?_<;>(repeat' apply Ja)<;>first | trivial | rfl | exact hfr.symm | exact hfn | exact⟨_,rfl,rfl,rfl,.inl ⟨Qg _ _ _,rfl⟩⟩)
  ·have hjl:s.j = l.length:=by omega
   have hil:s.i<l.length:=by have:=s.h3; show(Qal (l.take s.j) p).length<_; omega
   have hfit:s.i+(l.length-s.i)=s.cur.length:=by omega
   have hfit2:s.i*6+(l.length-s.i)*6<=l.length*6:=by omega
   have hcz:splice (cells Qu s.cur) (s.i*6) (mk [.pv (.lit (.int .i64 0)),.pv (.lit (.int .i64 0)),.pv (.lit (.int .i64 0)),.pv (.lit (.int .i64 0)),.pv (.slc []),.pv (.slc [])] (l.length-s.i))=cells Qu (s.cur.take s.i)++mk [.pv (.lit (.int .i64 0)),.pv (.lit (.int .i64 0)),.pv (.lit (.int .i64 0)),.pv (.lit (.int .i64 0)),.pv (.slc []),.pv (.slc [])] (l.length-s.i):=Qzg Qu s.cur s.i (l.length-s.i) [.pv (.lit (.int .i64 0)),.pv (.lit (.int .i64 0)),.pv (.lit (.int .i64 0)),.pv (.lit (.int .i64 0)),.pv (.slc []),.pv (.slc [])] rfl hfit
   have ei:s.i=(Qal l p).length:=by show(Qal (l.take s.j) p).length=_; rw[hjl,Jz]
   have et:s.cur.take s.i=Qal l p:=by have:=s.h1; rw[hjl,Jz] at this; rw[ei]; exact this
   simp(config:={ maxSteps:=2000000 }) (implicitDefEqProofs:=false) (disch:=first | omega | assumption | (simp only[]; done) | fail) only[go_sem,↓reduceIte,Js,JB,Jd,JC,Jt,Je,hlen,hfit2,hcz]
   refine fin _ _ (by rw[ei]) ⟨[],?_⟩
   rw[et,ei]
def QvS (l:List Tx) (hs:smL l) (a:Int):VCalls prog 17 [.pv (.sl (fz Qu l)),.int .i64 a] [] (Ret (Qou (QN l a))):=by
 refine VCalls.unwk ?_
 refine dd Tryz.func17 ?_
 have hl:=hs.1
 have c1:=Qgh l hs
 have c2:=Qi1 l hl a
 have c3:=fun h=>QB1 l hl (QcI h) a
 have hp:QmN l a<=l.length:=QE3 _ _
 have c4:=Quy l ⟨a,1,0,0,[],[]⟩ (QmN l a) hp hl
 have eS:QN l a=if QaF l=false then ([],15) else if a<1\/1073741824<a then ([],1) else if 0<=idT l a then ([],25) else if l.length=64 then ([],21) else (l.take (QmN l a)++⟨a,1,0,0,[],[]⟩::l.drop (QmN l a),0):=rfl
 change ∀ h,VCalls _ _ _ _ (Ret (.int .i64 (QmN l a))) at c3
 change VCalls _ _ _ _ (Ret (.int .i64 (idT l a))) at c2
 generalize QmN l a=p at *
 generalize idT l a=d at *
 rw[eS]
 (unfold Tryz.f17; refine rn trivial ?_)
 refine rn F ?_
 repeat' (first
  | (refine sG F ?_ ?_<;>intro hZ<;>try with_reducible exact⟨⟩)
  | (refine sB F ?_ ?_<;>intro hZ<;>try with_reducible exact⟨⟩)
  | (refine sD F ?_ ?_<;>intro hZ<;>try with_reducible exact⟨⟩)
  | (refine vp F (c1) ?_; try with_reducible exact⟨⟩)
  | (refine vd F (c1) ?_; try with_reducible exact⟨⟩)
  | (refine vl F (c1) ?_; try with_reducible exact⟨⟩)
  | (refine vp F (c2) ?_; try with_reducible exact⟨⟩)
  | (refine vd F (c2) ?_; try with_reducible exact⟨⟩)
  | (refine vl F (c2) ?_; try with_reducible exact⟨⟩)
  | (refine QgM (Qks l hl) rfl (Qg _ _ _) ?_; refine rn F ?_; try with_reducible exact⟨⟩)
  | (refine vp F (c3 (by assumption)) ?_; try with_reducible exact⟨⟩)
  | (refine vd F (c3 (by assumption)) ?_; try with_reducible exact⟨⟩)
  | (refine vl F (c3 (by assumption)) ?_; try with_reducible exact⟨⟩))
 all_goals first
  | (repeat (first | rw [if_pos (by first | assumption | omega)] | rw [if_neg (by first | assumption | omega | (rw [show QaF l = true by assumption]; decide))])
     rfl)
  | skip
 refine VCalls.wkH ?_; simp only[QeR,Qdl,Qc1,Qcm,DV.wk,PV.wk,QD2]
 refine Qm7 [0,1] [0,1] c4 rfl ⟨⟨by simp,Qg _ _ _⟩,⟨by simp,rfl⟩,trivial⟩ (by decide) rfl rfl rfl (Qg _ _ _) ?_
 refine rn @QmO ?_
 repeat (first | rw[if_pos (by first | assumption | omega)] | rw[if_neg (by first | assumption | omega | (rw[show QaF l=true by assumption]; decide))])
 rfl
def QBk(l:List Tx)(i:Nat)(t:Tx)(hi:i<l.length):(cells Qu l).take (i*6)++[.pv (.lit (.int .i64 t.id)),.pv (.lit (.int .i64 t.st)),.pv (.lit (.int .i64 t.n)),.pv (.lit (.int .i64 t.b)),.pv (.sl (fz Qx t.l)),.pv (.sl (fz Qx t.s))]++(cells Qu l).drop (i*6+6)=cells Qu (l.set i t):=QiF Qu l i t hi
def Qrv(l:List Tx)(hl:l.length<=1000000)(t:Tx)(i:Nat)(hi:i<l.length)(h:idT l t.id=i):VCalls prog 55 [.pv (.sl (fz Qu l)),.agg t.d] [] (Ret (.pv (.sl (fz Qu (l.set i t))))):=by
 refine dd Tryz.func55 ?_
 have c2:=Qi1 l hl t.id
 change VCalls _ _ _ _ (Ret (.int .i64 (idT l t.id))) at c2
 rw[h] at c2
 have hb:i*6+6<=l.length*6:=by omega
 have hse:=QBk l i t hi
 have hle:(l.set i t).length=l.length:=J2
 (unfold Tryz.f55; refine rn trivial ?_)
 have F:=(Ja @hb (Ja @hse @hle))
 refine rn F ?_
 repeat' (first
  | (refine sG F ?_ ?_<;>intro hZ<;>try with_reducible exact⟨⟩)
  | (refine sB F ?_ ?_<;>intro hZ<;>try with_reducible exact⟨⟩)
  | (refine sD F ?_ ?_<;>intro hZ<;>try with_reducible exact⟨⟩)
  | (refine QgM (Qks l hl) rfl (Qg _ _ _) ?_; refine rn F ?_; try with_reducible exact⟨⟩)
  | (refine vp F (c2) ?_; try with_reducible exact⟨⟩)
  | (refine vd F (c2) ?_; try with_reducible exact⟨⟩)
  | (refine vl F (c2) ?_; try with_reducible exact⟨⟩)
  | (refine Qb (id:=2) [0,1,2,3,5] [⟨[],[],4,[0,2,5],[6]⟩,⟨[],[],7,[],[]⟩] (by kernel_rfl) (by kernel_rfl) ?_; refine rn F ?_; try with_reducible exact⟨⟩)
  | (refine Qby (by kernel_rfl) (by kernel_rfl) ?_; refine rn F ?_; try with_reducible exact⟨⟩))
def Qtn(t:Tx)(a:Int):VCalls prog 84 [.agg t.d,.ip [.lit (.int .i64 a)]] [] (Ret (.bool (t.id==a))):=by
 refine dd Tryz.func84 ?_
 (unfold Tryz.f84; refine rn trivial ?_; try with_reducible exact⟨⟩)
def QxP(l:List Tx)(hl:l.length<=1000000)(a:Int):VCalls prog 53 [.pv (.sl (fz Qu l)),.int .i64 a] [] (Ret (.pv (.sl (fz Qu (QhR l a))))):=by
 unfold QhR
 refine dd Tryz.func53 ?_
 (unfold Tryz.f53; refine rn trivial ?_)
 refine rn F ?_
 repeat' (first
  | (refine sG F ?_ ?_<;>intro hZ<;>try with_reducible exact⟨⟩)
  | (refine sB F ?_ ?_<;>intro hZ<;>try with_reducible exact⟨⟩)
  | (refine sD F ?_ ?_<;>intro hZ<;>try with_reducible exact⟨⟩)
  | (refine QgM (Qks l hl) rfl (Qg _ _ _) ?_; refine rn F ?_; try with_reducible exact⟨⟩))
 refine VCalls.ipK 0 [.lit (.int .i64 a)] rfl ?_
 refine rn trivial ?_
 refine Qm7 [1] [1] (QqU l hl 84 [.ip [.lit (.int .i64 a)]] rfl (fun _=>rfl) (fun t=>t.id==a) (fun t _=>Qtn t a)) rfl ⟨⟨by simp,Qg _ _ _⟩,trivial⟩ (by decide) rfl rfl rfl (Qg _ _ _) ?_
 (refine rn trivial ?_; try with_reducible exact⟨⟩)
def Qug(t:Tx)(hs:t.sm)(a:Int):VCalls prog 54 [.agg t.d,.int .i64 a] [] (Ret (.bool (Qdj t a))):=by
 refine dd Tryz.func54 ?_
 have h0:=hs.1
 have hg:=fun h:t.l.length-1<t.l.length=>QV t.l (t.l.length-1) h
 (unfold Tryz.f54; refine rn trivial ?_)
 have F:=@hg
 refine rn F ?_
 repeat' (first
  | (refine sG F ?_ ?_<;>intro hZ<;>try with_reducible exact⟨⟩)
  | (refine sB F ?_ ?_<;>intro hZ<;>try with_reducible exact⟨⟩)
  | (refine sD F ?_ ?_<;>intro hZ<;>try with_reducible exact⟨⟩))
 all_goals (first | rfl | (congr 3; rw[Jp]; (try simp only[Qdj,decide_eq_true_eq,Jb,Jf,Jh,Jg,decide_eq_false_iff_not,beq_iff_eq,bne_iff_ne,ne_eq,Jr,Jv,iff_true,true_iff,iff_false,false_iff]); first | done | omega | grind))
def Qo0(l:List Tx)(hs:smL l)(e:E):VCalls prog 18 [.pv (.sl (fz Qu l)),.agg e.d] [] (Ret (Qou (QJ l e))):=by
 refine VCalls.unwk ?_
 have c1:=Qgh l hs
 have c2:=Qsi e
 have c3:=Qi1 l hs.1 e.tx
 change VCalls _ _ _ _ (Ret (.int .i64 (idT l e.tx))) at c3
 have c4:=QxP l hs.1 e.tx
 have hw:=fun(i:Nat) (hi:i<l.length) (t:Tx) (h:idT l t.id=i)=>Qrv l hs.1 t i hi h
 have hok:=@QdN e
 have hat:=@Qka l e
 have e0:QJ l e=if QaF l=false then ([],15) else if e.okB=false then ([],12) else if e.tx=0 then (l,0) else if idT l e.tx<0 then ([],16)
  else Qhl l (idT l e.tx).toNat (l.getD (idT l e.tx).toNat Tx0) e:=rfl
 by_cases hv:QaF l=true
 rotate_left
 ·have hv':QaF l = false:=by simpa using hv
  rw[e0,if_pos hv']
  rw[hv'] at c1
  refine dd Tryz.func18 ?_
  unfold E.d
  (unfold Tryz.f18; refine rn trivial ?_)
  refine rn F ?_
  repeat' (first
   | (refine sG F ?_ ?_<;>intro hZ<;>try with_reducible exact⟨⟩)
   | (refine sB F ?_ ?_<;>intro hZ<;>try with_reducible exact⟨⟩)
   | (refine sD F ?_ ?_<;>intro hZ<;>try with_reducible exact⟨⟩)
   | (refine vp F (c1) ?_; try with_reducible exact⟨⟩)
   | (refine vd F (c1) ?_; try with_reducible exact⟨⟩)
   | (refine vl F (c1) ?_; try with_reducible exact⟨⟩)
   | (refine Qb (id:=17) [0,1,3,4] [⟨[5],[],2,[0,3,4],[]⟩,⟨[5],[5],6,[0,1,3,4],[7]⟩,⟨[],[],8,[],[]⟩] (by kernel_rfl) (by kernel_rfl) ?_; refine rn F ?_; try with_reducible exact⟨⟩)
   | (refine Qby (by kernel_rfl) (by kernel_rfl) ?_; refine rn F ?_; try with_reducible exact⟨⟩))
  rfl
 by_cases hk:e.okB=true
 rotate_left
 ·have hk':e.okB = false:=by simpa using hk
  rw[e0,if_neg (by rw[hv]; decide),if_pos hk']
  rw[hv] at c1
  rw[hk'] at c2
  unfold E.d at c2 |-
  refine dd Tryz.func18 ?_
  (unfold Tryz.f18; refine rn trivial ?_)
  refine rn F ?_
  repeat' (first
   | (refine sG F ?_ ?_<;>intro hZ<;>try with_reducible exact⟨⟩)
   | (refine sB F ?_ ?_<;>intro hZ<;>try with_reducible exact⟨⟩)
   | (refine sD F ?_ ?_<;>intro hZ<;>try with_reducible exact⟨⟩)
   | (refine vp F (c1) ?_; try with_reducible exact⟨⟩)
   | (refine vd F (c1) ?_; try with_reducible exact⟨⟩)
   | (refine vl F (c1) ?_; try with_reducible exact⟨⟩)
   | (refine vp F (c2) ?_; try with_reducible exact⟨⟩)
   | (refine vd F (c2) ?_; try with_reducible exact⟨⟩)
   | (refine vl F (c2) ?_; try with_reducible exact⟨⟩)
   | (refine Qb (id:=17) [0,1,3,4] [⟨[5],[],2,[0,3,4],[]⟩,⟨[5],[5],6,[0,1,3,4],[7]⟩,⟨[],[],8,[],[]⟩] (by kernel_rfl) (by kernel_rfl) ?_; refine rn F ?_; try with_reducible exact⟨⟩)
   | (refine Qby (by kernel_rfl) (by kernel_rfl) ?_; refine rn F ?_; try with_reducible exact⟨⟩))
  rfl
 by_cases ht:e.tx=0
 ·rw [e0,if_neg (by rw [hv]; decide),if_neg (by rw [hk]; decide),if_pos ht]
  rw[hv] at c1
  rw[hk] at c2
  unfold E.d at c2 |-
  refine dd Tryz.func18 ?_
  (unfold Tryz.f18; refine rn trivial ?_)
  have F:=@ht
  refine rn F ?_
  repeat' (first
   | (refine sG F ?_ ?_<;>intro hZ<;>try with_reducible exact⟨⟩)
   | (refine sB F ?_ ?_<;>intro hZ<;>try with_reducible exact⟨⟩)
   | (refine sD F ?_ ?_<;>intro hZ<;>try with_reducible exact⟨⟩)
   | (refine vp F (c1) ?_; try with_reducible exact⟨⟩)
   | (refine vd F (c1) ?_; try with_reducible exact⟨⟩)
   | (refine vl F (c1) ?_; try with_reducible exact⟨⟩)
   | (refine vp F (c2) ?_; try with_reducible exact⟨⟩)
   | (refine vd F (c2) ?_; try with_reducible exact⟨⟩)
   | (refine vl F (c2) ?_; try with_reducible exact⟨⟩)
   | (refine Qb (id:=17) [0,1,3,4] [⟨[5],[],2,[0,3,4],[]⟩,⟨[5],[5],6,[0,1,3,4],[7]⟩,⟨[],[],8,[],[]⟩] (by kernel_rfl) (by kernel_rfl) ?_; refine rn F ?_; try with_reducible exact⟨⟩)
   | (refine Qby (by kernel_rfl) (by kernel_rfl) ?_; refine rn F ?_; try with_reducible exact⟨⟩))
  rfl
 rw[hv] at c1
 rw[hk] at c2
 rcases Qy l e.tx with h | ⟨i,hi,h,hid⟩
 ·rw [e0,if_neg (by rw [hv]; decide),if_neg (by rw [hk]; decide),if_neg ht,h,if_pos (by decide)]
  rw[h] at c3
  unfold E.d at c2 |-
  refine dd Tryz.func18 ?_
  (unfold Tryz.f18; refine rn trivial ?_)
  have F:=@ht
  refine rn F ?_
  repeat' (first
   | (refine sG F ?_ ?_<;>intro hZ<;>try with_reducible exact⟨⟩)
   | (refine sB F ?_ ?_<;>intro hZ<;>try with_reducible exact⟨⟩)
   | (refine sD F ?_ ?_<;>intro hZ<;>try with_reducible exact⟨⟩)
   | (refine vp F (c1) ?_; try with_reducible exact⟨⟩)
   | (refine vd F (c1) ?_; try with_reducible exact⟨⟩)
   | (refine vl F (c1) ?_; try with_reducible exact⟨⟩)
   | (refine vp F (c2) ?_; try with_reducible exact⟨⟩)
   | (refine vd F (c2) ?_; try with_reducible exact⟨⟩)
   | (refine vl F (c2) ?_; try with_reducible exact⟨⟩)
   | (refine vp F (c3) ?_; try with_reducible exact⟨⟩)
   | (refine vd F (c3) ?_; try with_reducible exact⟨⟩)
   | (refine vl F (c3) ?_; try with_reducible exact⟨⟩)
   | (refine Qb (id:=17) [0,1,3,4] [⟨[5],[],2,[0,3,4],[]⟩,⟨[5],[5],6,[0,1,3,4],[7]⟩,⟨[],[],8,[],[]⟩] (by kernel_rfl) (by kernel_rfl) ?_; refine rn F ?_; try with_reducible exact⟨⟩)
   | (refine Qby (by kernel_rfl) (by kernel_rfl) ?_; refine rn F ?_; try with_reducible exact⟨⟩))
  all_goals first | rfl | contradiction
 rw[hat hv hk ht hi h]
 have hkk:=hok hk ht
 rw[h] at c3
 have hg:=Qd7 l i hi
 have hto:=QaE hv hi
 have hso:=QnF hto
 have hle:=Qdf hto
 clear hat e0 hok
 generalize hT:l[i]=t at *
 obtain⟨id,st,n,b,q,s⟩:=t
 dsimp only at hid hso hle hg
 have bs:=Qq8 q (by omega) e.ref (Qni hso _)
 obtain⟨sl1,sl2⟩:=Qlh q hso e.ref
 rw[sl1] at bs
 generalize lo q (fun x=>decide (x<e.ref))=at_ at *
 obtain⟨lsn,kind,tx,ptx,ppg,ref,c,blob⟩:=e
 dsimp only at hid c4 bs sl2 c3 h hkk ht
 unfold E.d at c2 |-
 dsimp only at c2 |-
 unfold Qhl
 dsimp only
 by_cases hp:ptx=n
 rotate_left
 ·rw [if_pos (.inl hp)]
  refine dd Tryz.func18 ?_
  (unfold Tryz.f18; refine rn trivial ?_)
  have F:=(Ja @ht @hg)
  refine rn F ?_
  repeat' (first
   | (refine sG F ?_ ?_<;>intro hZ<;>try with_reducible exact⟨⟩)
   | (refine sB F ?_ ?_<;>intro hZ<;>try with_reducible exact⟨⟩)
   | (refine sD F ?_ ?_<;>intro hZ<;>try with_reducible exact⟨⟩)
   | (refine vp F (c1) ?_; try with_reducible exact⟨⟩)
   | (refine vd F (c1) ?_; try with_reducible exact⟨⟩)
   | (refine vl F (c1) ?_; try with_reducible exact⟨⟩)
   | (refine vp F (c2) ?_; try with_reducible exact⟨⟩)
   | (refine vd F (c2) ?_; try with_reducible exact⟨⟩)
   | (refine vl F (c2) ?_; try with_reducible exact⟨⟩)
   | (refine vp F (c3) ?_; try with_reducible exact⟨⟩)
   | (refine vd F (c3) ?_; try with_reducible exact⟨⟩)
   | (refine vl F (c3) ?_; try with_reducible exact⟨⟩)
   | (refine vp F (bs) ?_; try with_reducible exact⟨⟩)
   | (refine vd F (bs) ?_; try with_reducible exact⟨⟩)
   | (refine vl F (bs) ?_; try with_reducible exact⟨⟩)
   | (refine Qb (id:=17) [0,1,3,4] [⟨[5],[],2,[0,3,4],[]⟩,⟨[5],[5],6,[0,1,3,4],[7]⟩,⟨[],[],8,[],[]⟩] (by kernel_rfl) (by kernel_rfl) ?_; refine rn F ?_; try with_reducible exact⟨⟩)
   | (refine Qby (by kernel_rfl) (by kernel_rfl) ?_; refine rn F ?_; try with_reducible exact⟨⟩))
  all_goals first | rfl | contradiction | omega
 subst hp
 rcases hkk with rfl | rfl | rfl | rfl | rfl
 ·rw [if_neg (by rintro (h | h); exact h rfl; omega),if_neg (by omega)]
  unfold QaU
  rw[if_pos rfl]
  dsimp only
  have hwA:=hw i hi ⟨id,1,lsn,0,q++[lsn],s⟩ (by rw[<- h]; exact congrArg _ hid)
  have hwB:=hw i hi ⟨id,st,lsn,b,q++[lsn],s⟩ (by rw[<- h]; exact congrArg _ hid)
  have hl:=Qug ⟨id,st,lsn,b,q++[lsn],s⟩ ⟨by simp; omega,by simp; omega⟩ b
  unfold QF
  dsimp only
  generalize Qdj ⟨id,st,lsn,b,q++[lsn],s⟩ b=B at *
  refine dd Tryz.func18 ?_
  (unfold Tryz.f18; refine rn trivial ?_)
  have F:=(Ja @ht (Ja @hg @Qgg))
  refine rn F ?_
  repeat' (first
   | (refine sG F ?_ ?_<;>intro hZ<;>try with_reducible exact⟨⟩)
   | (refine sB F ?_ ?_<;>intro hZ<;>try with_reducible exact⟨⟩)
   | (refine sD F ?_ ?_<;>intro hZ<;>try with_reducible exact⟨⟩)
   | (refine vp F (c1) ?_; try with_reducible exact⟨⟩)
   | (refine vd F (c1) ?_; try with_reducible exact⟨⟩)
   | (refine vl F (c1) ?_; try with_reducible exact⟨⟩)
   | (refine vp F (c2) ?_; try with_reducible exact⟨⟩)
   | (refine vd F (c2) ?_; try with_reducible exact⟨⟩)
   | (refine vl F (c2) ?_; try with_reducible exact⟨⟩)
   | (refine vp F (c3) ?_; try with_reducible exact⟨⟩)
   | (refine vd F (c3) ?_; try with_reducible exact⟨⟩)
   | (refine vl F (c3) ?_; try with_reducible exact⟨⟩)
   | (refine vp F (bs) ?_; try with_reducible exact⟨⟩)
   | (refine vd F (bs) ?_; try with_reducible exact⟨⟩)
   | (refine vl F (bs) ?_; try with_reducible exact⟨⟩)
   | (refine vp F (Qkt q) ?_; try with_reducible exact⟨⟩)
   | (refine vd F (Qkt q) ?_; try with_reducible exact⟨⟩)
   | (refine vl F (Qkt q) ?_; try with_reducible exact⟨⟩)
   | (refine vp F (hl) ?_; try with_reducible exact⟨⟩)
   | (refine vd F (hl) ?_; try with_reducible exact⟨⟩)
   | (refine vl F (hl) ?_; try with_reducible exact⟨⟩)
   | (refine Qa6 [3] _ _ (hwA) rfl ⟨⟨by simp,Qg _ _ _⟩,trivial⟩ (by decide) rfl (by simp[DV.nums.go,DV.nums]) ?_ ?_; (focus (refine rd F)); refine rn F ?_; try with_reducible exact⟨⟩)
   | (refine Qa6 [3] _ _ (hwB) rfl ⟨⟨by simp,Qg _ _ _⟩,trivial⟩ (by decide) rfl (by simp[DV.nums.go,DV.nums]) ?_ ?_; (focus (refine rd F)); refine rn F ?_; try with_reducible exact⟨⟩)
   | (refine Qb (id:=17) [0,1,3,4] [⟨[5],[],2,[0,3,4],[]⟩,⟨[5],[5],6,[0,1,3,4],[7]⟩,⟨[],[],8,[],[]⟩] (by kernel_rfl) (by kernel_rfl) ?_; refine rn F ?_; try with_reducible exact⟨⟩)
   | (refine Qby (by kernel_rfl) (by kernel_rfl) ?_; refine rn F ?_; try with_reducible exact⟨⟩))
  all_goals first | rfl | (rw[if_pos (by first | assumption | omega)]; rfl) | (rw[if_neg (by omega)]; rfl)
 ·by_cases hm:ref ∈ q
  rotate_left
  ·rw [if_pos (.inr ⟨rfl,hm⟩)]
   rw[decide_eq_false hm] at bs
   refine dd Tryz.func18 ?_
   (unfold Tryz.f18; refine rn trivial ?_)
   have F:=(Ja @ht @hg)
   refine rn F ?_
   repeat' (first
    | (refine sG F ?_ ?_<;>intro hZ<;>try with_reducible exact⟨⟩)
    | (refine sB F ?_ ?_<;>intro hZ<;>try with_reducible exact⟨⟩)
    | (refine sD F ?_ ?_<;>intro hZ<;>try with_reducible exact⟨⟩)
    | (refine vp F (c1) ?_; try with_reducible exact⟨⟩)
    | (refine vd F (c1) ?_; try with_reducible exact⟨⟩)
    | (refine vl F (c1) ?_; try with_reducible exact⟨⟩)
    | (refine vp F (c2) ?_; try with_reducible exact⟨⟩)
    | (refine vd F (c2) ?_; try with_reducible exact⟨⟩)
    | (refine vl F (c2) ?_; try with_reducible exact⟨⟩)
    | (refine vp F (c3) ?_; try with_reducible exact⟨⟩)
    | (refine vd F (c3) ?_; try with_reducible exact⟨⟩)
    | (refine vl F (c3) ?_; try with_reducible exact⟨⟩)
    | (refine vp F (bs) ?_; try with_reducible exact⟨⟩)
    | (refine vd F (bs) ?_; try with_reducible exact⟨⟩)
    | (refine vl F (bs) ?_; try with_reducible exact⟨⟩)
    | (refine Qb (id:=17) [0,1,3,4] [⟨[5],[],2,[0,3,4],[]⟩,⟨[5],[5],6,[0,1,3,4],[7]⟩,⟨[],[],8,[],[]⟩] (by kernel_rfl) (by kernel_rfl) ?_; refine rn F ?_; try with_reducible exact⟨⟩)
    | (refine Qby (by kernel_rfl) (by kernel_rfl) ?_; refine rn F ?_; try with_reducible exact⟨⟩))
   all_goals first | rfl | contradiction | omega
  rw[if_neg (by rintro(h | h); exact h rfl; exact h.2 hm),if_neg (by omega)]
  rw[decide_eq_true hm] at bs
  obtain⟨sl3,sl4⟩:=sl2 hm
  unfold QaU
  rw[if_neg (by dsimp only; omega),if_pos rfl]
  dsimp only
  rw[<- sl4]
  have hlen:(q.take at_++q.drop (at_+1)).length=q.length-1:=Qn4 q at_ sl3
  have hwA:=hw i hi ⟨id,1,lsn,0,q.take at_++q.drop (at_+1),s⟩ (by rw[<- h]; exact congrArg _ hid)
  have hwB:=hw i hi ⟨id,st,lsn,b,q.take at_++q.drop (at_+1),s⟩ (by rw[<- h]; exact congrArg _ hid)
  have hl:=Qug ⟨id,st,lsn,b,q.take at_++q.drop (at_+1),s⟩ ⟨by show(q.take at_++q.drop (at_+1)).length<=_; omega,by show s.length<=_; omega⟩ b
  have hd:=Qvq q at_ sl3 (by omega)
  unfold QF
  dsimp only
  generalize q.take at_++q.drop (at_+1)=qq at *
  generalize Qdj ⟨id,st,lsn,b,qq,s⟩ b=B at *
  refine dd Tryz.func18 ?_
  (unfold Tryz.f18; refine rn trivial ?_)
  have F:=(Ja @ht (Ja @hg @hlen))
  refine rn F ?_
  repeat' (first
   | (refine sG F ?_ ?_<;>intro hZ<;>try with_reducible exact⟨⟩)
   | (refine sB F ?_ ?_<;>intro hZ<;>try with_reducible exact⟨⟩)
   | (refine sD F ?_ ?_<;>intro hZ<;>try with_reducible exact⟨⟩)
   | (refine vp F (c1) ?_; try with_reducible exact⟨⟩)
   | (refine vd F (c1) ?_; try with_reducible exact⟨⟩)
   | (refine vl F (c1) ?_; try with_reducible exact⟨⟩)
   | (refine vp F (c2) ?_; try with_reducible exact⟨⟩)
   | (refine vd F (c2) ?_; try with_reducible exact⟨⟩)
   | (refine vl F (c2) ?_; try with_reducible exact⟨⟩)
   | (refine vp F (c3) ?_; try with_reducible exact⟨⟩)
   | (refine vd F (c3) ?_; try with_reducible exact⟨⟩)
   | (refine vl F (c3) ?_; try with_reducible exact⟨⟩)
   | (refine vp F (bs) ?_; try with_reducible exact⟨⟩)
   | (refine vd F (bs) ?_; try with_reducible exact⟨⟩)
   | (refine vl F (bs) ?_; try with_reducible exact⟨⟩)
   | (refine QgM (Qpu q (by omega)) rfl (Qg _ _ _) ?_; refine rn F ?_; try with_reducible exact⟨⟩)
   | (refine Qm7 [2] [2] (hd) rfl ⟨⟨by simp,Qg _ _ _⟩,trivial⟩ (by decide) rfl rfl rfl (Qg _ _ _) ?_; refine rn F ?_; try with_reducible exact⟨⟩)
   | (refine vp F (hl) ?_; try with_reducible exact⟨⟩)
   | (refine vd F (hl) ?_; try with_reducible exact⟨⟩)
   | (refine vl F (hl) ?_; try with_reducible exact⟨⟩)
   | (refine Qa6 [3] _ _ (hwA) rfl ⟨⟨by simp,Qg _ _ _⟩,trivial⟩ (by decide) rfl (by simp[DV.nums.go,DV.nums]) ?_ ?_; (focus (refine rd F)); refine rn F ?_; try with_reducible exact⟨⟩)
   | (refine Qa6 [3] _ _ (hwB) rfl ⟨⟨by simp,Qg _ _ _⟩,trivial⟩ (by decide) rfl (by simp[DV.nums.go,DV.nums]) ?_ ?_; (focus (refine rd F)); refine rn F ?_; try with_reducible exact⟨⟩)
   | (refine Qb (id:=17) [0,1,3,4] [⟨[5],[],2,[0,3,4],[]⟩,⟨[5],[5],6,[0,1,3,4],[7]⟩,⟨[],[],8,[],[]⟩] (by kernel_rfl) (by kernel_rfl) ?_; refine rn F ?_; try with_reducible exact⟨⟩)
   | (refine Qby (by kernel_rfl) (by kernel_rfl) ?_; refine rn F ?_; try with_reducible exact⟨⟩))
  all_goals first | rfl | (rw[if_pos (by first | assumption | omega)]; rfl) | (rw[if_neg (by omega)]; rfl)
 ·rw [if_neg (by rintro (h | h); exact h rfl; omega),if_pos (by omega)]
  refine dd Tryz.func18 ?_
  (unfold Tryz.f18; refine rn trivial ?_)
  have F:=(Ja @ht @hg)
  refine rn F ?_
  repeat' (first
   | (refine sG F ?_ ?_<;>intro hZ<;>try with_reducible exact⟨⟩)
   | (refine sB F ?_ ?_<;>intro hZ<;>try with_reducible exact⟨⟩)
   | (refine sD F ?_ ?_<;>intro hZ<;>try with_reducible exact⟨⟩)
   | (refine vp F (c1) ?_; try with_reducible exact⟨⟩)
   | (refine vd F (c1) ?_; try with_reducible exact⟨⟩)
   | (refine vl F (c1) ?_; try with_reducible exact⟨⟩)
   | (refine vp F (c2) ?_; try with_reducible exact⟨⟩)
   | (refine vd F (c2) ?_; try with_reducible exact⟨⟩)
   | (refine vl F (c2) ?_; try with_reducible exact⟨⟩)
   | (refine vp F (c3) ?_; try with_reducible exact⟨⟩)
   | (refine vd F (c3) ?_; try with_reducible exact⟨⟩)
   | (refine vl F (c3) ?_; try with_reducible exact⟨⟩)
   | (refine vp F (bs) ?_; try with_reducible exact⟨⟩)
   | (refine vd F (bs) ?_; try with_reducible exact⟨⟩)
   | (refine vl F (bs) ?_; try with_reducible exact⟨⟩)
   | (refine vp F (c4) ?_; try with_reducible exact⟨⟩)
   | (refine vd F (c4) ?_; try with_reducible exact⟨⟩)
   | (refine vl F (c4) ?_; try with_reducible exact⟨⟩)
   | (refine Qb (id:=17) [0,1,3,4] [⟨[5],[],2,[0,3,4],[]⟩,⟨[5],[5],6,[0,1,3,4],[7]⟩,⟨[],[],8,[],[]⟩] (by kernel_rfl) (by kernel_rfl) ?_; refine rn F ?_; try with_reducible exact⟨⟩)
   | (refine Qby (by kernel_rfl) (by kernel_rfl) ?_; refine rn F ?_; try with_reducible exact⟨⟩))
  all_goals rfl
 ·rw [if_neg (by rintro (h | h); exact h rfl; omega),if_neg (by omega)]
  unfold QaU
  rw[if_neg (by dsimp only; omega),if_neg (by dsimp only; omega)]
  dsimp only
  have hwA:=hw i hi ⟨id,3,lsn,0,q,[]⟩ (by rw[<- h]; exact congrArg _ hid)
  have hwB:VCalls prog 55 [.pv (.sl (fz Qu l)),.agg [.int .i64 id,.int .i64 3,.int .i64 lsn,.int .i64 0,.pv (.sl (fz Qx q)),.pv (.slc [])]] [] (Ret (.pv (.sl (fz Qu (l.set i ⟨id,3,lsn,0,q,[]⟩))))):=VCalls.wkA hwA
  unfold QF
  dsimp only
  rw[if_neg (by omega)]
  refine dd Tryz.func18 ?_
  (unfold Tryz.f18; refine rn trivial ?_)
  have F:=(Ja @ht @hg)
  refine rn F ?_
  repeat' (first
   | (refine sG F ?_ ?_<;>intro hZ<;>try with_reducible exact⟨⟩)
   | (refine sB F ?_ ?_<;>intro hZ<;>try with_reducible exact⟨⟩)
   | (refine sD F ?_ ?_<;>intro hZ<;>try with_reducible exact⟨⟩)
   | (refine vp F (c1) ?_; try with_reducible exact⟨⟩)
   | (refine vd F (c1) ?_; try with_reducible exact⟨⟩)
   | (refine vl F (c1) ?_; try with_reducible exact⟨⟩)
   | (refine vp F (c2) ?_; try with_reducible exact⟨⟩)
   | (refine vd F (c2) ?_; try with_reducible exact⟨⟩)
   | (refine vl F (c2) ?_; try with_reducible exact⟨⟩)
   | (refine vp F (c3) ?_; try with_reducible exact⟨⟩)
   | (refine vd F (c3) ?_; try with_reducible exact⟨⟩)
   | (refine vl F (c3) ?_; try with_reducible exact⟨⟩)
   | (refine vp F (bs) ?_; try with_reducible exact⟨⟩)
   | (refine vd F (bs) ?_; try with_reducible exact⟨⟩)
   | (refine vl F (bs) ?_; try with_reducible exact⟨⟩)
   | (refine vp F (hwB) ?_; try with_reducible exact⟨⟩)
   | (refine vd F (hwB) ?_; try with_reducible exact⟨⟩)
   | (refine vl F (hwB) ?_; try with_reducible exact⟨⟩)
   | (refine Qb (id:=17) [0,1,3,4] [⟨[5],[],2,[0,3,4],[]⟩,⟨[5],[5],6,[0,1,3,4],[7]⟩,⟨[],[],8,[],[]⟩] (by kernel_rfl) (by kernel_rfl) ?_; refine rn F ?_; try with_reducible exact⟨⟩)
   | (refine Qby (by kernel_rfl) (by kernel_rfl) ?_; refine rn F ?_; try with_reducible exact⟨⟩))
  all_goals rfl
 ·rw [if_neg (by rintro (h | h); exact h rfl; omega),if_pos (by omega)]
  refine dd Tryz.func18 ?_
  (unfold Tryz.f18; refine rn trivial ?_)
  have F:=(Ja @ht @hg)
  refine rn F ?_
  repeat' (first
   | (refine sG F ?_ ?_<;>intro hZ<;>try with_reducible exact⟨⟩)
   | (refine sB F ?_ ?_<;>intro hZ<;>try with_reducible exact⟨⟩)
   | (refine sD F ?_ ?_<;>intro hZ<;>try with_reducible exact⟨⟩)
   | (refine vp F (c1) ?_; try with_reducible exact⟨⟩)
   | (refine vd F (c1) ?_; try with_reducible exact⟨⟩)
   | (refine vl F (c1) ?_; try with_reducible exact⟨⟩)
   | (refine vp F (c2) ?_; try with_reducible exact⟨⟩)
   | (refine vd F (c2) ?_; try with_reducible exact⟨⟩)
   | (refine vl F (c2) ?_; try with_reducible exact⟨⟩)
   | (refine vp F (c3) ?_; try with_reducible exact⟨⟩)
   | (refine vd F (c3) ?_; try with_reducible exact⟨⟩)
   | (refine vl F (c3) ?_; try with_reducible exact⟨⟩)
   | (refine vp F (bs) ?_; try with_reducible exact⟨⟩)
   | (refine vd F (bs) ?_; try with_reducible exact⟨⟩)
   | (refine vl F (bs) ?_; try with_reducible exact⟨⟩)
   | (refine vp F (c4) ?_; try with_reducible exact⟨⟩)
   | (refine vd F (c4) ?_; try with_reducible exact⟨⟩)
   | (refine vl F (c4) ?_; try with_reducible exact⟨⟩)
   | (refine Qb (id:=17) [0,1,3,4] [⟨[5],[],2,[0,3,4],[]⟩,⟨[5],[5],6,[0,1,3,4],[7]⟩,⟨[],[],8,[],[]⟩] (by kernel_rfl) (by kernel_rfl) ?_; refine rn F ?_; try with_reducible exact⟨⟩)
   | (refine Qby (by kernel_rfl) (by kernel_rfl) ?_; refine rn F ?_; try with_reducible exact⟨⟩))
  all_goals rfl
end
section
attribute [local go_sem] Tx.d Quf Qwh Qzw Qw8 Qw6 QmO Qwe Qwi Qwd Qwc Qhn Jc Ji Ju Jz Qbk QaV
def Qlf(l:List Tx)(hs:smL l)(a:Int):VCalls prog 71 [.pv (.sl (fz Qu l)),.int .i64 a] [] (Ret (QD1 (Qn l a))):=by
 refine VCalls.unwk ?_
 refine dd Tryz.func71 ?_
 have c1:=Qgh l hs
 have c2:=Qi1 l hs.1 a
 change VCalls _ _ _ _ (Ret (.int .i64 (idT l a))) at c2
 unfold Qn
 rcases Qy l a with h | ⟨i,hi,h,hid⟩
 ·rw [h] at c2 |-
  (unfold Tryz.f71; refine rn trivial ?_)
  refine rn F ?_
  repeat' (first
   | with_reducible exact⟨⟩
   | (refine sB F ?_ ?_<;>intro hZ)
   | refine vp F (c1) ?_
   | refine vp F (c2) ?_)
  all_goals rfl
 ·rw [h] at c2 |-
  have hg:=Qd7 l i hi
  rw[Jy,Qc l i hi,if_neg (show ¬ (i:Int)<0 by omega)]
  (unfold Tryz.f71; refine rn trivial ?_)
  have F:=@hg
  refine rn F ?_
  repeat' (first
   | with_reducible exact⟨⟩
   | (refine sB F ?_ ?_<;>intro hZ)
   | refine vp F (c1) ?_
   | refine vp F (c2) ?_)
  all_goals first | rfl | (rw[if_pos (by assumption)]; rfl) | (rw[if_neg (by omega)]; rfl)
def QA9(l:List Tx)(hs:smL l)(a:Int):VCalls prog 40 [.pv (.sl (fz Qu l)),.int .i64 a] [] (Ret (Qou (Qfk l a))):=by
 refine VCalls.unwk ?_
 refine dd Tryz.func40 ?_
 have c1:=Qlf l hs a
 have hw:=fun(i:Nat) (hi:i<l.length) (t:Tx) (h:idT l t.id=i)=>Qrv l hs.1 t i hi h
 have hok:=@Qa1 l a
 unfold Qfk
 by_cases hz:(Qn l a).2=0
 ·obtain ⟨hv,i,hi,h1,h2,h3⟩:=hok hz
  have hts:l[i].l.length<=4096/\l[i].s.length<=8:=by
   have:=QaE hv hi
   simp only[Tx.okB,Tx.hdB,Jb,decide_eq_true_eq] at this
   omega
  generalize Qn l a=r at *
  obtain⟨t,e⟩:=r
  obtain rfl:e=0:=hz
  obtain rfl:t=l[i]:=h3
  have hw2:=hw i hi ⟨l[i].id,l[i].st,l[i].n,l[i].b,l[i].l,l[i].s++[l[i].n]⟩ (by rw[h2]; exact h1)
  rw[h1,Jy]
  generalize l[i]=t at *
  obtain⟨id,st,n,b,q,s⟩:=t
  unfold QD1 at c1
  obtain⟨hq,hs8⟩:=hts
  dsimp only at hs8
  (unfold Tryz.f40; refine rn trivial ?_)
  have F:=@Qgg
  refine rn F ?_
  repeat' (first
   | with_reducible exact⟨⟩
   | (refine sB F ?_ ?_<;>intro hZ)
   | refine vp F (c1) ?_
   | refine vp F (Qkt s) ?_
   | (refine Qa6 [2] _ _ (hw2) rfl ⟨⟨by simp,Qg _ _ _⟩,trivial⟩ (by decide) rfl (by simp[DV.nums.go,DV.nums]) ?_ ?_; (focus (refine rd F)); refine rn F ?_)
   | (refine Qb (id:=6) [0,1,3,4] [⟨[5],[],2,[0,3,4],[]⟩,⟨[5],[5],6,[0,1,3,4],[7]⟩,⟨[],[],8,[],[]⟩] (by kernel_rfl) (by kernel_rfl) ?_; refine rn F ?_))
  all_goals first | rfl | (rw[if_pos (by omega)]; rfl) | (rw[if_neg (by omega)]; rfl) | skip
 ·generalize Qn l a = r at *
  obtain⟨⟨id,st,n,b,q,s⟩,e⟩:=r
  unfold QD1 at c1
  dsimp only at hz |-
  (unfold Tryz.f40; refine rn trivial ?_)
  have F:=trivial
  refine rn F ?_
  repeat' (first
   | with_reducible exact⟨⟩
   | refine vp F (c1) ?_)
  all_goals first | rfl | contradiction | (rw[if_pos (by assumption)]; rfl)
def QBb(l:List Tx)(hs:smL l)(a sv:Int):VCalls prog 41 [.pv (.sl (fz Qu l)),.int .i64 a,.int .i64 sv] [] (Ret (Qou (QfF l a sv))):=by
 refine VCalls.unwk ?_
 refine dd Tryz.func41 ?_
 have c1:=Qlf l hs a
 have hw:=fun(i:Nat) (hi:i<l.length) (t:Tx) (h:idT l t.id=i)=>Qrv l hs.1 t i hi h
 have hok:=@Qa1 l a
 unfold QfF
 by_cases hz:(Qn l a).2=0
 ·obtain ⟨hv,i,hi,h1,h2,h3⟩:=hok hz
  have hts:l[i].l.length<=4096/\l[i].s.length<=8:=by
   have:=QaE hv hi
   simp only[Tx.okB,Tx.hdB,Jb,decide_eq_true_eq] at this
   omega
  generalize Qn l a=r at *
  obtain⟨t,e⟩:=r
  obtain rfl:e=0:=hz
  obtain rfl:t=l[i]:=h3
  rw[h1,Jy]
  by_cases hr:sv<0\/((l[i].s.length:Int)<=sv)
  ·generalize l[i] = t at *
   obtain⟨id,st,n,b,q,s⟩:=t
   unfold QD1 at c1
   dsimp only at hr |-
   rw[if_neg (by simp),if_pos hr]
   (unfold Tryz.f41; refine rn trivial ?_)
   refine rn F ?_
   repeat' (first
    | with_reducible exact⟨⟩
    | (refine sG F ?_ ?_<;>intro hZ)
    | refine vp F (c1) ?_)
   all_goals first | rfl | (exfalso; omega)
  obtain⟨k,rfl⟩:∃ k:Nat,sv=k:=⟨sv.toNat,by omega⟩
  have hk:k<l[i].s.length:=by omega
  rw[if_neg (by simp),if_neg (by omega),Jy]
  have hw2:=hw i hi ⟨l[i].id,2,l[i].n,l[i].s.getD k 0,l[i].l,l[i].s.take (k+1)⟩ (by rw[h2]; exact h1)
  have hw3:=hw i hi ⟨l[i].id,l[i].st,l[i].n,l[i].b,l[i].l,l[i].s.take (k+1)⟩ (by rw[h2]; exact h1)
  generalize l[i]=t at *
  obtain⟨id,st,n,b,q,s⟩:=t
  unfold QD1 at c1
  have c5:=Qug ⟨id,st,n,b,q,s.take (k+1)⟩ ⟨by have:=hts.1; dsimp only at this |-; omega,by have:=hts.2; dsimp only at this |-; rw[Ji]; omega⟩ (s.getD k 0)
  change VCalls _ _ _ _ (Ret (.bool (Qdj ⟨id,st,n,b,q,s⟩ (s.getD k 0)))) at c5
  generalize Qdj ⟨id,st,n,b,q,s⟩ (s.getD k 0)=B at *
  obtain⟨hq,hs8⟩:=hts
  dsimp only at hs8 hk
  have cl:=Qpu (s.take (k+1)) (by rw[Ji]; omega)
  have hg:(fz Qx (s.take (k+1)))[k]?=some [.lit (.int .i64 (s.getD k 0))]:=by
   rw[QV _ _ (by rw[Ji]; omega)]
   simp[Jk,JR]
  have hgc:(cells Qx (s.take (k+1)))[k]?=some (.int .i64 (s.getD k 0)):=by
   rw[QdX _ _ (by rw[Ji]; omega)]
   simp[Jk,JR]
  have hd:((cells Qx (s.take (k+1))).drop k).take 1=[.int .i64 (s.getD k 0)]:=by
   have:=(J5.1 hgc)
   obtain⟨h,e⟩:=this
   rw[J6 h,e]; rfl
  have hl1:(s.take (k+1)).length=k+1:=by rw[Ji]; omega
  have ek:((k:Int)+1).toNat=k+1:=by omega
  rw[hl1] at cl
  (unfold Tryz.f41; refine rn trivial ?_)
  have F:=(Ja @hl1 (Ja @ek (Ja @hd @hgc)))
  refine rn F ?_
  repeat' (first
   | with_reducible exact⟨⟩
   | (refine sB F ?_ ?_<;>intro hZ)
   | refine vp F (c1) ?_
   | (refine QgM (cl) rfl (Qg _ _ _) ?_; refine rn F ?_)
   | refine vl F (c5) ?_
   | (refine Qa6 [1] _ _ (hw2) rfl ⟨⟨by simp,Qg _ _ _⟩,trivial⟩ (by decide) rfl (by simp[DV.nums.go,DV.nums]) ?_ ?_; (focus (refine rd F)); refine rn F ?_)
   | (refine Qa6 [1] _ _ (hw3) rfl ⟨⟨by simp,Qg _ _ _⟩,trivial⟩ (by decide) rfl (by simp[DV.nums.go,DV.nums]) ?_ ?_; (focus (refine rd F)); refine rn F ?_)
   | (refine Qb (id:=7) [0,1,2,3,4,5] [⟨[],[],6,[1,2,3,4],[]⟩] (by kernel_rfl) (by kernel_rfl) ?_; refine rn F ?_)
   | (refine Qb (id:=8) [0,1,2,3,4,5] [⟨[],[],6,[2,3,4],[7]⟩,⟨[],[],8,[],[]⟩] (by kernel_rfl) (by kernel_rfl) ?_; refine rn F ?_))
  all_goals first | rfl | (rw[if_pos (by assumption)]; rfl) | (rw[if_neg (by assumption)]; rfl) | skip
 ·generalize Qn l a = r at *
  obtain⟨⟨id,st,n,b,q,s⟩,e⟩:=r
  unfold QD1 at c1
  dsimp only at hz |-
  (unfold Tryz.f41; refine rn trivial ?_)
  have F:=trivial
  refine rn F ?_
  repeat' (first
   | with_reducible exact⟨⟩
   | refine vp F (c1) ?_)
  all_goals first | rfl | contradiction | (rw[if_pos (by assumption)]; rfl)
def QHl:VCalls prog 14 [] [] (Ret (.bool true)):=by
 have c0:=QvS [] ⟨by simp,by simp⟩ 1
 rw[show QN [] 1=(w0,0) by kernel_rfl] at c0
 have c0:VCalls prog 17 [.pv (.slc []),.int .i64 1] [] (Ret (Qou (w0,0))):=VCalls.wkA c0
 have c1:=Qo0 w0 (Qli _ (by decide)) ⟨1,1,1,0,0,0,Ch0,[]⟩
 rw[show QJ w0 ⟨1,1,1,0,0,0,Ch0,[]⟩=(w1,0) by kernel_rfl] at c1
 have c2:=QA9 w1 (Qli _ (by decide)) 1
 rw[show Qfk w1 1=(w2,0) by kernel_rfl] at c2
 have c3:=Qo0 w2 (Qli _ (by decide)) ⟨2,1,1,1,0,0,Ch0,[]⟩
 rw[show QJ w2 ⟨2,1,1,1,0,0,Ch0,[]⟩=(w3,0) by kernel_rfl] at c3
 have c4:=Qo0 w3 (Qli _ (by decide)) ⟨3,1,1,2,0,0,Ch0,[]⟩
 rw[show QJ w3 ⟨3,1,1,2,0,0,Ch0,[]⟩=(w4,0) by kernel_rfl] at c4
 have c5:=QBb w4 (Qli _ (by decide)) 1 0
 rw[show QfF w4 1 0=(w5,0) by kernel_rfl] at c5
 have l5:(w5.length:Int)=1:=rfl
 have g5:(fz Qu w5)[0]?=some [.lit (.int .i64 1),.lit (.int .i64 2),.lit (.int .i64 3),.lit (.int .i64 1),.sl (fz Qx [1,2,3]),.sl (fz Qx [1])]:=rfl
 unfold Qou at c0 c1 c2 c3 c4 c5
 generalize w0=a0 at *
 generalize w1=a1 at *
 generalize w2=a2 at *
 generalize w3=a3 at *
 generalize w4=a4 at *
 generalize w5=a5 at *
 refine dd Tryz.func14 ?_
 (unfold Tryz.f14; refine rn trivial ?_)
 have F:=(Ja @l5 @g5)
 refine rn F ?_
 repeat' (first
  | with_reducible exact⟨⟩
  | refine vp F (c0) ?_
  | refine vp F (c1) ?_
  | refine vp F (c2) ?_
  | refine vp F (c3) ?_
  | refine vp F (c4) ?_
  | refine vp F (c5) ?_)
 all_goals skip
end
def Qf1(a b c d:Int):QQ [.pv (.lit (.int .i64 a)),.pv (.lit (.int .i64 b))] [.pv (.lit (.int .i64 c)),.pv (.lit (.int .i64 d))] [(0,1),(1,1)]=some (decide (a=c)&&decide (b=d)):=by simp[QQ,Q9,Kd]
def grB(g:Gr):Bool:=decide (1<=g.tx)&&decide (g.tx<=1073741824)&&decide (0<=g.pg)&&decide (g.pg<64)&&decide (0<=g.sl)&&decide (g.sl<16)&&(decide (g.md=1)||decide (g.md=2))
def lessG(a b:Gr):Bool:=if a.pg≠b.pg then decide (a.pg<b.pg) else if a.sl≠b.sl then decide (a.sl<b.sl) else decide (a.tx<b.tx)
def QvA(a b:Gr):Bool:=!decide (a.tx=b.tx)&&(decide (a.pg=b.pg)&&decide (a.sl=b.sl))&&(decide (a.md=2)||decide (b.md=2))
def Qth(g:Gr):VCalls prog 245 [.agg g.d] [] (Ret (.bool (grB g))):=by
 refine dd Tryz.func245 ?_
 (unfold Tryz.f245; refine rn trivial ?_)
 refine rn F ?_
 repeat' (first
  | with_reducible exact⟨⟩
  | (refine sG F ?_ ?_<;>intro hZ))
 all_goals (first | rfl | (congr 3; rw[Jp]; (try simp only[grB,decide_eq_true_eq,Jb,Jf,Jh,Jg,decide_eq_false_iff_not,beq_iff_eq,bne_iff_ne,ne_eq,Jr,Jv,iff_true,true_iff,iff_false,false_iff]); first | done | omega | grind))
def QoG(a b:Gr):VCalls prog 246 [.agg a.d,.agg b.d] [] (Ret (.bool (lessG a b))):=by
 refine dd Tryz.func246 ?_
 have e:lessG a b=if a.pg≠b.pg then decide (a.pg<b.pg) else if a.sl≠b.sl then decide (a.sl<b.sl) else decide (a.tx<b.tx):=rfl
 generalize lessG a b=r at *
 (unfold Tryz.f246; refine rn trivial ?_)
 refine rn F ?_
 repeat' (first
  | with_reducible exact⟨⟩
  | (refine sB F ?_ ?_<;>intro hZ))
 all_goals first | (first | (rw[e]; simp(disch:=first | assumption | omega | exact rfl | exact nf (by assumption) | exact nt (by assumption) | decide | fail) only[if_pos,if_neg]; first | done | rfl) | (rw[e]; simp(disch:=first | assumption | omega | exact rfl | exact nf (by assumption) | exact nt (by assumption) | decide | (simp_all; done) | fail) only[if_pos,if_neg]; first | done | rfl)) | skip
def Qgo(a b:Gr):VCalls prog 225 [.agg a.d,.agg b.d] [] (Ret (.bool (QvA a b))):=by
 refine dd Tryz.func225 ?_
 (unfold Tryz.f225; refine rn trivial ?_)
 have F:=@Qf1
 refine rn F ?_
 repeat' (first
  | with_reducible exact⟨⟩
  | (refine sG F ?_ ?_<;>intro hZ))
 all_goals (unfold QvA; simp_all [Kd])
def QDZ(tx pg sl:Int)(g:Gr):Bool:=decide (g.tx=tx)&&(decide (g.pg=pg)&&decide (g.sl=sl))
def Qz3(l:List Gr)(tx pg sl:Int):Int:=match l.find? (QDZ tx pg sl) with | some g=>g.md | none=>0
def Qnr (t:Lk) (hs:t.held.length<=1000000) (tx pg sl:Int):VCalls prog 247 [.agg t.d,.int .i64 tx,.agg [.int .i64 pg,.int .i64 sl]] [] (Ret (.int .i64 (Qz3 t.held tx pg sl))):=by
 refine dd Tryz.func247 ?_
 obtain⟨l,w⟩:=t
 dsimp only at hs |-
 (unfold Tryz.f247; refine rn trivial ?_)
 refine Qj (fun s:Pass l (fun x=>QDZ tx pg sl x=true)=>⟨39,0,[(7,.int .i64 s.i),(5,.ptr 1 0),(3,.ptr 0 0),(1,.int .i64 tx)],[⟨55,true,[.pv (.sl (fz Qau l)),.pv (.sl (fz Qau w))]⟩,⟨225,true,[.int .i64 pg,.int .i64 sl]⟩]⟩) (fun s=>l.length-s.i) (Pass.start l _) (gc [0,1]) ?_
 intro s
 have hsi:=s.hi
 have hg:=fun h:s.i<l.length=>QaD l s.i h
 have hkey:s.i<l.length->QDZ tx pg sl (l.getD s.i Gr0)=QDZ tx pg sl (l[s.i]?.getD Gr0):=fun _=>by rw[Jk]
 have hk0:QDZ tx pg sl (l.getD s.i Gr0)=(decide ((l.getD s.i Gr0).tx=tx)&&(decide ((l.getD s.i Gr0).pg=pg)&&decide ((l.getD s.i Gr0).sl=sl))):=rfl
 have F:=(Ja @hg @Qf1)
 refine rn F ?_
 repeat' (first
  | with_reducible exact⟨⟩
  | (refine sG F ?_ ?_<;>intro hZ)
  | (refine sB F ?_ ?_<;>intro hZ)
  | (refine Qb (id:=4) [0,1,2,3,4,5,6,7,8,9,10,11,12,13,14,15,16,17] [] (by kernel_rfl) (by kernel_rfl) ?_; refine rn F ?_))
 all_goals first
  | (have h:=s.all (by omega)
     rw[Qz3,Kl.2 h])
  | (have hlt:s.i < l.length:=by omega
     have hk:QDZ tx pg sl l[s.i]=true:=by rw[<- Qc l s.i hlt Gr0,hk0]; simp_all
     rw[Qc l s.i hlt,Qz3,List.find?_eq_some_iff_getElem.2 ⟨hk,s.i,hlt,rfl,fun j hj=>by simpa using s.no l[j] (List.mem_take_iff_getElem.2 ⟨j,by omega,rfl⟩)⟩])
  | (have hlt:s.i < l.length:=by omega
     exact⟨s.next hlt (by rw[<- Qc l s.i hlt Gr0,hk0]; simp_all),by show l.length-(s.i+1)<l.length-s.i; omega,(gc [0,1])⟩)
  | skip
def QjP(l:List Gr)(hl:l.length<=100000)(tx:Int)(one:Bool)(pg sl:Int):VCalls prog 208 [.pv (.sl (fz Qau l)),.int .i64 tx,.bool one,.agg [.int .i64 pg,.int .i64 sl]] [] (QL (fun m:List Gr=>.pv (.sl (fz Qau m))) fun m=>m.length<=l.length):=by
 refine dd Tryz.func208 ?_
 (unfold Tryz.f208; refine rn trivial ?_)
 refine VLoop.nilOwn 9 248 4 rfl ?_
 refine rn trivial ?_
 refine Qj (fun s:{s:Nat×List Gr // s.1<=l.length/\s.2.length<=s.1}=>⟨44,0,[(10,.int .i64 s.1.1),(9,.own 1 4 0 s.1.2.length),(7,.ptr 0 0),(2,.bool one),(1,.int .i64 tx),(0,.pv (.sl (fz Qau l)))],[⟨225,true,[.int .i64 pg,.int .i64 sl]⟩,⟨248,true,cells Qau s.1.2⟩]⟩) (fun s=>l.length-s.1.1) ⟨(0,[]),by simp⟩ (gc [0,1]) ?_
 rintro⟨⟨i,out⟩,hi,ho⟩
 dsimp only at hi ho |-
 have hg:=fun h:i<l.length=>QaD l i h
 have hb:(out.length+1)*32<=140737488355328:=by omega
 have F:=(Ja @hg (Ja @hb @Qf1))
 refine rn F ?_
 repeat' (first
  | with_reducible exact⟨⟩
  | (refine sG F ?_ ?_<;>intro hZ)
  | (refine sB F ?_ ?_<;>intro hZ)
  | (refine Qb (id:=5) [0,1,2,3,4,5,6,7,8,9,10,11,12,13,14,15,16,17,18] [] (by kernel_rfl) (by kernel_rfl) ?_; refine rn F ?_))
 all_goals first
  | exact⟨rfl,rfl,out,rfl,by omega⟩
  | exact⟨⟨(i+1,out),by dsimp only; omega,by dsimp only; omega⟩,by dsimp only; omega,(gc [0,1])⟩
  | exact⟨⟨(i+1,out++[⟨(l.getD i Gr0).tx,(l.getD i Gr0).pg,(l.getD i Gr0).sl,(l.getD i Gr0).md⟩]),by dsimp only; omega,by simp; omega⟩,by dsimp only; omega,by dsimp only; rw[Jc]; exact(gc [0,3])⟩
  | skip
def QBY(t:Lk)(hs:t.held.length<=100000/\t.wait.length<=100000)(i:Nat)(hi:i<t.wait.length):VCalls prog 255 [.agg t.d,.int .i64 i] [] (QL (fun b:Bool=>.bool b) fun _=>True):=by
 refine dd Tryz.func255 ?_
 obtain⟨l,w⟩:=t
 dsimp only at hs hi |-
 have hw:=QaD w i hi
 have c:=fun a=>Qgo a (w.getD i Gr0)
 (unfold Tryz.f255; refine rn trivial ?_)
 refine Qj (fun s:To l.length=>⟨41,0,[(5,.int .i64 s.i),(2,.ptr 0 0),(1,.int .i64 i)],[⟨55,true,[.pv (.sl (fz Qau l)),.pv (.sl (fz Qau w))]⟩]⟩) (fun s=>l.length-s.i) ⟨0,JE _⟩ (gc [0]) ?_
 intro s
 have hsi:=s.hi
 have hg:=fun h:s.i<l.length=>QaD l s.i h
 have c1:=c (l.getD s.i Gr0)
 have F:=(Ja @hg @hw)
 refine rn F ?_
 repeat' (first
  | with_reducible exact⟨⟩
  | (refine sB F ?_ ?_<;>intro hZ)
  | refine vp F (c1) ?_
  | (refine Qb (id:=4) [0,1,2,3,4,5,6,7,8,9] [⟨[],[],10,[0,1,2,3,5,6,7,8],[]⟩] (by kernel_rfl) (by kernel_rfl) ?_; refine rn F ?_))
 all_goals first
  | exact⟨rfl,rfl,_,rfl,trivial⟩
  | exact⟨⟨s.i+1,by omega⟩,by dsimp only; omega,(gc [0])⟩
  | skip
 refine Qj (fun s:To i=>⟨41,0,[(6,.int .i64 s.i),(2,.ptr 0 0),(1,.int .i64 i)],[⟨55,true,[.pv (.sl (fz Qau l)),.pv (.sl (fz Qau w))]⟩]⟩) (fun s=>i-s.i) ⟨0,JE _⟩ (gc [0]) ?_
 intro s
 have hsi:=s.hi
 have hg:=fun h:s.i<w.length=>QaD w s.i h
 have c1:=c (w.getD s.i Gr0)
 have F:=(Ja @hg @hw)
 refine rn F ?_
 repeat' (first
  | with_reducible exact⟨⟩
  | (refine sB F ?_ ?_<;>intro hZ)
  | refine vp F (c1) ?_
  | (refine Qb (id:=9) [0,1,2,3,4,5,6,7,8,9] [⟨[],[],10,[0,1,2,3,5,6,7,8],[]⟩] (by kernel_rfl) (by kernel_rfl) ?_; refine rn F ?_))
 all_goals first
  | exact⟨rfl,rfl,_,rfl,trivial⟩
  | exact⟨⟨s.i+1,by omega⟩,by dsimp only; omega,(gc [0])⟩
  | skip
def QBM(l:List Gr)(hl:l.length<=100000)(g:Gr):VCalls prog 256 [.pv (.sl (fz Qau l)),.agg g.d] [] (QL (fun m:List Gr=>.pv (.sl (fz Qau m))) fun m=>m.length<=l.length+1):=by
 refine dd Tryz.func256 ?_
 (unfold Tryz.f256; refine rn trivial ?_)
 refine VLoop.nilOwn 5 248 4 rfl ?_
 refine rn trivial ?_
 refine Qj (fun s:{s:Nat×List Gr×Bool // s.1<=l.length/\s.2.1.length<=s.1+1/\(s.2.2=false->s.2.1.length<=s.1)}=>⟨61,0,[(7,.int .i64 s.1.1),(6,.bool s.1.2.2),(5,.own 1 4 0 s.1.2.1.length),(3,.ptr 0 0),(0,.pv (.sl (fz Qau l)))],[⟨248,true,g.d⟩,⟨248,true,cells Qau s.1.2.1⟩]⟩) (fun s=>l.length-s.1.1) ⟨(0,[],false),by simp⟩ (gc [0,1]) ?_
 rintro⟨⟨i,out,dn⟩,hi,ho,hd⟩
 dsimp only at hi ho hd |-
 have hg:=fun h:i<l.length=>QaD l i h
 have c:=QoG (l.getD i Gr0) g
 have hb:(out.length+1)*32<=140737488355328:=by omega
 have hb2:(out.length+1+1)*32<=140737488355328:=KH (Ke 32 (show out.length+1+1<=100003 by omega)) (by decide)
 cases dn
 all_goals
  simp only[forall_const,reduceCtorEq,false_implies] at hd
  have F:=(Ja @hg (Ja @hb (Ja @hb2 @Qf1)))
  refine rn F ?_
  repeat' (first
   | with_reducible exact⟨⟩
   | (refine sG F ?_ ?_<;>intro hZ)
   | (refine sB F ?_ ?_<;>intro hZ)
   | refine vp F (c) ?_
   | (refine Qb (id:=6) [0,1,2,3,4,5,6,7] [⟨[],[],8,[0,1,3,4,5],[9,10]⟩] (by kernel_rfl) (by kernel_rfl) ?_; refine rn F ?_)
   | (refine Qb (id:=9) [0,1,2,3,4,5,6,7,8,9,10,11,12,13,14,15,16,17] [] (by kernel_rfl) (by kernel_rfl) ?_; refine rn F ?_))
 all_goals first
  | exact⟨rfl,rfl,out,rfl,by omega⟩
  | exact⟨rfl,rfl,out++[g],rfl,by simp; omega⟩
  | exact⟨⟨(i+1,out,false),by dsimp only; omega,by dsimp only; (try rw[Jj]); omega,by dsimp only; (try rw[Jj]); first | omega | (intro h; omega) | (intro h; cases h)⟩,by dsimp only; omega,by dsimp only; (try rw[Jj]); exact(gc [0,1])⟩
  | exact⟨⟨(i+1,out++[⟨(l.getD i Gr0).tx,(l.getD i Gr0).pg,(l.getD i Gr0).sl,(l.getD i Gr0).md⟩],false),by dsimp only; omega,by dsimp only; (try rw[Jc,Jm,Jj]); omega,by dsimp only; (try rw[Jc,Jm,Jj]); first | omega | (intro h; omega) | (intro h; cases h)⟩,by dsimp only; omega,by dsimp only; (try rw[Jc,Jm,Jj]); exact(gc [0,3])⟩
  | exact⟨⟨(i+1,out,true),by dsimp only; omega,by dsimp only; (try rw[Jj]); omega,by dsimp only; (try rw[Jj]); first | omega | (intro h; omega) | (intro h; cases h)⟩,by dsimp only; omega,by dsimp only; (try rw[Jj]); exact(gc [0,1])⟩
  | exact⟨⟨(i+1,out++[⟨(l.getD i Gr0).tx,(l.getD i Gr0).pg,(l.getD i Gr0).sl,(l.getD i Gr0).md⟩],true),by dsimp only; omega,by dsimp only; (try rw[Jc,Jm,Jj]); omega,by dsimp only; (try rw[Jc,Jm,Jj]); first | omega | (intro h; omega) | (intro h; cases h)⟩,by dsimp only; omega,by dsimp only; (try rw[Jc,Jm,Jj]); exact(gc [0,3])⟩
  | exact⟨⟨(i+1,out++[g],true),by dsimp only; omega,by dsimp only; (try rw[Jc,Jm,Jj]); omega,by dsimp only; (try rw[Jc,Jm,Jj]); first | omega | (intro h; omega) | (intro h; cases h)⟩,by dsimp only; omega,by dsimp only; (try rw[Jc,Jm,Jj]); exact(gc [0,3])⟩
  | exact⟨⟨(i+1,out++[g]++[⟨(l.getD i Gr0).tx,(l.getD i Gr0).pg,(l.getD i Gr0).sl,(l.getD i Gr0).md⟩],true),by dsimp only; omega,by dsimp only; (try rw[Jc,Jc,Jm,Jj,Jm,Jj]); omega,by dsimp only; (try rw[Jc,Jc,Jm,Jj,Jm,Jj]); first | omega | (intro h; omega) | (intro h; cases h)⟩,by dsimp only; omega,by dsimp only; (try rw[Jc,Jc,Jm,Jj,Jm,Jj]); exact(gc [0,5])⟩
  | skip
section
attribute [local go_sem] QbB
def Lk.sum(t:Lk):Nat:=t.held.length+t.wait.length
def QeB(t:Lk)(hs:t.sum<=5000):VCalls prog 207 [.agg t.d] [] (QL (fun u:Lk=>.agg u.d) fun u=>u.sum<=t.sum):=by
 refine dk Tryz.func207 ?_
 (unfold Tryz.f207; refine rn trivial ?_)
 refine QD7 (fun s:{s:Lk×Nat // s.2<=s.1.wait.length/\s.1.sum<=t.sum}=>⟨36,0,[(3,.int .i64 s.1.2),(2,.ptr 1 0),(1,.ptr 0 0)],[⟨55,true,s.1.1.d⟩,⟨55,true,[.pv (.slc []),.pv (.slc [])]⟩]⟩) (fun s=>s.1.1.wait.length*5001+(s.1.1.wait.length-s.1.2)) ⟨(t,0),JE _,J1 _⟩ (.inl (by exact(gc [0,1]))) ?_
 rintro⟨⟨⟨l,w⟩,i⟩,hi,hsum⟩
 unfold Lk.sum at *
 dsimp only at hi hsum |-
 have hgx:=fun h:i<w.length=>QaD w i h
 have c1:=fun h:i<w.length=>QBY ⟨l,w⟩ ⟨by dsimp only; omega,by dsimp only; omega⟩ i h
 have c2:=QBM l (by omega)
 have hb:(i+(w.length-(i+1)))*32<=140737488355328:=by omega
 have hb1:i*32<=140737488355328:=by omega
 have hmin:i<w.length->min i w.length=i:=fun h=>by omega
 have F:=(Ja @hgx (Ja @hb (Ja @hb1 @hmin)))
 refine rn F ?_
 repeat' (first
  | with_reducible exact⟨⟩
  | (refine sB F ?_ ?_<;>intro hZ)
  | (refine Qr (c1 (by omega)) rfl ?_; rintro b -; refine rn F ?_)
  | (refine Qr (c2 ⟨_,_,_,_⟩) rfl ?_; rintro m hm; refine rn F ?_)
  | (refine Qb (id:=5) [0,1,2,3,4,5,6] [⟨[],[],7,[0,2,3,4,5],[8]⟩,⟨[],[],9,[],[]⟩] (by kernel_rfl) (by kernel_rfl) ?_; refine rn F ?_)
  | (refine Qb (id:=6) [0,1,2,3,5,6,7,8,9] [⟨[],[],4,[0,1,2,5,6,7,8,9],[]⟩,⟨[],[],10,[0,1,2,3,5,6,7,8],[11]⟩,⟨[],[],12,[],[]⟩] (by kernel_rfl) (by kernel_rfl) ?_; refine rn F ?_))
 ·have hl:(w.take i ++ w.drop (i + 1)).length = i + (w.length - (i + 1)):=by rw [Jc,Ji,Ju]; omega
  refine⟨⟨(⟨m,w.take i++w.drop (i+1)⟩,0),JE _,by dsimp only; rw[hl]; omega⟩,by dsimp only; rw[hl]; omega,?_⟩
  dsimp only
  generalize w.take i++w.drop (i+1)=L at *
  generalize i+(w.length-(i+1))=n at *
  refine .inr ⟨2,⟨36,0,[(3,.int .i64 0),(2,.ptr 1 0),(1,.ptr 0 0)],[⟨55,true,[.pv (.sl (fz Qau m)),.own 2 4 0 n]⟩,⟨55,true,[.pv (.slc []),.pv (.slc [])]⟩,⟨248,true,cells Qau L⟩]⟩,(gc [0,1,3]),⟨rfl,rfl,JE _,by simp,?_,⟨rfl,rfl,rfl,trivial⟩⟩⟩
  (refine rn @hl ?_; try with_reducible exact⟨⟩)
 ·exact⟨⟨(⟨l,w⟩,i+1),by dsimp only; omega,by dsimp only; omega⟩,by dsimp only; omega,.inl (gc [0,1])⟩
 ·exact⟨rfl,rfl,⟨l,w⟩,rfl,hsum⟩
def Qxv(t:Lk)(hs:t.sum<=5000)(g:Gr):VCalls prog 263 [.agg t.d,.agg g.d] [] (QL (fun n:Nat=>.int .i64 n) fun n=>n<=t.wait.length):=by
 refine dd Tryz.func263 ?_
 unfold Lk.sum at hs
 have c1:=Qnr t (by omega)
 obtain⟨l,w⟩:=t
 dsimp only at hs c1 |-
 generalize hm:Qz3 l=M at *
 (unfold Tryz.f263; refine rn trivial ?_)
 refine rn F ?_
 repeat' (first
  | with_reducible exact⟨⟩
  | (refine sB F ?_ ?_<;>intro hZ)
  | refine vp F (c1 _ _ _) ?_)
 ·exact⟨rfl,rfl,w.length,rfl,J1 _⟩
 refine Qj (fun s:To w.length=>⟨47,0,[(5,.int .i64 s.i),(3,.ptr 1 0),(2,.ptr 0 0)],[⟨55,true,[.pv (.sl (fz Qau l)),.pv (.sl (fz Qau w))]⟩,⟨248,true,g.d⟩]⟩) (fun s=>w.length-s.i) ⟨0,JE _⟩ (gc [0,1]) ?_
 intro s
 have hsi:=s.hi
 have hg:=fun h:s.i<w.length=>QaD w s.i h
 have F:=(Ja @hg @Qf1)
 refine rn F ?_
 repeat' (first
  | with_reducible exact⟨⟩
  | (refine sG F ?_ ?_<;>intro hZ)
  | (refine sB F ?_ ?_<;>intro hZ)
  | refine vp F (c1 _ _ _) ?_)
 all_goals first
  | exact⟨rfl,rfl,s.i,rfl,by omega⟩
  | exact⟨⟨s.i+1,by omega⟩,by dsimp only; omega,(gc [0,1])⟩
  | exact⟨rfl,rfl,w.length,rfl,J1 _⟩
  | skip
end
end Go.Proofs.YtepdccfgnafgcaaGreat
