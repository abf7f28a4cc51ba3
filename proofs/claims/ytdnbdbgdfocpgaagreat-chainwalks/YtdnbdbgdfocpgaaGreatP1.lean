/-
  Contracts of functions and plain laws. No condition.
-/
import Derived.Test.YtdnbdbgdfocpgaaGreatProg
import Derived.Test.YtdnbdbgdfocpgaaGreatV4
import Derived.KernelRfl
set_option linter.unusedSimpArgs false
set_option linter.unusedVariables false
set_option linter.defProp false
set_option maxRecDepth 100000
set_option maxHeartbeats 8000000
set_option autoImplicit true
set_option relaxedAutoImplicit true
open And renaming intro->Jb
open Bool renaming and_eq_true->Jd,not_eq_false'->Jh,or_eq_true->Ji,not_eq_true'->Jj,false_eq_true->Jn,eq_iff_iff->Jo,true_eq_false->Jp,and_eq_false_imp->Js,or_eq_false_iff->Jv,eq_false_iff->JE,and_false->JJ,not_eq_eq_eq_not->JS,beq_eq_decide_eq->JT,not_false->J7,not_true->Kd,and_assoc->Ko,true_and->Kq
open Int renaming reduceBEq->Jg,toNat_natCast->Jr,reduceAdd->Ju,reduceLT->JD,reduceNeg->JN,natCast_pow->J4,natCast_mul->Kj,reduceToNat->Kl,lt_trans->Kt
open List renaming length_append->Ja,length_nil->Jc,length_cons->Je,getD_eq_getElem?_getD->Jk,length_take->Jl,take_of_length_le->Jm,range->Jq,take_succ_eq_append_getElem->Jw,length_drop->Jz,getElem?_eq_getElem->JA,mem_range->JI,all_eq_true->JK,take_length->JL,length->JM,findIdx_lt_length_of_exists->JO,find?_eq_some_iff_getElem->JP,length_filter_le->JQ,any_eq_true->JV,append_nil->JW,mem_take_iff_getElem->JZ,pairwise_iff_getElem->J0,getElem_mem->J1,getElem_map->J2,getElem_cons_zero->J3,length_set->J5,findIdx_getElem->J6,takeWhile_cons->J8,find?_eq_none->J9,filter_append->Ka,getElem?_take->Kc,append_assoc->Kf,getElem?_map->Kg,foldl_cons->Kk,drop_drop->Kp
open Nat renaming reduceBEq->Jf,reduceAdd->Jt,zero_le->Jy,mul_le_mul_right->JB,reduceLT->JC,lt_of_lt_of_le->JF,pow_le_pow_right->JG,le_refl->JH,le_trans->JR,reduceLeDiff->JU,two_pow_add_eq_or_of_lt->JX,lt_or_ge->JY,add_sub_cancel->Kb,mod_lt->Ke,zero_add->Kh,two_pow_pos->Ki,mul_le_mul->Km,mul_comm->Ks,or_comm->Ku,mul_add->Kv,pow_add->Kw
namespace Go.Proofs.YtdnbdbgdfocpgaaGreat
open Go.V Go
open Tryz (prog)
def F:True:=trivial
end Go.Proofs.YtdnbdbgdfocpgaaGreat
namespace Go.Proofs
open Go.V
theorem Tryz.vt3:vt prog 3=some none:=by kernel_rfl
theorem Tryz.vkind3:Qao prog 3=.int .i64:=by kernel_rfl
theorem Tryz.vzero3:QO prog 3=some [.pv (.lit (.int .i64 0))]:=by kernel_rfl
theorem Tryz.bytes3:Qa1 prog 3=some 8:=by kernel_rfl
theorem Tryz.vt4:vt prog 4=some none:=by kernel_rfl
theorem Tryz.vt5:vt prog 5=some none:=by kernel_rfl
theorem Tryz.vkind5:Qao prog 5=.int .u8:=by kernel_rfl
theorem Tryz.vzero5:QO prog 5=some [.pv (.lit (.int .u8 0))]:=by kernel_rfl
theorem Tryz.bytes5:Qa1 prog 5=some 1:=by kernel_rfl
theorem Tryz.vt9:vt prog 9=some none:=by kernel_rfl
theorem Tryz.vkind9:Qao prog 9=.str:=by kernel_rfl
theorem Tryz.vzero9:QO prog 9=some [.pv (.str [])]:=by kernel_rfl
theorem Tryz.bytes9:Qa1 prog 9=some 16:=by kernel_rfl
theorem Tryz.vt22:vt prog 22=some none:=by kernel_rfl
theorem Tryz.velem22:QQ prog 22=some (none,5,1):=by kernel_rfl
theorem Tryz.notInt22:QaO prog 22=true:=by kernel_rfl
theorem Tryz.vkind22:Qao prog 22=.sl 5:=by kernel_rfl
theorem Tryz.vt26:vt prog 26=some none:=by kernel_rfl
theorem Tryz.velem26:QQ prog 26=some (none,57,13):=by kernel_rfl
theorem Tryz.notInt26:QaO prog 26=true:=by kernel_rfl
theorem Tryz.vkind26:Qao prog 26=.sl 57:=by kernel_rfl
theorem Tryz.vzero26:QO prog 26=some [.pv (.slc [])]:=by kernel_rfl
theorem Tryz.vt28:vt prog 28=some (some 3):=by kernel_rfl
theorem Tryz.vfield28x0:Qf prog 28 0=some (3,0,1):=by kernel_rfl
theorem Tryz.vfield28x1:Qf prog 28 1=some (26,1,1):=by kernel_rfl
theorem Tryz.vfield28x2:Qf prog 28 2=some (3,2,1):=by kernel_rfl
theorem Tryz.vplaces28:Qy prog 28=some fun j=>([(0,1),(1,1),(2,1)]:List (Nat×Nat))[j]?:=by kernel_rfl
theorem Tryz.vzero28:QO prog 28=some [.pv (.lit (.int .i64 0)),.pv (.slc []),.pv (.lit (.int .i64 0))]:=by kernel_rfl
theorem Tryz.vt29:vt prog 29=some none:=by kernel_rfl
theorem Tryz.velem29:QQ prog 29=some (none,163,37):=by kernel_rfl
theorem Tryz.notInt29:QaO prog 29=true:=by kernel_rfl
theorem Tryz.vkind29:Qao prog 29=.sl 163:=by kernel_rfl
theorem Tryz.vt31:vt prog 31=some (some 3):=by kernel_rfl
theorem Tryz.vfield31x0:Qf prog 31 0=some (3,0,1):=by kernel_rfl
theorem Tryz.vfield31x1:Qf prog 31 1=some (29,1,1):=by kernel_rfl
theorem Tryz.vfield31x2:Qf prog 31 2=some (3,2,1):=by kernel_rfl
theorem Tryz.vplaces31:Qy prog 31=some fun j=>([(0,1),(1,1),(2,1)]:List (Nat×Nat))[j]?:=by kernel_rfl
theorem Tryz.vzero31:QO prog 31=some [.pv (.lit (.int .i64 0)),.pv (.slc []),.pv (.lit (.int .i64 0))]:=by kernel_rfl
theorem Tryz.vt32:vt prog 32=some none:=by kernel_rfl
theorem Tryz.velem32:QQ prog 32=some (none,205,4):=by kernel_rfl
theorem Tryz.notInt32:QaO prog 32=true:=by kernel_rfl
theorem Tryz.vkind32:Qao prog 32=.sl 205:=by kernel_rfl
theorem Tryz.vt34:vt prog 34=some (some 2):=by kernel_rfl
theorem Tryz.vfield34x0:Qf prog 34 0=some (32,0,1):=by kernel_rfl
theorem Tryz.vfield34x1:Qf prog 34 1=some (32,1,1):=by kernel_rfl
theorem Tryz.vplaces34:Qy prog 34=some fun j=>([(0,1),(1,1)]:List (Nat×Nat))[j]?:=by kernel_rfl
theorem Tryz.vzero34:QO prog 34=some [.pv (.slc []),.pv (.slc [])]:=by kernel_rfl
theorem Tryz.vt35:vt prog 35=some none:=by kernel_rfl
theorem Tryz.velem35:QQ prog 35=some (none,201,6):=by kernel_rfl
theorem Tryz.notInt35:QaO prog 35=true:=by kernel_rfl
theorem Tryz.vkind35:Qao prog 35=.sl 201:=by kernel_rfl
theorem Tryz.vt36:vt prog 36=some none:=by kernel_rfl
theorem Tryz.velem36:QQ prog 36=some (none,263,3):=by kernel_rfl
theorem Tryz.notInt36:QaO prog 36=true:=by kernel_rfl
theorem Tryz.vkind36:Qao prog 36=.sl 263:=by kernel_rfl
theorem Tryz.vt38:vt prog 38=some (some 1):=by kernel_rfl
theorem Tryz.vfield38x0:Qf prog 38 0=some (36,0,1):=by kernel_rfl
theorem Tryz.vplaces38:Qy prog 38=some fun j=>([(0,1)]:List (Nat×Nat))[j]?:=by kernel_rfl
theorem Tryz.vzero38:QO prog 38=some [.pv (.slc [])]:=by kernel_rfl
theorem Tryz.vt39:vt prog 39=some none:=by kernel_rfl
theorem Tryz.velem39:QQ prog 39=some (none,171,3):=by kernel_rfl
theorem Tryz.notInt39:QaO prog 39=true:=by kernel_rfl
theorem Tryz.vkind39:Qao prog 39=.sl 171:=by kernel_rfl
theorem Tryz.vt41:vt prog 41=some (some 13):=by kernel_rfl
theorem Tryz.vfield41x0:Qf prog 41 0=some (3,0,1):=by kernel_rfl
theorem Tryz.vfield41x1:Qf prog 41 1=some (3,1,1):=by kernel_rfl
theorem Tryz.vfield41x2:Qf prog 41 2=some (28,2,3):=by kernel_rfl
theorem Tryz.vfield41x3:Qf prog 41 3=some (31,5,3):=by kernel_rfl
theorem Tryz.vfield41x4:Qf prog 41 4=some (34,8,2):=by kernel_rfl
theorem Tryz.vfield41x5:Qf prog 41 5=some (35,10,1):=by kernel_rfl
theorem Tryz.vfield41x6:Qf prog 41 6=some (38,11,1):=by kernel_rfl
theorem Tryz.vfield41x7:Qf prog 41 7=some (39,12,1):=by kernel_rfl
theorem Tryz.vplaces41:Qy prog 41=some fun j=>([(0,1),(1,1),(2,3),(5,3),(8,2),(10,1),(11,1),(12,1)]:List (Nat×Nat))[j]?:=by kernel_rfl
theorem Tryz.vzero41:QO prog 41=some [.pv (.lit (.int .i64 0)),.pv (.lit (.int .i64 0)),.pv (.lit (.int .i64 0)),.pv (.slc []),.pv (.lit (.int .i64 0)),.pv (.lit (.int .i64 0)),.pv (.slc []),.pv (.lit (.int .i64 0)),.pv (.slc []),.pv (.slc []),.pv (.slc []),.pv (.slc []),.pv (.slc [])]:=by kernel_rfl
theorem Tryz.vt44:vt prog 44=some none:=by kernel_rfl
theorem Tryz.vzero44:QO prog 44=some [.pv (.lit (.int .i64 0))]:=by kernel_rfl
theorem Tryz.vt49:vt prog 49=some none:=by kernel_rfl
theorem Tryz.velem49:QQ prog 49=some (none,3,1):=by kernel_rfl
theorem Tryz.notInt49:QaO prog 49=true:=by kernel_rfl
theorem Tryz.vkind49:Qao prog 49=.sl 3:=by kernel_rfl
theorem Tryz.vt51:vt prog 51=some none:=by kernel_rfl
theorem Tryz.vt53:vt prog 53=some (some 2):=by kernel_rfl
theorem Tryz.vfield53x0:Qf prog 53 0=some (4,0,1):=by kernel_rfl
theorem Tryz.vfield53x1:Qf prog 53 1=some (9,1,1):=by kernel_rfl
theorem Tryz.vplaces53:Qy prog 53=some fun j=>([(0,1),(1,1)]:List (Nat×Nat))[j]?:=by kernel_rfl
theorem Tryz.vzero53:QO prog 53=some [.pv (.lit (.bool false)),.pv (.str [])]:=by kernel_rfl
theorem Tryz.leaves53:QaP prog 8 53=some [(0,0),(1,2)]:=by kernel_rfl
theorem Tryz.eqg53:prog.eqGuardType prog.depth 53=false:=by kernel_rfl
theorem Tryz.vt55:vt prog 55=some (some 6):=by kernel_rfl
theorem Tryz.vfield55x0:Qf prog 55 0=some (3,0,1):=by kernel_rfl
theorem Tryz.vfield55x1:Qf prog 55 1=some (3,1,1):=by kernel_rfl
theorem Tryz.vfield55x2:Qf prog 55 2=some (53,2,2):=by kernel_rfl
theorem Tryz.vfield55x3:Qf prog 55 3=some (53,4,2):=by kernel_rfl
theorem Tryz.vplaces55:Qy prog 55=some fun j=>([(0,1),(1,1),(2,2),(4,2)]:List (Nat×Nat))[j]?:=by kernel_rfl
theorem Tryz.vzero55:QO prog 55=some [.pv (.lit (.int .i64 0)),.pv (.lit (.int .i64 0)),.pv (.lit (.bool false)),.pv (.str []),.pv (.lit (.bool false)),.pv (.str [])]:=by kernel_rfl
theorem Tryz.leaves55:QaP prog 8 55=some [(0,1),(1,1),(2,0),(3,2),(4,0),(5,2)]:=by kernel_rfl
theorem Tryz.eqg55:prog.eqGuardType prog.depth 55=false:=by kernel_rfl
theorem Tryz.vt57:vt prog 57=some (some 13):=by kernel_rfl
theorem Tryz.vfield57x0:Qf prog 57 0=some (3,0,1):=by kernel_rfl
theorem Tryz.vfield57x1:Qf prog 57 1=some (3,1,1):=by kernel_rfl
theorem Tryz.vfield57x2:Qf prog 57 2=some (3,2,1):=by kernel_rfl
theorem Tryz.vfield57x3:Qf prog 57 3=some (3,3,1):=by kernel_rfl
theorem Tryz.vfield57x4:Qf prog 57 4=some (3,4,1):=by kernel_rfl
theorem Tryz.vfield57x5:Qf prog 57 5=some (3,5,1):=by kernel_rfl
theorem Tryz.vfield57x6:Qf prog 57 6=some (55,6,6):=by kernel_rfl
theorem Tryz.vfield57x7:Qf prog 57 7=some (9,12,1):=by kernel_rfl
theorem Tryz.vplaces57:Qy prog 57=some fun j=>([(0,1),(1,1),(2,1),(3,1),(4,1),(5,1),(6,6),(12,1)]:List (Nat×Nat))[j]?:=by kernel_rfl
theorem Tryz.vzero57:QO prog 57=some [.pv (.lit (.int .i64 0)),.pv (.lit (.int .i64 0)),.pv (.lit (.int .i64 0)),.pv (.lit (.int .i64 0)),.pv (.lit (.int .i64 0)),.pv (.lit (.int .i64 0)),.pv (.lit (.int .i64 0)),.pv (.lit (.int .i64 0)),.pv (.lit (.bool false)),.pv (.str []),.pv (.lit (.bool false)),.pv (.str []),.pv (.str [])]:=by kernel_rfl
theorem Tryz.bytes57:Qa1 prog 57=some 128:=by kernel_rfl
theorem Tryz.leaves57:QaP prog 8 57=some [(0,1),(1,1),(2,1),(3,1),(4,1),(5,1),(6,1),(7,1),(8,0),(9,2),(10,0),(11,2),(12,2)]:=by kernel_rfl
theorem Tryz.eqg57:prog.eqGuardType prog.depth 57=false:=by kernel_rfl
theorem Tryz.vfield68x0:Qf prog 68 0=some (22,0,1):=by kernel_rfl
theorem Tryz.vfield68x1:Qf prog 68 1=some (3,1,1):=by kernel_rfl
theorem Tryz.vplaces68:Qy prog 68=some fun j=>([(0,1),(1,1)]:List (Nat×Nat))[j]?:=by kernel_rfl
theorem Tryz.vzero68:QO prog 68=some [.pv (.slc []),.pv (.lit (.int .i64 0))]:=by kernel_rfl
theorem Tryz.vt69:vt prog 69=some none:=by kernel_rfl
theorem Tryz.velem69:QQ prog 69=some (none,9,1):=by kernel_rfl
theorem Tryz.notInt69:QaO prog 69=true:=by kernel_rfl
theorem Tryz.vkind69:Qao prog 69=.sl 9:=by kernel_rfl
theorem Tryz.vt70:vt prog 70=some none:=by kernel_rfl
theorem Tryz.velem70:QQ prog 70=some (none,237,6):=by kernel_rfl
theorem Tryz.notInt70:QaO prog 70=true:=by kernel_rfl
theorem Tryz.vkind70:Qao prog 70=.sl 237:=by kernel_rfl
theorem Tryz.vt72:vt prog 72=some (some 5):=by kernel_rfl
theorem Tryz.vfield72x0:Qf prog 72 0=some (69,0,1):=by kernel_rfl
theorem Tryz.vfield72x1:Qf prog 72 1=some (3,1,1):=by kernel_rfl
theorem Tryz.vfield72x2:Qf prog 72 2=some (49,2,1):=by kernel_rfl
theorem Tryz.vfield72x3:Qf prog 72 3=some (4,3,1):=by kernel_rfl
theorem Tryz.vfield72x4:Qf prog 72 4=some (70,4,1):=by kernel_rfl
theorem Tryz.vplaces72:Qy prog 72=some fun j=>([(0,1),(1,1),(2,1),(3,1),(4,1)]:List (Nat×Nat))[j]?:=by kernel_rfl
theorem Tryz.vzero72:QO prog 72=some [.pv (.slc []),.pv (.lit (.int .i64 0)),.pv (.slc []),.pv (.lit (.bool false)),.pv (.slc [])]:=by kernel_rfl
theorem Tryz.vt74:vt prog 74=some (some 18):=by kernel_rfl
theorem Tryz.vfield74x0:Qf prog 74 0=some (41,0,13):=by kernel_rfl
theorem Tryz.vfield74x1:Qf prog 74 1=some (72,13,5):=by kernel_rfl
theorem Tryz.vplaces74:Qy prog 74=some fun j=>([(0,13),(13,5)]:List (Nat×Nat))[j]?:=by kernel_rfl
theorem Tryz.vzero74:QO prog 74=some [.pv (.lit (.int .i64 0)),.pv (.lit (.int .i64 0)),.pv (.lit (.int .i64 0)),.pv (.slc []),.pv (.lit (.int .i64 0)),.pv (.lit (.int .i64 0)),.pv (.slc []),.pv (.lit (.int .i64 0)),.pv (.slc []),.pv (.slc []),.pv (.slc []),.pv (.slc []),.pv (.slc []),.pv (.slc []),.pv (.lit (.int .i64 0)),.pv (.slc []),.pv (.lit (.bool false)),.pv (.slc [])]:=by kernel_rfl
theorem Tryz.vfield83x0:Qf prog 83 0=some (3,0,1):=by kernel_rfl
theorem Tryz.vfield83x1:Qf prog 83 1=some (79,1,1):=by kernel_rfl
theorem Tryz.vfield83x2:Qf prog 83 2=some (80,2,1):=by kernel_rfl
theorem Tryz.vplaces83:Qy prog 83=some fun j=>([(0,1),(1,1),(2,1),(3,1)]:List (Nat×Nat))[j]?:=by kernel_rfl
theorem Tryz.vt87:vt prog 87=some none:=by kernel_rfl
theorem Tryz.vt89:vt prog 89=some (some 14):=by kernel_rfl
theorem Tryz.vfield89x0:Qf prog 89 0=some (57,0,13):=by kernel_rfl
theorem Tryz.vfield89x1:Qf prog 89 1=some (44,13,1):=by kernel_rfl
theorem Tryz.vplaces89:Qy prog 89=some fun j=>([(0,13),(13,1)]:List (Nat×Nat))[j]?:=by kernel_rfl
theorem Tryz.vzero89:QO prog 89=some [.pv (.lit (.int .i64 0)),.pv (.lit (.int .i64 0)),.pv (.lit (.int .i64 0)),.pv (.lit (.int .i64 0)),.pv (.lit (.int .i64 0)),.pv (.lit (.int .i64 0)),.pv (.lit (.int .i64 0)),.pv (.lit (.int .i64 0)),.pv (.lit (.bool false)),.pv (.str []),.pv (.lit (.bool false)),.pv (.str []),.pv (.str []),.pv (.lit (.int .i64 0))]:=by kernel_rfl
theorem Tryz.velem93:QQ prog 93=some (none,118,6):=by kernel_rfl
theorem Tryz.notInt93:QaO prog 93=true:=by kernel_rfl
theorem Tryz.vt94:vt prog 94=some none:=by kernel_rfl
theorem Tryz.velem94:QQ prog 94=some (none,156,6):=by kernel_rfl
theorem Tryz.notInt94:QaO prog 94=true:=by kernel_rfl
theorem Tryz.velem97:QQ prog 97=some (none,123,9):=by kernel_rfl
theorem Tryz.notInt97:QaO prog 97=true:=by kernel_rfl
theorem Tryz.vkind97:Qao prog 97=.sl 123:=by kernel_rfl
theorem Tryz.vfield101x2:Qf prog 101 2=some (4,2,1):=by kernel_rfl
theorem Tryz.vfield101x4:Qf prog 101 4=some (26,4,1):=by kernel_rfl
theorem Tryz.vplaces101:Qy prog 101=some fun j=>([(0,1),(1,1),(2,1),(3,1),(4,1)]:List (Nat×Nat))[j]?:=by kernel_rfl
theorem Tryz.vzero101:QO prog 101=some [.pv (.lit (.int .i64 0)),.pv (.lit (.bool false)),.pv (.lit (.bool false)),.pv (.lit (.bool false)),.pv (.slc [])]:=by kernel_rfl
theorem Tryz.vt105:vt prog 105=some none:=by kernel_rfl
theorem Tryz.vt107:vt prog 107=some (some 7):=by kernel_rfl
theorem Tryz.vfield107x0:Qf prog 107 0=some (4,0,1):=by kernel_rfl
theorem Tryz.vfield107x1:Qf prog 107 1=some (4,1,1):=by kernel_rfl
theorem Tryz.vfield107x2:Qf prog 107 2=some (4,2,1):=by kernel_rfl
theorem Tryz.vfield107x3:Qf prog 107 3=some (4,3,1):=by kernel_rfl
theorem Tryz.vfield107x4:Qf prog 107 4=some (4,4,1):=by kernel_rfl
theorem Tryz.vfield107x5:Qf prog 107 5=some (51,5,1):=by kernel_rfl
theorem Tryz.vfield107x6:Qf prog 107 6=some (105,6,1):=by kernel_rfl
theorem Tryz.vplaces107:Qy prog 107=some fun j=>([(0,1),(1,1),(2,1),(3,1),(4,1),(5,1),(6,1)]:List (Nat×Nat))[j]?:=by kernel_rfl
theorem Tryz.vzero107:QO prog 107=some [.pv (.lit (.bool false)),.pv (.lit (.bool false)),.pv (.lit (.bool false)),.pv (.lit (.bool false)),.pv (.lit (.bool false)),.pv (.lit .nilFunc),.pv (.lit .nilFunc)]:=by kernel_rfl
theorem Tryz.vt108:vt prog 108=some (some 63):=by kernel_rfl
theorem Tryz.velem108:QQ prog 108=some (some 9,107,7):=by kernel_rfl
theorem Tryz.vplaces108:Qy prog 108=some fun j=>some (j*7,7):=by kernel_rfl
theorem Tryz.vzero108:QO prog 108=some [.pv (.lit (.bool false)),.pv (.lit (.bool false)),.pv (.lit (.bool false)),.pv (.lit (.bool false)),.pv (.lit (.bool false)),.pv (.lit .nilFunc),.pv (.lit .nilFunc),.pv (.lit (.bool false)),.pv (.lit (.bool false)),.pv (.lit (.bool false)),.pv (.lit (.bool false)),.pv (.lit (.bool false)),.pv (.lit .nilFunc),.pv (.lit .nilFunc),.pv (.lit (.bool false)),.pv (.lit (.bool false)),.pv (.lit (.bool false)),.pv (.lit (.bool false)),.pv (.lit (.bool false)),.pv (.lit .nilFunc),.pv (.lit .nilFunc),.pv (.lit (.bool false)),.pv (.lit (.bool false)),.pv (.lit (.bool false)),.pv (.lit (.bool false)),.pv (.lit (.bool false)),.pv (.lit .nilFunc),.pv (.lit .nilFunc),.pv (.lit (.bool false)),.pv (.lit (.bool false)),.pv (.lit (.bool false)),.pv (.lit (.bool false)),.pv (.lit (.bool false)),.pv (.lit .nilFunc),.pv (.lit .nilFunc),.pv (.lit (.bool false)),.pv (.lit (.bool false)),.pv (.lit (.bool false)),.pv (.lit (.bool false)),.pv (.lit (.bool false)),.pv (.lit .nilFunc),.pv (.lit .nilFunc),.pv (.lit (.bool false)),.pv (.lit (.bool false)),.pv (.lit (.bool false)),.pv (.lit (.bool false)),.pv (.lit (.bool false)),.pv (.lit .nilFunc),.pv (.lit .nilFunc),.pv (.lit (.bool false)),.pv (.lit (.bool false)),.pv (.lit (.bool false)),.pv (.lit (.bool false)),.pv (.lit (.bool false)),.pv (.lit .nilFunc),.pv (.lit .nilFunc),.pv (.lit (.bool false)),.pv (.lit (.bool false)),.pv (.lit (.bool false)),.pv (.lit (.bool false)),.pv (.lit (.bool false)),.pv (.lit .nilFunc),.pv (.lit .nilFunc)]:=by kernel_rfl
theorem Tryz.vfield116x0:Qf prog 116 0=some (74,0,18):=by kernel_rfl
theorem Tryz.vfield116x1:Qf prog 116 1=some (49,18,1):=by kernel_rfl
theorem Tryz.vfield116x2:Qf prog 116 2=some (94,19,1):=by kernel_rfl
theorem Tryz.vfield116x3:Qf prog 116 3=some (4,20,1):=by kernel_rfl
theorem Tryz.vplaces116:Qy prog 116=some fun j=>([(0,18),(18,1),(19,1),(20,1)]:List (Nat×Nat))[j]?:=by kernel_rfl
theorem Tryz.vzero116:QO prog 116=some [.pv (.lit (.int .i64 0)),.pv (.lit (.int .i64 0)),.pv (.lit (.int .i64 0)),.pv (.slc []),.pv (.lit (.int .i64 0)),.pv (.lit (.int .i64 0)),.pv (.slc []),.pv (.lit (.int .i64 0)),.pv (.slc []),.pv (.slc []),.pv (.slc []),.pv (.slc []),.pv (.slc []),.pv (.slc []),.pv (.lit (.int .i64 0)),.pv (.slc []),.pv (.lit (.bool false)),.pv (.slc []),.pv (.slc []),.pv (.slc []),.pv (.lit (.bool false))]:=by kernel_rfl
theorem Tryz.vt118:vt prog 118=some (some 6):=by kernel_rfl
theorem Tryz.vfield118x0:Qf prog 118 0=some (3,0,1):=by kernel_rfl
theorem Tryz.vfield118x1:Qf prog 118 1=some (3,1,1):=by kernel_rfl
theorem Tryz.vfield118x2:Qf prog 118 2=some (3,2,1):=by kernel_rfl
theorem Tryz.vfield118x3:Qf prog 118 3=some (53,3,2):=by kernel_rfl
theorem Tryz.vfield118x4:Qf prog 118 4=some (44,5,1):=by kernel_rfl
theorem Tryz.vplaces118:Qy prog 118=some fun j=>([(0,1),(1,1),(2,1),(3,2),(5,1)]:List (Nat×Nat))[j]?:=by kernel_rfl
theorem Tryz.vzero118:QO prog 118=some [.pv (.lit (.int .i64 0)),.pv (.lit (.int .i64 0)),.pv (.lit (.int .i64 0)),.pv (.lit (.bool false)),.pv (.str []),.pv (.lit (.int .i64 0))]:=by kernel_rfl
theorem Tryz.bytes118:Qa1 prog 118=some 56:=by kernel_rfl
theorem Tryz.vt121:vt prog 121=some (some 4):=by kernel_rfl
theorem Tryz.vfield121x0:Qf prog 121 0=some (3,0,1):=by kernel_rfl
theorem Tryz.vfield121x1:Qf prog 121 1=some (3,1,1):=by kernel_rfl
theorem Tryz.vfield121x2:Qf prog 121 2=some (3,2,1):=by kernel_rfl
theorem Tryz.vfield121x3:Qf prog 121 3=some (9,3,1):=by kernel_rfl
theorem Tryz.vplaces121:Qy prog 121=some fun j=>([(0,1),(1,1),(2,1),(3,1)]:List (Nat×Nat))[j]?:=by kernel_rfl
theorem Tryz.vzero121:QO prog 121=some [.pv (.lit (.int .i64 0)),.pv (.lit (.int .i64 0)),.pv (.lit (.int .i64 0)),.pv (.str [])]:=by kernel_rfl
theorem Tryz.leaves121:QaP prog 8 121=some [(0,1),(1,1),(2,1),(3,2)]:=by kernel_rfl
theorem Tryz.eqg121:prog.eqGuardType prog.depth 121=false:=by kernel_rfl
theorem Tryz.vt123:vt prog 123=some (some 9):=by kernel_rfl
theorem Tryz.vfield123x0:Qf prog 123 0=some (3,0,1):=by kernel_rfl
theorem Tryz.vfield123x1:Qf prog 123 1=some (3,1,1):=by kernel_rfl
theorem Tryz.vfield123x2:Qf prog 123 2=some (3,2,1):=by kernel_rfl
theorem Tryz.vfield123x3:Qf prog 123 3=some (3,3,1):=by kernel_rfl
theorem Tryz.vfield123x4:Qf prog 123 4=some (3,4,1):=by kernel_rfl
theorem Tryz.vfield123x5:Qf prog 123 5=some (121,5,4):=by kernel_rfl
theorem Tryz.vplaces123:Qy prog 123=some fun j=>([(0,1),(1,1),(2,1),(3,1),(4,1),(5,4)]:List (Nat×Nat))[j]?:=by kernel_rfl
theorem Tryz.vzero123:QO prog 123=some [.pv (.lit (.int .i64 0)),.pv (.lit (.int .i64 0)),.pv (.lit (.int .i64 0)),.pv (.lit (.int .i64 0)),.pv (.lit (.int .i64 0)),.pv (.lit (.int .i64 0)),.pv (.lit (.int .i64 0)),.pv (.lit (.int .i64 0)),.pv (.str [])]:=by kernel_rfl
theorem Tryz.bytes123:Qa1 prog 123=some 80:=by kernel_rfl
theorem Tryz.vplaces156:Qy prog 156=some fun j=>([(0,1),(1,1),(2,1),(3,1),(4,2)]:List (Nat×Nat))[j]?:=by kernel_rfl
theorem Tryz.vzero156:QO prog 156=some [.pv (.lit (.int .i64 0)),.pv (.lit (.int .i64 0)),.pv (.lit (.int .i64 0)),.pv (.lit (.int .i64 0)),.pv (.lit (.bool false)),.pv (.str [])]:=by kernel_rfl
theorem Tryz.bytes156:Qa1 prog 156=some 56:=by kernel_rfl
theorem Tryz.velem157:QQ prog 157=some (some 16,53,2):=by kernel_rfl
theorem Tryz.vt159:vt prog 159=some (some 34):=by kernel_rfl
theorem Tryz.vfield159x0:Qf prog 159 0=some (3,0,1):=by kernel_rfl
theorem Tryz.vfield159x1:Qf prog 159 1=some (3,1,1):=by kernel_rfl
theorem Tryz.vfield159x2:Qf prog 159 2=some (157,2,32):=by kernel_rfl
theorem Tryz.vplaces159:Qy prog 159=some fun j=>([(0,1),(1,1),(2,32)]:List (Nat×Nat))[j]?:=by kernel_rfl
theorem Tryz.vzero159:QO prog 159=some [.pv (.lit (.int .i64 0)),.pv (.lit (.int .i64 0)),.pv (.lit (.bool false)),.pv (.str []),.pv (.lit (.bool false)),.pv (.str []),.pv (.lit (.bool false)),.pv (.str []),.pv (.lit (.bool false)),.pv (.str []),.pv (.lit (.bool false)),.pv (.str []),.pv (.lit (.bool false)),.pv (.str []),.pv (.lit (.bool false)),.pv (.str []),.pv (.lit (.bool false)),.pv (.str []),.pv (.lit (.bool false)),.pv (.str []),.pv (.lit (.bool false)),.pv (.str []),.pv (.lit (.bool false)),.pv (.str []),.pv (.lit (.bool false)),.pv (.str []),.pv (.lit (.bool false)),.pv (.str []),.pv (.lit (.bool false)),.pv (.str []),.pv (.lit (.bool false)),.pv (.str []),.pv (.lit (.bool false)),.pv (.str [])]:=by kernel_rfl
theorem Tryz.vt163:vt prog 163=some (some 37):=by kernel_rfl
theorem Tryz.vfield163x0:Qf prog 163 0=some (159,0,34):=by kernel_rfl
theorem Tryz.vfield163x1:Qf prog 163 1=some (4,34,1):=by kernel_rfl
theorem Tryz.vfield163x2:Qf prog 163 2=some (3,35,1):=by kernel_rfl
theorem Tryz.vfield163x3:Qf prog 163 3=some (4,36,1):=by kernel_rfl
theorem Tryz.vplaces163:Qy prog 163=some fun j=>([(0,34),(34,1),(35,1),(36,1)]:List (Nat×Nat))[j]?:=by kernel_rfl
theorem Tryz.vzero163:QO prog 163=some [.pv (.lit (.int .i64 0)),.pv (.lit (.int .i64 0)),.pv (.lit (.bool false)),.pv (.str []),.pv (.lit (.bool false)),.pv (.str []),.pv (.lit (.bool false)),.pv (.str []),.pv (.lit (.bool false)),.pv (.str []),.pv (.lit (.bool false)),.pv (.str []),.pv (.lit (.bool false)),.pv (.str []),.pv (.lit (.bool false)),.pv (.str []),.pv (.lit (.bool false)),.pv (.str []),.pv (.lit (.bool false)),.pv (.str []),.pv (.lit (.bool false)),.pv (.str []),.pv (.lit (.bool false)),.pv (.str []),.pv (.lit (.bool false)),.pv (.str []),.pv (.lit (.bool false)),.pv (.str []),.pv (.lit (.bool false)),.pv (.str []),.pv (.lit (.bool false)),.pv (.str []),.pv (.lit (.bool false)),.pv (.str []),.pv (.lit (.bool false)),.pv (.lit (.int .i64 0)),.pv (.lit (.bool false))]:=by kernel_rfl
theorem Tryz.bytes163:Qa1 prog 163=some 424:=by kernel_rfl
theorem Tryz.vt171:vt prog 171=some (some 3):=by kernel_rfl
theorem Tryz.vfield171x0:Qf prog 171 0=some (3,0,1):=by kernel_rfl
theorem Tryz.vfield171x1:Qf prog 171 1=some (3,1,1):=by kernel_rfl
theorem Tryz.vfield171x2:Qf prog 171 2=some (3,2,1):=by kernel_rfl
theorem Tryz.vplaces171:Qy prog 171=some fun j=>([(0,1),(1,1),(2,1)]:List (Nat×Nat))[j]?:=by kernel_rfl
theorem Tryz.vzero171:QO prog 171=some [.pv (.lit (.int .i64 0)),.pv (.lit (.int .i64 0)),.pv (.lit (.int .i64 0))]:=by kernel_rfl
theorem Tryz.bytes171:Qa1 prog 171=some 24:=by kernel_rfl
theorem Tryz.vt180:vt prog 180=some (some 2):=by kernel_rfl
theorem Tryz.vfield180x0:Qf prog 180 0=some (3,0,1):=by kernel_rfl
theorem Tryz.vfield180x1:Qf prog 180 1=some (3,1,1):=by kernel_rfl
theorem Tryz.vplaces180:Qy prog 180=some fun j=>([(0,1),(1,1)]:List (Nat×Nat))[j]?:=by kernel_rfl
theorem Tryz.vzero180:QO prog 180=some [.pv (.lit (.int .i64 0)),.pv (.lit (.int .i64 0))]:=by kernel_rfl
theorem Tryz.leaves180:QaP prog 8 180=some [(0,1),(1,1)]:=by kernel_rfl
theorem Tryz.eqg180:prog.eqGuardType prog.depth 180=false:=by kernel_rfl
theorem Tryz.vt193:vt prog 193=some (some 5):=by kernel_rfl
theorem Tryz.vfield193x0:Qf prog 193 0=some (3,0,1):=by kernel_rfl
theorem Tryz.vfield193x1:Qf prog 193 1=some (3,1,1):=by kernel_rfl
theorem Tryz.vfield193x2:Qf prog 193 2=some (35,2,1):=by kernel_rfl
theorem Tryz.vfield193x3:Qf prog 193 3=some (39,3,1):=by kernel_rfl
theorem Tryz.vfield193x4:Qf prog 193 4=some (38,4,1):=by kernel_rfl
theorem Tryz.vplaces193:Qy prog 193=some fun j=>([(0,1),(1,1),(2,1),(3,1),(4,1)]:List (Nat×Nat))[j]?:=by kernel_rfl
theorem Tryz.vzero193:QO prog 193=some [.pv (.lit (.int .i64 0)),.pv (.lit (.int .i64 0)),.pv (.slc []),.pv (.slc []),.pv (.slc [])]:=by kernel_rfl
theorem Tryz.vt201:vt prog 201=some (some 6):=by kernel_rfl
theorem Tryz.vfield201x0:Qf prog 201 0=some (3,0,1):=by kernel_rfl
theorem Tryz.vfield201x1:Qf prog 201 1=some (3,1,1):=by kernel_rfl
theorem Tryz.vfield201x2:Qf prog 201 2=some (3,2,1):=by kernel_rfl
theorem Tryz.vfield201x3:Qf prog 201 3=some (3,3,1):=by kernel_rfl
theorem Tryz.vfield201x4:Qf prog 201 4=some (49,4,1):=by kernel_rfl
theorem Tryz.vfield201x5:Qf prog 201 5=some (49,5,1):=by kernel_rfl
theorem Tryz.vplaces201:Qy prog 201=some fun j=>([(0,1),(1,1),(2,1),(3,1),(4,1),(5,1)]:List (Nat×Nat))[j]?:=by kernel_rfl
theorem Tryz.vzero201:QO prog 201=some [.pv (.lit (.int .i64 0)),.pv (.lit (.int .i64 0)),.pv (.lit (.int .i64 0)),.pv (.lit (.int .i64 0)),.pv (.slc []),.pv (.slc [])]:=by kernel_rfl
theorem Tryz.bytes201:Qa1 prog 201=some 80:=by kernel_rfl
theorem Tryz.vt205:vt prog 205=some (some 4):=by kernel_rfl
theorem Tryz.vfield205x0:Qf prog 205 0=some (3,0,1):=by kernel_rfl
theorem Tryz.vfield205x1:Qf prog 205 1=some (180,1,2):=by kernel_rfl
theorem Tryz.vfield205x2:Qf prog 205 2=some (3,3,1):=by kernel_rfl
theorem Tryz.vplaces205:Qy prog 205=some fun j=>([(0,1),(1,2),(3,1)]:List (Nat×Nat))[j]?:=by kernel_rfl
theorem Tryz.vzero205:QO prog 205=some [.pv (.lit (.int .i64 0)),.pv (.lit (.int .i64 0)),.pv (.lit (.int .i64 0)),.pv (.lit (.int .i64 0))]:=by kernel_rfl
theorem Tryz.bytes205:Qa1 prog 205=some 32:=by kernel_rfl
theorem Tryz.leaves205:QaP prog 8 205=some [(0,1),(1,1),(2,1),(3,1)]:=by kernel_rfl
theorem Tryz.eqg205:prog.eqGuardType prog.depth 205=false:=by kernel_rfl
theorem Tryz.vkind232:Qao prog 232=.int .u32:=by kernel_rfl
theorem Tryz.vzero237:QO prog 237=some [.pv (.lit (.int .i64 0)),.pv (.lit (.int .i64 0)),.pv (.lit (.int .i64 0)),.pv (.lit (.int .i64 0)),.pv (.lit (.int .i64 0)),.pv (.lit (.int .u8 0))]:=by kernel_rfl
theorem Tryz.bytes237:Qa1 prog 237=some 48:=by kernel_rfl
theorem Tryz.vt252:vt prog 252=some (some 7):=by kernel_rfl
theorem Tryz.vfield252x0:Qf prog 252 0=some (3,0,1):=by kernel_rfl
theorem Tryz.vfield252x1:Qf prog 252 1=some (3,1,1):=by kernel_rfl
theorem Tryz.vfield252x2:Qf prog 252 2=some (3,2,1):=by kernel_rfl
theorem Tryz.vfield252x3:Qf prog 252 3=some (35,3,1):=by kernel_rfl
theorem Tryz.vfield252x4:Qf prog 252 4=some (32,4,1):=by kernel_rfl
theorem Tryz.vfield252x5:Qf prog 252 5=some (39,5,1):=by kernel_rfl
theorem Tryz.vfield252x6:Qf prog 252 6=some (38,6,1):=by kernel_rfl
theorem Tryz.vplaces252:Qy prog 252=some fun j=>([(0,1),(1,1),(2,1),(3,1),(4,1),(5,1),(6,1)]:List (Nat×Nat))[j]?:=by kernel_rfl
theorem Tryz.vzero252:QO prog 252=some [.pv (.lit (.int .i64 0)),.pv (.lit (.int .i64 0)),.pv (.lit (.int .i64 0)),.pv (.slc []),.pv (.slc []),.pv (.slc []),.pv (.slc [])]:=by kernel_rfl
theorem Tryz.vt263:vt prog 263=some (some 3):=by kernel_rfl
theorem Tryz.vfield263x0:Qf prog 263 0=some (3,0,1):=by kernel_rfl
theorem Tryz.vfield263x1:Qf prog 263 1=some (3,1,1):=by kernel_rfl
theorem Tryz.vfield263x2:Qf prog 263 2=some (3,2,1):=by kernel_rfl
theorem Tryz.vzero263:QO prog 263=some [.pv (.lit (.int .i64 0)),.pv (.lit (.int .i64 0)),.pv (.lit (.int .i64 0))]:=by kernel_rfl
theorem Tryz.bytes263:Qa1 prog 263=some 24:=by kernel_rfl
theorem Tryz.vkind282:Qao prog 282=.int .u64:=by kernel_rfl
theorem Tryz.vkind283:Qao prog 283=.int .u64:=by kernel_rfl
theorem Tryz.vfield325x0:Qf prog 325 0=some (9,0,1):=by kernel_rfl
theorem Tryz.vfield325x1:Qf prog 325 1=some (3,1,1):=by kernel_rfl
theorem Tryz.vfield325x2:Qf prog 325 2=some (44,2,1):=by kernel_rfl
theorem Tryz.vplaces325:Qy prog 325=some fun j=>([(0,1),(1,1),(2,1)]:List (Nat×Nat))[j]?:=by kernel_rfl
theorem Tryz.vzero325:QO prog 325=some [.pv (.str []),.pv (.lit (.int .i64 0)),.pv (.lit (.int .i64 0))]:=by kernel_rfl
theorem Tryz.vfield336x0:Qf prog 336 0=some (9,0,1):=by kernel_rfl
theorem Tryz.vfield336x1:Qf prog 336 1=some (3,1,1):=by kernel_rfl
theorem Tryz.vfield336x2:Qf prog 336 2=some (4,2,1):=by kernel_rfl
theorem Tryz.vplaces336:Qy prog 336=some fun j=>([(0,1),(1,1),(2,1)]:List (Nat×Nat))[j]?:=by kernel_rfl
theorem Tryz.vzero336:QO prog 336=some [.pv (.str []),.pv (.lit (.int .i64 0)),.pv (.lit (.bool false))]:=by kernel_rfl
attribute [go_sem] Tryz.vt3 Tryz.vkind3 Tryz.vzero3 Tryz.bytes3 Tryz.vt4 Tryz.vt5 Tryz.vkind5 Tryz.vzero5 Tryz.bytes5 Tryz.vt9 Tryz.vkind9 Tryz.vzero9 Tryz.bytes9 Tryz.vt22 Tryz.velem22 Tryz.notInt22 Tryz.vkind22 Tryz.vt26 Tryz.velem26 Tryz.notInt26 Tryz.vkind26 Tryz.vzero26 Tryz.vt28 Tryz.vfield28x0 Tryz.vfield28x1 Tryz.vfield28x2 Tryz.vplaces28 Tryz.vzero28 Tryz.vt29 Tryz.velem29 Tryz.notInt29 Tryz.vkind29 Tryz.vt31 Tryz.vfield31x0 Tryz.vfield31x1 Tryz.vfield31x2 Tryz.vplaces31 Tryz.vzero31 Tryz.vt32 Tryz.velem32 Tryz.notInt32 Tryz.vkind32 Tryz.vt34 Tryz.vfield34x0 Tryz.vfield34x1 Tryz.vplaces34 Tryz.vzero34 Tryz.vt35 Tryz.velem35 Tryz.notInt35 Tryz.vkind35 Tryz.vt36 Tryz.velem36 Tryz.notInt36 Tryz.vkind36 Tryz.vt38 Tryz.vfield38x0 Tryz.vplaces38 Tryz.vzero38 Tryz.vt39 Tryz.velem39 Tryz.notInt39 Tryz.vkind39 Tryz.vt41 Tryz.vfield41x0 Tryz.vfield41x1 Tryz.vfield41x2 Tryz.vfield41x3 Tryz.vfield41x4 Tryz.vfield41x5 Tryz.vfield41x6 Tryz.vfield41x7 Tryz.vplaces41 Tryz.vzero41 Tryz.vt44 Tryz.vzero44 Tryz.vt49 Tryz.velem49 Tryz.notInt49 Tryz.vkind49 Tryz.vt51 Tryz.vt53 Tryz.vfield53x0 Tryz.vfield53x1 Tryz.vplaces53 Tryz.vzero53 Tryz.leaves53 Tryz.eqg53 Tryz.vt55 Tryz.vfield55x0 Tryz.vfield55x1 Tryz.vfield55x2 Tryz.vfield55x3 Tryz.vplaces55 Tryz.vzero55 Tryz.leaves55 Tryz.eqg55 Tryz.vt57 Tryz.vfield57x0 Tryz.vfield57x1 Tryz.vfield57x2 Tryz.vfield57x3 Tryz.vfield57x4 Tryz.vfield57x5 Tryz.vfield57x6 Tryz.vfield57x7 Tryz.vplaces57 Tryz.vzero57 Tryz.bytes57 Tryz.leaves57 Tryz.eqg57 Tryz.vfield68x0 Tryz.vfield68x1 Tryz.vplaces68 Tryz.vzero68 Tryz.vt69 Tryz.velem69 Tryz.notInt69 Tryz.vkind69 Tryz.vt70 Tryz.velem70 Tryz.notInt70 Tryz.vkind70 Tryz.vt72 Tryz.vfield72x0 Tryz.vfield72x1 Tryz.vfield72x2 Tryz.vfield72x3 Tryz.vfield72x4 Tryz.vplaces72 Tryz.vzero72 Tryz.vt74 Tryz.vfield74x0 Tryz.vfield74x1 Tryz.vplaces74 Tryz.vzero74 Tryz.vfield83x0 Tryz.vfield83x1 Tryz.vfield83x2 Tryz.vplaces83 Tryz.vt87 Tryz.vt89 Tryz.vfield89x0 Tryz.vfield89x1 Tryz.vplaces89 Tryz.vzero89 Tryz.velem93 Tryz.notInt93 Tryz.vt94 Tryz.velem94 Tryz.notInt94 Tryz.velem97 Tryz.notInt97 Tryz.vkind97 Tryz.vfield101x2 Tryz.vfield101x4 Tryz.vplaces101 Tryz.vzero101 Tryz.vt105 Tryz.vt107 Tryz.vfield107x0 Tryz.vfield107x1 Tryz.vfield107x2 Tryz.vfield107x3 Tryz.vfield107x4 Tryz.vfield107x5 Tryz.vfield107x6 Tryz.vplaces107 Tryz.vzero107 Tryz.vt108 Tryz.velem108 Tryz.vplaces108 Tryz.vzero108 Tryz.vfield116x0 Tryz.vfield116x1 Tryz.vfield116x2 Tryz.vfield116x3 Tryz.vplaces116 Tryz.vzero116 Tryz.vt118 Tryz.vfield118x0 Tryz.vfield118x1 Tryz.vfield118x2 Tryz.vfield118x3 Tryz.vfield118x4 Tryz.vplaces118 Tryz.vzero118 Tryz.bytes118 Tryz.vt121 Tryz.vfield121x0 Tryz.vfield121x1 Tryz.vfield121x2 Tryz.vfield121x3 Tryz.vplaces121 Tryz.vzero121 Tryz.leaves121 Tryz.eqg121 Tryz.vt123 Tryz.vfield123x0 Tryz.vfield123x1 Tryz.vfield123x2 Tryz.vfield123x3 Tryz.vfield123x4 Tryz.vfield123x5 Tryz.vplaces123 Tryz.vzero123 Tryz.bytes123 Tryz.vplaces156 Tryz.vzero156 Tryz.bytes156 Tryz.velem157 Tryz.vt159 Tryz.vfield159x0 Tryz.vfield159x1 Tryz.vfield159x2 Tryz.vplaces159 Tryz.vzero159 Tryz.vt163 Tryz.vfield163x0 Tryz.vfield163x1 Tryz.vfield163x2 Tryz.vfield163x3 Tryz.vplaces163 Tryz.vzero163 Tryz.bytes163 Tryz.vt171 Tryz.vfield171x0 Tryz.vfield171x1 Tryz.vfield171x2 Tryz.vplaces171 Tryz.vzero171 Tryz.bytes171 Tryz.vt180 Tryz.vfield180x0 Tryz.vfield180x1 Tryz.vplaces180 Tryz.vzero180 Tryz.leaves180 Tryz.eqg180 Tryz.vt193 Tryz.vfield193x0 Tryz.vfield193x1 Tryz.vfield193x2 Tryz.vfield193x3 Tryz.vfield193x4 Tryz.vplaces193 Tryz.vzero193 Tryz.vt201 Tryz.vfield201x0 Tryz.vfield201x1 Tryz.vfield201x2 Tryz.vfield201x3 Tryz.vfield201x4 Tryz.vfield201x5 Tryz.vplaces201 Tryz.vzero201 Tryz.bytes201 Tryz.vt205 Tryz.vfield205x0 Tryz.vfield205x1 Tryz.vfield205x2 Tryz.vplaces205 Tryz.vzero205 Tryz.bytes205 Tryz.leaves205 Tryz.eqg205 Tryz.vkind232 Tryz.vzero237 Tryz.bytes237 Tryz.vt252 Tryz.vfield252x0 Tryz.vfield252x1 Tryz.vfield252x2 Tryz.vfield252x3 Tryz.vfield252x4 Tryz.vfield252x5 Tryz.vfield252x6 Tryz.vplaces252 Tryz.vzero252 Tryz.vt263 Tryz.vfield263x0 Tryz.vfield263x1 Tryz.vfield263x2 Tryz.vzero263 Tryz.bytes263 Tryz.vkind282 Tryz.vkind283 Tryz.vfield325x0 Tryz.vfield325x1 Tryz.vfield325x2 Tryz.vplaces325 Tryz.vzero325 Tryz.vfield336x0 Tryz.vfield336x1 Tryz.vfield336x2 Tryz.vplaces336 Tryz.vzero336
end Go.Proofs
namespace Go.Proofs.YtdnbdbgdfocpgaaGreat
open Go.V Go
open Tryz (prog)
def Qx9(n:Int)(i:Nat):Int:=IntKind.u8.wrap ((IntKind.u64.wrap n).fdiv (2 ^ min (8*(i:Int)).toNat 64))
def Qma(n:Int)(i:Nat):UInt8:=UInt8.ofNat (Qx9 n i).toNat
def Qin(x:Int):IntKind.u8.wrap x=x % 256:=by
 simp[IntKind.wrap,IntKind.signed,IntKind.bits]
def Qya(n:Int)(i:Nat):Qx9 n i=((Qma n i).toNat:Int):=by
 unfold Qma Qx9
 rw[Qin]
 generalize (IntKind.u64.wrap n).fdiv (2 ^ min (8*(i:Int)).toNat 64)=y
 simp only[UInt8.toNat_ofNat']
 omega
def Qk(s:List UInt8)(n:Int)(k:Nat):List UInt8:=s++(Jq k).map (Qma n)
def Qb(s:List UInt8)(n:Int)(k:Nat):(Qk s n k).length=s.length+k:=by simp[Qk]
def QsZ(s:List UInt8)(n:Int)(k:Nat):Qk s n (k+1)=Qk s n k++[Qma n k]:=by simp[Qk,List.range_succ]
theorem QGZ:bts prog 22 9=true:=by kernel_rfl
def QT(s:List UInt8)(hs:s.length<=1000000000)(n:Int)(k:Nat)(h1:1<=k)(h8:k<=8):VCalls prog 134 [.pv (.str s),.int .i64 n,.int .i64 k] [] (Ret (.pv (.str (Qk s n k)))):=by
 refine dd Tryz.func134 ?_
 simp(config:={ maxSteps:=2000000 }) (implicitDefEqProofs:=false) (disch:=first | omega | assumption | (simp only[]; done) | fail) only[go_sem,Jt,Jf,Ju,Jg,Tryz.f134]
 refine Qi (fun i:{i:Nat // i<=k}=>⟨32,0,[(7,.int .i64 i.1),(2,.int .i64 k),(0,.pv (.str (Qk s n i.1))),(1,.int .i64 n)],[]⟩) (fun i=>k-i.1) ⟨0,by omega⟩ (.inl (by simpa only[Qk,List.range_zero,List.map_nil,JW] using(by refine⟨rfl,rfl,by simp,?_,?_,.inr ⟨?_,?_⟩⟩<;>(repeat' apply Jb)<;>first | rfl | trivial | (intro _; first | rfl | apply Qqo)))) ?_
 intro i
 obtain⟨i,hi⟩:=i
 dsimp only
 simp(config:={ maxSteps:=2000000 }) (implicitDefEqProofs:=false) (disch:=first | omega | assumption | (simp only[]; done) | fail) only[go_sem,Jf,Jg]
 refine Qbi (fun hc=>?_) (fun hc=>?_)<;>simp only[decide_eq_true_eq,decide_eq_false_iff_not,Ji,Jd,Jv,Js,Jj,Jh,beq_iff_eq,beq_eq_false_iff_ne,bne_iff_ne,bne_eq_false_iff_eq,ne_eq] at hc
 ·have hw8:IntKind.u64.wrap (8 * (i:Int)) = 8 * (i:Int):=by simp [IntKind.wrap,IntKind.signed,IntKind.bits]; omega
  have hl:(Qk s n i).length+1<=9223372036854775807:=by rw[Qb]; omega
  simp(config:={ maxSteps:=2000000 }) (implicitDefEqProofs:=false) (disch:=first | omega | assumption | (simp only[]; done) | fail) only[go_sem,V.splice,V.mk,↓reduceIte,JC,JU,Jf,JD,Jg,hw8,Qgt QGZ,QvL]
  refine⟨⟨i+1,by omega⟩,by show k-(i+1)<k-i; omega,?_⟩
  rw[QsZ]
  refine QDW (keep:=[]) rfl rfl rfl (by decide) trivial ?_
  refine⟨⟨rfl,rfl⟩,⟨rfl,rfl⟩,⟨rfl,rfl⟩,⟨rfl,rfl⟩,trivial⟩
 ·simp (config:={ maxSteps:=2000000 }) (implicitDefEqProofs:=false) (disch:=first | omega | assumption | (simp only []; done) | fail) only [go_sem,↓reduceIte,JC,Jf,JD,Jg]
  have hik:i=k:=by omega
  rw[hik]
def Qe3(s:List UInt8)(a:Nat):Nat->Int
 | 0=>0
 | i+1=>bits BinOp.or .u64 (Qe3 s a i) (IntKind.u64.wrap (IntKind.u64.wrap (s.getD (a+i) 0).toNat*2 ^ min (8*(i:Int)).toNat 64))
def Qz1(s:List UInt8)(a i:Nat)(h:a+i<s.length):s[((a:Int)+(i:Int)).toNat]?=some (s.getD (a+i) 0):=by
 have e:((a:Int)+(i:Int)).toNat=a+i:=by omega
 rw[e,Jk,JA h]; rfl
def Qdv(s:List UInt8)(a k:Int)(h:1<=k/\k<=8)(h0:0<=a)(hh:¬ a+k<=s.length):VCalls prog 197 [.pv (.str s),.int .i64 a,.int .i64 k] [] (Ret (.tup [.int .i64 0,.int .i64 5])):=by
 refine dd Tryz.func197 ?_
 have h1:¬ k<1:=by omega
 have h2:¬ 8<k:=by omega
 have h3:¬ a<0:=by omega
 by_cases h4:(s.length:Int)<a
 ·simp(config:={ maxSteps:=2000000 }) (implicitDefEqProofs:=false) (disch:=first | omega | assumption | (simp only[]; done) | fail) only[go_sem,Jt,Jf,Ju,Jg,Tryz.f197,h1,h2,h3,h4]
 ·have h5:(s.length:Int) - a < k:=by omega
  simp(config:={ maxSteps:=2000000 }) (implicitDefEqProofs:=false) (disch:=first | omega | assumption | (simp only[]; done) | fail) only[go_sem,Jt,Jf,Ju,Jg,Tryz.f197,h1,h2,h3,h4,h5]
def QiG(s:List UInt8)(hs:s.length<=1000000000)(a k:Nat)(h:1<=k/\k<=8)(hh:a+k<=s.length):VCalls prog 197 [.pv (.str s),.int .i64 a,.int .i64 k] [] (Ret (.tup [.int .i64 (IntKind.i64.wrap (Qe3 s a k)),.int .i64 0])):=by
 refine dd Tryz.func197 ?_
 have h1:¬ (k:Int)<1:=by omega
 have h2:¬ 8<(k:Int):=by omega
 have h3:¬ (a:Int)<0:=by omega
 have h4:¬ (s.length:Int)<a:=by omega
 have h5:¬ (s.length:Int)-a<k:=by omega
 simp(config:={ maxSteps:=2000000 }) (implicitDefEqProofs:=false) (disch:=first | omega | assumption | (simp only[]; done) | fail) only[go_sem,Jt,Jf,Ju,Jg,Tryz.f197,h1,h2,h3,h4,h5]
 refine Qzy (fun i:{i:Nat // i<=k}=>⟨51,0,[(9,.int .i64 i.1),(2,.int .i64 k),(8,.int .u64 (Qe3 s a i.1)),(0,.pv (.str s)),(1,.int .i64 a)],[]⟩) (fun i=>k-i.1) ⟨0,by omega⟩ (by refine⟨rfl,rfl,by simp,?_,?_,.inl rfl⟩<;>(repeat' apply Jb)<;>first | rfl | trivial) ?_
 intro i
 obtain⟨i,hi⟩:=i
 dsimp only
 simp(config:={ maxSteps:=2000000 }) (implicitDefEqProofs:=false) (disch:=first | omega | assumption | (simp only[]; done) | fail) only[go_sem,Jf,Jg]
 refine Qbi (fun hc=>?_) (fun hc=>?_)<;>simp only[decide_eq_true_eq,decide_eq_false_iff_not,Ji,Jd,Jv,Js,Jj,Jh,beq_iff_eq,beq_eq_false_iff_ne,bne_iff_ne,bne_eq_false_iff_eq,ne_eq] at hc
 ·have hg:s[((a:Int) + (i:Int)).toNat]? = some (s.getD (a + i) 0):=Qz1 s a i (by omega)
  have h0:0<=(a:Int)+(i:Int):=by omega
  have hw8:IntKind.u64.wrap (8*(i:Int))=8*(i:Int):=by simp[IntKind.wrap,IntKind.signed,IntKind.bits]; omega
  simp(config:={ maxSteps:=2000000 }) (implicitDefEqProofs:=false) (disch:=first | omega | assumption | (simp only[]; done) | fail) only[go_sem,Jf,Jg,hg,hw8]
  exact⟨⟨i+1,by omega⟩,by show k-(i+1)<k-i; omega,(by refine⟨rfl,rfl,by simp,?_,?_,.inl rfl⟩<;>(repeat' apply Jb)<;>first | rfl | trivial)⟩
 ·simp (config:={ maxSteps:=2000000 }) (implicitDefEqProofs:=false) (disch:=first | omega | assumption | (simp only []; done) | fail) only [go_sem,↓reduceIte,JC,Jf,JD,Jg]
  have hik:i=k:=by omega
  rw[hik]
def u64N(n:Int):Nat:=(n % 18446744073709551616).toNat
def QzV(n:Int):u64N n<2 ^ 64:=by unfold u64N; omega
def Qio(n:Int):IntKind.u64.wrap n=(u64N n:Int):=by
 unfold u64N
 simp[IntKind.wrap,IntKind.signed,IntKind.bits]; omega
def QjX(i:Nat)(h:i<8):min (8*(i:Int)).toNat 64=8*i:=by
 have e:(8*(i:Int)).toNat=8*i:=by omega
 rw[e]; omega
def QuW(n:Int)(i:Nat)(h:i<8):(Qma n i).toNat=u64N n / 2 ^ (8*i) % 256:=by
 have hx:=Qya n i
 unfold Qx9 at hx
 rw[Qin,Qio,QjX i h] at hx
 have e:((u64N n:Int).fdiv (2 ^ (8*i)))=((u64N n / 2 ^ (8*i):Nat):Int):=by
  have e2:((2:Int) ^ (8*i))=((2 ^ (8*i):Nat):Int):=by rw[J4]; rfl
  rw[e2,Int.fdiv_eq_ediv_of_nonneg _ (Int.natCast_nonneg _)]
  rfl
 rw[e] at hx
 generalize u64N n / 2 ^ (8*i)=q at hx |-
 omega
def QyM(x y:Nat)(hx:x<2 ^ 64)(hy:y<2 ^ 64):bits .or .u64 (x:Int) (y:Int)=((x ||| y:Nat):Int):=by
 have e:bits .or .u64 (x:Int) (y:Int)=IntKind.u64.wrap ((BitVec.ofInt 64 (x:Int) ||| BitVec.ofInt 64 (y:Int)).toNat:Int):=rfl
 rw[e,BitVec.toNat_or]
 have h1:(BitVec.ofInt 64 (x:Int)).toNat=x:=by simp; omega
 have h2:(BitVec.ofInt 64 (y:Int)).toNat=y:=by simp; omega
 rw[h1,h2,Qio]
 have h3:x ||| y<2 ^ 64:=Nat.or_lt_two_pow hx hy
 unfold u64N; omega
def Qv4(N i:Nat):(N % 2 ^ (8*i)) ||| (N / 2 ^ (8*i) % 256*2 ^ (8*i))=N % 2 ^ (8*(i+1)):=by
 have h:N % 2 ^ (8*i)<2 ^ (8*i):=Ke _ (Ki _)
 rw[Ku,Ks,<- JX h]
 have e:2 ^ (8*(i+1))=2 ^ (8*i)*256:=by rw[Kv,Kw]
 rw[e,Nat.mod_mul]; omega
def QwX(s t:List UInt8)(n:Int)(k i:Nat)(hi:i<k):(Qk s n k++t).getD (s.length+i) 0=Qma n i:=by
 rw[Jk,Qk,Kf,List.getElem?_append_right (by omega),List.getElem?_append_left (by simp; omega)]
 simp[hi]
def QhM (s t:List UInt8) (n:Int) (k:Nat) (hk:k<=8):∀ i,i<=k->Qe3 (Qk s n k ++ t) s.length i = ((u64N n % 2 ^ (8 * i):Nat):Int)
 | 0,_=>by simp[Qe3,Nat.mod_one]
 | i + 1,hi=>by
   have ih:=QhM s t n k hk i (by omega)
   have h8:i<8:=by omega
   unfold Qe3
   rw[ih,QwX s t n k i (by omega),QuW n i h8,QjX i h8]
   have hb:u64N n / 2 ^ (8*i) % 256<256:=Ke _ (by omega)
   have hw:IntKind.u64.wrap ((u64N n / 2 ^ (8*i) % 256:Nat):Int)=((u64N n / 2 ^ (8*i) % 256:Nat):Int):=by rw[Qio]; unfold u64N at *; omega
   rw[hw]
   have hp:(2:Nat) ^ (8*i)<=2 ^ 56:=JG (by omega) (by omega)
   have hlt:u64N n / 2 ^ (8*i) % 256*2 ^ (8*i)<2 ^ 64:=by
    have:u64N n / 2 ^ (8*i) % 256*2 ^ (8*i)<=255*2 ^ 56:=Km (by omega) hp
    omega
   have e2:((u64N n / 2 ^ (8*i) % 256:Nat):Int)*2 ^ (8*i)=((u64N n / 2 ^ (8*i) % 256*2 ^ (8*i):Nat):Int):=by
    rw[Kj,J4]; rfl
   rw[e2]
   have hw2:IntKind.u64.wrap ((u64N n / 2 ^ (8*i) % 256*2 ^ (8*i):Nat):Int)=((u64N n / 2 ^ (8*i) % 256*2 ^ (8*i):Nat):Int):=by
    generalize u64N n / 2 ^ (8*i) % 256*2 ^ (8*i)=z at hlt
    rw[Qio]; unfold u64N; omega
   rw[hw2,QyM _ _ (Nat.lt_of_le_of_lt (Nat.mod_le _ _) (QzV n)) hlt,Qv4]
def QqS(n:Int)(h : -9223372036854775808<=n/\n<=9223372036854775807):IntKind.i64.wrap ((u64N n % 2 ^ 64:Nat):Int)=n:=by
 rw[IntKind.wrap_i64]; unfold u64N; omega
def Qo1(n:Int)(m:Nat)(hm:m<=56):IntKind.i64.wrap ((u64N n % 2 ^ m:Nat):Int)=((u64N n % 2 ^ m:Nat):Int):=by
 have hp:(2:Nat) ^ m<=2 ^ 56:=JG (by omega) hm
 have h3:u64N n % 2 ^ m<2 ^ m:=Ke _ (Ki m)
 rw[IntKind.wrap_i64]
 generalize u64N n % 2 ^ m=q at *
 omega
def rnd(r:Int):Int:=if bits .and .u32 r 1=1 then bits .xor .u32 (r.fdiv 2) 2197175160 else r.fdiv 2
def QpD:Nat->Int->Int
 | 0,r=>r
 | n+1,r=>rnd (QpD n r)
def QDk(i:Nat):Int:=QpD 4 i
def QFl(i:Nat):List Int:=(Jq 16).map fun j=>if j<i then QDk j else 0
def QE3(r:Int):Int:=bits .xor .u32 (r.fdiv (2 ^ min 4 32)) ((QFl 16).getD (bits .and .u32 r 15).toNat 0)
def Qqt(r:Int)(b:UInt8):Int:=QE3 (QE3 (bits .xor .u32 r (IntKind.u32.wrap b.toNat)))
def QmO(s:List UInt8):Int:=s.foldl Qqt 4294967295
def QmN(s:List UInt8):Int:=bits .xor .u32 4294967295 (QmO s)
def QrP(s:List UInt8)(i:Nat)(h:i<s.length):QmO (s.take (i+1))=Qqt (QmO (s.take i)) (s.getD i 0):=by
 rw[QmO,Jw h,List.foldl_append]
 rw[Jk,JA h]; rfl
def QFr(x:BitVec 32):rnd (x.toNat:Int)=((rb x).toNat:Int):=by
 have h1:bits .and .u32 (x.toNat:Int) 1=((x &&& 1#32).toNat:Int):=QEq x 1#32
 have h2:(x.toNat:Int).fdiv 2=((x >>> 1).toNat:Int):=QC4 x 1
 have h3:(x &&& 1#32).toNat=x.toNat % 2:=by rw[BitVec.toNat_and]; exact Nat.and_one_is_mod _
 have h4:x.getLsbD 0=decide (x.toNat % 2=1):=by simp[BitVec.getLsbD,Nat.testBit_zero]
 unfold rnd rb
 rw[h1,h2,h3,h4]
 by_cases h:x.toNat % 2=1
 ·rw [if_pos (by omega),if_pos (by simpa using h)]
  exact QqQ _ polyB
 ·rw[if_neg (by omega),if_neg (by simpa using h)]; simp
def QyG(n:Nat)(x:BitVec 32):QpD n (x.toNat:Int)=((rbN n x).toNat:Int):=by
 induction n with
 | zero=>rfl
 | succ n ih=>rw[QpD,ih,QFr]; rfl
def QyX (x:BitVec 32):QE3 (x.toNat:Int) = ((rbN 4 x).toNat:Int):=by
 have h1:bits .and .u32 (x.toNat:Int) 15=((x &&& 15#32).toNat:Int):=QEq x 15#32
 have h15:(x &&& 15#32).toNat<16:=by rw[BitVec.toNat_and]; exact Nat.lt_succ_of_le Nat.and_le_right
 have h2:(QFl 16).getD (x &&& 15#32).toNat 0=((rbN 4 (x &&& 15#32)).toNat:Int):=by
  rw[<- QyG]
  simp only[QFl,Jk,Kg,List.getElem?_range h15,Option.map_some,Option.getD_some,QDk]
  rw[if_pos h15]
 have h3:(x.toNat:Int).fdiv (2 ^ min 4 32)=((x >>> 4).toNat:Int):=QC4 x 4
 have e1:x = (x &&& 15#32) ^^^ ((x >>> 4) <<< 4):=by
  apply BitVec.eq_of_getLsbD_eq
  intro i hi
  rw[BitVec.getLsbD_xor,BitVec.getLsbD_and,BitVec.getLsbD_shiftLeft,BitVec.getLsbD_ushiftRight]
  by_cases h:i<4
  ·have h15:(15#32).getLsbD i = true:=by
    rcases i with _ | _ | _ | _ | i<;>first | rfl | omega
   simp[h15,h]
  ·have h15:(15#32).getLsbD i = false:=by
    have:(15#32).getLsbD i=(15:Nat).testBit i:=by simp[BitVec.getLsbD]
    rw[this]; apply Nat.testBit_lt_two_pow
    exact JF (show 15<2 ^ 4 by omega) (JG (by omega) (by omega))
   rw[h15]; simp[h,hi,show 4+(i-4)=i by omega]
 have e2:rbN 4 x=rbN 4 (x &&& 15#32) ^^^ (x >>> 4):=by
  have hs:rbN 4 ((x >>> 4) <<< 4)=x >>> 4:=Qz5 _ _ (fun i hi=>by rw[BitVec.getLsbD_ushiftRight]; exact BitVec.getLsbD_of_ge _ _ (by omega)) (by omega)
  conv=>lhs; rw[e1]
  rw[QAH,hs]
 unfold QE3
 rw[h1,h3,Jr,h2,QqQ,e2,BitVec.xor_comm]
def QuX(x:BitVec 32)(b:UInt8):Qqt (x.toNat:Int) b=((cb x b).toNat:Int):=by
 unfold Qqt
 rw[Qu3,QqQ,QyX,QyX,<- QAJ]; rfl
def Qy2:∀ (s:List UInt8) (x:BitVec 32),s.foldl Qqt (x.toNat:Int)=((s.foldl cb x).toNat:Int)
 | [],_=>rfl
 | b::s,x=>by rw[Kk,QuX,Qy2 s,Kk]
def QyB(s:List UInt8):QmO s=((s.foldl cb 4294967295#32).toNat:Int):=Qy2 s 4294967295#32
def QCZ(s:List UInt8):QmN s=((4294967295#32 ^^^ s.foldl cb 4294967295#32).toNat:Int):=by
 rw[QmN,QyB]; exact QqQ 4294967295#32 _
def QmM(s:List UInt8):0<=QmN s/\QmN s<4294967296:=by
 rw[QCZ]
 have:=(4294967295#32 ^^^ s.foldl cb 4294967295#32).isLt
 omega
def QAi(r:Int)(b:UInt8):Int:=QpD 8 (bits .xor .u32 r (IntKind.u32.wrap b.toNat))
def Qwe(x:BitVec 32)(b:UInt8):QAi (x.toNat:Int) b=Qqt (x.toNat:Int) b:=by
 rw[QuX,QAi,Qu3,QqQ,QyG]; rfl
def Qpm(s:List UInt8)(i:Nat)(h:i<s.length):QmO (s.take (i+1))=QAi (QmO (s.take i)) (s.getD i 0):=by
 rw[QrP s i h,QyB (s.take i),Qwe]
def Qn3(s:List UInt8)(hs:s.length<=100000000):VCalls prog 136 [.pv (.str s)] [] (Ret (.int .u32 (QmN s))):=by
 refine dd Tryz.func136 ?_
 simp(config:={ maxSteps:=2000000 }) (implicitDefEqProofs:=false) (disch:=first | omega | assumption | (simp only[]; done) | fail) only[go_sem,Tryz.f136]
 refine Qzy (fun i:{i:Nat // i<=s.length}=>⟨32,0,[(4,.int .i64 i.1),(3,.int .u32 (QmO (s.take i.1))),(0,.pv (.str s))],[]⟩) (fun i=>s.length-i.1) ⟨0,by omega⟩ (by refine⟨rfl,rfl,by simp,?_,?_,.inl rfl⟩<;>(repeat' apply Jb)<;>first | rfl | trivial) ?_
 intro i
 obtain⟨i,hi⟩:=i
 dsimp only
 simp(config:={ maxSteps:=2000000 }) (implicitDefEqProofs:=false) (disch:=first | omega | assumption | (simp only[]; done) | fail) only[go_sem,Jf,Jg]
 refine Qbi (fun hc=>?_) (fun hc=>?_)<;>simp only[decide_eq_true_eq,decide_eq_false_iff_not,Ji,Jd,Jv,Js,Jj,Jh,beq_iff_eq,beq_eq_false_iff_ne,bne_iff_ne,bne_eq_false_iff_eq,ne_eq] at hc
 ·have hlt:i < s.length:=by omega
  have hg:s[i]?=some (s.getD i 0):=by rw[Jk,JA hlt]; rfl
  simp(config:={ maxSteps:=2000000 }) (implicitDefEqProofs:=false) (disch:=first | omega | assumption | (simp only[]; done) | fail) only[go_sem,Jf,Jg,hg]
  refine Qzy (fun j:{j:Nat // j<=8}=>⟨32,0,[(5,.int .i64 j.1),(4,.int .i64 i),(3,.int .u32 (QpD j.1 (bits .xor .u32 (QmO (s.take i)) (IntKind.u32.wrap (s.getD i 0).toNat)))),(0,.pv (.str s))],[]⟩) (fun j=>8-j.1) ⟨0,by omega⟩ (by refine⟨rfl,rfl,by simp,?_,?_,.inl rfl⟩<;>(repeat' apply Jb)<;>first | rfl | trivial) ?_
  intro j
  obtain⟨j,hj⟩:=j
  dsimp only
  simp(config:={ maxSteps:=2000000 }) (implicitDefEqProofs:=false) (disch:=first | omega | assumption | (simp only[]; done) | fail) only[go_sem]
  refine Qbi (fun hcj=>?_) (fun hcj=>?_)<;>simp only[decide_eq_true_eq,decide_eq_false_iff_not,Ji,Jd,Jv,Js,Jj,Jh,beq_iff_eq,beq_eq_false_iff_ne,bne_iff_ne,bne_eq_false_iff_eq,ne_eq] at hcj
  ·simp (config:={ maxSteps:=2000000 }) (implicitDefEqProofs:=false) (disch:=first | omega | assumption | (simp only []; done) | fail) only [go_sem,Jf,Jg]
   refine Qbi (fun hb=>?_) (fun hb=>?_)<;>simp only[decide_eq_true_eq,decide_eq_false_iff_not,Ji,Jd,Jv,Js,Jj,Jh,beq_iff_eq,beq_eq_false_iff_ne,bne_iff_ne,bne_eq_false_iff_eq,ne_eq] at hb
   ·simp (config:={ maxSteps:=2000000 }) (implicitDefEqProofs:=false) (disch:=first | omega | assumption | (simp only []; done) | fail) only [go_sem,Jf,Kl,Jg]
    refine⟨⟨j+1,by omega⟩,by show 8-(j+1)<8-j; omega,?_⟩
    have e:QpD (j+1) (bits .xor .u32 (QmO (s.take i)) (IntKind.u32.wrap (s.getD i 0).toNat))=bits .xor .u32 ((QpD j (bits .xor .u32 (QmO (s.take i)) (IntKind.u32.wrap (s.getD i 0).toNat))).fdiv 2) 2197175160:=by rw[QpD,rnd,if_pos hb]
    rw[e]
    exact(by refine⟨rfl,rfl,by simp,?_,?_,.inl rfl⟩<;>(repeat' apply Jb)<;>first | rfl | trivial)
   ·simp (config:={ maxSteps:=2000000 }) (implicitDefEqProofs:=false) (disch:=first | omega | assumption | (simp only []; done) | fail) only [go_sem,Jf,Kl,Jg]
    refine⟨⟨j+1,by omega⟩,by show 8-(j+1)<8-j; omega,?_⟩
    have e:QpD (j+1) (bits .xor .u32 (QmO (s.take i)) (IntKind.u32.wrap (s.getD i 0).toNat))=(QpD j (bits .xor .u32 (QmO (s.take i)) (IntKind.u32.wrap (s.getD i 0).toNat))).fdiv 2:=by rw[QpD,rnd,if_neg hb]
    rw[e]
    exact(by refine⟨rfl,rfl,by simp,?_,?_,.inl rfl⟩<;>(repeat' apply Jb)<;>first | rfl | trivial)
  ·have hj8:j = 8:=by omega
   subst hj8
   simp(config:={ maxSteps:=2000000 }) (implicitDefEqProofs:=false) (disch:=first | omega | assumption | (simp only[]; done) | fail) only[go_sem,↓reduceIte,Jf,Jg]
   refine⟨⟨i+1,hlt⟩,by show s.length-(i+1)<s.length-i; omega,?_⟩
   have e:QmO (s.take (i+1))=QpD 8 (bits .xor .u32 (QmO (s.take i)) (IntKind.u32.wrap (s.getD i 0).toNat)):=Qpm s i hlt
   rw[e]
   exact(by refine⟨rfl,rfl,by simp,?_,?_,.inl rfl⟩<;>(repeat' apply Jb)<;>first | rfl | trivial)
 ·simp (config:={ maxSteps:=2000000 }) (implicitDefEqProofs:=false) (disch:=first | omega | assumption | (simp only []; done) | fail) only [go_sem,↓reduceIte,JC,Jf,JD,Jg]
  rw[Jm (by omega)]
  rfl
def frm(s:List UInt8):List UInt8:=if s.length<=8392 then Qk (Qk [] s.length 4++s) (QmN (Qk [] s.length 4++s)) 4 else []
def Qoa(s:List UInt8)(hs:s.length<=90000000):VCalls prog 194 [.pv (.str s)] [] (Ret (.pv (.str (frm s)))):=by
 refine dd Tryz.func194 ?_
 by_cases h:s.length<=8392
 ·have h1:¬ 8392 < (s.length:Int):=by omega
  have hl:=Qb [] s.length 4
  simp only[Jc,Kh] at hl
  have hl2:(Qk [] s.length 4++s).length<=10000:=by rw[Ja,hl]; omega
  simp(config:={ maxSteps:=2000000 }) (implicitDefEqProofs:=false) (disch:=first | omega | assumption | (simp only[]; done) | fail) only[go_sem,Jf,Jg,Tryz.f194,h1]
  refine QaK (QT [] (by simp) s.length 4 (by omega) (by omega)) rfl ?_
  simp(config:={ maxSteps:=2000000 }) (implicitDefEqProofs:=false) (disch:=first | omega | assumption | (simp only[]; done) | fail) only[go_sem,Jf,Jg]
  refine QaK (Qn3 _ (by omega)) rfl ?_
  have hx:=QmM (Qk [] s.length 4++s)
  simp(config:={ maxSteps:=2000000 }) (implicitDefEqProofs:=false) (disch:=first | omega | assumption | (simp only[]; done) | fail) only[go_sem,JC,Jf,JD,Jg]
  refine QaK (QT (Qk [] s.length 4++s) (by omega) _ 4 (by omega) (by omega)) rfl ?_
  simp(config:={ maxSteps:=2000000 }) (implicitDefEqProofs:=false) (disch:=first | omega | assumption | (simp only[]; done) | fail) only[go_sem,↓reduceIte,frm,h]
 ·have h1:8392 < (s.length:Int):=by omega
  simp(config:={ maxSteps:=2000000 }) (implicitDefEqProofs:=false) (disch:=first | omega | assumption | (simp only[]; done) | fail) only[go_sem,↓reduceIte,Jf,Jg,Tryz.f194,h1,frm,h]
def leN(s:List UInt8)(a:Nat):Nat->Nat
 | 0=>0
 | i+1=>leN s a i+(s.getD (a+i) 0).toNat*2 ^ (8*i)
def QlE (s:List UInt8) (a:Nat):∀ i,leN s a i < 2 ^ (8 * i)
 | 0=>by simp[leN]
 | i + 1=>by
   have ih:=QlE s a i
   have hb:=(s.getD (a+i) 0).toNat_lt
   rw[leN,Kv,Kw]
   have:(s.getD (a+i) 0).toNat*2 ^ (8*i)<=255*2 ^ (8*i):=JB _ (by omega)
   omega
def Qe2 (s:List UInt8) (a:Nat):∀ i,i<=8->Qe3 s a i = (leN s a i:Int)
 | 0,_=>rfl
 | i + 1,hi=>by
   have ih:=Qe2 s a i (by omega)
   have hlt:=QlE s a i
   have hb:=(s.getD (a+i) 0).toNat_lt
   unfold Qe3
   rw[ih,QjX i (by omega)]
   have hw:IntKind.u64.wrap ((s.getD (a+i) 0).toNat:Int)=((s.getD (a+i) 0).toNat:Int):=by rw[Qio]; unfold u64N; omega
   have hp:(2:Nat) ^ (8*i)<=2 ^ 56:=JG (by omega) (by omega)
   have hm:(s.getD (a+i) 0).toNat*2 ^ (8*i)<=255*2 ^ 56:=Km (by omega) hp
   have e2:((s.getD (a+i) 0).toNat:Int)*2 ^ (8*i)=(((s.getD (a+i) 0).toNat*2 ^ (8*i):Nat):Int):=by
    rw[Kj,J4]; rfl
   rw[hw,e2]
   have hw2:IntKind.u64.wrap (((s.getD (a+i) 0).toNat*2 ^ (8*i):Nat):Int)=(((s.getD (a+i) 0).toNat*2 ^ (8*i):Nat):Int):=by
    generalize (s.getD (a+i) 0).toNat*2 ^ (8*i)=z at hm
    rw[Qio]; unfold u64N; omega
   have h64:leN s a i<2 ^ 64:=JF hlt (JG (by omega) (by omega))
   rw[hw2,QyM _ _ h64 (by omega),leN]
   congr 1
   rw[Ku,Ks _ (2 ^ (8*i)),<- JX hlt,Nat.add_comm]
def n4(s:List UInt8)(a:Nat):Nat:=leN s a 4
def QA2(s:List UInt8)(a:Nat):n4 s a<4294967296:=QlE s a 4
def Qze(s:List UInt8)(a:Nat):IntKind.i64.wrap (Qe3 s a 4)=(n4 s a:Int):=by
 rw[Qe2 s a 4 (by omega)]
 have:=QA2 s a
 unfold n4 at this |-
 rw[IntKind.wrap_i64]; omega
def QDj(s:List UInt8)(hs:s.length<=100000000)(a:Nat)(hh:a+4<=s.length):VCalls prog 197 [.pv (.str s),.int .i64 a,.int .i64 4] [] (Ret (.tup [.int .i64 (n4 s a),.int .i64 0])):=by
 have h:=QiG s (by omega) a 4 (by omega) hh
 rwa [Qze] at h
section
structure Ce where
 set:Bool
 data:List UInt8
structure Ch where
 pg:Int
 sl:Int
 b:Ce
 a:Ce
structure E where
 lsn:Int
 kind:Int
 tx:Int
 ptx:Int
 ppg:Int
 ref:Int
 c:Ch
 blob:List UInt8
def Ce.d(x:Ce):List DV:=[.bool x.set,.pv (.str x.data)]
def Ch.d(x:Ch):List DV:=[.int .i64 x.pg,.int .i64 x.sl,.bool x.b.set,.pv (.str x.b.data),.bool x.a.set,.pv (.str x.a.data)]
def E.d(x:E):List DV:=[.int .i64 x.lsn,.int .i64 x.kind,.int .i64 x.tx,.int .i64 x.ptx,.int .i64 x.ppg,.int .i64 x.ref,.int .i64 x.c.pg,.int .i64 x.c.sl,.bool x.c.b.set,.pv (.str x.c.b.data),.bool x.c.a.set,.pv (.str x.c.a.data),.pv (.str x.blob)]
def Ce0:Ce:=⟨false,[]⟩
def Ch0:Ch:=⟨0,0,Ce0,Ce0⟩
def E0:E:=⟨0,0,0,0,0,0,Ch0,[]⟩
def Ce.okB(x:Ce):Bool:=decide (x.data.length<=12)&&(x.set||x.data==[])
def Ch.okB(x:Ch):Bool:=decide (0<=x.pg)&&decide (x.pg<64)&&decide (0<=x.sl)&&decide (x.sl<16)&&x.b.okB&&x.a.okB
def Ce.no(x:Ce):Bool:=!x.set&&x.data==[]
def Ch.no(x:Ch):Bool:=x.pg==0&&x.sl==0&&x.b.no&&x.a.no
def bef(n l:Int):Bool:=decide (0<=n)&&decide (n<l)
attribute [local go_sem] Ce.d Ch.d E.d QI Q7
def QoT(x:Ce):VCalls prog 78 [.agg x.d] [] (Ret (.bool x.okB)):=by
 refine dd Tryz.func78 ?_
 (unfold Tryz.f78; refine rn trivial ?_)
 refine rn F ?_
 repeat' (first
  | with_reducible exact⟨⟩
  | (refine sG F ?_ ?_<;>intro hZ))
 all_goals (first | rfl | (congr 3; rw[Jo]; (try simp only[Ce.okB,decide_eq_true_eq,Jd,Ji,Jj,Jh,decide_eq_false_iff_not,beq_iff_eq,bne_iff_ne,ne_eq,Jn,Jp,iff_true,true_iff,iff_false,false_iff]); first | done | omega | grind))
def Qg2(x:Ce):VCalls prog 93 [.agg x.d] [] (Ret (.bool x.okB)):=by
 refine dd Tryz.func93 ?_
 (unfold Tryz.f93; refine rn trivial ?_)
 refine rn F ?_
 repeat' (first
  | with_reducible exact⟨⟩
  | (refine sG F ?_ ?_<;>intro hZ))
 all_goals (first | rfl | (congr 3; rw[Jo]; (try simp only[Ce.okB,decide_eq_true_eq,Jd,Ji,Jj,Jh,decide_eq_false_iff_not,beq_iff_eq,bne_iff_ne,ne_eq,Jn,Jp,iff_true,true_iff,iff_false,false_iff]); first | done | omega | grind))
def QDE(x:Ch):VCalls prog 57 [.agg x.d] [] (Ret (.bool x.no)):=by
 refine dd Tryz.func57 ?_
 (unfold Tryz.f57; refine rn trivial ?_)
 simp only[Ch.no,Ce.no,Ko]
def Qkb(n:Int)(x:E):VCalls prog 42 [.int .i64 n,.agg x.d] [] (Ret (.bool (bef n x.lsn))):=by
 refine dd Tryz.func42 ?_
 (unfold Tryz.f42; refine rn trivial ?_)
 refine rn F ?_
 repeat' (first
  | with_reducible exact⟨⟩
  | (refine sG F ?_ ?_<;>intro hZ))
 all_goals (first | rfl | (congr 3; rw[Jo]; (try simp only[bef,decide_eq_true_eq,Jd,Ji,Jj,Jh,decide_eq_false_iff_not,beq_iff_eq,bne_iff_ne,ne_eq,Jn,Jp,iff_true,true_iff,iff_false,false_iff]); first | done | omega | grind))
def Qg3(n l:Int):VCalls prog 49 [.int .i64 n,.int .i64 l] [] (Ret (.bool (bef n l))):=by
 refine dd Tryz.func49 ?_
 (unfold Tryz.f49; refine rn trivial ?_)
 refine rn F ?_
 repeat' (first
  | with_reducible exact⟨⟩
  | (refine sG F ?_ ?_<;>intro hZ))
 all_goals (first | rfl | (congr 3; rw[Jo]; (try simp only[bef,decide_eq_true_eq,Jd,Ji,Jj,Jh,decide_eq_false_iff_not,beq_iff_eq,bne_iff_ne,ne_eq,Jn,Jp,iff_true,true_iff,iff_false,false_iff]); first | done | omega | grind))
def QAQ(n:Int):VCalls prog 77 [.int .i64 n] [] (Ret (.bool (decide (0<=n)&&decide (n<64)))):=by
 refine dd Tryz.func77 ?_
 (unfold Tryz.f77; refine rn trivial ?_)
 refine rn F ?_
 repeat' (first
  | with_reducible exact⟨⟩
  | (refine sG F ?_ ?_<;>intro hZ))
 all_goals (first | rfl | (congr 3; rw[Jo]; (try simp only[decide_eq_true_eq,Jd,Ji,Jj,Jh,decide_eq_false_iff_not,beq_iff_eq,bne_iff_ne,ne_eq,Jn,Jp,iff_true,true_iff,iff_false,false_iff]); first | done | omega | grind))
def Qym(x:E):VCalls prog 56 [.agg x.d] [] (Ret (.bool true)):=by
 refine dd Tryz.func56 ?_
 (unfold Tryz.f56; refine rn trivial ?_; try with_reducible exact⟨⟩)
def QrF(x:E):VCalls prog 59 [.agg x.d] [] (Ret (.bool (decide (1<=x.ref)&&decide (x.ref<=x.ptx)))):=by
 refine dd Tryz.func59 ?_
 (unfold Tryz.f59; refine rn trivial ?_)
 refine rn F ?_
 repeat' (first
  | with_reducible exact⟨⟩
  | (refine sG F ?_ ?_<;>intro hZ))
 all_goals (first | rfl | (congr 3; rw[Jo]; (try simp only[decide_eq_true_eq,Jd,Ji,Jj,Jh,decide_eq_false_iff_not,beq_iff_eq,bne_iff_ne,ne_eq,Jn,Jp,iff_true,true_iff,iff_false,false_iff]); first | done | omega | grind))
def Ch.ix(x:Ch):Bool:=x.sl==0&&x.b.no&&x.a.no&&decide (0<=x.pg)&&decide (x.pg<64)
def QBw(x:Ch):VCalls prog 60 [.agg x.d] [] (Ret (.bool x.ix)):=by
 refine dd Tryz.func60 ?_
 (unfold Tryz.f60; refine rn trivial ?_)
 refine rn F ?_
 repeat' (first
  | with_reducible exact⟨⟩
  | (refine sG F ?_ ?_<;>intro hZ))
 all_goals (first | rfl | (congr 3; rw[Jo]; (try simp only[Ch.ix,Ce.no,decide_eq_true_eq,Jd,Ji,Jj,Jh,decide_eq_false_iff_not,beq_iff_eq,bne_iff_ne,ne_eq,Jn,Jp,iff_true,true_iff,iff_false,false_iff]); first | done | omega | grind))
def QhB(x:E):VCalls prog 27 [.agg x.d] [] (Ret (.bool (x.kind==1||x.kind==2))):=by
 refine dd Tryz.func27 ?_
 (unfold Tryz.f27; refine rn trivial ?_)
 refine rn F ?_
 repeat' (first
  | with_reducible exact⟨⟩
  | (refine sG F ?_ ?_<;>intro hZ))
 all_goals (first | rfl | (congr 3; rw[Jo]; (try simp only[decide_eq_true_eq,Jd,Ji,Jj,Jh,decide_eq_false_iff_not,beq_iff_eq,bne_iff_ne,ne_eq,Jn,Jp,iff_true,true_iff,iff_false,false_iff]); first | done | omega | grind))
def QbG(x:E):VCalls prog 13 [.agg x.d] [] (Ret (.bool (x.kind==1||x.kind==2))):=by
 refine dd Tryz.func13 ?_
 (unfold Tryz.f13; refine rn trivial ?_)
 refine rn F ?_
 repeat' (first
  | with_reducible exact⟨⟩
  | (refine sG F ?_ ?_<;>intro hZ))
 all_goals (first | rfl | (congr 3; rw[Jo]; (try simp only[decide_eq_true_eq,Jd,Ji,Jj,Jh,decide_eq_false_iff_not,beq_iff_eq,bne_iff_ne,ne_eq,Jn,Jp,iff_true,true_iff,iff_false,false_iff]); first | done | omega | grind))
def QEe(x:Ch):VCalls prog 58 [.agg x.d] [] (Ret (.bool x.okB)):=by
 refine dd Tryz.func58 ?_
 (unfold Tryz.f58; refine rn trivial ?_)
 refine rn F ?_
 repeat' (first
  | with_reducible exact⟨⟩
  | (refine sG F ?_ ?_<;>intro hZ)
  | refine vp F (QAQ x.pg) ?_
  | refine vp F (QoT x.b) ?_
  | refine vp F (QoT x.a) ?_)
 all_goals (first | rfl | (congr 3; rw[Jo]; (try simp only[Ch.okB,decide_eq_true_eq,Jd,Ji,Jj,Jh,decide_eq_false_iff_not,beq_iff_eq,bne_iff_ne,ne_eq,Jn,Jp,iff_true,true_iff,iff_false,false_iff]); first | done | omega | grind))
def QsP(x:Ch):VCalls prog 75 [.agg x.d] [] (Ret (.bool x.okB)):=by
 refine dd Tryz.func75 ?_
 (unfold Tryz.f75; refine rn trivial ?_)
 refine rn F ?_
 repeat' (first
  | with_reducible exact⟨⟩
  | (refine sG F ?_ ?_<;>intro hZ)
  | refine vp F (Qg2 x.b) ?_
  | refine vp F (Qg2 x.a) ?_)
 all_goals (first | rfl | (congr 3; rw[Jo]; (try simp only[Ch.okB,decide_eq_true_eq,Jd,Ji,Jj,Jh,decide_eq_false_iff_not,beq_iff_eq,bne_iff_ne,ne_eq,Jn,Jp,iff_true,true_iff,iff_false,false_iff]); first | done | omega | grind))
def rl(tx ch pg rf bl:Bool)(f g:Nat):List DV:=[.bool tx,.bool ch,.bool pg,.bool rf,.bool bl,.fn (.func f) [] [],.fn (.func g) [] []]
def rl0:List DV:=[.bool false,.bool false,.bool false,.bool false,.bool false,.pv (.lit .nilFunc),.pv (.lit .nilFunc)]
def Qwz:List DV:=rl true true false false false 56 57
def Qsu:List DV:=rl false false false false true 56 57
def QDd:List DV:=rl0++rl true false true false false 56 58++rl true true true true false 59 58++Qwz++Qwz++Qwz++Qsu++rl false false false true false 56 60++Qsu
def QAe:VCalls prog 43 [] [] (Ret (.agg QDd)):=by
 refine dd Tryz.func43 ?_
 (unfold Tryz.f43; refine rn trivial ?_)
 rfl
end
section
attribute [local go_sem] QDd rl0 rl Qwz Qsu
def txB(n:Int):Bool:=decide (1<=n)&&decide (n<=1073741824)
def E.kindB(e:E):Bool:=
 if e.kind=1 then txB e.tx&&e.ref==0&&e.blob==[]&&e.c.okB
 else if e.kind=2 then txB e.tx&&e.ptx != 0&&e.blob==[]&&decide (1<=e.ref)&&decide (e.ref<=e.ptx)&&e.c.okB
 else if e.kind=3\/e.kind=4\/e.kind=5 then txB e.tx&&e.ptx != 0&&e.ppg==0&&e.ref==0&&e.blob==[]&&e.c.no
 else if e.kind=6\/e.kind=8 then e.tx==0&&e.ptx==0&&e.ppg==0&&e.ref==0&&decide (e.blob.length<=8192)&&e.c.no
 else if e.kind=7 then e.tx==0&&e.ptx==0&&e.ppg==0&&e.blob==[]&&e.c.ix
 else false
def E.okB(e:E):Bool:=decide (1<=e.lsn)&&decide (e.lsn<=1099511627776)&&bef e.ptx e.lsn&&bef e.ppg e.lsn&&bef e.ref e.lsn&&e.kindB
theorem Qoz(lsn kind tx ptx ppg ref:Int)(c:Ch)(blob:List UInt8):(⟨lsn,kind,tx,ptx,ppg,ref,c,blob⟩:E).kindB =
 if kind=1 then txB tx&&ref==0&&blob==[]&&c.okB
 else if kind=2 then txB tx&&ptx != 0&&blob==[]&&decide (1<=ref)&&decide (ref<=ptx)&&c.okB
 else if kind=3\/kind=4\/kind=5 then txB tx&&ptx != 0&&ppg==0&&ref==0&&blob==[]&&c.no
 else if kind=6\/kind=8 then tx==0&&ptx==0&&ppg==0&&ref==0&&decide (blob.length<=8192)&&c.no
 else if kind=7 then tx==0&&ptx==0&&ppg==0&&blob==[]&&c.ix
 else false:=rfl
def Qxm{e:E}(h:e.kind<1\/8<e.kind):e.kindB=false:=by
 unfold E.kindB; rw[if_neg (by omega),if_neg (by omega),if_neg (by omega),if_neg (by omega),if_neg (by omega)]
def Qfk(k:Int):(k<1\/8<k)\/k=1\/k=2\/k=3\/k=4\/k=5\/k=6\/k=7\/k=8:=by omega
def QrB(e:E):VCalls prog 32 [.agg e.d] [] (Ret (.bool e.okB)):=by
 refine dd Tryz.func32 ?_
 obtain⟨lsn,kind,tx,ptx,ppg,ref,c,blob⟩:=e
 have r1:=Qkb ptx ⟨lsn,kind,tx,ptx,ppg,ref,c,blob⟩
 have r2:=Qkb ppg ⟨lsn,kind,tx,ptx,ppg,ref,c,blob⟩
 have r3:=Qkb ref ⟨lsn,kind,tx,ptx,ppg,ref,c,blob⟩
 have r4:=Qym ⟨lsn,kind,tx,ptx,ppg,ref,c,blob⟩
 have r5:=QrF ⟨lsn,kind,tx,ptx,ppg,ref,c,blob⟩
 have q1:=QDE c
 have q2:=QEe c
 have q3:=QBw c
 have e1:(⟨lsn,kind,tx,ptx,ppg,ref,c,blob⟩:E).okB=(decide (1<=lsn)&&decide (lsn<=1099511627776)&&bef ptx lsn&&bef ppg lsn&&bef ref lsn&&(⟨lsn,kind,tx,ptx,ppg,ref,c,blob⟩:E).kindB):=rfl
 dsimp only[E.d] at *
 generalize bef ptx lsn=B1 at *
 generalize bef ppg lsn=B2 at *
 generalize bef ref lsn=B3 at *
 have e2:=Qoz lsn kind tx ptx ppg ref c blob
 dsimp only[Ch.d] at q1 q2 q3
 generalize c.no=N at *
 generalize c.okB=K at *
 generalize c.ix=X at *
 have e3:=@Qxm ⟨lsn,kind,tx,ptx,ppg,ref,c,blob⟩
 dsimp only at e3
 generalize (⟨lsn,kind,tx,ptx,ppg,ref,c,blob⟩:E).kindB=Q at *
 generalize (⟨lsn,kind,tx,ptx,ppg,ref,c,blob⟩:E).okB=R at *
 (unfold Tryz.f32; refine rn trivial ?_)
 refine rn F ?_
 repeat' (first
  | with_reducible exact⟨⟩
  | (refine sG F ?_ ?_<;>intro hZ)
  | (refine sB F ?_ ?_<;>intro hZ)
  | refine vp F (r1) ?_
  | refine vp F (r2) ?_
  | refine vp F (r3) ?_
  | (refine Qc (id:=3) [1,2] [⟨[4],[],0,[1,2],[3]⟩,⟨[4],[4],5,[],[]⟩] (by kernel_rfl) (by kernel_rfl) ?_; refine rn F ?_))
 all_goals first
  | (congr 3; rw[Jo,e1]; simp only[Jd,decide_eq_true_eq,Jn,false_iff]; first | omega | (intro h; simp_all; done) | (intro h; rw[e3 (by omega)] at h; simp at h; done))
  | skip
 all_goals
  have hT:R=Q:=by rw[e1]; simp_all
  rcases Qfk kind with hk | rfl | rfl | rfl | rfl | rfl | rfl | rfl | rfl
  ·omega
 all_goals
  refine rn F ?_
  repeat' (first
   | with_reducible exact⟨⟩
   | (refine sG F ?_ ?_<;>intro hZ)
   | (refine sB F ?_ ?_<;>intro hZ)
   | refine vp F (QAe) ?_
   | refine vp F (r4) ?_
   | refine vp F (r5) ?_
   | refine vp F (q1) ?_
   | refine vp F (q2) ?_
   | refine vp F (q3) ?_)
 all_goals (try (congr 3; rw[hT,Jo,e2]; clear hT e1 e2 e3 r1 r2 r3 r4 r5 q1 q2 q3; simp[txB]; first | omega | grind))
 all_goals skip
end
section
def Q5:Enc E:=⟨13,fun x=>[.lit (.int .i64 x.lsn),.lit (.int .i64 x.kind),.lit (.int .i64 x.tx),.lit (.int .i64 x.ptx),.lit (.int .i64 x.ppg),.lit (.int .i64 x.ref),.lit (.int .i64 x.c.pg),.lit (.int .i64 x.c.sl),.lit (.bool x.c.b.set),.str x.c.b.data,.lit (.bool x.c.a.set),.str x.c.a.data,.str x.blob],by decide,fun _=>rfl⟩
def QhO(l:List E):(cells Q5 l).length=l.length*13:=QV Q5 l
def Qi6(l:List E)(n:Nat)(h:l.length*13<=n):(cells Q5 l).take n=cells Q5 l:=by rw[Jm]; rw[QhO]; exact h
def Qiz(l:List E)(T:TypeId)(a b:Nat)(h:a<=b/\b<=l.length):Qo4 (some (none,T,13)) (fz Q5 l) a b=some (.pv (.sl (fz Q5 ((l.take b).drop a)))):=Qgy Q5 l T a b h
def Qix(l:List E):(fz Q5 l=[]\/(fz Q5 l)[0]?.map JM=some 13)=True:=QfO Q5 l
def QiS(h:l.length=len):QoH n hp 0 13 len (some (cells Q5 l))=some (.sl (fz Q5 l)):=QZ Q5 h
def Qdi(l:List E)(e:E):cells Q5 l++[.pv (.lit (.int .i64 e.lsn)),.pv (.lit (.int .i64 e.kind)),.pv (.lit (.int .i64 e.tx)),.pv (.lit (.int .i64 e.ptx)),.pv (.lit (.int .i64 e.ppg)),.pv (.lit (.int .i64 e.ref)),.pv (.lit (.int .i64 e.c.pg)),.pv (.lit (.int .i64 e.c.sl)),.pv (.lit (.bool e.c.b.set)),.pv (.str e.c.b.data),.pv (.lit (.bool e.c.a.set)),.pv (.str e.c.a.data),.pv (.str e.blob)]=cells Q5 (l++[e]):=by rw[QM]; rfl
def Qd{α:Type}(l:List α)(i:Nat)(h:i<l.length)(d:α):l.getD i d=l[i]:=by rw[Jk,JA h]; rfl
structure To(n:Nat) where
 i:Nat
 hi:i<=n
structure Okay(n:Nat)(c:Nat->Bool) where
 i:Nat
 hi:i<=n
 ok:∀ k,k<i->c k=true
def Okay.start(n:Nat)(c:Nat->Bool):Okay n c:=⟨0,Jy _,fun k h=>by omega⟩
def Okay.next{n:Nat}{c:Nat->Bool}(s:Okay n c)(h:s.i<n)(hc:c s.i=true):Okay n c:=⟨s.i+1,h,fun k hk=>by
 rcases JY k s.i with hlt | hge
 ·exact s.ok k hlt
 ·obtain rfl:k = s.i:=by omega
  exact hc⟩
def Okay.all(s:Okay n c)(h:¬ s.i<n):(Jq n).all c=true:=by
 rw[JK]
 intro k hk
 rw[JI] at hk
 exact s.ok k (by omega)
def Qax(h:i<n)(hc:c i=false):(Jq n).all c=false:=by
 rw[List.all_eq_false]
 exact⟨i,JI.2 h,by rw[hc]; decide⟩
def QDY(l:List E)(i:Nat)(h:i<l.length):(fz Q5 l)[i]?=some [.lit (.int .i64 (l.getD i E0).lsn),.lit (.int .i64 (l.getD i E0).kind),.lit (.int .i64 (l.getD i E0).tx),.lit (.int .i64 (l.getD i E0).ptx),.lit (.int .i64 (l.getD i E0).ppg),.lit (.int .i64 (l.getD i E0).ref),.lit (.int .i64 (l.getD i E0).c.pg),.lit (.int .i64 (l.getD i E0).c.sl),.lit (.bool (l.getD i E0).c.b.set),.str (l.getD i E0).c.b.data,.lit (.bool (l.getD i E0).c.a.set),.str (l.getD i E0).c.a.data,.str (l.getD i E0).blob]:=by rw[Qd l i h]; exact QiQ Q5 l i h
structure Lg where
 f:Int
 es:List E
 d:Int
def Lg.c(x:Lg):List DV:=[.int .i64 x.f,.pv (.sl (fz Q5 x.es)),.int .i64 x.d]
attribute [local go_sem] Lg.c
def Lg0:Lg:=⟨0,[],0⟩
def Lg.hd(x:Lg):Prop:=1<=x.f/\x.f<=1099511627776/\x.es.length<=4096/\x.f-1<=x.d/\x.d<=x.f+x.es.length-1
instance (x:Lg):Decidable x.hd:=by unfold Lg.hd; infer_instance
def lgC(x:Lg)(i:Nat):Bool:=decide ((x.es.getD i E0).lsn=x.f+i)&&(x.es.getD i E0).okB
def lgB(x:Lg):Bool:=decide x.hd&&(Jq x.es.length).all (lgC x)
def Lg.end_(x:Lg):Int:=x.f+x.es.length-1
def Q9{x:Lg}(h:lgB x=true):x.hd:=by unfold lgB at h; simp at h; exact h.1
def QyU(x:Lg)(h1 : -1099511627776<=x.f/\x.f<=1099511627776)(h2:x.es.length<=1000000):VCalls prog 24 [.agg x.c] [] (Ret (.int .i64 x.end_)):=by
 refine dd Tryz.func24 ?_
 obtain⟨f,es,d⟩:=x
 dsimp only at h1 h2
 (unfold Tryz.f24; refine rn trivial ?_)
 (refine rn F ?_; try with_reducible exact⟨⟩)
 all_goals rfl
def QdE(x:Lg)(hx:x.es.length<=9223372036854775807):VCalls prog 23 [.agg x.c] [] (Ret (.bool (lgB x))):=by
 refine dd Tryz.func23 ?_
 obtain⟨f,es,d⟩:=x
 dsimp only at hx
 have hr:=fun(i:Nat)=>QrB (es.getD i E0)
 have c1:=QyU ⟨f,es,d⟩
 have hlg:∀ i,lgC ⟨f,es,d⟩ i=true ↔ (es.getD i E0).lsn=f+i/\(es.getD i E0).okB=true:=fun i=>by simp[lgC]
 have hB:lgB ⟨f,es,d⟩=(decide (Lg.hd ⟨f,es,d⟩)&&(Jq es.length).all (lgC ⟨f,es,d⟩)):=rfl
 have hH:Lg.hd ⟨f,es,d⟩=(1<=f/\f<=1099511627776/\es.length<=4096/\f-1<=d/\d<=f+es.length-1):=rfl
 have no:¬ Lg.hd ⟨f,es,d⟩->lgB ⟨f,es,d⟩=false:=fun h=>by rw[hB,decide_eq_false h]; rfl
 unfold Lg.c at c1 |-
 unfold Lg.end_ at c1
 unfold E.d at hr
 dsimp only at c1 |-
 generalize lgC ⟨f,es,d⟩=lc at *
 generalize lgB ⟨f,es,d⟩=b at *
 (unfold Tryz.f23; refine rn trivial ?_)
 refine rn F ?_
 repeat' (first
  | with_reducible exact⟨⟩
  | (refine sG F ?_ ?_<;>intro hZ)
  | (refine sB F ?_ ?_<;>intro hZ)
  | refine vp F (c1 (by omega) (by omega)) ?_
  | (refine Qc (id:=1) [0,1,2,3,4,5,6,7,8,9,10,11,12,13,14,15,16,17,18,19,20,21,22,23,24,25] [⟨[],[],26,[0,1,2,3,4,5,6,7,8,9,10,11,12,13,14,15,16,17,18,19,20,21,23,24],[27,28]⟩] (by kernel_rfl) (by kernel_rfl) ?_; refine rn F ?_))
 all_goals first | (rw[no (by rw[hH]; omega)]) | skip
 refine Qi (fun s:Okay es.length lc=>⟨55,0,[(37,.int .i64 s.i),(36,.int .i64 es.length),(35,.pv (.sl (fz Q5 es))),(1,.ptr 0 0)],[⟨28,true,[.int .i64 f,.pv (.sl (fz Q5 es)),.int .i64 d]⟩]⟩) (fun s=>es.length-s.i) (Okay.start _ _) (gc [0]) ?_
 intro s
 have hsi:=s.hi
 have hg:=fun h:s.i<es.length=>QDY es s.i h
 have F:=@hg
 refine rn F ?_
 repeat' (first
  | with_reducible exact⟨⟩
  | (refine sG F ?_ ?_<;>intro hZ)
  | (refine sB F ?_ ?_<;>intro hZ)
  | refine vp F (hr s.i) ?_)
 all_goals first
  | (rw[hB,Qax (i:=s.i) (by omega) (JE.2 fun h=>by rw[hlg] at h; omega),JJ])
  | (rw[hB,Qax (i:=s.i) (by omega) (JE.2 fun h=>by rw[hlg] at h; exact absurd h.2 (by simp_all)),JJ])
  | (rw[hB,s.all (by omega),decide_eq_true (by rw[hH]; omega)]; rfl)
  | (exact⟨s.next (by omega) ((hlg _).2 ⟨by omega,by assumption⟩),by show es.length-(s.i+1)<es.length-s.i; omega,(gc [0])⟩)
  | skip
end
section
attribute [local go_sem] QhO Qi6 Qiz Qix QiS Qdi Tryz.underlying26
def QB1(l:List E):VCalls prog 33 [.pv (.sl (fz Q5 l))] [] (Ret (.pv (.slc (fz Q5 l)))):=by
 refine dd Tryz.func33 ?_
 have h3:Qq0 (some (none,57,13)) (fz Q5 l) 0 l.length l.length=some (.pv (.slc (fz Q5 l))):=Qvv Q5 l _
 (unfold Tryz.f33; refine rn @h3 ?_; try with_reducible exact⟨⟩)
def Qeg(x:Lg)(e:E):Lg×Int×Int:=if lgB x=false then (Lg0,0,26) else if x.es.length=4096\/1099511627776<x.end_+1 then (Lg0,0,21)
 else if ({ e with lsn:=x.end_+1 }:E).okB=false then (Lg0,0,12) else (⟨x.f,x.es++[{ e with lsn:=x.end_+1 }],x.d⟩,x.end_+1,0)
def QEp(r:Lg×Int×Int):DV:=.tup [.agg r.1.c,.int .i64 r.2.1,.int .i64 r.2.2]
def Qyk(x:Lg)(hx:x.es.length<=9223372036854775807)(e:E):VCalls prog 18 [.agg x.c,.agg e.d] [] (Ret (QEp (Qeg x e))):=by
 refine VCalls.unwk ?_
 refine dd Tryz.func18 ?_
 obtain⟨f,es,d⟩:=x
 dsimp only at hx
 have c1:=QdE ⟨f,es,d⟩ hx
 have c2:=QyU ⟨f,es,d⟩
 have hh:=@Q9 ⟨f,es,d⟩
 have c3:=QrB { e with lsn:=f+es.length-1+1 }
 have e0:Qeg ⟨f,es,d⟩ e=if lgB ⟨f,es,d⟩=false then (Lg0,0,26) else if es.length=4096\/1099511627776<f+es.length-1+1 then (Lg0,0,21)
  else if ({ e with lsn:=f+es.length-1+1 }:E).okB=false then (Lg0,0,12) else (⟨f,es++[{ e with lsn:=f+es.length-1+1 }],d⟩,f+es.length-1+1,0):=rfl
 unfold Lg.hd at hh
 unfold Lg.end_ at c2
 unfold Lg.c at c1 c2 |-
 unfold E.d at c3 |-
 obtain⟨lsn,kind,tx,ptx,ppg,ref,c,blob⟩:=e
 dsimp only at *
 have c4:=QB1 es
 rw[e0]
 have hl:=Qdi es ⟨f+es.length-1+1,kind,tx,ptx,ppg,ref,c,blob⟩
 dsimp only at hl
 cases hv:lgB ⟨f,es,d⟩
 ·rw [hv] at c1
  (unfold Tryz.f18; refine rn trivial ?_)
  refine rn F ?_
  repeat' (first
   | with_reducible exact⟨⟩
   | refine vp F (c1) ?_)
  all_goals first | rfl | contradiction
 rw[hv] at c1
 rw[if_neg (by decide)]
 replace hh:=hh hv
 have hb:(es.length+1)*128<=140737488355328:=by omega
 by_cases h1:es.length=4096\/1099511627776<f+(es.length:Int)-1+1
 ·rw [if_pos h1]
  (unfold Tryz.f18; refine rn trivial ?_)
  refine rn F ?_
  repeat' (first
   | with_reducible exact⟨⟩
   | (refine sG F ?_ ?_<;>intro hZ)
   | refine vp F (c1) ?_
   | refine vp F (c2 (by omega) (by omega)) ?_)
  all_goals first | rfl | contradiction | omega
 rw[if_neg h1]
 generalize (⟨f+es.length-1+1,kind,tx,ptx,ppg,ref,c,blob⟩:E).okB=ok at *
 cases ok
 ·rw [if_pos rfl]
  (unfold Tryz.f18; refine rn trivial ?_)
  refine rn F ?_
  repeat' (first
   | with_reducible exact⟨⟩
   | refine vp F (c1) ?_
   | refine vp F (c2 (by omega) (by omega)) ?_
   | refine vp F (c3) ?_)
  all_goals first | rfl | contradiction | omega
 ·rw [if_neg (by decide)]
  (unfold Tryz.f18; refine rn trivial ?_)
  have F:=(Jb @hl @hb)
  refine rn F ?_
  repeat' (first
   | with_reducible exact⟨⟩
   | refine vp F (c1) ?_
   | refine vp F (c2 (by omega) (by omega)) ?_
   | refine vp F (c3) ?_
   | refine vp F (c4) ?_
   | (refine Qc (id:=8) [0,1,3] [⟨[4],[],2,[0,3],[]⟩,⟨[4],[4],5,[0,1,3],[6]⟩,⟨[],[],7,[],[]⟩] (by kernel_rfl) (by kernel_rfl) ?_; refine rn F ?_)
   | (refine Qc (id:=9) [0,1,2] [⟨[],[],3,[1,2],[]⟩,⟨[],[],4,[],[]⟩,⟨[],[],5,[],[]⟩] (by kernel_rfl) (by kernel_rfl) ?_; refine rn F ?_))
  all_goals first | rfl | contradiction | omega | skip
end
section
attribute [local go_sem] QhO Qi6 Qiz Qix QiS Qdi
def Q4(x:Lg)(n:Int):Lg×Int:=if lgB x=false then (Lg0,26) else if x.end_<n then (Lg0,14) else (⟨x.f,x.es,if n > x.d then n else x.d⟩,0)
def lgD(r:Lg×Int):DV:=.tup [.agg r.1.c,.int .i64 r.2]
end
section
attribute [local go_sem] E.d Ch0 Ce0
def QBa(l:List UInt8):decide ((l.length:Int)<=8192)=decide (l.length<=8192):=by
 apply decide_eq_decide.2; omega
def E.shp(e:E):E:=
 if e.kind=1 then ⟨e.lsn,e.kind,e.tx,e.ptx,e.ppg,0,e.c,[]⟩
 else if e.kind=2 then ⟨e.lsn,e.kind,e.tx,e.ptx,e.ppg,e.ref,e.c,[]⟩
 else if e.kind=3\/e.kind=4\/e.kind=5 then ⟨e.lsn,e.kind,e.tx,e.ptx,0,0,Ch0,[]⟩
 else if e.kind=6\/e.kind=8 then ⟨e.lsn,e.kind,0,0,0,0,Ch0,e.blob⟩
 else if e.kind=7 then ⟨e.lsn,e.kind,0,0,0,e.ref,⟨e.c.pg,0,Ce0,Ce0⟩,[]⟩
 else ⟨e.lsn,e.kind,0,0,0,0,Ch0,[]⟩
def E.shok(e:E):Bool:=
 if e.kind=1 then e.c.okB&&decide (1<=e.tx)&&decide (e.tx<=1073741824)
 else if e.kind=2 then e.c.okB&&decide (0<e.ptx)&&decide (1<=e.ref)&&decide (e.ref<=e.ptx)&&decide (1<=e.tx)&&decide (e.tx<=1073741824)
 else if e.kind=3\/e.kind=4\/e.kind=5 then decide (1<=e.tx)&&decide (e.tx<=1073741824)&&decide (0<e.ptx)
 else if e.kind=6\/e.kind=8 then decide (e.blob.length<=8192)
 else if e.kind=7 then decide (0<=e.c.pg)&&decide (e.c.pg<64)
 else false
def shD(e:E):DV:=.tup [.agg e.shp.d,.bool e.shok]
theorem QC5(lsn kind tx ptx ppg ref:Int)(c:Ch)(blob:List UInt8):(⟨lsn,kind,tx,ptx,ppg,ref,c,blob⟩:E).shp =
 if kind=1 then ⟨lsn,kind,tx,ptx,ppg,0,c,[]⟩
 else if kind=2 then ⟨lsn,kind,tx,ptx,ppg,ref,c,[]⟩
 else if kind=3\/kind=4\/kind=5 then ⟨lsn,kind,tx,ptx,0,0,Ch0,[]⟩
 else if kind=6\/kind=8 then ⟨lsn,kind,0,0,0,0,Ch0,blob⟩
 else if kind=7 then ⟨lsn,kind,0,0,0,ref,⟨c.pg,0,Ce0,Ce0⟩,[]⟩
 else ⟨lsn,kind,0,0,0,0,Ch0,[]⟩:=rfl
theorem Qz4(lsn kind tx ptx ppg ref:Int)(c:Ch)(blob:List UInt8):(⟨lsn,kind,tx,ptx,ppg,ref,c,blob⟩:E).shok =
 if kind=1 then c.okB&&decide (1<=tx)&&decide (tx<=1073741824)
 else if kind=2 then c.okB&&decide (0<ptx)&&decide (1<=ref)&&decide (ref<=ptx)&&decide (1<=tx)&&decide (tx<=1073741824)
 else if kind=3\/kind=4\/kind=5 then decide (1<=tx)&&decide (tx<=1073741824)&&decide (0<ptx)
 else if kind=6\/kind=8 then decide (blob.length<=8192)
 else if kind=7 then decide (0<=c.pg)&&decide (c.pg<64)
 else false:=rfl
def Qz6(e:E):VCalls prog 48 [.agg e.d] [] (Ret (shD e)):=by
 refine dd Tryz.func48 ?_
 unfold shD
 obtain⟨lsn,kind,tx,ptx,ppg,ref,c,blob⟩:=e
 have q1:=QsP c
 dsimp only[Ch.d] at q1
 rw[QC5,Qz4]
 generalize c.okB=K at *
 rcases Qfk kind with hk | rfl | rfl | rfl | rfl | rfl | rfl | rfl | rfl
 ·rw [if_neg (by omega),if_neg (by omega),if_neg (by omega),if_neg (by omega),if_neg (by omega),if_neg (by omega),if_neg (by omega),if_neg (by omega),if_neg (by omega),if_neg (by omega)]
  have k1:(kind==1)=false:=by simp; omega
  have k2:(kind==2)=false:=by simp; omega
  have k3:(kind==3)=false:=by simp; omega
  have k4:(kind==4)=false:=by simp; omega
  have k5:(kind==5)=false:=by simp; omega
  have k6:(kind==6)=false:=by simp; omega
  have k7:(kind==7)=false:=by simp; omega
  have k8:(kind==8)=false:=by simp; omega
  (unfold Tryz.f48; refine rn (Jb @k1 (Jb @k2 (Jb @k3 (Jb @k4 (Jb @k5 (Jb @k6 (Jb @k7 @k8))))))) ?_; try with_reducible exact⟨⟩)
 all_goals
  (unfold Tryz.f48; refine rn trivial ?_)
  refine rn F ?_
  repeat' (first
   | with_reducible exact⟨⟩
   | (refine sG F ?_ ?_<;>intro hZ)
   | refine vp F (q1) ?_
   | (refine Qc (id:=5) [0,1,2,3,4,5,6,7,8] [⟨[],[],9,[2,3,4,5,6,7],[10]⟩,⟨[],[],11,[4,5,6,7],[12]⟩,⟨[],[],13,[6,7],[14]⟩,⟨[],[],15,[],[]⟩] (by kernel_rfl) (by kernel_rfl) ?_; refine rn F ?_)
   | (refine Qc (id:=10) [0,1,2,3,4,5,6,7,8,9,10,11] [⟨[],[],12,[1,2,3,4,5,6,8,9,10,11],[]⟩,⟨[],[],13,[],[]⟩] (by kernel_rfl) (by kernel_rfl) ?_; refine rn F ?_)
   | (refine Qc (id:=14) [0,1,2,3,4] [⟨[],[],5,[2,3],[6]⟩,⟨[],[],7,[],[]⟩] (by kernel_rfl) (by kernel_rfl) ?_; refine rn F ?_)
   | (refine Qc (id:=15) [0,1,2,3,4,5,6,7,8,9,10,11,12,13] [⟨[],[],14,[1,2,3,4,5,6,7,8,10,11,12,13],[]⟩,⟨[],[],15,[],[]⟩] (by kernel_rfl) (by kernel_rfl) ?_; refine rn F ?_)
   | (refine Qc (id:=19) [0,1,2,3,4] [⟨[],[],5,[1,2,3,4],[]⟩,⟨[],[],6,[],[]⟩] (by kernel_rfl) (by kernel_rfl) ?_; refine rn F ?_)
   | (refine Qc (id:=21) [0,1,2,3,4,5] [⟨[],[],6,[2,3,4],[7,8]⟩,⟨[],[],9,[7],[]⟩] (by kernel_rfl) (by kernel_rfl) ?_; refine rn F ?_)
   | (refine Qc (id:=22) [0,1,2,3,4,5,6,7,8,9,10] [⟨[],[],11,[1,2,3,4,6,7,8,9,10],[]⟩,⟨[],[],12,[],[]⟩] (by kernel_rfl) (by kernel_rfl) ?_; refine rn F ?_))
 all_goals first | rfl | (simp[Ch0,Ce0,QBa]; done)
def eqE(x y:E):Bool:=x.lsn==y.lsn&&(x.kind==y.kind&&(x.tx==y.tx&&(x.ptx==y.ptx&&(x.ppg==y.ppg&&(x.ref==y.ref&&(x.c.pg==y.c.pg&&(x.c.sl==y.c.sl&&(x.c.b.set==y.c.b.set&&(x.c.b.data==y.c.b.data&&(x.c.a.set==y.c.a.set&&(x.c.a.data==y.c.a.data&&x.blob==y.blob)))))))))))
def QEr(x y:E):QI x.d y.d [(0,1),(1,1),(2,1),(3,1),(4,1),(5,1),(6,1),(7,1),(8,0),(9,2),(10,0),(11,2),(12,2)]=some (eqE x y):=by
 simp[QI,Q7,E.d,eqE]
def E.okR(e:E):Bool:=e.shok&&eqE e.shp e&&decide (1<=e.lsn)&&decide (e.lsn<=1099511627776)&&bef e.ptx e.lsn&&bef e.ppg e.lsn&&bef e.ref e.lsn
def Qr4(e:E):VCalls prog 37 [.agg e.d] [] (Ret (.bool e.okR)):=by
 refine dd Tryz.func37 ?_
 have hq:=QEr e.shp e
 have hs:=Qz6 e
 unfold shD at hs
 simp only[E.d] at hq hs
 have b1:=Qg3 e.ptx e.lsn
 have b2:=Qg3 e.ppg e.lsn
 have b3:=Qg3 e.ref e.lsn
 have e1:e.okR=(e.shok&&eqE e.shp e&&decide (1<=e.lsn)&&decide (e.lsn<=1099511627776)&&bef e.ptx e.lsn&&bef e.ppg e.lsn&&bef e.ref e.lsn):=rfl
 generalize e.okR=R at *
 generalize bef e.ptx e.lsn=B1 at *
 generalize bef e.ppg e.lsn=B2 at *
 generalize bef e.ref e.lsn=B3 at *
 generalize e.shp=s at *
 generalize e.shok=ok at *
 generalize eqE s e=q at *
 (unfold Tryz.f37; refine rn trivial ?_)
 have F:=@hq
 refine rn F ?_
 repeat' (first
  | with_reducible exact⟨⟩
  | (refine sG F ?_ ?_<;>intro hZ)
  | refine vp F (hs) ?_
  | refine vp F (b1) ?_
  | refine vp F (b2) ?_
  | refine vp F (b3) ?_)
 all_goals (congr 3; rw[e1,Jo]; clear e1 b1 b2 b3 hs hq; simp; first | omega | grind)
def QDA(e:E):e.okR=e.okB:=by
 obtain⟨lsn,kind,tx,ptx,ppg,ref,⟨pg,sl,⟨b1,b2⟩,⟨a1,a2⟩⟩,blob⟩:=e
 rw[Jo]
 by_cases h:kind<1\/8<kind
 ·have e1:E.shok ⟨lsn,kind,tx,ptx,ppg,ref,⟨pg,sl,⟨b1,b2⟩,⟨a1,a2⟩⟩,blob⟩ = false:=by unfold E.shok; rw [if_neg (by dsimp only; omega),if_neg (by dsimp only; omega),if_neg (by dsimp only; omega),if_neg (by dsimp only; omega),if_neg (by dsimp only; omega)]
  have e2:E.kindB ⟨lsn,kind,tx,ptx,ppg,ref,⟨pg,sl,⟨b1,b2⟩,⟨a1,a2⟩⟩,blob⟩=false:=by unfold E.kindB; rw[if_neg (by dsimp only; omega),if_neg (by dsimp only; omega),if_neg (by dsimp only; omega),if_neg (by dsimp only; omega),if_neg (by dsimp only; omega)]
  simp[E.okR,E.okB,e1,e2]
 ·have hk:kind = 1\/kind = 2\/kind = 3\/kind = 4\/kind = 5\/kind = 6\/kind = 7\/kind = 8:=by omega
  rcases hk with hk | hk | hk | hk | hk | hk | hk | hk<;>subst hk
  all_goals
   simp only[E.okR,E.okB,E.shok,E.shp,E.kindB,eqE,bef,txB,Ch.no,Ce.no,Ch.ix,Ch0,Ce0,Jd,decide_eq_true_eq,beq_iff_eq,bne_iff_ne,Jj,reduceIte,Int.reduceEq,or_self,or_false,false_or,or_true,true_or]
   grind
def Qcy(e:E):VCalls prog 37 [.agg e.d] [] (Ret (.bool e.okB)):=by
 rw[<- QDA]; exact Qr4 e
end
section
structure Tx where
 id:Int
 st:Int
 n:Int
 b:Int
 l:List Int
 s:List Int
def Qaf:Enc Tx:=⟨6,fun t=>[.lit (.int .i64 t.id),.lit (.int .i64 t.st),.lit (.int .i64 t.n),.lit (.int .i64 t.b),.sl (fz QW t.l),.sl (fz QW t.s)],by decide,fun _=>rfl⟩
def Tx.d(t:Tx):List DV:=[.int .i64 t.id,.int .i64 t.st,.int .i64 t.n,.int .i64 t.b,.pv (.sl (fz QW t.l)),.pv (.sl (fz QW t.s))]
def QCb(l:List Int)(lo hi d:Int)(i:Nat):Bool:=decide (lo<=l.getD i 0)&&decide (l.getD i 0<=hi)&&(decide (i=0)||decide (l.getD (i-1) 0+d<=l.getD i 0))
def QoV(l:List Int)(lo hi d:Int):Bool:=(Jq l.length).all (QCb l lo hi d)
def QdL(l:List Int)(lo hi d:Int)(i:Nat):QCb l lo hi d i=true ↔ lo<=l.getD i 0/\l.getD i 0<=hi/\(i=0\/l.getD (i-1) 0+d<=l.getD i 0):=by
 simp only[QCb,Jd,Ji,decide_eq_true_eq,and_assoc]
def Tx.sm(t:Tx):Prop:=t.l.length<=9223372036854775807/\t.s.length<=9223372036854775807
def Tx.hdB(t:Tx):Bool:=decide (1<=t.id)&&decide (t.id<=1073741824)&&decide (1<=t.st)&&decide (t.st<=3)&&decide (0<=t.n)&&decide (t.n<=1099511627776)&&(decide (t.b=0)||(decide (t.st=2)&&decide (0<t.b)&&decide (t.b<=t.n)))&&decide (t.l.length<=4096)&&decide (t.s.length<=8)
def Tx.okB(t:Tx):Bool:=t.hdB&&QoV t.l 1 t.n 1&&QoV t.s 0 t.n 0
def Tx0:Tx:=⟨0,0,0,0,[],[]⟩
def tC(l:List Tx)(i:Nat):Bool:=(l.getD i Tx0).okB&&(decide (i=0)||decide ((l.getD (i-1) Tx0).id<(l.getD i Tx0).id))
def QkS(l:List Tx)(i:Nat):tC l i=true ↔ (l.getD i Tx0).okB=true/\(i=0\/(l.getD (i-1) Tx0).id<(l.getD i Tx0).id):=by
 simp only[tC,Jd,Ji,decide_eq_true_eq]
def Qbw(l:List Tx):Bool:=decide (l.length<=64)&&(Jq l.length).all (tC l)
def smL(l:List Tx):Prop:=l.length<=1000000/\∀ t∈l,t.sm
def QoE(l:List Tx)(i:Nat)(h:i<l.length):(fz Qaf l)[i]?=some [.lit (.int .i64 l[i].id),.lit (.int .i64 l[i].st),.lit (.int .i64 l[i].n),.lit (.int .i64 l[i].b),.sl (fz QW l[i].l),.sl (fz QW l[i].s)]:=QiQ Qaf l i h
structure Pass{α:Type}(l:List α)(p:α->Prop) where
 i:Nat
 hi:i<=l.length
 no:∀ x∈l.take i,¬ p x
def Pass.start{α:Type}(l:List α)(p:α->Prop):Pass l p:=⟨0,Jy _,by simp⟩
def Pass.next{α:Type}{l:List α}{p:α->Prop}(s:Pass l p)(h:s.i<l.length)(hp:¬ p l[s.i]):Pass l p :=
 ⟨s.i + 1,h,fun x hx=>by
  rw[Jw h,List.mem_append] at hx
  rcases hx with hx | hx
  ·exact s.no x hx
  ·simp at hx; subst hx; exact hp⟩
def Pass.all(s:Pass l p)(h:¬ s.i<l.length):∀ x∈l,¬ p x:=by
 have:=s.no
 rwa [Jm (by omega)] at this
def Qmn{α:Type}(l:List α)(p:α->Bool):Int:=if l.any p=true then (l.findIdx p:Int) else -1
def QtP(l:List α)(p:α->Bool)(i:Nat)(h:i<l.length)(hx:p l[i]=true)(no:∀ x∈l.take i,¬ p x=true):Qmn l p=i:=by
 rw[Qmn,if_pos (JV.2 ⟨l[i],J1 h,hx⟩)]
 congr 1
 rw[List.findIdx_eq h]
 refine⟨hx,fun j hj=>?_⟩
 have:=no l[j] (JZ.2 ⟨j,by omega,rfl⟩)
 simpa using this
def QtO(l:List α)(p:α->Bool):(Qmn l p=-1/\l.find? p=none)\/∃ i,∃ h:i<l.length,Qmn l p=i/\l.find? p=some l[i]:=by
 by_cases ha:l.any p=true
 ·obtain ⟨x,hm,hp⟩:=JV.1 ha
  have hlt:=JO ⟨x,hm,hp⟩
  refine .inr ⟨l.findIdx p,hlt,by rw[Qmn,if_pos ha],?_⟩
  rw[JP]
  refine⟨J6 (w:=hlt),_,hlt,rfl,fun j hj=>?_⟩
  have:=List.not_of_lt_findIdx hj
  simpa using this
 ·refine .inl ⟨by rw [Qmn,if_neg ha],?_⟩
  rw[J9]
  intro x hx hp
  exact ha (JV.2 ⟨x,hx,hp⟩)
def lo{α:Type}(l:List α)(f:α->Bool):Nat:=(l.takeWhile f).length
def QHd{α:Type}(l:List α)(f:α->Bool):Prop:=∀ i j:Nat,∀ hi:i<l.length,∀ hj:j<l.length,i<j->f l[j]=true->f l[i]=true
def QFw(l:List α)(f:α->Bool):lo l f<=l.length:=(List.takeWhile_sublist _).length_le
def QDH (l:List α) (f:α->Bool) (i:Nat) (hi:i<=l.length) (h1:∀ k,∀ hk:k < l.length,k < i->f l[k] = true) (h2:∀ hi:i < l.length,f l[i] = false):lo l f = i:=by
 unfold lo
 induction l generalizing i with
 | nil=>simp at hi; subst hi; rfl
 | cons a r ih =>
   cases i with
   | zero =>
     have:=h2 (by simp)
     simp only[J3] at this
     rw[J8,this]; rfl
   | succ i =>
     have h0:=h1 0 (by simp) (by omega)
     simp only[J3] at h0
     rw[J8,h0]
     simp only[if_true,Je]
     rw[ih i (by simpa using hi) (fun k hk hki=>h1 (k+1) (by simpa using hk) (by omega)) (fun hi=>h2 (by simpa using hi))]
structure BS{α:Type}(l:List α)(f:α->Bool) where
 i:Nat
 j:Nat
 hij:i<=j
 hj:j<=l.length
 h1:∀ k,∀ hk:k<l.length,k<i->f l[k]=true
 h2:∀ hj:j<l.length,f l[j]=false
def BS.start{α:Type}(l:List α)(f:α->Bool):BS l f:=⟨0,l.length,Jy _,JH _,fun k hk h=>by omega,fun h=>by omega⟩
def BS.up{α:Type}{l:List α}{f:α->Bool}(s:BS l f)(hf:QHd l f)(h:Nat)(h1:s.i<=h)(h2:h<s.j)(hx:f (l[h]'(JF h2 s.hj))=true):BS l f :=
 ⟨h + 1,s.j,h2,s.hj,fun k hk hki=>by
  rcases JY k h with hlt | hge
  ·exact hf k h hk (JF h2 s.hj) hlt hx
  ·obtain rfl:k = h:=by omega
   exact hx,s.h2⟩
def BS.down{α:Type}{l:List α}{f:α->Bool}(s:BS l f)(h:Nat)(h1:s.i<=h)(h2:h<s.j)(hx:f (l[h]'(JF h2 s.hj))=false):BS l f:=
 ⟨s.i,h,h1,Nat.le_of_lt (JF h2 s.hj),s.h1,fun _=>hx⟩
def BS.fin(s:BS l f)(h:¬ s.i<s.j):lo l f=s.i:=by
 have e:s.i=s.j:=by have:=s.hij; omega
 exact QDH l f s.i (by have:=s.hj; omega) s.h1 (fun hi=>by
  have:=s.h2 (e▸hi)
  simpa only[e] using this)
def Qp1(l:List Tx)(i:Nat)(h:i<l.length):(fz Qaf l)[i]?=some [.lit (.int .i64 (l.getD i Tx0).id),.lit (.int .i64 (l.getD i Tx0).st),.lit (.int .i64 (l.getD i Tx0).n),.lit (.int .i64 (l.getD i Tx0).b),.sl (fz QW (l.getD i Tx0).l),.sl (fz QW (l.getD i Tx0).s)]:=by rw[Qd l i h]; exact QoE l i h
attribute [local go_sem] Tx.d Qlx Ja Jl Jz JL Qce QbC
def Qwq(t:Tx)(hs:t.sm):VCalls prog 171 [.agg t.d] [] (Ret (.bool t.okB)):=by
 refine dd Tryz.func171 ?_
 obtain⟨id,st,n,b,l,s⟩:=t
 obtain⟨hs1,hs2⟩:=hs
 dsimp only at hs1 hs2
 have e:(⟨id,st,n,b,l,s⟩:Tx).okB=((⟨id,st,n,b,l,s⟩:Tx).hdB&&QoV l 1 n 1&&QoV s 0 n 0):=rfl
 have eh:(⟨id,st,n,b,l,s⟩:Tx).hdB=(decide (1<=id)&&decide (id<=1073741824)&&decide (1<=st)&&decide (st<=3)&&decide (0<=n)&&decide (n<=1099511627776)&&(decide (b=0)||(decide (st=2)&&decide (0<b)&&decide (b<=n)))&&decide (l.length<=4096)&&decide (s.length<=8)):=rfl
 generalize (⟨id,st,n,b,l,s⟩:Tx).hdB=H at *
 generalize (⟨id,st,n,b,l,s⟩:Tx).okB=K at *
 unfold Tx.d
 (unfold Tryz.f171; refine rn trivial ?_)
 refine rn F ?_
 repeat' (first
  | with_reducible exact⟨⟩
  | (refine sG F ?_ ?_<;>intro hZ)
  | (refine sB F ?_ ?_<;>intro hZ))
 all_goals first
  | (rw[e,JE.2 (show ¬ H=true from fun h=>by rw[eh] at h; simp only[Jd,Ji,decide_eq_true_eq] at h; omega)]; rfl)
  | skip
 all_goals
  have hh:H=true:=by rw[eh]; simp only[Jd,Ji,decide_eq_true_eq]; omega
  refine Qi (fun q:Okay l.length (QCb l 1 n 1)=>⟨147,0,[(3,.int .i64 q.i),(1,.ptr 0 0)],[⟨201,true,[.int .i64 id,.int .i64 st,.int .i64 n,.int .i64 b,.pv (.sl (fz QW l)),.pv (.sl (fz QW s))]⟩]⟩) (fun q=>l.length-q.i) (Okay.start _ _) (by exact(gc [0])) ?_
  intro q
  have hqi:=q.hi
  have hg:=fun h:q.i<l.length=>QY l q.i h
  have hgp:0<(q.i:Int)->(q.i:Int)<l.length->(fz QW l)[q.i-1]?=some [.lit (.int .i64 (l.getD (q.i-1) 0))]:=fun h h2=>by
   exact QY l (q.i-1) (by omega)
  have F:=(Jb @hg @hgp)
  refine rn F ?_
  repeat' (first
   | with_reducible exact⟨⟩
   | (refine sG F ?_ ?_<;>intro hZ)
   | (refine sB F ?_ ?_<;>intro hZ)
   | (refine Qc (id:=8) [0,1,2,3,4,5,6,7,8,9,10,11,12,13,14,15,16,17,18,19,20,21,22,23,24,25,26,27,28,29,30,31,32,33] [] (by kernel_rfl) (by kernel_rfl) ?_; refine rn F ?_))
  all_goals first
   | (rw[e,QoV,QoV,Qax (n:=l.length) (c:=QCb l 1 n 1) (i:=q.i) (by omega) (JE.2 fun h=>by rw[QdL] at h; omega)]; simp)
   | (exact⟨q.next (by omega) ((QdL _ _ _ _ _).2 (by omega)),by show l.length-(q.i+1)<l.length-q.i; omega,(gc [0])⟩)
   | skip
  have hL:QoV l 1 n 1=true:=q.all (by omega)
  clear hg hgp hqi
  refine Qi (fun q:Okay s.length (QCb s 0 n 0)=>⟨147,0,[(4,.int .i64 q.i),(1,.ptr 0 0)],[⟨201,true,[.int .i64 id,.int .i64 st,.int .i64 n,.int .i64 b,.pv (.sl (fz QW l)),.pv (.sl (fz QW s))]⟩]⟩) (fun q=>s.length-q.i) (Okay.start _ _) (by exact(gc [0])) ?_
  intro q
  have hqi:=q.hi
  have hg:=fun h:q.i<s.length=>QY s q.i h
  have hgp:0<(q.i:Int)->(q.i:Int)<s.length->(fz QW s)[q.i-1]?=some [.lit (.int .i64 (s.getD (q.i-1) 0))]:=fun h h2=>by
   exact QY s (q.i-1) (by omega)
  have F:=(Jb @hg @hgp)
  refine rn F ?_
  repeat' (first
   | with_reducible exact⟨⟩
   | (refine sG F ?_ ?_<;>intro hZ)
   | (refine sB F ?_ ?_<;>intro hZ)
   | (refine Qc (id:=13) [0,1,2,3,4,5,6,7,8,9,10,11,12,13,14,15,16,17,18,19,20,21,22,23,24,25,26,27,28,29,30,31,32,33] [] (by kernel_rfl) (by kernel_rfl) ?_; refine rn F ?_))
  all_goals first
   | (rw[e,QoV,QoV,Qax (n:=s.length) (c:=QCb s 0 n 0) (i:=q.i) (by omega) (JE.2 fun h=>by rw[QdL] at h; omega)]; simp)
   | (exact⟨q.next (by omega) ((QdL _ _ _ _ _).2 (by omega)),by show s.length-(q.i+1)<s.length-q.i; omega,(gc [0])⟩)
   | skip
  rw[e,hh,hL,show QoV s 0 n 0=true from q.all (by omega)]
  rfl
def QbM(l:List Tx)(hl:smL l):VCalls prog 124 [.pv (.sl (fz Qaf l))] [] (Ret (.bool (Qbw l))):=by
 refine dd Tryz.func124 ?_
 obtain⟨hl,hm⟩:=hl
 have hr:=fun(i:Nat) (h:i<l.length)=>Qwq (l.getD i Tx0) (by rw[Qd l i h]; exact hm _ (J1 h))
 unfold Tx.d at hr
 (unfold Tryz.f124; refine rn trivial ?_)
 refine rn F ?_
 repeat' (first
  | with_reducible exact⟨⟩
  | (refine sB F ?_ ?_<;>intro hZ))
 ·rw[Qbw,decide_eq_false (by omega)]; rfl
 refine Qi (fun s:Okay l.length (tC l)=>⟨37,0,[(3,.int .i64 s.i),(0,.pv (.sl (fz Qaf l)))],[]⟩) (fun s=>l.length-s.i) (Okay.start _ _) (gc []) ?_
 intro s
 have hsi:=s.hi
 have hg:=fun h:s.i<l.length=>Qp1 l s.i h
 have hgp:0<(s.i:Int)->(s.i:Int)<l.length->(fz Qaf l)[s.i-1]?=some [.lit (.int .i64 (l.getD (s.i-1) Tx0).id),.lit (.int .i64 (l.getD (s.i-1) Tx0).st),.lit (.int .i64 (l.getD (s.i-1) Tx0).n),.lit (.int .i64 (l.getD (s.i-1) Tx0).b),.sl (fz QW (l.getD (s.i-1) Tx0).l),.sl (fz QW (l.getD (s.i-1) Tx0).s)]:=fun h h2=>by
  exact Qp1 l (s.i-1) (by omega)
 have F:=(Jb @hg @hgp)
 refine rn F ?_
 repeat' (first
  | with_reducible exact⟨⟩
  | (refine sG F ?_ ?_<;>intro hZ)
  | (refine sB F ?_ ?_<;>intro hZ)
  | refine vp F (hr s.i (by omega)) ?_
  | (refine Qc (id:=6) [0,1,2,3] [⟨[],[],4,[0,1,2],[5,6,7,8,9,10,11,12,13,14,15,16,17,18,19,20,21,22,23]⟩] (by kernel_rfl) (by kernel_rfl) ?_; refine rn F ?_))
 all_goals first
  | (rw[Qbw,Qax (i:=s.i) (by omega) (JE.2 fun h=>by rw[QkS] at h; omega),JJ])
  | (rw[Qbw,Qax (i:=s.i) (by omega) (JE.2 fun h=>by rw[QkS] at h; first | exact absurd h.1 (by assumption) | (have h1:=h.1; simp_all)),JJ])
  | (rw[Qbw,s.all (by omega),decide_eq_true (by omega)]; rfl)
  | (exact⟨s.next (by omega) ((QkS _ _).2 ⟨by assumption,by omega⟩),by show l.length-(s.i+1)<l.length-s.i; omega,(gc [])⟩)
  | skip
def QdP{α:Type}(l:List α)(p:α->Bool):List α:=l.filter fun x=>!p x
structure DF{α:Type}(l:List α)(p:α->Bool) where
 j:Nat
 hj:j<=l.length
 cur:List α
 hl:cur.length=l.length
 h1:cur.take (QdP (l.take j) p).length=QdP (l.take j) p
 h2:cur.drop j=l.drop j
 h3:(QdP (l.take j) p).length<j
def DF.i{α:Type}{l:List α}{p:α->Bool}(s:DF l p):Nat:=(QdP (l.take s.j) p).length
def QbR(l:List α)(p:α->Bool)(j:Nat)(h:j<l.length):QdP (l.take (j+1)) p=QdP (l.take j) p++(if p l[j]=true then [] else [l[j]]):=by
 rw[Jw h,QdP,Ka]
 cases hp:p l[j]<;>simp[QdP,hp]
def QpS(l:List α)(p:α->Bool)(h:∀ x∈l,¬ p x=true):QdP l p=l:=by
 rw[QdP,List.filter_eq_self]; intro x hx; simpa using h x hx
def DF.start{α:Type}(l:List α)(p:α->Bool)(i:Nat)(h:i<l.length)(hp:p l[i]=true)(no:∀ x∈l.take i,¬ p x=true):DF l p:=
 have e:QdP (l.take (i+1)) p=l.take i:=by rw[QbR l p i h,if_pos hp,JW,QpS _ p no]
 have el:(l.take i).length=i:=by rw[Jl]; omega
 ⟨i+1,h,l,rfl,by rw[e,el],rfl,by rw[e,el]; omega⟩
def DF.get{α:Type}{l:List α}{p:α->Bool}(s:DF l p)(h:s.j<l.length)(d:α):s.cur.getD s.j d=l[s.j]:=by
 have:=congrArg (fun x=>x[0]?) s.h2
 simp only[List.getElem?_drop,Nat.add_zero] at this
 rw[Jk,this,JA h]; rfl
def DF.out{α:Type}{l:List α}{p:α->Bool}(s:DF l p)(h:s.j<l.length)(hp:p l[s.j]=true):DF l p :=
 have e:QdP (l.take (s.j+1)) p=QdP (l.take s.j) p:=by rw[QbR l p s.j h,if_pos hp,JW]
 ⟨s.j + 1,h,s.cur,s.hl,by rw [e]; exact s.h1,by
  have:=congrArg (List.drop 1) s.h2
  rwa [Kp,Kp] at this,by rw[e]; have:=s.h3; omega⟩
def Qxs(l:List α)(p:α->Bool):(QdP l p).length<=l.length:=JQ _ _
def QA9(l:List Tx):(cells Qaf l).length=l.length*6:=QV Qaf l
def QCC(l:List Tx)(n:Nat)(h:l.length*6<=n):(cells Qaf l).take n=cells Qaf l:=by rw[Jm]; rw[QA9]; exact h
def QC3(l:List Tx)(T:TypeId)(a b:Nat)(h:a<=b/\b<=l.length):Qo4 (some (none,T,6)) (fz Qaf l) a b=some (.pv (.sl (fz Qaf ((l.take b).drop a)))):=Qgy Qaf l T a b h
def QC2(l:List Tx):(fz Qaf l=[]\/(fz Qaf l)[0]?.map JM=some 6)=True:=QfO Qaf l
def Qt3(h:l.length=len):QoH n hp 0 6 len (some (cells Qaf l))=some (.sl (fz Qaf l)):=QZ Qaf h
def QE8(l:List Tx):DV.wk.go (cells Qaf l)=cells Qaf l:=Qbd Qaf l fun a p hp=>by
 simp[Qaf] at hp; rcases hp with rfl | rfl | rfl | rfl | rfl | rfl<;>rfl
def QCx(r:List Tx×Int):DV:=.tup [.pv (.sl (fz Qaf r.1)),.int .i64 r.2]
def idT(l:List Tx)(a:Int):Int:=Qmn l fun t=>t.id==a
def QAM(l:List Tx)(a:Int):Nat:=lo l fun t=>decide (t.id<a)
def QCA(l:List Tx)(t:Tx):List Tx:=l.take (QAM l t.id)++t::l.drop (QAM l t.id)
def Qab(l:List Tx)(a:Int):List Tx×Int:=
 if Qbw l=false then ([],15) else if a<1\/1073741824<a then ([],1) else if 0<=idT l a then ([],25) else if l.length=64 then ([],21) else (QCA l ⟨a,1,0,0,[],[]⟩,0)
def Qeq{l:List Tx}(h:Qbw l=true):l.length<=64:=by
 simp[Qbw] at h; exact h.1
def Qd2(h:Qbw l=true):(l.map (·.id)).Pairwise (·<·):=by
 simp only[Qbw,Jd,JK,JI] at h
 obtain⟨_,h⟩:=h
 rw[J0]
 have step:∀ i,∀ h2:i+1<l.length,l[i].id<l[i+1].id:=fun i h2=>by
  have:=((QkS l (i+1)).1 (h (i+1) h2)).2
  rw[Qd l (i+1) h2,Kb,Qd l i (by omega)] at this
  omega
 have all:∀ d i,∀ h2:i+d+1<l.length,l[i].id<l[i+d+1].id:=fun d=>by
  induction d with
  | zero=>exact step
  | succ d ih=>intro i h2; exact Kt (ih i (by omega)) (step (i+d+1) h2)
 intro i j hi hj hij
 rw[J2,J2]
 have:=all (j-i-1) i (by rw[List.length_map] at hj; omega)
 simpa only[show i+(j-i-1)+1=j by omega] using this
def Qki(l:List Tx)(a:Int):List Tx:=QdP l fun t=>t.id==a
def Qhj(t:Tx)(a:Int):Bool:=decide (0<t.l.length)&&decide (a<t.l.getD (t.l.length-1) 0)
def QFC(l:List Int)(h:0<l.length):(fz QW l)[((l.length:Int)-1).toNat]?=some [.lit (.int .i64 (l.getD (l.length-1) 0))]:=by
 rw[show((l.length:Int)-1).toNat=l.length-1 by omega]; exact QY l (l.length-1) (by omega)
def QB(l:List Tx)(a:Int):idT l a=-1\/∃ i,∃ h:i<l.length,idT l a=i/\l[i].id=a:=by
 unfold idT Qmn
 split
 ·rename_i h
  obtain⟨x,hm,hp⟩:=JV.1 h
  have hlt:=JO (p:=fun t:Tx=>t.id==a) ⟨x,hm,hp⟩
  have:=J6 (w:=hlt)
  exact .inr ⟨_,hlt,rfl,by simpa using this⟩
 ·exact .inl rfl
def Qr(l:List Tx)(a:Int):Tx×Int:=
 if Qbw l=false then (Tx0,15) else if idT l a<0 then (Tx0,16) else if (l.getD (idT l a).toNat Tx0).st≠1 then (Tx0,15) else (l.getD (idT l a).toNat Tx0,0)
def QbJ{l:List Tx}{a:Int}(h:(Qr l a).2=0):Qbw l=true/\∃ i,∃ hi:i<l.length,idT l a=i/\l[i].id=a/\(Qr l a).1=l[i]:=by
 unfold Qr at h |-
 split at h
 ·simp at h
 rename_i h1
 split at h
 ·simp at h
 rename_i h2
 split at h
 ·simp at h
 rename_i h3
 refine⟨by simpa using h1,?_⟩
 rcases QB l a with h4 | ⟨i,hi,h4,h5⟩
 ·omega
 ·rw [if_neg h1,if_neg h2,if_neg h3]
  exact⟨i,hi,h4,h5,by rw[h4,Jr,Qd l i hi]⟩
def Qme(l:List Int)(x:Int):cells QW l++[.pv (.lit (.int .i64 x))]=cells QW (l++[x]):=by rw[QM]; rfl
def QEZ(l:List Int):(cells QW l).length=l.length*1:=QV QW l
def QE5(l:List Int)(n:Nat)(h:l.length*1<=n):(cells QW l).take n=cells QW l:=by rw[Jm]; rw[QEZ]; exact h
def QEX(l:List Int)(T:TypeId)(a b:Nat)(h:a<=b/\b<=l.length):Qo4 (some (none,T,1)) (fz QW l) a b=some (.pv (.sl (fz QW ((l.take b).drop a)))):=Qgy QW l T a b h
def QEW(l:List Int):(fz QW l=[]\/(fz QW l)[0]?.map JM=some 1)=True:=QfO QW l
def Qbp(h:Qbw l=true)(hi:i<l.length):l[i].okB=true:=by
 simp only[Qbw,Jd,JK,JI,decide_eq_true_eq] at h
 have:=((QkS l i).1 (h.2 i hi)).1
 rwa [Qd l i hi] at this
def Qh3(l:List Tx)(a:Int):List Tx×Int:=
 if (Qr l a).2≠0 then ([],(Qr l a).2) else if (Qr l a).1.s.length=8 then ([],21) else (l.set (idT l a).toNat { (Qr l a).1 with s:=(Qr l a).1.s++[(Qr l a).1.n] },0)
def Qij(l:List Tx)(a sv:Int):List Tx×Int:=
 if (Qr l a).2≠0 then ([],(Qr l a).2)
 else if sv<0\/((Qr l a).1.s.length:Int)<=sv then ([],19)
 else if Qhj (Qr l a).1 ((Qr l a).1.s.getD sv.toNat 0)=true then (l.set (idT l a).toNat { (Qr l a).1 with s:=(Qr l a).1.s.take (sv.toNat+1),st:=2,b:=(Qr l a).1.s.getD sv.toNat 0 },0)
 else (l.set (idT l a).toNat { (Qr l a).1 with s:=(Qr l a).1.s.take (sv.toNat+1) },0)
def Qmd{lo hi:Int}(h:QoV l lo hi 1=true):l.Pairwise (·<·):=by
 simp only[QoV,JK,JI] at h
 rw[J0]
 have step:∀ i,∀ h2:i+1<l.length,l[i]<l[i+1]:=fun i h2=>by
  have:=(QdL _ _ _ _ _).1 (h (i+1) h2)
  rw[Qd l (i+1) h2,Kb,Qd l i (by omega)] at this
  omega
 have all:∀ d i,∀ h2:i+d+1<l.length,l[i]<l[i+d+1]:=fun d=>by
  induction d with
  | zero=>exact step
  | succ d ih=>intro i h2; exact Kt (ih i (by omega)) (step (i+d+1) h2)
 intro i j hi hj hij
 have:=all (j-i-1) i (by omega)
 simpa only[show i+(j-i-1)+1=j by omega] using this
def Qtk{t:Tx}(h:t.okB=true):t.l.Pairwise (·<·):=by
 simp only[Tx.okB,Jd] at h
 exact Qmd h.1.2
def Qd9{t:Tx}(h:t.okB=true):t.l.length<=4096/\t.s.length<=8:=by
 simp only[Tx.okB,Tx.hdB,Jd,decide_eq_true_eq] at h
 omega
def QF(t:Tx):Tx:=if t.st=2/\Qhj t t.b=false then { t with st:=1,b:=0 } else t
def Qcj(t:Tx)(e:E):Tx:=
 if e.kind=1 then { t with n:=e.lsn,l:=t.l++[e.lsn] }
 else if e.kind=2 then { t with n:=e.lsn,l:=t.l.filter fun x=>decide (x≠e.ref) }
 else { t with n:=e.lsn,st:=3,b:=0,s:=[] }
def Qlw(l:List Tx)(i:Nat)(t:Tx)(e:E):List Tx×Int:=
 if e.ptx≠t.n\/(e.kind=2/\e.ref ∉ t.l) then ([],13)
 else if e.kind=3\/e.kind=5 then (Qki l e.tx,0)
 else (l.set i (QF (Qcj t e)),0)
def QU(l:List Tx)(e:E):List Tx×Int:=
 if Qbw l=false then ([],15) else if e.okB=false then ([],12) else if e.tx=0 then (l,0) else if idT l e.tx<0 then ([],16)
 else Qlw l (idT l e.tx).toNat (l.getD (idT l e.tx).toNat Tx0) e
def QeH{e:E}(h:e.okB=true)(ht:e.tx≠0):e.kind=1\/e.kind=2\/e.kind=3\/e.kind=4\/e.kind=5:=by
 obtain⟨lsn,kind,tx,ptx,ppg,ref,c,blob⟩:=e
 simp only[E.okB,Jd] at h
 have h:=h.2
 rw[Qoz] at h
 dsimp only at ht |-
 rcases Qfk kind with hk | rfl | rfl | rfl | rfl | rfl | rfl | rfl | rfl
 ·rw[if_neg (by omega),if_neg (by omega),if_neg (by omega),if_neg (by omega),if_neg (by omega)] at h; cases h
 all_goals first | omega | (simp at h; omega)
def Qxb{l:List Tx}{e:E}(h1:Qbw l=true)(h2:e.okB=true)(h3:e.tx≠0){i:Nat}(hi:i<l.length)(h4:idT l e.tx=i):QU l e=Qlw l i l[i] e:=by
 unfold QU
 rw[if_neg (by rw[h1]; decide),if_neg (by rw[h2]; decide),if_neg h3,h4,if_neg (by omega),Jr,Qd l i hi]
def w0:List Tx:=[⟨1,1,0,0,[],[]⟩]
def w1:List Tx:=[⟨1,1,1,0,[1],[]⟩]
def w2:List Tx:=[⟨1,1,1,0,[1],[1]⟩]
def w3:List Tx:=[⟨1,1,2,0,[1,2],[1]⟩]
def w4:List Tx:=[⟨1,1,3,0,[1,2,3],[1]⟩]
def w5:List Tx:=[⟨1,2,3,1,[1,2,3],[1]⟩]
end
section
attribute [local go_sem] Tx.d QA9 QCC QC3 QC2 Qt3 QEZ QE5 QEX QEW Qlx Ja Jl Jz JL Qce QbC
def Qgg(l:List Tx)(hl:l.length<=1000000)(a:Int):VCalls prog 125 [.pv (.sl (fz Qaf l)),.int .i64 a] [] (Ret (.int .i64 (idT l a))):=by
 refine dd Tryz.func125 ?_
 (unfold Tryz.f125; refine rn trivial ?_)
 refine Qi (fun i:Pass l (fun x=>(x.id==a)=true)=>⟨20,0,[(5,.int .i64 i.i),(0,.pv (.sl (fz Qaf l))),(1,.int .i64 a)],[]⟩) (fun i=>l.length-i.i) (Pass.start l _) (gc []) ?_
 intro i
 have hi:=i.hi
 have hg:=fun h:i.i<l.length=>Qp1 l i.i h
 have F:=@hg
 refine rn F ?_
 repeat' (first
  | with_reducible exact⟨⟩
  | (refine sB F ?_ ?_<;>intro hZ))
 ·have:=QtP l (fun x=>x.id == a) i.i (by omega) (by rw [<- Qd l i.i (by omega) Tx0]; simpa using (by assumption:(l.getD i.i Tx0).id = a)) i.no
  rw[idT,this]
 ·exact⟨i.next (by omega) (by rw[<- Qd l i.i (by omega) Tx0]; simpa using(by assumption:¬ (l.getD i.i Tx0).id=a)),by show l.length-(i.i+1)<l.length-i.i; omega,(gc [])⟩
 ·have:=i.all (by omega)
  rw[idT,Qmn,if_neg (by simpa using this)]
def Qb3(l:List Tx)(hl:l.length<=1000000)(a:Int):VCalls prog 146 [.pv (.sl (fz Qaf l)),.int .i64 a] [] (Ret (.int .i64 (idT l a))):=by
 refine dd Tryz.func146 ?_
 have h:=Qgg l hl a
 (unfold Tryz.f146; refine rn trivial ?_)
 refine rn F ?_
 repeat' (first
  | with_reducible exact⟨⟩
  | refine vp F (h) ?_)
def Qse(l:List Tx)(hl:l.length<=1000000)(i:Nat)(hi:i<l.length)(t:Tx):VCalls prog 191 [.pv (.sl (fz Qaf l)),.int .i64 i,.agg t.d] [] (Ret (.pv (.sl (fz Qaf (l.set i t))))):=by
 refine dd Tryz.func191 ?_
 have hb:i*6+6<=l.length*6:=by omega
 have hse:(cells Qaf l).take (i*6)++[.pv (.lit (.int .i64 t.id)),.pv (.lit (.int .i64 t.st)),.pv (.lit (.int .i64 t.n)),.pv (.lit (.int .i64 t.b)),.pv (.sl (fz QW t.l)),.pv (.sl (fz QW t.s))]++(cells Qaf l).drop (i*6+6)=cells Qaf (l.set i t):=QnY Qaf l i t hi
 have hle:(l.set i t).length=l.length:=J5
 (unfold Tryz.f191; refine rn trivial ?_)
 have F:=(Jb @hb (Jb @hse @hle))
 (refine rn F ?_; try with_reducible exact⟨⟩)
def Qeu(t:Tx)(hs:t.sm):VCalls prog 192 [.agg t.d] [] (Ret (.agg (QF t).d)):=by
 refine dd Tryz.func192 ?_
 have hg:=fun h:0<t.l.length=>QFC t.l h
 simp only[QbC] at hg
 obtain⟨id,st,n,b,l,s⟩:=t
 obtain⟨h1,h2⟩:=hs
 dsimp only at h1 h2 hg
 have eS:QF ⟨id,st,n,b,l,s⟩=if st=2/\Qhj ⟨id,st,n,b,l,s⟩ b=false then ⟨id,1,n,0,l,s⟩ else ⟨id,st,n,b,l,s⟩:=rfl
 have eL:Qhj ⟨id,st,n,b,l,s⟩ b=(decide (0<l.length)&&decide (b<l.getD (l.length-1) 0)):=rfl
 generalize QF ⟨id,st,n,b,l,s⟩=u at *
 generalize Qhj ⟨id,st,n,b,l,s⟩ b=B at *
 (unfold Tryz.f192; refine rn trivial ?_)
 have F:=@hg
 refine rn F ?_
 repeat' (first
  | with_reducible exact⟨⟩
  | (refine sG F ?_ ?_<;>intro hZ)
  | (refine sB F ?_ ?_<;>intro hZ)
  | (refine Qc (id:=1) [0,1,2,3,4,5,6,7,8,9,10,11,12,13,14,15,16,17,18,19,20,21] [] (by kernel_rfl) (by kernel_rfl) ?_; refine rn F ?_))
 all_goals first
  | (rw[eS,if_pos ⟨by assumption,by rw[eL,decide_eq_false (show ¬ b<l.getD (l.length-1) 0 by omega),JJ]⟩])
  | (rw[eS,if_pos ⟨by assumption,by rw[eL,decide_eq_false (show ¬ 0<l.length by omega),Bool.false_and]⟩])
  | (rw[eS,if_neg (by rintro⟨h,_⟩; omega)])
  | (rw[eS,if_neg (by rintro⟨_,h⟩; rw[eL,decide_eq_true (show b<l.getD (l.length-1) 0 by omega),decide_eq_true (show 0<l.length by omega)] at h; cases h)])
def Qf8(l:List Tx)(t:Tx):cells Qaf l++[.pv (.lit (.int .i64 t.id)),.pv (.lit (.int .i64 t.st)),.pv (.lit (.int .i64 t.n)),.pv (.lit (.int .i64 t.b)),.pv (.sl (fz QW t.l)),.pv (.sl (fz QW t.s))]=cells Qaf (l++[t]):=by rw[QM]; rfl
def QsD(l:List Tx)(a:Int):(Qki l a).length<=l.length:=Qxs _ _
def QsC(l:List Tx)(a:Int)(i:Nat)(h:i<l.length):Qki (l.take (i+1)) a=if (l.getD i Tx0).id=a then Qki (l.take i) a else Qki (l.take i) a++[l.getD i Tx0]:=by
 rw[Qd l i h]
 unfold Qki
 rw[QbR l _ i h]
 by_cases hx:l[i].id=a<;>simp[hx]
def QgW(l:List Tx)(hl:l.length<=1000000)(a:Int):VCalls prog 190 [.pv (.sl (fz Qaf l)),.int .i64 a] [] (Ret (.pv (.sl (fz Qaf (Qki l a))))):=by
 refine dd Tryz.func190 ?_
 (unfold Tryz.f190; refine rn trivial ?_)
 refine VLoop.nilOwn 5 201 6 rfl ?_
 refine Qi (fun s:To l.length=>⟨28,0,[(6,.int .i64 s.i),(5,.own 0 6 0 (Qki (l.take s.i) a).length),(0,.pv (.sl (fz Qaf l))),(1,.int .i64 a)],[⟨201,true,cells Qaf (Qki (l.take s.i) a)⟩]⟩) (fun s=>l.length-s.i) ⟨0,Jy _⟩ (gc [0]) ?_
 intro s
 have hi:=s.hi
 have hg:=fun h:s.i<l.length=>Qp1 l s.i h
 have hle:=QsD (l.take s.i) a
 rw[Jl] at hle
 have hb:((Qki (l.take s.i) a).length+1)*80<=140737488355328:=by omega
 have hs:=QsC l a s.i
 have F:=(Jb @hg (Jb @hb @Qf8))
 refine rn F ?_
 repeat' (first
  | with_reducible exact⟨⟩
  | (refine sB F ?_ ?_<;>intro hZ))
 ·replace hs:=hs (by omega)
  rw[if_neg (by assumption)] at hs
  refine⟨⟨s.i+1,by omega⟩,by show l.length-(s.i+1)<l.length-s.i; omega,?_⟩
  rw[hs,Ja]
  exact(gc [2])
 ·replace hs:=hs (by omega)
  rw[if_pos (by assumption)] at hs
  refine⟨⟨s.i+1,by omega⟩,by show l.length-(s.i+1)<l.length-s.i; omega,?_⟩
  rw[hs]
  exact(gc [0])
 ·rw[Jm (by omega)]
def QjI(l:List Tx)(a:Int):Int×Int:=
 if Qbw l=false then (0,15) else if idT l a<0 then (0,16) else if (l.getD (idT l a).toNat Tx0).st≠1 then (0,15) else (idT l a,0)
def Qla(l:List Tx)(a:Int):(QjI l a).2=(Qr l a).2:=by
 unfold QjI Qr
 split
 ·rfl
 ·split
  ·rfl
  ·split<;>rfl
def Qlb(h:(Qr l a).2=0):(QjI l a).1=idT l a:=by
 unfold QjI
 unfold Qr at h
 split at h
 ·simp at h
 ·rename_i h1
  split at h
  ·simp at h
  ·rename_i h2
   split at h
   ·simp at h
   ·rename_i h3
    rw[if_neg h1,if_neg h2,if_neg h3]
def Qk9(l:List Tx)(hs:smL l)(a:Int):VCalls prog 219 [.pv (.sl (fz Qaf l)),.int .i64 a] [] (Ret (.tup [.int .i64 (QjI l a).1,.int .i64 (QjI l a).2])):=by
 refine dd Tryz.func219 ?_
 have c1:=QbM l hs
 have c2:=Qgg l hs.1 a
 unfold QjI
 rcases QB l a with h | ⟨i,hi,h,hid⟩
 ·rw [h] at c2 |-
  (unfold Tryz.f219; refine rn trivial ?_)
  refine rn F ?_
  repeat' (first
   | with_reducible exact⟨⟩
   | (refine sB F ?_ ?_<;>intro hZ)
   | refine vp F (c1) ?_
   | refine vp F (c2) ?_)
  all_goals rfl
 ·rw [h] at c2 |-
  have hg:=Qp1 l i hi
  rw[Jr,if_neg (show ¬ (i:Int)<0 by omega)]
  (unfold Tryz.f219; refine rn trivial ?_)
  have F:=@hg
  refine rn F ?_
  repeat' (first
   | with_reducible exact⟨⟩
   | (refine sB F ?_ ?_<;>intro hZ)
   | refine vp F (c1) ?_
   | refine vp F (c2) ?_)
  all_goals first | rfl | (rw[if_pos (by assumption)]) | (rw[if_neg (by omega)])
def QAj(l:List Tx)(hs:smL l)(a:Int):VCalls prog 175 [.pv (.sl (fz Qaf l)),.int .i64 a] [] (Ret (QCx (Qh3 l a))):=by
 refine VCalls.unwk ?_
 refine dd Tryz.func175 ?_
 have c1:=Qk9 l hs a
 have hok:=@QbJ l a
 rw[Qla] at c1
 unfold Qh3
 by_cases hz:(Qr l a).2=0
 ·obtain ⟨hv,i,hi,h1,h2,h3⟩:=hok hz
  rw[Qlb hz,h1,hz] at c1
  have hts:=Qd9 (Qbp hv hi)
  have hg:=QoE l i hi
  have hw:=Qse l hs.1 i hi ⟨l[i].id,l[i].st,l[i].n,l[i].b,l[i].l,l[i].s++[l[i].n]⟩
  rw[if_neg (by rw[hz]; simp),h3,h1,Jr]
  generalize l[i]=t at *
  obtain⟨id,st,n,b,q,s⟩:=t
  dsimp only at hts hg hw
  (unfold Tryz.f175; refine rn trivial ?_)
  have F:=(Jb @hg @Qme)
  refine rn F ?_
  repeat' (first
   | with_reducible exact⟨⟩
   | (refine sB F ?_ ?_<;>intro hZ)
   | refine vp F (c1) ?_
   | (refine Qga [3] _ _ (hw) rfl ⟨⟨by simp,Qs _ _ _⟩,trivial⟩ (by decide) rfl (by simp[DV.nums.go,DV.nums]) ?_ ?_; (focus (refine rd F)); refine rn F ?_)
   | (refine Qc (id:=7) [0,1,3,4] [⟨[5],[],2,[0,3,4],[]⟩,⟨[5],[5],6,[0,1,3,4],[7]⟩,⟨[],[],8,[],[]⟩] (by kernel_rfl) (by kernel_rfl) ?_; refine rn F ?_))
  all_goals first | rfl | (rw[if_pos (by omega)]; rfl) | (rw[if_neg (by omega)]; rfl) | skip
 ·generalize Qr l a = r at *
  generalize (QjI l a).1=j at *
  rw[if_pos hz]
  (unfold Tryz.f175; refine rn trivial ?_)
  have F:=trivial
  refine rn F ?_
  repeat' (first
   | with_reducible exact⟨⟩
   | refine vp F (c1) ?_)
  all_goals first | rfl | contradiction | skip
def Qi7{l:List Tx}{a:Int}(h:(Qr l a).2=0):(Qr l a).1.st=1/\(Qr l a).1.b=0:=by
 obtain⟨hv,i,hi,h1,h2,h3⟩:=QbJ h
 have hst:(Qr l a).1.st=1:=by
  unfold Qr at h |-
  split at h
  ·simp at h
  ·rename_i q1
   split at h
   ·simp at h
   ·rename_i q2
    split at h
    ·simp at h
    ·rename_i q3
     rw[if_neg q1,if_neg q2,if_neg q3]
     simpa using q3
 refine⟨hst,?_⟩
 have ho:=Qbp hv hi
 rw[h3] at hst |-
 simp only[Tx.okB,Tx.hdB,Jd,Ji,decide_eq_true_eq] at ho
 omega
def QAF(l:List Tx)(hs:smL l)(a sv:Int):VCalls prog 176 [.pv (.sl (fz Qaf l)),.int .i64 a,.int .i64 sv] [] (Ret (QCx (Qij l a sv))):=by
 refine VCalls.unwk ?_
 refine dd Tryz.func176 ?_
 have c1:=Qk9 l hs a
 have hok:=@QbJ l a
 have hab:=@Qi7 l a
 rw[Qla] at c1
 unfold Qij
 by_cases hz:(Qr l a).2=0
 ·obtain ⟨hv,i,hi,h1,h2,h3⟩:=hok hz
  obtain⟨hst,hb0⟩:=hab hz
  rw[Qlb hz,h1,hz] at c1
  have hts:=Qd9 (Qbp hv hi)
  have hg:=QoE l i hi
  rw[if_neg (by rw[hz]; simp),h3,h1,Jr]
  rw[h3] at hst hb0
  have hw:=Qse l hs.1 i hi
  by_cases hr:sv<0\/((l[i].s.length:Int)<=sv)
  ·generalize l[i] = t at *
   obtain⟨id,st,n,b,q,s⟩:=t
   dsimp only at hr hg |-
   rw[if_pos hr]
   (unfold Tryz.f176; refine rn trivial ?_)
   have F:=@hg
   refine rn F ?_
   repeat' (first
    | with_reducible exact⟨⟩
    | (refine sG F ?_ ?_<;>intro hZ)
    | refine vp F (c1) ?_)
   all_goals first | rfl | (exfalso; omega)
  obtain⟨k,rfl⟩:∃ k:Nat,sv=k:=⟨sv.toNat,by omega⟩
  have hk:k<l[i].s.length:=by omega
  rw[if_neg (by omega),Jr]
  have hw2:=hw (QF ⟨l[i].id,2,l[i].n,l[i].s.getD k 0,l[i].l,l[i].s.take (k+1)⟩)
  generalize l[i]=t at *
  obtain⟨id,st,n,b,q,s⟩:=t
  dsimp only at hts hg hk hst hb0 hw2 |-
  subst hst hb0
  have hse:=Qeu ⟨id,2,n,s.getD k 0,q,s.take (k+1)⟩ ⟨by show q.length<=_; omega,by show(s.take (k+1)).length<=_; rw[Jl]; omega⟩
  have eS:QF ⟨id,2,n,s.getD k 0,q,s.take (k+1)⟩=if Qhj ⟨id,1,n,0,q,s⟩ (s.getD k 0)=true then ⟨id,2,n,s.getD k 0,q,s.take (k+1)⟩ else ⟨id,1,n,0,q,s.take (k+1)⟩:=by
   unfold QF
   have e:Qhj ⟨id,2,n,s.getD k 0,q,s.take (k+1)⟩ (s.getD k 0)=Qhj ⟨id,1,n,0,q,s⟩ (s.getD k 0):=rfl
   cases hB:Qhj ⟨id,1,n,0,q,s⟩ (s.getD k 0)
   ·rw[if_pos ⟨rfl,by rw[<- hB]; exact e⟩]; rfl
   ·rw[if_neg (by rintro⟨_,h⟩; rw[show Qhj ⟨id,2,n,s.getD k 0,q,s.take (k+1)⟩ (s.getD k 0)=true from e.trans hB] at h; cases h)]; rfl
  have hgc:((cells QW (s.take (k+1))).drop k).take 1=[.int .i64 (s.getD k 0)]:=by
   have hgc:(cells QW (s.take (k+1)))[k]?=some (.int .i64 (s.getD k 0)):=by
    rw[Qfv _ _ (by rw[Jl]; omega)]
    simp[Jk,Kc]
   obtain⟨h,e⟩:=List.getElem?_eq_some_iff.1 hgc
   rw[List.drop_eq_getElem_cons h,e]; rfl
  have hgd:(cells QW (s.take (k+1)))[k]?=some (.int .i64 (s.getD k 0)):=by
   rw[Qfv _ _ (by rw[Jl]; omega)]
   simp[Jk,Kc]
  have hl1:(s.take (k+1)).length=k+1:=by rw[Jl]; omega
  have ek:((k:Int)+1).toNat=k+1:=by omega
  have fin:(if Qhj ⟨id,1,n,0,q,s⟩ (s.getD k 0)=true then (l.set i ⟨id,2,n,s.getD k 0,q,s.take (k+1)⟩,(0:Int)) else (l.set i ⟨id,1,n,0,q,s.take (k+1)⟩,0))=(l.set i (QF ⟨id,2,n,s.getD k 0,q,s.take (k+1)⟩),0):=by
   rw[eS]; split<;>rfl
  rw[fin]
  clear fin eS
  generalize hT:QF ⟨id,2,n,s.getD k 0,q,s.take (k+1)⟩=T at *
  (unfold Tryz.f176; refine rn trivial ?_)
  have F:=(Jb @hg (Jb @hl1 (Jb @ek (Jb @hgc @hgd))))
  refine rn F ?_
  repeat' (first
   | with_reducible exact⟨⟩
   | refine vp F (c1) ?_
   | (refine Qga [1] _ _ (hse) rfl ⟨⟨by simp,Qs _ _ _⟩,trivial⟩ (by decide) rfl (by simp[DV.nums.go,DV.nums]) ?_ ?_; (focus (refine rd F)); refine rn F ?_)
   | refine vp F (hw2) ?_
   | (refine Qc (id:=8) [0,1,2,3,4,5] [⟨[],[],6,[2,3,4],[7]⟩,⟨[],[],8,[],[]⟩] (by kernel_rfl) (by kernel_rfl) ?_; refine rn F ?_))
  all_goals first | rfl | skip
 ·generalize Qr l a = r at *
  generalize (QjI l a).1=j at *
  rw[if_pos hz]
  (unfold Tryz.f176; refine rn trivial ?_)
  have F:=trivial
  refine rn F ?_
  repeat' (first
   | with_reducible exact⟨⟩
   | refine vp F (c1) ?_)
  all_goals first | rfl | contradiction | skip
end
section
attribute [local go_sem] Tx.d QA9 QCC QC3 QC2 Qt3 QEZ QE5 QEX QEW Qlx Ja Jl Jz JL Qce QbC QhH Qc8 Qcn QaE Qal QnR QkN Qgq QeN Qeh Qdm QE8
structure Fr(l:List Tx)(a:Int) where
 j:Nat
 hj:j<=l.length
 lt:∀ k,∀ h:k<l.length,k<j->l[k].id<a
def Fr.fin{l:List Tx}{a:Int}(s:Fr l a)(h:∀ h:s.j<l.length,¬ l[s.j].id<a):QAM l a=s.j:=
 QDH l _ s.j s.hj (fun k hk hkj=>decide_eq_true (s.lt k hk hkj)) (fun hj=>decide_eq_false (h hj))
def QvX{l:List Tx}(h:j<=l.length):(l.take j).length=j:=by rw[Jl]; omega
def QmL(l:List Tx)(j:Nat)(h:j<l.length):cells Qaf (l.take j)++[.pv (.lit (.int .i64 (l.getD j Tx0).id)),.pv (.lit (.int .i64 (l.getD j Tx0).st)),.pv (.lit (.int .i64 (l.getD j Tx0).n)),.pv (.lit (.int .i64 (l.getD j Tx0).b)),.pv (.sl (fz QW (l.getD j Tx0).l)),.pv (.sl (fz QW (l.getD j Tx0).s))]=cells Qaf (l.take (j+1)):=by
 rw[Qf8,Jw h,Qd l j h]
def Qoh (l:List Tx) (hs:smL l) (a:Int):VCalls prog 94 [.pv (.sl (fz Qaf l)),.int .i64 a] [] (Ret (QCx (Qab l a))):=by
 refine VCalls.unwk ?_
 have hl:=hs.1
 have c1:=QbM l hs
 have c2:=Qgg l hl a
 have eS:Qab l a=if Qbw l=false then ([],15) else if a<1\/1073741824<a then ([],1) else if 0<=idT l a then ([],25) else if l.length=64 then ([],21) else (l.take (QAM l a)++⟨a,1,0,0,[],[]⟩::l.drop (QAM l a),0):=rfl
 have hfin:=@Fr.fin l a
 have hp:QAM l a<=l.length:=QFw _ _
 have hsm:=@Qeq l
 generalize idT l a=d at *
 generalize Qab l a=res at *
 generalize Qbw l=T at *
 refine QcW (fn:=Tryz.f94) (c:=QhH Tryz.f94) Tryz.func94 rfl (by kernel_rfl) (by simp[Tryz.f94]) ?_
 refine QFf 5 ?_
 generalize hrest:Qh5 5 (QhH Tryz.f94)=rest
 (unfold Tryz.f94; refine rn trivial ?_)
 have F:=trivial
 refine rn F ?_
 repeat' (first
  | (refine sG F ?_ ?_<;>intro hZ<;>try with_reducible exact⟨⟩)
  | (refine sB F ?_ ?_<;>intro hZ<;>try with_reducible exact⟨⟩)
  | (refine sD F ?_ ?_<;>intro hZ<;>try with_reducible exact⟨⟩)
  | (refine vp F (c1) ?_; try with_reducible exact⟨⟩)
  | (refine vd F (c1) ?_; try with_reducible exact⟨⟩)
  | (refine vl F (c1) ?_; try with_reducible exact⟨⟩)
  | (refine vp F (c2) ?_; try with_reducible exact⟨⟩)
  | (refine vd F (c2) ?_; try with_reducible exact⟨⟩)
  | (refine vl F (c2) ?_; try with_reducible exact⟨⟩)
  | (refine Qc (id:=14) [0,1,2,5,6,7,8] [⟨[3],[3],4,[1,2,5,6,7,8],[]⟩,⟨[],[],9,[0,1,2,5,6,7],[]⟩,⟨[],[],10,[],[]⟩,⟨[],[],11,[],[]⟩] (by kernel_rfl) (by kernel_rfl) ?_; refine rn F ?_; try with_reducible exact⟨⟩)
  | (refine QfZ (by kernel_rfl) (by kernel_rfl) ?_; refine rn F ?_; try with_reducible exact⟨⟩))
 all_goals first
  | (rw [eS]; repeat (first | rw [if_pos (by first | assumption | omega)] | rw [if_neg (by first | assumption | omega | (rw [show T = true by assumption]; decide))])
     rfl)
  | skip
 rw[eS]
 repeat (first | rw[if_pos (by first | assumption | omega)] | rw[if_neg (by first | assumption | omega | (rw[show T=true by assumption]; decide))])
 have hsm:=hsm (by assumption)
 refine VLoop.nilOwn 6 201 6 rfl ?_
 refine Qi (fun s:Fr l a=>⟨60,0,[(7,.int .i64 s.j),(6,.own 0 6 0 s.j),(0,.pv (.sl (fz Qaf l))),(1,.int .i64 a)],[⟨201,true,cells Qaf (l.take s.j)⟩]⟩) (fun s=>l.length-s.j) ⟨0,Jy _,fun k _ h=>by omega⟩ (gc [0]) ?_
 intro s
 have hj:=s.hj
 have hlt:=s.lt
 have hf:=hfin s
 have htl:=QvX s.hj
 have hg:=fun h:s.j<l.length=>Qp1 l s.j h
 have hts:=fun h:s.j<l.length=>QmL l s.j h
 have hcl:(cells Qaf (l.take s.j)).length=s.j*6:=by rw[QA9,htl]
 have hta:(cells Qaf (l.take s.j)).take (s.j*6)=cells Qaf (l.take s.j):=QCC _ _ (by rw[htl]; exact JH _)
 have hb:(s.j+1)*80<=140737488355328:=by omega
 have htx:(cells Qaf (l.take s.j)++([.pv (.lit (.int .i64 a)),.pv (.lit (.int .i64 1)),.pv (.lit (.int .i64 0)),.pv (.lit (.int .i64 0)),.pv (.slc []),.pv (.slc [])]:List DV)).take ((s.j+1)*6)=cells Qaf (l.take s.j)++[.pv (.lit (.int .i64 a)),.pv (.lit (.int .i64 1)),.pv (.lit (.int .i64 0)),.pv (.lit (.int .i64 0)),.pv (.slc []),.pv (.slc [])]:=by
  rw[Jm]; rw[Ja,hcl]; simp; omega
 have hb2:(s.j+1+(l.length-s.j))*80<=140737488355328:=by omega
 have hb3:(s.j+1)*6<=s.j*6+6:=by omega
 have hw:DV.wk.go (cells Qaf (l.take s.j)++[.pv (.lit (.int .i64 a)),.pv (.lit (.int .i64 1)),.pv (.lit (.int .i64 0)),.pv (.lit (.int .i64 0)),.pv (.slc []),.pv (.slc [])]++cells Qaf (l.drop s.j))=cells Qaf (l.take s.j++⟨a,1,0,0,[],[]⟩::l.drop s.j):=by
  rw[Qys,Qys,QE8,QE8,QM,Kf]
  rfl
 have hfl:(l.take s.j++(⟨a,1,0,0,[],[]⟩:Tx)::l.drop s.j).length=s.j+1+(l.length-s.j):=by
  rw[Ja,Je,Jz,htl]; omega
 have F:=(Jb @hg (Jb @hts (Jb @hcl (Jb @hta (Jb @hb (Jb @htx (Jb @hb2 @hb3)))))))
 refine rn F ?_
 repeat' (first
  | (refine sG F ?_ ?_<;>intro hZ<;>try with_reducible exact⟨⟩)
  | (refine sB F ?_ ?_<;>intro hZ<;>try with_reducible exact⟨⟩)
  | (refine sD F ?_ ?_<;>intro hZ<;>try with_reducible exact⟨⟩)
  | (refine Qc (id:=14) [0,1,2,5,6,7,8] [⟨[3],[3],4,[1,2,5,6,7,8],[]⟩,⟨[],[],9,[0,1,2,5,6,7],[]⟩,⟨[],[],10,[],[]⟩,⟨[],[],11,[],[]⟩] (by kernel_rfl) (by kernel_rfl) ?_; refine rn F ?_; try with_reducible exact⟨⟩)
  | (refine QfZ (by kernel_rfl) (by kernel_rfl) ?_; refine rn F ?_; try with_reducible exact⟨⟩))
 all_goals first
  | (refine ⟨⟨s.j + 1,by omega,fun k h' hkj=>?_⟩,by show l.length - (s.j + 1) < l.length - s.j; omega,(gc [2])⟩
     rcases JY k s.j with h | h
     ·exact hlt k h' h
     ·obtain rfl:k = s.j:=by omega
      rw[<- Qd l s.j h' Tx0]
      assumption)
  | (rw [hf (fun h=>by first | (rw [<- Qd l s.j h Tx0]; exact Int.not_lt.2 (by assumption)) | (clear F hg hts hf hlt htx hw; omega))]
     refine QzI ?_
     subst hrest
     simp(config:={ maxSteps:=2000000 }) (implicitDefEqProofs:=false) (disch:=first | omega | assumption) only[go_sem,↓reduceIte,JC,Jf,JD,Jg,Tryz.f94,hw,Qt3 hfl]
     rfl)
end
section
attribute [local go_sem] Tx.d QA9 QCC QC3 QC2 Qt3 QEZ QE5 QEX QEW Qlx Ja Jl Jz JL Qce QbC
def Qum(q:List Int)(r:Int)(i:Nat)(h:i<q.length):(q.take (i+1)).filter (fun x=>decide (x≠r))=(q.take i).filter (fun x=>decide (x≠r))++(if q.getD i 0=r then [] else [q.getD i 0]):=by
 rw[Jw h,Ka,Qd q i h]
 by_cases hx:q[i]=r<;>simp[hx]
def QBO(q:List Int)(r:Int)(i:Nat):((q.take i).filter fun x=>decide (x≠r)).length<=i:=by
 refine JR (JQ _ _) ?_
 rw[Jl]; omega
def QBP(q:List Int)(r:Int):(q.filter fun x=>decide (x≠r)).length=q.length ↔ r ∉ q:=by
 rw[List.length_filter_eq_length_iff]
 constructor
 ·intro h hm; simpa using h r hm
 ·intro h x hx; exact decide_eq_true fun e=>h (e▸hx)
def QmX(l:List Tx)(hs:smL l)(e:E):VCalls prog 149 [.pv (.sl (fz Qaf l)),.agg e.d] [] (Ret (QCx (QU l e))):=by
 refine VCalls.unwk ?_
 have c1:=QbM l hs
 have c2:=Qcy e
 have c3:=Qgg l hs.1 e.tx
 have c4:=QgW l hs.1 e.tx
 have hw:=fun(i:Nat) (hi:i<l.length) (t:Tx)=>Qse l hs.1 i hi t
 have hok:=@QeH e
 have hat:=@Qxb l e
 have e0:QU l e=if Qbw l=false then ([],15) else if e.okB=false then ([],12) else if e.tx=0 then (l,0) else if idT l e.tx<0 then ([],16)
  else Qlw l (idT l e.tx).toNat (l.getD (idT l e.tx).toNat Tx0) e:=rfl
 by_cases hv:Qbw l=true
 rotate_left
 ·have hv':Qbw l = false:=by simpa using hv
  rw[e0,if_pos hv']
  rw[hv'] at c1
  refine dd Tryz.func149 ?_
  unfold E.d
  (unfold Tryz.f149; refine rn trivial ?_)
  refine rn F ?_
  repeat' (first
   | with_reducible exact⟨⟩
   | refine vp F (c1) ?_)
  rfl
 by_cases hk:e.okB=true
 rotate_left
 ·have hk':e.okB = false:=by simpa using hk
  rw[e0,if_neg (by rw[hv]; decide),if_pos hk']
  rw[hv] at c1
  rw[hk'] at c2
  unfold E.d at c2 |-
  refine dd Tryz.func149 ?_
  (unfold Tryz.f149; refine rn trivial ?_)
  refine rn F ?_
  repeat' (first
   | with_reducible exact⟨⟩
   | refine vp F (c1) ?_
   | refine vp F (c2) ?_)
  rfl
 by_cases ht:e.tx=0
 ·rw [e0,if_neg (by rw [hv]; decide),if_neg (by rw [hk]; decide),if_pos ht]
  rw[hv] at c1
  rw[hk] at c2
  unfold E.d at c2 |-
  refine dd Tryz.func149 ?_
  (unfold Tryz.f149; refine rn trivial ?_)
  have F:=@ht
  refine rn F ?_
  repeat' (first
   | with_reducible exact⟨⟩
   | refine vp F (c1) ?_
   | refine vl F (c2) ?_)
  rfl
 rw[hv] at c1
 rw[hk] at c2
 rcases QB l e.tx with h | ⟨i,hi,h,hid⟩
 ·rw [e0,if_neg (by rw [hv]; decide),if_neg (by rw [hk]; decide),if_neg ht,h,if_pos (by decide)]
  rw[h] at c3
  unfold E.d at c2 |-
  refine dd Tryz.func149 ?_
  (unfold Tryz.f149; refine rn trivial ?_)
  have F:=@ht
  refine rn F ?_
  repeat' (first
   | with_reducible exact⟨⟩
   | refine vp F (c1) ?_
   | refine vp F (c2) ?_
   | refine vp F (c3) ?_)
  all_goals first | rfl | contradiction
 rw[hat hv hk ht hi h]
 have hkk:=hok hk ht
 rw[h] at c3
 have hg:=QoE l i hi
 have hto:=Qbp hv hi
 have hso:=Qtk hto
 have hle:=Qd9 hto
 clear hat e0 hok
 generalize hT:l[i]=t at *
 obtain⟨id,st,n,b,q,s⟩:=t
 dsimp only at hid hso hle hg
 obtain⟨lsn,kind,tx,ptx,ppg,ref,c,blob⟩:=e
 dsimp only at hid c4 c3 h hkk ht
 unfold E.d at c2 |-
 dsimp only at c2 |-
 unfold Qlw
 dsimp only
 by_cases hp:ptx=n
 rotate_left
 ·rw [if_pos (.inl hp)]
  refine dd Tryz.func149 ?_
  (unfold Tryz.f149; refine rn trivial ?_)
  have F:=(Jb @ht @hg)
  refine rn F ?_
  repeat' (first
   | with_reducible exact⟨⟩
   | refine vp F (c1) ?_
   | refine vp F (c2) ?_
   | refine vp F (c3) ?_)
  all_goals first | rfl | contradiction | omega
 subst hp
 rcases hkk with rfl | rfl | rfl | rfl | rfl
 ·rw [if_neg (by rintro (h | h); exact h rfl; omega),if_neg (by omega)]
  have hwA:=hw i hi (QF (Qcj ⟨id,st,ptx,b,q,s⟩ ⟨lsn,1,tx,ptx,ppg,ref,c,blob⟩))
  have hse:=Qeu (Qcj ⟨id,st,ptx,b,q,s⟩ ⟨lsn,1,tx,ptx,ppg,ref,c,blob⟩)
  have eN:Qcj ⟨id,st,ptx,b,q,s⟩ ⟨lsn,1,tx,ptx,ppg,ref,c,blob⟩=⟨id,st,lsn,b,q++[lsn],s⟩:=rfl
  rw[eN] at hwA hse |-
  replace hse:=hse ⟨by simp; omega,by show s.length<=_; omega⟩
  generalize QF ⟨id,st,lsn,b,q++[lsn],s⟩=u at *
  refine dd Tryz.func149 ?_
  (unfold Tryz.f149; refine rn trivial ?_)
  have F:=(Jb @ht (Jb @hg @Qme))
  refine rn F ?_
  repeat' (first
   | with_reducible exact⟨⟩
   | refine vp F (c1) ?_
   | refine vp F (c2) ?_
   | refine vp F (c3) ?_
   | (refine Qga [4] _ _ (hse) rfl ⟨⟨by simp,Qs _ _ _⟩,trivial⟩ (by decide) rfl (by simp[DV.nums.go,DV.nums]) ?_ ?_; (focus (refine rd F)); refine rn F ?_)
   | refine vp F (hwA) ?_
   | (refine Qc (id:=17) [0,1,3,4] [⟨[5],[],2,[0,3,4],[]⟩,⟨[5],[5],6,[0,1,3,4],[7]⟩,⟨[],[],8,[],[]⟩] (by kernel_rfl) (by kernel_rfl) ?_; refine rn F ?_))
  all_goals first | rfl | skip
 ·refine dd Tryz.func149 ?_
  (unfold Tryz.f149; refine rn trivial ?_)
  have F:=(Jb @ht @hg)
  refine rn F ?_
  repeat' (first
   | with_reducible exact⟨⟩
   | refine vp F (c1) ?_
   | refine vp F (c2) ?_
   | refine vp F (c3) ?_)
  rotate_left
  all_goals first | contradiction | skip
  refine VLoop.nilOwn 8 3 1 rfl ?_
  refine Qi (fun s0:To q.length=>⟨100,0,[(9,.int .i64 s0.i),(8,.own 2 1 0 ((q.take s0.i).filter fun x=>decide (x≠ref)).length),(7,.ptr 1 0),(6,.int .i64 i),(3,.ptr 0 0),(0,.pv (.sl (fz Qaf l)))],
   [⟨57,true,[.int .i64 lsn,.int .i64 2,.int .i64 tx,.int .i64 ptx,.int .i64 ppg,.int .i64 ref,.int .i64 c.pg,.int .i64 c.sl,.bool c.b.set,.pv (.str c.b.data),.bool c.a.set,.pv (.str c.a.data),.pv (.str blob)]⟩,
    ⟨201,true,[.int .i64 id,.int .i64 st,.int .i64 lsn,.int .i64 b,.pv (.sl (fz QW q)),.pv (.sl (fz QW s))]⟩,
    ⟨3,true,cells QW ((q.take s0.i).filter fun x=>decide (x≠ref))⟩]⟩) (fun s0=>q.length-s0.i) ⟨0,Jy _⟩ (gc [0,1,2]) ?_
  intro s0
  have hi0:=s0.hi
  have hgq:=fun h:s0.i<q.length=>QY q s0.i h
  have hfl:=QBO q ref s0.i
  have hfs:=Qum q ref s0.i
  have hwA:=hw i hi (QF (Qcj ⟨id,st,ptx,b,q,s⟩ ⟨lsn,2,tx,ptx,ppg,ref,c,blob⟩))
  have hse:=Qeu (Qcj ⟨id,st,ptx,b,q,s⟩ ⟨lsn,2,tx,ptx,ppg,ref,c,blob⟩)
  have eN:Qcj ⟨id,st,ptx,b,q,s⟩ ⟨lsn,2,tx,ptx,ppg,ref,c,blob⟩=⟨id,st,lsn,b,q.filter fun x=>decide (x≠ref),s⟩:=rfl
  have hfq:=QBP q ref
  rw[eN] at hwA hse |-
  have hfl2:(q.filter fun x=>decide (x≠ref)).length<=q.length:=JQ _ _
  replace hse:=hse ⟨by show(q.filter fun x=>decide (x≠ref)).length<=_; omega,by show s.length<=_; omega⟩
  by_cases hc:s0.i<q.length
  ·replace hfs:=hfs hc
   generalize ((q.take s0.i).filter fun x=>decide (x≠ref))=out at *
   have hb:(out.length+1)*8<=140737488355328:=by omega
   have F:=(Jb @hgq (Jb @Qme @hb))
   refine rn F ?_
   repeat' (first
    | with_reducible exact⟨⟩
    | (refine sB F ?_ ?_<;>intro hZ)
    | (refine Qc (id:=23) [0,1,2,3,4,5,6,7] [] (by kernel_rfl) (by kernel_rfl) ?_; refine rn F ?_))
   ·have hf2:(q.take (s0.i + 1)).filter (fun x=>decide ¬x = ref) = out ++ [q.getD s0.i 0]:=by rw [if_neg (by assumption)] at hfs; exact hfs
    refine⟨⟨s0.i+1,by omega⟩,by show q.length-(s0.i+1)<q.length-s0.i; omega,?_⟩
    dsimp only
    rw[hf2,Ja]
    exact(gc [0,1,4])
   ·have hf2:(q.take (s0.i + 1)).filter (fun x=>decide ¬x = ref) = out:=by rw [if_pos (by assumption),JW] at hfs; exact hfs
    refine⟨⟨s0.i+1,by omega⟩,by show q.length-(s0.i+1)<q.length-s0.i; omega,?_⟩
    dsimp only
    rw[hf2]
    exact(gc [0,1,2])
  ·rw [Jm (by omega)] at *
   generalize (q.filter fun x=>decide (x≠ref))=out at *
   generalize QF ⟨id,st,lsn,b,out,s⟩=u at *
   have F:=trivial
   refine rn F ?_
   repeat' (first
    | with_reducible exact⟨⟩
    | (refine sB F ?_ ?_<;>intro hZ)
    | (refine Qga [2] _ _ (hse) rfl ⟨⟨by simp,Qs _ _ _⟩,trivial⟩ (by decide) rfl (by simp[DV.nums.go,DV.nums]) ?_ ?_; (focus (refine rd F)); refine rn F ?_)
    | refine vp F (hwA) ?_)
   all_goals first | (rw[if_pos (hfq.1 (by omega))]; rfl) | (rw[if_neg (fun h=>absurd (hfq.2 h) (by omega))]; rfl) | skip
 ·rw [if_neg (by rintro (h | h); exact h rfl; omega),if_pos (by omega)]
  refine dd Tryz.func149 ?_
  (unfold Tryz.f149; refine rn trivial ?_)
  have F:=(Jb @ht @hg)
  refine rn F ?_
  repeat' (first
   | with_reducible exact⟨⟩
   | refine vp F (c1) ?_
   | refine vp F (c2) ?_
   | refine vp F (c3) ?_
   | refine vp F (c4) ?_)
  all_goals rfl
 ·rw [if_neg (by rintro (h | h); exact h rfl; omega),if_neg (by omega)]
  have hwA:=hw i hi (QF (Qcj ⟨id,st,ptx,b,q,s⟩ ⟨lsn,4,tx,ptx,ppg,ref,c,blob⟩))
  have hse:=Qeu (Qcj ⟨id,st,ptx,b,q,s⟩ ⟨lsn,4,tx,ptx,ppg,ref,c,blob⟩)
  have eN:Qcj ⟨id,st,ptx,b,q,s⟩ ⟨lsn,4,tx,ptx,ppg,ref,c,blob⟩=⟨id,3,lsn,0,q,[]⟩:=rfl
  rw[eN] at hwA hse |-
  replace hse:=hse ⟨by show q.length<=_; omega,by simp⟩
  have hse2:VCalls prog 192 [.agg [.int .i64 id,.int .i64 3,.int .i64 lsn,.int .i64 0,.pv (.sl (fz QW q)),.pv (.slc [])]] [] (Ret (.agg (QF ⟨id,3,lsn,0,q,[]⟩).d)):=VCalls.wkA hse
  generalize QF ⟨id,3,lsn,0,q,[]⟩=u at *
  refine dd Tryz.func149 ?_
  (unfold Tryz.f149; refine rn trivial ?_)
  have F:=(Jb @ht @hg)
  refine rn F ?_
  repeat' (first
   | with_reducible exact⟨⟩
   | refine vp F (c1) ?_
   | refine vp F (c2) ?_
   | refine vp F (c3) ?_
   | refine vp F (hse2) ?_
   | refine vp F (hwA) ?_)
  all_goals rfl
 ·rw [if_neg (by rintro (h | h); exact h rfl; omega),if_pos (by omega)]
  refine dd Tryz.func149 ?_
  (unfold Tryz.f149; refine rn trivial ?_)
  have F:=(Jb @ht @hg)
  refine rn F ?_
  repeat' (first
   | with_reducible exact⟨⟩
   | refine vp F (c1) ?_
   | refine vp F (c2) ?_
   | refine vp F (c3) ?_
   | refine vp F (c4) ?_)
  all_goals rfl
end
attribute [go_sem] Ce.d Ch.d E.d Lg.c Qlx Ja Jl Jz JL Qce QbC
attribute [go_sem] QhO Qi6 Qiz Qix QiS Qdi
def Okay.no(s:Okay n c)(h:s.i<n)(hB:B=(Jq n).all c)(hc:c s.i=false):B=false:=by rw[hB,Qax h hc]
def Okay.yes(s:Okay n c)(h:¬ s.i<n)(hB:B=(Jq n).all c):B=true:=by rw[hB,s.all h]
def Okay.dec(s:Okay n c)(h:s.i<n):n-(s.i+1)<n-s.i:=by omega
structure Pg where
 id:Int
 lsn:Int
 cel:Nat->Ce
def QGY(c:Nat->Ce):List PV:=(Jq 16).flatMap fun i=>[.lit (.bool (c i).set),.str (c i).data]
def Pg.p(x:Pg):List PV:=.lit (.int .i64 x.id)::.lit (.int .i64 x.lsn)::QGY x.cel
def Pg.d(x:Pg):List DV:=x.p.map .pv
def Pg0:Pg:=⟨0,0,fun _=>Ce0⟩
structure Fm where
 pg:Pg
 dirty:Bool
 rc:Int
 used:Bool
def Fm.p(f:Fm):List PV:=f.pg.p++[.lit (.bool f.dirty),.lit (.int .i64 f.rc),.lit (.bool f.used)]
def Fm.d(f:Fm):List DV:=f.p.map .pv
def Fm0:Fm:=⟨Pg0,false,0,false⟩
def Qcv:Enc Fm:=⟨37,Fm.p,by decide,fun _=>rfl⟩
def QE0(l:List Fm):(cells Qcv l).length=l.length*37:=QV Qcv l
def QHa(l:List Fm)(n:Nat)(h:l.length*37<=n):(cells Qcv l).take n=cells Qcv l:=by rw[Jm]; rw[QE0]; exact h
def QG3(l m:List Fm):cells Qcv l++cells Qcv m=cells Qcv (l++m):=(QM Qcv l m).symm
def QGH(l:List Fm)(T:TypeId)(a b:Nat)(h:a<=b/\b<=l.length):Qo4 (some (none,T,37)) (fz Qcv l) a b=some (.pv (.sl (fz Qcv ((l.take b).drop a)))):=Qgy Qcv l T a b h
def QGE(l:List Fm):(fz Qcv l=[]\/(fz Qcv l)[0]?.map JM=some 37)=True:=QfO Qcv l
def QGi(h:l.length=len):QoH n hp 0 37 len (some (cells Qcv l))=some (.sl (fz Qcv l)):=QZ Qcv h
def Qda(e:Enc α)(l:List α)(d:α)(i:Nat)(h:i<l.length):(fz e l)[i]?=some (e.enc (l.getD i d)):=by rw[Qd l i h d]; exact QiQ e l i h
def Qb0(l:List Fm)(i:Nat)(h:i<l.length):(fz Qcv l)[i]?=some (l.getD i Fm0).p:=Qda Qcv l Fm0 i h
def Qu6(l:List Fm)(f:Fm):cells Qcv l++f.d=cells Qcv (l++[f]):=by rw[QM]; simp[cells,Qcv,Fm.d]
@[go_sem] def QGy(x:Fm)(h0:0<=i):QCH (some (none,T,37)) (some x.p) i=some (.ip x.p):=Qkw h0 rfl (by decide)
@[go_sem] theorem Pg.p_len(x:Pg):x.p.length=34:=rfl
@[go_sem] theorem Pg.d_len(x:Pg):x.d.length=34:=rfl
@[go_sem] theorem Fm.p_len(x:Fm):x.p.length=37:=rfl
@[go_sem] theorem Fm.d_len(x:Fm):x.d.length=37:=rfl
@[go_sem] def Pg.p_map(x:Pg):x.p.map DV.pv=x.d:=(rfl)
@[go_sem] def Fm.p_map(x:Fm):x.p.map DV.pv=x.d:=(rfl)
@[go_sem] def Fm.p_take(x:Fm):x.p.take 37=x.p:=(rfl)
@[go_sem] def Fm.d_take(x:Fm):x.d.take 37=x.d:=(rfl)
@[go_sem] def Pg.p_take(x:Pg):x.p.take 34=x.p:=(rfl)
@[go_sem] def Pg.d_take(x:Pg):x.d.take 34=x.d:=(rfl)
@[go_sem] def Fm.p_pg(x:Fm):x.p.take 34=x.pg.p:=(rfl)
@[go_sem] def Fm.d_pg(x:Fm):x.d.take 34=x.pg.d:=(rfl)
@[go_sem] def Fm.p0(x:Fm):x.p[0]?=some (.lit (.int .i64 x.pg.id)):=(rfl)
def Fm.p1(x:Fm):x.p[1]?=some (.lit (.int .i64 x.pg.lsn)):=(rfl)
@[go_sem] def Fm.pd1(x:Fm):(x.p.drop 1)[0]?=some (.lit (.int .i64 x.pg.lsn)):=(rfl)
@[go_sem] def Fm.pd34(x:Fm):(x.p.drop 34)[0]?=some (.lit (.bool x.dirty)):=(rfl)
@[go_sem] def Fm.pd35(x:Fm):(x.p.drop 35)[0]?=some (.lit (.int .i64 x.rc)):=(rfl)
@[go_sem] def Fm.pd36(x:Fm):(x.p.drop 36)[0]?=some (.lit (.bool x.used)):=(rfl)
@[go_sem] def Fm.d0(x:Fm):x.d[0]?=some (.pv (.lit (.int .i64 x.pg.id))):=(rfl)
@[go_sem] def Fm.d1(x:Fm):x.d[1]?=some (.pv (.lit (.int .i64 x.pg.lsn))):=(rfl)
@[go_sem] def Fm.d34(x:Fm):x.d[34]?=some (.pv (.lit (.bool x.dirty))):=(rfl)
@[go_sem] def Fm.d35(x:Fm):x.d[35]?=some (.pv (.lit (.int .i64 x.rc))):=(rfl)
@[go_sem] def Pg.p0(x:Pg):x.p[0]?=some (.lit (.int .i64 x.id)):=(rfl)
def Pg.p1(x:Pg):x.p[1]?=some (.lit (.int .i64 x.lsn)):=(rfl)
@[go_sem] def Pg.d0(x:Pg):x.d[0]?=some (.pv (.lit (.int .i64 x.id))):=(rfl)
@[go_sem] def Pg.d1(x:Pg):x.d[1]?=some (.pv (.lit (.int .i64 x.lsn))):=(rfl)
@[go_sem] def Pg.d_one(x:Pg):Qp x.d=true:=(rfl)
@[go_sem] def Fm.d_one(x:Fm):Qp x.d=true:=(rfl)
@[go_sem] def Pg.d_nums(x:Pg)(k:Nat->Bool):DV.nums.go k x.d=true:=(rfl)
@[go_sem] def Fm.d_nums(x:Fm)(k:Nat->Bool):DV.nums.go k x.d=true:=(rfl)
@[go_sem] def Fm.set34(x:Fm)(b:Bool):x.d.set 34 (.pv (.lit (.bool b)))=Fm.d ⟨x.pg,b,x.rc,x.used⟩:=(rfl)
@[go_sem] def Fm.set35(x:Fm)(b:Int):x.d.set 35 (.pv (.lit (.int .i64 b)))=Fm.d ⟨x.pg,x.dirty,b,x.used⟩:=(rfl)
@[go_sem] def Fm.set36(x:Fm)(b:Bool):x.d.set 36 (.pv (.lit (.bool b)))=Fm.d ⟨x.pg,x.dirty,x.rc,b⟩:=(rfl)
@[go_sem] def Fm.setpg(x:Fm)(p:Pg):p.d++x.d.drop 34=Fm.d ⟨p,x.dirty,x.rc,x.used⟩:=(rfl)
@[go_sem] def Fm.mk36(x:Pg)(a c u:Bool)(b:Int):(x.d++([.pv (.lit (.bool a)),.pv (.lit (.int .i64 b)),.pv (.lit (.bool c))]:List DV)).take 36++[.pv (.lit (.bool u))]++(x.d++([.pv (.lit (.bool a)),.pv (.lit (.int .i64 b)),.pv (.lit (.bool c))]:List DV)).drop 37=Fm.d ⟨x,a,b,u⟩:=(rfl)
@[go_sem] def Pg.set1(x:Pg)(b:Int):x.d.set 1 (.pv (.lit (.int .i64 b)))=Pg.d ⟨x.id,b,x.cel⟩:=(rfl)
@[go_sem] def Pg.d_drop(x:Pg):x.d.drop 34=[]:=(rfl)
@[go_sem] def Fm.d_drop(x:Fm):x.d.drop 37=[]:=(rfl)
def QjJ(n:Nat)(hp:Qa):∀ l:List PV,Qh ((l.map DV.pv).map (QcL n hp))=some (l.map DV.pv)
 | []=>rfl
 | p::l=>by show Qh (some (.pv p)::(l.map DV.pv).map (QcL n hp))=_; rw[QfS,QjJ n hp l]; rfl
@[go_sem] def Pg.d_frz1(x:Pg)(n:Nat)(hp:Qa):Qh (x.d.map (QcL n hp))=some x.d:=QjJ n hp x.p
@[go_sem] def Fm.d_frz1(x:Fm)(n:Nat)(hp:Qa):Qh (x.d.map (QcL n hp))=some x.d:=QjJ n hp x.p
@[go_sem] def Pg.d_wk(x:Pg):DV.wk.go x.d=x.d:=(rfl)
@[go_sem] def Fm.d_wk(x:Fm):DV.wk.go x.d=x.d:=(rfl)
def QoU(x:Pg)(i:Nat)(h:i<16):(x.d.drop (2+i*2)).take 2=[.pv (.lit (.bool (x.cel i).set)),.pv (.str (x.cel i).data)]:=by
 have:i=0\/i=1\/i=2\/i=3\/i=4\/i=5\/i=6\/i=7\/i=8\/i=9\/i=10\/i=11\/i=12\/i=13\/i=14\/i=15:=by omega
 rcases this with h | h | h | h | h | h | h | h | h | h | h | h | h | h | h | h<;>subst h<;>rfl
def QuV(x:Pg)(i:Nat)(h:i<16):x.d[2+i*2]?=some (.pv (.lit (.bool (x.cel i).set))):=by
 have:i=0\/i=1\/i=2\/i=3\/i=4\/i=5\/i=6\/i=7\/i=8\/i=9\/i=10\/i=11\/i=12\/i=13\/i=14\/i=15:=by omega
 rcases this with h | h | h | h | h | h | h | h | h | h | h | h | h | h | h | h<;>subst h<;>rfl
def Pg.setc(x:Pg)(i:Nat)(c:Ce):Pg:=⟨x.id,x.lsn,fun k=>if k=i then c else x.cel k⟩
def QB4(x:Pg)(i:Nat)(h:i<16)(c:Ce):splice x.d (2+i*2) [.pv (.lit (.bool c.set)),.pv (.str c.data)]=(x.setc i c).d:=by
 have:i=0\/i=1\/i=2\/i=3\/i=4\/i=5\/i=6\/i=7\/i=8\/i=9\/i=10\/i=11\/i=12\/i=13\/i=14\/i=15:=by omega
 rcases this with h | h | h | h | h | h | h | h | h | h | h | h | h | h | h | h<;>subst h<;>rfl
structure Rw where
 lsn:Int
 im:Int
 at_:Int
def Qcc:Enc Rw:=⟨3,fun r=>[.lit (.int .i64 r.lsn),.lit (.int .i64 r.im),.lit (.int .i64 r.at_)],by decide,fun _=>rfl⟩
@[go_sem] def Rw.d(r:Rw):List DV:=[.int .i64 r.lsn,.int .i64 r.im,.int .i64 r.at_]
def QGf(l:List Rw):(cells Qcc l).length=l.length*3:=QV Qcc l
def QG7(l:List Rw)(n:Nat)(h:l.length*3<=n):(cells Qcc l).take n=cells Qcc l:=by rw[Jm]; rw[QGf]; exact h
def QGC(l:List Rw):(fz Qcc l=[]\/(fz Qcc l)[0]?.map JM=some 3)=True:=QfO Qcc l
def QGU(h:l.length=len):QoH n hp 0 3 len (some (cells Qcc l))=some (.sl (fz Qcc l)):=QZ Qcc h
def Rw0:Rw:=⟨0,0,0⟩
def QlT(l:List Rw)(i:Nat)(h:i<l.length):(fz Qcc l)[i]?=some [.lit (.int .i64 (l.getD i Rw0).lsn),.lit (.int .i64 (l.getD i Rw0).im),.lit (.int .i64 (l.getD i Rw0).at_)]:=Qda Qcc l Rw0 i h
def QFU(l:List Rw)(a b c:Int):cells Qcc l++[.pv (.lit (.int .i64 a)),.pv (.lit (.int .i64 b)),.pv (.lit (.int .i64 c))]=cells Qcc (l++[⟨a,b,c⟩]):=by rw[QM]; rfl
structure Dt where
 pg:Int
 rc:Int
 last:Int
def QcM:Enc Dt:=⟨3,fun r=>[.lit (.int .i64 r.pg),.lit (.int .i64 r.rc),.lit (.int .i64 r.last)],by decide,fun _=>rfl⟩
@[go_sem] def Dt.d(r:Dt):List DV:=[.int .i64 r.pg,.int .i64 r.rc,.int .i64 r.last]
def QGc(l:List Dt):(cells QcM l).length=l.length*3:=QV QcM l
def QG4(l:List Dt)(n:Nat)(h:l.length*3<=n):(cells QcM l).take n=cells QcM l:=by rw[Jm]; rw[QGc]; exact h
def QGR(h:l.length=len):QoH n hp 0 3 len (some (cells QcM l))=some (.sl (fz QcM l)):=QZ QcM h
def Dt0:Dt:=⟨0,0,0⟩
def QeQ(l:List Dt)(i:Nat)(h:i<l.length):(fz QcM l)[i]?=some [.lit (.int .i64 (l.getD i Dt0).pg),.lit (.int .i64 (l.getD i Dt0).rc),.lit (.int .i64 (l.getD i Dt0).last)]:=Qda QcM l Dt0 i h
def QFR(l:List Dt)(a b c:Int):cells QcM l++[.pv (.lit (.int .i64 a)),.pv (.lit (.int .i64 b)),.pv (.lit (.int .i64 c))]=cells QcM (l++[⟨a,b,c⟩]):=by rw[QM]; rfl
structure Gr where
 tx:Int
 pg:Int
 sl:Int
 md:Int
def Gr0:Gr:=⟨0,0,0,0⟩
def Qaq:Enc Gr:=⟨4,fun g=>[.lit (.int .i64 g.tx),.lit (.int .i64 g.pg),.lit (.int .i64 g.sl),.lit (.int .i64 g.md)],by decide,fun _=>rfl⟩
@[go_sem] def Gr.d(g:Gr):List DV:=[.int .i64 g.tx,.int .i64 g.pg,.int .i64 g.sl,.int .i64 g.md]
def QGh(l:List Gr):(cells Qaq l).length=l.length*4:=QV Qaq l
def QG9(l:List Gr)(n:Nat)(h:l.length*4<=n):(cells Qaq l).take n=cells Qaq l:=by rw[Jm]; rw[QGh]; exact h
def QG2(l m:List Gr):cells Qaq l++cells Qaq m=cells Qaq (l++m):=(QM Qaq l m).symm
def QGG(l:List Gr)(T:TypeId)(a b:Nat)(h:a<=b/\b<=l.length):Qo4 (some (none,T,4)) (fz Qaq l) a b=some (.pv (.sl (fz Qaq ((l.take b).drop a)))):=Qgy Qaq l T a b h
def QGD(l:List Gr):(fz Qaq l=[]\/(fz Qaq l)[0]?.map JM=some 4)=True:=QfO Qaq l
def QGW(h:l.length=len):QoH n hp 0 4 len (some (cells Qaq l))=some (.sl (fz Qaq l)):=QZ Qaq h
def QaC(l:List Gr)(i:Nat)(h:i<l.length):(fz Qaq l)[i]?=some [.lit (.int .i64 (l.getD i Gr0).tx),.lit (.int .i64 (l.getD i Gr0).pg),.lit (.int .i64 (l.getD i Gr0).sl),.lit (.int .i64 (l.getD i Gr0).md)]:=Qda Qaq l Gr0 i h
def QFW(l:List Gr)(a b c d:Int):cells Qaq l++[.pv (.lit (.int .i64 a)),.pv (.lit (.int .i64 b)),.pv (.lit (.int .i64 c)),.pv (.lit (.int .i64 d))]=cells Qaq (l++[⟨a,b,c,d⟩]):=by rw[QM]; rfl
def QeR(l:List E)(i:Nat)(h:i<l.length):(fz Q5 l)[i]?=some [.lit (.int .i64 (l.getD i E0).lsn),.lit (.int .i64 (l.getD i E0).kind),.lit (.int .i64 (l.getD i E0).tx),.lit (.int .i64 (l.getD i E0).ptx),.lit (.int .i64 (l.getD i E0).ppg),.lit (.int .i64 (l.getD i E0).ref),.lit (.int .i64 (l.getD i E0).c.pg),.lit (.int .i64 (l.getD i E0).c.sl),.lit (.bool (l.getD i E0).c.b.set),.str (l.getD i E0).c.b.data,.lit (.bool (l.getD i E0).c.a.set),.str (l.getD i E0).c.a.data,.str (l.getD i E0).blob]:=Qda Q5 l E0 i h
def Qea(l:List Tx)(i:Nat)(h:i<l.length):(fz Qaf l)[i]?=some [.lit (.int .i64 (l.getD i Tx0).id),.lit (.int .i64 (l.getD i Tx0).st),.lit (.int .i64 (l.getD i Tx0).n),.lit (.int .i64 (l.getD i Tx0).b),.sl (fz QW (l.getD i Tx0).l),.sl (fz QW (l.getD i Tx0).s)]:=Qda Qaf l Tx0 i h
def QE9(l:List E):DV.wk.go (cells Q5 l)=cells Q5 l:=Qbd Q5 l fun a p hp=>by
 simp[Q5] at hp
 rcases hp with h | h | h | h | h | h | h | h | h | h | h | h | h<;>subst h<;>rfl
def QGv(l:List Gr):DV.wk.go (cells Qaq l)=cells Qaq l:=Qbd Qaq l fun a p hp=>by
 simp[Qaq] at hp
 rcases hp with h | h | h | h<;>subst h<;>rfl
def QGs(l:List Rw):DV.wk.go (cells Qcc l)=cells Qcc l:=Qbd Qcc l fun a p hp=>by
 simp[Qcc] at hp
 rcases hp with h | h | h<;>subst h<;>rfl
def QGq(l:List Dt):DV.wk.go (cells QcM l)=cells QcM l:=Qbd QcM l fun a p hp=>by
 simp[QcM] at hp
 rcases hp with h | h | h<;>subst h<;>rfl
def QGw(l:List Fm):DV.wk.go (cells Qcv l)=cells Qcv l:=Qbd Qcv l fun a p hp=>by
 have hm:a.p.map PV.wk=a.p:=rfl
 have hp:p∈a.p:=hp
 obtain⟨i,hi,rfl⟩:=List.getElem_of_mem hp
 have:=congrArg (fun l=>l[i]?) hm
 simpa [hi] using this
attribute [go_sem] QE9 QGv QGs QGq QGw
attribute [go_sem] QE0 QHa QG3 QGH QGE QGi Qu6 QGf QG7 QGC QGU QFU QGc QG4 QGR QFR QGh QG9 QG2 QGG QGD QGW QFW
structure Pl where
 size:Int
 fs:List Fm
 hand:Int
@[go_sem] def Pl.d(p:Pl):List DV:=[.int .i64 p.size,.pv (.sl (fz Qcv p.fs)),.int .i64 p.hand]
def Pl0:Pl:=⟨0,[],0⟩
structure Lk where
 held:List Gr
 wait:List Gr
@[go_sem] def Lk.d(t:Lk):List DV:=[.pv (.sl (fz Qaq t.held)),.pv (.sl (fz Qaq t.wait))]
def cb(c:C):Blk:=⟨68,true,cc c⟩
abbrev CX(R:DV->Prop):DV->Qa->Prop:=fun r h'=>∃ B',h'=[B']/\B'.live=true/\DV.nums.go (fun _=>false) B'.cells=true/\r.nums (fun _=>false)=true/\(R r/\∃ c',B'=cb c')
def QaL(h:VCalls prog g (args.map (DV.ren fun _=>0)) [cb c] (CX R))(hk:hp[k]?=some (cb c))(ha:DV.nums.go (fun i=>i==k) args=true)(hK:∀ r c',R r->K r (hp.set k (cb c'))):VCalls prog g args hp K:=
 (VCalls.ptr1 (R:=fun r B'=>R r/\∃ c',B'=cb c') hk rfl (Qca c) h ha).mono fun r h' ⟨B',e1,_,_,e2,e3⟩=>by subst e1; obtain⟨c',rfl⟩:=e3; exact hK r c' e2
abbrev Nx(n:Nat):DV->Prop:=fun r=>∃ x:Nat,r=.int .i64 x/\x<n
def Qtp(c:C)(n:Nat)(h1:1<=n)(hn:n<=256):VCalls prog 16 [.ptr 0 0,.int .i64 n] [cb c] (CX (Nx n)):=by
 refine dd Tryz.func16 ?_
 have ha:=c.ha
 have hl:=c.hl
 simp(config:={ maxSteps:=2000000 }) (implicitDefEqProofs:=false) (disch:=first | omega | assumption | (simp only[]; done) | fail) only[go_sem,Jt,Ju,Tryz.f16,cb,cc]
 refine QfZ (by kernel_rfl) (by kernel_rfl) ?_
 by_cases a:c.at_<c.l.length
 ·simp (config:={ maxSteps:=2000000 }) (implicitDefEqProofs:=false) (disch:=first | omega | assumption | (simp only []; done) | fail) only [go_sem,↓reduceIte,reduceCtorEq,Jt,Jf,Ju,Jg]
  refine QfZ (by kernel_rfl) (by kernel_rfl) ?_
  have hg:=Qt0 c.l c.at_ a
  have hh:(c.l.getD c.at_ 0).toNat<256:=UInt8.toNat_lt _
  simp(config:={ maxSteps:=2000000 }) (implicitDefEqProofs:=false) (disch:=first | omega | assumption | (simp only[Je,Jc,Kh]; done) | fail) only[go_sem,↓reduceIte,reduceCtorEq,Jt,JC,Jf,JD,Ju,Jg,hg]
  obtain⟨y,hy,hlt⟩:=QnS (c.l.getD c.at_ 0).toNat n h1
  refine⟨_,rfl,rfl,rfl,rfl,⟨y,by rw[hy],hlt⟩,⟨c.l,c.at_+1,a,hl⟩,rfl⟩
 ·simp (config:={ maxSteps:=2000000 }) (implicitDefEqProofs:=false) (disch:=first | omega | assumption | (simp only []; done) | fail) only [go_sem,↓reduceIte,reduceCtorEq,Jt,Jf,Ju,Jg]
  exact⟨_,rfl,rfl,rfl,rfl,⟨0,rfl,h1⟩,c,rfl⟩
def QaB(c:C)(n:Nat)(h1:1<=n)(hn:n<=1000000000):VCalls prog 16 [.ptr 0 0,.int .i64 n] [cb c] (CX (Nx n)):=by
 by_cases hs:n<=256
 ·exact Qtp c n h1 hs
 refine dd Tryz.func16 ?_
 have ha:=c.ha
 have hl:=c.hl
 simp(config:={ maxSteps:=2000000 }) (implicitDefEqProofs:=false) (disch:=first | omega | assumption | (simp only[]; done) | fail) only[go_sem,Jt,Ju,Tryz.f16,cb,cc]
 refine QfZ (by kernel_rfl) (by kernel_rfl) ?_
 by_cases a:c.at_<c.l.length
 ·simp (config:={ maxSteps:=2000000 }) (implicitDefEqProofs:=false) (disch:=first | omega | assumption | (simp only []; done) | fail) only [go_sem,↓reduceIte,reduceCtorEq,Jt,Jf,Ju,Jg]
  refine QfZ (by kernel_rfl) (by kernel_rfl) ?_
  have hg:=Qt0 c.l c.at_ a
  have hh:(c.l.getD c.at_ 0).toNat<256:=UInt8.toNat_lt _
  generalize hx:(c.l.getD c.at_ 0).toNat=x at hg hh
  simp(config:={ maxSteps:=2000000 }) (implicitDefEqProofs:=false) (disch:=first | omega | assumption | (simp only[Je,Jc,Kh]; done) | fail) only[go_sem,↓reduceIte,reduceCtorEq,Jt,JC,Jf,JD,Ju,Jg,hg]
  refine QaL (k:=0) (c:=⟨c.l,c.at_+1,a,hl⟩) (Qtp _ 256 (by omega) (by omega)) rfl rfl ?_
  rintro r c' ⟨z,rfl,hz⟩
  simp(config:={ maxSteps:=2000000 }) (implicitDefEqProofs:=false) (disch:=first | omega | assumption | (simp only[]; done) | fail) only[go_sem,Jf,Jg,cb,cc]
  obtain⟨y,hy,hlt⟩:=QnS (256*x+z) n h1
  have e:(256*(x:Int)+(z:Int))=((256*x+z:Nat):Int):=by omega
  refine⟨_,rfl,rfl,rfl,rfl,⟨y,by rw[e,hy],hlt⟩,c',rfl⟩
 ·simp (config:={ maxSteps:=2000000 }) (implicitDefEqProofs:=false) (disch:=first | omega | assumption | (simp only []; done) | fail) only [go_sem,↓reduceIte,reduceCtorEq,Jt,Jf,Ju,Jg]
  exact⟨_,rfl,rfl,rfl,rfl,⟨0,rfl,h1⟩,c,rfl⟩
def QyP(c:C)(m:Int)(h1:1<=m)(hn:m<=1000000000):VCalls prog 16 [.ptr 0 0,.int .i64 m] [cb c] (CX (Nx m.toNat)):=by
 have h:=QaB c m.toNat (by omega) (by omega)
 rwa [show((m.toNat:Nat):Int)=m by omega] at h
def QD5(l:List UInt8)(most:Nat)(hm:1<=most)(h:most<=1000000)(hl:l.length<=9223372036854775807):VCalls prog 6 [.pv (.sl (fz Qfs l)),.int .i64 most] [] fun r h'=>∃ B,h'=[B]/\r=.ptr 0 0/\B.live=true/\DV.nums.go (fun _=>false) B.cells=true/\∃ c,B=cb c:=by
 refine Qcw (fn:=Tryz.f6) Tryz.func6 rfl (by kernel_rfl) (by simp[Tryz.f6]) ?_
 simp(config:={ maxSteps:=2000000 }) (implicitDefEqProofs:=false) (disch:=first | omega | assumption | (simp only[]; done) | fail) only[go_sem,Jt,Jf,Ju,Jg,Tryz.f6]
 refine Qbi (fun hc=>?_) (fun hc=>?_)<;>simp only[decide_eq_true_eq,decide_eq_false_iff_not,Ji,Jd,Jv,Js,Jj,Jh,beq_iff_eq,beq_eq_false_iff_ne,bne_iff_ne,bne_eq_false_iff_eq,ne_eq] at hc
 ·have hx:(fz Qfs l)[0]?.map JM = some 1:=QtZ Qfs l (by omega)
  have ht:(fz Qfs l).take most=fz Qfs (l.take most):=QtY Qfs l most
  have hh:most<=(fz Qfs l).length:=by rw[QlS]; omega
  have h0:(0:Nat)<=most:=by omega
  simp(config:={ maxSteps:=2000000 }) (implicitDefEqProofs:=false) (disch:=first | omega | assumption | (simp only[]; done) | fail) only[go_sem,V.splice,↓reduceIte,Jt,JC,JU,Jf,JD,Ju,Jg,ht]
  exact⟨_,rfl,rfl,rfl,⟨l.take most,0,by omega,by rw[Jl]; omega⟩,rfl⟩
 ·simp (config:={ maxSteps:=2000000 }) (implicitDefEqProofs:=false) (disch:=first | omega | assumption | (simp only []; done) | fail) only [go_sem,V.splice,↓reduceIte,Jt,JC,JU,Jf,JD,Ju,Jg]
  exact⟨_,rfl,rfl,rfl,⟨l,0,by omega,by omega⟩,rfl⟩
def QzO{most:Nat}(hm:1<=most)(h:most<=1000000)(hl:l.length<=9223372036854775807)(hK:∀ c,K (.ptr hp.length 0) (hp++[cb c])):VCalls prog 6 [.pv (.sl (fz Qfs l)),.int .i64 most] hp K:=
 (VCalls.new (QD5 l most hm h hl) rfl).mono fun r h' ⟨B,e1,e2,_,_,c,e3⟩=>by subst e1 e2 e3; exact hK c
def QFD(c:C):VCalls prog 92 [.ptr 0 0] [cb c] (CX fun r=>∃ n:Int,r=.int .i64 n/\-9223372036854775808<=n/\n<=9223372036854775807):=by
 refine dd Tryz.func92 ?_
 simp(config:={ maxSteps:=2000000 }) (implicitDefEqProofs:=false) (disch:=first | omega | assumption | (simp only[]; done) | fail) only[go_sem,Jf,JN,Jg,Tryz.f92]
 refine QaL (k:=0) (c:=c) (QaB c 10 (by omega) (by omega)) rfl rfl ?_
 rintro _ c1 ⟨z,rfl,hz⟩
 (try simp(config:={ maxSteps:=2000000 }) (implicitDefEqProofs:=false) (disch:=first | omega | assumption | (simp only[]; done) | fail) only[go_sem,JN])
 repeat' (first
  | (refine QgB (fun hZ=>?_) (fun hZ=>?_)<;>(try rw[hZ])<;>(try simp only[decide_eq_true_eq,decide_eq_false_iff_not,Ji,Jd,Jv,Js,Jj,Jh,beq_iff_eq,beq_eq_false_iff_ne,bne_iff_ne,bne_eq_false_iff_eq,ne_eq,JS,Kd,J7] at hZ)<;>(try (first | rw[(hZ:_=false)] | rw[(hZ:_=true)]))<;>skip)
  | (refine Qbi (fun hZ=>?_) (fun hZ=>?_)<;>(try rw[hZ])<;>(try simp only[decide_eq_true_eq,decide_eq_false_iff_not,Ji,Jd,Jv,Js,Jj,Jh,beq_iff_eq,beq_eq_false_iff_ne,bne_iff_ne,bne_eq_false_iff_eq,ne_eq,JS,Kd,J7] at hZ)<;>(try (first | rw[(hZ:_=false)] | rw[(hZ:_=true)]))<;>(try simp(config:={ maxSteps:=2000000 }) (implicitDefEqProofs:=false) (disch:=first | omega | assumption | (simp only[]; done) | fail) only[go_sem,V.splice,V.mk,↓reduceIte,Jt,JC,JU,Jf,JD,JN,Ju,Jg]))
  | (refine Qiu (fun hZ=>?_) (fun hZ=>?_)<;>(try rw[hZ])<;>(try simp only[decide_eq_true_eq,decide_eq_false_iff_not,Ji,Jd,Jv,Js,Jj,Jh,beq_iff_eq,beq_eq_false_iff_ne,bne_iff_ne,bne_eq_false_iff_eq,ne_eq,JS,Kd,J7] at hZ)<;>(try (first | rw[(hZ:_=false)] | rw[(hZ:_=true)]))<;>skip))
 ·refine QaL (k:=0) (c:=c1) (QaB c1 3 (by omega) (by omega)) rfl rfl ?_
  rintro _ c2 ⟨y,rfl,hy⟩
  simp(config:={ maxSteps:=2000000 }) (implicitDefEqProofs:=false) (disch:=first | omega | assumption | (simp only[]; done) | fail) only[go_sem,JN]
  exact⟨_,rfl,rfl,Qca _,rfl,⟨_,rfl,by omega,by omega⟩,c2,rfl⟩
 ·refine QaL (k:=0) (c:=c1) (QaB c1 16 (by omega) (by omega)) rfl rfl ?_
  rintro _ c2 ⟨y,rfl,hy⟩
  have h:y=0\/y=1\/y=2\/y=3\/y=4\/y=5\/y=6\/y=7\/y=8\/y=9\/y=10\/y=11\/y=12\/y=13\/y=14\/y=15:=by omega
  rcases h with rfl | rfl | rfl | rfl | rfl | rfl | rfl | rfl | rfl | rfl | rfl | rfl | rfl | rfl | rfl | rfl<;>(simp(config:={ maxSteps:=2000000 }) (implicitDefEqProofs:=false) (disch:=first | omega | assumption | (simp only[]; done) | fail) only[go_sem,Jf,JN,Jg]; exact⟨_,rfl,rfl,Qca _,rfl,⟨_,rfl,by omega,by omega⟩,c2,rfl⟩)
 ·refine QaL (k:=0) (c:=c1) (QaB c1 20 (by omega) (by omega)) rfl rfl ?_
  rintro _ c2 ⟨y,rfl,hy⟩
  simp(config:={ maxSteps:=2000000 }) (implicitDefEqProofs:=false) (disch:=first | omega | assumption | (simp only[]; done) | fail) only[go_sem,JN]
  exact⟨_,rfl,rfl,Qca _,rfl,⟨_,rfl,by omega,by omega⟩,c2,rfl⟩
theorem QFO:bts prog 22 9=true:=by kernel_rfl
def QfU(a b c d:Int):QI [.pv (.lit (.int .i64 a)),.pv (.lit (.int .i64 b))] [.pv (.lit (.int .i64 c)),.pv (.lit (.int .i64 d))] [(0,1),(1,1)]=some (decide (a=c)&&decide (b=d)):=by simp[QI,Q7,JT]
def grB(g:Gr):Bool:=decide (1<=g.tx)&&decide (g.tx<=1073741824)&&decide (0<=g.pg)&&decide (g.pg<64)&&decide (0<=g.sl)&&decide (g.sl<16)&&(decide (g.md=1)||decide (g.md=2))
def lessG(a b:Gr):Bool:=if a.pg≠b.pg then decide (a.pg<b.pg) else if a.sl≠b.sl then decide (a.sl<b.sl) else decide (a.tx<b.tx)
def QuI(a b:Gr):Bool:=!decide (a.tx=b.tx)&&(decide (a.pg=b.pg)&&decide (a.sl=b.sl))&&(decide (a.md=2)||decide (b.md=2))
def Qsw(g:Gr):VCalls prog 202 [.agg g.d] [] (Ret (.bool (grB g))):=by
 refine dd Tryz.func202 ?_
 (unfold Tryz.f202; refine rn trivial ?_)
 refine rn F ?_
 repeat' (first
  | with_reducible exact⟨⟩
  | (refine sG F ?_ ?_<;>intro hZ))
 all_goals (first | rfl | (congr 3; rw[Jo]; (try simp only[grB,decide_eq_true_eq,Jd,Ji,Jj,Jh,decide_eq_false_iff_not,beq_iff_eq,bne_iff_ne,ne_eq,Jn,Jp,iff_true,true_iff,iff_false,false_iff]); first | done | omega | grind))
def Qn7(a b:Gr):VCalls prog 203 [.agg a.d,.agg b.d] [] (Ret (.bool (lessG a b))):=by
 refine dd Tryz.func203 ?_
 have e:lessG a b=if a.pg≠b.pg then decide (a.pg<b.pg) else if a.sl≠b.sl then decide (a.sl<b.sl) else decide (a.tx<b.tx):=rfl
 generalize lessG a b=r at *
 (unfold Tryz.f203; refine rn trivial ?_)
 refine rn F ?_
 repeat' (first
  | with_reducible exact⟨⟩
  | (refine sB F ?_ ?_<;>intro hZ))
 all_goals first | (first | (rw[e]; simp(disch:=first | assumption | omega | exact rfl | exact nf (by assumption) | exact nt (by assumption) | decide | fail) only[if_pos,if_neg]; first | done | rfl) | (rw[e]; simp(disch:=first | assumption | omega | exact rfl | exact nf (by assumption) | exact nt (by assumption) | decide | (simp_all; done) | fail) only[if_pos,if_neg]; first | done | rfl)) | skip
def Qgi(a b:Gr):VCalls prog 182 [.agg a.d,.agg b.d] [] (Ret (.bool (QuI a b))):=by
 refine dd Tryz.func182 ?_
 (unfold Tryz.f182; refine rn trivial ?_)
 have F:=@QfU
 refine rn F ?_
 repeat' (first
  | with_reducible exact⟨⟩
  | (refine sG F ?_ ?_<;>intro hZ))
 all_goals (unfold QuI; simp_all [JT])
def QCz(tx pg sl:Int)(g:Gr):Bool:=decide (g.tx=tx)&&(decide (g.pg=pg)&&decide (g.sl=sl))
def QyR(l:List Gr)(tx pg sl:Int):Int:=match l.find? (QCz tx pg sl) with | some g=>g.md | none=>0
def QmY (t:Lk) (hs:t.held.length<=1000000) (tx pg sl:Int):VCalls prog 204 [.agg t.d,.int .i64 tx,.agg [.int .i64 pg,.int .i64 sl]] [] (Ret (.int .i64 (QyR t.held tx pg sl))):=by
 refine dd Tryz.func204 ?_
 obtain⟨l,w⟩:=t
 dsimp only at hs |-
 (unfold Tryz.f204; refine rn trivial ?_)
 refine Qi (fun s:Pass l (fun x=>QCz tx pg sl x=true)=>⟨39,0,[(7,.int .i64 s.i),(5,.ptr 1 0),(3,.ptr 0 0),(1,.int .i64 tx)],[⟨34,true,[.pv (.sl (fz Qaq l)),.pv (.sl (fz Qaq w))]⟩,⟨180,true,[.int .i64 pg,.int .i64 sl]⟩]⟩) (fun s=>l.length-s.i) (Pass.start l _) (gc [0,1]) ?_
 intro s
 have hsi:=s.hi
 have hg:=fun h:s.i<l.length=>QaC l s.i h
 have hkey:s.i<l.length->QCz tx pg sl (l.getD s.i Gr0)=QCz tx pg sl (l[s.i]?.getD Gr0):=fun _=>by rw[Jk]
 have hk0:QCz tx pg sl (l.getD s.i Gr0)=(decide ((l.getD s.i Gr0).tx=tx)&&(decide ((l.getD s.i Gr0).pg=pg)&&decide ((l.getD s.i Gr0).sl=sl))):=rfl
 have F:=(Jb @hg @QfU)
 refine rn F ?_
 repeat' (first
  | with_reducible exact⟨⟩
  | (refine sG F ?_ ?_<;>intro hZ)
  | (refine sB F ?_ ?_<;>intro hZ)
  | (refine Qc (id:=4) [0,1,2,3,4,5,6,7,8,9,10,11,12,13,14,15,16,17] [] (by kernel_rfl) (by kernel_rfl) ?_; refine rn F ?_))
 all_goals first
  | (have h:=s.all (by omega)
     rw[QyR,J9.2 h])
  | (have hlt:s.i < l.length:=by omega
     have hk:QCz tx pg sl l[s.i]=true:=by rw[<- Qd l s.i hlt Gr0,hk0]; simp_all
     rw[Qd l s.i hlt,QyR,List.find?_eq_some_iff_getElem.2 ⟨hk,s.i,hlt,rfl,fun j hj=>by simpa using s.no l[j] (List.mem_take_iff_getElem.2 ⟨j,by omega,rfl⟩)⟩])
  | (have hlt:s.i < l.length:=by omega
     exact⟨s.next hlt (by rw[<- Qd l s.i hlt Gr0,hk0]; simp_all),by show l.length-(s.i+1)<l.length-s.i; omega,(gc [0,1])⟩)
  | skip
def QjE(l:List Gr)(hl:l.length<=100000)(tx:Int)(one:Bool)(pg sl:Int):VCalls prog 165 [.pv (.sl (fz Qaq l)),.int .i64 tx,.bool one,.agg [.int .i64 pg,.int .i64 sl]] [] (QG (fun m:List Gr=>.pv (.sl (fz Qaq m))) fun m=>m.length<=l.length):=by
 refine dd Tryz.func165 ?_
 (unfold Tryz.f165; refine rn trivial ?_)
 refine VLoop.nilOwn 9 205 4 rfl ?_
 refine rn trivial ?_
 refine Qi (fun s:{s:Nat×List Gr // s.1<=l.length/\s.2.length<=s.1}=>⟨44,0,[(10,.int .i64 s.1.1),(9,.own 1 4 0 s.1.2.length),(7,.ptr 0 0),(2,.bool one),(1,.int .i64 tx),(0,.pv (.sl (fz Qaq l)))],[⟨180,true,[.int .i64 pg,.int .i64 sl]⟩,⟨205,true,cells Qaq s.1.2⟩]⟩) (fun s=>l.length-s.1.1) ⟨(0,[]),by simp⟩ (gc [0,1]) ?_
 rintro⟨⟨i,out⟩,hi,ho⟩
 dsimp only at hi ho |-
 have hg:=fun h:i<l.length=>QaC l i h
 have hb:(out.length+1)*32<=140737488355328:=by omega
 have F:=(Jb @hg (Jb @hb @QfU))
 refine rn F ?_
 repeat' (first
  | with_reducible exact⟨⟩
  | (refine sG F ?_ ?_<;>intro hZ)
  | (refine sB F ?_ ?_<;>intro hZ)
  | (refine Qc (id:=5) [0,1,2,3,4,5,6,7,8,9,10,11,12,13,14,15,16,17,18] [] (by kernel_rfl) (by kernel_rfl) ?_; refine rn F ?_))
 all_goals first
  | exact⟨rfl,rfl,out,rfl,by omega⟩
  | exact⟨⟨(i+1,out),by dsimp only; omega,by dsimp only; omega⟩,by dsimp only; omega,(gc [0,1])⟩
  | exact⟨⟨(i+1,out++[⟨(l.getD i Gr0).tx,(l.getD i Gr0).pg,(l.getD i Gr0).sl,(l.getD i Gr0).md⟩]),by dsimp only; omega,by simp; omega⟩,by dsimp only; omega,by dsimp only; rw[Ja]; exact(gc [0,3])⟩
  | skip
def QAK(t:Lk)(hs:t.held.length<=100000/\t.wait.length<=100000)(i:Nat)(hi:i<t.wait.length):VCalls prog 212 [.agg t.d,.int .i64 i] [] (QG (fun b:Bool=>.bool b) fun _=>True):=by
 refine dd Tryz.func212 ?_
 obtain⟨l,w⟩:=t
 dsimp only at hs hi |-
 have hw:=QaC w i hi
 have c:=fun a=>Qgi a (w.getD i Gr0)
 (unfold Tryz.f212; refine rn trivial ?_)
 refine Qi (fun s:To l.length=>⟨41,0,[(5,.int .i64 s.i),(2,.ptr 0 0),(1,.int .i64 i)],[⟨34,true,[.pv (.sl (fz Qaq l)),.pv (.sl (fz Qaq w))]⟩]⟩) (fun s=>l.length-s.i) ⟨0,Jy _⟩ (gc [0]) ?_
 intro s
 have hsi:=s.hi
 have hg:=fun h:s.i<l.length=>QaC l s.i h
 have c1:=c (l.getD s.i Gr0)
 have F:=(Jb @hg @hw)
 refine rn F ?_
 repeat' (first
  | with_reducible exact⟨⟩
  | (refine sB F ?_ ?_<;>intro hZ)
  | refine vp F (c1) ?_
  | (refine Qc (id:=4) [0,1,2,3,4,5,6,7,8,9] [⟨[],[],10,[0,1,2,3,5,6,7,8],[]⟩] (by kernel_rfl) (by kernel_rfl) ?_; refine rn F ?_))
 all_goals first
  | exact⟨rfl,rfl,_,rfl,trivial⟩
  | exact⟨⟨s.i+1,by omega⟩,by dsimp only; omega,(gc [0])⟩
  | skip
 refine Qi (fun s:To i=>⟨41,0,[(6,.int .i64 s.i),(2,.ptr 0 0),(1,.int .i64 i)],[⟨34,true,[.pv (.sl (fz Qaq l)),.pv (.sl (fz Qaq w))]⟩]⟩) (fun s=>i-s.i) ⟨0,Jy _⟩ (gc [0]) ?_
 intro s
 have hsi:=s.hi
 have hg:=fun h:s.i<w.length=>QaC w s.i h
 have c1:=c (w.getD s.i Gr0)
 have F:=(Jb @hg @hw)
 refine rn F ?_
 repeat' (first
  | with_reducible exact⟨⟩
  | (refine sB F ?_ ?_<;>intro hZ)
  | refine vp F (c1) ?_
  | (refine Qc (id:=9) [0,1,2,3,4,5,6,7,8,9] [⟨[],[],10,[0,1,2,3,5,6,7,8],[]⟩] (by kernel_rfl) (by kernel_rfl) ?_; refine rn F ?_))
 all_goals first
  | exact⟨rfl,rfl,_,rfl,trivial⟩
  | exact⟨⟨s.i+1,by omega⟩,by dsimp only; omega,(gc [0])⟩
  | skip
def QAy(l:List Gr)(hl:l.length<=100000)(g:Gr):VCalls prog 213 [.pv (.sl (fz Qaq l)),.agg g.d] [] (QG (fun m:List Gr=>.pv (.sl (fz Qaq m))) fun m=>m.length<=l.length+1):=by
 refine dd Tryz.func213 ?_
 (unfold Tryz.f213; refine rn trivial ?_)
 refine VLoop.nilOwn 5 205 4 rfl ?_
 refine rn trivial ?_
 refine Qi (fun s:{s:Nat×List Gr×Bool // s.1<=l.length/\s.2.1.length<=s.1+1/\(s.2.2=false->s.2.1.length<=s.1)}=>⟨61,0,[(7,.int .i64 s.1.1),(6,.bool s.1.2.2),(5,.own 1 4 0 s.1.2.1.length),(3,.ptr 0 0),(0,.pv (.sl (fz Qaq l)))],[⟨205,true,g.d⟩,⟨205,true,cells Qaq s.1.2.1⟩]⟩) (fun s=>l.length-s.1.1) ⟨(0,[],false),by simp⟩ (gc [0,1]) ?_
 rintro⟨⟨i,out,dn⟩,hi,ho,hd⟩
 dsimp only at hi ho hd |-
 have hg:=fun h:i<l.length=>QaC l i h
 have c:=Qn7 (l.getD i Gr0) g
 have hb:(out.length+1)*32<=140737488355328:=by omega
 have hb2:(out.length+1+1)*32<=140737488355328:=JR (JB 32 (show out.length+1+1<=100003 by omega)) (by decide)
 cases dn
 all_goals
  simp only[forall_const,reduceCtorEq,false_implies] at hd
  have F:=(Jb @hg (Jb @hb (Jb @hb2 @QfU)))
  refine rn F ?_
  repeat' (first
   | with_reducible exact⟨⟩
   | (refine sG F ?_ ?_<;>intro hZ)
   | (refine sB F ?_ ?_<;>intro hZ)
   | refine vp F (c) ?_
   | (refine Qc (id:=6) [0,1,2,3,4,5,6,7] [⟨[],[],8,[0,1,3,4,5],[9,10]⟩] (by kernel_rfl) (by kernel_rfl) ?_; refine rn F ?_)
   | (refine Qc (id:=9) [0,1,2,3,4,5,6,7,8,9,10,11,12,13,14,15,16,17] [] (by kernel_rfl) (by kernel_rfl) ?_; refine rn F ?_))
 all_goals first
  | exact⟨rfl,rfl,out,rfl,by omega⟩
  | exact⟨rfl,rfl,out++[g],rfl,by simp; omega⟩
  | exact⟨⟨(i+1,out,false),by dsimp only; omega,by dsimp only; (try rw[Jc]); omega,by dsimp only; (try rw[Jc]); first | omega | (intro h; omega) | (intro h; cases h)⟩,by dsimp only; omega,by dsimp only; (try rw[Jc]); exact(gc [0,1])⟩
  | exact⟨⟨(i+1,out++[⟨(l.getD i Gr0).tx,(l.getD i Gr0).pg,(l.getD i Gr0).sl,(l.getD i Gr0).md⟩],false),by dsimp only; omega,by dsimp only; (try rw[Ja,Je,Jc]); omega,by dsimp only; (try rw[Ja,Je,Jc]); first | omega | (intro h; omega) | (intro h; cases h)⟩,by dsimp only; omega,by dsimp only; (try rw[Ja,Je,Jc]); exact(gc [0,3])⟩
  | exact⟨⟨(i+1,out,true),by dsimp only; omega,by dsimp only; (try rw[Jc]); omega,by dsimp only; (try rw[Jc]); first | omega | (intro h; omega) | (intro h; cases h)⟩,by dsimp only; omega,by dsimp only; (try rw[Jc]); exact(gc [0,1])⟩
  | exact⟨⟨(i+1,out++[⟨(l.getD i Gr0).tx,(l.getD i Gr0).pg,(l.getD i Gr0).sl,(l.getD i Gr0).md⟩],true),by dsimp only; omega,by dsimp only; (try rw[Ja,Je,Jc]); omega,by dsimp only; (try rw[Ja,Je,Jc]); first | omega | (intro h; omega) | (intro h; cases h)⟩,by dsimp only; omega,by dsimp only; (try rw[Ja,Je,Jc]); exact(gc [0,3])⟩
  | exact⟨⟨(i+1,out++[g],true),by dsimp only; omega,by dsimp only; (try rw[Ja,Je,Jc]); omega,by dsimp only; (try rw[Ja,Je,Jc]); first | omega | (intro h; omega) | (intro h; cases h)⟩,by dsimp only; omega,by dsimp only; (try rw[Ja,Je,Jc]); exact(gc [0,3])⟩
  | exact⟨⟨(i+1,out++[g]++[⟨(l.getD i Gr0).tx,(l.getD i Gr0).pg,(l.getD i Gr0).sl,(l.getD i Gr0).md⟩],true),by dsimp only; omega,by dsimp only; (try rw[Ja,Ja,Je,Jc,Je,Jc]); omega,by dsimp only; (try rw[Ja,Ja,Je,Jc,Je,Jc]); first | omega | (intro h; omega) | (intro h; cases h)⟩,by dsimp only; omega,by dsimp only; (try rw[Ja,Ja,Je,Jc,Je,Jc]); exact(gc [0,5])⟩
  | skip
section
attribute [local go_sem] Qbs
def Lk.sum(t:Lk):Nat:=t.held.length+t.wait.length
def Qet(t:Lk)(hs:t.sum<=5000):VCalls prog 164 [.agg t.d] [] (QG (fun u:Lk=>.agg u.d) fun u=>u.sum<=t.sum):=by
 refine dk Tryz.func164 ?_
 (unfold Tryz.f164; refine rn trivial ?_)
 refine Qrj (fun s:{s:Lk×Nat // s.2<=s.1.wait.length/\s.1.sum<=t.sum}=>⟨36,0,[(3,.int .i64 s.1.2),(2,.ptr 1 0),(1,.ptr 0 0)],[⟨34,true,s.1.1.d⟩,⟨34,true,[.pv (.slc []),.pv (.slc [])]⟩]⟩) (fun s=>s.1.1.wait.length*5001+(s.1.1.wait.length-s.1.2)) ⟨(t,0),Jy _,JH _⟩ (.inl (by exact(gc [0,1]))) ?_
 rintro⟨⟨⟨l,w⟩,i⟩,hi,hsum⟩
 unfold Lk.sum at *
 dsimp only at hi hsum |-
 have hgx:=fun h:i<w.length=>QaC w i h
 have c1:=fun h:i<w.length=>QAK ⟨l,w⟩ ⟨by dsimp only; omega,by dsimp only; omega⟩ i h
 have c2:=QAy l (by omega)
 have hb:(i+(w.length-(i+1)))*32<=140737488355328:=by omega
 have hb1:i*32<=140737488355328:=by omega
 have hmin:i<w.length->min i w.length=i:=fun h=>by omega
 have F:=(Jb @hgx (Jb @hb (Jb @hb1 @hmin)))
 refine rn F ?_
 repeat' (first
  | with_reducible exact⟨⟩
  | (refine sB F ?_ ?_<;>intro hZ)
  | (refine Qo (c1 (by omega)) rfl ?_; rintro b -; refine rn F ?_)
  | (refine Qo (c2 ⟨_,_,_,_⟩) rfl ?_; rintro m hm; refine rn F ?_)
  | (refine Qc (id:=5) [0,1,2,3,4,5,6] [⟨[],[],7,[0,2,3,4,5],[8]⟩,⟨[],[],9,[],[]⟩] (by kernel_rfl) (by kernel_rfl) ?_; refine rn F ?_)
  | (refine Qc (id:=6) [0,1,2,3,5,6,7,8,9] [⟨[],[],4,[0,1,2,5,6,7,8,9],[]⟩,⟨[],[],10,[0,1,2,3,5,6,7,8],[11]⟩,⟨[],[],12,[],[]⟩] (by kernel_rfl) (by kernel_rfl) ?_; refine rn F ?_))
 ·have hl:(w.take i ++ w.drop (i + 1)).length = i + (w.length - (i + 1)):=by rw [Ja,Jl,Jz]; omega
  refine⟨⟨(⟨m,w.take i++w.drop (i+1)⟩,0),Jy _,by dsimp only; rw[hl]; omega⟩,by dsimp only; rw[hl]; omega,?_⟩
  dsimp only
  generalize w.take i++w.drop (i+1)=L at *
  generalize i+(w.length-(i+1))=n at *
  refine .inr ⟨2,⟨36,0,[(3,.int .i64 0),(2,.ptr 1 0),(1,.ptr 0 0)],[⟨34,true,[.pv (.sl (fz Qaq m)),.own 2 4 0 n]⟩,⟨34,true,[.pv (.slc []),.pv (.slc [])]⟩,⟨205,true,cells Qaq L⟩]⟩,(gc [0,1,3]),⟨rfl,rfl,Jy _,by simp,?_,⟨rfl,rfl,rfl,trivial⟩⟩⟩
  (refine rn @hl ?_; try with_reducible exact⟨⟩)
 ·exact⟨⟨(⟨l,w⟩,i+1),by dsimp only; omega,by dsimp only; omega⟩,by dsimp only; omega,.inl (gc [0,1])⟩
 ·exact⟨rfl,rfl,⟨l,w⟩,rfl,hsum⟩
def Qws(t:Lk)(hs:t.sum<=5000)(g:Gr):VCalls prog 220 [.agg t.d,.agg g.d] [] (QG (fun n:Nat=>.int .i64 n) fun n=>n<=t.wait.length):=by
 refine dd Tryz.func220 ?_
 unfold Lk.sum at hs
 have c1:=QmY t (by omega)
 obtain⟨l,w⟩:=t
 dsimp only at hs c1 |-
 generalize hm:QyR l=M at *
 (unfold Tryz.f220; refine rn trivial ?_)
 refine rn F ?_
 repeat' (first
  | with_reducible exact⟨⟩
  | (refine sB F ?_ ?_<;>intro hZ)
  | refine vp F (c1 _ _ _) ?_)
 ·exact⟨rfl,rfl,w.length,rfl,JH _⟩
 refine Qi (fun s:To w.length=>⟨47,0,[(5,.int .i64 s.i),(3,.ptr 1 0),(2,.ptr 0 0)],[⟨34,true,[.pv (.sl (fz Qaq l)),.pv (.sl (fz Qaq w))]⟩,⟨205,true,g.d⟩]⟩) (fun s=>w.length-s.i) ⟨0,Jy _⟩ (gc [0,1]) ?_
 intro s
 have hsi:=s.hi
 have hg:=fun h:s.i<w.length=>QaC w s.i h
 have F:=(Jb @hg @QfU)
 refine rn F ?_
 repeat' (first
  | with_reducible exact⟨⟩
  | (refine sG F ?_ ?_<;>intro hZ)
  | (refine sB F ?_ ?_<;>intro hZ)
  | refine vp F (c1 _ _ _) ?_)
 all_goals first
  | exact⟨rfl,rfl,s.i,rfl,by omega⟩
  | exact⟨⟨s.i+1,by omega⟩,by dsimp only; omega,(gc [0,1])⟩
  | exact⟨rfl,rfl,w.length,rfl,JH _⟩
  | skip
end
def lkC(l:List Gr)(i:Nat):Nat->Bool
 | 0=>true
 | k+1=>if (l.getD k Gr0).pg=(l.getD i Gr0).pg/\(l.getD k Gr0).sl=(l.getD i Gr0).sl then !QuI (l.getD k Gr0) (l.getD i Gr0)&&lkC l i k else true
def lkH(l:List Gr)(i:Nat):Bool:=grB (l.getD i Gr0)&&((decide (i=0)||lessG (l.getD (i-1) Gr0) (l.getD i Gr0))&&lkC l i i)
def lkX(w:List Gr)(j k:Nat):Bool:=!decide ((w.getD k Gr0).tx=(w.getD j Gr0).tx)
def lkW(l w:List Gr)(j:Nat):Bool:=grB (w.getD j Gr0)&&(decide (QyR l (w.getD j Gr0).tx (w.getD j Gr0).pg (w.getD j Gr0).sl<(w.getD j Gr0).md)&&(Jq j).all (lkX w j))
def lkB(t:Lk):Bool:=decide (t.sum<=1024)&&((Jq t.held.length).all (lkH t.held)&&(Jq t.wait.length).all (lkW t.held t.wait))
def QDI{t:Lk}(h:¬ t.sum<=1024):lkB t=false:=by unfold lkB; rw[decide_eq_false h]; rfl
def QFy{t:Lk}{i:Nat}(hi:i<t.held.length)(h:lkH t.held i=false):lkB t=false:=by unfold lkB; rw[Qax hi h]; simp
def QFx{t:Lk}{i:Nat}(hi:i<t.wait.length)(h:lkW t.held t.wait i=false):lkB t=false:=by unfold lkB; rw[Qax hi h]; simp
def QiF(t:Lk)(hs:t.sum<=100000):VCalls prog 156 [.agg t.d] [] (Ret (.bool (lkB t))):=by
 refine dd Tryz.func156 ?_
 have k0:=@QDI t
 have kh:=@QFy t
 have kw:=@QFx t
 have ky:t.sum<=1024->(Jq t.held.length).all (lkH t.held)=true->(Jq t.wait.length).all (lkW t.held t.wait)=true->lkB t=true:=fun a b c=>by unfold lkB; rw[decide_eq_true a,b,c]; rfl
 unfold Lk.sum at *
 have cm:=QmY t (by omega)
 obtain⟨l,w⟩:=t
 dsimp only at hs cm k0 kh kw ky |-
 generalize lkB ⟨l,w⟩=R at *
 (unfold Tryz.f156; refine rn trivial ?_)
 refine rn F ?_
 repeat' (first
  | with_reducible exact⟨⟩
  | (refine sB F ?_ ?_<;>intro hZ))
 ·rw[k0 (by omega)]
 have hsum:l.length+w.length<=1024:=by omega
 refine Qi (fun s:Okay l.length (lkH l)=>⟨121,0,[(3,.int .i64 s.i),(1,.ptr 0 0)],[⟨34,true,[.pv (.sl (fz Qaq l)),.pv (.sl (fz Qaq w))]⟩]⟩) (fun s=>l.length-s.i) (Okay.start _ _) (gc [0]) ?_
 intro s
 have hi:=s.hi
 by_cases hc:s.i<l.length
 rotate_left
 ·have hc':¬ ((s.i:Nat):Int) < l.length:=by omega
  have F:=@hc'
  refine rn F ?_
  refine Qi (fun r:Okay w.length (lkW l w)=>⟨121,0,[(5,.int .i64 r.i),(1,.ptr 0 0)],[⟨34,true,[.pv (.sl (fz Qaq l)),.pv (.sl (fz Qaq w))]⟩]⟩) (fun s=>w.length-s.i) (Okay.start _ _) (gc [0]) ?_
  intro r
  have hj:=r.hi
  by_cases hr:r.i<w.length
  rotate_left
  ·have hr':¬ ((r.i:Nat):Int) < w.length:=by omega
   have F:=@hr'
   refine rn F ?_
   rw[ky hsum (s.all hc) (r.all hr)]
  have hr':((r.i:Nat):Int)<w.length:=by omega
  have hw:=QaC w r.i hr
  have d1:=Qsw (w.getD r.i Gr0)
  have ew:lkW l w r.i=(grB (w.getD r.i Gr0)&&(decide (QyR l (w.getD r.i Gr0).tx (w.getD r.i Gr0).pg (w.getD r.i Gr0).sl<(w.getD r.i Gr0).md)&&(Jq r.i).all (lkX w r.i))):=rfl
  have kwr:=kw hr
  generalize hM:QyR l (w.getD r.i Gr0).tx (w.getD r.i Gr0).pg (w.getD r.i Gr0).sl=M at *
  have cm':=cm (w.getD r.i Gr0).tx (w.getD r.i Gr0).pg (w.getD r.i Gr0).sl
  rw[hM] at cm'
  generalize hgr:grB (w.getD r.i Gr0)=gb at *
  cases gb
  ·skip
   have F:=(Jb @hr' @hw)
   refine rn F ?_
   repeat' (first
    | with_reducible exact⟨⟩
    | refine vp F (d1) ?_
    | (refine Qa5 (id:=17) [[],[0],[0,1],[0,1,2],[0,1,2,3],[0,1,2,3],[0,1,2,3,5],[0,1,2,3],[0,1,2,3,7],[0,1,2,3,4,5,6,7,8],[0,1,2,3],[0,1,2,3,10],[0,1,2,3,4,5,6,7,8,9,10,11],[0,1,2,3,4,5,6,7,8,9,10,11,12]] [0] [⟨[],[],1,[],[2,3,4,5,6,7,8,10,11]⟩,⟨[],[],9,[10,11],[12,13]⟩] (by kernel_rfl) (by kernel_rfl) (by kernel_rfl) ?_; refine rn F ?_))
   rw[kwr (by rw[ew]; rfl)]
  by_cases hmd:M<(w.getD r.i Gr0).md
  rotate_left
  ·skip
   have F:=(Jb @hr' (Jb @hw @hmd))
   refine rn F ?_
   repeat' (first
    | with_reducible exact⟨⟩
    | refine vp F (d1) ?_
    | refine vp F (cm') ?_
    | (refine Qa5 (id:=17) [[],[0],[0,1],[0,1,2],[0,1,2,3],[0,1,2,3],[0,1,2,3,5],[0,1,2,3],[0,1,2,3,7],[0,1,2,3,4,5,6,7,8],[0,1,2,3],[0,1,2,3,10],[0,1,2,3,4,5,6,7,8,9,10,11],[0,1,2,3,4,5,6,7,8,9,10,11,12]] [0] [⟨[],[],1,[],[2,3,4,5,6,7,8,10,11]⟩,⟨[],[],9,[10,11],[12,13]⟩] (by kernel_rfl) (by kernel_rfl) (by kernel_rfl) ?_; refine rn F ?_))
   rw[kwr (by rw[ew,decide_eq_false hmd]; rfl)]
  rw[decide_eq_true hmd] at ew
  have F:=(Jb @hr' (Jb @hw @hmd))
  refine rn F ?_
  repeat' (first
   | with_reducible exact⟨⟩
   | refine vp F (d1) ?_
   | refine vp F (cm') ?_
   | (refine Qa5 (id:=17) [[],[0],[0,1],[0,1,2],[0,1,2,3],[0,1,2,3],[0,1,2,3,5],[0,1,2,3],[0,1,2,3,7],[0,1,2,3,4,5,6,7,8],[0,1,2,3],[0,1,2,3,10],[0,1,2,3,4,5,6,7,8,9,10,11],[0,1,2,3,4,5,6,7,8,9,10,11,12]] [0] [⟨[],[],1,[],[2,3,4,5,6,7,8,10,11]⟩,⟨[],[],9,[10,11],[12,13]⟩] (by kernel_rfl) (by kernel_rfl) (by kernel_rfl) ?_; refine rn F ?_))
  refine Qi (fun s:Okay r.i (lkX w r.i)=>⟨121,0,[(7,.int .i64 s.i),(6,.ptr 1 0),(5,.int .i64 r.i),(1,.ptr 0 0)],[⟨34,true,[.pv (.sl (fz Qaq l)),.pv (.sl (fz Qaq w))]⟩,⟨205,true,Gr.d (w.getD r.i Gr0)⟩]⟩) (fun s=>r.i-s.i) (Okay.start _ _) (gc [0,1]) ?_
  intro q
  have hq:=q.hi
  by_cases hqc:q.i<r.i
  ·have hqc':((q.i:Nat):Int) < r.i:=by omega
   have hqw:((q.i:Nat):Int)<w.length:=by omega
   have hx:=QaC w q.i (by omega)
   have F:=(Jb @hqc' (Jb @hqw @hx))
   refine rn F ?_
   repeat' (first
    | with_reducible exact⟨⟩
    | (refine sB F ?_ ?_<;>intro hZ)
    | (refine Qc (id:=22) [0,1,2,3,4,5,6,7,8] [] (by kernel_rfl) (by kernel_rfl) ?_; refine rn F ?_))
   all_goals first
    | exact⟨q.next hqc (by unfold lkX; rw[decide_eq_false (by assumption)]; rfl),q.dec hqc,(gc [0,1])⟩
    | (rw[kwr (by rw[ew,Qax hqc (by unfold lkX; rw[decide_eq_true (by assumption)]; rfl)]; rfl)])
  ·have hqc':¬ ((q.i:Nat):Int) < r.i:=by omega
   have F:=@hqc'
   refine rn F ?_
   exact⟨r.next hr (by rw[ew,q.all hqc]; rfl),r.dec hr,(gc [0])⟩
 have hc':((s.i:Nat):Int)<l.length:=by omega
 have hg:=QaC l s.i hc
 have hgp:=fun h:s.i-1<l.length=>QaC l (s.i-1) h
 have c1:=Qsw (l.getD s.i Gr0)
 have c2:=Qn7 (l.getD (s.i-1) Gr0) (l.getD s.i Gr0)
 have c3:=fun a=>Qgi a (l.getD s.i Gr0)
 have eh:lkH l s.i=(grB (l.getD s.i Gr0)&&((decide (s.i=0)||lessG (l.getD (s.i-1) Gr0) (l.getD s.i Gr0))&&lkC l s.i s.i)):=rfl
 have khs:=kh hc
 generalize hgr:grB (l.getD s.i Gr0)=gb at *
 cases gb
 ·skip
  have F:=(Jb @hc' @hg)
  refine rn F ?_
  repeat' (first
   | with_reducible exact⟨⟩
   | refine vp F (c1) ?_
   | (refine Qa5 (id:=6) [[],[0],[],[0,1,2],[0,1,2,3],[0,1,2,3,4],[0,1,2,3,4,5],[0,1,2,3,4,5,6],[0,1,2,3,4,5,6,7],[0,1,2,3,4,5,6,7,8],[0,1,2,3,4,5,6,7,8,9],[0,1,2,3,4,5,6,7,8,9,10],[0,1,2,3,4,5,6,7,8,9,10,11],[0,1,2,3,4,5,6,7,8,9,10],[0,1,2,3,4,5,6,7,8,9,10,13],[0,1,2,3,4,5,6,7,8,9,10,11,12,13,14],[0,1,2,3,4,5,6,7,8,9,10,11,12,13,14,15],[0,1,2,3,4,5,6,7,8,9,10],[0,1,2,3,4,5,6,7,8,9,10,17],[0,1,2,3,4,5,6,7,8,9,10],[0,1,2,3,4,5,6,7,8,9,10,17,18,19],[0,1,2,3,4,5,6,7,8,9,10,17,18,19,20],[0,1,2,3,4,5,6,7,8,9,10,11,12,13,14,15,16,17,18,19,20,21],[0,1,2,3,4,5,6,7,8,9,10,11,12,13,14,15,16,17,18,19,20,21,22],[0,1,2,3,4,5,6,7,8,9,10,11,12,13,14,15,16,17,18,19,20,21,22,23],[0,1,2,3,4,5,6,7,8,9,10,11,12,13,14,15,16,17,18,19,20,21,22,23,24]] [0,1,2,3,4] [⟨[],[],5,[],[6,7,8,9,10,11,12,13,14,15,16,17,18,19,20,21]⟩,⟨[],[],22,[],[23,24,25]⟩] (by kernel_rfl) (by kernel_rfl) (by kernel_rfl) ?_; refine rn F ?_))
  rw[khs (by rw[eh]; rfl)]
 have tail:(decide (s.i=0)||lessG (l.getD (s.i-1) Gr0) (l.getD s.i Gr0))=true->lkH l s.i=lkC l s.i s.i:=fun h=>by rw[eh,h]; rfl
 by_cases hz:s.i=0
 rotate_left
 have hz':(0:Int)<s.i:=by omega
 have hcp:((s.i:Nat):Int)-1<l.length:=by omega
 have hgp':=hgp (by omega)
 generalize hls:lessG (l.getD (s.i-1) Gr0) (l.getD s.i Gr0)=lb at *
 cases lb
 ·skip
  have F:=(Jb @hc' (Jb @hg (Jb @hz' (Jb @hcp @hgp'))))
  refine rn F ?_
  repeat' (first
   | with_reducible exact⟨⟩
   | refine vp F (c1) ?_
   | refine vp F (c2) ?_
   | (refine Qa5 (id:=6) [[],[0],[],[0,1,2],[0,1,2,3],[0,1,2,3,4],[0,1,2,3,4,5],[0,1,2,3,4,5,6],[0,1,2,3,4,5,6,7],[0,1,2,3,4,5,6,7,8],[0,1,2,3,4,5,6,7,8,9],[0,1,2,3,4,5,6,7,8,9,10],[0,1,2,3,4,5,6,7,8,9,10,11],[0,1,2,3,4,5,6,7,8,9,10],[0,1,2,3,4,5,6,7,8,9,10,13],[0,1,2,3,4,5,6,7,8,9,10,11,12,13,14],[0,1,2,3,4,5,6,7,8,9,10,11,12,13,14,15],[0,1,2,3,4,5,6,7,8,9,10],[0,1,2,3,4,5,6,7,8,9,10,17],[0,1,2,3,4,5,6,7,8,9,10],[0,1,2,3,4,5,6,7,8,9,10,17,18,19],[0,1,2,3,4,5,6,7,8,9,10,17,18,19,20],[0,1,2,3,4,5,6,7,8,9,10,11,12,13,14,15,16,17,18,19,20,21],[0,1,2,3,4,5,6,7,8,9,10,11,12,13,14,15,16,17,18,19,20,21,22],[0,1,2,3,4,5,6,7,8,9,10,11,12,13,14,15,16,17,18,19,20,21,22,23],[0,1,2,3,4,5,6,7,8,9,10,11,12,13,14,15,16,17,18,19,20,21,22,23,24]] [0,1,2,3,4] [⟨[],[],5,[],[6,7,8,9,10,11,12,13,14,15,16,17,18,19,20,21]⟩,⟨[],[],22,[],[23,24,25]⟩] (by kernel_rfl) (by kernel_rfl) (by kernel_rfl) ?_; refine rn F ?_))
  rw[khs (by rw[eh,decide_eq_false hz]; rfl)]
 have htl:=tail (by simp)
 have F:=(Jb @hc' (Jb @hg (Jb @hz' (Jb @hcp @hgp'))))
 refine rn F ?_
 repeat' (first
  | with_reducible exact⟨⟩
  | refine vp F (c1) ?_
  | refine vp F (c2) ?_
  | (refine Qa5 (id:=6) [[],[0],[],[0,1,2],[0,1,2,3],[0,1,2,3,4],[0,1,2,3,4,5],[0,1,2,3,4,5,6],[0,1,2,3,4,5,6,7],[0,1,2,3,4,5,6,7,8],[0,1,2,3,4,5,6,7,8,9],[0,1,2,3,4,5,6,7,8,9,10],[0,1,2,3,4,5,6,7,8,9,10,11],[0,1,2,3,4,5,6,7,8,9,10],[0,1,2,3,4,5,6,7,8,9,10,13],[0,1,2,3,4,5,6,7,8,9,10,11,12,13,14],[0,1,2,3,4,5,6,7,8,9,10,11,12,13,14,15],[0,1,2,3,4,5,6,7,8,9,10],[0,1,2,3,4,5,6,7,8,9,10,17],[0,1,2,3,4,5,6,7,8,9,10],[0,1,2,3,4,5,6,7,8,9,10,17,18,19],[0,1,2,3,4,5,6,7,8,9,10,17,18,19,20],[0,1,2,3,4,5,6,7,8,9,10,11,12,13,14,15,16,17,18,19,20,21],[0,1,2,3,4,5,6,7,8,9,10,11,12,13,14,15,16,17,18,19,20,21,22],[0,1,2,3,4,5,6,7,8,9,10,11,12,13,14,15,16,17,18,19,20,21,22,23],[0,1,2,3,4,5,6,7,8,9,10,11,12,13,14,15,16,17,18,19,20,21,22,23,24]] [0,1,2,3,4] [⟨[],[],5,[],[6,7,8,9,10,11,12,13,14,15,16,17,18,19,20,21]⟩,⟨[],[],22,[],[23,24,25]⟩] (by kernel_rfl) (by kernel_rfl) (by kernel_rfl) ?_; refine rn F ?_))
 rotate_left
 have hz':¬ (0:Int)<s.i:=by omega
 have htl:=tail (by rw[decide_eq_true hz]; rfl)
 have F:=(Jb @hc' (Jb @hg @hz'))
 refine rn F ?_
 repeat' (first
  | with_reducible exact⟨⟩
  | refine vp F (c1) ?_
  | (refine Qa5 (id:=6) [[],[0],[],[0,1,2],[0,1,2,3],[0,1,2,3,4],[0,1,2,3,4,5],[0,1,2,3,4,5,6],[0,1,2,3,4,5,6,7],[0,1,2,3,4,5,6,7,8],[0,1,2,3,4,5,6,7,8,9],[0,1,2,3,4,5,6,7,8,9,10],[0,1,2,3,4,5,6,7,8,9,10,11],[0,1,2,3,4,5,6,7,8,9,10],[0,1,2,3,4,5,6,7,8,9,10,13],[0,1,2,3,4,5,6,7,8,9,10,11,12,13,14],[0,1,2,3,4,5,6,7,8,9,10,11,12,13,14,15],[0,1,2,3,4,5,6,7,8,9,10],[0,1,2,3,4,5,6,7,8,9,10,17],[0,1,2,3,4,5,6,7,8,9,10],[0,1,2,3,4,5,6,7,8,9,10,17,18,19],[0,1,2,3,4,5,6,7,8,9,10,17,18,19,20],[0,1,2,3,4,5,6,7,8,9,10,11,12,13,14,15,16,17,18,19,20,21],[0,1,2,3,4,5,6,7,8,9,10,11,12,13,14,15,16,17,18,19,20,21,22],[0,1,2,3,4,5,6,7,8,9,10,11,12,13,14,15,16,17,18,19,20,21,22,23],[0,1,2,3,4,5,6,7,8,9,10,11,12,13,14,15,16,17,18,19,20,21,22,23,24]] [0,1,2,3,4] [⟨[],[],5,[],[6,7,8,9,10,11,12,13,14,15,16,17,18,19,20,21]⟩,⟨[],[],22,[],[23,24,25]⟩] (by kernel_rfl) (by kernel_rfl) (by kernel_rfl) ?_; refine rn F ?_))
 all_goals
  refine Qi (fun r:{r:Nat // r<=s.i/\lkH l s.i=lkC l s.i r}=>⟨121,0,[(4,.int .i64 ((r.1:Int)-1)),(3,.int .i64 s.i),(1,.ptr 0 0)],[⟨34,true,[.pv (.sl (fz Qaq l)),.pv (.sl (fz Qaq w))]⟩]⟩) (fun r=>r.1) ⟨s.i,JH _,htl⟩ (gc [0]) ?_
  rintro⟨r,hr,hrl⟩
  dsimp only
  by_cases hr0:r=0
  ·have hr0':¬ (0:Int)<=(r:Int) - 1:=by omega
   subst hr0
   have F:=@hr0'
   refine rn F ?_
   repeat' (first
    | with_reducible exact⟨⟩
    | (refine Qc (id:=9) [0,1,2,3,4,5,6,7,8,9,10,11,12,13,14,15,16] [] (by kernel_rfl) (by kernel_rfl) ?_; refine rn F ?_))
   exact⟨s.next hc hrl,s.dec hc,(gc [0])⟩
  obtain⟨m,rfl⟩:∃ m,r=m+1:=⟨r-1,by omega⟩
  have e1:((m+1:Nat):Int)-1=m:=by omega
  rw[e1]
  have hm0:(0:Int)<=(m:Int):=by omega
  have hml:(m:Int)<l.length:=by omega
  have hx:=QaC l m (by omega)
  have c4:=c3 (l.getD m Gr0)
  have el:lkC l s.i (m+1)=if (l.getD m Gr0).pg=(l.getD s.i Gr0).pg/\(l.getD m Gr0).sl=(l.getD s.i Gr0).sl then !QuI (l.getD m Gr0) (l.getD s.i Gr0)&&lkC l s.i m else true:=rfl
  by_cases hsame:(l.getD m Gr0).pg=(l.getD s.i Gr0).pg/\(l.getD m Gr0).sl=(l.getD s.i Gr0).sl
  ·rw [if_pos hsame] at el
   obtain⟨s1,s2⟩:=hsame
   generalize hcf:QuI (l.getD m Gr0) (l.getD s.i Gr0)=cf at *
   cases cf
   ·skip
    have F:=(Jb @hc' (Jb @hg (Jb @hm0 (Jb @hml (Jb @hx (Jb @s1 (Jb @s2 @QfU)))))))
    refine rn F ?_
    repeat' (first
     | with_reducible exact⟨⟩
     | refine vl F (c4) ?_
     | (refine Qc (id:=9) [0,1,2,3,4,5,6,7,8,9,10,11,12,13,14,15,16] [] (by kernel_rfl) (by kernel_rfl) ?_; refine rn F ?_)
     | (refine Qc (id:=11) [0,1,2,3,4,5,6,7,8,9] [⟨[],[],10,[0,1,2,3,5,6,7,8],[]⟩] (by kernel_rfl) (by kernel_rfl) ?_; refine rn F ?_))
    all_goals first
     | exact⟨⟨m,by omega,hrl.trans el⟩,by dsimp only; omega,(gc [0])⟩
     | exact⟨⟨m,by omega,hrl.trans el⟩,(gc [0])⟩
   ·skip
    have F:=(Jb @hc' (Jb @hg (Jb @hm0 (Jb @hml (Jb @hx (Jb @s1 (Jb @s2 @QfU)))))))
    refine rn F ?_
    repeat' (first
     | with_reducible exact⟨⟩
     | refine vl F (c4) ?_
     | (refine Qc (id:=9) [0,1,2,3,4,5,6,7,8,9,10,11,12,13,14,15,16] [] (by kernel_rfl) (by kernel_rfl) ?_; refine rn F ?_)
     | (refine Qc (id:=11) [0,1,2,3,4,5,6,7,8,9] [⟨[],[],10,[0,1,2,3,5,6,7,8],[]⟩] (by kernel_rfl) (by kernel_rfl) ?_; refine rn F ?_))
    rw[khs (hrl.trans el)]
  ·rw [if_neg hsame] at el
   have F:=(Jb @hc' (Jb @hg (Jb @hm0 (Jb @hml (Jb @hx @QfU)))))
   refine rn F ?_
   repeat' (first
    | with_reducible exact⟨⟩
    | (refine sB F ?_ ?_<;>intro hZ)
    | refine vp F (c4) ?_
    | (refine Qc (id:=9) [0,1,2,3,4,5,6,7,8,9,10,11,12,13,14,15,16] [] (by kernel_rfl) (by kernel_rfl) ?_; refine rn F ?_)
    | (refine Qc (id:=11) [0,1,2,3,4,5,6,7,8,9] [⟨[],[],10,[0,1,2,3,5,6,7,8],[]⟩] (by kernel_rfl) (by kernel_rfl) ?_; refine rn F ?_))
   all_goals first
    | exact⟨s.next hc (hrl.trans el),s.dec hc,(gc [0])⟩
    | (exfalso; omega)
    | (exfalso; exact hsame ⟨by assumption,by assumption⟩)
    | (exfalso; simp_all; done)
    | skip
def QbE(t:Lk)(hs:t.sum<=100000):VCalls prog 156 [.agg t.d] [] (QG (fun b:Bool=>.bool b) fun b=>b=true->t.sum<=1024):=
 (QiF t hs).toS (lkB t) rfl fun h=>by
  rcases JY 1024 t.sum with h1 | h1
  ·rw[QDI (by omega)] at h; cases h
  ·exact h1
def Qds(t:Lk)(hs:t.sum<=5000)(tx:Int):VCalls prog 129 [.agg t.d,.int .i64 tx] [] (QG (fun a:Gr×Bool=>.tup [.agg a.1.d,.bool a.2]) fun _=>True):=by
 refine dd Tryz.func129 ?_
 have c1:=QbE t (by omega)
 unfold Lk.sum at *
 obtain⟨l,w⟩:=t
 dsimp only at hs c1 |-
 (unfold Tryz.f129; refine rn trivial ?_)
 refine rn F ?_
 repeat' (first
  | with_reducible exact⟨⟩
  | (refine sB F ?_ ?_<;>intro hZ)
  | (refine Qo (c1) rfl ?_; rintro b hb; refine rn F ?_))
 all_goals first
  | exact⟨rfl,rfl,(Gr0,false),rfl,trivial⟩
  | skip
 refine Qi (fun s:To w.length=>⟨30,0,[(6,.int .i64 s.i),(4,.ptr 1 0),(2,.ptr 0 0),(1,.int .i64 tx)],[⟨34,true,[.pv (.sl (fz Qaq l)),.pv (.sl (fz Qaq w))]⟩,⟨205,true,[.int .i64 0,.int .i64 0,.int .i64 0,.int .i64 0]⟩]⟩) (fun s=>w.length-s.i) ⟨0,Jy _⟩ (gc [0,1]) ?_
 rintro⟨i,hi⟩
 dsimp only
 have hg:=fun h:i<w.length=>QaC w i h
 have F:=@hg
 refine rn F ?_
 repeat' (first
  | with_reducible exact⟨⟩
  | (refine sB F ?_ ?_<;>intro hZ))
 all_goals first
  | exact⟨⟨i+1,by omega⟩,by dsimp only; omega,(gc [0,1])⟩
  | exact⟨rfl,rfl,(Gr0,false),rfl,trivial⟩
  | exact⟨rfl,rfl,(w.getD i Gr0,true),rfl,trivial⟩
  | skip
def Qdu(t:Lk)(hs:t.sum<=5000)(tx:Int):VCalls prog 121 [.agg t.d,.int .i64 tx] [] (QG (fun u:Lk=>.agg u.d) fun u=>u.sum<=t.sum):=by
 refine dd Tryz.func121 ?_
 have c1:=QbE t (by omega)
 have c4:=Qet
 unfold Lk.sum at *
 obtain⟨l,w⟩:=t
 dsimp only at hs c1 |-
 have c2:=fun a=>QjE l (by omega) a
 have c3:=fun a=>QjE w (by omega) a
 (unfold Tryz.f121; refine rn trivial ?_)
 refine rn F ?_
 repeat' (first
  | with_reducible exact⟨⟩
  | (refine sB F ?_ ?_<;>intro hZ)
  | (refine Qo (c1) rfl ?_; rintro b hb; refine rn F ?_)
  | (refine Qo (c2 _ _ _ _) rfl ?_; rintro m1 hm1; refine rn F ?_)
  | (refine Qo (c3 _ _ _ _) rfl ?_; rintro m2 hm2; refine rn F ?_)
  | (refine Qo (c4 ⟨_,_⟩ (by dsimp only; omega)) rfl ?_; rintro u hu; refine rn F ?_)
  | (refine Qc (id:=3) [0,1,2,3,5,6,7,8] [⟨[],[],4,[0,5,6,7,8],[]⟩,⟨[],[],9,[0,1,2,3,5],[10]⟩,⟨[],[],11,[0,1,2,3,5,6,7,8],[]⟩,⟨[],[],12,[],[]⟩] (by kernel_rfl) (by kernel_rfl) ?_; refine rn F ?_))
 all_goals first
  | exact⟨rfl,rfl,⟨l,w⟩,rfl,JH _⟩
  | (exact⟨rfl,rfl,u,rfl,by dsimp only at hu; omega⟩)
  | skip
def QsQ(t:Lk)(hs:t.sum<=5000)(tx:Int):VCalls prog 217 [.agg t.d,.int .i64 tx] [] (QG (fun u:Lk=>.agg u.d) fun u=>u.sum<=t.sum):=by
 refine dd Tryz.func217 ?_
 have c1:=QbE t (by omega)
 have c4:=Qet
 unfold Lk.sum at *
 obtain⟨l,w⟩:=t
 dsimp only at hs c1 |-
 have c3:=fun a=>QjE w (by omega) a
 (unfold Tryz.f217; refine rn trivial ?_)
 refine rn F ?_
 repeat' (first
  | with_reducible exact⟨⟩
  | (refine sB F ?_ ?_<;>intro hZ)
  | (refine Qo (c1) rfl ?_; rintro b hb; refine rn F ?_)
  | (refine Qo (c3 _ _ _ _) rfl ?_; rintro m2 hm2; refine rn F ?_)
  | (refine Qo (c4 ⟨_,_⟩ (by dsimp only; omega)) rfl ?_; rintro u hu; refine rn F ?_)
  | (refine Qc (id:=3) [0,1,2,3,4,5] [⟨[],[],6,[0,1,2],[7]⟩,⟨[],[],8,[0,1,2,3,4,5],[]⟩,⟨[],[],9,[],[]⟩] (by kernel_rfl) (by kernel_rfl) ?_; refine rn F ?_))
 all_goals first
  | exact⟨rfl,rfl,⟨l,w⟩,rfl,JH _⟩
  | (exact⟨rfl,rfl,u,rfl,by dsimp only at hu; omega⟩)
  | skip
def QsI(t:Lk)(hs:t.sum<=5000)(tx pg sl:Int):VCalls prog 170 [.agg t.d,.int .i64 tx,.agg [.int .i64 pg,.int .i64 sl]] [] (QG (fun u:Lk=>.agg u.d) fun u=>u.sum<=t.sum):=by
 refine dd Tryz.func170 ?_
 have c1:=QbE t (by omega)
 have c4:=Qet
 unfold Lk.sum at *
 obtain⟨l,w⟩:=t
 dsimp only at hs c1 |-
 have c2:=fun a=>QjE l (by omega) a
 (unfold Tryz.f170; refine rn trivial ?_)
 refine rn F ?_
 repeat' (first
  | with_reducible exact⟨⟩
  | (refine sB F ?_ ?_<;>intro hZ)
  | (refine Qo (c1) rfl ?_; rintro b hb; refine rn F ?_)
  | (refine Qo (c2 _ _ _ _) rfl ?_; rintro m1 hm1; refine rn F ?_)
  | (refine Qo (c4 ⟨_,_⟩ (by dsimp only; omega)) rfl ?_; rintro u hu; refine rn F ?_)
  | (refine Qc (id:=3) [0,1,2,3,5,6] [⟨[],[],4,[0,5,6],[7]⟩,⟨[],[],8,[0,1,2,3,5,6],[]⟩,⟨[],[],9,[],[]⟩] (by kernel_rfl) (by kernel_rfl) ?_; refine rn F ?_))
 all_goals first
  | exact⟨rfl,rfl,⟨l,w⟩,rfl,JH _⟩
  | (exact⟨rfl,rfl,u,rfl,by dsimp only at hu; omega⟩)
  | skip
def QGa(a:Lk×Bool×Int):DV:=.tup [.agg a.1.d,.bool a.2.1,.int .i64 a.2.2]
def Lk0:Lk:=⟨[],[]⟩
def Qu9(a b c d a' b' c' d':Int):QI [.pv (.lit (.int .i64 a)),.pv (.lit (.int .i64 b)),.pv (.lit (.int .i64 c)),.pv (.lit (.int .i64 d))] [.pv (.lit (.int .i64 a')),.pv (.lit (.int .i64 b')),.pv (.lit (.int .i64 c')),.pv (.lit (.int .i64 d'))] [(0,1),(1,1),(2,1),(3,1)]=some (decide (a=a')&&decide (b=b')&&decide (c=c')&&decide (d=d')):=by simp[QI,Q7,JT,Ko]
def QpB(t:Lk)(hs:t.sum<=4000)(g:Gr):VCalls prog 178 [.agg t.d,.agg g.d] [] (QG QGa fun a=>a.1.sum<=1024):=by
 refine dk Tryz.func178 ?_
 have c1:=QbE t (by omega)
 have c2:=Qsw g
 have c3:=Qds t (by omega) g.tx
 have c4:=Qet
 have c5:=Qws t (by omega) g
 have c6:=fun(u:Lk) (h:u.held.length<=1000000)=>QmY u h
 unfold Lk.sum at *
 obtain⟨l,w⟩:=t
 dsimp only at hs c1 c5 |-
 generalize QyR=M at *
 (unfold Tryz.f178; refine rn trivial ?_)
 have F:=@Qu9
 refine rn F ?_
 repeat' (first
  | with_reducible exact⟨⟩
  | (refine sG F ?_ ?_<;>intro hZ)
  | (refine sB F ?_ ?_<;>intro hZ)
  | (refine Qo (c1) rfl ?_; rintro b hb; refine rn F ?_)
  | refine vp F (c2) ?_
  | (refine Qo (c3) rfl ?_; rintro⟨g0,b0⟩ -; refine rn F ?_)
  | (refine vp F (c6 ⟨_,_⟩ (by first | (dsimp only; omega) | (dsimp only at hu |-; simp only[Ja,Jl,Jz,Je,Jc] at hu; omega)) _ _ _) ?_)
  | (refine Qo (c5) rfl ?_; rintro n hn; refine rn F ?_)
  | (refine Qjs [7] _ _ (c4 ⟨l,w.take n++[⟨g.tx,g.pg,g.sl,g.md⟩]++w.drop n⟩ (by dsimp only; simp only[Ja,Jl,Jz,Je,Jc]; omega)) rfl ⟨⟨by simp,Qs _ _ _⟩,trivial⟩ (by decide) rfl (by simp[DV.nums.go,DV.nums]) ?_ ?_; (focus (refine rd F)); rintro⟨ul,uw⟩ hu; refine rn F ?_)
  | (refine Qc (id:=10) [0,1,2,3,4,6,7] [⟨[],[],5,[1,3,6,7],[8]⟩] (by kernel_rfl) (by kernel_rfl) ?_; refine rn F ?_)
  | (refine Qc (id:=15) [0,1,2,3,5,8,9,10,11] [⟨[6],[],4,[0,1,2,5,8,9,10,11],[]⟩,⟨[6],[6],7,[0,1,2,3,5,8,9,10,11],[]⟩,⟨[],[],12,[0,1,2,3,5,8,9,10],[13]⟩,⟨[],[],14,[],[]⟩] (by kernel_rfl) (by kernel_rfl) ?_; refine rn F ?_)
  | (refine Qc (id:=17) [0,1,2,3,4,5,7,8] [⟨[],[],6,[0,2,4,7,8],[9]⟩,⟨[],[],10,[1,2,3,4,5,7,8,9],[]⟩,⟨[],[],11,[],[]⟩,⟨[],[],12,[],[]⟩] (by kernel_rfl) (by kernel_rfl) ?_; refine rn F ?_))
 all_goals first
  | exact⟨rfl,rfl,(⟨ul,uw⟩,_,_),rfl,by have:=hb (by first | assumption | rfl); dsimp only[Ja] at hu |-; simp only[Ja,Jl,Jz,Je,Jc] at hu; omega⟩
  | exact⟨rfl,rfl,(Lk0,false,_),rfl,by simp[Lk0]⟩
  | exact⟨rfl,rfl,(⟨l,w⟩,_,_),rfl,hb (by first | assumption | rfl)⟩
  | skip
attribute [go_sem] QE5 QEX QEW Qme
@[go_sem] def ilD(l:List Int):DV:=.pv (.sl (fz QW l))
def QmT(l:List Int)(hl:l.length<=100000)(n:Int):VCalls prog 183 [.pv (.sl (fz QW l)),.int .i64 n] [] (QG ilD fun m=>m.length<=l.length+1):=by
 refine dd Tryz.func183 ?_
 (unfold Tryz.f183; refine rn trivial ?_)
 refine VLoop.nilOwn 5 3 1 rfl ?_
 refine rn trivial ?_
 refine Qi (fun s:{s:Nat×List Int×Bool // s.1<=l.length/\s.2.1.length<=s.1+1/\(s.2.2=false->s.2.1.length<=s.1)}=>⟨48,0,[(7,.int .i64 s.1.1),(6,.bool s.1.2.2),(5,.own 0 1 0 s.1.2.1.length),(1,.int .i64 n),(0,.pv (.sl (fz QW l)))],[⟨3,true,cells QW s.1.2.1⟩]⟩) (fun s=>l.length-s.1.1) ⟨(0,[],false),by simp⟩ (gc [0]) ?_
 rintro⟨⟨i,out,dn⟩,hi,ho,hd⟩
 dsimp only at hi ho hd |-
 have hg:=fun h:i<l.length=>QY l i h
 have hb:(out.length+1)*8<=140737488355328:=JR (JB 8 (show out.length+1<=100003 by omega)) (by decide)
 have hb2:(out.length+1+1)*8<=140737488355328:=JR (JB 8 (show out.length+1+1<=100003 by omega)) (by decide)
 cases dn
 all_goals
  simp only[forall_const,reduceCtorEq,false_implies] at hd
  have F:=(Jb @hg (Jb @hb @hb2))
  refine rn F ?_
  repeat' (first
   | with_reducible exact⟨⟩
   | (refine sB F ?_ ?_<;>intro hZ))
 all_goals first
  | exact⟨rfl,rfl,out,rfl,by omega⟩
  | exact⟨rfl,rfl,out++[n],rfl,by simp; omega⟩
  | exact⟨⟨(i+1,out,false),by dsimp only; omega,by dsimp only; (try rw[Jc]); omega,by dsimp only; (try rw[Jc]); first | omega | (intro h; omega) | (intro h; cases h)⟩,by dsimp only; omega,by dsimp only; (try rw[Jc]); exact(gc [0])⟩
  | exact⟨⟨(i+1,out++[l.getD i 0],false),by dsimp only; omega,by dsimp only; (try rw[Ja,Je,Jc]); omega,by dsimp only; (try rw[Ja,Je,Jc]); first | omega | (intro h; omega) | (intro h; cases h)⟩,by dsimp only; omega,by dsimp only; (try rw[Ja,Je,Jc]); exact(gc [2])⟩
  | exact⟨⟨(i+1,out,true),by dsimp only; omega,by dsimp only; (try rw[Jc]); omega,by dsimp only; (try rw[Jc]); first | omega | (intro h; omega) | (intro h; cases h)⟩,by dsimp only; omega,by dsimp only; (try rw[Jc]); exact(gc [0])⟩
  | exact⟨⟨(i+1,out++[l.getD i 0],true),by dsimp only; omega,by dsimp only; (try rw[Ja,Je,Jc]); omega,by dsimp only; (try rw[Ja,Je,Jc]); first | omega | (intro h; omega) | (intro h; cases h)⟩,by dsimp only; omega,by dsimp only; (try rw[Ja,Je,Jc]); exact(gc [2])⟩
  | exact⟨⟨(i+1,out++[n],true),by dsimp only; omega,by dsimp only; (try rw[Ja,Je,Jc]); omega,by dsimp only; (try rw[Ja,Je,Jc]); first | omega | (intro h; omega) | (intro h; cases h)⟩,by dsimp only; omega,by dsimp only; (try rw[Ja,Je,Jc]); exact(gc [2])⟩
  | exact⟨⟨(i+1,out++[n]++[l.getD i 0],true),by dsimp only; omega,by dsimp only; (try rw[Ja,Ja,Je,Jc,Je,Jc]); omega,by dsimp only; (try rw[Ja,Ja,Je,Jc,Je,Jc]); first | omega | (intro h; omega) | (intro h; cases h)⟩,by dsimp only; omega,by dsimp only; (try rw[Ja,Ja,Je,Jc,Je,Jc]); exact(gc [4])⟩
  | skip
def Qpy(t:Lk)(hs:t.sum<=5000):VCalls prog 222 [.agg t.d] [] (QG ilD fun m=>m.length<=t.sum):=by
 refine dk Tryz.func222 ?_
 have c1:=QbE t (by omega)
 unfold Lk.sum at *
 obtain⟨l,w⟩:=t
 dsimp only at hs c1 |-
 (unfold Tryz.f222; refine rn trivial ?_)
 refine rn F ?_
 repeat' (first
  | with_reducible exact⟨⟩
  | (refine sB F ?_ ?_<;>intro hZ)
  | (refine Qo (c1) rfl ?_; rintro b -; refine rn F ?_))
 all_goals first
  | exact⟨rfl,rfl,[],rfl,by simp⟩
  | skip
 refine VLoop.wkS ?_
 refine rn trivial ?_
 refine Qi (fun s:{s:Nat×List Int // s.1<=w.length/\s.2.length<=s.1}=>⟨23,0,[(4,.int .i64 s.1.1),(3,.pv (.sl (fz QW s.1.2))),(1,.ptr 0 0)],[⟨34,true,[.pv (.sl (fz Qaq l)),.pv (.sl (fz Qaq w))]⟩]⟩) (fun s=>w.length-s.1.1) ⟨(0,[]),by simp⟩ (gc [0]) ?_
 rintro⟨⟨i,out⟩,hi,ho⟩
 dsimp only at hi ho |-
 have hg:=fun h:i<w.length=>QaC w i h
 have c2:=QmT out (by omega)
 have F:=@hg
 refine rn F ?_
 repeat' (first
  | with_reducible exact⟨⟩
  | (refine sB F ?_ ?_<;>intro hZ)
  | (refine Qo (c2 _) rfl ?_; rintro m hm; refine rn F ?_))
 all_goals first
  | exact⟨⟨(i+1,m),by dsimp only; omega,by dsimp only; omega⟩,by dsimp only; omega,(gc [0])⟩
  | exact⟨rfl,rfl,out,rfl,by omega⟩
  | skip
def Qob(t:Lk)(hs:t.sum<=5000)(tx:Int):VCalls prog 130 [.agg t.d,.int .i64 tx] [] (QG ilD fun m=>m.length<=t.sum):=by
 refine dk Tryz.func130 ?_
 have c1:=Qds t (by omega) tx
 unfold Lk.sum at *
 obtain⟨l,w⟩:=t
 dsimp only at hs c1 |-
 (unfold Tryz.f130; refine rn trivial ?_)
 refine rn F ?_
 repeat' (first
  | with_reducible exact⟨⟩
  | (refine sB F ?_ ?_<;>intro hZ)
  | (refine Qo (c1) rfl ?_; rintro⟨g,b⟩ -; refine rn F ?_))
 all_goals first
  | exact⟨rfl,rfl,[],rfl,by simp⟩
  | skip
 refine VLoop.wkS ?_
 refine rn trivial ?_
 refine Qi (fun s:{s:Nat×List Int // s.1<=l.length/\s.2.length<=s.1}=>⟨73,0,[(8,.int .i64 s.1.1),(7,.pv (.sl (fz QW s.1.2))),(5,.ptr 1 0),(2,.ptr 0 0),(1,.int .i64 tx)],[⟨34,true,[.pv (.sl (fz Qaq l)),.pv (.sl (fz Qaq w))]⟩,⟨205,true,g.d⟩]⟩) (fun s=>l.length-s.1.1) ⟨(0,[]),by simp⟩ (gc [0,1]) ?_
 rintro⟨⟨i,out⟩,hi,ho⟩
 dsimp only at hi ho |-
 have hg:=fun h:i<l.length=>QaC l i h
 have c2:=QmT out (by omega)
 have c3:=Qgi (l.getD i Gr0) g
 have F:=@hg
 refine rn F ?_
 repeat' (first
  | with_reducible exact⟨⟩
  | (refine sB F ?_ ?_<;>intro hZ)
  | refine vp F (c3) ?_
  | (refine Qo (c2 _) rfl ?_; rintro m hm; refine rn F ?_)
  | (refine Qc (id:=8) [0,1,2,3,4,5] [⟨[],[],6,[0,1,2,3],[]⟩] (by kernel_rfl) (by kernel_rfl) ?_; refine rn F ?_))
 all_goals first
  | exact⟨⟨(i+1,m),by dsimp only; omega,by dsimp only; omega⟩,by dsimp only; omega,(gc [0,1])⟩
  | exact⟨⟨(i+1,out),by dsimp only; omega,by dsimp only; omega⟩,by dsimp only; omega,(gc [0,1])⟩
  | skip
 clear c2 c3 hg
 refine Qi (fun s:{s:Nat×List Int // s.1<=w.length/\s.2.length<=l.length+s.1}=>⟨73,0,[(9,.int .i64 s.1.1),(7,.pv (.sl (fz QW s.1.2))),(5,.ptr 1 0),(2,.ptr 0 0),(1,.int .i64 tx)],[⟨34,true,[.pv (.sl (fz Qaq l)),.pv (.sl (fz Qaq w))]⟩,⟨205,true,g.d⟩]⟩) (fun s=>w.length-s.1.1) ⟨(0,out),by dsimp only; omega⟩ (gc [0,1]) ?_
 rintro⟨⟨j,o2⟩,hj,ho2⟩
 dsimp only at hj ho2 |-
 have hg:=fun h:j<w.length=>QaC w j h
 have c2:=QmT o2 (by omega)
 have c3:=Qgi (w.getD j Gr0) g
 have F:=@hg
 refine rn F ?_
 repeat' (first
  | with_reducible exact⟨⟩
  | (refine sG F ?_ ?_<;>intro hZ)
  | (refine sB F ?_ ?_<;>intro hZ)
  | refine vp F (c3) ?_
  | (refine Qo (c2 _) rfl ?_; rintro m hm; refine rn F ?_)
  | (refine Qc (id:=13) [0,1,2,3,4,5] [⟨[],[],6,[0,1,2,3],[]⟩] (by kernel_rfl) (by kernel_rfl) ?_; refine rn F ?_))
 all_goals first
  | exact⟨⟨(j+1,m),by dsimp only; omega,by dsimp only; omega⟩,by dsimp only; omega,(gc [0,1])⟩
  | exact⟨⟨(j+1,o2),by dsimp only; omega,by dsimp only; omega⟩,by dsimp only; omega,(gc [0,1])⟩
  | exact⟨rfl,rfl,o2,rfl,by omega⟩
  | skip
def QwJ(l:List Int):VCalls prog 224 [.pv (.sl (fz QW l))] [] (QG (fun n:Int=>.int .i64 n) fun _=>True):=by
 refine dd Tryz.func224 ?_
 have hg:=fun h:0<l.length=>QY l 0 h
 (unfold Tryz.f224; refine rn trivial ?_)
 have F:=@hg
 refine rn F ?_
 repeat' (first
  | with_reducible exact⟨⟩
  | (refine sB F ?_ ?_<;>intro hZ))
 all_goals first
  | exact⟨rfl,rfl,_,rfl,trivial⟩
  | skip
def QsO (t:Lk) (hs:t.sum<=5000) (n:Nat) (hn:n<=5000):∀ (k:Nat) (way:List Int),0 < way.length->way.length + k = n->VCalls prog 223 [.agg t.d,.pv (.sl (fz QW way)),.int .i64 n] [] (QG ilD fun m=>m.length<=5000):=by
 intro k
 induction k with
 | zero =>
   intro way h0 hk
   refine dk Tryz.func223 ?_
   have c1:=Qob t hs
   have hg:=QY way (way.length-1) (by omega)
   have hg0:=QY way 0 h0
   obtain rfl:n=way.length:=by omega
   (unfold Tryz.f223; refine rn trivial ?_)
   have F:=@hg
   refine rn F ?_
   repeat' (first
    | with_reducible exact⟨⟩
    | (refine Qo (c1 _) rfl ?_; rintro m hm; refine rn F ?_)
    | (refine Qc (id:=1) [0,1,2,3,4,5,6] [⟨[],[],7,[1,2,3,4,5],[]⟩,⟨[],[],8,[],[]⟩] (by kernel_rfl) (by kernel_rfl) ?_; refine rn F ?_))
   refine Qi (fun s:To m.length=>⟨74,0,[(30,.int .i64 s.i),(29,.int .i64 m.length),(28,.pv (.sl (fz QW m))),(1,.pv (.sl (fz QW way)))],[]⟩) (fun s=>m.length-s.i) ⟨0,Jy _⟩ (gc []) ?_
   rintro⟨i,hi⟩
   dsimp only
   have hx:=fun h:i<m.length=>QY m i h
   have F:=(Jb @hx @hg0)
   refine rn F ?_
   repeat' (first
    | with_reducible exact⟨⟩
    | (refine sB F ?_ ?_<;>intro hZ))
   all_goals first
    | exact⟨⟨i+1,by omega⟩,by dsimp only; omega,(gc [])⟩
    | exact⟨rfl,rfl,way,rfl,by omega⟩
    | exact⟨rfl,rfl,[],rfl,by simp⟩
    | skip
 | succ k ih =>
   intro way h0 hk
   refine dk Tryz.func223 ?_
   have c1:=Qob t hs
   have hg:=QY way (way.length-1) (by omega)
   obtain rfl:n=way.length+(k+1):=by omega
   have hne:¬ (way.length:Int)=((way.length+(k+1):Nat):Int):=by omega
   (unfold Tryz.f223; refine rn trivial ?_)
   have F:=(Jb @hg @hne)
   refine rn F ?_
   repeat' (first
    | with_reducible exact⟨⟩
    | (refine Qo (c1 _) rfl ?_; rintro m hm; refine rn F ?_)
    | (refine Qc (id:=1) [0,1,2,3,4,5,6] [⟨[],[],7,[1,2,3,4,5],[]⟩,⟨[],[],8,[],[]⟩] (by kernel_rfl) (by kernel_rfl) ?_; refine rn F ?_))
   refine Qi (fun s:To m.length=>⟨74,0,[(43,.int .i64 s.i),(42,.int .i64 m.length),(41,.pv (.sl (fz QW m))),(3,.ptr 0 0),(2,.int .i64 (way.length+(k+1):Nat)),(1,.pv (.sl (fz QW way)))],[⟨34,true,t.d⟩]⟩) (fun s=>m.length-s.i) ⟨0,Jy _⟩ (gc [0]) ?_
   rintro⟨i,hi⟩
   dsimp only
   have hx:=fun h:i<m.length=>QY m i h
   have F:=@hx
   refine rn F ?_
   repeat' (first
    | with_reducible exact⟨⟩
    | (refine sB F ?_ ?_<;>intro hZ))
   rotate_left
   ·exact⟨rfl,rfl,[],rfl,by simp⟩
   generalize hv:m.getD i 0=v at *
   refine Qi (fun s:{s:Nat×Bool // s.1<=way.length}=>⟨74,0,[(49,.int .i64 s.1.1),(48,.int .i64 way.length),(47,.pv (.sl (fz QW way))),(43,.int .i64 i),(42,.int .i64 m.length),(41,.pv (.sl (fz QW m))),(12,.bool s.1.2),(11,.int .i64 v),(3,.ptr 0 0),(2,.int .i64 (way.length+(k+1):Nat)),(1,.pv (.sl (fz QW way)))],[⟨34,true,t.d⟩]⟩) (fun s=>way.length-s.1.1) ⟨(0,false),Jy _⟩ (gc [0]) ?_
   rintro⟨⟨j,sn⟩,hj⟩
   dsimp only at hj |-
   have hy:=fun h:j<way.length=>QY way j h
   have hb:(way.length+1)*8<=140737488355328:=JR (JB 8 (show way.length+1<=100003 by omega)) (by decide)
   have hb2:way.length*8<=140737488355328:=JR (JB 8 (show way.length<=100003 by omega)) (by decide)
   have ih2:=ih (way++[v]) (by simp) (by simp; omega)
   have F:=(Jb @hy (Jb @hb @hb2))
   refine rn F ?_
   repeat' (first
    | with_reducible exact⟨⟩
    | (refine sG F ?_ ?_<;>intro hZ)
    | (refine sB F ?_ ?_<;>intro hZ)
    | (refine Qjs [3] _ _ (ih2) rfl ⟨⟨by simp,Qs _ _ _⟩,trivial⟩ (by decide) rfl (by simp[DV.nums.go,DV.nums]) ?_ ?_; (focus (refine rd F)); rintro m2 hm2; refine rn F ?_)
    | (refine Qc (id:=20) [0,1,3,6] [⟨[4],[],2,[0,3,6],[]⟩,⟨[4],[4],5,[0,1,3,6],[]⟩,⟨[],[],7,[1,3],[]⟩,⟨[],[],8,[],[]⟩] (by kernel_rfl) (by kernel_rfl) ?_; refine rn F ?_))
   all_goals first
    | exact⟨⟨(j+1,v==way.getD j 0),by dsimp only; omega⟩,by dsimp only; omega,(gc [0])⟩
    | exact⟨⟨(j+1,true),by dsimp only; omega⟩,by dsimp only; omega,(gc [0])⟩
    | exact⟨⟨i+1,by omega⟩,by dsimp only; omega,(gc [0])⟩
    | exact⟨rfl,rfl,m2,rfl,hm2⟩
    | skip
def QwN(t:Lk)(hs:t.sum<=5000)(tx:Int):VCalls prog 180 [.agg t.d,.int .i64 tx] [] (QG ilD fun m=>m.length<=5000):=by
 refine dk Tryz.func180 ?_
 have c1:=Qpy t hs
 (unfold Tryz.f180; refine rn trivial ?_)
 refine Qi (fun s:{s:Nat // 1<=s/\s<=t.sum+1}=>⟨23,0,[(5,.int .i64 s.1),(2,.ptr 0 0),(1,.int .i64 tx)],[⟨34,true,t.d⟩]⟩) (fun s=>t.sum+1-s.1) ⟨1,by omega⟩ (gc [0]) ?_
 rintro⟨i,hi⟩
 dsimp only
 have c2:=fun(h:i<=5000)=>QsO t hs i h (i-1) [tx] (by simp) (by simp; omega)
 refine rn F ?_
 repeat' (first
  | with_reducible exact⟨⟩
  | (refine sB F ?_ ?_<;>intro hZ)
  | (refine Qo (c1) rfl ?_; rintro m hm; refine rn F ?_))
 ·rw [show ([.pv (.lit (.int .i64 tx))]:List DV) = cells QW [tx] from rfl]
  refine Qjs [1] _ _ (c2 (by omega)) rfl ⟨⟨by simp,Qs _ _ _⟩,trivial⟩ (by decide) rfl (by simp[DV.nums.go,DV.nums]) ?_ ?_
  ·(refine rn trivial ?_; try with_reducible exact⟨⟩)
  intro m2 hm2
  refine rn F ?_
  repeat' (first
   | with_reducible exact⟨⟩
   | (refine sB F ?_ ?_<;>intro hZ))
  ·exact⟨rfl,rfl,m2,rfl,hm2⟩
  ·exact⟨⟨i+1,by omega⟩,by dsimp only; omega,(gc [0])⟩
 ·exact⟨rfl,rfl,[],rfl,by simp⟩
section
attribute [local go_sem] Qba
def Pg.numB(p:Pg):Bool:=decide (0<=p.id)&&decide (p.id<64)&&decide (0<=p.lsn)&&decide (p.lsn<=1099511627776)
def Pg.celC(p:Pg)(i:Nat):Bool:=(p.cel i).okB&&!(decide (p.lsn=0)&&(p.cel i).set)
def Pg.celB(p:Pg):Bool:=(Jq 16).all p.celC
def Pg.okB(p:Pg):Bool:=p.numB&&p.celB
def QaS(p:Pg):Int:=if p.numB=false then 1 else if p.celB=false then 22 else 0
def QyF(p:Pg):VCalls prog 184 [.agg p.d] [] (Ret (.bool p.numB)):=by
 refine dd Tryz.func184 ?_
 (unfold Tryz.f184; refine rn trivial ?_)
 refine rn F ?_
 repeat' (first
  | with_reducible exact⟨⟩
  | (refine sG F ?_ ?_<;>intro hZ))
 all_goals (first | rfl | (congr 3; rw[Jo]; (try simp only[Pg.numB,decide_eq_true_eq,Jd,Ji,Jj,Jh,decide_eq_false_iff_not,beq_iff_eq,bne_iff_ne,ne_eq,Jn,Jp,iff_true,true_iff,iff_false,false_iff]); first | done | omega | grind))
def Qog(p:Pg):VCalls prog 185 [.agg p.d] [] (Ret (.bool p.celB)):=by
 refine dd Tryz.func185 ?_
 (unfold Tryz.f185; refine rn trivial ?_)
 refine Qi (fun s:Okay 16 p.celC=>⟨26,0,[(3,.int .i64 s.i),(1,.ptr 0 0)],[⟨159,true,p.d⟩]⟩) (fun s=>16-s.i) (Okay.start _ _) (gc [0]) ?_
 intro s
 have hsi:=s.hi
 have hg:=fun h:s.i<16=>QoU p s.i h
 have hg0:=fun h:s.i<16=>QuV p s.i h
 have e:p.celC s.i=((p.cel s.i).okB&&!(decide (p.lsn=0)&&(p.cel s.i).set)):=rfl
 have c:=Qg2 (p.cel s.i)
 generalize (p.cel s.i).okB=ok at *
 have F:=(Jb @hg @hg0)
 refine rn F ?_
 repeat' (first
  | with_reducible exact⟨⟩
  | (refine sG F ?_ ?_<;>intro hZ)
  | (refine sB F ?_ ?_<;>intro hZ)
  | refine vp F (c) ?_)
 all_goals first | (exact congrArg DV.bool (s.no (by omega) rfl (by rw[e]; simp_all )).symm) | (exact congrArg DV.bool (s.yes (by omega) rfl).symm) | (exact⟨s.next (by omega) (by rw[e]; simp_all ),s.dec (by omega),(gc [ 0])⟩) | skip
def Qsi(p:Pg):VCalls prog 132 [.agg p.d] [] (Ret (.bool p.okB)):=by
 refine dd Tryz.func132 ?_
 have c1:=QyF p
 have c2:=Qog p
 have e:p.okB=(p.numB&&p.celB):=rfl
 generalize p.numB=a at *
 generalize p.celB=b at *
 (unfold Tryz.f132; refine rn trivial ?_)
 refine rn F ?_
 repeat' (first
  | with_reducible exact⟨⟩
  | (refine sG F ?_ ?_<;>intro hZ)
  | refine vp F (c1) ?_
  | refine vp F (c2) ?_)
 all_goals (rw[e]; simp_all)
def Qdx(p:Pg):VCalls prog 133 [.agg p.d] [] (Ret (.int .i64 (QaS p))):=by
 refine dd Tryz.func133 ?_
 have c1:=QyF p
 have c2:=Qog p
 have e:QaS p=if p.numB=false then 1 else if p.celB=false then 22 else 0:=rfl
 generalize p.numB=a at *
 generalize p.celB=b at *
 (unfold Tryz.f133; refine rn trivial ?_)
 refine rn F ?_
 repeat' (first
  | with_reducible exact⟨⟩
  | (refine sB F ?_ ?_<;>intro hZ)
  | refine vp F (c1) ?_
  | refine vp F (c2) ?_)
 all_goals (rw[e]; simp_all)
def QuQ(h:QaS p=0):p.okB=true:=by
 unfold QaS at h
 unfold Pg.okB
 split at h
 ·simp at h
 split at h
 ·simp at h
 ·simp_all
end
section
attribute [local go_sem] Qba
def idF(l:List Fm)(a:Int):Int:=Qmn l fun f=>f.pg.id==a
def QcA(p:Pl)(hl:p.fs.length<=1000000)(a:Int):VCalls prog 101 [.agg p.d,.int .i64 a] [] (Ret (.int .i64 (idF p.fs a))):=by
 refine dd Tryz.func101 ?_
 obtain⟨z,l,h⟩:=p
 (unfold Tryz.f101; refine rn trivial ?_)
 refine Qi (fun i:Pass l (fun x=>(x.pg.id==a)=true)=>⟨23,0,[(5,.int .i64 i.i),(2,.ptr 0 0),(1,.int .i64 a)],[⟨31,true,Pl.d ⟨z,l,h⟩⟩]⟩) (fun i=>l.length-i.i) (Pass.start l _) (gc [0]) ?_
 intro i
 have hi:=i.hi
 dsimp only at hl
 have hg:=fun h:i.i<l.length=>Qb0 l i.i h
 have F:=@hg
 refine rn F ?_
 repeat' (first
  | with_reducible exact⟨⟩
  | (refine sB F ?_ ?_<;>intro hZ))
 ·have hq:(l.getD i.i Fm0).pg.id = a:=by assumption
  rw[Qd l i.i (by omega)] at hq
  have:=QtP l (fun x=>x.pg.id==a) i.i (by omega) (by simpa using hq) i.no
  rw[idF,this]
 ·have hq:¬ (l.getD i.i Fm0).pg.id = a:=by assumption
  rw[Qd l i.i (by omega)] at hq
  exact⟨i.next (by omega) (by simpa using hq),by show l.length-(i.i+1)<l.length-i.i; omega,(gc [0])⟩
 ·have:=i.all (by omega)
  rw[idF,Qmn,if_neg (by simpa using this)]
def Qy7(l:List Fm)(i k:Nat):Bool:=!decide ((l.getD k Fm0).pg.id=(l.getD i Fm0).pg.id)
def frC(l:List Fm)(i:Nat):Bool:=(l.getD i Fm0).pg.okB&&!((l.getD i Fm0).dirty&&(decide ((l.getD i Fm0).rc<1)||decide ((l.getD i Fm0).pg.lsn<(l.getD i Fm0).rc)))&&!(!(l.getD i Fm0).dirty&&!decide ((l.getD i Fm0).rc=0))&&(Jq i).all (Qy7 l i)
def Pl.hd(p:Pl):Prop:=1<=p.size/\p.size<=64/\p.fs.length<=p.size/\0<=p.hand/\p.hand<=max 0 ((p.fs.length:Int)-1)
instance (p:Pl):Decidable p.hd:=by unfold Pl.hd; infer_instance
def plB(p:Pl):Bool:=decide p.hd&&(Jq p.fs.length).all (frC p.fs)
def Qlc{p:Pl}(h:plB p=true):p.hd:=by unfold plB at h; simp at h; exact h.1
def Qak(p:Pl)(hl:p.fs.length<=1000000):VCalls prog 100 [.agg p.d] [] (Ret (.bool (plB p))):=by
 refine dd Tryz.func100 ?_
 obtain⟨z,l,hn⟩:=p
 dsimp only at hl
 have hB:plB ⟨z,l,hn⟩=(decide (Pl.hd ⟨z,l,hn⟩)&&(Jq l.length).all (frC l)):=rfl
 have hH:Pl.hd ⟨z,l,hn⟩=(1<=z/\z<=64/\l.length<=z/\0<=hn/\hn<=max 0 ((l.length:Int)-1)):=rfl
 have hB':Pl.hd ⟨z,l,hn⟩->plB ⟨z,l,hn⟩=(Jq l.length).all (frC l):=fun h=>by rw[hB,decide_eq_true h,Kq]
 have no:¬ Pl.hd ⟨z,l,hn⟩->plB ⟨z,l,hn⟩=false:=fun h=>by rw[hB,decide_eq_false h]; rfl
 generalize plB ⟨z,l,hn⟩=b at *
 (unfold Tryz.f100; refine rn trivial ?_)
 refine rn F ?_
 repeat' (first
  | with_reducible exact⟨⟩
  | (refine sG F ?_ ?_<;>intro hZ)
  | (refine sB F ?_ ?_<;>intro hZ))
 all_goals first | (rw[no (by rw[hH]; omega)]) | skip
 refine Qi (fun s:Okay l.length (frC l)=>⟨94,0,[(4,.int .i64 s.i),(3,.int .i64 l.length),(1,.ptr 0 0)],[⟨31,true,Pl.d ⟨z,l,hn⟩⟩]⟩) (fun s=>l.length-s.i) (Okay.start _ _) (gc [0]) ?_
 intro s
 have hsi:=s.hi
 have hg:=fun h:s.i<l.length=>Qb0 l s.i h
 have c1:=Qsi (l.getD s.i Fm0).pg
 have e:frC l s.i=((l.getD s.i Fm0).pg.okB&&!((l.getD s.i Fm0).dirty&&(decide ((l.getD s.i Fm0).rc<1)||decide ((l.getD s.i Fm0).pg.lsn<(l.getD s.i Fm0).rc)))&&!(!(l.getD s.i Fm0).dirty&&!decide ((l.getD s.i Fm0).rc=0))&&(Jq s.i).all (Qy7 l s.i)):=rfl
 generalize (l.getD s.i Fm0).pg.okB=ok at *
 have F:=@hg
 refine rn F ?_
 repeat' (first
  | with_reducible exact⟨⟩
  | (refine sG F ?_ ?_<;>intro hZ)
  | (refine sB F ?_ ?_<;>intro hZ)
  | refine vp F (c1) ?_)
 all_goals first
  | (exact congrArg DV.bool (s.no (by omega) (hB' (by rw[hH]; omega)) (by rw[e]; simp_all)).symm)
  | (exact congrArg DV.bool (s.yes (by omega) (hB' (by rw[hH]; omega))).symm)
  | skip
 all_goals
  refine Qi (fun r:Okay s.i (Qy7 l s.i)=>⟨94,0,[(6,.int .i64 r.i),(5,.ptr 1 0),(4,.int .i64 s.i),(3,.int .i64 l.length),(1,.ptr 0 0)],[⟨31,true,Pl.d ⟨z,l,hn⟩⟩,⟨163,true,(l.getD s.i Fm0).d⟩]⟩) (fun r=>s.i-r.i) (Okay.start _ _) (gc [0,1]) ?_
  intro r
  have hri:=r.hi
  have hk:=fun h:r.i<l.length=>Qb0 l r.i h
  have e2:Qy7 l s.i r.i=!decide ((l.getD r.i Fm0).pg.id=(l.getD s.i Fm0).pg.id):=rfl
  have F:=@hk
  refine rn F ?_
  repeat' (first
   | with_reducible exact⟨⟩
   | (refine sB F ?_ ?_<;>intro hZ)
   | (refine Qc (id:=13) [0,1,2,3,4,5,6,7,8,9,10] [] (by kernel_rfl) (by kernel_rfl) ?_; refine rn F ?_))
 all_goals first
  | (exact congrArg DV.bool (s.no (by omega) (hB' (by rw[hH]; omega)) (by rw[e,Qax (i:=r.i) (by omega) (by rw[e2]; simp_all),JJ])).symm)
  | (exact⟨r.next (by omega) (by rw[e2]; simp_all),r.dec (by omega),(gc [0,1])⟩)
  | (exact⟨s.next (by omega) (by rw[e,r.all (by omega)]; simp_all),s.dec (by omega),(gc [0])⟩)
  | skip
end
section
attribute [local go_sem] Qba
def Qbn(p:Pl)(a:Int):Int:=if plB p=true then idF p.fs a else -1
def QaY(l:List Fm)(a:Int):idF l a=-1\/∃ i:Nat,∃ _:i<l.length,idF l a=i/\(l.getD i Fm0).pg.id=a:=by
 rcases QtO l (fun f=>f.pg.id==a) with⟨h,_⟩ | ⟨i,hi,h,hf⟩
 ·exact .inl h
 ·refine .inr ⟨i,hi,h,?_⟩
  have:=List.find?_some hf
  rw[Qd l i hi]; simpa using this
def QbT(p:Pl)(a:Int):Qbn p a=-1\/(plB p=true/\∃ i:Nat,∃ _:i<p.fs.length,Qbn p a=i/\idF p.fs a=i/\(p.fs.getD i Fm0).pg.id=a):=by
 unfold Qbn
 split
 ·rename_i hv
  rcases QaY p.fs a with h | ⟨i,hi,h,hx⟩
  ·exact .inl h
  ·exact .inr ⟨hv,i,hi,h,h,hx⟩
 ·exact .inl rfl
def QeP(p:Pl)(a:Int):Pg×Bool:=if Qbn p a<0 then (Pg0,false) else ((p.fs.getD (Qbn p a).toNat Fm0).pg,true)
def Qcz(p:Pl)(hl:p.fs.length<=1000000)(a:Int):VCalls prog 82 [.agg p.d,.int .i64 a] [] (Ret (.int .i64 (Qbn p a))):=by
 refine dd Tryz.func82 ?_
 have c1:=Qak p hl
 have c2:=QcA p hl a
 unfold Qbn
 generalize plB p=b at *
 (unfold Tryz.f82; refine rn trivial ?_)
 refine rn F ?_
 repeat' (first
  | with_reducible exact⟨⟩
  | (refine sB F ?_ ?_<;>intro hZ)
  | refine vp F (c1) ?_
  | refine vp F (c2) ?_)
 all_goals (simp_all)
def QgX(p:Pl)(hl:p.fs.length<=1000000)(a:Int):VCalls prog 98 [.agg p.d,.int .i64 a] [] (Ret (.tup [.agg (QeP p a).1.d,.bool (QeP p a).2])):=by
 refine dd Tryz.func98 ?_
 have c1:=Qcz p hl a
 unfold QeP
 rcases QbT p a with h | ⟨_,i,hi,h,_⟩
 ·rw [h] at c1 |-
  (unfold Tryz.f98; refine rn trivial ?_)
  refine rn F ?_
  repeat' (first
   | with_reducible exact⟨⟩
   | refine vp F (c1) ?_)
  all_goals rfl
 ·rw [h] at c1 |-
  rw[if_neg (by omega),Jr]
  have hg:=Qb0 p.fs i hi
  generalize p.fs.getD i Fm0=f at *
  (unfold Tryz.f98; refine rn trivial ?_)
  have F:=@hg
  refine rn F ?_
  repeat' (first
   | with_reducible exact⟨⟩
   | refine vp F (c1) ?_)
def QAa(l:List Fm)(i:Nat)(f:Fm)(hi:i<l.length):(cells Qcv l).take (i*37)++f.d++(cells Qcv l).drop (i*37+37)=cells Qcv (l.set i f):=QnY Qcv l i f hi
def QjC(p:Pl)(hl:p.fs.length<=1000000)(i:Nat)(hi:i<p.fs.length)(f:Fm):VCalls prog 188 [.agg p.d,.int .i64 i,.agg f.d] [] (Ret (.agg (Pl.d ⟨p.size,p.fs.set i f,p.hand⟩))):=by
 refine dd Tryz.func188 ?_
 obtain⟨z,l,hn⟩:=p
 dsimp only at hl hi
 have hb:i*37+37<=l.length*37:=by omega
 have hse:=QAa l i f hi
 have hle:(l.set i f).length=l.length:=J5
 (unfold Tryz.f188; refine rn trivial ?_)
 have F:=(Jb @hb (Jb @hse @hle))
 (refine rn F ?_; try with_reducible exact⟨⟩)
def QzS(p:Pl)(a:Int):Pl:=if Qbn p a<0 then p else ⟨p.size,p.fs.set (Qbn p a).toNat ⟨(p.fs.getD (Qbn p a).toNat Fm0).pg,(p.fs.getD (Qbn p a).toNat Fm0).dirty,(p.fs.getD (Qbn p a).toNat Fm0).rc,true⟩,p.hand⟩
def QAn(p:Pl)(hl:p.fs.length<=1000000)(a:Int):VCalls prog 221 [.agg p.d,.int .i64 a] [] (Ret (.agg (QzS p a).d)):=by
 refine dd Tryz.func221 ?_
 have c1:=Qcz p hl a
 unfold QzS
 rcases QbT p a with h | ⟨_,i,hi,h,_⟩
 ·rw [h] at c1 |-
  (unfold Tryz.f221; refine rn trivial ?_)
  refine rn F ?_
  repeat' (first
   | with_reducible exact⟨⟩
   | refine vp F (c1) ?_)
  all_goals rfl
 ·rw [h] at c1 |-
  rw[if_neg (by omega),Jr]
  have hg:=Qb0 p.fs i hi
  have c2:=QjC p hl i hi ⟨(p.fs.getD i Fm0).pg,(p.fs.getD i Fm0).dirty,(p.fs.getD i Fm0).rc,true⟩
  generalize p.fs.getD i Fm0=f at *
  (unfold Tryz.f221; refine rn trivial ?_)
  have F:=@hg
  refine rn F ?_
  repeat' (first
   | with_reducible exact⟨⟩
   | refine vp F (c1) ?_
   | refine vp F (c2) ?_)
def Qh6(n:Int):Pl×Int:=if n<1\/64<n then (Pl0,1) else (⟨n,[],0⟩,0)
def Qsj(n:Int):VCalls prog 61 [.int .i64 n] [] (Ret (.tup [.agg (Qh6 n).1.d,.int .i64 (Qh6 n).2])):=by
 refine dk Tryz.func61 ?_
 unfold Qh6
 (unfold Tryz.f61; refine rn trivial ?_)
 refine rn F ?_
 repeat' (first
  | with_reducible exact⟨⟩
  | (refine sG F ?_ ?_<;>intro hZ)
  | (refine sB F ?_ ?_<;>intro hZ))
 all_goals first | (rw[if_pos (by omega)]; rfl) | (rw[if_neg (by omega)]; rfl)
def Qom(p:Pl)(x:Pg):Pl×Int:=
 if plB p=false then (Pl0,15) else if QaS x≠0 then (Pl0,QaS x) else if 0<=idF p.fs x.id then (Pl0,25) else if (p.fs.length:Int)=p.size then (Pl0,21)
 else (⟨p.size,p.fs++[⟨x,false,0,true⟩],p.hand⟩,0)
def QAp(p:Pl)(hl:p.fs.length<=100000)(x:Pg):VCalls prog 163 [.agg p.d,.agg x.d] [] (Ret (.tup [.agg (Qom p x).1.d,.int .i64 (Qom p x).2])):=by
 refine dk Tryz.func163 ?_
 have c1:=Qak p (by omega)
 have c2:=Qdx x
 have c3:=QcA p (by omega) x.id
 have e:Qom p x=if plB p=false then (Pl0,15) else if QaS x≠0 then (Pl0,QaS x) else if 0<=idF p.fs x.id then (Pl0,25) else if (p.fs.length:Int)=p.size then (Pl0,21)
  else (⟨p.size,p.fs++[⟨x,false,0,true⟩],p.hand⟩,0):=rfl
 generalize Qom p x=r at *
 generalize plB p=b at *
 generalize QaS x=k at *
 generalize idF p.fs x.id=m at *
 have hb:(p.fs.length+1)*304<=140737488355328:=by omega
 (unfold Tryz.f163; refine rn trivial ?_)
 have F:=@hb
 refine rn F ?_
 repeat' (first
  | with_reducible exact⟨⟩
  | (refine sB F ?_ ?_<;>intro hZ)
  | refine vp F (c1) ?_
  | refine vp F (c2) ?_
  | refine vp F (c3) ?_
  | (refine Qc (id:=10) [0,1,3,4] [⟨[5],[],2,[0,3,4],[]⟩,⟨[5],[5],6,[0,1,3,4],[7]⟩,⟨[],[],8,[],[]⟩] (by kernel_rfl) (by kernel_rfl) ?_; refine rn F ?_))
 all_goals first | (first | (rw[e]; simp(disch:=first | assumption | omega | exact rfl | exact nf (by assumption) | exact nt (by assumption) | decide | fail) only[if_pos,if_neg]; first | done | rfl) | (rw[e]; simp(disch:=first | assumption | omega | exact rfl | exact nf (by assumption) | exact nt (by assumption) | decide | (simp_all; done) | fail) only[if_pos,if_neg]; first | done | rfl)) | skip
end
section
attribute [local go_sem] Qba
def QqH(f:Fm)(x:Pg):Fm:=⟨x,true,if f.dirty=true then f.rc else x.lsn,true⟩
def Qkh(p:Pl)(x:Pg):Pl×Int:=
 if plB p=false then (Pl0,15) else if QaS x≠0 then (Pl0,QaS x) else if idF p.fs x.id<0 then (Pl0,18)
 else if x.lsn<=(p.fs.getD (idF p.fs x.id).toNat Fm0).pg.lsn then (Pl0,8)
 else (⟨p.size,p.fs.set (idF p.fs x.id).toNat (QqH (p.fs.getD (idF p.fs x.id).toNat Fm0) x),p.hand⟩,0)
def QAo(p:Pl)(hl:p.fs.length<=100000)(x:Pg):VCalls prog 214 [.agg p.d,.agg x.d] [] (Ret (.tup [.agg (Qkh p x).1.d,.int .i64 (Qkh p x).2])):=by
 refine dk Tryz.func214 ?_
 have c1:=Qak p (by omega)
 have c2:=Qdx x
 have c3:=QcA p (by omega) x.id
 have c4:=QjC p (by omega)
 have e:Qkh p x=if plB p=false then (Pl0,15) else if QaS x≠0 then (Pl0,QaS x) else if idF p.fs x.id<0 then (Pl0,18)
  else if x.lsn<=(p.fs.getD (idF p.fs x.id).toNat Fm0).pg.lsn then (Pl0,8)
  else (⟨p.size,p.fs.set (idF p.fs x.id).toNat (QqH (p.fs.getD (idF p.fs x.id).toNat Fm0) x),p.hand⟩,0):=rfl
 have hi:=QaY p.fs x.id
 generalize Qkh p x=r at *
 generalize plB p=b at *
 generalize QaS x=k at *
 rcases hi with h | ⟨i,hi,h,_⟩
 ·rw [h] at c3 e
  (unfold Tryz.f214; refine rn trivial ?_)
  refine rn F ?_
  repeat' (first
   | with_reducible exact⟨⟩
   | (refine sB F ?_ ?_<;>intro hZ)
   | refine vp F (c1) ?_
   | refine vp F (c2) ?_
   | refine vp F (c3) ?_)
  all_goals first | (first | (rw[e]; simp(disch:=first | assumption | omega | exact rfl | exact nf (by assumption) | exact nt (by assumption) | decide | fail) only[if_pos,if_neg]; first | done | rfl) | (rw[e]; simp(disch:=first | assumption | omega | exact rfl | exact nf (by assumption) | exact nt (by assumption) | decide | (simp_all; done) | fail) only[if_pos,if_neg]; first | done | rfl)) | skip
 ·rw [h] at c3 e
  rw[Jr] at e
  have hg:=Qb0 p.fs i hi
  have e2:∀ f:Fm,f.dirty=true->QqH f x=⟨x,true,f.rc,true⟩:=fun f h=>by unfold QqH; rw[if_pos h]
  have e3:∀ f:Fm,¬ f.dirty=true->QqH f x=⟨x,true,x.lsn,true⟩:=fun f h=>by unfold QqH; rw[if_neg h]
  have c4:=fun f=>c4 i hi f
  generalize p.fs.getD i Fm0=f at *
  (unfold Tryz.f214; refine rn trivial ?_)
  have F:=@hg
  refine rn F ?_
  repeat' (first
   | with_reducible exact⟨⟩
   | (refine sB F ?_ ?_<;>intro hZ)
   | refine vp F (c1) ?_
   | refine vp F (c2) ?_
   | refine vp F (c3) ?_
   | refine vp F (c4 ⟨_,_,_,_⟩) ?_)
  all_goals first | (first | (rw[e]; simp(disch:=first | assumption | omega | exact rfl | exact nf (by assumption) | exact nt (by assumption) | decide | fail) only[if_pos,if_neg]; first | done | rfl) | (rw[e]; simp(disch:=first | assumption | omega | exact rfl | exact nf (by assumption) | exact nt (by assumption) | decide | (simp_all; done) | fail) only[if_pos,if_neg]; first | done | rfl)) | (first | (rw[e,e2 f (by assumption)]; simp(disch:=first | assumption | omega | exact rfl | exact nf (by assumption) | exact nt (by assumption) | decide | fail) only[if_pos,if_neg]; first | done | rfl) | (rw[e,e2 f (by assumption)]; simp(disch:=first | assumption | omega | exact rfl | exact nf (by assumption) | exact nt (by assumption) | decide | (simp_all; done) | fail) only[if_pos,if_neg]; first | done | rfl)) | (first | (rw[e,e3 f (by simp_all)]; simp(disch:=first | assumption | omega | exact rfl | exact nf (by assumption) | exact nt (by assumption) | decide | fail) only[if_pos,if_neg]; first | done | rfl) | (rw[e,e3 f (by simp_all)]; simp(disch:=first | assumption | omega | exact rfl | exact nf (by assumption) | exact nt (by assumption) | decide | (simp_all; done) | fail) only[if_pos,if_neg]; first | done | rfl)) | skip
def Qe0(f:Fm)(n:Int):Fm:=if f.pg.lsn=n then ⟨f.pg,false,0,f.used⟩ else if f.rc<=n then ⟨f.pg,f.dirty,n+1,f.used⟩ else f
def QaR(p:Pl)(a n:Int):Pl×Int:=
 if plB p=false then (Pl0,15) else if idF p.fs a<0 then (Pl0,18)
 else if (p.fs.getD (idF p.fs a).toNat Fm0).pg.lsn<n then (Pl0,9)
 else if (p.fs.getD (idF p.fs a).toNat Fm0).dirty=false then (p,0)
 else (⟨p.size,p.fs.set (idF p.fs a).toNat (Qe0 (p.fs.getD (idF p.fs a).toNat Fm0) n),p.hand⟩,0)
def Qsk(p:Pl)(hl:p.fs.length<=100000)(a n:Int)(hn:n<=1099511627776)(hn0:0<=n):VCalls prog 141 [.agg p.d,.int .i64 a,.int .i64 n] [] (Ret (.tup [.agg (QaR p a n).1.d,.int .i64 (QaR p a n).2])):=by
 refine dk Tryz.func141 ?_
 have c1:=Qak p (by omega)
 have c3:=QcA p (by omega) a
 have c4:=QjC p (by omega)
 have e:QaR p a n=if plB p=false then (Pl0,15) else if idF p.fs a<0 then (Pl0,18)
  else if (p.fs.getD (idF p.fs a).toNat Fm0).pg.lsn<n then (Pl0,9)
  else if (p.fs.getD (idF p.fs a).toNat Fm0).dirty=false then (p,0)
  else (⟨p.size,p.fs.set (idF p.fs a).toNat (Qe0 (p.fs.getD (idF p.fs a).toNat Fm0) n),p.hand⟩,0):=rfl
 have hi:=QaY p.fs a
 generalize QaR p a n=r at *
 generalize plB p=b at *
 rcases hi with h | ⟨i,hi,h,_⟩
 ·rw [h] at c3 e
  (unfold Tryz.f141; refine rn trivial ?_)
  refine rn F ?_
  repeat' (first
   | with_reducible exact⟨⟩
   | (refine sB F ?_ ?_<;>intro hZ)
   | refine vp F (c1) ?_
   | refine vp F (c3) ?_)
  all_goals first | (first | (rw[e]; simp(disch:=first | assumption | omega | exact rfl | exact nf (by assumption) | exact nt (by assumption) | decide | fail) only[if_pos,if_neg]; first | done | rfl) | (rw[e]; simp(disch:=first | assumption | omega | exact rfl | exact nf (by assumption) | exact nt (by assumption) | decide | (simp_all; done) | fail) only[if_pos,if_neg]; first | done | rfl)) | skip
 ·rw [h] at c3 e
  rw[Jr] at e
  have hg:=Qb0 p.fs i hi
  have c4:=fun f=>c4 i hi f
  generalize p.fs.getD i Fm0=f at *
  obtain⟨pg,dirty,rc,used⟩:=f
  have e1:pg.lsn=n->Qe0 ⟨pg,dirty,rc,used⟩ n=⟨pg,false,0,used⟩:=fun h=>if_pos h
  have e2:¬ pg.lsn=n->rc<=n->Qe0 ⟨pg,dirty,rc,used⟩ n=⟨pg,dirty,n+1,used⟩:=fun h h2=>by unfold Qe0; rw[if_neg h,if_pos h2]
  have e3:¬ pg.lsn=n->¬ rc<=n->Qe0 ⟨pg,dirty,rc,used⟩ n=⟨pg,dirty,rc,used⟩:=fun h h2=>by unfold Qe0; rw[if_neg h,if_neg h2]
  cases dirty
  all_goals
   (unfold Tryz.f141; refine rn trivial ?_)
   have F:=@hg
   refine rn F ?_
   repeat' (first
    | with_reducible exact⟨⟩
    | (refine sB F ?_ ?_<;>intro hZ)
    | refine vp F (c1) ?_
    | refine vp F (c3) ?_
    | refine vp F (c4 ⟨_,_,_,_⟩) ?_)
  all_goals first | (first | (rw[e]; simp(disch:=first | assumption | omega | exact rfl | exact nf (by assumption) | exact nt (by assumption) | decide | fail) only[if_pos,if_neg]; first | done | rfl) | (rw[e]; simp(disch:=first | assumption | omega | exact rfl | exact nf (by assumption) | exact nt (by assumption) | decide | (simp_all; done) | fail) only[if_pos,if_neg]; first | done | rfl)) | (first | (rw[e,e1 (by omega)]; simp(disch:=first | assumption | omega | exact rfl | exact nf (by assumption) | exact nt (by assumption) | decide | fail) only[if_pos,if_neg]; first | done | rfl) | (rw[e,e1 (by omega)]; simp(disch:=first | assumption | omega | exact rfl | exact nf (by assumption) | exact nt (by assumption) | decide | (simp_all; done) | fail) only[if_pos,if_neg]; first | done | rfl)) | (first | (rw[e,e2 (by omega) (by omega)]; simp(disch:=first | assumption | omega | exact rfl | exact nf (by assumption) | exact nt (by assumption) | decide | fail) only[if_pos,if_neg]; first | done | rfl) | (rw[e,e2 (by omega) (by omega)]; simp(disch:=first | assumption | omega | exact rfl | exact nf (by assumption) | exact nt (by assumption) | decide | (simp_all; done) | fail) only[if_pos,if_neg]; first | done | rfl)) | (first | (rw[e,e3 (by omega) (by omega)]; simp(disch:=first | assumption | omega | exact rfl | exact nf (by assumption) | exact nt (by assumption) | decide | fail) only[if_pos,if_neg]; first | done | rfl) | (rw[e,e3 (by omega) (by omega)]; simp(disch:=first | assumption | omega | exact rfl | exact nf (by assumption) | exact nt (by assumption) | decide | (simp_all; done) | fail) only[if_pos,if_neg]; first | done | rfl)) | skip
def Qie(n:Nat)(i h:Int):Int:=if (n:Int)<=(if i<h then h-1 else h) then 0 else (if i<h then h-1 else h)
def QdR(p:Pl)(a:Int):Pl×Int:=
 if plB p=false then (Pl0,15) else if idF p.fs a<0 then (Pl0,18)
 else if (p.fs.getD (idF p.fs a).toNat Fm0).dirty=true then (Pl0,23)
 else (⟨p.size,p.fs.take (idF p.fs a).toNat++p.fs.drop ((idF p.fs a).toNat+1),Qie (p.fs.length-1) (idF p.fs a) p.hand⟩,0)
def Qwt(p:Pl)(hl:p.fs.length<=100000)(a:Int):VCalls prog 207 [.agg p.d,.int .i64 a] [] (Ret (.tup [.agg (QdR p a).1.d,.int .i64 (QdR p a).2])):=by
 refine dk Tryz.func207 ?_
 have c1:=Qak p (by omega)
 have c3:=QcA p (by omega) a
 have e:QdR p a=if plB p=false then (Pl0,15) else if idF p.fs a<0 then (Pl0,18)
  else if (p.fs.getD (idF p.fs a).toNat Fm0).dirty=true then (Pl0,23)
  else (⟨p.size,p.fs.take (idF p.fs a).toNat++p.fs.drop ((idF p.fs a).toNat+1),Qie (p.fs.length-1) (idF p.fs a) p.hand⟩,0):=rfl
 have hi:=QaY p.fs a
 have hh:=@Qlc p
 generalize QdR p a=r at *
 generalize plB p=b at *
 rcases hi with h | ⟨i,hi,h,_⟩
 ·rw [h] at c3 e
  (unfold Tryz.f207; refine rn trivial ?_)
  refine rn F ?_
  repeat' (first
   | with_reducible exact⟨⟩
   | (refine sB F ?_ ?_<;>intro hZ)
   | refine vp F (c1) ?_
   | refine vp F (c3) ?_)
  all_goals first | (first | (rw[e]; simp(disch:=first | assumption | omega | exact rfl | exact nf (by assumption) | exact nt (by assumption) | decide | fail) only[if_pos,if_neg]; first | done | rfl) | (rw[e]; simp(disch:=first | assumption | omega | exact rfl | exact nf (by assumption) | exact nt (by assumption) | decide | (simp_all; done) | fail) only[if_pos,if_neg]; first | done | rfl)) | skip
 ·rw [h] at c3 e
  rw[Jr] at e
  cases b
  ·(unfold Tryz.f207; refine rn trivial ?_; try with_reducible exact ⟨⟩)
   refine rn F ?_
   repeat' (first
    | with_reducible exact⟨⟩
    | refine vp F (c1) ?_)
   all_goals (first | (rw[e]; simp(disch:=first | assumption | omega | exact rfl | exact nf (by assumption) | exact nt (by assumption) | decide | fail) only[if_pos,if_neg]; first | done | rfl) | (rw[e]; simp(disch:=first | assumption | omega | exact rfl | exact nf (by assumption) | exact nt (by assumption) | decide | (simp_all; done) | fail) only[if_pos,if_neg]; first | done | rfl))
  have hh:=hh rfl
  obtain⟨z,l,hn⟩:=p
  dsimp only at hl e hi
  simp only[Pl.hd] at hh
  have hg:=Qb0 l i hi
  have hb:(i+(l.length-(i+1)))*304<=140737488355328:=by omega
  have hb1:i*304<=140737488355328:=by omega
  have hmin:min i l.length=i:=by omega
  have e1:(i:Int)<hn->¬ ((l.length-1:Nat):Int)<=hn-1->Qie (l.length-1) i hn=hn-1:=fun h h2=>by unfold Qie; rw[if_pos h,if_neg h2]
  have e2:¬ (i:Int)<hn->¬ ((l.length-1:Nat):Int)<=hn->Qie (l.length-1) i hn=hn:=fun h h2=>by unfold Qie; rw[if_neg h,if_neg h2]
  have e3:(i:Int)<hn->((l.length-1:Nat):Int)<=hn-1->Qie (l.length-1) i hn=0:=fun h h2=>by unfold Qie; rw[if_pos h,if_pos h2]
  have e4:¬ (i:Int)<hn->((l.length-1:Nat):Int)<=hn->Qie (l.length-1) i hn=0:=fun h h2=>by unfold Qie; rw[if_neg h,if_pos h2]
  generalize l.getD i Fm0=f at *
  (unfold Tryz.f207; refine rn trivial ?_)
  have F:=(Jb @hg (Jb @hb (Jb @hb1 @hmin)))
  refine rn F ?_
  repeat' (first
   | with_reducible exact⟨⟩
   | (refine sB F ?_ ?_<;>intro hZ)
   | refine vp F (c1) ?_
   | refine vp F (c3) ?_
   | (refine Qc (id:=8) [0,1,2,3,5,6,7,8,9] [⟨[],[],4,[0,1,2,5,6,7,8,9],[]⟩,⟨[],[],10,[0,1,2,3,5,6,7,8],[11]⟩,⟨[],[],12,[],[]⟩] (by kernel_rfl) (by kernel_rfl) ?_; refine rn F ?_))
  all_goals first | (first | (rw[e]; simp(disch:=first | assumption | omega | exact rfl | exact nf (by assumption) | exact nt (by assumption) | decide | fail) only[if_pos,if_neg]; first | done | rfl) | (rw[e]; simp(disch:=first | assumption | omega | exact rfl | exact nf (by assumption) | exact nt (by assumption) | decide | (simp_all; done) | fail) only[if_pos,if_neg]; first | done | rfl)) | (first | (rw[e,e1 (by omega) (by omega)]; simp(disch:=first | assumption | omega | exact rfl | exact nf (by assumption) | exact nt (by assumption) | decide | fail) only[if_pos,if_neg]; first | done | rfl) | (rw[e,e1 (by omega) (by omega)]; simp(disch:=first | assumption | omega | exact rfl | exact nf (by assumption) | exact nt (by assumption) | decide | (simp_all; done) | fail) only[if_pos,if_neg]; first | done | rfl)) | (first | (rw[e,e2 (by omega) (by omega)]; simp(disch:=first | assumption | omega | exact rfl | exact nf (by assumption) | exact nt (by assumption) | decide | fail) only[if_pos,if_neg]; first | done | rfl) | (rw[e,e2 (by omega) (by omega)]; simp(disch:=first | assumption | omega | exact rfl | exact nf (by assumption) | exact nt (by assumption) | decide | (simp_all; done) | fail) only[if_pos,if_neg]; first | done | rfl)) | (first | (rw[e,e3 (by omega) (by omega)]; simp(disch:=first | assumption | omega | exact rfl | exact nf (by assumption) | exact nt (by assumption) | decide | fail) only[if_pos,if_neg]; first | done | rfl) | (rw[e,e3 (by omega) (by omega)]; simp(disch:=first | assumption | omega | exact rfl | exact nf (by assumption) | exact nt (by assumption) | decide | (simp_all; done) | fail) only[if_pos,if_neg]; first | done | rfl)) | (first | (rw[e,e4 (by omega) (by omega)]; simp(disch:=first | assumption | omega | exact rfl | exact nf (by assumption) | exact nt (by assumption) | decide | fail) only[if_pos,if_neg]; first | done | rfl) | (rw[e,e4 (by omega) (by omega)]; simp(disch:=first | assumption | omega | exact rfl | exact nf (by assumption) | exact nt (by assumption) | decide | (simp_all; done) | fail) only[if_pos,if_neg]; first | done | rfl)) | skip
end
section
attribute [local go_sem] Qba
def Fm.clr(f:Fm):Fm:=⟨f.pg,f.dirty,f.rc,false⟩
def SameF(l m:List Fm):Prop:=m.map Fm.clr=l.map Fm.clr
def Qgr(l:List Fm)(i:Nat):(l.map Fm.clr).getD i Fm0=(l.getD i Fm0).clr:=by
 rw[Jk,Jk,Kg]; cases l[i]?<;>rfl
def Quc(l:List Fm)(i:Nat):frC (l.map Fm.clr) i=frC l i:=by
 have h:Qy7 (l.map Fm.clr) i=Qy7 l i:=by funext k; simp only[Qy7,Qgr]; rfl
 simp only[frC,h,Qgr]; rfl
def SameF.len(h:SameF l m):m.length=l.length:=by have:=congrArg JM h; simpa using this
theorem SameF.refl(l:List Fm):SameF l l:=rfl
def SameF.trans(h:SameF a b)(g:SameF b c):SameF a c:=Eq.trans (b:=b.map Fm.clr) g h
def SameF.at_(h:SameF l m)(i:Nat):(m.getD i Fm0).clr=(l.getD i Fm0).clr:=by
 rw[<- Qgr,<- Qgr,show m.map Fm.clr=l.map Fm.clr from h]
def SameF.frC{l m:List Fm}(h:SameF l m):frC m=frC l:=by
 funext i; rw[<- Quc m,<- Quc l,show m.map Fm.clr=l.map Fm.clr from h]
def SameF.plB{p q:Pl}(h:SameF p.fs q.fs)(hs:q.size=p.size)(hh:0<=q.hand/\q.hand<=max 0 ((p.fs.length:Int)-1))(hp:plB p=true):plB q=true:=by
 have h1:=Qlc hp
 simp only[Pl.hd] at h1
 have hl:=h.len
 unfold Proofs.YtdnbdbgdfocpgaaGreat.plB at hp |-
 rw[h.frC,hl,decide_eq_true (by simp only[Pl.hd]; omega)]
 simp only[Jd] at hp
 simpa using hp.2
def QtQ(l:List Fm)(a:Int):idF (l.map Fm.clr) a=idF l a:=by
 unfold idF Qmn
 rw[List.any_map,List.findIdx_map]; rfl
def SameF.idF{l m:List Fm}(h:SameF l m)(a:Int):idF m a=idF l a:=by
 rw[<- QtQ m,<- QtQ l,show m.map Fm.clr=l.map Fm.clr from h]
def SameF.set (l:List Fm) (i:Nat) (b:Bool):SameF l (l.set i ⟨(l.getD i Fm0).pg,(l.getD i Fm0).dirty,(l.getD i Fm0).rc,b⟩):=by
 unfold SameF
 rw[List.map_set]
 rcases JY i l.length with h | h
 ·have:(⟨(l.getD i Fm0).pg,(l.getD i Fm0).dirty,(l.getD i Fm0).rc,b⟩:Fm).clr = (l.map Fm.clr)[i]'(by simpa using h):=by
   rw[Qd l i h,J2]; rfl
  rw[this,List.set_getElem_self]
 ·rw[List.set_eq_of_length_le (by simpa using h)]
def QvQ(l:List Fm):Nat:=l.countP (·.used)
def QrD(l:List Fm)(i:Nat)(h:i<l.length)(hu:(l.getD i Fm0).used=true):QvQ (l.set i ⟨(l.getD i Fm0).pg,(l.getD i Fm0).dirty,(l.getD i Fm0).rc,false⟩)<QvQ l:=by
 unfold QvQ
 rw[List.countP_set h]
 rw[Qd l i h] at *
 have:0<l.countP (·.used):=List.countP_pos_iff.2 ⟨l[i],J1 h,hu⟩
 simp only[hu,if_true]
 simp
 omega
structure Vic(p:Pl) where
 q:Pl
 ok:plB q=true
 sm:SameF p.fs q.fs
 sz:q.size=p.size
 ne:0<q.fs.length
def QF5(p:Pl)(a:Pl×Int×Int):Prop:=(a.2.2=0->plB p=true/\plB a.1=true/\SameF p.fs a.1.fs/\a.1.size=p.size/\∃ i,i<a.1.fs.length/\a.2.1=(a.1.fs.getD i Fm0).pg.id)/\(plB p=true->0<p.fs.length->a.2.2=0)/\a.1.fs.length<=p.fs.length
def QF6(a:Pl×Int×Int):DV:=.tup [.agg a.1.d,.int .i64 a.2.1,.int .i64 a.2.2]
def QAm(p:Pl)(hl:p.fs.length<=100000):VCalls prog 206 [.agg p.d] [] (QG QF6 (QF5 p)):=by
 refine dk Tryz.func206 ?_
 have c1:=Qak p (by omega)
 cases hb:plB p
 ·rw [hb] at c1
  (unfold Tryz.f206; refine rn trivial ?_)
  refine rn F ?_
  repeat' (first
   | with_reducible exact⟨⟩
   | refine vp F (c1) ?_)
  all_goals exact⟨rfl,rfl,(Pl0,0,15),rfl,by simp[QF5,hb,Pl0]⟩
 ·rw [hb] at c1
  (unfold Tryz.f206; refine rn trivial ?_)
  refine rn F ?_
  repeat' (first
   | with_reducible exact⟨⟩
   | (refine sB F ?_ ?_<;>intro hZ)
   | refine vp F (c1) ?_)
  ·exact⟨rfl,rfl,(Pl0,0,18),rfl,fun h=>absurd h (by decide),fun _ h=>by omega,Jy _⟩
  refine Qi (fun s:Vic p=>⟨51,0,[(2,.ptr 1 0),(1,.ptr 0 0)],[⟨31,true,s.q.d⟩,⟨31,true,[.int .i64 0,.pv (.slc []),.int .i64 0]⟩]⟩) (fun s=>QvQ s.q.fs) ⟨p,hb,SameF.refl _,rfl,by omega⟩ (gc [0,1]) ?_
  intro s
  obtain⟨q,ok,sm,sz,ne⟩:=s
  obtain⟨qz,l,hn⟩:=q
  dsimp only at ok sm sz ne |-
  have hh:=Qlc ok
  have hlen:=sm.len
  simp only[Pl.hd] at hh
  obtain⟨i,rfl⟩:∃ i:Nat,hn=i:=⟨hn.toNat,by omega⟩
  have hi:i<l.length:=by omega
  have hg:=Qb0 l i hi
  have c2:=fun f=>QjC ⟨qz,l,i⟩ (by dsimp only; omega) i hi f
  have hst:=SameF.set l i false
  have hus:=QrD l i hi
  have hmod:((i:Int)+1).tmod (l.length:Int)=((i+1) % l.length:Nat):=Int.ofNat_tmod (i+1) l.length
  have hml:(i+1) % l.length<l.length:=Ke _ ne
  have hle:∀ f,(l.set i f).length=l.length:=fun f=>J5
  generalize hf:l.getD i Fm0=f at *
  have F:=(Jb @hg @hle)
  refine rn F ?_
  repeat' (first
   | with_reducible exact⟨⟩
   | (refine sB F ?_ ?_<;>intro hZ)
   | refine vp F (c2 ⟨_,_,_,_⟩) ?_
   | (refine Qc (id:=10) [0,1,2,3,4,5,6,7,8] [⟨[],[],9,[1,2,3,4,5,6,7,8],[]⟩,⟨[],[],10,[],[]⟩,⟨[],[],11,[],[]⟩] (by kernel_rfl) (by kernel_rfl) ?_; refine rn F ?_))
  ·rw [hmod]
   refine⟨⟨⟨qz,l.set i ⟨f.pg,f.dirty,f.rc,false⟩,((i+1) % l.length:Nat)⟩,(sm.trans hst).plB sz ?_ hb,sm.trans hst,sz,?_⟩,hus (by assumption),(gc [0,1])⟩
   ·dsimp only at hlen |-; omega
   ·rw[hle]; exact ne
  ·exact⟨rfl,rfl,(⟨qz,l,i⟩,f.pg.id,0),rfl,fun _=>⟨hb,ok,sm,sz,i,hi,by rw[hf]⟩,fun _ _=>rfl,by dsimp only at hlen |-; omega⟩
end
def QgY(x:Lg)(h1 : -1099511627776<=x.f/\x.f<=1099511627776)(h2:x.es.length<=1000000):VCalls prog 22 [.agg x.c] [] (Ret (.int .i64 x.end_)):=by
 refine dd Tryz.func22 ?_
 unfold Lg.end_
 (unfold Tryz.f22; refine rn trivial ?_; try with_reducible exact⟨⟩)
def Qtw{x:Lg}(h:lgB x=true):x.end_<=1099511627776:=by
 have hd:=Q9 h
 unfold Lg.hd at hd
 unfold Lg.end_
 unfold lgB at h
 simp only[Jd,JK] at h
 by_cases h0:x.es.length=0
 ·omega
 ·have:=h.2 (x.es.length - 1) (JI.2 (by omega))
  unfold lgC at this
  simp only[Jd,decide_eq_true_eq] at this
  obtain⟨h3,h4⟩:=this
  generalize x.es.getD (x.es.length-1) E0=e at *
  unfold E.okB at h4
  simp only[Jd,decide_eq_true_eq] at h4
  omega
def Qas(x:Lg)(hx:x.es.length<=9223372036854775807):VCalls prog 21 [.agg x.c] [] (Ret (.bool (lgB x))):=by
 refine dd Tryz.func21 ?_
 obtain⟨f,es,d⟩:=x
 dsimp only at hx
 have c1:=QgY ⟨f,es,d⟩
 unfold Lg.end_ at c1
 dsimp only at c1
 have hB:lgB ⟨f,es,d⟩=(decide (Lg.hd ⟨f,es,d⟩)&&(Jq es.length).all (lgC ⟨f,es,d⟩)):=rfl
 have hH:Lg.hd ⟨f,es,d⟩=(1<=f/\f<=1099511627776/\es.length<=4096/\f-1<=d/\d<=f+es.length-1):=rfl
 have hB':Lg.hd ⟨f,es,d⟩->lgB ⟨f,es,d⟩=(Jq es.length).all (lgC ⟨f,es,d⟩):=fun h=>by rw[hB,decide_eq_true h,Kq]
 have no:¬ Lg.hd ⟨f,es,d⟩->lgB ⟨f,es,d⟩=false:=fun h=>by rw[hB,decide_eq_false h]; rfl
 have hlc:∀ i,lgC ⟨f,es,d⟩ i=(decide ((es.getD i E0).lsn=f+i)&&(es.getD i E0).okB):=fun _=>rfl
 generalize lgB ⟨f,es,d⟩=b at *
 generalize lgC ⟨f,es,d⟩=lc at *
 (unfold Tryz.f21; refine rn trivial ?_)
 refine rn F ?_
 repeat' (first
  | with_reducible exact⟨⟩
  | (refine sG F ?_ ?_<;>intro hZ)
  | (refine sB F ?_ ?_<;>intro hZ)
  | refine vp F (c1 (by omega) (by omega)) ?_
  | (refine Qc (id:=1) [0,1,2,3,4,5,6,7,8,9,10,11,12,13,14,15,16,17,18,19,20,21,22,23,24,25] [⟨[],[],26,[0,1,2,3,4,5,6,7,8,9,10,11,12,13,14,15,16,17,18,19,20,21,23,24],[27,28]⟩] (by kernel_rfl) (by kernel_rfl) ?_; refine rn F ?_))
 all_goals first | (rw[no (by rw[hH]; omega)]) | skip
 refine Qi (fun s:Okay es.length lc=>⟨60,0,[(3,.int .i64 s.i),(1,.ptr 0 0)],[⟨28,true,Lg.c ⟨f,es,d⟩⟩]⟩) (fun s=>es.length-s.i) (Okay.start _ _) (gc [0]) ?_
 intro s
 have hsi:=s.hi
 have hg:=fun h:s.i<es.length=>QeR es s.i h
 have c2:=Qcy (es.getD s.i E0)
 have e:=hlc s.i
 generalize (es.getD s.i E0).okB=ok at *
 have F:=@hg
 refine rn F ?_
 repeat' (first
  | with_reducible exact⟨⟩
  | (refine sG F ?_ ?_<;>intro hZ)
  | (refine sB F ?_ ?_<;>intro hZ)
  | refine vp F (c2) ?_
  | (refine Qc (id:=6) [0,1,2,3,4,5,6,7,8,9,10,11,12,13,14,15,16] [⟨[],[],17,[0,1,2,3,4,5,6,7,8,9,10,12,13,14,15],[18,19]⟩] (by kernel_rfl) (by kernel_rfl) ?_; refine rn F ?_))
 all_goals first
  | (exact congrArg DV.bool (s.no (by omega) (hB' (by rw[hH]; omega)) (by rw[e]; first | (rw[decide_eq_false (by omega)]; rfl) | simp_all)).symm)
  | (exact congrArg DV.bool (s.yes (by omega) (hB' (by rw[hH]; omega))).symm)
  | (exact⟨s.next (by omega) (by rw[e]; simp_all),s.dec (by omega),(gc [0])⟩)
  | skip
end Go.Proofs.YtdnbdbgdfocpgaaGreat
