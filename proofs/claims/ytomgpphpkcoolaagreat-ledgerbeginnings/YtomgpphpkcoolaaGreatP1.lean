/-
  Contracts of functions and plain laws. No condition.
-/
import Derived.Test.YtomgpphpkcoolaaGreatProg
import Derived.Test.YtomgpphpkcoolaaGreatV3
import Derived.KernelRfl
import Derived.Test.YtomgpphpkcoolaaGreatV4
set_option linter.unusedSimpArgs false
set_option linter.unusedVariables false
set_option linter.defProp false
set_option maxRecDepth 100000
set_option maxHeartbeats 8000000
set_option autoImplicit true
set_option relaxedAutoImplicit true
open And renaming intro->Ja
open Bool renaming and_eq_true->Jb,not_eq_false'->Je,or_eq_true->Jf,not_eq_true'->Jg,eq_iff_iff->Jk,false_eq_true->Jl,and_eq_false_imp->Jm,true_eq_false->Jn,or_eq_false_iff->Jo,eq_false_iff->Jw,and_false->JH,not_eq_eq_eq_not->JO,beq_eq_decide_eq->J5,not_false->J9,not_true->Ke,true_and->Ks
open Int renaming reduceBEq->Jd,toNat_natCast->Jp,reduceAdd->Jr,reduceLT->JA,reduceNeg->JM,natCast_pow->J1,natCast_mul->Kk,reduceToNat->Km,lt_trans->Kv
open List renaming getD_eq_getElem?_getD->Jh,take_of_length_le->Ji,length_take->Jj,length_append->Js,take_succ_eq_append_getElem->Jt,findIdx_lt_length_of_exists->Ju,range->Jv,getElem?_eq_getElem->Jx,length_drop->Jy,append_assoc->JC,take_length->JD,length->JE,mem_range->JG,all_eq_true->JI,getElem?_take->JL,length_filter_le->JN,any_eq_true->JQ,length_cons->JR,not_mem_nil->JS,map_cons->JT,append_nil->JU,pairwise_iff_getElem->JW,mem_cons->JX,getElem_mem->JY,getElem_map->JZ,getElem_cons_zero->J0,length_nil->J2,length_set->J4,take_append_drop->J6,findIdx_getElem->J7,drop_drop->J8,takeWhile_cons->Ka,filter_append->Kb,getElem?_drop->Kc,getElem?_map->Kg,cons_append->Ki,foldl_cons->Kl,nil_append->Kp,drop_zero->Kr
open Nat renaming reduceBEq->Jc,reduceAdd->Jq,reduceLT->Jz,pow_le_pow_right->JB,not_lt_zero->JF,zero_le->JJ,lt_of_lt_of_le->JK,reduceLeDiff->JP,two_pow_add_eq_or_of_lt->JV,lt_or_ge->J3,add_sub_cancel->Kd,mod_lt->Kf,zero_add->Kh,two_pow_pos->Kj,le_refl->Ko,mul_le_mul->Kq,mul_comm->Kt,add_zero->Ku,or_comm->Kw,mul_add->Kx,pow_add->Ky
namespace Go.Proofs.YtomgpphpkcoolaaGreat
open Go.V Go
open Tryz (prog)
def F:True:=trivial
end Go.Proofs.YtomgpphpkcoolaaGreat
namespace Go.Proofs
open Go.V
theorem Tryz.vt3:vt prog 3=some none:=by kernel_rfl
theorem Tryz.vkind3:Qam prog 3=.int .i64:=by kernel_rfl
theorem Tryz.vzero3:QN prog 3=some [.pv (.lit (.int .i64 0))]:=by kernel_rfl
theorem Tryz.bytes3:QaJ prog 3=some 8:=by kernel_rfl
theorem Tryz.vt4:vt prog 4=some none:=by kernel_rfl
theorem Tryz.vt5:vt prog 5=some none:=by kernel_rfl
theorem Tryz.vkind5:Qam prog 5=.int .u8:=by kernel_rfl
theorem Tryz.vzero5:QN prog 5=some [.pv (.lit (.int .u8 0))]:=by kernel_rfl
theorem Tryz.bytes5:QaJ prog 5=some 1:=by kernel_rfl
theorem Tryz.vt9:vt prog 9=some none:=by kernel_rfl
theorem Tryz.vkind9:Qam prog 9=.str:=by kernel_rfl
theorem Tryz.vzero9:QN prog 9=some [.pv (.str [])]:=by kernel_rfl
theorem Tryz.bytes9:QaJ prog 9=some 16:=by kernel_rfl
theorem Tryz.vt22:vt prog 22=some none:=by kernel_rfl
theorem Tryz.velem22:QH prog 22=some (none,5,1):=by kernel_rfl
theorem Tryz.notInt22:QaU prog 22=true:=by kernel_rfl
theorem Tryz.vkind22:Qam prog 22=.sl 5:=by kernel_rfl
theorem Tryz.vt24:vt prog 24=some none:=by kernel_rfl
theorem Tryz.velem24:QH prog 24=some (none,52,13):=by kernel_rfl
theorem Tryz.notInt24:QaU prog 24=true:=by kernel_rfl
theorem Tryz.vkind24:Qam prog 24=.sl 52:=by kernel_rfl
theorem Tryz.vzero24:QN prog 24=some [.pv (.slc [])]:=by kernel_rfl
theorem Tryz.vt26:vt prog 26=some (some 3):=by kernel_rfl
theorem Tryz.vfield26x0:Qg prog 26 0=some (3,0,1):=by kernel_rfl
theorem Tryz.vfield26x1:Qg prog 26 1=some (24,1,1):=by kernel_rfl
theorem Tryz.vfield26x2:Qg prog 26 2=some (3,2,1):=by kernel_rfl
theorem Tryz.vplaces26:Qy prog 26=some fun j=>([(0,1),(1,1),(2,1)]:List (Nat×Nat))[j]?:=by kernel_rfl
theorem Tryz.vzero26:QN prog 26=some [.pv (.lit (.int .i64 0)),.pv (.slc []),.pv (.lit (.int .i64 0))]:=by kernel_rfl
theorem Tryz.vt27:vt prog 27=some none:=by kernel_rfl
theorem Tryz.velem27:QH prog 27=some (none,159,37):=by kernel_rfl
theorem Tryz.notInt27:QaU prog 27=true:=by kernel_rfl
theorem Tryz.vkind27:Qam prog 27=.sl 159:=by kernel_rfl
theorem Tryz.vt29:vt prog 29=some (some 3):=by kernel_rfl
theorem Tryz.vfield29x0:Qg prog 29 0=some (3,0,1):=by kernel_rfl
theorem Tryz.vfield29x1:Qg prog 29 1=some (27,1,1):=by kernel_rfl
theorem Tryz.vfield29x2:Qg prog 29 2=some (3,2,1):=by kernel_rfl
theorem Tryz.vplaces29:Qy prog 29=some fun j=>([(0,1),(1,1),(2,1)]:List (Nat×Nat))[j]?:=by kernel_rfl
theorem Tryz.vzero29:QN prog 29=some [.pv (.lit (.int .i64 0)),.pv (.slc []),.pv (.lit (.int .i64 0))]:=by kernel_rfl
theorem Tryz.vt30:vt prog 30=some none:=by kernel_rfl
theorem Tryz.velem30:QH prog 30=some (none,201,4):=by kernel_rfl
theorem Tryz.notInt30:QaU prog 30=true:=by kernel_rfl
theorem Tryz.vkind30:Qam prog 30=.sl 201:=by kernel_rfl
theorem Tryz.vt32:vt prog 32=some (some 2):=by kernel_rfl
theorem Tryz.vfield32x0:Qg prog 32 0=some (30,0,1):=by kernel_rfl
theorem Tryz.vfield32x1:Qg prog 32 1=some (30,1,1):=by kernel_rfl
theorem Tryz.vplaces32:Qy prog 32=some fun j=>([(0,1),(1,1)]:List (Nat×Nat))[j]?:=by kernel_rfl
theorem Tryz.vzero32:QN prog 32=some [.pv (.slc []),.pv (.slc [])]:=by kernel_rfl
theorem Tryz.vt33:vt prog 33=some none:=by kernel_rfl
theorem Tryz.velem33:QH prog 33=some (none,197,6):=by kernel_rfl
theorem Tryz.notInt33:QaU prog 33=true:=by kernel_rfl
theorem Tryz.vkind33:Qam prog 33=.sl 197:=by kernel_rfl
theorem Tryz.vt34:vt prog 34=some none:=by kernel_rfl
theorem Tryz.velem34:QH prog 34=some (none,266,3):=by kernel_rfl
theorem Tryz.notInt34:QaU prog 34=true:=by kernel_rfl
theorem Tryz.vkind34:Qam prog 34=.sl 266:=by kernel_rfl
theorem Tryz.vt36:vt prog 36=some (some 1):=by kernel_rfl
theorem Tryz.vfield36x0:Qg prog 36 0=some (34,0,1):=by kernel_rfl
theorem Tryz.vplaces36:Qy prog 36=some fun j=>([(0,1)]:List (Nat×Nat))[j]?:=by kernel_rfl
theorem Tryz.vzero36:QN prog 36=some [.pv (.slc [])]:=by kernel_rfl
theorem Tryz.vt37:vt prog 37=some none:=by kernel_rfl
theorem Tryz.velem37:QH prog 37=some (none,167,3):=by kernel_rfl
theorem Tryz.notInt37:QaU prog 37=true:=by kernel_rfl
theorem Tryz.vkind37:Qam prog 37=.sl 167:=by kernel_rfl
theorem Tryz.vt39:vt prog 39=some (some 13):=by kernel_rfl
theorem Tryz.vfield39x0:Qg prog 39 0=some (3,0,1):=by kernel_rfl
theorem Tryz.vfield39x1:Qg prog 39 1=some (3,1,1):=by kernel_rfl
theorem Tryz.vfield39x2:Qg prog 39 2=some (26,2,3):=by kernel_rfl
theorem Tryz.vfield39x3:Qg prog 39 3=some (29,5,3):=by kernel_rfl
theorem Tryz.vfield39x4:Qg prog 39 4=some (32,8,2):=by kernel_rfl
theorem Tryz.vfield39x5:Qg prog 39 5=some (33,10,1):=by kernel_rfl
theorem Tryz.vfield39x6:Qg prog 39 6=some (36,11,1):=by kernel_rfl
theorem Tryz.vfield39x7:Qg prog 39 7=some (37,12,1):=by kernel_rfl
theorem Tryz.vplaces39:Qy prog 39=some fun j=>([(0,1),(1,1),(2,3),(5,3),(8,2),(10,1),(11,1),(12,1)]:List (Nat×Nat))[j]?:=by kernel_rfl
theorem Tryz.vzero39:QN prog 39=some [.pv (.lit (.int .i64 0)),.pv (.lit (.int .i64 0)),.pv (.lit (.int .i64 0)),.pv (.slc []),.pv (.lit (.int .i64 0)),.pv (.lit (.int .i64 0)),.pv (.slc []),.pv (.lit (.int .i64 0)),.pv (.slc []),.pv (.slc []),.pv (.slc []),.pv (.slc []),.pv (.slc [])]:=by kernel_rfl
theorem Tryz.velem43:QH prog 43=some (none,53,32):=by kernel_rfl
theorem Tryz.vkind43:Qam prog 43=.sl 53:=by kernel_rfl
theorem Tryz.vt44:vt prog 44=some none:=by kernel_rfl
theorem Tryz.vt48:vt prog 48=some (some 2):=by kernel_rfl
theorem Tryz.vfield48x0:Qg prog 48 0=some (4,0,1):=by kernel_rfl
theorem Tryz.vfield48x1:Qg prog 48 1=some (9,1,1):=by kernel_rfl
theorem Tryz.vplaces48:Qy prog 48=some fun j=>([(0,1),(1,1)]:List (Nat×Nat))[j]?:=by kernel_rfl
theorem Tryz.vzero48:QN prog 48=some [.pv (.lit (.bool false)),.pv (.str [])]:=by kernel_rfl
theorem Tryz.leaves48:QaH prog 8 48=some [(0,0),(1,2)]:=by kernel_rfl
theorem Tryz.eqg48:prog.eqGuardType prog.depth 48=false:=by kernel_rfl
theorem Tryz.vt50:vt prog 50=some (some 6):=by kernel_rfl
theorem Tryz.vfield50x0:Qg prog 50 0=some (3,0,1):=by kernel_rfl
theorem Tryz.vfield50x1:Qg prog 50 1=some (3,1,1):=by kernel_rfl
theorem Tryz.vfield50x2:Qg prog 50 2=some (48,2,2):=by kernel_rfl
theorem Tryz.vfield50x3:Qg prog 50 3=some (48,4,2):=by kernel_rfl
theorem Tryz.vplaces50:Qy prog 50=some fun j=>([(0,1),(1,1),(2,2),(4,2)]:List (Nat×Nat))[j]?:=by kernel_rfl
theorem Tryz.vzero50:QN prog 50=some [.pv (.lit (.int .i64 0)),.pv (.lit (.int .i64 0)),.pv (.lit (.bool false)),.pv (.str []),.pv (.lit (.bool false)),.pv (.str [])]:=by kernel_rfl
theorem Tryz.leaves50:QaH prog 8 50=some [(0,1),(1,1),(2,0),(3,2),(4,0),(5,2)]:=by kernel_rfl
theorem Tryz.eqg50:prog.eqGuardType prog.depth 50=false:=by kernel_rfl
theorem Tryz.vt52:vt prog 52=some (some 13):=by kernel_rfl
theorem Tryz.vfield52x0:Qg prog 52 0=some (3,0,1):=by kernel_rfl
theorem Tryz.vfield52x1:Qg prog 52 1=some (3,1,1):=by kernel_rfl
theorem Tryz.vfield52x2:Qg prog 52 2=some (3,2,1):=by kernel_rfl
theorem Tryz.vfield52x3:Qg prog 52 3=some (3,3,1):=by kernel_rfl
theorem Tryz.vfield52x4:Qg prog 52 4=some (3,4,1):=by kernel_rfl
theorem Tryz.vfield52x5:Qg prog 52 5=some (3,5,1):=by kernel_rfl
theorem Tryz.vfield52x6:Qg prog 52 6=some (50,6,6):=by kernel_rfl
theorem Tryz.vfield52x7:Qg prog 52 7=some (9,12,1):=by kernel_rfl
theorem Tryz.vplaces52:Qy prog 52=some fun j=>([(0,1),(1,1),(2,1),(3,1),(4,1),(5,1),(6,6),(12,1)]:List (Nat×Nat))[j]?:=by kernel_rfl
theorem Tryz.vzero52:QN prog 52=some [.pv (.lit (.int .i64 0)),.pv (.lit (.int .i64 0)),.pv (.lit (.int .i64 0)),.pv (.lit (.int .i64 0)),.pv (.lit (.int .i64 0)),.pv (.lit (.int .i64 0)),.pv (.lit (.int .i64 0)),.pv (.lit (.int .i64 0)),.pv (.lit (.bool false)),.pv (.str []),.pv (.lit (.bool false)),.pv (.str []),.pv (.str [])]:=by kernel_rfl
theorem Tryz.bytes52:QaJ prog 52=some 128:=by kernel_rfl
theorem Tryz.leaves52:QaH prog 8 52=some [(0,1),(1,1),(2,1),(3,1),(4,1),(5,1),(6,1),(7,1),(8,0),(9,2),(10,0),(11,2),(12,2)]:=by kernel_rfl
theorem Tryz.eqg52:prog.eqGuardType prog.depth 52=false:=by kernel_rfl
theorem Tryz.vt53:vt prog 53=some (some 32):=by kernel_rfl
theorem Tryz.velem53:QH prog 53=some (some 16,48,2):=by kernel_rfl
theorem Tryz.vzero53:QN prog 53=some [.pv (.lit (.bool false)),.pv (.str []),.pv (.lit (.bool false)),.pv (.str []),.pv (.lit (.bool false)),.pv (.str []),.pv (.lit (.bool false)),.pv (.str []),.pv (.lit (.bool false)),.pv (.str []),.pv (.lit (.bool false)),.pv (.str []),.pv (.lit (.bool false)),.pv (.str []),.pv (.lit (.bool false)),.pv (.str []),.pv (.lit (.bool false)),.pv (.str []),.pv (.lit (.bool false)),.pv (.str []),.pv (.lit (.bool false)),.pv (.str []),.pv (.lit (.bool false)),.pv (.str []),.pv (.lit (.bool false)),.pv (.str []),.pv (.lit (.bool false)),.pv (.str []),.pv (.lit (.bool false)),.pv (.str []),.pv (.lit (.bool false)),.pv (.str [])]:=by kernel_rfl
theorem Tryz.bytes53:QaJ prog 53=some 384:=by kernel_rfl
theorem Tryz.leaves53:QaH prog 8 53=some [(0,0),(1,2),(2,0),(3,2),(4,0),(5,2),(6,0),(7,2),(8,0),(9,2),(10,0),(11,2),(12,0),(13,2),(14,0),(15,2),(16,0),(17,2),(18,0),(19,2),(20,0),(21,2),(22,0),(23,2),(24,0),(25,2),(26,0),(27,2),(28,0),(29,2),(30,0),(31,2)]:=by kernel_rfl
theorem Tryz.eqg53:prog.eqGuardType prog.depth 53=false:=by kernel_rfl
theorem Tryz.vfield61x0:Qg prog 61 0=some (22,0,1):=by kernel_rfl
theorem Tryz.vfield61x1:Qg prog 61 1=some (3,1,1):=by kernel_rfl
theorem Tryz.vplaces61:Qy prog 61=some fun j=>([(0,1),(1,1)]:List (Nat×Nat))[j]?:=by kernel_rfl
theorem Tryz.vzero61:QN prog 61=some [.pv (.slc []),.pv (.lit (.int .i64 0))]:=by kernel_rfl
theorem Tryz.vt62:vt prog 62=some none:=by kernel_rfl
theorem Tryz.velem62:QH prog 62=some (none,9,1):=by kernel_rfl
theorem Tryz.notInt62:QaU prog 62=true:=by kernel_rfl
theorem Tryz.vkind62:Qam prog 62=.sl 9:=by kernel_rfl
theorem Tryz.vt63:vt prog 63=some none:=by kernel_rfl
theorem Tryz.velem63:QH prog 63=some (none,3,1):=by kernel_rfl
theorem Tryz.notInt63:QaU prog 63=true:=by kernel_rfl
theorem Tryz.vkind63:Qam prog 63=.sl 3:=by kernel_rfl
theorem Tryz.vt64:vt prog 64=some none:=by kernel_rfl
theorem Tryz.velem64:QH prog 64=some (none,236,6):=by kernel_rfl
theorem Tryz.notInt64:QaU prog 64=true:=by kernel_rfl
theorem Tryz.vkind64:Qam prog 64=.sl 236:=by kernel_rfl
theorem Tryz.vt66:vt prog 66=some (some 5):=by kernel_rfl
theorem Tryz.vfield66x0:Qg prog 66 0=some (62,0,1):=by kernel_rfl
theorem Tryz.vfield66x1:Qg prog 66 1=some (3,1,1):=by kernel_rfl
theorem Tryz.vfield66x2:Qg prog 66 2=some (63,2,1):=by kernel_rfl
theorem Tryz.vfield66x3:Qg prog 66 3=some (4,3,1):=by kernel_rfl
theorem Tryz.vfield66x4:Qg prog 66 4=some (64,4,1):=by kernel_rfl
theorem Tryz.vplaces66:Qy prog 66=some fun j=>([(0,1),(1,1),(2,1),(3,1),(4,1)]:List (Nat×Nat))[j]?:=by kernel_rfl
theorem Tryz.vzero66:QN prog 66=some [.pv (.slc []),.pv (.lit (.int .i64 0)),.pv (.slc []),.pv (.lit (.bool false)),.pv (.slc [])]:=by kernel_rfl
theorem Tryz.vt68:vt prog 68=some (some 18):=by kernel_rfl
theorem Tryz.vfield68x0:Qg prog 68 0=some (39,0,13):=by kernel_rfl
theorem Tryz.vfield68x1:Qg prog 68 1=some (66,13,5):=by kernel_rfl
theorem Tryz.vplaces68:Qy prog 68=some fun j=>([(0,13),(13,5)]:List (Nat×Nat))[j]?:=by kernel_rfl
theorem Tryz.vzero68:QN prog 68=some [.pv (.lit (.int .i64 0)),.pv (.lit (.int .i64 0)),.pv (.lit (.int .i64 0)),.pv (.slc []),.pv (.lit (.int .i64 0)),.pv (.lit (.int .i64 0)),.pv (.slc []),.pv (.lit (.int .i64 0)),.pv (.slc []),.pv (.slc []),.pv (.slc []),.pv (.slc []),.pv (.slc []),.pv (.slc []),.pv (.lit (.int .i64 0)),.pv (.slc []),.pv (.lit (.bool false)),.pv (.slc [])]:=by kernel_rfl
theorem Tryz.vt73:vt prog 73=some (some 0):=by kernel_rfl
theorem Tryz.vplaces73:Qy prog 73=some fun j=>([]:List (Nat×Nat))[j]?:=by kernel_rfl
theorem Tryz.vzero73:QN prog 73=some []:=by kernel_rfl
theorem Tryz.vt75:vt prog 75=some none:=by kernel_rfl
theorem Tryz.vt81:vt prog 81=some (some 2):=by kernel_rfl
theorem Tryz.vfield81x0:Qg prog 81 0=some (3,0,1):=by kernel_rfl
theorem Tryz.vfield81x1:Qg prog 81 1=some (3,1,1):=by kernel_rfl
theorem Tryz.vplaces81:Qy prog 81=some fun j=>([(0,1),(1,1)]:List (Nat×Nat))[j]?:=by kernel_rfl
theorem Tryz.vzero81:QN prog 81=some [.pv (.lit (.int .i64 0)),.pv (.lit (.int .i64 0))]:=by kernel_rfl
theorem Tryz.leaves81:QaH prog 8 81=some [(0,1),(1,1)]:=by kernel_rfl
theorem Tryz.eqg81:prog.eqGuardType prog.depth 81=false:=by kernel_rfl
theorem Tryz.vt83:vt prog 83=some (some 2):=by kernel_rfl
theorem Tryz.vfield83x0:Qg prog 83 0=some (3,0,1):=by kernel_rfl
theorem Tryz.vfield83x1:Qg prog 83 1=some (3,1,1):=by kernel_rfl
theorem Tryz.vplaces83:Qy prog 83=some fun j=>([(0,1),(1,1)]:List (Nat×Nat))[j]?:=by kernel_rfl
theorem Tryz.vzero83:QN prog 83=some [.pv (.lit (.int .i64 0)),.pv (.lit (.int .i64 0))]:=by kernel_rfl
theorem Tryz.velem87:QH prog 87=some (none,107,6):=by kernel_rfl
theorem Tryz.notInt87:QaU prog 87=true:=by kernel_rfl
theorem Tryz.vt88:vt prog 88=some none:=by kernel_rfl
theorem Tryz.velem88:QH prog 88=some (none,153,6):=by kernel_rfl
theorem Tryz.notInt88:QaU prog 88=true:=by kernel_rfl
theorem Tryz.velem91:QH prog 91=some (none,112,9):=by kernel_rfl
theorem Tryz.notInt91:QaU prog 91=true:=by kernel_rfl
theorem Tryz.vkind91:Qam prog 91=.sl 112:=by kernel_rfl
theorem Tryz.vfield98x0:Qg prog 98 0=some (3,0,1):=by kernel_rfl
theorem Tryz.vfield98x1:Qg prog 98 1=some (94,1,1):=by kernel_rfl
theorem Tryz.vfield98x2:Qg prog 98 2=some (95,2,1):=by kernel_rfl
theorem Tryz.vfield98x3:Qg prog 98 3=some (96,3,1):=by kernel_rfl
theorem Tryz.vplaces98:Qy prog 98=some fun j=>([(0,1),(1,1),(2,1),(3,1)]:List (Nat×Nat))[j]?:=by kernel_rfl
theorem Tryz.vfield105x0:Qg prog 105 0=some (68,0,18):=by kernel_rfl
theorem Tryz.vfield105x1:Qg prog 105 1=some (63,18,1):=by kernel_rfl
theorem Tryz.vfield105x2:Qg prog 105 2=some (88,19,1):=by kernel_rfl
theorem Tryz.vfield105x3:Qg prog 105 3=some (4,20,1):=by kernel_rfl
theorem Tryz.vplaces105:Qy prog 105=some fun j=>([(0,18),(18,1),(19,1),(20,1)]:List (Nat×Nat))[j]?:=by kernel_rfl
theorem Tryz.vzero105:QN prog 105=some [.pv (.lit (.int .i64 0)),.pv (.lit (.int .i64 0)),.pv (.lit (.int .i64 0)),.pv (.slc []),.pv (.lit (.int .i64 0)),.pv (.lit (.int .i64 0)),.pv (.slc []),.pv (.lit (.int .i64 0)),.pv (.slc []),.pv (.slc []),.pv (.slc []),.pv (.slc []),.pv (.slc []),.pv (.slc []),.pv (.lit (.int .i64 0)),.pv (.slc []),.pv (.lit (.bool false)),.pv (.slc []),.pv (.slc []),.pv (.slc []),.pv (.lit (.bool false))]:=by kernel_rfl
theorem Tryz.vt107:vt prog 107=some (some 6):=by kernel_rfl
theorem Tryz.vfield107x0:Qg prog 107 0=some (3,0,1):=by kernel_rfl
theorem Tryz.vfield107x1:Qg prog 107 1=some (3,1,1):=by kernel_rfl
theorem Tryz.vfield107x2:Qg prog 107 2=some (3,2,1):=by kernel_rfl
theorem Tryz.vfield107x3:Qg prog 107 3=some (48,3,2):=by kernel_rfl
theorem Tryz.vfield107x4:Qg prog 107 4=some (44,5,1):=by kernel_rfl
theorem Tryz.vplaces107:Qy prog 107=some fun j=>([(0,1),(1,1),(2,1),(3,2),(5,1)]:List (Nat×Nat))[j]?:=by kernel_rfl
theorem Tryz.vzero107:QN prog 107=some [.pv (.lit (.int .i64 0)),.pv (.lit (.int .i64 0)),.pv (.lit (.int .i64 0)),.pv (.lit (.bool false)),.pv (.str []),.pv (.lit (.int .i64 0))]:=by kernel_rfl
theorem Tryz.bytes107:QaJ prog 107=some 56:=by kernel_rfl
theorem Tryz.vt110:vt prog 110=some (some 4):=by kernel_rfl
theorem Tryz.vfield110x0:Qg prog 110 0=some (3,0,1):=by kernel_rfl
theorem Tryz.vfield110x1:Qg prog 110 1=some (3,1,1):=by kernel_rfl
theorem Tryz.vfield110x2:Qg prog 110 2=some (3,2,1):=by kernel_rfl
theorem Tryz.vfield110x3:Qg prog 110 3=some (9,3,1):=by kernel_rfl
theorem Tryz.vplaces110:Qy prog 110=some fun j=>([(0,1),(1,1),(2,1),(3,1)]:List (Nat×Nat))[j]?:=by kernel_rfl
theorem Tryz.vzero110:QN prog 110=some [.pv (.lit (.int .i64 0)),.pv (.lit (.int .i64 0)),.pv (.lit (.int .i64 0)),.pv (.str [])]:=by kernel_rfl
theorem Tryz.leaves110:QaH prog 8 110=some [(0,1),(1,1),(2,1),(3,2)]:=by kernel_rfl
theorem Tryz.eqg110:prog.eqGuardType prog.depth 110=false:=by kernel_rfl
theorem Tryz.vt112:vt prog 112=some (some 9):=by kernel_rfl
theorem Tryz.vfield112x0:Qg prog 112 0=some (3,0,1):=by kernel_rfl
theorem Tryz.vfield112x1:Qg prog 112 1=some (3,1,1):=by kernel_rfl
theorem Tryz.vfield112x2:Qg prog 112 2=some (3,2,1):=by kernel_rfl
theorem Tryz.vfield112x3:Qg prog 112 3=some (3,3,1):=by kernel_rfl
theorem Tryz.vfield112x4:Qg prog 112 4=some (3,4,1):=by kernel_rfl
theorem Tryz.vfield112x5:Qg prog 112 5=some (110,5,4):=by kernel_rfl
theorem Tryz.vplaces112:Qy prog 112=some fun j=>([(0,1),(1,1),(2,1),(3,1),(4,1),(5,4)]:List (Nat×Nat))[j]?:=by kernel_rfl
theorem Tryz.vzero112:QN prog 112=some [.pv (.lit (.int .i64 0)),.pv (.lit (.int .i64 0)),.pv (.lit (.int .i64 0)),.pv (.lit (.int .i64 0)),.pv (.lit (.int .i64 0)),.pv (.lit (.int .i64 0)),.pv (.lit (.int .i64 0)),.pv (.lit (.int .i64 0)),.pv (.str [])]:=by kernel_rfl
theorem Tryz.bytes112:QaJ prog 112=some 80:=by kernel_rfl
theorem Tryz.vfield117x0:Qg prog 117 0=some (3,0,1):=by kernel_rfl
theorem Tryz.vfield117x1:Qg prog 117 1=some (4,1,1):=by kernel_rfl
theorem Tryz.vfield117x2:Qg prog 117 2=some (4,2,1):=by kernel_rfl
theorem Tryz.vfield117x3:Qg prog 117 3=some (4,3,1):=by kernel_rfl
theorem Tryz.vfield117x4:Qg prog 117 4=some (24,4,1):=by kernel_rfl
theorem Tryz.vplaces117:Qy prog 117=some fun j=>([(0,1),(1,1),(2,1),(3,1),(4,1)]:List (Nat×Nat))[j]?:=by kernel_rfl
theorem Tryz.vzero117:QN prog 117=some [.pv (.lit (.int .i64 0)),.pv (.lit (.bool false)),.pv (.lit (.bool false)),.pv (.lit (.bool false)),.pv (.slc [])]:=by kernel_rfl
theorem Tryz.vt136:vt prog 136=some none:=by kernel_rfl
theorem Tryz.vt138:vt prog 138=some (some 7):=by kernel_rfl
theorem Tryz.vfield138x0:Qg prog 138 0=some (4,0,1):=by kernel_rfl
theorem Tryz.vfield138x1:Qg prog 138 1=some (4,1,1):=by kernel_rfl
theorem Tryz.vfield138x2:Qg prog 138 2=some (4,2,1):=by kernel_rfl
theorem Tryz.vfield138x3:Qg prog 138 3=some (4,3,1):=by kernel_rfl
theorem Tryz.vfield138x4:Qg prog 138 4=some (4,4,1):=by kernel_rfl
theorem Tryz.vfield138x5:Qg prog 138 5=some (75,5,1):=by kernel_rfl
theorem Tryz.vfield138x6:Qg prog 138 6=some (136,6,1):=by kernel_rfl
theorem Tryz.vplaces138:Qy prog 138=some fun j=>([(0,1),(1,1),(2,1),(3,1),(4,1),(5,1),(6,1)]:List (Nat×Nat))[j]?:=by kernel_rfl
theorem Tryz.vzero138:QN prog 138=some [.pv (.lit (.bool false)),.pv (.lit (.bool false)),.pv (.lit (.bool false)),.pv (.lit (.bool false)),.pv (.lit (.bool false)),.pv (.lit .nilFunc),.pv (.lit .nilFunc)]:=by kernel_rfl
theorem Tryz.vt139:vt prog 139=some (some 63):=by kernel_rfl
theorem Tryz.velem139:QH prog 139=some (some 9,138,7):=by kernel_rfl
theorem Tryz.vplaces139:Qy prog 139=some fun j=>some (j*7,7):=by kernel_rfl
theorem Tryz.vzero139:QN prog 139=some [.pv (.lit (.bool false)),.pv (.lit (.bool false)),.pv (.lit (.bool false)),.pv (.lit (.bool false)),.pv (.lit (.bool false)),.pv (.lit .nilFunc),.pv (.lit .nilFunc),.pv (.lit (.bool false)),.pv (.lit (.bool false)),.pv (.lit (.bool false)),.pv (.lit (.bool false)),.pv (.lit (.bool false)),.pv (.lit .nilFunc),.pv (.lit .nilFunc),.pv (.lit (.bool false)),.pv (.lit (.bool false)),.pv (.lit (.bool false)),.pv (.lit (.bool false)),.pv (.lit (.bool false)),.pv (.lit .nilFunc),.pv (.lit .nilFunc),.pv (.lit (.bool false)),.pv (.lit (.bool false)),.pv (.lit (.bool false)),.pv (.lit (.bool false)),.pv (.lit (.bool false)),.pv (.lit .nilFunc),.pv (.lit .nilFunc),.pv (.lit (.bool false)),.pv (.lit (.bool false)),.pv (.lit (.bool false)),.pv (.lit (.bool false)),.pv (.lit (.bool false)),.pv (.lit .nilFunc),.pv (.lit .nilFunc),.pv (.lit (.bool false)),.pv (.lit (.bool false)),.pv (.lit (.bool false)),.pv (.lit (.bool false)),.pv (.lit (.bool false)),.pv (.lit .nilFunc),.pv (.lit .nilFunc),.pv (.lit (.bool false)),.pv (.lit (.bool false)),.pv (.lit (.bool false)),.pv (.lit (.bool false)),.pv (.lit (.bool false)),.pv (.lit .nilFunc),.pv (.lit .nilFunc),.pv (.lit (.bool false)),.pv (.lit (.bool false)),.pv (.lit (.bool false)),.pv (.lit (.bool false)),.pv (.lit (.bool false)),.pv (.lit .nilFunc),.pv (.lit .nilFunc),.pv (.lit (.bool false)),.pv (.lit (.bool false)),.pv (.lit (.bool false)),.pv (.lit (.bool false)),.pv (.lit (.bool false)),.pv (.lit .nilFunc),.pv (.lit .nilFunc)]:=by kernel_rfl
theorem Tryz.vplaces153:Qy prog 153=some fun j=>([(0,1),(1,1),(2,1),(3,1),(4,2)]:List (Nat×Nat))[j]?:=by kernel_rfl
theorem Tryz.vzero153:QN prog 153=some [.pv (.lit (.int .i64 0)),.pv (.lit (.int .i64 0)),.pv (.lit (.int .i64 0)),.pv (.lit (.int .i64 0)),.pv (.lit (.bool false)),.pv (.str [])]:=by kernel_rfl
theorem Tryz.bytes153:QaJ prog 153=some 56:=by kernel_rfl
theorem Tryz.vt155:vt prog 155=some (some 34):=by kernel_rfl
theorem Tryz.vfield155x0:Qg prog 155 0=some (3,0,1):=by kernel_rfl
theorem Tryz.vfield155x1:Qg prog 155 1=some (3,1,1):=by kernel_rfl
theorem Tryz.vfield155x2:Qg prog 155 2=some (53,2,32):=by kernel_rfl
theorem Tryz.vplaces155:Qy prog 155=some fun j=>([(0,1),(1,1),(2,32)]:List (Nat×Nat))[j]?:=by kernel_rfl
theorem Tryz.vzero155:QN prog 155=some [.pv (.lit (.int .i64 0)),.pv (.lit (.int .i64 0)),.pv (.lit (.bool false)),.pv (.str []),.pv (.lit (.bool false)),.pv (.str []),.pv (.lit (.bool false)),.pv (.str []),.pv (.lit (.bool false)),.pv (.str []),.pv (.lit (.bool false)),.pv (.str []),.pv (.lit (.bool false)),.pv (.str []),.pv (.lit (.bool false)),.pv (.str []),.pv (.lit (.bool false)),.pv (.str []),.pv (.lit (.bool false)),.pv (.str []),.pv (.lit (.bool false)),.pv (.str []),.pv (.lit (.bool false)),.pv (.str []),.pv (.lit (.bool false)),.pv (.str []),.pv (.lit (.bool false)),.pv (.str []),.pv (.lit (.bool false)),.pv (.str []),.pv (.lit (.bool false)),.pv (.str []),.pv (.lit (.bool false)),.pv (.str [])]:=by kernel_rfl
theorem Tryz.vt159:vt prog 159=some (some 37):=by kernel_rfl
theorem Tryz.vfield159x0:Qg prog 159 0=some (155,0,34):=by kernel_rfl
theorem Tryz.vfield159x1:Qg prog 159 1=some (4,34,1):=by kernel_rfl
theorem Tryz.vfield159x2:Qg prog 159 2=some (3,35,1):=by kernel_rfl
theorem Tryz.vfield159x3:Qg prog 159 3=some (4,36,1):=by kernel_rfl
theorem Tryz.vplaces159:Qy prog 159=some fun j=>([(0,34),(34,1),(35,1),(36,1)]:List (Nat×Nat))[j]?:=by kernel_rfl
theorem Tryz.vzero159:QN prog 159=some [.pv (.lit (.int .i64 0)),.pv (.lit (.int .i64 0)),.pv (.lit (.bool false)),.pv (.str []),.pv (.lit (.bool false)),.pv (.str []),.pv (.lit (.bool false)),.pv (.str []),.pv (.lit (.bool false)),.pv (.str []),.pv (.lit (.bool false)),.pv (.str []),.pv (.lit (.bool false)),.pv (.str []),.pv (.lit (.bool false)),.pv (.str []),.pv (.lit (.bool false)),.pv (.str []),.pv (.lit (.bool false)),.pv (.str []),.pv (.lit (.bool false)),.pv (.str []),.pv (.lit (.bool false)),.pv (.str []),.pv (.lit (.bool false)),.pv (.str []),.pv (.lit (.bool false)),.pv (.str []),.pv (.lit (.bool false)),.pv (.str []),.pv (.lit (.bool false)),.pv (.str []),.pv (.lit (.bool false)),.pv (.str []),.pv (.lit (.bool false)),.pv (.lit (.int .i64 0)),.pv (.lit (.bool false))]:=by kernel_rfl
theorem Tryz.bytes159:QaJ prog 159=some 424:=by kernel_rfl
theorem Tryz.vt167:vt prog 167=some (some 3):=by kernel_rfl
theorem Tryz.vfield167x0:Qg prog 167 0=some (3,0,1):=by kernel_rfl
theorem Tryz.vfield167x1:Qg prog 167 1=some (3,1,1):=by kernel_rfl
theorem Tryz.vfield167x2:Qg prog 167 2=some (3,2,1):=by kernel_rfl
theorem Tryz.vplaces167:Qy prog 167=some fun j=>([(0,1),(1,1),(2,1)]:List (Nat×Nat))[j]?:=by kernel_rfl
theorem Tryz.vzero167:QN prog 167=some [.pv (.lit (.int .i64 0)),.pv (.lit (.int .i64 0)),.pv (.lit (.int .i64 0))]:=by kernel_rfl
theorem Tryz.bytes167:QaJ prog 167=some 24:=by kernel_rfl
theorem Tryz.velem173:QH prog 173=some (none,24,1):=by kernel_rfl
theorem Tryz.vkind173:Qam prog 173=.sl 24:=by kernel_rfl
theorem Tryz.vt189:vt prog 189=some (some 5):=by kernel_rfl
theorem Tryz.vfield189x0:Qg prog 189 0=some (3,0,1):=by kernel_rfl
theorem Tryz.vfield189x1:Qg prog 189 1=some (3,1,1):=by kernel_rfl
theorem Tryz.vfield189x2:Qg prog 189 2=some (33,2,1):=by kernel_rfl
theorem Tryz.vfield189x3:Qg prog 189 3=some (37,3,1):=by kernel_rfl
theorem Tryz.vfield189x4:Qg prog 189 4=some (36,4,1):=by kernel_rfl
theorem Tryz.vplaces189:Qy prog 189=some fun j=>([(0,1),(1,1),(2,1),(3,1),(4,1)]:List (Nat×Nat))[j]?:=by kernel_rfl
theorem Tryz.vzero189:QN prog 189=some [.pv (.lit (.int .i64 0)),.pv (.lit (.int .i64 0)),.pv (.slc []),.pv (.slc []),.pv (.slc [])]:=by kernel_rfl
theorem Tryz.vt197:vt prog 197=some (some 6):=by kernel_rfl
theorem Tryz.vfield197x0:Qg prog 197 0=some (3,0,1):=by kernel_rfl
theorem Tryz.vfield197x1:Qg prog 197 1=some (3,1,1):=by kernel_rfl
theorem Tryz.vfield197x2:Qg prog 197 2=some (3,2,1):=by kernel_rfl
theorem Tryz.vfield197x3:Qg prog 197 3=some (3,3,1):=by kernel_rfl
theorem Tryz.vfield197x4:Qg prog 197 4=some (63,4,1):=by kernel_rfl
theorem Tryz.vfield197x5:Qg prog 197 5=some (63,5,1):=by kernel_rfl
theorem Tryz.vplaces197:Qy prog 197=some fun j=>([(0,1),(1,1),(2,1),(3,1),(4,1),(5,1)]:List (Nat×Nat))[j]?:=by kernel_rfl
theorem Tryz.vzero197:QN prog 197=some [.pv (.lit (.int .i64 0)),.pv (.lit (.int .i64 0)),.pv (.lit (.int .i64 0)),.pv (.lit (.int .i64 0)),.pv (.slc []),.pv (.slc [])]:=by kernel_rfl
theorem Tryz.bytes197:QaJ prog 197=some 80:=by kernel_rfl
theorem Tryz.vt201:vt prog 201=some (some 4):=by kernel_rfl
theorem Tryz.vfield201x0:Qg prog 201 0=some (3,0,1):=by kernel_rfl
theorem Tryz.vfield201x1:Qg prog 201 1=some (81,1,2):=by kernel_rfl
theorem Tryz.vfield201x2:Qg prog 201 2=some (3,3,1):=by kernel_rfl
theorem Tryz.vplaces201:Qy prog 201=some fun j=>([(0,1),(1,2),(3,1)]:List (Nat×Nat))[j]?:=by kernel_rfl
theorem Tryz.vzero201:QN prog 201=some [.pv (.lit (.int .i64 0)),.pv (.lit (.int .i64 0)),.pv (.lit (.int .i64 0)),.pv (.lit (.int .i64 0))]:=by kernel_rfl
theorem Tryz.bytes201:QaJ prog 201=some 32:=by kernel_rfl
theorem Tryz.leaves201:QaH prog 8 201=some [(0,1),(1,1),(2,1),(3,1)]:=by kernel_rfl
theorem Tryz.eqg201:prog.eqGuardType prog.depth 201=false:=by kernel_rfl
theorem Tryz.vkind231:Qam prog 231=.int .u32:=by kernel_rfl
theorem Tryz.vzero236:QN prog 236=some [.pv (.lit (.int .i64 0)),.pv (.lit (.int .i64 0)),.pv (.lit (.int .i64 0)),.pv (.lit (.int .i64 0)),.pv (.lit (.int .i64 0)),.pv (.lit (.int .u8 0))]:=by kernel_rfl
theorem Tryz.bytes236:QaJ prog 236=some 48:=by kernel_rfl
theorem Tryz.vt255:vt prog 255=some (some 7):=by kernel_rfl
theorem Tryz.vfield255x0:Qg prog 255 0=some (3,0,1):=by kernel_rfl
theorem Tryz.vfield255x1:Qg prog 255 1=some (3,1,1):=by kernel_rfl
theorem Tryz.vfield255x2:Qg prog 255 2=some (3,2,1):=by kernel_rfl
theorem Tryz.vfield255x3:Qg prog 255 3=some (33,3,1):=by kernel_rfl
theorem Tryz.vfield255x4:Qg prog 255 4=some (30,4,1):=by kernel_rfl
theorem Tryz.vfield255x5:Qg prog 255 5=some (37,5,1):=by kernel_rfl
theorem Tryz.vfield255x6:Qg prog 255 6=some (36,6,1):=by kernel_rfl
theorem Tryz.vplaces255:Qy prog 255=some fun j=>([(0,1),(1,1),(2,1),(3,1),(4,1),(5,1),(6,1)]:List (Nat×Nat))[j]?:=by kernel_rfl
theorem Tryz.vzero255:QN prog 255=some [.pv (.lit (.int .i64 0)),.pv (.lit (.int .i64 0)),.pv (.lit (.int .i64 0)),.pv (.slc []),.pv (.slc []),.pv (.slc []),.pv (.slc [])]:=by kernel_rfl
theorem Tryz.vt266:vt prog 266=some (some 3):=by kernel_rfl
theorem Tryz.vfield266x0:Qg prog 266 0=some (3,0,1):=by kernel_rfl
theorem Tryz.vfield266x1:Qg prog 266 1=some (3,1,1):=by kernel_rfl
theorem Tryz.vfield266x2:Qg prog 266 2=some (3,2,1):=by kernel_rfl
theorem Tryz.vzero266:QN prog 266=some [.pv (.lit (.int .i64 0)),.pv (.lit (.int .i64 0)),.pv (.lit (.int .i64 0))]:=by kernel_rfl
theorem Tryz.bytes266:QaJ prog 266=some 24:=by kernel_rfl
theorem Tryz.vkind285:Qam prog 285=.int .u64:=by kernel_rfl
theorem Tryz.vkind286:Qam prog 286=.int .u64:=by kernel_rfl
theorem Tryz.vfield329x0:Qg prog 329 0=some (9,0,1):=by kernel_rfl
theorem Tryz.vfield329x1:Qg prog 329 1=some (3,1,1):=by kernel_rfl
theorem Tryz.vfield329x2:Qg prog 329 2=some (44,2,1):=by kernel_rfl
theorem Tryz.vplaces329:Qy prog 329=some fun j=>([(0,1),(1,1),(2,1)]:List (Nat×Nat))[j]?:=by kernel_rfl
theorem Tryz.vzero329:QN prog 329=some [.pv (.str []),.pv (.lit (.int .i64 0)),.pv (.lit (.int .i64 0))]:=by kernel_rfl
theorem Tryz.vfield341x0:Qg prog 341 0=some (9,0,1):=by kernel_rfl
theorem Tryz.vfield341x1:Qg prog 341 1=some (3,1,1):=by kernel_rfl
theorem Tryz.vfield341x2:Qg prog 341 2=some (4,2,1):=by kernel_rfl
theorem Tryz.vplaces341:Qy prog 341=some fun j=>([(0,1),(1,1),(2,1)]:List (Nat×Nat))[j]?:=by kernel_rfl
theorem Tryz.vzero341:QN prog 341=some [.pv (.str []),.pv (.lit (.int .i64 0)),.pv (.lit (.bool false))]:=by kernel_rfl
attribute [go_sem] Tryz.vt3 Tryz.vkind3 Tryz.vzero3 Tryz.bytes3 Tryz.vt4 Tryz.vt5 Tryz.vkind5 Tryz.vzero5 Tryz.bytes5 Tryz.vt9 Tryz.vkind9 Tryz.vzero9 Tryz.bytes9 Tryz.vt22 Tryz.velem22 Tryz.notInt22 Tryz.vkind22 Tryz.vt24 Tryz.velem24 Tryz.notInt24 Tryz.vkind24 Tryz.vzero24 Tryz.vt26 Tryz.vfield26x0 Tryz.vfield26x1 Tryz.vfield26x2 Tryz.vplaces26 Tryz.vzero26 Tryz.vt27 Tryz.velem27 Tryz.notInt27 Tryz.vkind27 Tryz.vt29 Tryz.vfield29x0 Tryz.vfield29x1 Tryz.vfield29x2 Tryz.vplaces29 Tryz.vzero29 Tryz.vt30 Tryz.velem30 Tryz.notInt30 Tryz.vkind30 Tryz.vt32 Tryz.vfield32x0 Tryz.vfield32x1 Tryz.vplaces32 Tryz.vzero32 Tryz.vt33 Tryz.velem33 Tryz.notInt33 Tryz.vkind33 Tryz.vt34 Tryz.velem34 Tryz.notInt34 Tryz.vkind34 Tryz.vt36 Tryz.vfield36x0 Tryz.vplaces36 Tryz.vzero36 Tryz.vt37 Tryz.velem37 Tryz.notInt37 Tryz.vkind37 Tryz.vt39 Tryz.vfield39x0 Tryz.vfield39x1 Tryz.vfield39x2 Tryz.vfield39x3 Tryz.vfield39x4 Tryz.vfield39x5 Tryz.vfield39x6 Tryz.vfield39x7 Tryz.vplaces39 Tryz.vzero39 Tryz.velem43 Tryz.vkind43 Tryz.vt44 Tryz.vt48 Tryz.vfield48x0 Tryz.vfield48x1 Tryz.vplaces48 Tryz.vzero48 Tryz.leaves48 Tryz.eqg48 Tryz.vt50 Tryz.vfield50x0 Tryz.vfield50x1 Tryz.vfield50x2 Tryz.vfield50x3 Tryz.vplaces50 Tryz.vzero50 Tryz.leaves50 Tryz.eqg50 Tryz.vt52 Tryz.vfield52x0 Tryz.vfield52x1 Tryz.vfield52x2 Tryz.vfield52x3 Tryz.vfield52x4 Tryz.vfield52x5 Tryz.vfield52x6 Tryz.vfield52x7 Tryz.vplaces52 Tryz.vzero52 Tryz.bytes52 Tryz.leaves52 Tryz.eqg52 Tryz.vt53 Tryz.velem53 Tryz.vzero53 Tryz.bytes53 Tryz.leaves53 Tryz.eqg53 Tryz.vfield61x0 Tryz.vfield61x1 Tryz.vplaces61 Tryz.vzero61 Tryz.vt62 Tryz.velem62 Tryz.notInt62 Tryz.vkind62 Tryz.vt63 Tryz.velem63 Tryz.notInt63 Tryz.vkind63 Tryz.vt64 Tryz.velem64 Tryz.notInt64 Tryz.vkind64 Tryz.vt66 Tryz.vfield66x0 Tryz.vfield66x1 Tryz.vfield66x2 Tryz.vfield66x3 Tryz.vfield66x4 Tryz.vplaces66 Tryz.vzero66 Tryz.vt68 Tryz.vfield68x0 Tryz.vfield68x1 Tryz.vplaces68 Tryz.vzero68 Tryz.vt73 Tryz.vplaces73 Tryz.vzero73 Tryz.vt75 Tryz.vt81 Tryz.vfield81x0 Tryz.vfield81x1 Tryz.vplaces81 Tryz.vzero81 Tryz.leaves81 Tryz.eqg81 Tryz.vt83 Tryz.vfield83x0 Tryz.vfield83x1 Tryz.vplaces83 Tryz.vzero83 Tryz.velem87 Tryz.notInt87 Tryz.vt88 Tryz.velem88 Tryz.notInt88 Tryz.velem91 Tryz.notInt91 Tryz.vkind91 Tryz.vfield98x0 Tryz.vfield98x1 Tryz.vfield98x2 Tryz.vfield98x3 Tryz.vplaces98 Tryz.vfield105x0 Tryz.vfield105x1 Tryz.vfield105x2 Tryz.vfield105x3 Tryz.vplaces105 Tryz.vzero105 Tryz.vt107 Tryz.vfield107x0 Tryz.vfield107x1 Tryz.vfield107x2 Tryz.vfield107x3 Tryz.vfield107x4 Tryz.vplaces107 Tryz.vzero107 Tryz.bytes107 Tryz.vt110 Tryz.vfield110x0 Tryz.vfield110x1 Tryz.vfield110x2 Tryz.vfield110x3 Tryz.vplaces110 Tryz.vzero110 Tryz.leaves110 Tryz.eqg110 Tryz.vt112 Tryz.vfield112x0 Tryz.vfield112x1 Tryz.vfield112x2 Tryz.vfield112x3 Tryz.vfield112x4 Tryz.vfield112x5 Tryz.vplaces112 Tryz.vzero112 Tryz.bytes112 Tryz.vfield117x0 Tryz.vfield117x1 Tryz.vfield117x2 Tryz.vfield117x3 Tryz.vfield117x4 Tryz.vplaces117 Tryz.vzero117 Tryz.vt136 Tryz.vt138 Tryz.vfield138x0 Tryz.vfield138x1 Tryz.vfield138x2 Tryz.vfield138x3 Tryz.vfield138x4 Tryz.vfield138x5 Tryz.vfield138x6 Tryz.vplaces138 Tryz.vzero138 Tryz.vt139 Tryz.velem139 Tryz.vplaces139 Tryz.vzero139 Tryz.vplaces153 Tryz.vzero153 Tryz.bytes153 Tryz.vt155 Tryz.vfield155x0 Tryz.vfield155x1 Tryz.vfield155x2 Tryz.vplaces155 Tryz.vzero155 Tryz.vt159 Tryz.vfield159x0 Tryz.vfield159x1 Tryz.vfield159x2 Tryz.vfield159x3 Tryz.vplaces159 Tryz.vzero159 Tryz.bytes159 Tryz.vt167 Tryz.vfield167x0 Tryz.vfield167x1 Tryz.vfield167x2 Tryz.vplaces167 Tryz.vzero167 Tryz.bytes167 Tryz.velem173 Tryz.vkind173 Tryz.vt189 Tryz.vfield189x0 Tryz.vfield189x1 Tryz.vfield189x2 Tryz.vfield189x3 Tryz.vfield189x4 Tryz.vplaces189 Tryz.vzero189 Tryz.vt197 Tryz.vfield197x0 Tryz.vfield197x1 Tryz.vfield197x2 Tryz.vfield197x3 Tryz.vfield197x4 Tryz.vfield197x5 Tryz.vplaces197 Tryz.vzero197 Tryz.bytes197 Tryz.vt201 Tryz.vfield201x0 Tryz.vfield201x1 Tryz.vfield201x2 Tryz.vplaces201 Tryz.vzero201 Tryz.bytes201 Tryz.leaves201 Tryz.eqg201 Tryz.vkind231 Tryz.vzero236 Tryz.bytes236 Tryz.vt255 Tryz.vfield255x0 Tryz.vfield255x1 Tryz.vfield255x2 Tryz.vfield255x3 Tryz.vfield255x4 Tryz.vfield255x5 Tryz.vfield255x6 Tryz.vplaces255 Tryz.vzero255 Tryz.vt266 Tryz.vfield266x0 Tryz.vfield266x1 Tryz.vfield266x2 Tryz.vzero266 Tryz.bytes266 Tryz.vkind285 Tryz.vkind286 Tryz.vfield329x0 Tryz.vfield329x1 Tryz.vfield329x2 Tryz.vplaces329 Tryz.vzero329 Tryz.vfield341x0 Tryz.vfield341x1 Tryz.vfield341x2 Tryz.vplaces341 Tryz.vzero341
end Go.Proofs
namespace Go.Proofs.YtomgpphpkcoolaaGreat
open Go.V Go
open Tryz (prog)
def QzJ(n:Int)(i:Nat):Int:=IntKind.u8.wrap ((IntKind.u64.wrap n).fdiv (2 ^ min (8*(i:Int)).toNat 64))
def QmG(n:Int)(i:Nat):UInt8:=UInt8.ofNat (QzJ n i).toNat
def Qiu(x:Int):IntKind.u8.wrap x=x % 256:=by
 simp[IntKind.wrap,IntKind.signed,IntKind.bits]
def QzK(n:Int)(i:Nat):QzJ n i=((QmG n i).toNat:Int):=by
 unfold QmG QzJ
 rw[Qiu]
 generalize (IntKind.u64.wrap n).fdiv (2 ^ min (8*(i:Int)).toNat 64)=y
 simp only[UInt8.toNat_ofNat']
 omega
def Qn(s:List UInt8)(n:Int)(k:Nat):List UInt8:=s++(Jv k).map (QmG n)
def Qe(s:List UInt8)(n:Int)(k:Nat):(Qn s n k).length=s.length+k:=by simp[Qn]
def Qui(s:List UInt8)(n:Int)(k:Nat):Qn s n (k+1)=Qn s n k++[QmG n k]:=by simp[Qn,List.range_succ]
theorem QIB:bts prog 22 9=true:=by kernel_rfl
def QY(s:List UInt8)(hs:s.length<=1000000000)(n:Int)(k:Nat)(h1:1<=k)(h8:k<=8):VCalls prog 126 [.pv (.str s),.int .i64 n,.int .i64 k] [] (Ret (.pv (.str (Qn s n k)))):=by
 refine dd Tryz.func126 ?_
 simp(config:={ maxSteps:=2000000 }) (implicitDefEqProofs:=false) (disch:=first | omega | assumption | (simp only[]; done) | fail) only[go_sem,Jq,Jc,Jr,Jd,Tryz.f126]
 refine Qj (fun i:{i:Nat // i<=k}=>⟨32,0,[(7,.int .i64 i.1),(2,.int .i64 k),(0,.pv (.str (Qn s n i.1))),(1,.int .i64 n)],[]⟩) (fun i=>k-i.1) ⟨0,by omega⟩ (.inl (by simpa only[Qn,List.range_zero,List.map_nil,JU] using(by refine⟨rfl,rfl,by simp,?_,?_,.inr ⟨?_,?_⟩⟩<;>(repeat' apply Ja)<;>first | rfl | trivial | (intro _; first | rfl | apply Qrn)))) ?_
 intro i
 obtain⟨i,hi⟩:=i
 dsimp only
 simp(config:={ maxSteps:=2000000 }) (implicitDefEqProofs:=false) (disch:=first | omega | assumption | (simp only[]; done) | fail) only[go_sem,Jc,Jd]
 refine Qaw (fun hc=>?_) (fun hc=>?_)<;>simp only[decide_eq_true_eq,decide_eq_false_iff_not,Jf,Jb,Jo,Jm,Jg,Je,beq_iff_eq,beq_eq_false_iff_ne,bne_iff_ne,bne_eq_false_iff_eq,ne_eq] at hc
 ·have hw8:IntKind.u64.wrap (8 * (i:Int)) = 8 * (i:Int):=by simp [IntKind.wrap,IntKind.signed,IntKind.bits]; omega
  have hl:(Qn s n i).length+1<=9223372036854775807:=by rw[Qe]; omega
  simp(config:={ maxSteps:=2000000 }) (implicitDefEqProofs:=false) (disch:=first | omega | assumption | (simp only[]; done) | fail) only[go_sem,V.splice,V.mk,↓reduceIte,Jz,JP,Jc,JA,Jd,hw8,QgH QIB,Qw6]
  refine⟨⟨i+1,by omega⟩,by show k-(i+1)<k-i; omega,?_⟩
  rw[Qui]
  refine QFz (keep:=[]) rfl rfl rfl (by decide) trivial ?_
  refine⟨⟨rfl,rfl⟩,⟨rfl,rfl⟩,⟨rfl,rfl⟩,⟨rfl,rfl⟩,trivial⟩
 ·simp (config:={ maxSteps:=2000000 }) (implicitDefEqProofs:=false) (disch:=first | omega | assumption | (simp only []; done) | fail) only [go_sem,↓reduceIte,Jz,Jc,JA,Jd]
  have hik:i=k:=by omega
  rw[hik]
def Qfi(s:List UInt8)(a:Nat):Nat->Int
 | 0=>0
 | i+1=>bits BinOp.or .u64 (Qfi s a i) (IntKind.u64.wrap (IntKind.u64.wrap (s.getD (a+i) 0).toNat*2 ^ min (8*(i:Int)).toNat 64))
def QBr(s:List UInt8)(a i:Nat)(h:a+i<s.length):s[((a:Int)+(i:Int)).toNat]?=some (s.getD (a+i) 0):=by
 have e:((a:Int)+(i:Int)).toNat=a+i:=by omega
 rw[e,Jh,Jx h]; rfl
def QdO(s:List UInt8)(a k:Int)(h:1<=k/\k<=8)(h0:0<=a)(hh:¬ a+k<=s.length):VCalls prog 193 [.pv (.str s),.int .i64 a,.int .i64 k] [] (Ret (.tup [.int .i64 0,.int .i64 5])):=by
 refine dd Tryz.func193 ?_
 have h1:¬ k<1:=by omega
 have h2:¬ 8<k:=by omega
 have h3:¬ a<0:=by omega
 by_cases h4:(s.length:Int)<a
 ·simp(config:={ maxSteps:=2000000 }) (implicitDefEqProofs:=false) (disch:=first | omega | assumption | (simp only[]; done) | fail) only[go_sem,Jq,Jc,Jr,Jd,Tryz.f193,h1,h2,h3,h4]
 ·have h5:(s.length:Int) - a < k:=by omega
  simp(config:={ maxSteps:=2000000 }) (implicitDefEqProofs:=false) (disch:=first | omega | assumption | (simp only[]; done) | fail) only[go_sem,Jq,Jc,Jr,Jd,Tryz.f193,h1,h2,h3,h4,h5]
def QiK(s:List UInt8)(hs:s.length<=1000000000)(a k:Nat)(h:1<=k/\k<=8)(hh:a+k<=s.length):VCalls prog 193 [.pv (.str s),.int .i64 a,.int .i64 k] [] (Ret (.tup [.int .i64 (IntKind.i64.wrap (Qfi s a k)),.int .i64 0])):=by
 refine dd Tryz.func193 ?_
 have h1:¬ (k:Int)<1:=by omega
 have h2:¬ 8<(k:Int):=by omega
 have h3:¬ (a:Int)<0:=by omega
 have h4:¬ (s.length:Int)<a:=by omega
 have h5:¬ (s.length:Int)-a<k:=by omega
 simp(config:={ maxSteps:=2000000 }) (implicitDefEqProofs:=false) (disch:=first | omega | assumption | (simp only[]; done) | fail) only[go_sem,Jq,Jc,Jr,Jd,Tryz.f193,h1,h2,h3,h4,h5]
 refine Qso (fun i:{i:Nat // i<=k}=>⟨51,0,[(9,.int .i64 i.1),(2,.int .i64 k),(8,.int .u64 (Qfi s a i.1)),(0,.pv (.str s)),(1,.int .i64 a)],[]⟩) (fun i=>k-i.1) ⟨0,by omega⟩ (by refine⟨rfl,rfl,by simp,?_,?_,.inl rfl⟩<;>(repeat' apply Ja)<;>first | rfl | trivial) ?_
 intro i
 obtain⟨i,hi⟩:=i
 dsimp only
 simp(config:={ maxSteps:=2000000 }) (implicitDefEqProofs:=false) (disch:=first | omega | assumption | (simp only[]; done) | fail) only[go_sem,Jc,Jd]
 refine Qaw (fun hc=>?_) (fun hc=>?_)<;>simp only[decide_eq_true_eq,decide_eq_false_iff_not,Jf,Jb,Jo,Jm,Jg,Je,beq_iff_eq,beq_eq_false_iff_ne,bne_iff_ne,bne_eq_false_iff_eq,ne_eq] at hc
 ·have hg:s[((a:Int) + (i:Int)).toNat]? = some (s.getD (a + i) 0):=QBr s a i (by omega)
  have h0:0<=(a:Int)+(i:Int):=by omega
  have hw8:IntKind.u64.wrap (8*(i:Int))=8*(i:Int):=by simp[IntKind.wrap,IntKind.signed,IntKind.bits]; omega
  simp(config:={ maxSteps:=2000000 }) (implicitDefEqProofs:=false) (disch:=first | omega | assumption | (simp only[]; done) | fail) only[go_sem,Jc,Jd,hg,hw8]
  exact⟨⟨i+1,by omega⟩,by show k-(i+1)<k-i; omega,(by refine⟨rfl,rfl,by simp,?_,?_,.inl rfl⟩<;>(repeat' apply Ja)<;>first | rfl | trivial)⟩
 ·simp (config:={ maxSteps:=2000000 }) (implicitDefEqProofs:=false) (disch:=first | omega | assumption | (simp only []; done) | fail) only [go_sem,↓reduceIte,Jz,Jc,JA,Jd]
  have hik:i=k:=by omega
  rw[hik]
def u64N(n:Int):Nat:=(n % 18446744073709551616).toNat
def QBn(n:Int):u64N n<2 ^ 64:=by unfold u64N; omega
def Qiv(n:Int):IntKind.u64.wrap n=(u64N n:Int):=by
 unfold u64N
 simp[IntKind.wrap,IntKind.signed,IntKind.bits]; omega
def Qj0(i:Nat)(h:i<8):min (8*(i:Int)).toNat 64=8*i:=by
 have e:(8*(i:Int)).toNat=8*i:=by omega
 rw[e]; omega
def Qwk(n:Int)(i:Nat)(h:i<8):(QmG n i).toNat=u64N n / 2 ^ (8*i) % 256:=by
 have hx:=QzK n i
 unfold QzJ at hx
 rw[Qiu,Qiv,Qj0 i h] at hx
 have e:((u64N n:Int).fdiv (2 ^ (8*i)))=((u64N n / 2 ^ (8*i):Nat):Int):=by
  have e2:((2:Int) ^ (8*i))=((2 ^ (8*i):Nat):Int):=by rw[J1]; rfl
  rw[e2,Int.fdiv_eq_ediv_of_nonneg _ (Int.natCast_nonneg _)]
  rfl
 rw[e] at hx
 generalize u64N n / 2 ^ (8*i)=q at hx |-
 omega
def QAg(x y:Nat)(hx:x<2 ^ 64)(hy:y<2 ^ 64):bits .or .u64 (x:Int) (y:Int)=((x ||| y:Nat):Int):=by
 have e:bits .or .u64 (x:Int) (y:Int)=IntKind.u64.wrap ((BitVec.ofInt 64 (x:Int) ||| BitVec.ofInt 64 (y:Int)).toNat:Int):=rfl
 rw[e,BitVec.toNat_or]
 have h1:(BitVec.ofInt 64 (x:Int)).toNat=x:=by simp; omega
 have h2:(BitVec.ofInt 64 (y:Int)).toNat=y:=by simp; omega
 rw[h1,h2,Qiv]
 have h3:x ||| y<2 ^ 64:=Nat.or_lt_two_pow hx hy
 unfold u64N; omega
def Qxp(N i:Nat):(N % 2 ^ (8*i)) ||| (N / 2 ^ (8*i) % 256*2 ^ (8*i))=N % 2 ^ (8*(i+1)):=by
 have h:N % 2 ^ (8*i)<2 ^ (8*i):=Kf _ (Kj _)
 rw[Kw,Kt,<- JV h]
 have e:2 ^ (8*(i+1))=2 ^ (8*i)*256:=by rw[Kx,Ky]
 rw[e,Nat.mod_mul]; omega
def Qym(s t:List UInt8)(n:Int)(k i:Nat)(hi:i<k):(Qn s n k++t).getD (s.length+i) 0=QmG n i:=by
 rw[Jh,Qn,JC,List.getElem?_append_right (by omega),List.getElem?_append_left (by simp; omega)]
 simp[hi]
def QhV (s t:List UInt8) (n:Int) (k:Nat) (hk:k<=8):∀ i,i<=k->Qfi (Qn s n k ++ t) s.length i = ((u64N n % 2 ^ (8 * i):Nat):Int)
 | 0,_=>by simp[Qfi,Nat.mod_one]
 | i + 1,hi=>by
   have ih:=QhV s t n k hk i (by omega)
   have h8:i<8:=by omega
   unfold Qfi
   rw[ih,Qym s t n k i (by omega),Qwk n i h8,Qj0 i h8]
   have hb:u64N n / 2 ^ (8*i) % 256<256:=Kf _ (by omega)
   have hw:IntKind.u64.wrap ((u64N n / 2 ^ (8*i) % 256:Nat):Int)=((u64N n / 2 ^ (8*i) % 256:Nat):Int):=by rw[Qiv]; unfold u64N at *; omega
   rw[hw]
   have hp:(2:Nat) ^ (8*i)<=2 ^ 56:=JB (by omega) (by omega)
   have hlt:u64N n / 2 ^ (8*i) % 256*2 ^ (8*i)<2 ^ 64:=by
    have:u64N n / 2 ^ (8*i) % 256*2 ^ (8*i)<=255*2 ^ 56:=Kq (by omega) hp
    omega
   have e2:((u64N n / 2 ^ (8*i) % 256:Nat):Int)*2 ^ (8*i)=((u64N n / 2 ^ (8*i) % 256*2 ^ (8*i):Nat):Int):=by
    rw[Kk,J1]; rfl
   rw[e2]
   have hw2:IntKind.u64.wrap ((u64N n / 2 ^ (8*i) % 256*2 ^ (8*i):Nat):Int)=((u64N n / 2 ^ (8*i) % 256*2 ^ (8*i):Nat):Int):=by
    generalize u64N n / 2 ^ (8*i) % 256*2 ^ (8*i)=z at hlt
    rw[Qiv]; unfold u64N; omega
   rw[hw2,QAg _ _ (Nat.lt_of_le_of_lt (Nat.mod_le _ _) (QBn n)) hlt,Qxp]
def QrV(n:Int)(h : -9223372036854775808<=n/\n<=9223372036854775807):IntKind.i64.wrap ((u64N n % 2 ^ 64:Nat):Int)=n:=by
 rw[IntKind.wrap_i64]; unfold u64N; omega
def QpR(n:Int)(m:Nat)(hm:m<=56):IntKind.i64.wrap ((u64N n % 2 ^ m:Nat):Int)=((u64N n % 2 ^ m:Nat):Int):=by
 have hp:(2:Nat) ^ m<=2 ^ 56:=JB (by omega) hm
 have h3:u64N n % 2 ^ m<2 ^ m:=Kf _ (Kj m)
 rw[IntKind.wrap_i64]
 generalize u64N n % 2 ^ m=q at *
 omega
def rnd(r:Int):Int:=if bits .and .u32 r 1=1 then bits .xor .u32 (r.fdiv 2) 2197175160 else r.fdiv 2
def Qqu:Nat->Int->Int
 | 0,r=>r
 | n+1,r=>rnd (Qqu n r)
def QEP(i:Nat):Int:=Qqu 4 i
def QGQ(i:Nat):List Int:=(Jv 16).map fun j=>if j<i then QEP j else 0
def QGz(r:Int):Int:=bits .xor .u32 (r.fdiv (2 ^ min 4 32)) ((QGQ 16).getD (bits .and .u32 r 15).toNat 0)
def Qru(r:Int)(b:UInt8):Int:=QGz (QGz (bits .xor .u32 r (IntKind.u32.wrap b.toNat)))
def Qno(s:List UInt8):Int:=s.foldl Qru 4294967295
def Qnn(s:List UInt8):Int:=bits .xor .u32 4294967295 (Qno s)
def QsY(s:List UInt8)(i:Nat)(h:i<s.length):Qno (s.take (i+1))=Qru (Qno (s.take i)) (s.getD i 0):=by
 rw[Qno,Jt h,List.foldl_append]
 rw[Jh,Jx h]; rfl
def QGY(x:BitVec 32):rnd (x.toNat:Int)=((rb x).toNat:Int):=by
 have h1:bits .and .u32 (x.toNat:Int) 1=((x &&& 1#32).toNat:Int):=QF2 x 1#32
 have h2:(x.toNat:Int).fdiv 2=((x >>> 1).toNat:Int):=QEz x 1
 have h3:(x &&& 1#32).toNat=x.toNat % 2:=by rw[BitVec.toNat_and]; exact Nat.and_one_is_mod _
 have h4:x.getLsbD 0=decide (x.toNat % 2=1):=by simp[BitVec.getLsbD,Nat.testBit_zero]
 unfold rnd rb
 rw[h1,h2,h3,h4]
 by_cases h:x.toNat % 2=1
 ·rw [if_pos (by omega),if_pos (by simpa using h)]
  exact QrT _ polyB
 ·rw[if_neg (by omega),if_neg (by simpa using h)]; simp
def QAb(n:Nat)(x:BitVec 32):Qqu n (x.toNat:Int)=((rbN n x).toNat:Int):=by
 induction n with
 | zero=>rfl
 | succ n ih=>rw[Qqu,ih,QGY]; rfl
def QAp (x:BitVec 32):QGz (x.toNat:Int) = ((rbN 4 x).toNat:Int):=by
 have h1:bits .and .u32 (x.toNat:Int) 15=((x &&& 15#32).toNat:Int):=QF2 x 15#32
 have h15:(x &&& 15#32).toNat<16:=by rw[BitVec.toNat_and]; exact Nat.lt_succ_of_le Nat.and_le_right
 have h2:(QGQ 16).getD (x &&& 15#32).toNat 0=((rbN 4 (x &&& 15#32)).toNat:Int):=by
  rw[<- QAb]
  simp only[QGQ,Jh,Kg,List.getElem?_range h15,Option.map_some,Option.getD_some,QEP]
  rw[if_pos h15]
 have h3:(x.toNat:Int).fdiv (2 ^ min 4 32)=((x >>> 4).toNat:Int):=QEz x 4
 have e1:x = (x &&& 15#32) ^^^ ((x >>> 4) <<< 4):=by
  apply BitVec.eq_of_getLsbD_eq
  intro i hi
  rw[BitVec.getLsbD_xor,BitVec.getLsbD_and,BitVec.getLsbD_shiftLeft,BitVec.getLsbD_ushiftRight]
  by_cases h:i<4
  ·have h15:(15#32).getLsbD i = true:=by
    rcases i with _ | _ | _ | _ | i<;>first | rfl | omega
   simp[h15,h]
  ·have h15:(15#32).getLsbD i = false:=by
    have:(15#32).getLsbD i=(15:Nat).testBit i:=by simp[BitVec.getLsbD]
    rw[this]; apply Nat.testBit_lt_two_pow
    exact JK (show 15<2 ^ 4 by omega) (JB (by omega) (by omega))
   rw[h15]; simp[h,hi,show 4+(i-4)=i by omega]
 have e2:rbN 4 x=rbN 4 (x &&& 15#32) ^^^ (x >>> 4):=by
  have hs:rbN 4 ((x >>> 4) <<< 4)=x >>> 4:=QBv _ _ (fun i hi=>by rw[BitVec.getLsbD_ushiftRight]; exact BitVec.getLsbD_of_ge _ _ (by omega)) (by omega)
  conv=>lhs; rw[e1]
  rw[QB6,hs]
 unfold QGz
 rw[h1,h3,Jp,h2,QrT,e2,BitVec.xor_comm]
def Qwl(x:BitVec 32)(b:UInt8):Qru (x.toNat:Int) b=((cb x b).toNat:Int):=by
 unfold Qru
 rw[Qwo,QrT,QAp,QAp,<- QB8]; rfl
def QAu:∀ (s:List UInt8) (x:BitVec 32),s.foldl Qru (x.toNat:Int)=((s.foldl cb x).toNat:Int)
 | [],_=>rfl
 | b::s,x=>by rw[Kl,Qwl,QAu s,Kl]
def Qz7(s:List UInt8):Qno s=((s.foldl cb 4294967295#32).toNat:Int):=QAu s 4294967295#32
def QEt(s:List UInt8):Qnn s=((4294967295#32 ^^^ s.foldl cb 4294967295#32).toNat:Int):=by
 rw[Qnn,Qz7]; exact QrT 4294967295#32 _
def Qnm(s:List UInt8):0<=Qnn s/\Qnn s<4294967296:=by
 rw[QEt]
 have:=(4294967295#32 ^^^ s.foldl cb 4294967295#32).isLt
 omega
def QBI(r:Int)(b:UInt8):Int:=Qqu 8 (bits .xor .u32 r (IntKind.u32.wrap b.toNat))
def QxB(x:BitVec 32)(b:UInt8):QBI (x.toNat:Int) b=Qru (x.toNat:Int) b:=by
 rw[Qwl,QBI,Qwo,QrT,QAb]; rfl
def Qqe(s:List UInt8)(i:Nat)(h:i<s.length):Qno (s.take (i+1))=QBI (Qno (s.take i)) (s.getD i 0):=by
 rw[QsY s i h,Qz7 (s.take i),QxB]
def QoG(s:List UInt8)(hs:s.length<=100000000):VCalls prog 128 [.pv (.str s)] [] (Ret (.int .u32 (Qnn s))):=by
 refine dd Tryz.func128 ?_
 simp(config:={ maxSteps:=2000000 }) (implicitDefEqProofs:=false) (disch:=first | omega | assumption | (simp only[]; done) | fail) only[go_sem,Tryz.f128]
 refine Qso (fun i:{i:Nat // i<=s.length}=>⟨32,0,[(4,.int .i64 i.1),(3,.int .u32 (Qno (s.take i.1))),(0,.pv (.str s))],[]⟩) (fun i=>s.length-i.1) ⟨0,by omega⟩ (by refine⟨rfl,rfl,by simp,?_,?_,.inl rfl⟩<;>(repeat' apply Ja)<;>first | rfl | trivial) ?_
 intro i
 obtain⟨i,hi⟩:=i
 dsimp only
 simp(config:={ maxSteps:=2000000 }) (implicitDefEqProofs:=false) (disch:=first | omega | assumption | (simp only[]; done) | fail) only[go_sem,Jc,Jd]
 refine Qaw (fun hc=>?_) (fun hc=>?_)<;>simp only[decide_eq_true_eq,decide_eq_false_iff_not,Jf,Jb,Jo,Jm,Jg,Je,beq_iff_eq,beq_eq_false_iff_ne,bne_iff_ne,bne_eq_false_iff_eq,ne_eq] at hc
 ·have hlt:i < s.length:=by omega
  have hg:s[i]?=some (s.getD i 0):=by rw[Jh,Jx hlt]; rfl
  simp(config:={ maxSteps:=2000000 }) (implicitDefEqProofs:=false) (disch:=first | omega | assumption | (simp only[]; done) | fail) only[go_sem,Jc,Jd,hg]
  refine Qso (fun j:{j:Nat // j<=8}=>⟨32,0,[(5,.int .i64 j.1),(4,.int .i64 i),(3,.int .u32 (Qqu j.1 (bits .xor .u32 (Qno (s.take i)) (IntKind.u32.wrap (s.getD i 0).toNat)))),(0,.pv (.str s))],[]⟩) (fun j=>8-j.1) ⟨0,by omega⟩ (by refine⟨rfl,rfl,by simp,?_,?_,.inl rfl⟩<;>(repeat' apply Ja)<;>first | rfl | trivial) ?_
  intro j
  obtain⟨j,hj⟩:=j
  dsimp only
  simp(config:={ maxSteps:=2000000 }) (implicitDefEqProofs:=false) (disch:=first | omega | assumption | (simp only[]; done) | fail) only[go_sem]
  refine Qaw (fun hcj=>?_) (fun hcj=>?_)<;>simp only[decide_eq_true_eq,decide_eq_false_iff_not,Jf,Jb,Jo,Jm,Jg,Je,beq_iff_eq,beq_eq_false_iff_ne,bne_iff_ne,bne_eq_false_iff_eq,ne_eq] at hcj
  ·simp (config:={ maxSteps:=2000000 }) (implicitDefEqProofs:=false) (disch:=first | omega | assumption | (simp only []; done) | fail) only [go_sem,Jc,Jd]
   refine Qaw (fun hb=>?_) (fun hb=>?_)<;>simp only[decide_eq_true_eq,decide_eq_false_iff_not,Jf,Jb,Jo,Jm,Jg,Je,beq_iff_eq,beq_eq_false_iff_ne,bne_iff_ne,bne_eq_false_iff_eq,ne_eq] at hb
   ·simp (config:={ maxSteps:=2000000 }) (implicitDefEqProofs:=false) (disch:=first | omega | assumption | (simp only []; done) | fail) only [go_sem,Jc,Km,Jd]
    refine⟨⟨j+1,by omega⟩,by show 8-(j+1)<8-j; omega,?_⟩
    have e:Qqu (j+1) (bits .xor .u32 (Qno (s.take i)) (IntKind.u32.wrap (s.getD i 0).toNat))=bits .xor .u32 ((Qqu j (bits .xor .u32 (Qno (s.take i)) (IntKind.u32.wrap (s.getD i 0).toNat))).fdiv 2) 2197175160:=by rw[Qqu,rnd,if_pos hb]
    rw[e]
    exact(by refine⟨rfl,rfl,by simp,?_,?_,.inl rfl⟩<;>(repeat' apply Ja)<;>first | rfl | trivial)
   ·simp (config:={ maxSteps:=2000000 }) (implicitDefEqProofs:=false) (disch:=first | omega | assumption | (simp only []; done) | fail) only [go_sem,Jc,Km,Jd]
    refine⟨⟨j+1,by omega⟩,by show 8-(j+1)<8-j; omega,?_⟩
    have e:Qqu (j+1) (bits .xor .u32 (Qno (s.take i)) (IntKind.u32.wrap (s.getD i 0).toNat))=(Qqu j (bits .xor .u32 (Qno (s.take i)) (IntKind.u32.wrap (s.getD i 0).toNat))).fdiv 2:=by rw[Qqu,rnd,if_neg hb]
    rw[e]
    exact(by refine⟨rfl,rfl,by simp,?_,?_,.inl rfl⟩<;>(repeat' apply Ja)<;>first | rfl | trivial)
  ·have hj8:j = 8:=by omega
   subst hj8
   simp(config:={ maxSteps:=2000000 }) (implicitDefEqProofs:=false) (disch:=first | omega | assumption | (simp only[]; done) | fail) only[go_sem,↓reduceIte,Jc,Jd]
   refine⟨⟨i+1,hlt⟩,by show s.length-(i+1)<s.length-i; omega,?_⟩
   have e:Qno (s.take (i+1))=Qqu 8 (bits .xor .u32 (Qno (s.take i)) (IntKind.u32.wrap (s.getD i 0).toNat)):=Qqe s i hlt
   rw[e]
   exact(by refine⟨rfl,rfl,by simp,?_,?_,.inl rfl⟩<;>(repeat' apply Ja)<;>first | rfl | trivial)
 ·simp (config:={ maxSteps:=2000000 }) (implicitDefEqProofs:=false) (disch:=first | omega | assumption | (simp only []; done) | fail) only [go_sem,↓reduceIte,Jz,Jc,JA,Jd]
  rw[Ji (by omega)]
  rfl
def frm(s:List UInt8):List UInt8:=if s.length<=8392 then Qn (Qn [] s.length 4++s) (Qnn (Qn [] s.length 4++s)) 4 else []
def QoN(s:List UInt8)(hs:s.length<=90000000):VCalls prog 190 [.pv (.str s)] [] (Ret (.pv (.str (frm s)))):=by
 refine dd Tryz.func190 ?_
 by_cases h:s.length<=8392
 ·have h1:¬ 8392 < (s.length:Int):=by omega
  have hl:=Qe [] s.length 4
  simp only[J2,Kh] at hl
  have hl2:(Qn [] s.length 4++s).length<=10000:=by rw[Js,hl]; omega
  simp(config:={ maxSteps:=2000000 }) (implicitDefEqProofs:=false) (disch:=first | omega | assumption | (simp only[]; done) | fail) only[go_sem,Jc,Jd,Tryz.f190,h1]
  refine Qae (QY [] (by simp) s.length 4 (by omega) (by omega)) rfl ?_
  simp(config:={ maxSteps:=2000000 }) (implicitDefEqProofs:=false) (disch:=first | omega | assumption | (simp only[]; done) | fail) only[go_sem,Jc,Jd]
  refine Qae (QoG _ (by omega)) rfl ?_
  have hx:=Qnm (Qn [] s.length 4++s)
  simp(config:={ maxSteps:=2000000 }) (implicitDefEqProofs:=false) (disch:=first | omega | assumption | (simp only[]; done) | fail) only[go_sem,Jz,Jc,JA,Jd]
  refine Qae (QY (Qn [] s.length 4++s) (by omega) _ 4 (by omega) (by omega)) rfl ?_
  simp(config:={ maxSteps:=2000000 }) (implicitDefEqProofs:=false) (disch:=first | omega | assumption | (simp only[]; done) | fail) only[go_sem,↓reduceIte,frm,h]
 ·have h1:8392 < (s.length:Int):=by omega
  simp(config:={ maxSteps:=2000000 }) (implicitDefEqProofs:=false) (disch:=first | omega | assumption | (simp only[]; done) | fail) only[go_sem,↓reduceIte,Jc,Jd,Tryz.f190,h1,frm,h]
def leN(s:List UInt8)(a:Nat):Nat->Nat
 | 0=>0
 | i+1=>leN s a i+(s.getD (a+i) 0).toNat*2 ^ (8*i)
def Ql5 (s:List UInt8) (a:Nat):∀ i,leN s a i < 2 ^ (8 * i)
 | 0=>by simp[leN]
 | i + 1=>by
   have ih:=Ql5 s a i
   have hb:=(s.getD (a+i) 0).toNat_lt
   rw[leN,Kx,Ky]
   have:(s.getD (a+i) 0).toNat*2 ^ (8*i)<=255*2 ^ (8*i):=Nat.mul_le_mul_right _ (by omega)
   omega
def Qfh (s:List UInt8) (a:Nat):∀ i,i<=8->Qfi s a i = (leN s a i:Int)
 | 0,_=>rfl
 | i + 1,hi=>by
   have ih:=Qfh s a i (by omega)
   have hlt:=Ql5 s a i
   have hb:=(s.getD (a+i) 0).toNat_lt
   unfold Qfi
   rw[ih,Qj0 i (by omega)]
   have hw:IntKind.u64.wrap ((s.getD (a+i) 0).toNat:Int)=((s.getD (a+i) 0).toNat:Int):=by rw[Qiv]; unfold u64N; omega
   have hp:(2:Nat) ^ (8*i)<=2 ^ 56:=JB (by omega) (by omega)
   have hm:(s.getD (a+i) 0).toNat*2 ^ (8*i)<=255*2 ^ 56:=Kq (by omega) hp
   have e2:((s.getD (a+i) 0).toNat:Int)*2 ^ (8*i)=(((s.getD (a+i) 0).toNat*2 ^ (8*i):Nat):Int):=by
    rw[Kk,J1]; rfl
   rw[hw,e2]
   have hw2:IntKind.u64.wrap (((s.getD (a+i) 0).toNat*2 ^ (8*i):Nat):Int)=(((s.getD (a+i) 0).toNat*2 ^ (8*i):Nat):Int):=by
    generalize (s.getD (a+i) 0).toNat*2 ^ (8*i)=z at hm
    rw[Qiv]; unfold u64N; omega
   have h64:leN s a i<2 ^ 64:=JK hlt (JB (by omega) (by omega))
   rw[hw2,QAg _ _ h64 (by omega),leN]
   congr 1
   rw[Kw,Kt _ (2 ^ (8*i)),<- JV hlt,Nat.add_comm]
def n4(s:List UInt8)(a:Nat):Nat:=leN s a 4
def QCp(s:List UInt8)(a:Nat):n4 s a<4294967296:=Ql5 s a 4
def QAG(s:List UInt8)(a:Nat):IntKind.i64.wrap (Qfi s a 4)=(n4 s a:Int):=by
 rw[Qfh s a 4 (by omega)]
 have:=QCp s a
 unfold n4 at this |-
 rw[IntKind.wrap_i64]; omega
def QEO(s:List UInt8)(hs:s.length<=100000000)(a:Nat)(hh:a+4<=s.length):VCalls prog 193 [.pv (.str s),.int .i64 a,.int .i64 4] [] (Ret (.tup [.int .i64 (n4 s a),.int .i64 0])):=by
 have h:=QiK s (by omega) a 4 (by omega) hh
 rwa [QAG] at h
section
structure Ce where
 set:Bool
 data:List UInt8
structure Ch where
 pg:Int
 sl:Int
 b:Ce
 a:Ce
structure E where
 lsn:Int
 kind:Int
 tx:Int
 ptx:Int
 ppg:Int
 ref:Int
 c:Ch
 blob:List UInt8
def Ce.d(x:Ce):List DV:=[.bool x.set,.pv (.str x.data)]
def Ch.d(x:Ch):List DV:=[.int .i64 x.pg,.int .i64 x.sl,.bool x.b.set,.pv (.str x.b.data),.bool x.a.set,.pv (.str x.a.data)]
def E.d(x:E):List DV:=[.int .i64 x.lsn,.int .i64 x.kind,.int .i64 x.tx,.int .i64 x.ptx,.int .i64 x.ppg,.int .i64 x.ref,.int .i64 x.c.pg,.int .i64 x.c.sl,.bool x.c.b.set,.pv (.str x.c.b.data),.bool x.c.a.set,.pv (.str x.c.a.data),.pv (.str x.blob)]
def Ce0:Ce:=⟨false,[]⟩
def Ch0:Ch:=⟨0,0,Ce0,Ce0⟩
def E0:E:=⟨0,0,0,0,0,0,Ch0,[]⟩
def Ce.okB(x:Ce):Bool:=decide (x.data.length<=12)&&(x.set||x.data==[])
def Ch.okB(x:Ch):Bool:=decide (0<=x.pg)&&decide (x.pg<64)&&decide (0<=x.sl)&&decide (x.sl<16)&&x.b.okB&&x.a.okB
def Ce.no(x:Ce):Bool:=!x.set&&x.data==[]
def Ch.no(x:Ch):Bool:=x.pg==0&&x.sl==0&&x.b.no&&x.a.no
def bef(n l:Int):Bool:=decide (0<=n)&&decide (n<l)
attribute [local go_sem] Ce.d Ch.d E.d QV Qao
def QpK(x:Ce):VCalls prog 115 [.agg x.d] [] (Ret (.bool x.okB)):=by
 refine dd Tryz.func115 ?_
 (unfold Tryz.f115; refine rn trivial ?_)
 refine rn F ?_
 repeat' (first
  | with_reducible exact⟨⟩
  | (refine sG F ?_ ?_<;>intro hZ))
 all_goals (first | rfl | (congr 3; rw[Jk]; (try simp only[Ce.okB,decide_eq_true_eq,Jb,Jf,Jg,Je,decide_eq_false_iff_not,beq_iff_eq,bne_iff_ne,ne_eq,Jl,Jn,iff_true,true_iff,iff_false,false_iff]); first | done | omega | grind))
def Qhe(x:Ce):VCalls prog 221 [.agg x.d] [] (Ret (.bool x.okB)):=by
 refine dd Tryz.func221 ?_
 (unfold Tryz.f221; refine rn trivial ?_)
 refine rn F ?_
 repeat' (first
  | with_reducible exact⟨⟩
  | (refine sG F ?_ ?_<;>intro hZ))
 all_goals (first | rfl | (congr 3; rw[Jk]; (try simp only[Ce.okB,decide_eq_true_eq,Jb,Jf,Jg,Je,decide_eq_false_iff_not,beq_iff_eq,bne_iff_ne,ne_eq,Jl,Jn,iff_true,true_iff,iff_false,false_iff]); first | done | omega | grind))
def QFb(x:Ch):VCalls prog 78 [.agg x.d] [] (Ret (.bool x.no)):=by
 refine dd Tryz.func78 ?_
 (unfold Tryz.f78; refine rn trivial ?_)
 simp only[Ch.no,Ce.no,Bool.and_assoc]
def Qko(n:Int)(x:E):VCalls prog 52 [.int .i64 n,.agg x.d] [] (Ret (.bool (bef n x.lsn))):=by
 refine dd Tryz.func52 ?_
 (unfold Tryz.f52; refine rn trivial ?_)
 refine rn F ?_
 repeat' (first
  | with_reducible exact⟨⟩
  | (refine sG F ?_ ?_<;>intro hZ))
 all_goals (first | rfl | (congr 3; rw[Jk]; (try simp only[bef,decide_eq_true_eq,Jb,Jf,Jg,Je,decide_eq_false_iff_not,beq_iff_eq,bne_iff_ne,ne_eq,Jl,Jn,iff_true,true_iff,iff_false,false_iff]); first | done | omega | grind))
def Qhf(n l:Int):VCalls prog 145 [.int .i64 n,.int .i64 l] [] (Ret (.bool (bef n l))):=by
 refine dd Tryz.func145 ?_
 (unfold Tryz.f145; refine rn trivial ?_)
 refine rn F ?_
 repeat' (first
  | with_reducible exact⟨⟩
  | (refine sG F ?_ ?_<;>intro hZ))
 all_goals (first | rfl | (congr 3; rw[Jk]; (try simp only[bef,decide_eq_true_eq,Jb,Jf,Jg,Je,decide_eq_false_iff_not,beq_iff_eq,bne_iff_ne,ne_eq,Jl,Jn,iff_true,true_iff,iff_false,false_iff]); first | done | omega | grind))
def QCe(n:Int):VCalls prog 114 [.int .i64 n] [] (Ret (.bool (decide (0<=n)&&decide (n<64)))):=by
 refine dd Tryz.func114 ?_
 (unfold Tryz.f114; refine rn trivial ?_)
 refine rn F ?_
 repeat' (first
  | with_reducible exact⟨⟩
  | (refine sG F ?_ ?_<;>intro hZ))
 all_goals (first | rfl | (congr 3; rw[Jk]; (try simp only[decide_eq_true_eq,Jb,Jf,Jg,Je,decide_eq_false_iff_not,beq_iff_eq,bne_iff_ne,ne_eq,Jl,Jn,iff_true,true_iff,iff_false,false_iff]); first | done | omega | grind))
def QzU(x:E):VCalls prog 77 [.agg x.d] [] (Ret (.bool true)):=by
 refine dd Tryz.func77 ?_
 (unfold Tryz.f77; refine rn trivial ?_; try with_reducible exact⟨⟩)
def QsM(x:E):VCalls prog 80 [.agg x.d] [] (Ret (.bool (decide (1<=x.ref)&&decide (x.ref<=x.ptx)))):=by
 refine dd Tryz.func80 ?_
 (unfold Tryz.f80; refine rn trivial ?_)
 refine rn F ?_
 repeat' (first
  | with_reducible exact⟨⟩
  | (refine sG F ?_ ?_<;>intro hZ))
 all_goals (first | rfl | (congr 3; rw[Jk]; (try simp only[decide_eq_true_eq,Jb,Jf,Jg,Je,decide_eq_false_iff_not,beq_iff_eq,bne_iff_ne,ne_eq,Jl,Jn,iff_true,true_iff,iff_false,false_iff]); first | done | omega | grind))
def Ch.ix(x:Ch):Bool:=x.sl==0&&x.b.no&&x.a.no&&decide (0<=x.pg)&&decide (x.pg<64)
def QCS(x:Ch):VCalls prog 81 [.agg x.d] [] (Ret (.bool x.ix)):=by
 refine dd Tryz.func81 ?_
 (unfold Tryz.f81; refine rn trivial ?_)
 refine rn F ?_
 repeat' (first
  | with_reducible exact⟨⟩
  | (refine sG F ?_ ?_<;>intro hZ))
 all_goals (first | rfl | (congr 3; rw[Jk]; (try simp only[Ch.ix,Ce.no,decide_eq_true_eq,Jb,Jf,Jg,Je,decide_eq_false_iff_not,beq_iff_eq,bne_iff_ne,ne_eq,Jl,Jn,iff_true,true_iff,iff_false,false_iff]); first | done | omega | grind))
def QhL(x:E):VCalls prog 17 [.agg x.d] [] (Ret (.bool (x.kind==1||x.kind==2))):=by
 refine dd Tryz.func17 ?_
 (unfold Tryz.f17; refine rn trivial ?_)
 refine rn F ?_
 repeat' (first
  | with_reducible exact⟨⟩
  | (refine sG F ?_ ?_<;>intro hZ))
 all_goals (first | rfl | (congr 3; rw[Jk]; (try simp only[decide_eq_true_eq,Jb,Jf,Jg,Je,decide_eq_false_iff_not,beq_iff_eq,bne_iff_ne,ne_eq,Jl,Jn,iff_true,true_iff,iff_false,false_iff]); first | done | omega | grind))
def Qcx(x:E):VCalls prog 139 [.agg x.d] [] (Ret (.bool (x.kind==1||x.kind==2))):=by
 refine dd Tryz.func139 ?_
 (unfold Tryz.f139; refine rn trivial ?_)
 refine rn F ?_
 repeat' (first
  | with_reducible exact⟨⟩
  | (refine sG F ?_ ?_<;>intro hZ))
 all_goals (first | rfl | (congr 3; rw[Jk]; (try simp only[decide_eq_true_eq,Jb,Jf,Jg,Je,decide_eq_false_iff_not,beq_iff_eq,bne_iff_ne,ne_eq,Jl,Jn,iff_true,true_iff,iff_false,false_iff]); first | done | omega | grind))
def QFS(x:Ch):VCalls prog 79 [.agg x.d] [] (Ret (.bool x.okB)):=by
 refine dd Tryz.func79 ?_
 (unfold Tryz.f79; refine rn trivial ?_)
 refine rn F ?_
 repeat' (first
  | with_reducible exact⟨⟩
  | (refine sG F ?_ ?_<;>intro hZ)
  | refine vp F (QCe x.pg) ?_
  | refine vp F (QpK x.b) ?_
  | refine vp F (QpK x.a) ?_)
 all_goals (first | rfl | (congr 3; rw[Jk]; (try simp only[Ch.okB,decide_eq_true_eq,Jb,Jf,Jg,Je,decide_eq_false_iff_not,beq_iff_eq,bne_iff_ne,ne_eq,Jl,Jn,iff_true,true_iff,iff_false,false_iff]); first | done | omega | grind))
def Qt6(x:Ch):VCalls prog 189 [.agg x.d] [] (Ret (.bool x.okB)):=by
 refine dd Tryz.func189 ?_
 (unfold Tryz.f189; refine rn trivial ?_)
 refine rn F ?_
 repeat' (first
  | with_reducible exact⟨⟩
  | (refine sG F ?_ ?_<;>intro hZ)
  | refine vp F (Qhe x.b) ?_
  | refine vp F (Qhe x.a) ?_)
 all_goals (first | rfl | (congr 3; rw[Jk]; (try simp only[Ch.okB,decide_eq_true_eq,Jb,Jf,Jg,Je,decide_eq_false_iff_not,beq_iff_eq,bne_iff_ne,ne_eq,Jl,Jn,iff_true,true_iff,iff_false,false_iff]); first | done | omega | grind))
def rl(tx ch pg rf bl:Bool)(f g:Nat):List DV:=[.bool tx,.bool ch,.bool pg,.bool rf,.bool bl,.fn (.func f) [] [],.fn (.func g) [] []]
def rl0:List DV:=[.bool false,.bool false,.bool false,.bool false,.bool false,.pv (.lit .nilFunc),.pv (.lit .nilFunc)]
def QxX:List DV:=rl true true false false false 77 78
def QtK:List DV:=rl false false false false true 77 78
def QEI:List DV:=rl0++rl true false true false false 77 79++rl true true true true false 80 79++QxX++QxX++QxX++QtK++rl false false false true false 77 81++QtK
def QBE:VCalls prog 53 [] [] (Ret (.agg QEI)):=by
 refine dd Tryz.func53 ?_
 (unfold Tryz.f53; refine rn trivial ?_)
 rfl
end
section
attribute [local go_sem] QEI rl0 rl QxX QtK
def txB(n:Int):Bool:=decide (1<=n)&&decide (n<=1073741824)
def E.kindB(e:E):Bool:=
 if e.kind=1 then txB e.tx&&e.ref==0&&e.blob==[]&&e.c.okB
 else if e.kind=2 then txB e.tx&&e.ptx != 0&&e.blob==[]&&decide (1<=e.ref)&&decide (e.ref<=e.ptx)&&e.c.okB
 else if e.kind=3\/e.kind=4\/e.kind=5 then txB e.tx&&e.ptx != 0&&e.ppg==0&&e.ref==0&&e.blob==[]&&e.c.no
 else if e.kind=6\/e.kind=8 then e.tx==0&&e.ptx==0&&e.ppg==0&&e.ref==0&&decide (e.blob.length<=8192)&&e.c.no
 else if e.kind=7 then e.tx==0&&e.ptx==0&&e.ppg==0&&e.blob==[]&&e.c.ix
 else false
def E.okB(e:E):Bool:=decide (1<=e.lsn)&&decide (e.lsn<=1099511627776)&&bef e.ptx e.lsn&&bef e.ppg e.lsn&&bef e.ref e.lsn&&e.kindB
theorem Qpg(lsn kind tx ptx ppg ref:Int)(c:Ch)(blob:List UInt8):(⟨lsn,kind,tx,ptx,ppg,ref,c,blob⟩:E).kindB =
 if kind=1 then txB tx&&ref==0&&blob==[]&&c.okB
 else if kind=2 then txB tx&&ptx != 0&&blob==[]&&decide (1<=ref)&&decide (ref<=ptx)&&c.okB
 else if kind=3\/kind=4\/kind=5 then txB tx&&ptx != 0&&ppg==0&&ref==0&&blob==[]&&c.no
 else if kind=6\/kind=8 then tx==0&&ptx==0&&ppg==0&&ref==0&&decide (blob.length<=8192)&&c.no
 else if kind=7 then tx==0&&ptx==0&&ppg==0&&blob==[]&&c.ix
 else false:=rfl
def QyT{e:E}(h:e.kind<1\/8<e.kind):e.kindB=false:=by
 unfold E.kindB; rw[if_neg (by omega),if_neg (by omega),if_neg (by omega),if_neg (by omega),if_neg (by omega)]
def QfF(k:Int):(k<1\/8<k)\/k=1\/k=2\/k=3\/k=4\/k=5\/k=6\/k=7\/k=8:=by omega
def QBj(e:E):VCalls prog 32 [.agg e.d] [] (Ret (.bool e.okB)):=by
 refine dd Tryz.func32 ?_
 obtain⟨lsn,kind,tx,ptx,ppg,ref,c,blob⟩:=e
 have r1:=Qko ptx ⟨lsn,kind,tx,ptx,ppg,ref,c,blob⟩
 have r2:=Qko ppg ⟨lsn,kind,tx,ptx,ppg,ref,c,blob⟩
 have r3:=Qko ref ⟨lsn,kind,tx,ptx,ppg,ref,c,blob⟩
 have r4:=QzU ⟨lsn,kind,tx,ptx,ppg,ref,c,blob⟩
 have r5:=QsM ⟨lsn,kind,tx,ptx,ppg,ref,c,blob⟩
 have q1:=QFb c
 have q2:=QFS c
 have q3:=QCS c
 have e1:(⟨lsn,kind,tx,ptx,ppg,ref,c,blob⟩:E).okB=(decide (1<=lsn)&&decide (lsn<=1099511627776)&&bef ptx lsn&&bef ppg lsn&&bef ref lsn&&(⟨lsn,kind,tx,ptx,ppg,ref,c,blob⟩:E).kindB):=rfl
 dsimp only[E.d] at *
 generalize bef ptx lsn=B1 at *
 generalize bef ppg lsn=B2 at *
 generalize bef ref lsn=B3 at *
 have e2:=Qpg lsn kind tx ptx ppg ref c blob
 dsimp only[Ch.d] at q1 q2 q3
 generalize c.no=N at *
 generalize c.okB=K at *
 generalize c.ix=X at *
 have e3:=@QyT ⟨lsn,kind,tx,ptx,ppg,ref,c,blob⟩
 dsimp only at e3
 generalize (⟨lsn,kind,tx,ptx,ppg,ref,c,blob⟩:E).kindB=Q at *
 generalize (⟨lsn,kind,tx,ptx,ppg,ref,c,blob⟩:E).okB=R at *
 (unfold Tryz.f32; refine rn trivial ?_)
 refine rn F ?_
 repeat' (first
  | with_reducible exact⟨⟩
  | (refine sG F ?_ ?_<;>intro hZ)
  | (refine sB F ?_ ?_<;>intro hZ)
  | refine vp F (r1) ?_
  | refine vp F (r2) ?_
  | refine vp F (r3) ?_
  | (refine Qd (id:=3) [1,2] [⟨[4],[],0,[1,2],[3]⟩,⟨[4],[4],5,[],[]⟩] (by kernel_rfl) (by kernel_rfl) ?_; refine rn F ?_))
 all_goals first
  | (congr 3; rw[Jk,e1]; simp only[Jb,decide_eq_true_eq,Jl,false_iff]; first | omega | (intro h; simp_all; done) | (intro h; rw[e3 (by omega)] at h; simp at h; done))
  | skip
 all_goals
  have hT:R=Q:=by rw[e1]; simp_all
  rcases QfF kind with hk | rfl | rfl | rfl | rfl | rfl | rfl | rfl | rfl
  ·omega
 all_goals
  refine rn F ?_
  repeat' (first
   | with_reducible exact⟨⟩
   | (refine sG F ?_ ?_<;>intro hZ)
   | (refine sB F ?_ ?_<;>intro hZ)
   | refine vp F (QBE) ?_
   | refine vp F (r4) ?_
   | refine vp F (r5) ?_
   | refine vp F (q1) ?_
   | refine vp F (q2) ?_
   | refine vp F (q3) ?_)
 all_goals (try (congr 3; rw[hT,Jk,e2]; clear hT e1 e2 e3 r1 r2 r3 r4 r5 q1 q2 q3; simp[txB]; first | omega | grind))
 all_goals skip
end
section
def encE:Enc E:=⟨13,fun x=>[.lit (.int .i64 x.lsn),.lit (.int .i64 x.kind),.lit (.int .i64 x.tx),.lit (.int .i64 x.ptx),.lit (.int .i64 x.ppg),.lit (.int .i64 x.ref),.lit (.int .i64 x.c.pg),.lit (.int .i64 x.c.sl),.lit (.bool x.c.b.set),.str x.c.b.data,.lit (.bool x.c.a.set),.str x.c.a.data,.str x.blob],by decide,fun _=>rfl⟩
def Qhr(l:List E):(cells encE l).length=l.length*13:=QJ encE l
def QmP(l:List E)(n:Nat)(h:l.length*13<=n):(cells encE l).take n=cells encE l:=by rw[Ji]; rw[Qhr]; exact h
def QmM(l m:List E):cells encE l++cells encE m=cells encE (l++m):=(QA encE l m).symm
def Qlc(l:List E)(T:TypeId)(a b:Nat)(h:a<=b/\b<=l.length):QkC (some (none,T,13)) (fz encE l) a b=some (.pv (.sl (fz encE ((l.take b).drop a)))):=QgJ encE l T a b h
def Qk9(l:List E):(fz encE l=[]\/(fz encE l)[0]?.map JE=some 13)=True:=Qhz encE l
def Qmo(h:l.length=len):QgF n hp 0 13 len (some (cells encE l))=some (.sl (fz encE l)):=QX encE h
def QdB(l:List E)(e:E):cells encE l++[.pv (.lit (.int .i64 e.lsn)),.pv (.lit (.int .i64 e.kind)),.pv (.lit (.int .i64 e.tx)),.pv (.lit (.int .i64 e.ptx)),.pv (.lit (.int .i64 e.ppg)),.pv (.lit (.int .i64 e.ref)),.pv (.lit (.int .i64 e.c.pg)),.pv (.lit (.int .i64 e.c.sl)),.pv (.lit (.bool e.c.b.set)),.pv (.str e.c.b.data),.pv (.lit (.bool e.c.a.set)),.pv (.str e.c.a.data),.pv (.str e.blob)]=cells encE (l++[e]):=by rw[QA]; rfl
def Qf{α:Type}(l:List α)(i:Nat)(h:i<l.length)(d:α):l.getD i d=l[i]:=by rw[Jh,Jx h]; rfl
structure To(n:Nat) where
 i:Nat
 hi:i<=n
structure Okay(n:Nat)(c:Nat->Bool) where
 i:Nat
 hi:i<=n
 ok:∀ k,k<i->c k=true
def Okay.start(n:Nat)(c:Nat->Bool):Okay n c:=⟨0,JJ _,fun k h=>by omega⟩
def Okay.next{n:Nat}{c:Nat->Bool}(s:Okay n c)(h:s.i<n)(hc:c s.i=true):Okay n c:=⟨s.i+1,h,fun k hk=>by
 rcases J3 k s.i with hlt | hge
 ·exact s.ok k hlt
 ·obtain rfl:k = s.i:=by omega
  exact hc⟩
def Okay.all(s:Okay n c)(h:¬ s.i<n):(Jv n).all c=true:=by
 rw[JI]
 intro k hk
 rw[JG] at hk
 exact s.ok k (by omega)
def QaK(h:i<n)(hc:c i=false):(Jv n).all c=false:=by
 rw[List.all_eq_false]
 exact⟨i,JG.2 h,by rw[hc]; decide⟩
def Qn4(l:List E)(i:Nat)(h:i<l.length):(fz encE l)[i]?=some [.lit (.int .i64 (l.getD i E0).lsn),.lit (.int .i64 (l.getD i E0).kind),.lit (.int .i64 (l.getD i E0).tx),.lit (.int .i64 (l.getD i E0).ptx),.lit (.int .i64 (l.getD i E0).ppg),.lit (.int .i64 (l.getD i E0).ref),.lit (.int .i64 (l.getD i E0).c.pg),.lit (.int .i64 (l.getD i E0).c.sl),.lit (.bool (l.getD i E0).c.b.set),.str (l.getD i E0).c.b.data,.lit (.bool (l.getD i E0).c.a.set),.str (l.getD i E0).c.a.data,.str (l.getD i E0).blob]:=by rw[Qf l i h]; exact QiU encE l i h
structure Lg where
 f:Int
 es:List E
 d:Int
def Lg.c(x:Lg):List DV:=[.int .i64 x.f,.pv (.sl (fz encE x.es)),.int .i64 x.d]
attribute [local go_sem] Lg.c
def Lg0:Lg:=⟨0,[],0⟩
def Lg.hd(x:Lg):Prop:=1<=x.f/\x.f<=1099511627776/\x.es.length<=4096/\x.f-1<=x.d/\x.d<=x.f+x.es.length-1
instance (x:Lg):Decidable x.hd:=by unfold Lg.hd; infer_instance
def lgC(x:Lg)(i:Nat):Bool:=decide ((x.es.getD i E0).lsn=x.f+i)&&(x.es.getD i E0).okB
def lgB(x:Lg):Bool:=decide x.hd&&(Jv x.es.length).all (lgC x)
def Lg.end_(x:Lg):Int:=x.f+x.es.length-1
def QaG{x:Lg}(h:lgB x=true):x.hd:=by unfold lgB at h; simp at h; exact h.1
def QFp(x:Lg)(h1 : -1099511627776<=x.f/\x.f<=1099511627776)(h2:x.es.length<=1000000):VCalls prog 31 [.agg x.c] [] (Ret (.int .i64 x.end_)):=by
 refine dd Tryz.func31 ?_
 obtain⟨f,es,d⟩:=x
 dsimp only at h1 h2
 (unfold Tryz.f31; refine rn trivial ?_)
 (refine rn F ?_; try with_reducible exact⟨⟩)
 all_goals rfl
def Qpj(x:Lg)(hx:x.es.length<=9223372036854775807):VCalls prog 25 [.agg x.c] [] (Ret (.bool (lgB x))):=by
 refine dd Tryz.func25 ?_
 obtain⟨f,es,d⟩:=x
 dsimp only at hx
 have hr:=fun(i:Nat)=>QBj (es.getD i E0)
 have c1:=QFp ⟨f,es,d⟩
 have hlg:∀ i,lgC ⟨f,es,d⟩ i=true ↔ (es.getD i E0).lsn=f+i/\(es.getD i E0).okB=true:=fun i=>by simp[lgC]
 have hB:lgB ⟨f,es,d⟩=(decide (Lg.hd ⟨f,es,d⟩)&&(Jv es.length).all (lgC ⟨f,es,d⟩)):=rfl
 have hH:Lg.hd ⟨f,es,d⟩=(1<=f/\f<=1099511627776/\es.length<=4096/\f-1<=d/\d<=f+es.length-1):=rfl
 have no:¬ Lg.hd ⟨f,es,d⟩->lgB ⟨f,es,d⟩=false:=fun h=>by rw[hB,decide_eq_false h]; rfl
 unfold Lg.c at c1 |-
 unfold Lg.end_ at c1
 unfold E.d at hr
 dsimp only at c1 |-
 generalize lgC ⟨f,es,d⟩=lc at *
 generalize lgB ⟨f,es,d⟩=b at *
 (unfold Tryz.f25; refine rn trivial ?_)
 refine rn F ?_
 repeat' (first
  | with_reducible exact⟨⟩
  | (refine sG F ?_ ?_<;>intro hZ)
  | (refine sB F ?_ ?_<;>intro hZ)
  | refine vp F (c1 (by omega) (by omega)) ?_
  | (refine Qd (id:=1) [0,1,2,3,4,5,6,7,8,9,10,11,12,13,14,15,16,17,18,19,20,21,22,23,24,25] [⟨[],[],26,[0,1,2,3,4,5,6,7,8,9,10,11,12,13,14,15,16,17,18,19,20,21,23,24],[27,28]⟩] (by kernel_rfl) (by kernel_rfl) ?_; refine rn F ?_))
 all_goals first | (rw[no (by rw[hH]; omega)]) | skip
 refine Qj (fun s:Okay es.length lc=>⟨55,0,[(37,.int .i64 s.i),(36,.int .i64 es.length),(35,.pv (.sl (fz encE es))),(1,.ptr 0 0)],[⟨26,true,[.int .i64 f,.pv (.sl (fz encE es)),.int .i64 d]⟩]⟩) (fun s=>es.length-s.i) (Okay.start _ _) (gc [0]) ?_
 intro s
 have hsi:=s.hi
 have hg:=fun h:s.i<es.length=>Qn4 es s.i h
 have F:=@hg
 refine rn F ?_
 repeat' (first
  | with_reducible exact⟨⟩
  | (refine sG F ?_ ?_<;>intro hZ)
  | (refine sB F ?_ ?_<;>intro hZ)
  | refine vp F (hr s.i) ?_)
 all_goals first
  | (rw[hB,QaK (i:=s.i) (by omega) (Jw.2 fun h=>by rw[hlg] at h; omega),JH])
  | (rw[hB,QaK (i:=s.i) (by omega) (Jw.2 fun h=>by rw[hlg] at h; exact absurd h.2 (by simp_all)),JH])
  | (rw[hB,s.all (by omega),decide_eq_true (by rw[hH]; omega)]; rfl)
  | (exact⟨s.next (by omega) ((hlg _).2 ⟨by omega,by assumption⟩),by show es.length-(s.i+1)<es.length-s.i; omega,(gc [0])⟩)
  | skip
end
section
attribute [local go_sem] Qhr QmP QmM Qlc Qk9 Qmo QdB Tryz.underlying24
abbrev noK:Nat->Bool:=fun _=>false
def QpI(l:List E)(hl:l.length<=1000000):VCalls prog 57 [.pv (.sl (fz encE l))] [] (QhX noK [] 13 l.length 52 (cells encE l)):=by
 refine VCalls.newSl ?_
 by_cases hz:l=[]
 ·subst hz
  refine VCalls.open0 fun ad cap hs=>?_
  refine Qbf (fn:=Tryz.f57) Tryz.func57 rfl (by kernel_rfl) (by simp[Tryz.f57]) ?_
  (unfold Tryz.f57; refine rn trivial ?_)
  refine Qaw (fun h=>?_) (fun h=>?_)
  ·(refine rn trivial ?_; try with_reducible exact ⟨⟩)
   exact⟨by simp,.inl ⟨rfl,rfl,rfl⟩⟩
  ·(refine rn trivial ?_; try with_reducible exact ⟨⟩)
   exact⟨by simp,.inr ⟨_,.inl rfl,by simp,rfl,rfl⟩⟩
 ·have hp:0 < l.length:=List.length_pos_iff.2 hz
  refine Qbf (fn:=Tryz.f57) Tryz.func57 rfl (by kernel_rfl) (by simp[Tryz.f57]) ?_
  have h0:=Qy0 encE l hp
  have hx:(fz encE l)[0]?.map JE=some 13:=Qpt encE l hp
  have hb:l.length*128<=140737488355328:=by omega
  have hfl:pvs (fz encE l)=cells encE l:=Qkb encE l
  (unfold Tryz.f57; refine rn (Ja @h0 (Ja @hx (Ja @hb @hfl))) ?_)
  exact⟨by simp,.inr ⟨_,.inl rfl,by simp,rfl,Qw _ _ _⟩⟩
def QfR(x:Lg)(e:E):Lg×Int×Int:=if lgB x=false then (Lg0,0,26) else if x.es.length=4096\/1099511627776<x.end_+1 then (Lg0,0,21)
 else if ({ e with lsn:=x.end_+1 }:E).okB=false then (Lg0,0,12) else (⟨x.f,x.es++[{ e with lsn:=x.end_+1 }],x.d⟩,x.end_+1,0)
def QHw(r:Lg×Int×Int):DV:=.tup [.agg r.1.c,.int .i64 r.2.1,.int .i64 r.2.2]
end
section
attribute [local go_sem] Qhr QmP QmM Qlc Qk9 Qmo QdB
def Q8(x:Lg)(n:Int):Lg×Int:=if lgB x=false then (Lg0,26) else if x.end_<n then (Lg0,14) else (⟨x.f,x.es,if n > x.d then n else x.d⟩,0)
def lgD(r:Lg×Int):DV:=.tup [.agg r.1.c,.int .i64 r.2]
end
section
attribute [local go_sem] E.d Ch0 Ce0
def QCx(l:List UInt8):decide ((l.length:Int)<=8192)=decide (l.length<=8192):=by
 apply decide_eq_decide.2; omega
def E.shp(e:E):E:=
 if e.kind=1 then ⟨e.lsn,e.kind,e.tx,e.ptx,e.ppg,0,e.c,[]⟩
 else if e.kind=2 then ⟨e.lsn,e.kind,e.tx,e.ptx,e.ppg,e.ref,e.c,[]⟩
 else if e.kind=3\/e.kind=4\/e.kind=5 then ⟨e.lsn,e.kind,e.tx,e.ptx,0,0,Ch0,[]⟩
 else if e.kind=6\/e.kind=8 then ⟨e.lsn,e.kind,0,0,0,0,Ch0,e.blob⟩
 else if e.kind=7 then ⟨e.lsn,e.kind,0,0,0,e.ref,⟨e.c.pg,0,Ce0,Ce0⟩,[]⟩
 else ⟨e.lsn,e.kind,0,0,0,0,Ch0,[]⟩
def E.shok(e:E):Bool:=
 if e.kind=1 then e.c.okB&&decide (1<=e.tx)&&decide (e.tx<=1073741824)
 else if e.kind=2 then e.c.okB&&decide (0<e.ptx)&&decide (1<=e.ref)&&decide (e.ref<=e.ptx)&&decide (1<=e.tx)&&decide (e.tx<=1073741824)
 else if e.kind=3\/e.kind=4\/e.kind=5 then decide (1<=e.tx)&&decide (e.tx<=1073741824)&&decide (0<e.ptx)
 else if e.kind=6\/e.kind=8 then decide (e.blob.length<=8192)
 else if e.kind=7 then decide (0<=e.c.pg)&&decide (e.c.pg<64)
 else false
def shD(e:E):DV:=.tup [.agg e.shp.d,.bool e.shok]
theorem QEA(lsn kind tx ptx ppg ref:Int)(c:Ch)(blob:List UInt8):(⟨lsn,kind,tx,ptx,ppg,ref,c,blob⟩:E).shp =
 if kind=1 then ⟨lsn,kind,tx,ptx,ppg,0,c,[]⟩
 else if kind=2 then ⟨lsn,kind,tx,ptx,ppg,ref,c,[]⟩
 else if kind=3\/kind=4\/kind=5 then ⟨lsn,kind,tx,ptx,0,0,Ch0,[]⟩
 else if kind=6\/kind=8 then ⟨lsn,kind,0,0,0,0,Ch0,blob⟩
 else if kind=7 then ⟨lsn,kind,0,0,0,ref,⟨c.pg,0,Ce0,Ce0⟩,[]⟩
 else ⟨lsn,kind,0,0,0,0,Ch0,[]⟩:=rfl
theorem QBu(lsn kind tx ptx ppg ref:Int)(c:Ch)(blob:List UInt8):(⟨lsn,kind,tx,ptx,ppg,ref,c,blob⟩:E).shok =
 if kind=1 then c.okB&&decide (1<=tx)&&decide (tx<=1073741824)
 else if kind=2 then c.okB&&decide (0<ptx)&&decide (1<=ref)&&decide (ref<=ptx)&&decide (1<=tx)&&decide (tx<=1073741824)
 else if kind=3\/kind=4\/kind=5 then decide (1<=tx)&&decide (tx<=1073741824)&&decide (0<ptx)
 else if kind=6\/kind=8 then decide (blob.length<=8192)
 else if kind=7 then decide (0<=c.pg)&&decide (c.pg<64)
 else false:=rfl
def QBw(e:E):VCalls prog 144 [.agg e.d] [] (Ret (shD e)):=by
 refine dd Tryz.func144 ?_
 unfold shD
 obtain⟨lsn,kind,tx,ptx,ppg,ref,c,blob⟩:=e
 have q1:=Qt6 c
 dsimp only[Ch.d] at q1
 rw[QEA,QBu]
 generalize c.okB=K at *
 rcases QfF kind with hk | rfl | rfl | rfl | rfl | rfl | rfl | rfl | rfl
 ·rw [if_neg (by omega),if_neg (by omega),if_neg (by omega),if_neg (by omega),if_neg (by omega),if_neg (by omega),if_neg (by omega),if_neg (by omega),if_neg (by omega),if_neg (by omega)]
  have k1:(kind==1)=false:=by simp; omega
  have k2:(kind==2)=false:=by simp; omega
  have k3:(kind==3)=false:=by simp; omega
  have k4:(kind==4)=false:=by simp; omega
  have k5:(kind==5)=false:=by simp; omega
  have k6:(kind==6)=false:=by simp; omega
  have k7:(kind==7)=false:=by simp; omega
  have k8:(kind==8)=false:=by simp; omega
  (unfold Tryz.f144; refine rn (Ja @k1 (Ja @k2 (Ja @k3 (Ja @k4 (Ja @k5 (Ja @k6 (Ja @k7 @k8))))))) ?_; try with_reducible exact⟨⟩)
 all_goals
  (unfold Tryz.f144; refine rn trivial ?_)
  refine rn F ?_
  repeat' (first
   | with_reducible exact⟨⟩
   | (refine sG F ?_ ?_<;>intro hZ)
   | refine vp F (q1) ?_
   | (refine Qd (id:=5) [0,1,2,3,4,5,6,7,8] [⟨[],[],9,[2,3,4,5,6,7],[10]⟩,⟨[],[],11,[4,5,6,7],[12]⟩,⟨[],[],13,[6,7],[14]⟩,⟨[],[],15,[],[]⟩] (by kernel_rfl) (by kernel_rfl) ?_; refine rn F ?_)
   | (refine Qd (id:=10) [0,1,2,3,4,5,6,7,8,9,10,11] [⟨[],[],12,[1,2,3,4,5,6,8,9,10,11],[]⟩,⟨[],[],13,[],[]⟩] (by kernel_rfl) (by kernel_rfl) ?_; refine rn F ?_)
   | (refine Qd (id:=14) [0,1,2,3,4] [⟨[],[],5,[2,3],[6]⟩,⟨[],[],7,[],[]⟩] (by kernel_rfl) (by kernel_rfl) ?_; refine rn F ?_)
   | (refine Qd (id:=15) [0,1,2,3,4,5,6,7,8,9,10,11,12,13] [⟨[],[],14,[1,2,3,4,5,6,7,8,10,11,12,13],[]⟩,⟨[],[],15,[],[]⟩] (by kernel_rfl) (by kernel_rfl) ?_; refine rn F ?_)
   | (refine Qd (id:=19) [0,1,2,3,4] [⟨[],[],5,[1,2,3,4],[]⟩,⟨[],[],6,[],[]⟩] (by kernel_rfl) (by kernel_rfl) ?_; refine rn F ?_)
   | (refine Qd (id:=21) [0,1,2,3,4,5] [⟨[],[],6,[2,3,4],[7,8]⟩,⟨[],[],9,[7],[]⟩] (by kernel_rfl) (by kernel_rfl) ?_; refine rn F ?_)
   | (refine Qd (id:=22) [0,1,2,3,4,5,6,7,8,9,10] [⟨[],[],11,[1,2,3,4,6,7,8,9,10],[]⟩,⟨[],[],12,[],[]⟩] (by kernel_rfl) (by kernel_rfl) ?_; refine rn F ?_))
 all_goals first | rfl | (simp[Ch0,Ce0,QCx]; done)
def eqE(x y:E):Bool:=x.lsn==y.lsn&&(x.kind==y.kind&&(x.tx==y.tx&&(x.ptx==y.ptx&&(x.ppg==y.ppg&&(x.ref==y.ref&&(x.c.pg==y.c.pg&&(x.c.sl==y.c.sl&&(x.c.b.set==y.c.b.set&&(x.c.b.data==y.c.b.data&&(x.c.a.set==y.c.a.set&&(x.c.a.data==y.c.a.data&&x.blob==y.blob)))))))))))
def QF4(x y:E):QV x.d y.d [(0,1),(1,1),(2,1),(3,1),(4,1),(5,1),(6,1),(7,1),(8,0),(9,2),(10,0),(11,2),(12,2)]=some (eqE x y):=by
 simp[QV,Qao,E.d,eqE]
def E.okR(e:E):Bool:=e.shok&&eqE e.shp e&&decide (1<=e.lsn)&&decide (e.lsn<=1099511627776)&&bef e.ptx e.lsn&&bef e.ppg e.lsn&&bef e.ref e.lsn
def Qth(e:E):VCalls prog 97 [.agg e.d] [] (Ret (.bool e.okR)):=by
 refine dd Tryz.func97 ?_
 have hq:=QF4 e.shp e
 have hs:=QBw e
 unfold shD at hs
 simp only[E.d] at hq hs
 have b1:=Qhf e.ptx e.lsn
 have b2:=Qhf e.ppg e.lsn
 have b3:=Qhf e.ref e.lsn
 have e1:e.okR=(e.shok&&eqE e.shp e&&decide (1<=e.lsn)&&decide (e.lsn<=1099511627776)&&bef e.ptx e.lsn&&bef e.ppg e.lsn&&bef e.ref e.lsn):=rfl
 generalize e.okR=R at *
 generalize bef e.ptx e.lsn=B1 at *
 generalize bef e.ppg e.lsn=B2 at *
 generalize bef e.ref e.lsn=B3 at *
 generalize e.shp=s at *
 generalize e.shok=ok at *
 generalize eqE s e=q at *
 (unfold Tryz.f97; refine rn trivial ?_)
 have F:=@hq
 refine rn F ?_
 repeat' (first
  | with_reducible exact⟨⟩
  | (refine sG F ?_ ?_<;>intro hZ)
  | refine vp F (hs) ?_
  | refine vp F (b1) ?_
  | refine vp F (b2) ?_
  | refine vp F (b3) ?_)
 all_goals (congr 3; rw[e1,Jk]; clear e1 b1 b2 b3 hs hq; simp; first | omega | grind)
def QE3(e:E):e.okR=e.okB:=by
 obtain⟨lsn,kind,tx,ptx,ppg,ref,⟨pg,sl,⟨b1,b2⟩,⟨a1,a2⟩⟩,blob⟩:=e
 rw[Jk]
 by_cases h:kind<1\/8<kind
 ·have e1:E.shok ⟨lsn,kind,tx,ptx,ppg,ref,⟨pg,sl,⟨b1,b2⟩,⟨a1,a2⟩⟩,blob⟩ = false:=by unfold E.shok; rw [if_neg (by dsimp only; omega),if_neg (by dsimp only; omega),if_neg (by dsimp only; omega),if_neg (by dsimp only; omega),if_neg (by dsimp only; omega)]
  have e2:E.kindB ⟨lsn,kind,tx,ptx,ppg,ref,⟨pg,sl,⟨b1,b2⟩,⟨a1,a2⟩⟩,blob⟩=false:=by unfold E.kindB; rw[if_neg (by dsimp only; omega),if_neg (by dsimp only; omega),if_neg (by dsimp only; omega),if_neg (by dsimp only; omega),if_neg (by dsimp only; omega)]
  simp[E.okR,E.okB,e1,e2]
 ·have hk:kind = 1\/kind = 2\/kind = 3\/kind = 4\/kind = 5\/kind = 6\/kind = 7\/kind = 8:=by omega
  rcases hk with hk | hk | hk | hk | hk | hk | hk | hk<;>subst hk
  all_goals
   simp only[E.okR,E.okB,E.shok,E.shp,E.kindB,eqE,bef,txB,Ch.no,Ce.no,Ch.ix,Ch0,Ce0,Jb,decide_eq_true_eq,beq_iff_eq,bne_iff_ne,Jg,reduceIte,Int.reduceEq,or_self,or_false,false_or,or_true,true_or]
   grind
def QcQ(e:E):VCalls prog 97 [.agg e.d] [] (Ret (.bool e.okB)):=by
 rw[<- QE3]; exact Qth e
end
section
structure Tx where
 id:Int
 st:Int
 n:Int
 b:Int
 l:List Int
 s:List Int
def Qap:Enc Tx:=⟨6,fun t=>[.lit (.int .i64 t.id),.lit (.int .i64 t.st),.lit (.int .i64 t.n),.lit (.int .i64 t.b),.sl (fz Qad t.l),.sl (fz Qad t.s)],by decide,fun _=>rfl⟩
def Tx.d(t:Tx):List DV:=[.int .i64 t.id,.int .i64 t.st,.int .i64 t.n,.int .i64 t.b,.pv (.sl (fz Qad t.l)),.pv (.sl (fz Qad t.s))]
def QDC(l:List Int)(lo hi d:Int)(i:Nat):Bool:=decide (lo<=l.getD i 0)&&decide (l.getD i 0<=hi)&&(decide (i=0)||decide (l.getD (i-1) 0+d<=l.getD i 0))
def QpM(l:List Int)(lo hi d:Int):Bool:=(Jv l.length).all (QDC l lo hi d)
def Qd1(l:List Int)(lo hi d:Int)(i:Nat):QDC l lo hi d i=true ↔ lo<=l.getD i 0/\l.getD i 0<=hi/\(i=0\/l.getD (i-1) 0+d<=l.getD i 0):=by
 simp only[QDC,Jb,Jf,decide_eq_true_eq,and_assoc]
def Tx.sm(t:Tx):Prop:=t.l.length<=9223372036854775807/\t.s.length<=9223372036854775807
def Tx.hdB(t:Tx):Bool:=decide (1<=t.id)&&decide (t.id<=1073741824)&&decide (1<=t.st)&&decide (t.st<=3)&&decide (0<=t.n)&&decide (t.n<=1099511627776)&&(decide (t.b=0)||(decide (t.st=2)&&decide (0<t.b)&&decide (t.b<=t.n)))&&decide (t.l.length<=4096)&&decide (t.s.length<=8)
def Tx.okB(t:Tx):Bool:=t.hdB&&QpM t.l 1 t.n 1&&QpM t.s 0 t.n 0
def Tx0:Tx:=⟨0,0,0,0,[],[]⟩
def tC(l:List Tx)(i:Nat):Bool:=(l.getD i Tx0).okB&&(decide (i=0)||decide ((l.getD (i-1) Tx0).id<(l.getD i Tx0).id))
def Qk8(l:List Tx)(i:Nat):tC l i=true ↔ (l.getD i Tx0).okB=true/\(i=0\/(l.getD (i-1) Tx0).id<(l.getD i Tx0).id):=by
 simp only[tC,Jb,Jf,decide_eq_true_eq]
def QbD(l:List Tx):Bool:=decide (l.length<=64)&&(Jv l.length).all (tC l)
def smL(l:List Tx):Prop:=l.length<=1000000/\∀ t∈l,t.sm
def Qpu(l:List Tx)(i:Nat)(h:i<l.length):(fz Qap l)[i]?=some [.lit (.int .i64 l[i].id),.lit (.int .i64 l[i].st),.lit (.int .i64 l[i].n),.lit (.int .i64 l[i].b),.sl (fz Qad l[i].l),.sl (fz Qad l[i].s)]:=QiU Qap l i h
structure Pass{α:Type}(l:List α)(p:α->Prop) where
 i:Nat
 hi:i<=l.length
 no:∀ x∈l.take i,¬ p x
def Pass.start{α:Type}(l:List α)(p:α->Prop):Pass l p:=⟨0,JJ _,by simp⟩
def Pass.next{α:Type}{l:List α}{p:α->Prop}(s:Pass l p)(h:s.i<l.length)(hp:¬ p l[s.i]):Pass l p :=
 ⟨s.i + 1,h,fun x hx=>by
  rw[Jt h,List.mem_append] at hx
  rcases hx with hx | hx
  ·exact s.no x hx
  ·simp at hx; subst hx; exact hp⟩
def Pass.all(s:Pass l p)(h:¬ s.i<l.length):∀ x∈l,¬ p x:=by
 have:=s.no
 rwa [Ji (by omega)] at this
def QgA{α:Type}(l:List α)(p:α->Bool):Int:=if l.any p=true then (l.findIdx p:Int) else -1
def QnX(l:List α)(p:α->Bool)(i:Nat)(h:i<l.length)(hx:p l[i]=true)(no:∀ x∈l.take i,¬ p x=true):QgA l p=i:=by
 rw[QgA,if_pos (JQ.2 ⟨l[i],JY h,hx⟩)]
 congr 1
 rw[List.findIdx_eq h]
 refine⟨hx,fun j hj=>?_⟩
 have:=no l[j] (List.mem_take_iff_getElem.2 ⟨j,by omega,rfl⟩)
 simpa using this
def Qu7(l:List α)(p:α->Bool):(QgA l p=-1/\l.find? p=none)\/∃ i,∃ h:i<l.length,QgA l p=i/\l.find? p=some l[i]:=by
 by_cases ha:l.any p=true
 ·obtain ⟨x,hm,hp⟩:=JQ.1 ha
  have hlt:=Ju ⟨x,hm,hp⟩
  refine .inr ⟨l.findIdx p,hlt,by rw[QgA,if_pos ha],?_⟩
  rw[List.find?_eq_some_iff_getElem]
  refine⟨J7 (w:=hlt),_,hlt,rfl,fun j hj=>?_⟩
  have:=List.not_of_lt_findIdx hj
  simpa using this
 ·refine .inl ⟨by rw [QgA,if_neg ha],?_⟩
  rw[List.find?_eq_none]
  intro x hx hp
  exact ha (JQ.2 ⟨x,hx,hp⟩)
def lo{α:Type}(l:List α)(f:α->Bool):Nat:=(l.takeWhile f).length
def QIO{α:Type}(l:List α)(f:α->Bool):Prop:=∀ i j:Nat,∀ hi:i<l.length,∀ hj:j<l.length,i<j->f l[j]=true->f l[i]=true
def QG1(l:List α)(f:α->Bool):lo l f<=l.length:=(List.takeWhile_sublist _).length_le
def QFe (l:List α) (f:α->Bool) (i:Nat) (hi:i<=l.length) (h1:∀ k,∀ hk:k < l.length,k < i->f l[k] = true) (h2:∀ hi:i < l.length,f l[i] = false):lo l f = i:=by
 unfold lo
 induction l generalizing i with
 | nil=>simp at hi; subst hi; rfl
 | cons a r ih =>
   cases i with
   | zero =>
     have:=h2 (by simp)
     simp only[J0] at this
     rw[Ka,this]; rfl
   | succ i =>
     have h0:=h1 0 (by simp) (by omega)
     simp only[J0] at h0
     rw[Ka,h0]
     simp only[if_true,JR]
     rw[ih i (by simpa using hi) (fun k hk hki=>h1 (k+1) (by simpa using hk) (by omega)) (fun hi=>h2 (by simpa using hi))]
structure BS{α:Type}(l:List α)(f:α->Bool) where
 i:Nat
 j:Nat
 hij:i<=j
 hj:j<=l.length
 h1:∀ k,∀ hk:k<l.length,k<i->f l[k]=true
 h2:∀ hj:j<l.length,f l[j]=false
def BS.start{α:Type}(l:List α)(f:α->Bool):BS l f:=⟨0,l.length,JJ _,Ko _,fun k hk h=>by omega,fun h=>by omega⟩
def BS.up{α:Type}{l:List α}{f:α->Bool}(s:BS l f)(hf:QIO l f)(h:Nat)(h1:s.i<=h)(h2:h<s.j)(hx:f (l[h]'(JK h2 s.hj))=true):BS l f :=
 ⟨h + 1,s.j,h2,s.hj,fun k hk hki=>by
  rcases J3 k h with hlt | hge
  ·exact hf k h hk (JK h2 s.hj) hlt hx
  ·obtain rfl:k = h:=by omega
   exact hx,s.h2⟩
def BS.fin(s:BS l f)(h:¬ s.i<s.j):lo l f=s.i:=by
 have e:s.i=s.j:=by have:=s.hij; omega
 exact QFe l f s.i (by have:=s.hj; omega) s.h1 (fun hi=>by
  have:=s.h2 (e▸hi)
  simpa only[e] using this)
def QqT(l:List Tx)(i:Nat)(h:i<l.length):(fz Qap l)[i]?=some [.lit (.int .i64 (l.getD i Tx0).id),.lit (.int .i64 (l.getD i Tx0).st),.lit (.int .i64 (l.getD i Tx0).n),.lit (.int .i64 (l.getD i Tx0).b),.sl (fz Qad (l.getD i Tx0).l),.sl (fz Qad (l.getD i Tx0).s)]:=by rw[Qf l i h]; exact Qpu l i h
attribute [local go_sem] Tx.d QlX Js Jj Jy JD Qct QbJ
def QxN(t:Tx)(hs:t.sm):VCalls prog 166 [.agg t.d] [] (Ret (.bool t.okB)):=by
 refine dd Tryz.func166 ?_
 obtain⟨id,st,n,b,l,s⟩:=t
 obtain⟨hs1,hs2⟩:=hs
 dsimp only at hs1 hs2
 have e:(⟨id,st,n,b,l,s⟩:Tx).okB=((⟨id,st,n,b,l,s⟩:Tx).hdB&&QpM l 1 n 1&&QpM s 0 n 0):=rfl
 have eh:(⟨id,st,n,b,l,s⟩:Tx).hdB=(decide (1<=id)&&decide (id<=1073741824)&&decide (1<=st)&&decide (st<=3)&&decide (0<=n)&&decide (n<=1099511627776)&&(decide (b=0)||(decide (st=2)&&decide (0<b)&&decide (b<=n)))&&decide (l.length<=4096)&&decide (s.length<=8)):=rfl
 generalize (⟨id,st,n,b,l,s⟩:Tx).hdB=H at *
 generalize (⟨id,st,n,b,l,s⟩:Tx).okB=K at *
 unfold Tx.d
 (unfold Tryz.f166; refine rn trivial ?_)
 refine rn F ?_
 repeat' (first
  | with_reducible exact⟨⟩
  | (refine sG F ?_ ?_<;>intro hZ)
  | (refine sB F ?_ ?_<;>intro hZ))
 all_goals first
  | (rw[e,Jw.2 (show ¬ H=true from fun h=>by rw[eh] at h; simp only[Jb,Jf,decide_eq_true_eq] at h; omega)]; rfl)
  | skip
 all_goals
  have hh:H=true:=by rw[eh]; simp only[Jb,Jf,decide_eq_true_eq]; omega
  refine Qj (fun q:Okay l.length (QDC l 1 n 1)=>⟨147,0,[(3,.int .i64 q.i),(1,.ptr 0 0)],[⟨197,true,[.int .i64 id,.int .i64 st,.int .i64 n,.int .i64 b,.pv (.sl (fz Qad l)),.pv (.sl (fz Qad s))]⟩]⟩) (fun q=>l.length-q.i) (Okay.start _ _) (by exact(gc [0])) ?_
  intro q
  have hqi:=q.hi
  have hg:=fun h:q.i<l.length=>Qac l q.i h
  have hgp:0<(q.i:Int)->(q.i:Int)<l.length->(fz Qad l)[q.i-1]?=some [.lit (.int .i64 (l.getD (q.i-1) 0))]:=fun h h2=>by
   exact Qac l (q.i-1) (by omega)
  have F:=(Ja @hg @hgp)
  refine rn F ?_
  repeat' (first
   | with_reducible exact⟨⟩
   | (refine sG F ?_ ?_<;>intro hZ)
   | (refine sB F ?_ ?_<;>intro hZ)
   | (refine Qd (id:=8) [0,1,2,3,4,5,6,7,8,9,10,11,12,13,14,15,16,17,18,19,20,21,22,23,24,25,26,27,28,29,30,31,32,33] [] (by kernel_rfl) (by kernel_rfl) ?_; refine rn F ?_))
  all_goals first
   | (rw[e,QpM,QpM,QaK (n:=l.length) (c:=QDC l 1 n 1) (i:=q.i) (by omega) (Jw.2 fun h=>by rw[Qd1] at h; omega)]; simp)
   | (exact⟨q.next (by omega) ((Qd1 _ _ _ _ _).2 (by omega)),by show l.length-(q.i+1)<l.length-q.i; omega,(gc [0])⟩)
   | skip
  have hL:QpM l 1 n 1=true:=q.all (by omega)
  clear hg hgp hqi
  refine Qj (fun q:Okay s.length (QDC s 0 n 0)=>⟨147,0,[(4,.int .i64 q.i),(1,.ptr 0 0)],[⟨197,true,[.int .i64 id,.int .i64 st,.int .i64 n,.int .i64 b,.pv (.sl (fz Qad l)),.pv (.sl (fz Qad s))]⟩]⟩) (fun q=>s.length-q.i) (Okay.start _ _) (by exact(gc [0])) ?_
  intro q
  have hqi:=q.hi
  have hg:=fun h:q.i<s.length=>Qac s q.i h
  have hgp:0<(q.i:Int)->(q.i:Int)<s.length->(fz Qad s)[q.i-1]?=some [.lit (.int .i64 (s.getD (q.i-1) 0))]:=fun h h2=>by
   exact Qac s (q.i-1) (by omega)
  have F:=(Ja @hg @hgp)
  refine rn F ?_
  repeat' (first
   | with_reducible exact⟨⟩
   | (refine sG F ?_ ?_<;>intro hZ)
   | (refine sB F ?_ ?_<;>intro hZ)
   | (refine Qd (id:=13) [0,1,2,3,4,5,6,7,8,9,10,11,12,13,14,15,16,17,18,19,20,21,22,23,24,25,26,27,28,29,30,31,32,33] [] (by kernel_rfl) (by kernel_rfl) ?_; refine rn F ?_))
  all_goals first
   | (rw[e,QpM,QpM,QaK (n:=s.length) (c:=QDC s 0 n 0) (i:=q.i) (by omega) (Jw.2 fun h=>by rw[Qd1] at h; omega)]; simp)
   | (exact⟨q.next (by omega) ((Qd1 _ _ _ _ _).2 (by omega)),by show s.length-(q.i+1)<s.length-q.i; omega,(gc [0])⟩)
   | skip
  rw[e,hh,hL,show QpM s 0 n 0=true from q.all (by omega)]
  rfl
def QbW(l:List Tx)(hl:smL l):VCalls prog 116 [.pv (.sl (fz Qap l))] [] (Ret (.bool (QbD l))):=by
 refine dd Tryz.func116 ?_
 obtain⟨hl,hm⟩:=hl
 have hr:=fun(i:Nat) (h:i<l.length)=>QxN (l.getD i Tx0) (by rw[Qf l i h]; exact hm _ (JY h))
 unfold Tx.d at hr
 (unfold Tryz.f116; refine rn trivial ?_)
 refine rn F ?_
 repeat' (first
  | with_reducible exact⟨⟩
  | (refine sB F ?_ ?_<;>intro hZ))
 ·rw[QbD,decide_eq_false (by omega)]; rfl
 refine Qj (fun s:Okay l.length (tC l)=>⟨37,0,[(3,.int .i64 s.i),(0,.pv (.sl (fz Qap l)))],[]⟩) (fun s=>l.length-s.i) (Okay.start _ _) (gc []) ?_
 intro s
 have hsi:=s.hi
 have hg:=fun h:s.i<l.length=>QqT l s.i h
 have hgp:0<(s.i:Int)->(s.i:Int)<l.length->(fz Qap l)[s.i-1]?=some [.lit (.int .i64 (l.getD (s.i-1) Tx0).id),.lit (.int .i64 (l.getD (s.i-1) Tx0).st),.lit (.int .i64 (l.getD (s.i-1) Tx0).n),.lit (.int .i64 (l.getD (s.i-1) Tx0).b),.sl (fz Qad (l.getD (s.i-1) Tx0).l),.sl (fz Qad (l.getD (s.i-1) Tx0).s)]:=fun h h2=>by
  exact QqT l (s.i-1) (by omega)
 have F:=(Ja @hg @hgp)
 refine rn F ?_
 repeat' (first
  | with_reducible exact⟨⟩
  | (refine sG F ?_ ?_<;>intro hZ)
  | (refine sB F ?_ ?_<;>intro hZ)
  | refine vp F (hr s.i (by omega)) ?_
  | (refine Qd (id:=6) [0,1,2,3] [⟨[],[],4,[0,1,2],[5,6,7,8,9,10,11,12,13,14,15,16,17,18,19,20,21,22,23]⟩] (by kernel_rfl) (by kernel_rfl) ?_; refine rn F ?_))
 all_goals first
  | (rw[QbD,QaK (i:=s.i) (by omega) (Jw.2 fun h=>by rw[Qk8] at h; omega),JH])
  | (rw[QbD,QaK (i:=s.i) (by omega) (Jw.2 fun h=>by rw[Qk8] at h; first | exact absurd h.1 (by assumption) | (have h1:=h.1; simp_all)),JH])
  | (rw[QbD,s.all (by omega),decide_eq_true (by omega)]; rfl)
  | (exact⟨s.next (by omega) ((Qk8 _ _).2 ⟨by assumption,by omega⟩),by show l.length-(s.i+1)<l.length-s.i; omega,(gc [])⟩)
  | skip
def Qd5{α:Type}(l:List α)(p:α->Bool):List α:=l.filter fun x=>!p x
structure DF{α:Type}(l:List α)(p:α->Bool) where
 j:Nat
 hj:j<=l.length
 cur:List α
 hl:cur.length=l.length
 h1:cur.take (Qd5 (l.take j) p).length=Qd5 (l.take j) p
 h2:cur.drop j=l.drop j
 h3:(Qd5 (l.take j) p).length<j
def DF.i{α:Type}{l:List α}{p:α->Bool}(s:DF l p):Nat:=(Qd5 (l.take s.j) p).length
def Qb3(l:List α)(p:α->Bool)(j:Nat)(h:j<l.length):Qd5 (l.take (j+1)) p=Qd5 (l.take j) p++(if p l[j]=true then [] else [l[j]]):=by
 rw[Jt h,Qd5,Kb]
 cases hp:p l[j]<;>simp[Qd5,hp]
def QqK(l:List α)(p:α->Bool)(h:∀ x∈l,¬ p x=true):Qd5 l p=l:=by
 rw[Qd5,List.filter_eq_self]; intro x hx; simpa using h x hx
def DF.start{α:Type}(l:List α)(p:α->Bool)(i:Nat)(h:i<l.length)(hp:p l[i]=true)(no:∀ x∈l.take i,¬ p x=true):DF l p:=
 have e:Qd5 (l.take (i+1)) p=l.take i:=by rw[Qb3 l p i h,if_pos hp,JU,QqK _ p no]
 have el:(l.take i).length=i:=by rw[Jj]; omega
 ⟨i+1,h,l,rfl,by rw[e,el],rfl,by rw[e,el]; omega⟩
def DF.get{α:Type}{l:List α}{p:α->Bool}(s:DF l p)(h:s.j<l.length)(d:α):s.cur.getD s.j d=l[s.j]:=by
 have:=congrArg (fun x=>x[0]?) s.h2
 simp only[Kc,Ku] at this
 rw[Jh,this,Jx h]; rfl
def DF.out{α:Type}{l:List α}{p:α->Bool}(s:DF l p)(h:s.j<l.length)(hp:p l[s.j]=true):DF l p :=
 have e:Qd5 (l.take (s.j+1)) p=Qd5 (l.take s.j) p:=by rw[Qb3 l p s.j h,if_pos hp,JU]
 ⟨s.j + 1,h,s.cur,s.hl,by rw [e]; exact s.h1,by
  have:=congrArg (List.drop 1) s.h2
  rwa [J8,J8] at this,by rw[e]; have:=s.h3; omega⟩
def QyY(l:List α)(p:α->Bool):(Qd5 l p).length<=l.length:=JN _ _
def QCw(l:List Tx):(cells Qap l).length=l.length*6:=QJ Qap l
def QD8(l:List Tx)(n:Nat)(h:l.length*6<=n):(cells Qap l).take n=cells Qap l:=by rw[Ji]; rw[QCw]; exact h
def QEx(l:List Tx)(T:TypeId)(a b:Nat)(h:a<=b/\b<=l.length):QkC (some (none,T,6)) (fz Qap l) a b=some (.pv (.sl (fz Qap ((l.take b).drop a)))):=QgJ Qap l T a b h
def QEv(l:List Tx):(fz Qap l=[]\/(fz Qap l)[0]?.map JE=some 6)=True:=Qhz Qap l
def Qvk(h:l.length=len):QgF n hp 0 6 len (some (cells Qap l))=some (.sl (fz Qap l)):=QX Qap h
def QGD(l:List Tx):DV.wk.go (cells Qap l)=cells Qap l:=Qbo Qap l fun a p hp=>by
 simp[Qap] at hp; rcases hp with rfl | rfl | rfl | rfl | rfl | rfl<;>rfl
def QD1(r:List Tx×Int):DV:=.tup [.pv (.sl (fz Qap r.1)),.int .i64 r.2]
def idT(l:List Tx)(a:Int):Int:=QgA l fun t=>t.id==a
def QCa(l:List Tx)(a:Int):Nat:=lo l fun t=>decide (t.id<a)
def QD5(l:List Tx)(t:Tx):List Tx:=l.take (QCa l t.id)++t::l.drop (QCa l t.id)
def Qaj(l:List Tx)(a:Int):List Tx×Int:=
 if QbD l=false then ([],15) else if a<1\/1073741824<a then ([],1) else if 0<=idT l a then ([],25) else if l.length=64 then ([],21) else (QD5 l ⟨a,1,0,0,[],[]⟩,0)
def QeF{l:List Tx}(h:QbD l=true):l.length<=64:=by
 simp[QbD] at h; exact h.1
def Qef(h:QbD l=true):(l.map (·.id)).Pairwise (·<·):=by
 simp only[QbD,Jb,JI,JG] at h
 obtain⟨_,h⟩:=h
 rw[JW]
 have step:∀ i,∀ h2:i+1<l.length,l[i].id<l[i+1].id:=fun i h2=>by
  have:=((Qk8 l (i+1)).1 (h (i+1) h2)).2
  rw[Qf l (i+1) h2,Kd,Qf l i (by omega)] at this
  omega
 have all:∀ d i,∀ h2:i+d+1<l.length,l[i].id<l[i+d+1].id:=fun d=>by
  induction d with
  | zero=>exact step
  | succ d ih=>intro i h2; exact Kv (ih i (by omega)) (step (i+d+1) h2)
 intro i j hi hj hij
 rw[JZ,JZ]
 have:=all (j-i-1) i (by rw[List.length_map] at hj; omega)
 simpa only[show i+(j-i-1)+1=j by omega] using this
def Qkw(l:List Tx)(a:Int):List Tx:=Qd5 l fun t=>t.id==a
def Qhs(t:Tx)(a:Int):Bool:=decide (0<t.l.length)&&decide (a<t.l.getD (t.l.length-1) 0)
def QG9(l:List Int)(h:0<l.length):(fz Qad l)[((l.length:Int)-1).toNat]?=some [.lit (.int .i64 (l.getD (l.length-1) 0))]:=by
 rw[show((l.length:Int)-1).toNat=l.length-1 by omega]; exact Qac l (l.length-1) (by omega)
def QI(l:List Tx)(a:Int):idT l a=-1\/∃ i,∃ h:i<l.length,idT l a=i/\l[i].id=a:=by
 unfold idT QgA
 split
 ·rename_i h
  obtain⟨x,hm,hp⟩:=JQ.1 h
  have hlt:=Ju (p:=fun t:Tx=>t.id==a) ⟨x,hm,hp⟩
  have:=J7 (w:=hlt)
  exact .inr ⟨_,hlt,rfl,by simpa using this⟩
 ·exact .inl rfl
def Qu(l:List Tx)(a:Int):Tx×Int:=
 if QbD l=false then (Tx0,15) else if idT l a<0 then (Tx0,16) else if (l.getD (idT l a).toNat Tx0).st≠1 then (Tx0,15) else (l.getD (idT l a).toNat Tx0,0)
def QbR{l:List Tx}{a:Int}(h:(Qu l a).2=0):QbD l=true/\∃ i,∃ hi:i<l.length,idT l a=i/\l[i].id=a/\(Qu l a).1=l[i]:=by
 unfold Qu at h |-
 split at h
 ·simp at h
 rename_i h1
 split at h
 ·simp at h
 rename_i h2
 split at h
 ·simp at h
 rename_i h3
 refine⟨by simpa using h1,?_⟩
 rcases QI l a with h4 | ⟨i,hi,h4,h5⟩
 ·omega
 ·rw [if_neg h1,if_neg h2,if_neg h3]
  exact⟨i,hi,h4,h5,by rw[h4,Jp,Qf l i hi]⟩
def Qkq(l:List Int)(x:Int):cells Qad l++[.pv (.lit (.int .i64 x))]=cells Qad (l++[x]):=by rw[QA]; rfl
def QFl(l:List Int):(cells Qad l).length=l.length*1:=QJ Qad l
def QF3(l:List Int)(n:Nat)(h:l.length*1<=n):(cells Qad l).take n=cells Qad l:=by rw[Ji]; rw[QFl]; exact h
def QEy(l:List Int)(T:TypeId)(a b:Nat)(h:a<=b/\b<=l.length):QkC (some (none,T,1)) (fz Qad l) a b=some (.pv (.sl (fz Qad ((l.take b).drop a)))):=QgJ Qad l T a b h
def QEw(l:List Int):(fz Qad l=[]\/(fz Qad l)[0]?.map JE=some 1)=True:=Qhz Qad l
def Qbz(h:QbD l=true)(hi:i<l.length):l[i].okB=true:=by
 simp only[QbD,Jb,JI,JG,decide_eq_true_eq] at h
 have:=((Qk8 l i).1 (h.2 i hi)).1
 rwa [Qf l i hi] at this
def Qib(l:List Tx)(a:Int):List Tx×Int:=
 if (Qu l a).2≠0 then ([],(Qu l a).2) else if (Qu l a).1.s.length=8 then ([],21) else (l.set (idT l a).toNat { (Qu l a).1 with s:=(Qu l a).1.s++[(Qu l a).1.n] },0)
def Qir(l:List Tx)(a sv:Int):List Tx×Int:=
 if (Qu l a).2≠0 then ([],(Qu l a).2)
 else if sv<0\/((Qu l a).1.s.length:Int)<=sv then ([],19)
 else if Qhs (Qu l a).1 ((Qu l a).1.s.getD sv.toNat 0)=true then (l.set (idT l a).toNat { (Qu l a).1 with s:=(Qu l a).1.s.take (sv.toNat+1),st:=2,b:=(Qu l a).1.s.getD sv.toNat 0 },0)
 else (l.set (idT l a).toNat { (Qu l a).1 with s:=(Qu l a).1.s.take (sv.toNat+1) },0)
def QmK{lo hi:Int}(h:QpM l lo hi 1=true):l.Pairwise (·<·):=by
 simp only[QpM,JI,JG] at h
 rw[JW]
 have step:∀ i,∀ h2:i+1<l.length,l[i]<l[i+1]:=fun i h2=>by
  have:=(Qd1 _ _ _ _ _).1 (h (i+1) h2)
  rw[Qf l (i+1) h2,Kd,Qf l i (by omega)] at this
  omega
 have all:∀ d i,∀ h2:i+d+1<l.length,l[i]<l[i+d+1]:=fun d=>by
  induction d with
  | zero=>exact step
  | succ d ih=>intro i h2; exact Kv (ih i (by omega)) (step (i+d+1) h2)
 intro i j hi hj hij
 have:=all (j-i-1) i (by omega)
 simpa only[show i+(j-i-1)+1=j by omega] using this
def QuC{t:Tx}(h:t.okB=true):t.l.Pairwise (·<·):=by
 simp only[Tx.okB,Jb] at h
 exact QmK h.1.2
def Qep{t:Tx}(h:t.okB=true):t.l.length<=4096/\t.s.length<=8:=by
 simp only[Tx.okB,Tx.hdB,Jb,decide_eq_true_eq] at h
 omega
def QK(t:Tx):Tx:=if t.st=2/\Qhs t t.b=false then { t with st:=1,b:=0 } else t
def Qcz(t:Tx)(e:E):Tx:=
 if e.kind=1 then { t with n:=e.lsn,l:=t.l++[e.lsn] }
 else if e.kind=2 then { t with n:=e.lsn,l:=t.l.filter fun x=>decide (x≠e.ref) }
 else { t with n:=e.lsn,st:=3,b:=0,s:=[] }
def QlW(l:List Tx)(i:Nat)(t:Tx)(e:E):List Tx×Int:=
 if e.ptx≠t.n\/(e.kind=2/\e.ref ∉ t.l) then ([],13)
 else if e.kind=3\/e.kind=5 then (Qkw l e.tx,0)
 else (l.set i (QK (Qcz t e)),0)
def QZ(l:List Tx)(e:E):List Tx×Int:=
 if QbD l=false then ([],15) else if e.okB=false then ([],12) else if e.tx=0 then (l,0) else if idT l e.tx<0 then ([],16)
 else QlW l (idT l e.tx).toNat (l.getD (idT l e.tx).toNat Tx0) e
def QeW{e:E}(h:e.okB=true)(ht:e.tx≠0):e.kind=1\/e.kind=2\/e.kind=3\/e.kind=4\/e.kind=5:=by
 obtain⟨lsn,kind,tx,ptx,ppg,ref,c,blob⟩:=e
 simp only[E.okB,Jb] at h
 have h:=h.2
 rw[Qpg] at h
 dsimp only at ht |-
 rcases QfF kind with hk | rfl | rfl | rfl | rfl | rfl | rfl | rfl | rfl
 ·rw[if_neg (by omega),if_neg (by omega),if_neg (by omega),if_neg (by omega),if_neg (by omega)] at h; cases h
 all_goals first | omega | (simp at h; omega)
def QyF{l:List Tx}{e:E}(h1:QbD l=true)(h2:e.okB=true)(h3:e.tx≠0){i:Nat}(hi:i<l.length)(h4:idT l e.tx=i):QZ l e=QlW l i l[i] e:=by
 unfold QZ
 rw[if_neg (by rw[h1]; decide),if_neg (by rw[h2]; decide),if_neg h3,h4,if_neg (by omega),Jp,Qf l i hi]
def w0:List Tx:=[⟨1,1,0,0,[],[]⟩]
def w1:List Tx:=[⟨1,1,1,0,[1],[]⟩]
def w2:List Tx:=[⟨1,1,1,0,[1],[1]⟩]
def w3:List Tx:=[⟨1,1,2,0,[1,2],[1]⟩]
def w4:List Tx:=[⟨1,1,3,0,[1,2,3],[1]⟩]
def w5:List Tx:=[⟨1,2,3,1,[1,2,3],[1]⟩]
end
section
attribute [local go_sem] Tx.d QCw QD8 QEx QEv Qvk QFl QF3 QEy QEw QlX Js Jj Jy JD Qct QbJ
def Qgr(l:List Tx)(hl:l.length<=1000000)(a:Int):VCalls prog 117 [.pv (.sl (fz Qap l)),.int .i64 a] [] (Ret (.int .i64 (idT l a))):=by
 refine dd Tryz.func117 ?_
 (unfold Tryz.f117; refine rn trivial ?_)
 refine Qj (fun i:Pass l (fun x=>(x.id==a)=true)=>⟨20,0,[(5,.int .i64 i.i),(0,.pv (.sl (fz Qap l))),(1,.int .i64 a)],[]⟩) (fun i=>l.length-i.i) (Pass.start l _) (gc []) ?_
 intro i
 have hi:=i.hi
 have hg:=fun h:i.i<l.length=>QqT l i.i h
 have F:=@hg
 refine rn F ?_
 repeat' (first
  | with_reducible exact⟨⟩
  | (refine sB F ?_ ?_<;>intro hZ))
 ·have:=QnX l (fun x=>x.id == a) i.i (by omega) (by rw [<- Qf l i.i (by omega) Tx0]; simpa using (by assumption:(l.getD i.i Tx0).id = a)) i.no
  rw[idT,this]
 ·exact⟨i.next (by omega) (by rw[<- Qf l i.i (by omega) Tx0]; simpa using(by assumption:¬ (l.getD i.i Tx0).id=a)),by show l.length-(i.i+1)<l.length-i.i; omega,(gc [])⟩
 ·have:=i.all (by omega)
  rw[idT,QgA,if_neg (by simpa using this)]
def Qcj(l:List Tx)(hl:l.length<=1000000)(a:Int):VCalls prog 138 [.pv (.sl (fz Qap l)),.int .i64 a] [] (Ret (.int .i64 (idT l a))):=by
 refine dd Tryz.func138 ?_
 have h:=Qgr l hl a
 (unfold Tryz.f138; refine rn trivial ?_)
 refine rn F ?_
 repeat' (first
  | with_reducible exact⟨⟩
  | refine vp F (h) ?_)
def Qtr(l:List Tx)(hl:l.length<=1000000)(i:Nat)(hi:i<l.length)(t:Tx):VCalls prog 186 [.pv (.sl (fz Qap l)),.int .i64 i,.agg t.d] [] (Ret (.pv (.sl (fz Qap (l.set i t))))):=by
 refine dd Tryz.func186 ?_
 have hb:i*6+6<=l.length*6:=by omega
 have hse:(cells Qap l).take (i*6)++[.pv (.lit (.int .i64 t.id)),.pv (.lit (.int .i64 t.st)),.pv (.lit (.int .i64 t.n)),.pv (.lit (.int .i64 t.b)),.pv (.sl (fz Qad t.l)),.pv (.sl (fz Qad t.s))]++(cells Qap l).drop (i*6+6)=cells Qap (l.set i t):=Qtc Qap l i t hi
 have hle:(l.set i t).length=l.length:=J4
 (unfold Tryz.f186; refine rn trivial ?_)
 have F:=(Ja @hb (Ja @hse @hle))
 (refine rn F ?_; try with_reducible exact⟨⟩)
def QeK(t:Tx)(hs:t.sm):VCalls prog 187 [.agg t.d] [] (Ret (.agg (QK t).d)):=by
 refine dd Tryz.func187 ?_
 have hg:=fun h:0<t.l.length=>QG9 t.l h
 simp only[QbJ] at hg
 obtain⟨id,st,n,b,l,s⟩:=t
 obtain⟨h1,h2⟩:=hs
 dsimp only at h1 h2 hg
 have eS:QK ⟨id,st,n,b,l,s⟩=if st=2/\Qhs ⟨id,st,n,b,l,s⟩ b=false then ⟨id,1,n,0,l,s⟩ else ⟨id,st,n,b,l,s⟩:=rfl
 have eL:Qhs ⟨id,st,n,b,l,s⟩ b=(decide (0<l.length)&&decide (b<l.getD (l.length-1) 0)):=rfl
 generalize QK ⟨id,st,n,b,l,s⟩=u at *
 generalize Qhs ⟨id,st,n,b,l,s⟩ b=B at *
 (unfold Tryz.f187; refine rn trivial ?_)
 have F:=@hg
 refine rn F ?_
 repeat' (first
  | with_reducible exact⟨⟩
  | (refine sG F ?_ ?_<;>intro hZ)
  | (refine sB F ?_ ?_<;>intro hZ)
  | (refine Qd (id:=1) [0,1,2,3,4,5,6,7,8,9,10,11,12,13,14,15,16,17,18,19,20,21] [] (by kernel_rfl) (by kernel_rfl) ?_; refine rn F ?_))
 all_goals first
  | (rw[eS,if_pos ⟨by assumption,by rw[eL,decide_eq_false (show ¬ b<l.getD (l.length-1) 0 by omega),JH]⟩])
  | (rw[eS,if_pos ⟨by assumption,by rw[eL,decide_eq_false (show ¬ 0<l.length by omega),Bool.false_and]⟩])
  | (rw[eS,if_neg (by rintro⟨h,_⟩; omega)])
  | (rw[eS,if_neg (by rintro⟨_,h⟩; rw[eL,decide_eq_true (show b<l.getD (l.length-1) 0 by omega),decide_eq_true (show 0<l.length by omega)] at h; cases h)])
def Qgl(l:List Tx)(t:Tx):cells Qap l++[.pv (.lit (.int .i64 t.id)),.pv (.lit (.int .i64 t.st)),.pv (.lit (.int .i64 t.n)),.pv (.lit (.int .i64 t.b)),.pv (.sl (fz Qad t.l)),.pv (.sl (fz Qad t.s))]=cells Qap (l++[t]):=by rw[QA]; rfl
def QtT(l:List Tx)(a:Int):(Qkw l a).length<=l.length:=QyY _ _
def QtS(l:List Tx)(a:Int)(i:Nat)(h:i<l.length):Qkw (l.take (i+1)) a=if (l.getD i Tx0).id=a then Qkw (l.take i) a else Qkw (l.take i) a++[l.getD i Tx0]:=by
 rw[Qf l i h]
 unfold Qkw
 rw[Qb3 l _ i h]
 by_cases hx:l[i].id=a<;>simp[hx]
def Qg9(l:List Tx)(hl:l.length<=1000000)(a:Int):VCalls prog 185 [.pv (.sl (fz Qap l)),.int .i64 a] [] (Ret (.pv (.sl (fz Qap (Qkw l a))))):=by
 refine dd Tryz.func185 ?_
 (unfold Tryz.f185; refine rn trivial ?_)
 refine VLoop.nilOwn 5 197 6 rfl ?_
 refine Qj (fun s:To l.length=>⟨28,0,[(6,.int .i64 s.i),(5,.own 0 6 0 (Qkw (l.take s.i) a).length),(0,.pv (.sl (fz Qap l))),(1,.int .i64 a)],[⟨197,true,cells Qap (Qkw (l.take s.i) a)⟩]⟩) (fun s=>l.length-s.i) ⟨0,JJ _⟩ (gc [0]) ?_
 intro s
 have hi:=s.hi
 have hg:=fun h:s.i<l.length=>QqT l s.i h
 have hle:=QtT (l.take s.i) a
 rw[Jj] at hle
 have hb:((Qkw (l.take s.i) a).length+1)*80<=140737488355328:=by omega
 have hs:=QtS l a s.i
 have F:=(Ja @hg (Ja @hb @Qgl))
 refine rn F ?_
 repeat' (first
  | with_reducible exact⟨⟩
  | (refine sB F ?_ ?_<;>intro hZ))
 ·replace hs:=hs (by omega)
  rw[if_neg (by assumption)] at hs
  refine⟨⟨s.i+1,by omega⟩,by show l.length-(s.i+1)<l.length-s.i; omega,?_⟩
  rw[hs,Js]
  exact(gc [2])
 ·replace hs:=hs (by omega)
  rw[if_pos (by assumption)] at hs
  refine⟨⟨s.i+1,by omega⟩,by show l.length-(s.i+1)<l.length-s.i; omega,?_⟩
  rw[hs]
  exact(gc [0])
 ·rw[Ji (by omega)]
def QjM(l:List Tx)(a:Int):Int×Int:=
 if QbD l=false then (0,15) else if idT l a<0 then (0,16) else if (l.getD (idT l a).toNat Tx0).st≠1 then (0,15) else (idT l a,0)
def Qlw(l:List Tx)(a:Int):(QjM l a).2=(Qu l a).2:=by
 unfold QjM Qu
 split
 ·rfl
 ·split
  ·rfl
  ·split<;>rfl
def Qlx(h:(Qu l a).2=0):(QjM l a).1=idT l a:=by
 unfold QjM
 unfold Qu at h
 split at h
 ·simp at h
 ·rename_i h1
  split at h
  ·simp at h
  ·rename_i h2
   split at h
   ·simp at h
   ·rename_i h3
    rw[if_neg h1,if_neg h2,if_neg h3]
def Qlv(l:List Tx)(hs:smL l)(a:Int):VCalls prog 215 [.pv (.sl (fz Qap l)),.int .i64 a] [] (Ret (.tup [.int .i64 (QjM l a).1,.int .i64 (QjM l a).2])):=by
 refine dd Tryz.func215 ?_
 have c1:=QbW l hs
 have c2:=Qgr l hs.1 a
 unfold QjM
 rcases QI l a with h | ⟨i,hi,h,hid⟩
 ·rw [h] at c2 |-
  (unfold Tryz.f215; refine rn trivial ?_)
  refine rn F ?_
  repeat' (first
   | with_reducible exact⟨⟩
   | (refine sB F ?_ ?_<;>intro hZ)
   | refine vp F (c1) ?_
   | refine vp F (c2) ?_)
  all_goals rfl
 ·rw [h] at c2 |-
  have hg:=QqT l i hi
  rw[Jp,if_neg (show ¬ (i:Int)<0 by omega)]
  (unfold Tryz.f215; refine rn trivial ?_)
  have F:=@hg
  refine rn F ?_
  repeat' (first
   | with_reducible exact⟨⟩
   | (refine sB F ?_ ?_<;>intro hZ)
   | refine vp F (c1) ?_
   | refine vp F (c2) ?_)
  all_goals first | rfl | (rw[if_pos (by assumption)]) | (rw[if_neg (by omega)])
def QBJ(l:List Tx)(hs:smL l)(a:Int):VCalls prog 170 [.pv (.sl (fz Qap l)),.int .i64 a] [] (Ret (QD1 (Qib l a))):=by
 refine VCalls.unwk ?_
 refine dd Tryz.func170 ?_
 have c1:=Qlv l hs a
 have hok:=@QbR l a
 rw[Qlw] at c1
 unfold Qib
 by_cases hz:(Qu l a).2=0
 ·obtain ⟨hv,i,hi,h1,h2,h3⟩:=hok hz
  rw[Qlx hz,h1,hz] at c1
  have hts:=Qep (Qbz hv hi)
  have hg:=Qpu l i hi
  have hw:=Qtr l hs.1 i hi ⟨l[i].id,l[i].st,l[i].n,l[i].b,l[i].l,l[i].s++[l[i].n]⟩
  rw[if_neg (by rw[hz]; simp),h3,h1,Jp]
  generalize l[i]=t at *
  obtain⟨id,st,n,b,q,s⟩:=t
  dsimp only at hts hg hw
  (unfold Tryz.f170; refine rn trivial ?_)
  have F:=(Ja @hg @Qkq)
  refine rn F ?_
  repeat' (first
   | with_reducible exact⟨⟩
   | (refine sB F ?_ ?_<;>intro hZ)
   | refine vp F (c1) ?_
   | (refine Qgn [3] _ _ (hw) rfl ⟨⟨by simp,Qw _ _ _⟩,trivial⟩ (by decide) rfl (by simp[DV.nums.go,DV.nums]) ?_ ?_; (focus (refine rd F)); refine rn F ?_)
   | (refine Qd (id:=7) [0,1,3,4] [⟨[5],[],2,[0,3,4],[]⟩,⟨[5],[5],6,[0,1,3,4],[7]⟩,⟨[],[],8,[],[]⟩] (by kernel_rfl) (by kernel_rfl) ?_; refine rn F ?_))
  all_goals first | rfl | (rw[if_pos (by omega)]; rfl) | (rw[if_neg (by omega)]; rfl) | skip
 ·generalize Qu l a = r at *
  generalize (QjM l a).1=j at *
  rw[if_pos hz]
  (unfold Tryz.f170; refine rn trivial ?_)
  have F:=trivial
  refine rn F ?_
  repeat' (first
   | with_reducible exact⟨⟩
   | refine vp F (c1) ?_)
  all_goals first | rfl | contradiction | skip
def Qjb{l:List Tx}{a:Int}(h:(Qu l a).2=0):(Qu l a).1.st=1/\(Qu l a).1.b=0:=by
 obtain⟨hv,i,hi,h1,h2,h3⟩:=QbR h
 have hst:(Qu l a).1.st=1:=by
  unfold Qu at h |-
  split at h
  ·simp at h
  ·rename_i q1
   split at h
   ·simp at h
   ·rename_i q2
    split at h
    ·simp at h
    ·rename_i q3
     rw[if_neg q1,if_neg q2,if_neg q3]
     simpa using q3
 refine⟨hst,?_⟩
 have ho:=Qbz hv hi
 rw[h3] at hst |-
 simp only[Tx.okB,Tx.hdB,Jb,Jf,decide_eq_true_eq] at ho
 omega
def QB4(l:List Tx)(hs:smL l)(a sv:Int):VCalls prog 171 [.pv (.sl (fz Qap l)),.int .i64 a,.int .i64 sv] [] (Ret (QD1 (Qir l a sv))):=by
 refine VCalls.unwk ?_
 refine dd Tryz.func171 ?_
 have c1:=Qlv l hs a
 have hok:=@QbR l a
 have hab:=@Qjb l a
 rw[Qlw] at c1
 unfold Qir
 by_cases hz:(Qu l a).2=0
 ·obtain ⟨hv,i,hi,h1,h2,h3⟩:=hok hz
  obtain⟨hst,hb0⟩:=hab hz
  rw[Qlx hz,h1,hz] at c1
  have hts:=Qep (Qbz hv hi)
  have hg:=Qpu l i hi
  rw[if_neg (by rw[hz]; simp),h3,h1,Jp]
  rw[h3] at hst hb0
  have hw:=Qtr l hs.1 i hi
  by_cases hr:sv<0\/((l[i].s.length:Int)<=sv)
  ·generalize l[i] = t at *
   obtain⟨id,st,n,b,q,s⟩:=t
   dsimp only at hr hg |-
   rw[if_pos hr]
   (unfold Tryz.f171; refine rn trivial ?_)
   have F:=@hg
   refine rn F ?_
   repeat' (first
    | with_reducible exact⟨⟩
    | (refine sG F ?_ ?_<;>intro hZ)
    | refine vp F (c1) ?_)
   all_goals first | rfl | (exfalso; omega)
  obtain⟨k,rfl⟩:∃ k:Nat,sv=k:=⟨sv.toNat,by omega⟩
  have hk:k<l[i].s.length:=by omega
  rw[if_neg (by omega),Jp]
  have hw2:=hw (QK ⟨l[i].id,2,l[i].n,l[i].s.getD k 0,l[i].l,l[i].s.take (k+1)⟩)
  generalize l[i]=t at *
  obtain⟨id,st,n,b,q,s⟩:=t
  dsimp only at hts hg hk hst hb0 hw2 |-
  subst hst hb0
  have hse:=QeK ⟨id,2,n,s.getD k 0,q,s.take (k+1)⟩ ⟨by show q.length<=_; omega,by show(s.take (k+1)).length<=_; rw[Jj]; omega⟩
  have eS:QK ⟨id,2,n,s.getD k 0,q,s.take (k+1)⟩=if Qhs ⟨id,1,n,0,q,s⟩ (s.getD k 0)=true then ⟨id,2,n,s.getD k 0,q,s.take (k+1)⟩ else ⟨id,1,n,0,q,s.take (k+1)⟩:=by
   unfold QK
   have e:Qhs ⟨id,2,n,s.getD k 0,q,s.take (k+1)⟩ (s.getD k 0)=Qhs ⟨id,1,n,0,q,s⟩ (s.getD k 0):=rfl
   cases hB:Qhs ⟨id,1,n,0,q,s⟩ (s.getD k 0)
   ·rw[if_pos ⟨rfl,by rw[<- hB]; exact e⟩]; rfl
   ·rw[if_neg (by rintro⟨_,h⟩; rw[show Qhs ⟨id,2,n,s.getD k 0,q,s.take (k+1)⟩ (s.getD k 0)=true from e.trans hB] at h; cases h)]; rfl
  have hgc:((cells Qad (s.take (k+1))).drop k).take 1=[.int .i64 (s.getD k 0)]:=by
   have hgc:(cells Qad (s.take (k+1)))[k]?=some (.int .i64 (s.getD k 0)):=by
    rw[QfO _ _ (by rw[Jj]; omega)]
    simp[Jh,JL]
   obtain⟨h,e⟩:=List.getElem?_eq_some_iff.1 hgc
   rw[List.drop_eq_getElem_cons h,e]; rfl
  have hgd:(cells Qad (s.take (k+1)))[k]?=some (.int .i64 (s.getD k 0)):=by
   rw[QfO _ _ (by rw[Jj]; omega)]
   simp[Jh,JL]
  have hl1:(s.take (k+1)).length=k+1:=by rw[Jj]; omega
  have ek:((k:Int)+1).toNat=k+1:=by omega
  have fin:(if Qhs ⟨id,1,n,0,q,s⟩ (s.getD k 0)=true then (l.set i ⟨id,2,n,s.getD k 0,q,s.take (k+1)⟩,(0:Int)) else (l.set i ⟨id,1,n,0,q,s.take (k+1)⟩,0))=(l.set i (QK ⟨id,2,n,s.getD k 0,q,s.take (k+1)⟩),0):=by
   rw[eS]; split<;>rfl
  rw[fin]
  clear fin eS
  generalize hT:QK ⟨id,2,n,s.getD k 0,q,s.take (k+1)⟩=T at *
  (unfold Tryz.f171; refine rn trivial ?_)
  have F:=(Ja @hg (Ja @hl1 (Ja @ek (Ja @hgc @hgd))))
  refine rn F ?_
  repeat' (first
   | with_reducible exact⟨⟩
   | refine vp F (c1) ?_
   | (refine Qgn [1] _ _ (hse) rfl ⟨⟨by simp,Qw _ _ _⟩,trivial⟩ (by decide) rfl (by simp[DV.nums.go,DV.nums]) ?_ ?_; (focus (refine rd F)); refine rn F ?_)
   | refine vp F (hw2) ?_
   | (refine Qd (id:=8) [0,1,2,3,4,5] [⟨[],[],6,[2,3,4],[7]⟩,⟨[],[],8,[],[]⟩] (by kernel_rfl) (by kernel_rfl) ?_; refine rn F ?_))
  all_goals first | rfl | skip
 ·generalize Qu l a = r at *
  generalize (QjM l a).1=j at *
  rw[if_pos hz]
  (unfold Tryz.f171; refine rn trivial ?_)
  have F:=trivial
  refine rn F ?_
  repeat' (first
   | with_reducible exact⟨⟩
   | refine vp F (c1) ?_)
  all_goals first | rfl | contradiction | skip
end
section
attribute [local go_sem] Tx.d QCw QD8 QEx QEv Qvk QFl QF3 QEy QEw QlX Js Jj Jy JD Qct QbJ Qfg Qdp QcE Qa3 QaB Qov Qk2 QgB Qe2 Qev QdD QGD
structure Fr(l:List Tx)(a:Int) where
 j:Nat
 hj:j<=l.length
 lt:∀ k,∀ h:k<l.length,k<j->l[k].id<a
def Fr.fin{l:List Tx}{a:Int}(s:Fr l a)(h:∀ h:s.j<l.length,¬ l[s.j].id<a):QCa l a=s.j:=
 QFe l _ s.j s.hj (fun k hk hkj=>decide_eq_true (s.lt k hk hkj)) (fun hj=>decide_eq_false (h hj))
def Qxk{l:List Tx}(h:j<=l.length):(l.take j).length=j:=by rw[Jj]; omega
def Qnl(l:List Tx)(j:Nat)(h:j<l.length):cells Qap (l.take j)++[.pv (.lit (.int .i64 (l.getD j Tx0).id)),.pv (.lit (.int .i64 (l.getD j Tx0).st)),.pv (.lit (.int .i64 (l.getD j Tx0).n)),.pv (.lit (.int .i64 (l.getD j Tx0).b)),.pv (.sl (fz Qad (l.getD j Tx0).l)),.pv (.sl (fz Qad (l.getD j Tx0).s))]=cells Qap (l.take (j+1)):=by
 rw[Qgl,Jt h,Qf l j h]
def QoT (l:List Tx) (hs:smL l) (a:Int):VCalls prog 83 [.pv (.sl (fz Qap l)),.int .i64 a] [] (Ret (QD1 (Qaj l a))):=by
 refine VCalls.unwk ?_
 have hl:=hs.1
 have c1:=QbW l hs
 have c2:=Qgr l hl a
 have eS:Qaj l a=if QbD l=false then ([],15) else if a<1\/1073741824<a then ([],1) else if 0<=idT l a then ([],25) else if l.length=64 then ([],21) else (l.take (QCa l a)++⟨a,1,0,0,[],[]⟩::l.drop (QCa l a),0):=rfl
 have hfin:=@Fr.fin l a
 have hp:QCa l a<=l.length:=QG1 _ _
 have hsm:=@QeF l
 generalize idT l a=d at *
 generalize Qaj l a=res at *
 generalize QbD l=T at *
 refine Qde (fn:=Tryz.f83) (c:=Qfg Tryz.f83) Tryz.func83 rfl (by kernel_rfl) (by simp[Tryz.f83]) ?_
 refine QGL 5 ?_
 generalize hrest:QfA 5 (Qfg Tryz.f83)=rest
 (unfold Tryz.f83; refine rn trivial ?_)
 have F:=trivial
 refine rn F ?_
 repeat' (first
  | (refine sG F ?_ ?_<;>intro hZ<;>try with_reducible exact⟨⟩)
  | (refine sB F ?_ ?_<;>intro hZ<;>try with_reducible exact⟨⟩)
  | (refine sD F ?_ ?_<;>intro hZ<;>try with_reducible exact⟨⟩)
  | (refine vp F (c1) ?_; try with_reducible exact⟨⟩)
  | (refine vd F (c1) ?_; try with_reducible exact⟨⟩)
  | (refine vl F (c1) ?_; try with_reducible exact⟨⟩)
  | (refine vp F (c2) ?_; try with_reducible exact⟨⟩)
  | (refine vd F (c2) ?_; try with_reducible exact⟨⟩)
  | (refine vl F (c2) ?_; try with_reducible exact⟨⟩)
  | (refine Qd (id:=14) [0,1,2,5,6,7,8] [⟨[3],[3],4,[1,2,5,6,7,8],[]⟩,⟨[],[],9,[0,1,2,5,6,7],[]⟩,⟨[],[],10,[],[]⟩,⟨[],[],11,[],[]⟩] (by kernel_rfl) (by kernel_rfl) ?_; refine rn F ?_; try with_reducible exact⟨⟩)
  | (refine Qfr (by kernel_rfl) (by kernel_rfl) ?_; refine rn F ?_; try with_reducible exact⟨⟩))
 all_goals first
  | (rw [eS]; repeat (first | rw [if_pos (by first | assumption | omega)] | rw [if_neg (by first | assumption | omega | (rw [show T = true by assumption]; decide))])
     rfl)
  | skip
 rw[eS]
 repeat (first | rw[if_pos (by first | assumption | omega)] | rw[if_neg (by first | assumption | omega | (rw[show T=true by assumption]; decide))])
 have hsm:=hsm (by assumption)
 refine VLoop.nilOwn 6 197 6 rfl ?_
 refine Qj (fun s:Fr l a=>⟨60,0,[(7,.int .i64 s.j),(6,.own 0 6 0 s.j),(0,.pv (.sl (fz Qap l))),(1,.int .i64 a)],[⟨197,true,cells Qap (l.take s.j)⟩]⟩) (fun s=>l.length-s.j) ⟨0,JJ _,fun k _ h=>by omega⟩ (gc [0]) ?_
 intro s
 have hj:=s.hj
 have hlt:=s.lt
 have hf:=hfin s
 have htl:=Qxk s.hj
 have hg:=fun h:s.j<l.length=>QqT l s.j h
 have hts:=fun h:s.j<l.length=>Qnl l s.j h
 have hcl:(cells Qap (l.take s.j)).length=s.j*6:=by rw[QCw,htl]
 have hta:(cells Qap (l.take s.j)).take (s.j*6)=cells Qap (l.take s.j):=QD8 _ _ (by rw[htl]; exact Ko _)
 have hb:(s.j+1)*80<=140737488355328:=by omega
 have htx:(cells Qap (l.take s.j)++([.pv (.lit (.int .i64 a)),.pv (.lit (.int .i64 1)),.pv (.lit (.int .i64 0)),.pv (.lit (.int .i64 0)),.pv (.slc []),.pv (.slc [])]:List DV)).take ((s.j+1)*6)=cells Qap (l.take s.j)++[.pv (.lit (.int .i64 a)),.pv (.lit (.int .i64 1)),.pv (.lit (.int .i64 0)),.pv (.lit (.int .i64 0)),.pv (.slc []),.pv (.slc [])]:=by
  rw[Ji]; rw[Js,hcl]; simp; omega
 have hb2:(s.j+1+(l.length-s.j))*80<=140737488355328:=by omega
 have hb3:(s.j+1)*6<=s.j*6+6:=by omega
 have hw:DV.wk.go (cells Qap (l.take s.j)++[.pv (.lit (.int .i64 a)),.pv (.lit (.int .i64 1)),.pv (.lit (.int .i64 0)),.pv (.lit (.int .i64 0)),.pv (.slc []),.pv (.slc [])]++cells Qap (l.drop s.j))=cells Qap (l.take s.j++⟨a,1,0,0,[],[]⟩::l.drop s.j):=by
  rw[Qz1,Qz1,QGD,QGD,QA,JC]
  rfl
 have hfl:(l.take s.j++(⟨a,1,0,0,[],[]⟩:Tx)::l.drop s.j).length=s.j+1+(l.length-s.j):=by
  rw[Js,JR,Jy,htl]; omega
 have F:=(Ja @hg (Ja @hts (Ja @hcl (Ja @hta (Ja @hb (Ja @htx (Ja @hb2 @hb3)))))))
 refine rn F ?_
 repeat' (first
  | (refine sG F ?_ ?_<;>intro hZ<;>try with_reducible exact⟨⟩)
  | (refine sB F ?_ ?_<;>intro hZ<;>try with_reducible exact⟨⟩)
  | (refine sD F ?_ ?_<;>intro hZ<;>try with_reducible exact⟨⟩)
  | (refine Qd (id:=14) [0,1,2,5,6,7,8] [⟨[3],[3],4,[1,2,5,6,7,8],[]⟩,⟨[],[],9,[0,1,2,5,6,7],[]⟩,⟨[],[],10,[],[]⟩,⟨[],[],11,[],[]⟩] (by kernel_rfl) (by kernel_rfl) ?_; refine rn F ?_; try with_reducible exact⟨⟩)
  | (refine Qfr (by kernel_rfl) (by kernel_rfl) ?_; refine rn F ?_; try with_reducible exact⟨⟩))
 all_goals first
  | (refine ⟨⟨s.j + 1,by omega,fun k h' hkj=>?_⟩,by show l.length - (s.j + 1) < l.length - s.j; omega,(gc [2])⟩
     rcases J3 k s.j with h | h
     ·exact hlt k h' h
     ·obtain rfl:k = s.j:=by omega
      rw[<- Qf l s.j h' Tx0]
      assumption)
  | (rw [hf (fun h=>by first | (rw [<- Qf l s.j h Tx0]; exact Int.not_lt.2 (by assumption)) | (clear F hg hts hf hlt htx hw; omega))]
     refine QA9 ?_
     subst hrest
     simp(config:={ maxSteps:=2000000 }) (implicitDefEqProofs:=false) (disch:=first | omega | assumption) only[go_sem,↓reduceIte,Jz,Jc,JA,Jd,Tryz.f83,hw,Qvk hfl]
     rfl)
end
section
attribute [local go_sem] Tx.d QCw QD8 QEx QEv Qvk QFl QF3 QEy QEw QlX Js Jj Jy JD Qct QbJ
def QvF(q:List Int)(r:Int)(i:Nat)(h:i<q.length):(q.take (i+1)).filter (fun x=>decide (x≠r))=(q.take i).filter (fun x=>decide (x≠r))++(if q.getD i 0=r then [] else [q.getD i 0]):=by
 rw[Jt h,Kb,Qf q i h]
 by_cases hx:q[i]=r<;>simp[hx]
def QDd(q:List Int)(r:Int)(i:Nat):((q.take i).filter fun x=>decide (x≠r)).length<=i:=by
 refine Nat.le_trans (JN _ _) ?_
 rw[Jj]; omega
def QDe(q:List Int)(r:Int):(q.filter fun x=>decide (x≠r)).length=q.length ↔ r ∉ q:=by
 rw[List.length_filter_eq_length_iff]
 constructor
 ·intro h hm; simpa using h r hm
 ·intro h x hx; exact decide_eq_true fun e=>h (e▸hx)
def Qnz(l:List Tx)(hs:smL l)(e:E):VCalls prog 142 [.pv (.sl (fz Qap l)),.agg e.d] [] (Ret (QD1 (QZ l e))):=by
 refine VCalls.unwk ?_
 have c1:=QbW l hs
 have c2:=QcQ e
 have c3:=Qgr l hs.1 e.tx
 have c4:=Qg9 l hs.1 e.tx
 have hw:=fun(i:Nat) (hi:i<l.length) (t:Tx)=>Qtr l hs.1 i hi t
 have hok:=@QeW e
 have hat:=@QyF l e
 have e0:QZ l e=if QbD l=false then ([],15) else if e.okB=false then ([],12) else if e.tx=0 then (l,0) else if idT l e.tx<0 then ([],16)
  else QlW l (idT l e.tx).toNat (l.getD (idT l e.tx).toNat Tx0) e:=rfl
 by_cases hv:QbD l=true
 rotate_left
 ·have hv':QbD l = false:=by simpa using hv
  rw[e0,if_pos hv']
  rw[hv'] at c1
  refine dd Tryz.func142 ?_
  unfold E.d
  (unfold Tryz.f142; refine rn trivial ?_)
  refine rn F ?_
  repeat' (first
   | with_reducible exact⟨⟩
   | refine vp F (c1) ?_)
  rfl
 by_cases hk:e.okB=true
 rotate_left
 ·have hk':e.okB = false:=by simpa using hk
  rw[e0,if_neg (by rw[hv]; decide),if_pos hk']
  rw[hv] at c1
  rw[hk'] at c2
  unfold E.d at c2 |-
  refine dd Tryz.func142 ?_
  (unfold Tryz.f142; refine rn trivial ?_)
  refine rn F ?_
  repeat' (first
   | with_reducible exact⟨⟩
   | refine vp F (c1) ?_
   | refine vp F (c2) ?_)
  rfl
 by_cases ht:e.tx=0
 ·rw [e0,if_neg (by rw [hv]; decide),if_neg (by rw [hk]; decide),if_pos ht]
  rw[hv] at c1
  rw[hk] at c2
  unfold E.d at c2 |-
  refine dd Tryz.func142 ?_
  (unfold Tryz.f142; refine rn trivial ?_)
  have F:=@ht
  refine rn F ?_
  repeat' (first
   | with_reducible exact⟨⟩
   | refine vp F (c1) ?_
   | refine vl F (c2) ?_)
  rfl
 rw[hv] at c1
 rw[hk] at c2
 rcases QI l e.tx with h | ⟨i,hi,h,hid⟩
 ·rw [e0,if_neg (by rw [hv]; decide),if_neg (by rw [hk]; decide),if_neg ht,h,if_pos (by decide)]
  rw[h] at c3
  unfold E.d at c2 |-
  refine dd Tryz.func142 ?_
  (unfold Tryz.f142; refine rn trivial ?_)
  have F:=@ht
  refine rn F ?_
  repeat' (first
   | with_reducible exact⟨⟩
   | refine vp F (c1) ?_
   | refine vp F (c2) ?_
   | refine vp F (c3) ?_)
  all_goals first | rfl | contradiction
 rw[hat hv hk ht hi h]
 have hkk:=hok hk ht
 rw[h] at c3
 have hg:=Qpu l i hi
 have hto:=Qbz hv hi
 have hso:=QuC hto
 have hle:=Qep hto
 clear hat e0 hok
 generalize hT:l[i]=t at *
 obtain⟨id,st,n,b,q,s⟩:=t
 dsimp only at hid hso hle hg
 obtain⟨lsn,kind,tx,ptx,ppg,ref,c,blob⟩:=e
 dsimp only at hid c4 c3 h hkk ht
 unfold E.d at c2 |-
 dsimp only at c2 |-
 unfold QlW
 dsimp only
 by_cases hp:ptx=n
 rotate_left
 ·rw [if_pos (.inl hp)]
  refine dd Tryz.func142 ?_
  (unfold Tryz.f142; refine rn trivial ?_)
  have F:=(Ja @ht @hg)
  refine rn F ?_
  repeat' (first
   | with_reducible exact⟨⟩
   | refine vp F (c1) ?_
   | refine vp F (c2) ?_
   | refine vp F (c3) ?_)
  all_goals first | rfl | contradiction | omega
 subst hp
 rcases hkk with rfl | rfl | rfl | rfl | rfl
 ·rw [if_neg (by rintro (h | h); exact h rfl; omega),if_neg (by omega)]
  have hwA:=hw i hi (QK (Qcz ⟨id,st,ptx,b,q,s⟩ ⟨lsn,1,tx,ptx,ppg,ref,c,blob⟩))
  have hse:=QeK (Qcz ⟨id,st,ptx,b,q,s⟩ ⟨lsn,1,tx,ptx,ppg,ref,c,blob⟩)
  have eN:Qcz ⟨id,st,ptx,b,q,s⟩ ⟨lsn,1,tx,ptx,ppg,ref,c,blob⟩=⟨id,st,lsn,b,q++[lsn],s⟩:=rfl
  rw[eN] at hwA hse |-
  replace hse:=hse ⟨by simp; omega,by show s.length<=_; omega⟩
  generalize QK ⟨id,st,lsn,b,q++[lsn],s⟩=u at *
  refine dd Tryz.func142 ?_
  (unfold Tryz.f142; refine rn trivial ?_)
  have F:=(Ja @ht (Ja @hg @Qkq))
  refine rn F ?_
  repeat' (first
   | with_reducible exact⟨⟩
   | refine vp F (c1) ?_
   | refine vp F (c2) ?_
   | refine vp F (c3) ?_
   | (refine Qgn [4] _ _ (hse) rfl ⟨⟨by simp,Qw _ _ _⟩,trivial⟩ (by decide) rfl (by simp[DV.nums.go,DV.nums]) ?_ ?_; (focus (refine rd F)); refine rn F ?_)
   | refine vp F (hwA) ?_
   | (refine Qd (id:=17) [0,1,3,4] [⟨[5],[],2,[0,3,4],[]⟩,⟨[5],[5],6,[0,1,3,4],[7]⟩,⟨[],[],8,[],[]⟩] (by kernel_rfl) (by kernel_rfl) ?_; refine rn F ?_))
  all_goals first | rfl | skip
 ·refine dd Tryz.func142 ?_
  (unfold Tryz.f142; refine rn trivial ?_)
  have F:=(Ja @ht @hg)
  refine rn F ?_
  repeat' (first
   | with_reducible exact⟨⟩
   | refine vp F (c1) ?_
   | refine vp F (c2) ?_
   | refine vp F (c3) ?_)
  rotate_left
  all_goals first | contradiction | skip
  refine VLoop.nilOwn 8 3 1 rfl ?_
  refine Qj (fun s0:To q.length=>⟨100,0,[(9,.int .i64 s0.i),(8,.own 2 1 0 ((q.take s0.i).filter fun x=>decide (x≠ref)).length),(7,.ptr 1 0),(6,.int .i64 i),(3,.ptr 0 0),(0,.pv (.sl (fz Qap l)))],
   [⟨52,true,[.int .i64 lsn,.int .i64 2,.int .i64 tx,.int .i64 ptx,.int .i64 ppg,.int .i64 ref,.int .i64 c.pg,.int .i64 c.sl,.bool c.b.set,.pv (.str c.b.data),.bool c.a.set,.pv (.str c.a.data),.pv (.str blob)]⟩,
    ⟨197,true,[.int .i64 id,.int .i64 st,.int .i64 lsn,.int .i64 b,.pv (.sl (fz Qad q)),.pv (.sl (fz Qad s))]⟩,
    ⟨3,true,cells Qad ((q.take s0.i).filter fun x=>decide (x≠ref))⟩]⟩) (fun s0=>q.length-s0.i) ⟨0,JJ _⟩ (gc [0,1,2]) ?_
  intro s0
  have hi0:=s0.hi
  have hgq:=fun h:s0.i<q.length=>Qac q s0.i h
  have hfl:=QDd q ref s0.i
  have hfs:=QvF q ref s0.i
  have hwA:=hw i hi (QK (Qcz ⟨id,st,ptx,b,q,s⟩ ⟨lsn,2,tx,ptx,ppg,ref,c,blob⟩))
  have hse:=QeK (Qcz ⟨id,st,ptx,b,q,s⟩ ⟨lsn,2,tx,ptx,ppg,ref,c,blob⟩)
  have eN:Qcz ⟨id,st,ptx,b,q,s⟩ ⟨lsn,2,tx,ptx,ppg,ref,c,blob⟩=⟨id,st,lsn,b,q.filter fun x=>decide (x≠ref),s⟩:=rfl
  have hfq:=QDe q ref
  rw[eN] at hwA hse |-
  have hfl2:(q.filter fun x=>decide (x≠ref)).length<=q.length:=JN _ _
  replace hse:=hse ⟨by show(q.filter fun x=>decide (x≠ref)).length<=_; omega,by show s.length<=_; omega⟩
  by_cases hc:s0.i<q.length
  ·replace hfs:=hfs hc
   generalize ((q.take s0.i).filter fun x=>decide (x≠ref))=out at *
   have hb:(out.length+1)*8<=140737488355328:=by omega
   have F:=(Ja @hgq (Ja @Qkq @hb))
   refine rn F ?_
   repeat' (first
    | with_reducible exact⟨⟩
    | (refine sB F ?_ ?_<;>intro hZ)
    | (refine Qd (id:=23) [0,1,2,3,4,5,6,7] [] (by kernel_rfl) (by kernel_rfl) ?_; refine rn F ?_))
   ·have hf2:(q.take (s0.i + 1)).filter (fun x=>decide ¬x = ref) = out ++ [q.getD s0.i 0]:=by rw [if_neg (by assumption)] at hfs; exact hfs
    refine⟨⟨s0.i+1,by omega⟩,by show q.length-(s0.i+1)<q.length-s0.i; omega,?_⟩
    dsimp only
    rw[hf2,Js]
    exact(gc [0,1,4])
   ·have hf2:(q.take (s0.i + 1)).filter (fun x=>decide ¬x = ref) = out:=by rw [if_pos (by assumption),JU] at hfs; exact hfs
    refine⟨⟨s0.i+1,by omega⟩,by show q.length-(s0.i+1)<q.length-s0.i; omega,?_⟩
    dsimp only
    rw[hf2]
    exact(gc [0,1,2])
  ·rw [Ji (by omega)] at *
   generalize (q.filter fun x=>decide (x≠ref))=out at *
   generalize QK ⟨id,st,lsn,b,out,s⟩=u at *
   have F:=trivial
   refine rn F ?_
   repeat' (first
    | with_reducible exact⟨⟩
    | (refine sB F ?_ ?_<;>intro hZ)
    | (refine Qgn [2] _ _ (hse) rfl ⟨⟨by simp,Qw _ _ _⟩,trivial⟩ (by decide) rfl (by simp[DV.nums.go,DV.nums]) ?_ ?_; (focus (refine rd F)); refine rn F ?_)
    | refine vp F (hwA) ?_)
   all_goals first | (rw[if_pos (hfq.1 (by omega))]; rfl) | (rw[if_neg (fun h=>absurd (hfq.2 h) (by omega))]; rfl) | skip
 ·rw [if_neg (by rintro (h | h); exact h rfl; omega),if_pos (by omega)]
  refine dd Tryz.func142 ?_
  (unfold Tryz.f142; refine rn trivial ?_)
  have F:=(Ja @ht @hg)
  refine rn F ?_
  repeat' (first
   | with_reducible exact⟨⟩
   | refine vp F (c1) ?_
   | refine vp F (c2) ?_
   | refine vp F (c3) ?_
   | refine vp F (c4) ?_)
  all_goals rfl
 ·rw [if_neg (by rintro (h | h); exact h rfl; omega),if_neg (by omega)]
  have hwA:=hw i hi (QK (Qcz ⟨id,st,ptx,b,q,s⟩ ⟨lsn,4,tx,ptx,ppg,ref,c,blob⟩))
  have hse:=QeK (Qcz ⟨id,st,ptx,b,q,s⟩ ⟨lsn,4,tx,ptx,ppg,ref,c,blob⟩)
  have eN:Qcz ⟨id,st,ptx,b,q,s⟩ ⟨lsn,4,tx,ptx,ppg,ref,c,blob⟩=⟨id,3,lsn,0,q,[]⟩:=rfl
  rw[eN] at hwA hse |-
  replace hse:=hse ⟨by show q.length<=_; omega,by simp⟩
  have hse2:VCalls prog 187 [.agg [.int .i64 id,.int .i64 3,.int .i64 lsn,.int .i64 0,.pv (.sl (fz Qad q)),.pv (.slc [])]] [] (Ret (.agg (QK ⟨id,3,lsn,0,q,[]⟩).d)):=VCalls.wkA hse
  generalize QK ⟨id,3,lsn,0,q,[]⟩=u at *
  refine dd Tryz.func142 ?_
  (unfold Tryz.f142; refine rn trivial ?_)
  have F:=(Ja @ht @hg)
  refine rn F ?_
  repeat' (first
   | with_reducible exact⟨⟩
   | refine vp F (c1) ?_
   | refine vp F (c2) ?_
   | refine vp F (c3) ?_
   | refine vp F (hse2) ?_
   | refine vp F (hwA) ?_)
  all_goals rfl
 ·rw [if_neg (by rintro (h | h); exact h rfl; omega),if_pos (by omega)]
  refine dd Tryz.func142 ?_
  (unfold Tryz.f142; refine rn trivial ?_)
  have F:=(Ja @ht @hg)
  refine rn F ?_
  repeat' (first
   | with_reducible exact⟨⟩
   | refine vp F (c1) ?_
   | refine vp F (c2) ?_
   | refine vp F (c3) ?_
   | refine vp F (c4) ?_)
  all_goals rfl
end
attribute [go_sem] Ce.d Ch.d E.d Lg.c QlX Js Jj Jy JD Qct QbJ
attribute [go_sem] Qhr QmP QmM Qlc Qk9 Qmo QdB
def Okay.no(s:Okay n c)(h:s.i<n)(hB:B=(Jv n).all c)(hc:c s.i=false):B=false:=by rw[hB,QaK h hc]
def Okay.yes(s:Okay n c)(h:¬ s.i<n)(hB:B=(Jv n).all c):B=true:=by rw[hB,s.all h]
def Okay.dec(s:Okay n c)(h:s.i<n):n-(s.i+1)<n-s.i:=by omega
structure Pg where
 id:Int
 lsn:Int
 cel:Nat->Ce
def QIA(c:Nat->Ce):List PV:=(Jv 16).flatMap fun i=>[.lit (.bool (c i).set),.str (c i).data]
def Pg.p(x:Pg):List PV:=.lit (.int .i64 x.id)::.lit (.int .i64 x.lsn)::QIA x.cel
def Pg.d(x:Pg):List DV:=x.p.map .pv
def Pg0:Pg:=⟨0,0,fun _=>Ce0⟩
structure Fm where
 pg:Pg
 dirty:Bool
 rc:Int
 used:Bool
def Fm.p(f:Fm):List PV:=f.pg.p++[.lit (.bool f.dirty),.lit (.int .i64 f.rc),.lit (.bool f.used)]
def Fm.d(f:Fm):List DV:=f.p.map .pv
def Fm0:Fm:=⟨Pg0,false,0,false⟩
def QcM:Enc Fm:=⟨37,Fm.p,by decide,fun _=>rfl⟩
def QGw(l:List Fm):(cells QcM l).length=l.length*37:=QJ QcM l
def QIM(l:List Fm)(n:Nat)(h:l.length*37<=n):(cells QcM l).take n=cells QcM l:=by rw[Ji]; rw[QGw]; exact h
def QIF(l m:List Fm):cells QcM l++cells QcM m=cells QcM (l++m):=(QA QcM l m).symm
def QIj(l:List Fm)(T:TypeId)(a b:Nat)(h:a<=b/\b<=l.length):QkC (some (none,T,37)) (fz QcM l) a b=some (.pv (.sl (fz QcM ((l.take b).drop a)))):=QgJ QcM l T a b h
def QIg(l:List Fm):(fz QcM l=[]\/(fz QcM l)[0]?.map JE=some 37)=True:=Qhz QcM l
def QGA(h:l.length=len):QgF n hp 0 37 len (some (cells QcM l))=some (.sl (fz QcM l)):=QX QcM h
def Qb5(e:Enc α)(l:List α)(d:α)(i:Nat)(h:i<l.length):(fz e l)[i]?=some (e.enc (l.getD i d)):=by rw[Qf l i h d]; exact QiU e l i h
def Qcg(l:List Fm)(i:Nat)(h:i<l.length):(fz QcM l)[i]?=some (l.getD i Fm0).p:=Qb5 QcM l Fm0 i h
def Qwq(l:List Fm)(f:Fm):cells QcM l++f.d=cells QcM (l++[f]):=by rw[QA]; simp[cells,QcM,Fm.d]
@[go_sem] def QIa(x:Fm)(h0:0<=i):QEe (some (none,T,37)) (some x.p) i=some (.ip x.p):=QkK h0 rfl (by decide)
@[go_sem] theorem Pg.p_len(x:Pg):x.p.length=34:=rfl
@[go_sem] theorem Pg.d_len(x:Pg):x.d.length=34:=rfl
@[go_sem] theorem Fm.p_len(x:Fm):x.p.length=37:=rfl
@[go_sem] theorem Fm.d_len(x:Fm):x.d.length=37:=rfl
@[go_sem] def Pg.p_map(x:Pg):x.p.map DV.pv=x.d:=(rfl)
@[go_sem] def Fm.p_map(x:Fm):x.p.map DV.pv=x.d:=(rfl)
@[go_sem] def Fm.p_take(x:Fm):x.p.take 37=x.p:=(rfl)
@[go_sem] def Fm.d_take(x:Fm):x.d.take 37=x.d:=(rfl)
@[go_sem] def Pg.p_take(x:Pg):x.p.take 34=x.p:=(rfl)
@[go_sem] def Pg.d_take(x:Pg):x.d.take 34=x.d:=(rfl)
@[go_sem] def Fm.p_pg(x:Fm):x.p.take 34=x.pg.p:=(rfl)
@[go_sem] def Fm.d_pg(x:Fm):x.d.take 34=x.pg.d:=(rfl)
@[go_sem] def Fm.p0(x:Fm):x.p[0]?=some (.lit (.int .i64 x.pg.id)):=(rfl)
def Fm.p1(x:Fm):x.p[1]?=some (.lit (.int .i64 x.pg.lsn)):=(rfl)
@[go_sem] def Fm.pd1(x:Fm):(x.p.drop 1)[0]?=some (.lit (.int .i64 x.pg.lsn)):=(rfl)
@[go_sem] def Fm.pd34(x:Fm):(x.p.drop 34)[0]?=some (.lit (.bool x.dirty)):=(rfl)
@[go_sem] def Fm.pd35(x:Fm):(x.p.drop 35)[0]?=some (.lit (.int .i64 x.rc)):=(rfl)
@[go_sem] def Fm.pd36(x:Fm):(x.p.drop 36)[0]?=some (.lit (.bool x.used)):=(rfl)
@[go_sem] def Fm.d0(x:Fm):x.d[0]?=some (.pv (.lit (.int .i64 x.pg.id))):=(rfl)
@[go_sem] def Fm.d1(x:Fm):x.d[1]?=some (.pv (.lit (.int .i64 x.pg.lsn))):=(rfl)
@[go_sem] def Fm.d34(x:Fm):x.d[34]?=some (.pv (.lit (.bool x.dirty))):=(rfl)
@[go_sem] def Fm.d35(x:Fm):x.d[35]?=some (.pv (.lit (.int .i64 x.rc))):=(rfl)
@[go_sem] def Pg.p0(x:Pg):x.p[0]?=some (.lit (.int .i64 x.id)):=(rfl)
def Pg.p1(x:Pg):x.p[1]?=some (.lit (.int .i64 x.lsn)):=(rfl)
@[go_sem] def Pg.d0(x:Pg):x.d[0]?=some (.pv (.lit (.int .i64 x.id))):=(rfl)
@[go_sem] def Pg.d1(x:Pg):x.d[1]?=some (.pv (.lit (.int .i64 x.lsn))):=(rfl)
@[go_sem] def Pg.d_one(x:Pg):Qq x.d=true:=(rfl)
@[go_sem] def Fm.d_one(x:Fm):Qq x.d=true:=(rfl)
@[go_sem] def Pg.d_nums(x:Pg)(k:Nat->Bool):DV.nums.go k x.d=true:=(rfl)
@[go_sem] def Fm.d_nums(x:Fm)(k:Nat->Bool):DV.nums.go k x.d=true:=(rfl)
@[go_sem] def Fm.set34(x:Fm)(b:Bool):x.d.set 34 (.pv (.lit (.bool b)))=Fm.d ⟨x.pg,b,x.rc,x.used⟩:=(rfl)
@[go_sem] def Fm.set35(x:Fm)(b:Int):x.d.set 35 (.pv (.lit (.int .i64 b)))=Fm.d ⟨x.pg,x.dirty,b,x.used⟩:=(rfl)
@[go_sem] def Fm.set36(x:Fm)(b:Bool):x.d.set 36 (.pv (.lit (.bool b)))=Fm.d ⟨x.pg,x.dirty,x.rc,b⟩:=(rfl)
@[go_sem] def Fm.setpg(x:Fm)(p:Pg):p.d++x.d.drop 34=Fm.d ⟨p,x.dirty,x.rc,x.used⟩:=(rfl)
@[go_sem] def Fm.mk36(x:Pg)(a c u:Bool)(b:Int):(x.d++([.pv (.lit (.bool a)),.pv (.lit (.int .i64 b)),.pv (.lit (.bool c))]:List DV)).take 36++[.pv (.lit (.bool u))]++(x.d++([.pv (.lit (.bool a)),.pv (.lit (.int .i64 b)),.pv (.lit (.bool c))]:List DV)).drop 37=Fm.d ⟨x,a,b,u⟩:=(rfl)
@[go_sem] def Pg.set1(x:Pg)(b:Int):x.d.set 1 (.pv (.lit (.int .i64 b)))=Pg.d ⟨x.id,b,x.cel⟩:=(rfl)
@[go_sem] def Pg.d_drop(x:Pg):x.d.drop 34=[]:=(rfl)
@[go_sem] def Fm.d_drop(x:Fm):x.d.drop 37=[]:=(rfl)
def QjN(n:Nat)(hp:Qb):∀ l:List PV,Qi ((l.map DV.pv).map (Qc4 n hp))=some (l.map DV.pv)
 | []=>rfl
 | p::l=>by show Qi (some (.pv p)::(l.map DV.pv).map (Qc4 n hp))=_; rw[Qf6,QjN n hp l]; rfl
@[go_sem] def Pg.d_frz1(x:Pg)(n:Nat)(hp:Qb):Qi (x.d.map (Qc4 n hp))=some x.d:=QjN n hp x.p
@[go_sem] def Fm.d_frz1(x:Fm)(n:Nat)(hp:Qb):Qi (x.d.map (Qc4 n hp))=some x.d:=QjN n hp x.p
@[go_sem] def Pg.d_wk(x:Pg):DV.wk.go x.d=x.d:=(rfl)
@[go_sem] def Fm.d_wk(x:Fm):DV.wk.go x.d=x.d:=(rfl)
def QpL(x:Pg)(i:Nat)(h:i<16):(x.d.drop (2+i*2)).take 2=[.pv (.lit (.bool (x.cel i).set)),.pv (.str (x.cel i).data)]:=by
 have:i=0\/i=1\/i=2\/i=3\/i=4\/i=5\/i=6\/i=7\/i=8\/i=9\/i=10\/i=11\/i=12\/i=13\/i=14\/i=15:=by omega
 rcases this with h | h | h | h | h | h | h | h | h | h | h | h | h | h | h | h<;>subst h<;>rfl
def Qwi(x:Pg)(i:Nat)(h:i<16):x.d[2+i*2]?=some (.pv (.lit (.bool (x.cel i).set))):=by
 have:i=0\/i=1\/i=2\/i=3\/i=4\/i=5\/i=6\/i=7\/i=8\/i=9\/i=10\/i=11\/i=12\/i=13\/i=14\/i=15:=by omega
 rcases this with h | h | h | h | h | h | h | h | h | h | h | h | h | h | h | h<;>subst h<;>rfl
def Pg.setc(x:Pg)(i:Nat)(c:Ce):Pg:=⟨x.id,x.lsn,fun k=>if k=i then c else x.cel k⟩
def QDv(x:Pg)(i:Nat)(h:i<16)(c:Ce):splice x.d (2+i*2) [.pv (.lit (.bool c.set)),.pv (.str c.data)]=(x.setc i c).d:=by
 have:i=0\/i=1\/i=2\/i=3\/i=4\/i=5\/i=6\/i=7\/i=8\/i=9\/i=10\/i=11\/i=12\/i=13\/i=14\/i=15:=by omega
 rcases this with h | h | h | h | h | h | h | h | h | h | h | h | h | h | h | h<;>subst h<;>rfl
structure Rw where
 lsn:Int
 im:Int
 at_:Int
def Qcr:Enc Rw:=⟨3,fun r=>[.lit (.int .i64 r.lsn),.lit (.int .i64 r.im),.lit (.int .i64 r.at_)],by decide,fun _=>rfl⟩
@[go_sem] def Rw.d(r:Rw):List DV:=[.int .i64 r.lsn,.int .i64 r.im,.int .i64 r.at_]
def QHP(l:List Rw):(cells Qcr l).length=l.length*3:=QJ Qcr l
def QIJ(l:List Rw)(n:Nat)(h:l.length*3<=n):(cells Qcr l).take n=cells Qcr l:=by rw[Ji]; rw[QHP]; exact h
def QIe(l:List Rw):(fz Qcr l=[]\/(fz Qcr l)[0]?.map JE=some 3)=True:=Qhz Qcr l
def QIv(h:l.length=len):QgF n hp 0 3 len (some (cells Qcr l))=some (.sl (fz Qcr l)):=QX Qcr h
def Rw0:Rw:=⟨0,0,0⟩
def Qml(l:List Rw)(i:Nat)(h:i<l.length):(fz Qcr l)[i]?=some [.lit (.int .i64 (l.getD i Rw0).lsn),.lit (.int .i64 (l.getD i Rw0).im),.lit (.int .i64 (l.getD i Rw0).at_)]:=Qb5 Qcr l Rw0 i h
def QHt(l:List Rw)(a b c:Int):cells Qcr l++[.pv (.lit (.int .i64 a)),.pv (.lit (.int .i64 b)),.pv (.lit (.int .i64 c))]=cells Qcr (l++[⟨a,b,c⟩]):=by rw[QA]; rfl
structure Dt where
 pg:Int
 rc:Int
 last:Int
def Qc6:Enc Dt:=⟨3,fun r=>[.lit (.int .i64 r.pg),.lit (.int .i64 r.rc),.lit (.int .i64 r.last)],by decide,fun _=>rfl⟩
@[go_sem] def Dt.d(r:Dt):List DV:=[.int .i64 r.pg,.int .i64 r.rc,.int .i64 r.last]
def QHM(l:List Dt):(cells Qc6 l).length=l.length*3:=QJ Qc6 l
def QIG(l:List Dt)(n:Nat)(h:l.length*3<=n):(cells Qc6 l).take n=cells Qc6 l:=by rw[Ji]; rw[QHM]; exact h
def QIs(h:l.length=len):QgF n hp 0 3 len (some (cells Qc6 l))=some (.sl (fz Qc6 l)):=QX Qc6 h
def Dt0:Dt:=⟨0,0,0⟩
def Qe5(l:List Dt)(i:Nat)(h:i<l.length):(fz Qc6 l)[i]?=some [.lit (.int .i64 (l.getD i Dt0).pg),.lit (.int .i64 (l.getD i Dt0).rc),.lit (.int .i64 (l.getD i Dt0).last)]:=Qb5 Qc6 l Dt0 i h
def QHq(l:List Dt)(a b c:Int):cells Qc6 l++[.pv (.lit (.int .i64 a)),.pv (.lit (.int .i64 b)),.pv (.lit (.int .i64 c))]=cells Qc6 (l++[⟨a,b,c⟩]):=by rw[QA]; rfl
structure Gr where
 tx:Int
 pg:Int
 sl:Int
 md:Int
def Gr0:Gr:=⟨0,0,0,0⟩
def Qau:Enc Gr:=⟨4,fun g=>[.lit (.int .i64 g.tx),.lit (.int .i64 g.pg),.lit (.int .i64 g.sl),.lit (.int .i64 g.md)],by decide,fun _=>rfl⟩
@[go_sem] def Gr.d(g:Gr):List DV:=[.int .i64 g.tx,.int .i64 g.pg,.int .i64 g.sl,.int .i64 g.md]
def QHR(l:List Gr):(cells Qau l).length=l.length*4:=QJ Qau l
def QIL(l:List Gr)(n:Nat)(h:l.length*4<=n):(cells Qau l).take n=cells Qau l:=by rw[Ji]; rw[QHR]; exact h
def QIE(l m:List Gr):cells Qau l++cells Qau m=cells Qau (l++m):=(QA Qau l m).symm
def QIi(l:List Gr)(T:TypeId)(a b:Nat)(h:a<=b/\b<=l.length):QkC (some (none,T,4)) (fz Qau l) a b=some (.pv (.sl (fz Qau ((l.take b).drop a)))):=QgJ Qau l T a b h
def QIf(l:List Gr):(fz Qau l=[]\/(fz Qau l)[0]?.map JE=some 4)=True:=Qhz Qau l
def QIx(h:l.length=len):QgF n hp 0 4 len (some (cells Qau l))=some (.sl (fz Qau l)):=QX Qau h
def QaI(l:List Gr)(i:Nat)(h:i<l.length):(fz Qau l)[i]?=some [.lit (.int .i64 (l.getD i Gr0).tx),.lit (.int .i64 (l.getD i Gr0).pg),.lit (.int .i64 (l.getD i Gr0).sl),.lit (.int .i64 (l.getD i Gr0).md)]:=Qb5 Qau l Gr0 i h
def QHv(l:List Gr)(a b c d:Int):cells Qau l++[.pv (.lit (.int .i64 a)),.pv (.lit (.int .i64 b)),.pv (.lit (.int .i64 c)),.pv (.lit (.int .i64 d))]=cells Qau (l++[⟨a,b,c,d⟩]):=by rw[QA]; rfl
def Qmm(l:List E)(i:Nat)(h:i<l.length):(fz encE l)[i]?=some [.lit (.int .i64 (l.getD i E0).lsn),.lit (.int .i64 (l.getD i E0).kind),.lit (.int .i64 (l.getD i E0).tx),.lit (.int .i64 (l.getD i E0).ptx),.lit (.int .i64 (l.getD i E0).ppg),.lit (.int .i64 (l.getD i E0).ref),.lit (.int .i64 (l.getD i E0).c.pg),.lit (.int .i64 (l.getD i E0).c.sl),.lit (.bool (l.getD i E0).c.b.set),.str (l.getD i E0).c.b.data,.lit (.bool (l.getD i E0).c.a.set),.str (l.getD i E0).c.a.data,.str (l.getD i E0).blob]:=Qb5 encE l E0 i h
def Qeq(l:List Tx)(i:Nat)(h:i<l.length):(fz Qap l)[i]?=some [.lit (.int .i64 (l.getD i Tx0).id),.lit (.int .i64 (l.getD i Tx0).st),.lit (.int .i64 (l.getD i Tx0).n),.lit (.int .i64 (l.getD i Tx0).b),.sl (fz Qad (l.getD i Tx0).l),.sl (fz Qad (l.getD i Tx0).s)]:=Qb5 Qap l Tx0 i h
def QGE(l:List E):DV.wk.go (cells encE l)=cells encE l:=Qbo encE l fun a p hp=>by
 simp[encE] at hp
 rcases hp with h | h | h | h | h | h | h | h | h | h | h | h | h<;>subst h<;>rfl
def QH7(l:List Gr):DV.wk.go (cells Qau l)=cells Qau l:=Qbo Qau l fun a p hp=>by
 simp[Qau] at hp
 rcases hp with h | h | h | h<;>subst h<;>rfl
def QH4(l:List Rw):DV.wk.go (cells Qcr l)=cells Qcr l:=Qbo Qcr l fun a p hp=>by
 simp[Qcr] at hp
 rcases hp with h | h | h<;>subst h<;>rfl
def QH2(l:List Dt):DV.wk.go (cells Qc6 l)=cells Qc6 l:=Qbo Qc6 l fun a p hp=>by
 simp[Qc6] at hp
 rcases hp with h | h | h<;>subst h<;>rfl
def QH8(l:List Fm):DV.wk.go (cells QcM l)=cells QcM l:=Qbo QcM l fun a p hp=>by
 have hm:a.p.map PV.wk=a.p:=rfl
 have hp:p∈a.p:=hp
 obtain⟨i,hi,rfl⟩:=List.getElem_of_mem hp
 have:=congrArg (fun l=>l[i]?) hm
 simpa [hi] using this
attribute [go_sem] QGE QH7 QH4 QH2 QH8
attribute [go_sem] QGw QIM QIF QIj QIg QGA Qwq QHP QIJ QIe QIv QHt QHM QIG QIs QHq QHR QIL QIE QIi QIf QIx QHv
structure Pl where
 size:Int
 fs:List Fm
 hand:Int
@[go_sem] def Pl.d(p:Pl):List DV:=[.int .i64 p.size,.pv (.sl (fz QcM p.fs)),.int .i64 p.hand]
def Pl0:Pl:=⟨0,[],0⟩
structure Lk where
 held:List Gr
 wait:List Gr
@[go_sem] def Lk.d(t:Lk):List DV:=[.pv (.sl (fz Qau t.held)),.pv (.sl (fz Qau t.wait))]
def cb(c:C):Blk:=⟨61,true,cc c⟩
abbrev CX(R:DV->Prop):DV->Qb->Prop:=fun r h'=>∃ B',h'=[B']/\B'.live=true/\DV.nums.go (fun _=>false) B'.cells=true/\r.nums (fun _=>false)=true/\(R r/\∃ c',B'=cb c')
def QaP(h:VCalls prog g (args.map (DV.ren fun _=>0)) [cb c] (CX R))(hk:hp[k]?=some (cb c))(ha:DV.nums.go (fun i=>i==k) args=true)(hK:∀ r c',R r->K r (hp.set k (cb c'))):VCalls prog g args hp K:=
 (VCalls.ptr1 (R:=fun r B'=>R r/\∃ c',B'=cb c') hk rfl (Qcp c) h ha).mono fun r h' ⟨B',e1,_,_,e2,e3⟩=>by subst e1; obtain⟨c',rfl⟩:=e3; exact hK r c' e2
abbrev Nx(n:Nat):DV->Prop:=fun r=>∃ x:Nat,r=.int .i64 x/\x<n
def QuH(c:C)(n:Nat)(h1:1<=n)(hn:n<=256):VCalls prog 21 [.ptr 0 0,.int .i64 n] [cb c] (CX (Nx n)):=by
 refine dd Tryz.func21 ?_
 have ha:=c.ha
 have hl:=c.hl
 simp(config:={ maxSteps:=2000000 }) (implicitDefEqProofs:=false) (disch:=first | omega | assumption | (simp only[]; done) | fail) only[go_sem,Jq,Jr,Tryz.f21,cb,cc]
 refine Qfr (by kernel_rfl) (by kernel_rfl) ?_
 by_cases a:c.at_<c.l.length
 ·simp (config:={ maxSteps:=2000000 }) (implicitDefEqProofs:=false) (disch:=first | omega | assumption | (simp only []; done) | fail) only [go_sem,↓reduceIte,reduceCtorEq,Jq,Jc,Jr,Jd]
  refine Qfr (by kernel_rfl) (by kernel_rfl) ?_
  have hg:=Qvh c.l c.at_ a
  have hh:(c.l.getD c.at_ 0).toNat<256:=UInt8.toNat_lt _
  simp(config:={ maxSteps:=2000000 }) (implicitDefEqProofs:=false) (disch:=first | omega | assumption | (simp only[JR,J2,Kh]; done) | fail) only[go_sem,↓reduceIte,reduceCtorEq,Jq,Jz,Jc,JA,Jr,Jd,hg]
  obtain⟨y,hy,hlt⟩:=Qow (c.l.getD c.at_ 0).toNat n h1
  refine⟨_,rfl,rfl,rfl,rfl,⟨y,by rw[hy],hlt⟩,⟨c.l,c.at_+1,a,hl⟩,rfl⟩
 ·simp (config:={ maxSteps:=2000000 }) (implicitDefEqProofs:=false) (disch:=first | omega | assumption | (simp only []; done) | fail) only [go_sem,↓reduceIte,reduceCtorEq,Jq,Jc,Jr,Jd]
  exact⟨_,rfl,rfl,rfl,rfl,⟨0,rfl,h1⟩,c,rfl⟩
def QaN(c:C)(n:Nat)(h1:1<=n)(hn:n<=1000000000):VCalls prog 21 [.ptr 0 0,.int .i64 n] [cb c] (CX (Nx n)):=by
 by_cases hs:n<=256
 ·exact QuH c n h1 hs
 refine dd Tryz.func21 ?_
 have ha:=c.ha
 have hl:=c.hl
 simp(config:={ maxSteps:=2000000 }) (implicitDefEqProofs:=false) (disch:=first | omega | assumption | (simp only[]; done) | fail) only[go_sem,Jq,Jr,Tryz.f21,cb,cc]
 refine Qfr (by kernel_rfl) (by kernel_rfl) ?_
 by_cases a:c.at_<c.l.length
 ·simp (config:={ maxSteps:=2000000 }) (implicitDefEqProofs:=false) (disch:=first | omega | assumption | (simp only []; done) | fail) only [go_sem,↓reduceIte,reduceCtorEq,Jq,Jc,Jr,Jd]
  refine Qfr (by kernel_rfl) (by kernel_rfl) ?_
  have hg:=Qvh c.l c.at_ a
  have hh:(c.l.getD c.at_ 0).toNat<256:=UInt8.toNat_lt _
  generalize hx:(c.l.getD c.at_ 0).toNat=x at hg hh
  simp(config:={ maxSteps:=2000000 }) (implicitDefEqProofs:=false) (disch:=first | omega | assumption | (simp only[JR,J2,Kh]; done) | fail) only[go_sem,↓reduceIte,reduceCtorEq,Jq,Jz,Jc,JA,Jr,Jd,hg]
  refine QaP (k:=0) (c:=⟨c.l,c.at_+1,a,hl⟩) (QuH _ 256 (by omega) (by omega)) rfl rfl ?_
  rintro r c' ⟨z,rfl,hz⟩
  simp(config:={ maxSteps:=2000000 }) (implicitDefEqProofs:=false) (disch:=first | omega | assumption | (simp only[]; done) | fail) only[go_sem,Jc,Jd,cb,cc]
  obtain⟨y,hy,hlt⟩:=Qow (256*x+z) n h1
  have e:(256*(x:Int)+(z:Int))=((256*x+z:Nat):Int):=by omega
  refine⟨_,rfl,rfl,rfl,rfl,⟨y,by rw[e,hy],hlt⟩,c',rfl⟩
 ·simp (config:={ maxSteps:=2000000 }) (implicitDefEqProofs:=false) (disch:=first | omega | assumption | (simp only []; done) | fail) only [go_sem,↓reduceIte,reduceCtorEq,Jq,Jc,Jr,Jd]
  exact⟨_,rfl,rfl,rfl,rfl,⟨0,rfl,h1⟩,c,rfl⟩
def QAj(c:C)(m:Int)(h1:1<=m)(hn:m<=1000000000):VCalls prog 21 [.ptr 0 0,.int .i64 m] [cb c] (CX (Nx m.toNat)):=by
 have h:=QaN c m.toNat (by omega) (by omega)
 rwa [show((m.toNat:Nat):Int)=m by omega] at h
def QFJ(l:List UInt8)(most:Nat)(hm:1<=most)(h:most<=1000000)(hl:l.length<=9223372036854775807):VCalls prog 6 [.pv (.sl (fz Qfl l)),.int .i64 most] [] fun r h'=>∃ B,h'=[B]/\r=.ptr 0 0/\B.live=true/\DV.nums.go (fun _=>false) B.cells=true/\∃ c,B=cb c:=by
 refine Qbf (fn:=Tryz.f6) Tryz.func6 rfl (by kernel_rfl) (by simp[Tryz.f6]) ?_
 simp(config:={ maxSteps:=2000000 }) (implicitDefEqProofs:=false) (disch:=first | omega | assumption | (simp only[]; done) | fail) only[go_sem,Jq,Jc,Jr,Jd,Tryz.f6]
 refine Qaw (fun hc=>?_) (fun hc=>?_)<;>simp only[decide_eq_true_eq,decide_eq_false_iff_not,Jf,Jb,Jo,Jm,Jg,Je,beq_iff_eq,beq_eq_false_iff_ne,bne_iff_ne,bne_eq_false_iff_eq,ne_eq] at hc
 ·have hx:(fz Qfl l)[0]?.map JE = some 1:=Qpt Qfl l (by omega)
  have ht:(fz Qfl l).take most=fz Qfl (l.take most):=Qvf Qfl l most
  have hh:most<=(fz Qfl l).length:=by rw[Qvg]; omega
  have h0:(0:Nat)<=most:=by omega
  simp(config:={ maxSteps:=2000000 }) (implicitDefEqProofs:=false) (disch:=first | omega | assumption | (simp only[]; done) | fail) only[go_sem,V.splice,↓reduceIte,Jq,Jz,JP,Jc,JA,Jr,Jd,ht]
  exact⟨_,rfl,rfl,rfl,⟨l.take most,0,by omega,by rw[Jj]; omega⟩,rfl⟩
 ·simp (config:={ maxSteps:=2000000 }) (implicitDefEqProofs:=false) (disch:=first | omega | assumption | (simp only []; done) | fail) only [go_sem,V.splice,↓reduceIte,Jq,Jz,JP,Jc,JA,Jr,Jd]
  exact⟨_,rfl,rfl,rfl,⟨l,0,by omega,by omega⟩,rfl⟩
def QsG{most:Nat}(hm:1<=most)(h:most<=1000000)(hl:l.length<=9223372036854775807)(hK:∀ c,K (.ptr hp.length 0) (hp++[cb c])):VCalls prog 6 [.pv (.sl (fz Qfl l)),.int .i64 most] hp K:=
 (VCalls.new (QFJ l most hm h hl) rfl).mono fun r h' ⟨B,e1,e2,_,_,c,e3⟩=>by subst e1 e2 e3; exact hK c
def QHa(c:C):VCalls prog 76 [.ptr 0 0] [cb c] (CX fun r=>∃ n:Int,r=.int .i64 n/\-9223372036854775808<=n/\n<=9223372036854775807):=by
 refine dd Tryz.func76 ?_
 simp(config:={ maxSteps:=2000000 }) (implicitDefEqProofs:=false) (disch:=first | omega | assumption | (simp only[]; done) | fail) only[go_sem,Jc,JM,Jd,Tryz.f76]
 refine QaP (k:=0) (c:=c) (QaN c 10 (by omega) (by omega)) rfl rfl ?_
 rintro _ c1 ⟨z,rfl,hz⟩
 (try simp(config:={ maxSteps:=2000000 }) (implicitDefEqProofs:=false) (disch:=first | omega | assumption | (simp only[]; done) | fail) only[go_sem,JM])
 repeat' (first
  | (refine QgM (fun hZ=>?_) (fun hZ=>?_)<;>(try rw[hZ])<;>(try simp only[decide_eq_true_eq,decide_eq_false_iff_not,Jf,Jb,Jo,Jm,Jg,Je,beq_iff_eq,beq_eq_false_iff_ne,bne_iff_ne,bne_eq_false_iff_eq,ne_eq,JO,Ke,J9] at hZ)<;>(try (first | rw[(hZ:_=false)] | rw[(hZ:_=true)]))<;>skip)
  | (refine Qaw (fun hZ=>?_) (fun hZ=>?_)<;>(try rw[hZ])<;>(try simp only[decide_eq_true_eq,decide_eq_false_iff_not,Jf,Jb,Jo,Jm,Jg,Je,beq_iff_eq,beq_eq_false_iff_ne,bne_iff_ne,bne_eq_false_iff_eq,ne_eq,JO,Ke,J9] at hZ)<;>(try (first | rw[(hZ:_=false)] | rw[(hZ:_=true)]))<;>(try simp(config:={ maxSteps:=2000000 }) (implicitDefEqProofs:=false) (disch:=first | omega | assumption | (simp only[]; done) | fail) only[go_sem,V.splice,V.mk,↓reduceIte,Jq,Jz,JP,Jc,JA,JM,Jr,Jd]))
  | (refine QiA (fun hZ=>?_) (fun hZ=>?_)<;>(try rw[hZ])<;>(try simp only[decide_eq_true_eq,decide_eq_false_iff_not,Jf,Jb,Jo,Jm,Jg,Je,beq_iff_eq,beq_eq_false_iff_ne,bne_iff_ne,bne_eq_false_iff_eq,ne_eq,JO,Ke,J9] at hZ)<;>(try (first | rw[(hZ:_=false)] | rw[(hZ:_=true)]))<;>skip))
 ·refine QaP (k:=0) (c:=c1) (QaN c1 3 (by omega) (by omega)) rfl rfl ?_
  rintro _ c2 ⟨y,rfl,hy⟩
  simp(config:={ maxSteps:=2000000 }) (implicitDefEqProofs:=false) (disch:=first | omega | assumption | (simp only[]; done) | fail) only[go_sem,JM]
  exact⟨_,rfl,rfl,Qcp _,rfl,⟨_,rfl,by omega,by omega⟩,c2,rfl⟩
 ·refine QaP (k:=0) (c:=c1) (QaN c1 16 (by omega) (by omega)) rfl rfl ?_
  rintro _ c2 ⟨y,rfl,hy⟩
  have h:y=0\/y=1\/y=2\/y=3\/y=4\/y=5\/y=6\/y=7\/y=8\/y=9\/y=10\/y=11\/y=12\/y=13\/y=14\/y=15:=by omega
  rcases h with rfl | rfl | rfl | rfl | rfl | rfl | rfl | rfl | rfl | rfl | rfl | rfl | rfl | rfl | rfl | rfl<;>(simp(config:={ maxSteps:=2000000 }) (implicitDefEqProofs:=false) (disch:=first | omega | assumption | (simp only[]; done) | fail) only[go_sem,Jc,JM,Jd]; exact⟨_,rfl,rfl,Qcp _,rfl,⟨_,rfl,by omega,by omega⟩,c2,rfl⟩)
 ·refine QaP (k:=0) (c:=c1) (QaN c1 20 (by omega) (by omega)) rfl rfl ?_
  rintro _ c2 ⟨y,rfl,hy⟩
  simp(config:={ maxSteps:=2000000 }) (implicitDefEqProofs:=false) (disch:=first | omega | assumption | (simp only[]; done) | fail) only[go_sem,JM]
  exact⟨_,rfl,rfl,Qcp _,rfl,⟨_,rfl,by omega,by omega⟩,c2,rfl⟩
theorem QHn:bts prog 22 9=true:=by kernel_rfl
section
attribute [local go_sem] Ce.d Ch.d E.d
theorem QrI:vt prog 94=some none:=by kernel_rfl
theorem QrH:vt prog 95=some none:=by kernel_rfl
theorem QrG:vt prog 96=some none:=by kernel_rfl
theorem um1:prog.underlying 94=some (.map 3 115):=by kernel_rfl
theorem um2:prog.underlying 95=some (.map 3 3):=by kernel_rfl
theorem um3:prog.underlying 96=some (.map 3 4):=by kernel_rfl
def Qik:KeyT prog 3 kI:=QyW (by kernel_rfl)
theorem z1:Qm0 prog 115=some (.pointer none):=by kernel_rfl
theorem z2:Qm0 prog 3=some (.int .i64 0):=by kernel_rfl
theorem z3:Qm0 prog 4=some (.bool false):=by kernel_rfl
attribute [local go_sem] QrI QrH QrG
def ckC(f:Int)(bt bp bu:Nat):List DV:=[.int .i64 f,.pv (.lit (.map (some bt))),.pv (.lit (.map (some bp))),.pv (.lit (.map (some bu)))]
def QmW:List (Int×Int)->Int->Option Int
 | [],_=>none
 | (a,x)::r,k=>if a=k then some x else QmW r k
def QrL:List (Int×Int)->Int->Int->List (Int×Int)
 | [],k,v=>[(k,v)]
 | (a,x)::r,k,v=>if a=k then (a,v)::r else (a,x)::QrL r k v
def QqP(L:List (Int×Int)):List (Int×DV):=L.map fun p=>(p.1,.int .i64 p.2)
def QAq (L:List (Int × Int)) (k:Int):Qcc (QqP L) k = (QmW L k).map fun x=>DV.int .i64 x:=by
 induction L with
 | nil=>rfl
 | cons p r ih =>
   obtain⟨a,x⟩:=p
   unfold QqP at ih |-
   simp only[JT,Qcc,QmW,ih]
   split<;>rfl
def QEX (L:List (Int × Int)) (k v:Int):Qen (QqP L) k (.int .i64 v) = QqP (QrL L k v):=by
 induction L with
 | nil=>rfl
 | cons p r ih =>
   obtain⟨a,x⟩:=p
   unfold QqP at ih |-
   simp only[JT,Qen,QrL]
   split
   ·rfl
   ·rw[ih]; rfl
def QFy(L:List (Int×Int))(k:Int):(Qcc (QqP L) k).getD (.int .i64 0)=.int .i64 ((QmW L k).getD 0):=by rw[QAq]; cases QmW L k<;>rfl
def QFx(L:List (Int×Int))(k:Int):(Qcc (QqP L) k).isSome=(QmW L k).isSome:=by rw[QAq]; cases QmW L k<;>rfl
def pagedB(f:Int)(L:List (Int×Int))(e:E):Bool:=match QmW L e.c.pg with
 | none=>decide (e.ppg<f)
 | some x=>decide (e.ppg=x)
def Qzy(hp:Qb)(g:MapsD)(kc bt bp bu:Nat)(f:Int)(e:E)(L:List (Int×Int))(hk:kc<hp.length)(hc:Qc hp kc=some (ckC f bt bp bu))(hg:(bp,Qah kI (QqP L))∈g) :
 VCallsG prog 34 [.ptr kc 0,.agg e.d] hp g (fun r h' g'=>r=.bool (pagedB f L e)/\(∃ x,h'=hp++[x])/\g'=g.map fun p=>if p.1=bp then (bp,Qah kI (QqP (QrL L e.c.pg e.lsn))) else p):=by
 refine Q5 (fn:=Tryz.f34) Tryz.func34 rfl (by kernel_rfl) (by simp[Tryz.f34]) (fun c=>?_)
 unfold ckC at hc
 refine VWpG.first (Qa c) ?_
 (unfold Tryz.f34; refine rn trivial ?_)
 refine VWpG.seq ?_
 refine VWpG.drawn (k:=7) (f:=6) (Qa c) (by kernel_rfl) (by kernel_rfl) (by kernel_rfl) (by kernel_rfl) rfl ?_; refine Q9 (by kernel_rfl) ?_
 refine rn (Ja @hk @hc) ?_
 refine Qb7 (zv:=.int .i64 0) (L:=QqP L) (k:=e.c.pg) rfl rfl um2 Qik (Q7 z2) (QaZ rfl) rfl hg (Qab rfl) ?_
 rw[QFy,QFx]
 refine rn trivial ?_
 refine VWpG.seq ?_
 refine VWpG.drawn (k:=9) (f:=6) (Qa c) (by kernel_rfl) (by kernel_rfl) (by kernel_rfl) (by kernel_rfl) rfl ?_; refine Q9 (by kernel_rfl) ?_
 refine rn (Ja @hk @hc) ?_
 refine QaO (L:=QqP L) (k:=e.c.pg) rfl rfl um2 Qik rfl hg (Qab rfl) ?_
 refine rn trivial ?_
 rw[QEX]
 refine VWpG.seq ?_
 refine VWpG.first (Qa c) ?_
 refine rn trivial ?_
 refine VWpG.cond rfl (fun hZ=>?_) (fun hZ=>?_)
 ·refine VWpG.plain (Qa c) ?_
  refine rn trivial ?_
  refine Qfr (by kernel_rfl) (by kernel_rfl) ?_
  refine rn (Ja @hk @hc) ?_
  refine⟨?_,_,rfl⟩
  unfold pagedB
  cases h:QmW L e.c.pg with
  | none=>rfl
  | some x=>simp[h] at hZ
 ·refine VWpG.plain (Qa c) ?_
  refine rn trivial ?_
  refine VWpG.plain (Qa c) ?_
  refine rn trivial ?_
  refine⟨?_,_,rfl⟩
  unfold pagedB
  cases h:QmW L e.c.pg with
  | none=>simp[h] at hZ
  | some x=>exact congrArg DV.bool (J5 _ _)
def rnC(last:Int)(ea ab en:Bool)(p:DV):List DV:=[.int .i64 last,.bool ea,.bool ab,.bool en,p]
def QvY(hp:Qb)(g:MapsD)(kc bt bp bu:Nat)(f:Int)(e:E)(L:List (Int×DV))(hk:kc<hp.length)(hc:Qc hp kc=some (ckC f bt bp bu))(hg:(bt,Qah kI L)∈g)(hn:Qcc L e.tx=none) :
 VCallsG prog 33 [.ptr kc 0,.agg e.d] hp g (fun r h' g'=>r=.bool (decide (e.ptx<f))/\(∃ x,h'=hp++[x]++[⟨117,true,rnC e.lsn (decide (0<e.ptx)) false false (.pv (.slc []))⟩])/\g'=g.map fun p=>if p.1=bt then (bt,Qah kI (Qen L e.tx (.ptr (hp.length+1) 0))) else p):=by
 refine Q5 (fn:=Tryz.f33) Tryz.func33 rfl (by kernel_rfl) (by simp[Tryz.f33]) (fun c=>?_)
 unfold ckC at hc
 refine VWpG.first (Qa c) ?_
 (unfold Tryz.f33; refine rn trivial ?_)
 refine VWpG.seq ?_
 refine VWpG.drawn (k:=6) (f:=6) (Qa c) (by kernel_rfl) (by kernel_rfl) (by kernel_rfl) (by kernel_rfl) rfl ?_; refine Q9 (by kernel_rfl) ?_
 refine rn (Ja @hk @hc) ?_
 refine Qb7 (zv:=.pointer none) (L:=L) (k:=e.tx) rfl rfl um1 Qik (Q7 z1) (QaZ rfl) rfl hg (Qab rfl) ?_
 rw[hn]
 refine rn trivial ?_
 refine VWpG.seq ?_
 refine VWpG.first (Qa c) ?_
 refine rn trivial ?_
 refine VWpG.cond rfl (fun hZ=>?_) (fun hZ=>?_)
 ·refine VWpG.seq ?_
  refine VWpG.drawn (k:=13) (f:=6) (Qa c) (by kernel_rfl) (by kernel_rfl) (by kernel_rfl) (by kernel_rfl) rfl ?_; refine Qrz [0,1,2,3,4,5,6,7,8,9,10,11] [⟨[],[],12,[0,1,2,3,4,5,6,7,8,9,10],[]⟩] (by kernel_rfl) ?_
  refine rn (Ja @hk @hc) ?_
  refine QaO (L:=L) (k:=e.tx) rfl rfl um1 Qik rfl hg (Qab rfl) ?_
  refine rn trivial ?_
  refine VWpG.plain (Qa c) ?_
  refine rn trivial ?_
  refine Qfr (by kernel_rfl) (by kernel_rfl) ?_
  refine rn (Ja @hk @hc) ?_
  exact⟨_,rfl⟩
 ·simp at hZ
def QvX(hp:Qb)(g:MapsD)(kc bt bp bu:Nat)(f:Int)(e:E)(L:List (Int×DV))(hk:kc<hp.length)(hc:Qc hp kc=some (ckC f bt bp bu))(hg:(bt,Qah kI L)∈g)(k:Nat)(la:Int)(ea ab en:Bool)(p:DV)(hkl:k<hp.length)(hb:Qc hp k=some (rnC la ea ab en p))(hn:Qcc L e.tx=some (.ptr k 0)) :
 VCallsG prog 33 [.ptr kc 0,.agg e.d] hp g (fun r h' g'=>r=.bool (decide (e.ptx=la)&&!en)/\(∃ x,h'=Ql hp k (rnC e.lsn ea ab en p)++[x])/\g'=g):=by
 refine Q5 (fn:=Tryz.f33) Tryz.func33 rfl (by kernel_rfl) (by simp[Tryz.f33]) (fun c=>?_)
 unfold ckC at hc
 unfold rnC at hb
 refine VWpG.first (Qa c) ?_
 (unfold Tryz.f33; refine rn trivial ?_)
 refine VWpG.seq ?_
 refine VWpG.drawn (k:=6) (f:=6) (Qa c) (by kernel_rfl) (by kernel_rfl) (by kernel_rfl) (by kernel_rfl) rfl ?_; refine Q9 (by kernel_rfl) ?_
 refine rn (Ja @hk @hc) ?_
 refine Qb7 (zv:=.pointer none) (L:=L) (k:=e.tx) rfl rfl um1 Qik (Q7 z1) (QaZ rfl) rfl hg (Qab rfl) ?_
 rw[hn]
 refine rn trivial ?_
 refine VWpG.seq ?_
 refine VWpG.first (Qa c) ?_
 refine rn trivial ?_
 refine VWpG.cond rfl (fun hZ=>?_) (fun hZ=>?_)
 ·simp at hZ
 refine VWpG.plain (Qa c) ?_
 refine rn trivial ?_
 refine VWpG.plain (Qa c) ?_
 have F:=(Ja @hk (Ja @hc (Ja @hkl @hb)))
 refine rn F ?_
 repeat' (first
  | with_reducible exact⟨⟩
  | (refine sG F ?_ ?_<;>intro hZ)
  | (refine Qd (id:=5) [0,1,2,3,4,5,6,7,8,9,10,11,12,13] [⟨[],[],14,[],[]⟩] (by kernel_rfl) (by kernel_rfl) ?_; refine rn F ?_))
 all_goals exact⟨_,rfl⟩
end
section
attribute [local go_sem] Ce.d Ch.d E.d Qhr QmP QmM Qlc Qk9 Qmo QdB QrI QrH QrG JF Lg.c
theorem umS:prog.underlying 71=some (.map 3 73):=by kernel_rfl
theorem zS:Qm0 prog 73=some (.agg #[]):=by kernel_rfl
def QbS(x:Lg):Bool:=lgB x&&decide (x.f=1)
def QpG(x:Lg)(hx:x.es.length<=9223372036854775807):VCalls prog 14 [.agg x.c] [] (Ret (.bool (QbS x))):=by
 refine dd Tryz.func14 ?_
 have hv:=Qpj x hx
 unfold Lg.c at hv
 (unfold Tryz.f14; refine rn trivial ?_)
 cases hlg:lgB x
 ·rw [hlg] at hv
  refine rn F ?_
  repeat' (first
   | with_reducible exact⟨⟩
   | refine vp F (hv) ?_)
  all_goals (unfold QbS; rw[hlg]; simp; try (rw[Jk]; simp))
 ·rw [hlg] at hv
  refine rn F ?_
  repeat' (first
   | with_reducible exact⟨⟩
   | refine vp F (hv) ?_)
  all_goals (unfold QbS; rw[hlg]; simp; try (rw[Jk]; simp))
def QbC(x:Lg)(at_:Int):Bool:=decide (0<=at_)&&decide (at_<=x.es.length)
def QpH(x:Lg)(at_:Int):VCalls prog 15 [.agg x.c,.int .i64 at_] [] (Ret (.bool (QbC x at_))):=by
 refine dd Tryz.func15 ?_
 (unfold Tryz.f15; refine rn trivial ?_)
 refine rn F ?_
 repeat' (first
  | with_reducible exact⟨⟩
  | (refine sG F ?_ ?_<;>intro hZ))
 all_goals (unfold QbC; simp; try omega)
def QmZ(es:List E):Nat->List (Int×DV)
 | 0=>[]
 | i+1=>if (es.getD i E0).kind=3 then Qen (QmZ es i) (es.getD i E0).tx (.agg []) else QmZ es i
def QqI{g:MapsD}{b:Nat}{L L':QzY}(hb:∀ p∈g,p.1≠b):(((b,L)::g).map fun p=>if p.1=b then (b,L') else p)=(b,L')::g:=by
 rw[JT,if_pos rfl]
 congr 1
 conv=>rhs; rw[<- List.map_id g]
 exact List.map_congr_left fun p hp=>by rw[if_neg (hb p hp)]; rfl
structure CmS(n:Nat) where
 i:Nat
 hi:i<=n
 ys:Qb
def Qwj(hp:Qb)(g:MapsD)(x:Lg)(k:Nat)(hk:k<=x.es.length)(hx:x.es.length<=4096) :
 VCallsG prog 16 [.agg x.c,.int .i64 k] hp g (fun r h' g'=>∃ b,r=.pv (.lit (.map (some b)))/\(∀ p∈g,p.1≠b)/\(∃ ys,h'=hp++ys)/\g'=(b,Qah kI (QmZ x.es k))::g):=by
 refine Q5 (fn:=Tryz.f16) Tryz.func16 rfl (by kernel_rfl) (by simp[Tryz.f16]) (fun c=>?_)
 refine VWpG.first (Qa c) ?_
 (unfold Tryz.f16; refine rn trivial ?_)
 refine VWpG.seq ?_
 refine VWpG.cut1 (Qa c) 0 [] ?_
 refine rn trivial ?_
 refine QP rfl (fun c=>by simp) (Qdt rfl rfl fun b hb=>?_)
 refine rn trivial ?_
 refine VWpG.seq ?_
 refine VWpG.seq ?_
 have hk':(k:Int)<=x.es.length:=by omega
 refine VWpG.plain (Qa c) ?_
 refine rn @hk' ?_
 refine VWpG.block ?_
 have hkl:((x.es.take k).length:Int)=k:=by rw[Jj]; omega
 have hfin:∀ i,i<k->(x.es.take k).getD i E0=x.es.getD i E0:=fun i hi=>by
  rw[Jh,Jh,JL,if_pos hi]
 refine VWpG.loop (fun s:CmS k=>⟨27,hp.length,[(14,.int .i64 s.i),(13,.int .i64 k),(12,.pv (.sl (fz encE (x.es.take k)))),(5,.pv (.lit (.map (some b))))],hp++s.ys⟩) (fun s=>(b,Qah kI (QmZ x.es s.i))::g) (fun s=>k-s.i) ⟨0,JJ _,[⟨26,true,[.int .i64 x.f,.pv (.sl (fz encE x.es)),.int .i64 x.d]⟩]⟩ ?_ ?_
 ·refine WeakG.slots rfl rfl ?_
  intro p hp
  simp only[JX,JS,or_false] at hp
  rcases hp with rfl | rfl | rfl | rfl
  ·exact .inl rfl
  ·exact .inl (congrArg (DV.int .i64) (by omega))
  ·exact .inl rfl
  ·exact .inl rfl
 rintro⟨i,hi,ys⟩
 dsimp only
 refine VWpG.first (Qa c) ?_
 refine rn trivial ?_
 refine VWpG.seq ?_
 by_cases hlt:i<k
 ·have hg:=Qn4 (x.es.take k) i (by rw [Jj]; omega)
  rw[hfin i hlt] at hg
  have hd:decide ((i:Int)<k)=true:=by simp; omega
  refine VWpG.cond (t:=true) (by rw[<- hd]; rfl) (fun _=>?_) (fun h=>by cases h)
  refine VWpG.plain (Qa c) ?_
  refine rn trivial ?_
  refine VWpG.seq ?_
  refine VWpG.block ?_
  have hu:QmZ x.es (i+1)=if (x.es.getD i E0).kind=3 then Qen (QmZ x.es i) (x.es.getD i E0).tx (.agg []) else QmZ x.es i:=rfl
  generalize x.es.getD i E0=e at *
  refine VWpG.first (Qa c) ?_
  refine rn @hg ?_
  refine VWpG.first (Qa c) ?_
  refine rn trivial ?_
  have hmem:(b,Qah kI (QmZ x.es i))∈((b,Qah kI (QmZ x.es i))::g:MapsD):=List.mem_cons_self
  by_cases hk3:e.kind=3
  ·rw [if_pos hk3] at hu
   refine VWpG.cond (t:=true) (by rw[hk3]; rfl) (fun hZ=>?_) (fun hZ=>?_)
   rotate_left
   ·cases hZ
   refine VWpG.cut1 (Qa c) 4 [] ?_
   refine rn trivial ?_
   refine QP rfl (fun c=>by simp) (QaO (L:=QmZ x.es i) (k:=e.tx) rfl rfl umS Qik rfl hmem (Qab rfl) ?_)
   rw[QqI hb]
   refine rn trivial ?_
   refine VWpG.plain (Qa c) ?_
   refine rn trivial ?_
   refine⟨⟨i+1,hlt,ys++[⟨52,true,e.d⟩]⟩,by dsimp only; omega,?_⟩
   dsimp only
   rw[hu]
   refine WeakG.slots rfl (JC _ _ _) ?_
   intro p hp
   simp only[JX,JS,or_false] at hp
   rcases hp with rfl | rfl | rfl | rfl<;>exact .inl rfl
  ·rw [if_neg hk3] at hu
   have hd2:decide (e.kind=3)=false:=decide_eq_false hk3
   refine VWpG.cond (t:=false) (by rw[<- hd2]; rfl) (fun hZ=>?_) (fun hZ=>?_)
   ·cases hZ
   refine VWpG.plain (Qa c) ?_
   refine rn trivial ?_
   refine VWpG.plain (Qa c) ?_
   refine rn trivial ?_
   refine⟨⟨i+1,hlt,ys++[⟨52,true,e.d⟩]⟩,by dsimp only; omega,?_⟩
   dsimp only
   rw[hu]
   refine WeakG.slots rfl (JC _ _ _) ?_
   intro p hp
   simp only[JX,JS,or_false] at hp
   rcases hp with rfl | rfl | rfl | rfl<;>exact .inl rfl
 ·have hd:decide ((i:Int) < k) = false:=by simp; omega
  have hie:i=k:=by omega
  subst hie
  refine VWpG.cond (t:=false) (by rw[<- hd]; rfl) (fun h=>by cases h) (fun _=>?_)
  refine VWpG.plain (Qa c) ?_
  refine rn trivial ?_
  refine VWpG.plain (Qa c) ?_
  refine rn trivial ?_
  exact⟨b,rfl,hb,⟨_,rfl⟩,rfl⟩
end
section
attribute [local go_sem] Qbm
def Pg.numB(p:Pg):Bool:=decide (0<=p.id)&&decide (p.id<64)&&decide (0<=p.lsn)&&decide (p.lsn<=1099511627776)
def Pg.celC(p:Pg)(i:Nat):Bool:=(p.cel i).okB&&!(decide (p.lsn=0)&&(p.cel i).set)
def Pg.celB(p:Pg):Bool:=(Jv 16).all p.celC
def Pg.okB(p:Pg):Bool:=p.numB&&p.celB
def QaW(p:Pg):Int:=if p.numB=false then 1 else if p.celB=false then 22 else 0
def QAa(p:Pg):VCalls prog 179 [.agg p.d] [] (Ret (.bool p.numB)):=by
 refine dd Tryz.func179 ?_
 (unfold Tryz.f179; refine rn trivial ?_)
 refine rn F ?_
 repeat' (first
  | with_reducible exact⟨⟩
  | (refine sG F ?_ ?_<;>intro hZ))
 all_goals (first | rfl | (congr 3; rw[Jk]; (try simp only[Pg.numB,decide_eq_true_eq,Jb,Jf,Jg,Je,decide_eq_false_iff_not,beq_iff_eq,bne_iff_ne,ne_eq,Jl,Jn,iff_true,true_iff,iff_false,false_iff]); first | done | omega | grind))
def QoS(p:Pg):VCalls prog 180 [.agg p.d] [] (Ret (.bool p.celB)):=by
 refine dd Tryz.func180 ?_
 (unfold Tryz.f180; refine rn trivial ?_)
 refine Qj (fun s:Okay 16 p.celC=>⟨26,0,[(3,.int .i64 s.i),(1,.ptr 0 0)],[⟨155,true,p.d⟩]⟩) (fun s=>16-s.i) (Okay.start _ _) (gc [0]) ?_
 intro s
 have hsi:=s.hi
 have hg:=fun h:s.i<16=>QpL p s.i h
 have hg0:=fun h:s.i<16=>Qwi p s.i h
 have e:p.celC s.i=((p.cel s.i).okB&&!(decide (p.lsn=0)&&(p.cel s.i).set)):=rfl
 have c:=Qhe (p.cel s.i)
 generalize (p.cel s.i).okB=ok at *
 have F:=(Ja @hg @hg0)
 refine rn F ?_
 repeat' (first
  | with_reducible exact⟨⟩
  | (refine sG F ?_ ?_<;>intro hZ)
  | (refine sB F ?_ ?_<;>intro hZ)
  | refine vp F (c) ?_)
 all_goals first | (exact congrArg DV.bool (s.no (by omega) rfl (by rw[e]; simp_all )).symm) | (exact congrArg DV.bool (s.yes (by omega) rfl).symm) | (exact⟨s.next (by omega) (by rw[e]; simp_all ),s.dec (by omega),(gc [ 0])⟩) | skip
def Qtv(p:Pg):VCalls prog 124 [.agg p.d] [] (Ret (.bool p.okB)):=by
 refine dd Tryz.func124 ?_
 have c1:=QAa p
 have c2:=QoS p
 have e:p.okB=(p.numB&&p.celB):=rfl
 generalize p.numB=a at *
 generalize p.celB=b at *
 (unfold Tryz.f124; refine rn trivial ?_)
 refine rn F ?_
 repeat' (first
  | with_reducible exact⟨⟩
  | (refine sG F ?_ ?_<;>intro hZ)
  | refine vp F (c1) ?_
  | refine vp F (c2) ?_)
 all_goals (rw[e]; simp_all)
def QdP(p:Pg):VCalls prog 125 [.agg p.d] [] (Ret (.int .i64 (QaW p))):=by
 refine dd Tryz.func125 ?_
 have c1:=QAa p
 have c2:=QoS p
 have e:QaW p=if p.numB=false then 1 else if p.celB=false then 22 else 0:=rfl
 generalize p.numB=a at *
 generalize p.celB=b at *
 (unfold Tryz.f125; refine rn trivial ?_)
 refine rn F ?_
 repeat' (first
  | with_reducible exact⟨⟩
  | (refine sB F ?_ ?_<;>intro hZ)
  | refine vp F (c1) ?_
  | refine vp F (c2) ?_)
 all_goals (rw[e]; simp_all)
def Qwe(h:QaW p=0):p.okB=true:=by
 unfold QaW at h
 unfold Pg.okB
 split at h
 ·simp at h
 split at h
 ·simp at h
 ·simp_all
end
section
attribute [local go_sem] Qbm
def idF(l:List Fm)(a:Int):Int:=QgA l fun f=>f.pg.id==a
def QcT(p:Pl)(hl:p.fs.length<=1000000)(a:Int):VCalls prog 90 [.agg p.d,.int .i64 a] [] (Ret (.int .i64 (idF p.fs a))):=by
 refine dd Tryz.func90 ?_
 obtain⟨z,l,h⟩:=p
 (unfold Tryz.f90; refine rn trivial ?_)
 refine Qj (fun i:Pass l (fun x=>(x.pg.id==a)=true)=>⟨23,0,[(5,.int .i64 i.i),(2,.ptr 0 0),(1,.int .i64 a)],[⟨29,true,Pl.d ⟨z,l,h⟩⟩]⟩) (fun i=>l.length-i.i) (Pass.start l _) (gc [0]) ?_
 intro i
 have hi:=i.hi
 dsimp only at hl
 have hg:=fun h:i.i<l.length=>Qcg l i.i h
 have F:=@hg
 refine rn F ?_
 repeat' (first
  | with_reducible exact⟨⟩
  | (refine sB F ?_ ?_<;>intro hZ))
 ·have hq:(l.getD i.i Fm0).pg.id = a:=by assumption
  rw[Qf l i.i (by omega)] at hq
  have:=QnX l (fun x=>x.pg.id==a) i.i (by omega) (by simpa using hq) i.no
  rw[idF,this]
 ·have hq:¬ (l.getD i.i Fm0).pg.id = a:=by assumption
  rw[Qf l i.i (by omega)] at hq
  exact⟨i.next (by omega) (by simpa using hq),by show l.length-(i.i+1)<l.length-i.i; omega,(gc [0])⟩
 ·have:=i.all (by omega)
  rw[idF,QgA,if_neg (by simpa using this)]
def QAz(l:List Fm)(i k:Nat):Bool:=!decide ((l.getD k Fm0).pg.id=(l.getD i Fm0).pg.id)
def frC(l:List Fm)(i:Nat):Bool:=(l.getD i Fm0).pg.okB&&!((l.getD i Fm0).dirty&&(decide ((l.getD i Fm0).rc<1)||decide ((l.getD i Fm0).pg.lsn<(l.getD i Fm0).rc)))&&!(!(l.getD i Fm0).dirty&&!decide ((l.getD i Fm0).rc=0))&&(Jv i).all (QAz l i)
def Pl.hd(p:Pl):Prop:=1<=p.size/\p.size<=64/\p.fs.length<=p.size/\0<=p.hand/\p.hand<=max 0 ((p.fs.length:Int)-1)
instance (p:Pl):Decidable p.hd:=by unfold Pl.hd; infer_instance
def plB(p:Pl):Bool:=decide p.hd&&(Jv p.fs.length).all (frC p.fs)
def QlA{p:Pl}(h:plB p=true):p.hd:=by unfold plB at h; simp at h; exact h.1
def Qas(p:Pl)(hl:p.fs.length<=1000000):VCalls prog 89 [.agg p.d] [] (Ret (.bool (plB p))):=by
 refine dd Tryz.func89 ?_
 obtain⟨z,l,hn⟩:=p
 dsimp only at hl
 have hB:plB ⟨z,l,hn⟩=(decide (Pl.hd ⟨z,l,hn⟩)&&(Jv l.length).all (frC l)):=rfl
 have hH:Pl.hd ⟨z,l,hn⟩=(1<=z/\z<=64/\l.length<=z/\0<=hn/\hn<=max 0 ((l.length:Int)-1)):=rfl
 have hB':Pl.hd ⟨z,l,hn⟩->plB ⟨z,l,hn⟩=(Jv l.length).all (frC l):=fun h=>by rw[hB,decide_eq_true h,Ks]
 have no:¬ Pl.hd ⟨z,l,hn⟩->plB ⟨z,l,hn⟩=false:=fun h=>by rw[hB,decide_eq_false h]; rfl
 generalize plB ⟨z,l,hn⟩=b at *
 (unfold Tryz.f89; refine rn trivial ?_)
 refine rn F ?_
 repeat' (first
  | with_reducible exact⟨⟩
  | (refine sG F ?_ ?_<;>intro hZ)
  | (refine sB F ?_ ?_<;>intro hZ))
 all_goals first | (rw[no (by rw[hH]; omega)]) | skip
 refine Qj (fun s:Okay l.length (frC l)=>⟨94,0,[(4,.int .i64 s.i),(3,.int .i64 l.length),(1,.ptr 0 0)],[⟨29,true,Pl.d ⟨z,l,hn⟩⟩]⟩) (fun s=>l.length-s.i) (Okay.start _ _) (gc [0]) ?_
 intro s
 have hsi:=s.hi
 have hg:=fun h:s.i<l.length=>Qcg l s.i h
 have c1:=Qtv (l.getD s.i Fm0).pg
 have e:frC l s.i=((l.getD s.i Fm0).pg.okB&&!((l.getD s.i Fm0).dirty&&(decide ((l.getD s.i Fm0).rc<1)||decide ((l.getD s.i Fm0).pg.lsn<(l.getD s.i Fm0).rc)))&&!(!(l.getD s.i Fm0).dirty&&!decide ((l.getD s.i Fm0).rc=0))&&(Jv s.i).all (QAz l s.i)):=rfl
 generalize (l.getD s.i Fm0).pg.okB=ok at *
 have F:=@hg
 refine rn F ?_
 repeat' (first
  | with_reducible exact⟨⟩
  | (refine sG F ?_ ?_<;>intro hZ)
  | (refine sB F ?_ ?_<;>intro hZ)
  | refine vp F (c1) ?_)
 all_goals first
  | (exact congrArg DV.bool (s.no (by omega) (hB' (by rw[hH]; omega)) (by rw[e]; simp_all)).symm)
  | (exact congrArg DV.bool (s.yes (by omega) (hB' (by rw[hH]; omega))).symm)
  | skip
 all_goals
  refine Qj (fun r:Okay s.i (QAz l s.i)=>⟨94,0,[(6,.int .i64 r.i),(5,.ptr 1 0),(4,.int .i64 s.i),(3,.int .i64 l.length),(1,.ptr 0 0)],[⟨29,true,Pl.d ⟨z,l,hn⟩⟩,⟨159,true,(l.getD s.i Fm0).d⟩]⟩) (fun r=>s.i-r.i) (Okay.start _ _) (gc [0,1]) ?_
  intro r
  have hri:=r.hi
  have hk:=fun h:r.i<l.length=>Qcg l r.i h
  have e2:QAz l s.i r.i=!decide ((l.getD r.i Fm0).pg.id=(l.getD s.i Fm0).pg.id):=rfl
  have F:=@hk
  refine rn F ?_
  repeat' (first
   | with_reducible exact⟨⟩
   | (refine sB F ?_ ?_<;>intro hZ)
   | (refine Qd (id:=13) [0,1,2,3,4,5,6,7,8,9,10] [] (by kernel_rfl) (by kernel_rfl) ?_; refine rn F ?_))
 all_goals first
  | (exact congrArg DV.bool (s.no (by omega) (hB' (by rw[hH]; omega)) (by rw[e,QaK (i:=r.i) (by omega) (by rw[e2]; simp_all),JH])).symm)
  | (exact⟨r.next (by omega) (by rw[e2]; simp_all),r.dec (by omega),(gc [0,1])⟩)
  | (exact⟨s.next (by omega) (by rw[e,r.all (by omega)]; simp_all),s.dec (by omega),(gc [0])⟩)
  | skip
end
section
attribute [local go_sem] Qbm
def Qbw(p:Pl)(a:Int):Int:=if plB p=true then idF p.fs a else -1
def Qa6(l:List Fm)(a:Int):idF l a=-1\/∃ i:Nat,∃ _:i<l.length,idF l a=i/\(l.getD i Fm0).pg.id=a:=by
 rcases Qu7 l (fun f=>f.pg.id==a) with⟨h,_⟩ | ⟨i,hi,h,hf⟩
 ·exact .inl h
 ·refine .inr ⟨i,hi,h,?_⟩
  have:=List.find?_some hf
  rw[Qf l i hi]; simpa using this
def Qb6(p:Pl)(a:Int):Qbw p a=-1\/(plB p=true/\∃ i:Nat,∃ _:i<p.fs.length,Qbw p a=i/\idF p.fs a=i/\(p.fs.getD i Fm0).pg.id=a):=by
 unfold Qbw
 split
 ·rename_i hv
  rcases Qa6 p.fs a with h | ⟨i,hi,h,hx⟩
  ·exact .inl h
  ·exact .inr ⟨hv,i,hi,h,h,hx⟩
 ·exact .inl rfl
def Qe4(p:Pl)(a:Int):Pg×Bool:=if Qbw p a<0 then (Pg0,false) else ((p.fs.getD (Qbw p a).toNat Fm0).pg,true)
def QcR(p:Pl)(hl:p.fs.length<=1000000)(a:Int):VCalls prog 64 [.agg p.d,.int .i64 a] [] (Ret (.int .i64 (Qbw p a))):=by
 refine dd Tryz.func64 ?_
 have c1:=Qas p hl
 have c2:=QcT p hl a
 unfold Qbw
 generalize plB p=b at *
 (unfold Tryz.f64; refine rn trivial ?_)
 refine rn F ?_
 repeat' (first
  | with_reducible exact⟨⟩
  | (refine sB F ?_ ?_<;>intro hZ)
  | refine vp F (c1) ?_
  | refine vp F (c2) ?_)
 all_goals (simp_all)
def Qha(p:Pl)(hl:p.fs.length<=1000000)(a:Int):VCalls prog 87 [.agg p.d,.int .i64 a] [] (Ret (.tup [.agg (Qe4 p a).1.d,.bool (Qe4 p a).2])):=by
 refine dd Tryz.func87 ?_
 have c1:=QcR p hl a
 unfold Qe4
 rcases Qb6 p a with h | ⟨_,i,hi,h,_⟩
 ·rw [h] at c1 |-
  (unfold Tryz.f87; refine rn trivial ?_)
  refine rn F ?_
  repeat' (first
   | with_reducible exact⟨⟩
   | refine vp F (c1) ?_)
  all_goals rfl
 ·rw [h] at c1 |-
  rw[if_neg (by omega),Jp]
  have hg:=Qcg p.fs i hi
  generalize p.fs.getD i Fm0=f at *
  (unfold Tryz.f87; refine rn trivial ?_)
  have F:=@hg
  refine rn F ?_
  repeat' (first
   | with_reducible exact⟨⟩
   | refine vp F (c1) ?_)
def QBA(l:List Fm)(i:Nat)(f:Fm)(hi:i<l.length):(cells QcM l).take (i*37)++f.d++(cells QcM l).drop (i*37+37)=cells QcM (l.set i f):=Qtc QcM l i f hi
def QjG(p:Pl)(hl:p.fs.length<=1000000)(i:Nat)(hi:i<p.fs.length)(f:Fm):VCalls prog 183 [.agg p.d,.int .i64 i,.agg f.d] [] (Ret (.agg (Pl.d ⟨p.size,p.fs.set i f,p.hand⟩))):=by
 refine dd Tryz.func183 ?_
 obtain⟨z,l,hn⟩:=p
 dsimp only at hl hi
 have hb:i*37+37<=l.length*37:=by omega
 have hse:=QBA l i f hi
 have hle:(l.set i f).length=l.length:=J4
 (unfold Tryz.f183; refine rn trivial ?_)
 have F:=(Ja @hb (Ja @hse @hle))
 (refine rn F ?_; try with_reducible exact⟨⟩)
def QBk(p:Pl)(a:Int):Pl:=if Qbw p a<0 then p else ⟨p.size,p.fs.set (Qbw p a).toNat ⟨(p.fs.getD (Qbw p a).toNat Fm0).pg,(p.fs.getD (Qbw p a).toNat Fm0).dirty,(p.fs.getD (Qbw p a).toNat Fm0).rc,true⟩,p.hand⟩
def QBN(p:Pl)(hl:p.fs.length<=1000000)(a:Int):VCalls prog 217 [.agg p.d,.int .i64 a] [] (Ret (.agg (QBk p a).d)):=by
 refine dd Tryz.func217 ?_
 have c1:=QcR p hl a
 unfold QBk
 rcases Qb6 p a with h | ⟨_,i,hi,h,_⟩
 ·rw [h] at c1 |-
  (unfold Tryz.f217; refine rn trivial ?_)
  refine rn F ?_
  repeat' (first
   | with_reducible exact⟨⟩
   | refine vp F (c1) ?_)
  all_goals rfl
 ·rw [h] at c1 |-
  rw[if_neg (by omega),Jp]
  have hg:=Qcg p.fs i hi
  have c2:=QjG p hl i hi ⟨(p.fs.getD i Fm0).pg,(p.fs.getD i Fm0).dirty,(p.fs.getD i Fm0).rc,true⟩
  generalize p.fs.getD i Fm0=f at *
  (unfold Tryz.f217; refine rn trivial ?_)
  have F:=@hg
  refine rn F ?_
  repeat' (first
   | with_reducible exact⟨⟩
   | refine vp F (c1) ?_
   | refine vp F (c2) ?_)
def Qic(n:Int):Pl×Int:=if n<1\/64<n then (Pl0,1) else (⟨n,[],0⟩,0)
def Qtw(n:Int):VCalls prog 36 [.int .i64 n] [] (Ret (.tup [.agg (Qic n).1.d,.int .i64 (Qic n).2])):=by
 refine dk Tryz.func36 ?_
 unfold Qic
 (unfold Tryz.f36; refine rn trivial ?_)
 refine rn F ?_
 repeat' (first
  | with_reducible exact⟨⟩
  | (refine sG F ?_ ?_<;>intro hZ)
  | (refine sB F ?_ ?_<;>intro hZ))
 all_goals first | (rw[if_pos (by omega)]; rfl) | (rw[if_neg (by omega)]; rfl)
def QoZ(p:Pl)(x:Pg):Pl×Int:=
 if plB p=false then (Pl0,15) else if QaW x≠0 then (Pl0,QaW x) else if 0<=idF p.fs x.id then (Pl0,25) else if (p.fs.length:Int)=p.size then (Pl0,21)
 else (⟨p.size,p.fs++[⟨x,false,0,true⟩],p.hand⟩,0)
def QBP(p:Pl)(hl:p.fs.length<=100000)(x:Pg):VCalls prog 158 [.agg p.d,.agg x.d] [] (Ret (.tup [.agg (QoZ p x).1.d,.int .i64 (QoZ p x).2])):=by
 refine dk Tryz.func158 ?_
 have c1:=Qas p (by omega)
 have c2:=QdP x
 have c3:=QcT p (by omega) x.id
 have e:QoZ p x=if plB p=false then (Pl0,15) else if QaW x≠0 then (Pl0,QaW x) else if 0<=idF p.fs x.id then (Pl0,25) else if (p.fs.length:Int)=p.size then (Pl0,21)
  else (⟨p.size,p.fs++[⟨x,false,0,true⟩],p.hand⟩,0):=rfl
 generalize QoZ p x=r at *
 generalize plB p=b at *
 generalize QaW x=k at *
 generalize idF p.fs x.id=m at *
 have hb:(p.fs.length+1)*304<=140737488355328:=by omega
 (unfold Tryz.f158; refine rn trivial ?_)
 have F:=@hb
 refine rn F ?_
 repeat' (first
  | with_reducible exact⟨⟩
  | (refine sB F ?_ ?_<;>intro hZ)
  | refine vp F (c1) ?_
  | refine vp F (c2) ?_
  | refine vp F (c3) ?_
  | (refine Qd (id:=10) [0,1,3,4] [⟨[5],[],2,[0,3,4],[]⟩,⟨[5],[5],6,[0,1,3,4],[7]⟩,⟨[],[],8,[],[]⟩] (by kernel_rfl) (by kernel_rfl) ?_; refine rn F ?_))
 all_goals first | (first | (rw[e]; simp(disch:=first | assumption | omega | exact rfl | exact nf (by assumption) | exact nt (by assumption) | decide | fail) only[if_pos,if_neg]; first | done | rfl) | (rw[e]; simp(disch:=first | assumption | omega | exact rfl | exact nf (by assumption) | exact nt (by assumption) | decide | (simp_all; done) | fail) only[if_pos,if_neg]; first | done | rfl)) | skip
end
section
attribute [local go_sem] Qbm
def QrK(f:Fm)(x:Pg):Fm:=⟨x,true,if f.dirty=true then f.rc else x.lsn,true⟩
def Qkv(p:Pl)(x:Pg):Pl×Int:=
 if plB p=false then (Pl0,15) else if QaW x≠0 then (Pl0,QaW x) else if idF p.fs x.id<0 then (Pl0,18)
 else if x.lsn<=(p.fs.getD (idF p.fs x.id).toNat Fm0).pg.lsn then (Pl0,8)
 else (⟨p.size,p.fs.set (idF p.fs x.id).toNat (QrK (p.fs.getD (idF p.fs x.id).toNat Fm0) x),p.hand⟩,0)
def QBO(p:Pl)(hl:p.fs.length<=100000)(x:Pg):VCalls prog 210 [.agg p.d,.agg x.d] [] (Ret (.tup [.agg (Qkv p x).1.d,.int .i64 (Qkv p x).2])):=by
 refine dk Tryz.func210 ?_
 have c1:=Qas p (by omega)
 have c2:=QdP x
 have c3:=QcT p (by omega) x.id
 have c4:=QjG p (by omega)
 have e:Qkv p x=if plB p=false then (Pl0,15) else if QaW x≠0 then (Pl0,QaW x) else if idF p.fs x.id<0 then (Pl0,18)
  else if x.lsn<=(p.fs.getD (idF p.fs x.id).toNat Fm0).pg.lsn then (Pl0,8)
  else (⟨p.size,p.fs.set (idF p.fs x.id).toNat (QrK (p.fs.getD (idF p.fs x.id).toNat Fm0) x),p.hand⟩,0):=rfl
 have hi:=Qa6 p.fs x.id
 generalize Qkv p x=r at *
 generalize plB p=b at *
 generalize QaW x=k at *
 rcases hi with h | ⟨i,hi,h,_⟩
 ·rw [h] at c3 e
  (unfold Tryz.f210; refine rn trivial ?_)
  refine rn F ?_
  repeat' (first
   | with_reducible exact⟨⟩
   | (refine sB F ?_ ?_<;>intro hZ)
   | refine vp F (c1) ?_
   | refine vp F (c2) ?_
   | refine vp F (c3) ?_)
  all_goals first | (first | (rw[e]; simp(disch:=first | assumption | omega | exact rfl | exact nf (by assumption) | exact nt (by assumption) | decide | fail) only[if_pos,if_neg]; first | done | rfl) | (rw[e]; simp(disch:=first | assumption | omega | exact rfl | exact nf (by assumption) | exact nt (by assumption) | decide | (simp_all; done) | fail) only[if_pos,if_neg]; first | done | rfl)) | skip
 ·rw [h] at c3 e
  rw[Jp] at e
  have hg:=Qcg p.fs i hi
  have e2:∀ f:Fm,f.dirty=true->QrK f x=⟨x,true,f.rc,true⟩:=fun f h=>by unfold QrK; rw[if_pos h]
  have e3:∀ f:Fm,¬ f.dirty=true->QrK f x=⟨x,true,x.lsn,true⟩:=fun f h=>by unfold QrK; rw[if_neg h]
  have c4:=fun f=>c4 i hi f
  generalize p.fs.getD i Fm0=f at *
  (unfold Tryz.f210; refine rn trivial ?_)
  have F:=@hg
  refine rn F ?_
  repeat' (first
   | with_reducible exact⟨⟩
   | (refine sB F ?_ ?_<;>intro hZ)
   | refine vp F (c1) ?_
   | refine vp F (c2) ?_
   | refine vp F (c3) ?_
   | refine vp F (c4 ⟨_,_,_,_⟩) ?_)
  all_goals first | (first | (rw[e]; simp(disch:=first | assumption | omega | exact rfl | exact nf (by assumption) | exact nt (by assumption) | decide | fail) only[if_pos,if_neg]; first | done | rfl) | (rw[e]; simp(disch:=first | assumption | omega | exact rfl | exact nf (by assumption) | exact nt (by assumption) | decide | (simp_all; done) | fail) only[if_pos,if_neg]; first | done | rfl)) | (first | (rw[e,e2 f (by assumption)]; simp(disch:=first | assumption | omega | exact rfl | exact nf (by assumption) | exact nt (by assumption) | decide | fail) only[if_pos,if_neg]; first | done | rfl) | (rw[e,e2 f (by assumption)]; simp(disch:=first | assumption | omega | exact rfl | exact nf (by assumption) | exact nt (by assumption) | decide | (simp_all; done) | fail) only[if_pos,if_neg]; first | done | rfl)) | (first | (rw[e,e3 f (by simp_all)]; simp(disch:=first | assumption | omega | exact rfl | exact nf (by assumption) | exact nt (by assumption) | decide | fail) only[if_pos,if_neg]; first | done | rfl) | (rw[e,e3 f (by simp_all)]; simp(disch:=first | assumption | omega | exact rfl | exact nf (by assumption) | exact nt (by assumption) | decide | (simp_all; done) | fail) only[if_pos,if_neg]; first | done | rfl)) | skip
def Qfe(f:Fm)(n:Int):Fm:=if f.pg.lsn=n then ⟨f.pg,false,0,f.used⟩ else if f.rc<=n then ⟨f.pg,f.dirty,n+1,f.used⟩ else f
def QaV(p:Pl)(a n:Int):Pl×Int:=
 if plB p=false then (Pl0,15) else if idF p.fs a<0 then (Pl0,18)
 else if (p.fs.getD (idF p.fs a).toNat Fm0).pg.lsn<n then (Pl0,9)
 else if (p.fs.getD (idF p.fs a).toNat Fm0).dirty=false then (p,0)
 else (⟨p.size,p.fs.set (idF p.fs a).toNat (Qfe (p.fs.getD (idF p.fs a).toNat Fm0) n),p.hand⟩,0)
def Qtx(p:Pl)(hl:p.fs.length<=100000)(a n:Int)(hn:n<=1099511627776)(hn0:0<=n):VCalls prog 133 [.agg p.d,.int .i64 a,.int .i64 n] [] (Ret (.tup [.agg (QaV p a n).1.d,.int .i64 (QaV p a n).2])):=by
 refine dk Tryz.func133 ?_
 have c1:=Qas p (by omega)
 have c3:=QcT p (by omega) a
 have c4:=QjG p (by omega)
 have e:QaV p a n=if plB p=false then (Pl0,15) else if idF p.fs a<0 then (Pl0,18)
  else if (p.fs.getD (idF p.fs a).toNat Fm0).pg.lsn<n then (Pl0,9)
  else if (p.fs.getD (idF p.fs a).toNat Fm0).dirty=false then (p,0)
  else (⟨p.size,p.fs.set (idF p.fs a).toNat (Qfe (p.fs.getD (idF p.fs a).toNat Fm0) n),p.hand⟩,0):=rfl
 have hi:=Qa6 p.fs a
 generalize QaV p a n=r at *
 generalize plB p=b at *
 rcases hi with h | ⟨i,hi,h,_⟩
 ·rw [h] at c3 e
  (unfold Tryz.f133; refine rn trivial ?_)
  refine rn F ?_
  repeat' (first
   | with_reducible exact⟨⟩
   | (refine sB F ?_ ?_<;>intro hZ)
   | refine vp F (c1) ?_
   | refine vp F (c3) ?_)
  all_goals first | (first | (rw[e]; simp(disch:=first | assumption | omega | exact rfl | exact nf (by assumption) | exact nt (by assumption) | decide | fail) only[if_pos,if_neg]; first | done | rfl) | (rw[e]; simp(disch:=first | assumption | omega | exact rfl | exact nf (by assumption) | exact nt (by assumption) | decide | (simp_all; done) | fail) only[if_pos,if_neg]; first | done | rfl)) | skip
 ·rw [h] at c3 e
  rw[Jp] at e
  have hg:=Qcg p.fs i hi
  have c4:=fun f=>c4 i hi f
  generalize p.fs.getD i Fm0=f at *
  obtain⟨pg,dirty,rc,used⟩:=f
  have e1:pg.lsn=n->Qfe ⟨pg,dirty,rc,used⟩ n=⟨pg,false,0,used⟩:=fun h=>if_pos h
  have e2:¬ pg.lsn=n->rc<=n->Qfe ⟨pg,dirty,rc,used⟩ n=⟨pg,dirty,n+1,used⟩:=fun h h2=>by unfold Qfe; rw[if_neg h,if_pos h2]
  have e3:¬ pg.lsn=n->¬ rc<=n->Qfe ⟨pg,dirty,rc,used⟩ n=⟨pg,dirty,rc,used⟩:=fun h h2=>by unfold Qfe; rw[if_neg h,if_neg h2]
  cases dirty
  all_goals
   (unfold Tryz.f133; refine rn trivial ?_)
   have F:=@hg
   refine rn F ?_
   repeat' (first
    | with_reducible exact⟨⟩
    | (refine sB F ?_ ?_<;>intro hZ)
    | refine vp F (c1) ?_
    | refine vp F (c3) ?_
    | refine vp F (c4 ⟨_,_,_,_⟩) ?_)
  all_goals first | (first | (rw[e]; simp(disch:=first | assumption | omega | exact rfl | exact nf (by assumption) | exact nt (by assumption) | decide | fail) only[if_pos,if_neg]; first | done | rfl) | (rw[e]; simp(disch:=first | assumption | omega | exact rfl | exact nf (by assumption) | exact nt (by assumption) | decide | (simp_all; done) | fail) only[if_pos,if_neg]; first | done | rfl)) | (first | (rw[e,e1 (by omega)]; simp(disch:=first | assumption | omega | exact rfl | exact nf (by assumption) | exact nt (by assumption) | decide | fail) only[if_pos,if_neg]; first | done | rfl) | (rw[e,e1 (by omega)]; simp(disch:=first | assumption | omega | exact rfl | exact nf (by assumption) | exact nt (by assumption) | decide | (simp_all; done) | fail) only[if_pos,if_neg]; first | done | rfl)) | (first | (rw[e,e2 (by omega) (by omega)]; simp(disch:=first | assumption | omega | exact rfl | exact nf (by assumption) | exact nt (by assumption) | decide | fail) only[if_pos,if_neg]; first | done | rfl) | (rw[e,e2 (by omega) (by omega)]; simp(disch:=first | assumption | omega | exact rfl | exact nf (by assumption) | exact nt (by assumption) | decide | (simp_all; done) | fail) only[if_pos,if_neg]; first | done | rfl)) | (first | (rw[e,e3 (by omega) (by omega)]; simp(disch:=first | assumption | omega | exact rfl | exact nf (by assumption) | exact nt (by assumption) | decide | fail) only[if_pos,if_neg]; first | done | rfl) | (rw[e,e3 (by omega) (by omega)]; simp(disch:=first | assumption | omega | exact rfl | exact nf (by assumption) | exact nt (by assumption) | decide | (simp_all; done) | fail) only[if_pos,if_neg]; first | done | rfl)) | skip
def Qil(n:Nat)(i h:Int):Int:=if (n:Int)<=(if i<h then h-1 else h) then 0 else (if i<h then h-1 else h)
def Qd6(p:Pl)(a:Int):Pl×Int:=
 if plB p=false then (Pl0,15) else if idF p.fs a<0 then (Pl0,18)
 else if (p.fs.getD (idF p.fs a).toNat Fm0).dirty=true then (Pl0,23)
 else (⟨p.size,p.fs.take (idF p.fs a).toNat++p.fs.drop ((idF p.fs a).toNat+1),Qil (p.fs.length-1) (idF p.fs a) p.hand⟩,0)
def QxQ(p:Pl)(hl:p.fs.length<=100000)(a:Int):VCalls prog 203 [.agg p.d,.int .i64 a] [] (Ret (.tup [.agg (Qd6 p a).1.d,.int .i64 (Qd6 p a).2])):=by
 refine dk Tryz.func203 ?_
 have c1:=Qas p (by omega)
 have c3:=QcT p (by omega) a
 have e:Qd6 p a=if plB p=false then (Pl0,15) else if idF p.fs a<0 then (Pl0,18)
  else if (p.fs.getD (idF p.fs a).toNat Fm0).dirty=true then (Pl0,23)
  else (⟨p.size,p.fs.take (idF p.fs a).toNat++p.fs.drop ((idF p.fs a).toNat+1),Qil (p.fs.length-1) (idF p.fs a) p.hand⟩,0):=rfl
 have hi:=Qa6 p.fs a
 have hh:=@QlA p
 generalize Qd6 p a=r at *
 generalize plB p=b at *
 rcases hi with h | ⟨i,hi,h,_⟩
 ·rw [h] at c3 e
  (unfold Tryz.f203; refine rn trivial ?_)
  refine rn F ?_
  repeat' (first
   | with_reducible exact⟨⟩
   | (refine sB F ?_ ?_<;>intro hZ)
   | refine vp F (c1) ?_
   | refine vp F (c3) ?_)
  all_goals first | (first | (rw[e]; simp(disch:=first | assumption | omega | exact rfl | exact nf (by assumption) | exact nt (by assumption) | decide | fail) only[if_pos,if_neg]; first | done | rfl) | (rw[e]; simp(disch:=first | assumption | omega | exact rfl | exact nf (by assumption) | exact nt (by assumption) | decide | (simp_all; done) | fail) only[if_pos,if_neg]; first | done | rfl)) | skip
 ·rw [h] at c3 e
  rw[Jp] at e
  cases b
  ·(unfold Tryz.f203; refine rn trivial ?_; try with_reducible exact ⟨⟩)
   refine rn F ?_
   repeat' (first
    | with_reducible exact⟨⟩
    | refine vp F (c1) ?_)
   all_goals (first | (rw[e]; simp(disch:=first | assumption | omega | exact rfl | exact nf (by assumption) | exact nt (by assumption) | decide | fail) only[if_pos,if_neg]; first | done | rfl) | (rw[e]; simp(disch:=first | assumption | omega | exact rfl | exact nf (by assumption) | exact nt (by assumption) | decide | (simp_all; done) | fail) only[if_pos,if_neg]; first | done | rfl))
  have hh:=hh rfl
  obtain⟨z,l,hn⟩:=p
  dsimp only at hl e hi
  simp only[Pl.hd] at hh
  have hg:=Qcg l i hi
  have hb:(i+(l.length-(i+1)))*304<=140737488355328:=by omega
  have hb1:i*304<=140737488355328:=by omega
  have hmin:min i l.length=i:=by omega
  have e1:(i:Int)<hn->¬ ((l.length-1:Nat):Int)<=hn-1->Qil (l.length-1) i hn=hn-1:=fun h h2=>by unfold Qil; rw[if_pos h,if_neg h2]
  have e2:¬ (i:Int)<hn->¬ ((l.length-1:Nat):Int)<=hn->Qil (l.length-1) i hn=hn:=fun h h2=>by unfold Qil; rw[if_neg h,if_neg h2]
  have e3:(i:Int)<hn->((l.length-1:Nat):Int)<=hn-1->Qil (l.length-1) i hn=0:=fun h h2=>by unfold Qil; rw[if_pos h,if_pos h2]
  have e4:¬ (i:Int)<hn->((l.length-1:Nat):Int)<=hn->Qil (l.length-1) i hn=0:=fun h h2=>by unfold Qil; rw[if_neg h,if_pos h2]
  generalize l.getD i Fm0=f at *
  (unfold Tryz.f203; refine rn trivial ?_)
  have F:=(Ja @hg (Ja @hb (Ja @hb1 @hmin)))
  refine rn F ?_
  repeat' (first
   | with_reducible exact⟨⟩
   | (refine sB F ?_ ?_<;>intro hZ)
   | refine vp F (c1) ?_
   | refine vp F (c3) ?_
   | (refine Qd (id:=8) [0,1,2,3,5,6,7,8,9] [⟨[],[],4,[0,1,2,5,6,7,8,9],[]⟩,⟨[],[],10,[0,1,2,3,5,6,7,8],[11]⟩,⟨[],[],12,[],[]⟩] (by kernel_rfl) (by kernel_rfl) ?_; refine rn F ?_))
  all_goals first | (first | (rw[e]; simp(disch:=first | assumption | omega | exact rfl | exact nf (by assumption) | exact nt (by assumption) | decide | fail) only[if_pos,if_neg]; first | done | rfl) | (rw[e]; simp(disch:=first | assumption | omega | exact rfl | exact nf (by assumption) | exact nt (by assumption) | decide | (simp_all; done) | fail) only[if_pos,if_neg]; first | done | rfl)) | (first | (rw[e,e1 (by omega) (by omega)]; simp(disch:=first | assumption | omega | exact rfl | exact nf (by assumption) | exact nt (by assumption) | decide | fail) only[if_pos,if_neg]; first | done | rfl) | (rw[e,e1 (by omega) (by omega)]; simp(disch:=first | assumption | omega | exact rfl | exact nf (by assumption) | exact nt (by assumption) | decide | (simp_all; done) | fail) only[if_pos,if_neg]; first | done | rfl)) | (first | (rw[e,e2 (by omega) (by omega)]; simp(disch:=first | assumption | omega | exact rfl | exact nf (by assumption) | exact nt (by assumption) | decide | fail) only[if_pos,if_neg]; first | done | rfl) | (rw[e,e2 (by omega) (by omega)]; simp(disch:=first | assumption | omega | exact rfl | exact nf (by assumption) | exact nt (by assumption) | decide | (simp_all; done) | fail) only[if_pos,if_neg]; first | done | rfl)) | (first | (rw[e,e3 (by omega) (by omega)]; simp(disch:=first | assumption | omega | exact rfl | exact nf (by assumption) | exact nt (by assumption) | decide | fail) only[if_pos,if_neg]; first | done | rfl) | (rw[e,e3 (by omega) (by omega)]; simp(disch:=first | assumption | omega | exact rfl | exact nf (by assumption) | exact nt (by assumption) | decide | (simp_all; done) | fail) only[if_pos,if_neg]; first | done | rfl)) | (first | (rw[e,e4 (by omega) (by omega)]; simp(disch:=first | assumption | omega | exact rfl | exact nf (by assumption) | exact nt (by assumption) | decide | fail) only[if_pos,if_neg]; first | done | rfl) | (rw[e,e4 (by omega) (by omega)]; simp(disch:=first | assumption | omega | exact rfl | exact nf (by assumption) | exact nt (by assumption) | decide | (simp_all; done) | fail) only[if_pos,if_neg]; first | done | rfl)) | skip
end
section
attribute [local go_sem] Qbm
def Fm.clr(f:Fm):Fm:=⟨f.pg,f.dirty,f.rc,false⟩
def SameF(l m:List Fm):Prop:=m.map Fm.clr=l.map Fm.clr
def QgD(l:List Fm)(i:Nat):(l.map Fm.clr).getD i Fm0=(l.getD i Fm0).clr:=by
 rw[Jh,Jh,Kg]; cases l[i]?<;>rfl
def Qvv(l:List Fm)(i:Nat):frC (l.map Fm.clr) i=frC l i:=by
 have h:QAz (l.map Fm.clr) i=QAz l i:=by funext k; simp only[QAz,QgD]; rfl
 simp only[frC,h,QgD]; rfl
def SameF.len(h:SameF l m):m.length=l.length:=by have:=congrArg JE h; simpa using this
theorem SameF.refl(l:List Fm):SameF l l:=rfl
def SameF.trans(h:SameF a b)(g:SameF b c):SameF a c:=Eq.trans (b:=b.map Fm.clr) g h
def SameF.at_(h:SameF l m)(i:Nat):(m.getD i Fm0).clr=(l.getD i Fm0).clr:=by
 rw[<- QgD,<- QgD,show m.map Fm.clr=l.map Fm.clr from h]
def SameF.frC(h:SameF l m):frC m=frC l:=by
 funext i; rw[<- Qvv m,<- Qvv l,show m.map Fm.clr=l.map Fm.clr from h]
def SameF.plB(h:SameF p.fs q.fs)(hs:q.size=p.size)(hh:0<=q.hand/\q.hand<=max 0 ((p.fs.length:Int)-1))(hp:plB p=true):plB q=true:=by
 have h1:=QlA hp
 simp only[Pl.hd] at h1
 have hl:=h.len
 unfold Proofs.YtomgpphpkcoolaaGreat.plB at hp |-
 rw[h.frC,hl,decide_eq_true (by simp only[Pl.hd]; omega)]
 simp only[Jb] at hp
 simpa using hp.2
def Qu8(l:List Fm)(a:Int):idF (l.map Fm.clr) a=idF l a:=by
 unfold idF QgA
 rw[List.any_map,List.findIdx_map]; rfl
def SameF.idF(h:SameF l m)(a:Int):idF m a=idF l a:=by
 rw[<- Qu8 m,<- Qu8 l,show m.map Fm.clr=l.map Fm.clr from h]
def SameF.set (l:List Fm) (i:Nat) (b:Bool):SameF l (l.set i ⟨(l.getD i Fm0).pg,(l.getD i Fm0).dirty,(l.getD i Fm0).rc,b⟩):=by
 unfold SameF
 rw[List.map_set]
 rcases J3 i l.length with h | h
 ·have:(⟨(l.getD i Fm0).pg,(l.getD i Fm0).dirty,(l.getD i Fm0).rc,b⟩:Fm).clr = (l.map Fm.clr)[i]'(by simpa using h):=by
   rw[Qf l i h,JZ]; rfl
  rw[this,List.set_getElem_self]
 ·rw[List.set_eq_of_length_le (by simpa using h)]
def Qxc(l:List Fm):Nat:=l.countP (·.used)
def QsK(l:List Fm)(i:Nat)(h:i<l.length)(hu:(l.getD i Fm0).used=true):Qxc (l.set i ⟨(l.getD i Fm0).pg,(l.getD i Fm0).dirty,(l.getD i Fm0).rc,false⟩)<Qxc l:=by
 unfold Qxc
 rw[List.countP_set h]
 rw[Qf l i h] at *
 have:0<l.countP (·.used):=List.countP_pos_iff.2 ⟨l[i],JY h,hu⟩
 simp only[hu,if_true]
 simp
 omega
structure Vic(p:Pl) where
 q:Pl
 ok:plB q=true
 sm:SameF p.fs q.fs
 sz:q.size=p.size
 ne:0<q.fs.length
def QHE(p:Pl)(a:Pl×Int×Int):Prop:=(a.2.2=0->plB p=true/\plB a.1=true/\SameF p.fs a.1.fs/\a.1.size=p.size/\∃ i,i<a.1.fs.length/\a.2.1=(a.1.fs.getD i Fm0).pg.id)/\(plB p=true->0<p.fs.length->a.2.2=0)/\a.1.fs.length<=p.fs.length
def QHF(a:Pl×Int×Int):DV:=.tup [.agg a.1.d,.int .i64 a.2.1,.int .i64 a.2.2]
def QBM(p:Pl)(hl:p.fs.length<=100000):VCalls prog 202 [.agg p.d] [] (QL QHF (QHE p)):=by
 refine dk Tryz.func202 ?_
 have c1:=Qas p (by omega)
 cases hb:plB p
 ·rw [hb] at c1
  (unfold Tryz.f202; refine rn trivial ?_)
  refine rn F ?_
  repeat' (first
   | with_reducible exact⟨⟩
   | refine vp F (c1) ?_)
  all_goals exact⟨rfl,rfl,(Pl0,0,15),rfl,by simp[QHE,hb,Pl0]⟩
 ·rw [hb] at c1
  (unfold Tryz.f202; refine rn trivial ?_)
  refine rn F ?_
  repeat' (first
   | with_reducible exact⟨⟩
   | (refine sB F ?_ ?_<;>intro hZ)
   | refine vp F (c1) ?_)
  ·exact⟨rfl,rfl,(Pl0,0,18),rfl,fun h=>absurd h (by decide),fun _ h=>by omega,JJ _⟩
  refine Qj (fun s:Vic p=>⟨51,0,[(2,.ptr 1 0),(1,.ptr 0 0)],[⟨29,true,s.q.d⟩,⟨29,true,[.int .i64 0,.pv (.slc []),.int .i64 0]⟩]⟩) (fun s=>Qxc s.q.fs) ⟨p,hb,SameF.refl _,rfl,by omega⟩ (gc [0,1]) ?_
  intro s
  obtain⟨q,ok,sm,sz,ne⟩:=s
  obtain⟨qz,l,hn⟩:=q
  dsimp only at ok sm sz ne |-
  have hh:=QlA ok
  have hlen:=sm.len
  simp only[Pl.hd] at hh
  obtain⟨i,rfl⟩:∃ i:Nat,hn=i:=⟨hn.toNat,by omega⟩
  have hi:i<l.length:=by omega
  have hg:=Qcg l i hi
  have c2:=fun f=>QjG ⟨qz,l,i⟩ (by dsimp only; omega) i hi f
  have hst:=SameF.set l i false
  have hus:=QsK l i hi
  have hmod:((i:Int)+1).tmod (l.length:Int)=((i+1) % l.length:Nat):=Int.ofNat_tmod (i+1) l.length
  have hml:(i+1) % l.length<l.length:=Kf _ ne
  have hle:∀ f,(l.set i f).length=l.length:=fun f=>J4
  generalize hf:l.getD i Fm0=f at *
  have F:=(Ja @hg @hle)
  refine rn F ?_
  repeat' (first
   | with_reducible exact⟨⟩
   | (refine sB F ?_ ?_<;>intro hZ)
   | refine vp F (c2 ⟨_,_,_,_⟩) ?_
   | (refine Qd (id:=10) [0,1,2,3,4,5,6,7,8] [⟨[],[],9,[1,2,3,4,5,6,7,8],[]⟩,⟨[],[],10,[],[]⟩,⟨[],[],11,[],[]⟩] (by kernel_rfl) (by kernel_rfl) ?_; refine rn F ?_))
  ·rw [hmod]
   refine⟨⟨⟨qz,l.set i ⟨f.pg,f.dirty,f.rc,false⟩,((i+1) % l.length:Nat)⟩,(sm.trans hst).plB sz ?_ hb,sm.trans hst,sz,?_⟩,hus (by assumption),(gc [0,1])⟩
   ·dsimp only at hlen |-; omega
   ·rw[hle]; exact ne
  ·exact⟨rfl,rfl,(⟨qz,l,i⟩,f.pg.id,0),rfl,fun _=>⟨hb,ok,sm,sz,i,hi,by rw[hf]⟩,fun _ _=>rfl,by dsimp only at hlen |-; omega⟩
end
def Qhb(x:Lg)(h1 : -1099511627776<=x.f/\x.f<=1099511627776)(h2:x.es.length<=1000000):VCalls prog 68 [.agg x.c] [] (Ret (.int .i64 x.end_)):=by
 refine dd Tryz.func68 ?_
 unfold Lg.end_
 (unfold Tryz.f68; refine rn trivial ?_; try with_reducible exact⟨⟩)
def QuR{x:Lg}(h:lgB x=true):x.end_<=1099511627776:=by
 have hd:=QaG h
 unfold Lg.hd at hd
 unfold Lg.end_
 unfold lgB at h
 simp only[Jb,JI] at h
 by_cases h0:x.es.length=0
 ·omega
 ·have:=h.2 (x.es.length - 1) (JG.2 (by omega))
  unfold lgC at this
  simp only[Jb,decide_eq_true_eq] at this
  obtain⟨h3,h4⟩:=this
  generalize x.es.getD (x.es.length-1) E0=e at *
  unfold E.okB at h4
  simp only[Jb,decide_eq_true_eq] at h4
  omega
def Qax(x:Lg)(hx:x.es.length<=9223372036854775807):VCalls prog 67 [.agg x.c] [] (Ret (.bool (lgB x))):=by
 refine dd Tryz.func67 ?_
 obtain⟨f,es,d⟩:=x
 dsimp only at hx
 have c1:=Qhb ⟨f,es,d⟩
 unfold Lg.end_ at c1
 dsimp only at c1
 have hB:lgB ⟨f,es,d⟩=(decide (Lg.hd ⟨f,es,d⟩)&&(Jv es.length).all (lgC ⟨f,es,d⟩)):=rfl
 have hH:Lg.hd ⟨f,es,d⟩=(1<=f/\f<=1099511627776/\es.length<=4096/\f-1<=d/\d<=f+es.length-1):=rfl
 have hB':Lg.hd ⟨f,es,d⟩->lgB ⟨f,es,d⟩=(Jv es.length).all (lgC ⟨f,es,d⟩):=fun h=>by rw[hB,decide_eq_true h,Ks]
 have no:¬ Lg.hd ⟨f,es,d⟩->lgB ⟨f,es,d⟩=false:=fun h=>by rw[hB,decide_eq_false h]; rfl
 have hlc:∀ i,lgC ⟨f,es,d⟩ i=(decide ((es.getD i E0).lsn=f+i)&&(es.getD i E0).okB):=fun _=>rfl
 generalize lgB ⟨f,es,d⟩=b at *
 generalize lgC ⟨f,es,d⟩=lc at *
 (unfold Tryz.f67; refine rn trivial ?_)
 refine rn F ?_
 repeat' (first
  | with_reducible exact⟨⟩
  | (refine sG F ?_ ?_<;>intro hZ)
  | (refine sB F ?_ ?_<;>intro hZ)
  | refine vp F (c1 (by omega) (by omega)) ?_
  | (refine Qd (id:=1) [0,1,2,3,4,5,6,7,8,9,10,11,12,13,14,15,16,17,18,19,20,21,22,23,24,25] [⟨[],[],26,[0,1,2,3,4,5,6,7,8,9,10,11,12,13,14,15,16,17,18,19,20,21,23,24],[27,28]⟩] (by kernel_rfl) (by kernel_rfl) ?_; refine rn F ?_))
 all_goals first | (rw[no (by rw[hH]; omega)]) | skip
 refine Qj (fun s:Okay es.length lc=>⟨60,0,[(3,.int .i64 s.i),(1,.ptr 0 0)],[⟨26,true,Lg.c ⟨f,es,d⟩⟩]⟩) (fun s=>es.length-s.i) (Okay.start _ _) (gc [0]) ?_
 intro s
 have hsi:=s.hi
 have hg:=fun h:s.i<es.length=>Qmm es s.i h
 have c2:=QcQ (es.getD s.i E0)
 have e:=hlc s.i
 generalize (es.getD s.i E0).okB=ok at *
 have F:=@hg
 refine rn F ?_
 repeat' (first
  | with_reducible exact⟨⟩
  | (refine sG F ?_ ?_<;>intro hZ)
  | (refine sB F ?_ ?_<;>intro hZ)
  | refine vp F (c2) ?_
  | (refine Qd (id:=6) [0,1,2,3,4,5,6,7,8,9,10,11,12,13,14,15,16] [⟨[],[],17,[0,1,2,3,4,5,6,7,8,9,10,12,13,14,15],[18,19]⟩] (by kernel_rfl) (by kernel_rfl) ?_; refine rn F ?_))
 all_goals first
  | (exact congrArg DV.bool (s.no (by omega) (hB' (by rw[hH]; omega)) (by rw[e]; first | (rw[decide_eq_false (by omega)]; rfl) | simp_all)).symm)
  | (exact congrArg DV.bool (s.yes (by omega) (hB' (by rw[hH]; omega))).symm)
  | (exact⟨s.next (by omega) (by rw[e]; simp_all),s.dec (by omega),(gc [0])⟩)
  | skip
section
attribute [local go_sem] Ce.d Ch.d E.d Qhr QmP QmM Qlc Qk9 Qmo QdB
def QcB(l:List E)(hl:l.length<=1000000)(g:FuncId)(caps:List DV)(hc:DV.nums.go (fun _=>false) caps=true)(p:E->Bool)(hf:∀ x,VCalls prog g (.agg x.d::caps) [] (Ret (.bool (p x)))) :
 VCalls prog 54 [.pv (.sl (fz encE l)),.fn (.func g) [] caps] [] (Ret (.int .i64 (QgA l p))):=by
 refine dd Tryz.func54 ?_
 have hf':=hf
 unfold E.d at hf
 (unfold Tryz.f54; refine rn trivial ?_)
 refine Qso (fun i:Pass l (fun x=>p x=true)=>⟨19,0,[(8,.int .i64 i.i),(7,.int .i64 l.length),(0,.pv (.sl (fz encE l))),(1,.fn (.func g) [] caps)],[]⟩) (fun i=>l.length-i.i) (Pass.start l _) (by refine⟨rfl,rfl,by simp,?_,?_,.inl rfl⟩<;>(repeat' apply Ja)<;>first | rfl | trivial) ?_
 intro i
 have hi:=i.hi
 refine rn trivial ?_
 refine Qaw (fun hc1=>?_) (fun hc1=>?_)<;>simp only[decide_eq_true_eq,decide_eq_false_iff_not,Jf,Jb,Jo,Jm,Jg,Je,beq_iff_eq,beq_eq_false_iff_ne,bne_iff_ne,bne_eq_false_iff_eq,ne_eq] at hc1
 ·have hlt:i.i < l.length:=by omega
  have hg:=Qn4 l i.i hlt
  have hm:=hf (l.getD i.i E0)
  have hgd:=Qf l i.i hlt E0
  refine rn @hg ?_
  refine Qae hm (by simpa [DV.nums.go,DV.nums] using hc) ?_
  refine rn trivial ?_
  refine Qaw (fun hx=>?_) (fun hx=>?_)
  ·(refine rn trivial ?_; try with_reducible exact ⟨⟩)
   rw[QnX l p i.i hlt (by rw[<- hgd]; exact hx) i.no]
  ·(refine rn trivial ?_; try with_reducible exact ⟨⟩)
   exact⟨i.next hlt (by rw[<- hgd,hx]; simp),by show l.length-(i.i+1)<l.length-i.i; omega,(by refine⟨rfl,rfl,by simp,?_,?_,.inl rfl⟩<;>(repeat' apply Ja)<;>first | rfl | trivial)⟩
 ·(refine rn trivial ?_; try with_reducible exact ⟨⟩)
  have:=i.all (by omega)
  rw[QgA,if_neg (by simpa using this)]
def Qbx(l:List E)(hl:l.length<=1000000)(g:FuncId)(caps:List DV)(hc:DV.nums.go (fun _=>false) caps=true)(p:E->Bool)(hf:∀ x,VCalls prog g (.agg x.d::caps) [] (Ret (.bool (p x)))) :
 VCalls prog 59 [.pv (.sl (fz encE l)),.fn (.func g) [] caps] [] (Ret (.bool (l.any p))):=by
 refine dd Tryz.func59 ?_
 have hi:=QcB l hl g caps hc p hf
 (unfold Tryz.f59; refine rn trivial ?_)
 refine Qae hi (by simpa [DV.nums.go,DV.nums] using hc) ?_
 by_cases ha:l.any p=true
 ·rw [QgA,if_pos ha]
  (refine rn @ha ?_; try with_reducible exact⟨⟩)
 ·have ha':l.any p = false:=by simpa using ha
  rw[QgA,if_neg ha]
  (refine rn @ha' ?_; try with_reducible exact⟨⟩)
@[local go_sem] def Ch.inv (x:Ch):Ch:=⟨x.pg,x.sl,x.a,x.b⟩
def Qme(x:Ch):VCalls prog 56 [.agg x.d] [] (Ret (.agg x.inv.d)):=by
 refine dd Tryz.func56 ?_
 (unfold Tryz.f56; refine rn trivial ?_; try with_reducible exact⟨⟩)
@[local go_sem] def E.q (x:E):List PV:=[.lit (.int .i64 x.lsn),.lit (.int .i64 x.kind),.lit (.int .i64 x.tx),.lit (.int .i64 x.ptx),.lit (.int .i64 x.ppg),.lit (.int .i64 x.ref),.lit (.int .i64 x.c.pg),.lit (.int .i64 x.c.sl),.lit (.bool x.c.b.set),.str x.c.b.data,.lit (.bool x.c.a.set),.str x.c.a.data,.str x.blob]
def QgW(x:E)(e:E):VCalls prog 55 [.agg x.d,.ip e.q] [] (Ret (.bool (decide (x.lsn >= e.ref)))):=by
 refine dd Tryz.func55 ?_
 (unfold Tryz.f55; refine rn trivial ?_; try with_reducible exact⟨⟩)
def QgV(x:E)(e:E):VCalls prog 60 [.agg x.d,.ip e.q] [] (Ret (.bool (decide (x.c.pg=e.c.pg)&&decide (x.c.sl=e.c.sl)))):=by
 refine dd Tryz.func60 ?_
 (unfold Tryz.f60; refine rn trivial ?_)
 refine rn F ?_
 repeat' (first
  | with_reducible exact⟨⟩
  | (refine sG F ?_ ?_<;>intro hZ))
 all_goals exact congrArg DV.bool (J5 _ _)
def zE:List DV:=[.pv (.lit (.int .i64 0)),.pv (.lit (.int .i64 0)),.pv (.lit (.int .i64 0)),.pv (.lit (.int .i64 0)),.pv (.lit (.int .i64 0)),.pv (.lit (.int .i64 0)),.pv (.lit (.int .i64 0)),.pv (.lit (.int .i64 0)),.pv (.lit (.bool false)),.pv (.str []),.pv (.lit (.bool false)),.pv (.str []),.pv (.str [])]
def QCV(n:Int)(h0:0<=n)(h1:n<=100000):VCalls prog 82 [.pv (.slc []),.int .i64 n] [] (QhX noK [] 13 0 52 []):=by
 refine VCalls.newSl_cut (t:=mk zE n.toNat) (VCalls.newSl ?_)
 refine QgQ (fn:=Tryz.f82) Tryz.func82 rfl (by kernel_rfl) (by simp[Tryz.f82]) (fun c=>?_)
 have hn:¬ n<0:=by omega
 have hs:n-(0-((0:Nat):Int))=n:=by omega
 refine VWpG.first (Qa c) ?_
 (unfold Tryz.f82; refine rn trivial ?_)
 refine VWpG.seq ?_
 refine VWpG.first (Qa c) ?_
 refine rn @hn ?_
 refine VWpG.cond rfl (fun hZ=>?_) (fun hZ=>?_)
 ·simp at hZ
 refine VWpG.plain (Qa c) ?_
 refine rn trivial ?_
 refine VWpG.seq ?_
 refine VWpG.seq ?_
 refine VWpG.cut1 (Qa c) 2 [] ?_
 refine rn trivial ?_
 refine QP rfl (fun c=>by simp) (Qkh (Qa c) rfl (QmE (x:=.tmp 9) rfl Tryz.velem24 rfl) ?_)
 refine rn trivial ?_
 rw[hs]
 refine VWpG.first (Qa c) ?_
 refine rn trivial ?_
 refine VWpG.cond rfl (fun hZ=>?_) (fun hZ=>?_)
 ·have hn0:0 < n:=by simpa using hZ
  refine VWpG.cut1 (Qa c) 2 [0,1] ?_
  refine rn trivial ?_
  refine QP rfl (fun c=>by simp) (Qkh (Qa c) rfl (QmE (x:=.tmp 18) rfl Tryz.velem24 rfl) (QdE ?_))
  refine rn trivial ?_
  refine QP rfl (fun c=>by simp) (Qkh (Qa c) rfl (Qns (x:=.tmp 17) (y:=.tmp 19) rfl Tryz.velem24 rfl rfl) (QdE ?_))
  refine rn trivial ?_
  refine QP rfl (fun c=>by simp) (Qkh (Qa c) rfl (QmL (x:=.tmp 20) (y:=.tmp 21) (z:=zE) (l:=n) rfl Tryz.velem24 (by kernel_rfl) Tryz.bytes52 Tryz.vzero52 hn0 (by omega) (by decide) rfl rfl (by decide) (by omega) rfl rfl) ?_)
  refine rn trivial ?_
  refine VWpG.plain (Qa c) ?_
  refine rn trivial ?_
  exact⟨by simp,.inr ⟨_,.inl rfl,by simp,rfl,QuJ _ _ rfl _⟩⟩
 ·have hn0:n = 0:=by simp at hZ; omega
  subst hn0
  refine VWpG.plain (Qa c) ?_
  refine rn trivial ?_
  refine VWpG.plain (Qa c) ?_
  refine rn trivial ?_
  exact⟨by simp,.inl ⟨rfl,rfl,rfl⟩⟩
@[local go_sem] def l2 (a b:List E):List (List PV):=[[.sl (fz encE a)],[.sl (fz encE b)]]
structure C2(a b:List E) where
 i:Nat
 hi:i<=2
def C2.n{a b:List E}(s:C2 a b):Nat:=match s.i with | 0=>0 | 1=>a.length | _=>a.length+b.length
def C2.l{a b:List E}(s:C2 a b):List E:=match s.i with | 0=>[] | 1=>a | _=>a++b
theorem C2.n0(a b:List E)(h:0<=2):(⟨0,h⟩:C2 a b).n=0:=rfl
theorem C2.n1(a b:List E)(h:1<=2):(⟨1,h⟩:C2 a b).n=a.length:=rfl
theorem C2.n2(a b:List E)(h:2<=2):(⟨2,h⟩:C2 a b).n=a.length+b.length:=rfl
theorem C2.l0(a b:List E)(h:0<=2):(⟨0,h⟩:C2 a b).l=[]:=rfl
theorem C2.l1(a b:List E)(h:1<=2):(⟨1,h⟩:C2 a b).l=a:=rfl
theorem C2.l2(a b:List E)(h:2<=2):(⟨2,h⟩:C2 a b).l=a++b:=rfl
def QmB(a b:List E)(h:a.length+b.length<=100000):VCalls prog 58 [.pv (.sl (l2 a b))] [] (QhX noK [] 13 (a.length+b.length) 52 (cells encE (a++b))):=by
 refine VCalls.newSl ?_
 refine Qbf (fn:=Tryz.f58) Tryz.func58 rfl (by kernel_rfl) (by simp[Tryz.f58]) ?_
 (unfold Tryz.f58; refine rn trivial ?_)
 refine Qso (fun s:C2 a b=>⟨36,0,[(11,.int .i64 s.i),(10,.int .i64 2),(9,.pv (.sl (l2 a b))),(3,.int .i64 s.n),(0,.pv (.sl (l2 a b)))],[]⟩) (fun s=>2-s.i) ⟨0,by omega⟩ (by refine⟨rfl,rfl,by simp,?_,?_,.inl rfl⟩<;>(repeat' apply Ja)<;>first | rfl | trivial) ?_
 rintro⟨i,hi⟩
 have hh:i=0\/i=1\/i=2:=by omega
 have q0:((0:Nat):Int)+a.length=a.length:=by omega
 have q1:¬ ((a.length:Int)<0):=by omega
 have q2:¬ (((a.length+b.length:Nat):Int)<0):=by omega
 have q3:(a.length:Int)+b.length=((a.length+b.length:Nat):Int):=by omega
 rcases hh with rfl | rfl | rfl
 ·(refine rn (Ja (C2.n0 a b) (Ja @q0 @q1)) ?_; try with_reducible exact ⟨⟩)
  exact⟨⟨1,by omega⟩,by dsimp only; omega,(by refine⟨rfl,rfl,by simp,?_,?_,.inl rfl⟩<;>(repeat' apply Ja)<;>first | rfl | trivial)⟩
 ·(refine rn (Ja (C2.n1 a b) (Ja @q2 @q3)) ?_; try with_reducible exact ⟨⟩)
  exact⟨⟨2,by omega⟩,by dsimp only; omega,(by refine⟨rfl,rfl,by simp,?_,?_,.inl rfl⟩<;>(repeat' apply Ja)<;>first | rfl | trivial)⟩
 ·(refine rn ((C2.n2 a b)) ?_; try with_reducible exact ⟨⟩)
  refine QBf (QCV _ (by omega) (by omega)) rfl rfl ?_
  refine rn trivial ?_
  refine Qj (fun s:C2 a b=>⟨36,0,[(27,.int .i64 s.i),(26,.int .i64 2),(25,.pv (.sl (l2 a b))),(6,.own 0 13 0 s.n)],[⟨52,true,cells encE s.l⟩]⟩) (fun s=>2-s.i) ⟨0,by omega⟩ (gc [0]) ?_
  rintro⟨i,hi⟩
  have hh:i=0\/i=1\/i=2:=by omega
  have ha:=Qkb encE a
  have hb:=Qkb encE b
  have m1:a.length*128<=140737488355328:=by omega
  have m2:(a.length+b.length)*128<=140737488355328:=by omega
  rcases hh with rfl | rfl | rfl
  ·(refine rn (Ja (C2.l0 a b) (Ja (C2.n0 a b) (Ja @ha @m1))) ?_; try with_reducible exact ⟨⟩)
   exact⟨⟨1,by omega⟩,by dsimp only; omega,(gc [1])⟩
  ·(refine rn (Ja (C2.l1 a b) (Ja (C2.n1 a b) (Ja @hb @m2))) ?_; try with_reducible exact ⟨⟩)
   exact⟨⟨2,by omega⟩,by dsimp only; omega,(gc [1])⟩
  ·(refine rn (Ja (C2.l2 a b) ((C2.n2 a b))) ?_; try with_reducible exact ⟨⟩)
   exact⟨by simp,.inr ⟨0,.inl rfl,by simp,rfl,Qw _ _ _⟩⟩
end
section
attribute [local go_sem] Ce.d Ch.d E.d Qhr QmP QmM Qlc Qk9 Qmo QdB QrI QrH QrG E.q Ch.inv JF
def QdJ(U:List Int):List (Int×DV):=U.map fun x=>(x,.bool true)
def QoY(U:List Int)(x:Int):List Int:=if x∈U then U else U++[x]
def Qmk (U:List Int) (x:Int):(Qcc (QdJ U) x).getD (.bool false) = .bool (decide (x ∈ U)):=by
 induction U with
 | nil=>rfl
 | cons a r ih =>
   unfold QdJ at ih |-
   simp only[JT,Qcc]
   by_cases h:a=x
   ·subst h; simp
   ·rw[if_neg h,ih]; congr 1; simp[Ne.symm h]
def Qlz (U:List Int) (x:Int):Qen (QdJ U) x (.bool true) = QdJ (QoY U x):=by
 induction U with
 | nil=>rfl
 | cons a r ih =>
   unfold QdJ QoY at ih |-
   simp only[JT,Qen]
   by_cases h:a=x
   ·subst h; simp
   ·rw [if_neg h,ih]
    by_cases hr:x∈r
    ·simp[hr]
    ·simp[hr,Ne.symm h]
def Qat(e x:E):Bool:=decide (x.lsn >= e.ref)
def Qg6(e x:E):Bool:=decide (x.c.pg=e.c.pg)&&decide (x.c.sl=e.c.sl)
def Qrd(hp:Qb)(g:MapsD)(kc bt bp bu:Nat)(f:Int)(e:E)(U:List Int)(hk:kc<hp.length)(hc:Qc hp kc=some (ckC f bt bp bu))(hg:(bu,Qah kI (QdJ U))∈g)(kt:Nat)(la:Int)(ea ab en:Bool)(hkt:kt<hp.length)(ht:Qc hp kt=some (rnC la ea ab en (.pv (.slc [])))) :
 VCallsG prog 35 [.ptr kc 0,.ptr kt 0,.agg e.d] hp g (fun r h' g'=>∃ b,r=.bool b/\b=(decide (e.ref<f)&&!decide (e.ref∈U))/\(b=true->(∃ x,h'=hp++[x])/\g'=g.map fun p=>if p.1=bu then (bu,Qah kI (QdJ (QoY U e.ref))) else p)):=by
 refine Q5 (fn:=Tryz.f35) Tryz.func35 rfl (by kernel_rfl) (by simp[Tryz.f35]) (fun c=>?_)
 unfold ckC at hc
 unfold rnC at ht
 refine VWpG.first (Qa c) ?_
 (unfold Tryz.f35; refine rn trivial ?_)
 refine VWpG.seq ?_
 refine VWpG.drawn (k:=6) (f:=6) (Qa c) (by kernel_rfl) (by kernel_rfl) (by kernel_rfl) (by kernel_rfl) rfl ?_; refine Q9 (by kernel_rfl) ?_
 refine rn (Ja @hk @hc) ?_
 refine Qa9 (zv:=.bool false) (L:=QdJ U) (k:=e.ref) rfl rfl um3 Qik (Q7 z3) (QaZ rfl) rfl hg (Qab rfl) ?_
 rw[show(DV.pv (.lit (.bool false)))=.bool false from rfl,Qmk]
 refine rn trivial ?_
 refine VWpG.seq ?_
 refine VWpG.drawn (k:=6) (f:=6) (Qa c) (by kernel_rfl) (by kernel_rfl) (by kernel_rfl) (by kernel_rfl) rfl ?_; refine Q9 (by kernel_rfl) ?_
 refine rn (Ja @hk @hc) ?_
 refine QaO (L:=QdJ U) (k:=e.ref) rfl rfl um3 Qik rfl hg (Qab rfl) ?_
 refine rn trivial ?_
 rw[show(DV.pv (.lit (.bool true)))=.bool true from rfl,Qlz]
 have hi:=QcB [] (by decide) 55 [.ip e.q] rfl (Qat e) (fun x=>QgW x e)
 have hco:=Qbx [] (by decide) 60 [.ip e.q] rfl (Qg6 e) (fun x=>QgV x e)
 have hi':VCalls prog 54 [.pv (.slc []),.fn (.func 55) [] [.ip e.q]] [] (Ret (.int .i64 (-1))):=VCalls.wkA hi
 have hco':VCalls prog 59 [.pv (.sl []),.fn (.func 60) [] [.ip e.q]] [] (Ret (.bool false)):=hco
 refine VWpG.plain (Qa c) ?_
 have F:=(Ja @hk (Ja @hc (Ja @hkt @ht)))
 refine rn F ?_
 repeat' (first
  | with_reducible exact⟨⟩
  | (refine sG F ?_ ?_<;>intro hZ)
  | (refine sB F ?_ ?_<;>intro hZ)
  | refine vl F (hi') ?_
  | refine vl F (hco') ?_
  | (refine Qd (id:=7) [0,1,2,3,4,5,6] [] (by kernel_rfl) (by kernel_rfl) ?_; refine rn F ?_)
  | (refine Qd (id:=8) [0,1,2,3,4,5,6,7,8,9,10,11,12,13,14,15,16,18,19] [⟨[],[],17,[0,1,2,3,4,5,6,7,8,9,10,11,13,14,15,18,19],[20,21]⟩] (by kernel_rfl) (by kernel_rfl) ?_; refine rn F ?_))
 all_goals exact⟨_,rfl,rfl,fun _=>⟨_,rfl⟩⟩
def QgE(ho:off=i*13)(h:i+len<=l.length):QgF n hp off 13 len (some (cells encE l))=some (.sl (fz encE ((l.drop i).take len))):=by
 subst ho
 have h0:=Qro encE (n:=n) (hp:=hp) (len:=len) (l:=(l.drop i).take len) (m:=(l.drop i).drop len) (by simp; omega)
 rw[J6] at h0
 have e:(encE.sz)=13:=rfl
 rw[e] at h0
 have hd:(cells encE l).drop (i*13)=cells encE (l.drop i):=QfN encE l i
 simp only[QgF] at h0 |-
 rw[hd]
 rw[Kr,if_pos ⟨by rw[Qhr,Jy]; omega,by decide⟩] at h0
 rw[if_pos ⟨by rw[Qhr]; omega,by decide⟩]
 exact h0
def Qzh(l:List E):∀ d∈cells encE l,d.flat=true:=Qrp encE l fun a _ p hp=>by
 simp only[encE,JX,JS,or_false] at hp
 rcases hp with rfl | rfl | rfl | rfl | rfl | rfl | rfl | rfl | rfl | rfl | rfl | rfl | rfl<;>rfl
def atE(l:List E)(i:Nat)(h:i<l.length):((cells encE l).drop (i*13)).take 13=(l.getD i E0).d:=by rw[Qf l i h]; exact QzG encE l i h
def QHW(l:List E)(i:Nat)(h:i<l.length):(cells encE l)[i*13]?=some (.pv (.lit (.int .i64 (l.getD i E0).lsn))):=by
 have h2:=congrArg (fun x=>x[0]?) (atE l i h)
 simp only[JL,Kc,Ku] at h2
 rw[if_pos (by decide)] at h2
 exact h2
def QHV(l:List E)(i:Nat)(h:i<l.length):((cells encE l).drop (i*13+6)).take 6=(l.getD i E0).c.d:=by
 have h2:=congrArg (fun x=>(x.drop 6).take 6) (atE l i h)
 simp only[List.drop_take,J8,List.take_take] at h2
 exact h2
def Qze(hb:Qc hp k=some (cells encE l))(ho:off=i*13)(h:i+len<=l.length):QhA 0 hp (f+1) (.own k 13 off len)=some (.sl (fz encE ((l.drop i).take len))):=by
 subst ho
 have hd:(cells encE l).drop (i*13)=cells encE (l.drop i):=QfN encE l i
 have h1:=QdZ encE 0 hp f ((l.drop i).take len)
 have hr:rows 13 len (cells encE (l.drop i))=rows 13 len (cells encE ((l.drop i).take len)):=by
  conv=>lhs; rw[<- J6 len (l.drop i),QA]
  exact Qlq _ _ _ _ (by rw[Qhr,Jj,Jy,Nat.min_eq_left (by omega)]; exact Ko _)
 have hl:((l.drop i).take len).length=len:=by simp; omega
 rw[hl] at h1
 simp only[QhA,hb,JF,if_false]
 rw[if_pos ⟨by rw[Qhr]; omega,by decide⟩,hd,hr]
 exact congrArg (Option.map PV.sl) h1
def Qvi(hb:Qc hp k=some [d1,d2])(h1:QhA 0 hp 3 d1=some p1)(h2:QhA 0 hp 3 d2=some p2):QmX hp (.own k 1 0 2)=some (.pv (.sl [[p1],[p2]])):=by
 rw[Qmp,Qc4,if_neg (JF _),Qpv,if_neg (JF _),hb]
 simp[QgF,rows,h1,h2,Qi]
def Qqc(P:List E)(j:Nat):List E:=P.take j++P.drop (j+1)
def eqC(x y:Ch):Bool:=x.pg==y.pg&&(x.sl==y.sl&&(x.b.set==y.b.set&&(x.b.data==y.b.data&&(x.a.set==y.a.set&&x.a.data==y.a.data))))
end
section
attribute [local go_sem] Ce.d Ch.d E.d Qhr QmP QmM Qlc Qk9 Qmo QdB QrI QrH QrG E.q Ch.inv JF QV Qao
def Qrc(hp:Qb)(g:MapsD)(kc bt bp bu:Nat)(f:Int)(e:E)(U:List Int)(hk:kc<hp.length)(hc:Qc hp kc=some (ckC f bt bp bu))(hg:(bu,Qah kI (QdJ U))∈g)(kt kp:Nat)(la:Int)(ea ab en:Bool)(P:List E)(hPl:P.length<=10000)
 (hkt:kt<hp.length) (ht:Qc hp kt=some (rnC la ea ab en (.own kp 13 0 P.length))) (hkp:kp<hp.length) (hpb:hp[kp]?=some ⟨52,true,cells encE P⟩) (hne:kt≠kp)
 (ha:P.any (Qat e)=true) (hfe:¬ f<=e.ref) :
 VCallsG prog 35 [.ptr kc 0,.ptr kt 0,.agg e.d] hp g (fun r h' g'=>∃ b,r=.bool b/\b=(!decide (e.ref∈U)&&!(P.drop (P.findIdx (Qat e))).any (Qg6 e))/\(b=true->(∃ x,h'=hp++[x])/\g'=g.map fun p=>if p.1=bu then (bu,Qah kI (QdJ (QoY U e.ref))) else p)):=by
 refine Q5 (fn:=Tryz.f35) Tryz.func35 rfl (by kernel_rfl) (by simp[Tryz.f35]) (fun c=>?_)
 have hpc:Qc hp kp=some (cells encE P):=QbG hpb
 unfold ckC at hc
 unfold rnC at ht
 refine VWpG.first (Qa c) ?_
 (unfold Tryz.f35; refine rn trivial ?_)
 refine VWpG.seq ?_
 refine VWpG.drawn (k:=6) (f:=6) (Qa c) (by kernel_rfl) (by kernel_rfl) (by kernel_rfl) (by kernel_rfl) rfl ?_; refine Q9 (by kernel_rfl) ?_
 refine rn (Ja @hk @hc) ?_
 refine Qa9 (zv:=.bool false) (L:=QdJ U) (k:=e.ref) rfl rfl um3 Qik (Q7 z3) (QaZ rfl) rfl hg (Qab rfl) ?_
 rw[show(DV.pv (.lit (.bool false)))=.bool false from rfl,Qmk]
 refine rn trivial ?_
 refine VWpG.seq ?_
 refine VWpG.drawn (k:=6) (f:=6) (Qa c) (by kernel_rfl) (by kernel_rfl) (by kernel_rfl) (by kernel_rfl) rfl ?_; refine Q9 (by kernel_rfl) ?_
 refine rn (Ja @hk @hc) ?_
 refine QaO (L:=QdJ U) (k:=e.ref) rfl rfl um3 Qik rfl hg (Qab rfl) ?_
 refine rn trivial ?_
 rw[show(DV.pv (.lit (.bool true)))=.bool true from rfl,Qlz]
 have hj:P.findIdx (Qat e)<P.length:=Ju (by simpa using ha)
 have hi:=QcB P (by omega) 55 [.ip e.q] rfl (Qat e) (fun x=>QgW x e)
 rw[QgA,if_pos ha] at hi
 generalize P.findIdx (Qat e)=j at *
 have hco:=Qbx (P.drop j) (by simp; omega) 60 [.ip e.q] rfl (Qg6 e) (fun x=>QgV x e)
 have hfr:∀ hp',QgF 0 hp' (j*13) 13 (P.length-j) (some (cells encE P))=some (.sl (fz encE (P.drop j))):=fun hp'=>by
  rw[QgE (i:=j) (len:=P.length-j) rfl (by omega),Ji (by simp)]
 have hj0:¬ ((j:Int)<0):=by omega
 refine VWpG.plain (Qa c) ?_
 have F:=(Ja @hk (Ja @hc (Ja @hkt (Ja @ht (Ja @hkp (Ja @hpc (Ja @hpb (Ja @hj (Ja @hj0 (Ja @hfr @hfe))))))))))
 refine rn F ?_
 repeat' (first
  | with_reducible exact⟨⟩
  | (refine sG F ?_ ?_<;>intro hZ)
  | refine vl F (hi) ?_
  | refine vl F (hco) ?_
  | (refine Qd (id:=7) [0,1,2,3,4,5,6] [] (by kernel_rfl) (by kernel_rfl) ?_; refine rn F ?_))
 all_goals exact⟨_,rfl,rfl,fun _=>⟨_,rfl⟩⟩
def Qra(hp:Qb)(g:MapsD)(kc bt bp bu:Nat)(f:Int)(e:E)(U:List Int)(hk:kc<hp.length)(hc:Qc hp kc=some (ckC f bt bp bu))(hg:(bu,Qah kI (QdJ U))∈g)(kt kp:Nat)(la:Int)(ea ab en:Bool)(P:List E)(hPl:P.length<=10000)
 (hkt:kt<hp.length) (ht:Qc hp kt=some (rnC la ea ab en (.own kp 13 0 P.length))) (hkp:kp<hp.length) (hpb:hp[kp]?=some ⟨52,true,cells encE P⟩) (hne:kt≠kp)
 (ha:P.any (Qat e)=false) :
 VCallsG prog 35 [.ptr kc 0,.ptr kt 0,.agg e.d] hp g (fun r h' g'=>∃ b,r=.bool b/\b=(decide (e.ref<f)&&!decide (e.ref∈U))/\(b=true->(∃ x,h'=hp++[x])/\g'=g.map fun p=>if p.1=bu then (bu,Qah kI (QdJ (QoY U e.ref))) else p)):=by
 refine Q5 (fn:=Tryz.f35) Tryz.func35 rfl (by kernel_rfl) (by simp[Tryz.f35]) (fun c=>?_)
 have hpc:Qc hp kp=some (cells encE P):=QbG hpb
 unfold ckC at hc
 unfold rnC at ht
 refine VWpG.first (Qa c) ?_
 (unfold Tryz.f35; refine rn trivial ?_)
 refine VWpG.seq ?_
 refine VWpG.drawn (k:=6) (f:=6) (Qa c) (by kernel_rfl) (by kernel_rfl) (by kernel_rfl) (by kernel_rfl) rfl ?_; refine Q9 (by kernel_rfl) ?_
 refine rn (Ja @hk @hc) ?_
 refine Qa9 (zv:=.bool false) (L:=QdJ U) (k:=e.ref) rfl rfl um3 Qik (Q7 z3) (QaZ rfl) rfl hg (Qab rfl) ?_
 rw[show(DV.pv (.lit (.bool false)))=.bool false from rfl,Qmk]
 refine rn trivial ?_
 refine VWpG.seq ?_
 refine VWpG.drawn (k:=6) (f:=6) (Qa c) (by kernel_rfl) (by kernel_rfl) (by kernel_rfl) (by kernel_rfl) rfl ?_; refine Q9 (by kernel_rfl) ?_
 refine rn (Ja @hk @hc) ?_
 refine QaO (L:=QdJ U) (k:=e.ref) rfl rfl um3 Qik rfl hg (Qab rfl) ?_
 refine rn trivial ?_
 rw[show(DV.pv (.lit (.bool true)))=.bool true from rfl,Qlz]
 have hi:=QcB P (by omega) 55 [.ip e.q] rfl (Qat e) (fun x=>QgW x e)
 rw[QgA,if_neg (by rw[ha]; simp)] at hi
 have hco:VCalls prog 59 [.pv (.sl []),.fn (.func 60) [] [.ip e.q]] [] (Ret (.bool false)):=Qbx [] (by decide) 60 [.ip e.q] rfl (Qg6 e) (fun x=>QgV x e)
 refine VWpG.plain (Qa c) ?_
 have F:=(Ja @hk (Ja @hc (Ja @hkt (Ja @ht (Ja @hkp (Ja @hpc @hpb))))))
 refine rn F ?_
 repeat' (first
  | with_reducible exact⟨⟩
  | (refine sG F ?_ ?_<;>intro hZ)
  | (refine sB F ?_ ?_<;>intro hZ)
  | refine vl F (hi) ?_
  | refine vl F (hco) ?_
  | (refine Qd (id:=7) [0,1,2,3,4,5,6] [] (by kernel_rfl) (by kernel_rfl) ?_; refine rn F ?_)
  | (refine Qd (id:=8) [0,1,2,3,4,5,6,7,8,9,10,11,12,13,14,15,16,18,19] [⟨[],[],17,[0,1,2,3,4,5,6,7,8,9,10,11,13,14,15,18,19],[20,21]⟩] (by kernel_rfl) (by kernel_rfl) ?_; refine rn F ?_))
 all_goals exact⟨_,rfl,rfl,fun _=>⟨_,rfl⟩⟩
def Qrb(hp:Qb)(g:MapsD)(kc bt bp bu:Nat)(f:Int)(e:E)(U:List Int)(hk:kc<hp.length)(hc:Qc hp kc=some (ckC f bt bp bu))(hg:(bu,Qah kI (QdJ U))∈g)(kt kp:Nat)(la:Int)(ea ab en:Bool)(P:List E)(hPl:P.length<=10000)
 (hkt:kt<hp.length) (ht:Qc hp kt=some (rnC la ea ab en (.own kp 13 0 P.length))) (hkp:kp<hp.length) (hpb:hp[kp]?=some ⟨52,true,cells encE P⟩) (hne:kt≠kp)
 (ha:P.any (Qat e)=true) (hfe:f<=e.ref) (hj1:P.findIdx (Qat e)+1<P.length) :
 VCallsG prog 35 [.ptr kc 0,.ptr kt 0,.agg e.d] hp g (fun r h' g'=>∃ b,r=.bool b/\b=(decide ((P.getD (P.findIdx (Qat e)) E0).lsn=e.ref)&&(eqC (P.getD (P.findIdx (Qat e)) E0).c.inv e.c&&(!decide (e.ref∈U)&&!(P.drop (P.findIdx (Qat e)+1)).any (Qg6 e))))/\(b=true->(∃ x y z,h'=Ql hp kt (rnC la ea ab en (.own (hp.length+3) 13 0 (P.length-1)))++[x,y,z,⟨52,true,cells encE (Qqc P (P.findIdx (Qat e)))⟩])/\g'=g.map fun p=>if p.1=bu then (bu,Qah kI (QdJ (QoY U e.ref))) else p)):=by
 refine Q5 (fn:=Tryz.f35) Tryz.func35 rfl (by kernel_rfl) (by simp[Tryz.f35]) (fun c=>?_)
 have hpc:Qc hp kp=some (cells encE P):=QbG hpb
 unfold ckC at hc
 unfold rnC at ht
 refine VWpG.first (Qa c) ?_
 (unfold Tryz.f35; refine rn trivial ?_)
 refine VWpG.seq ?_
 refine VWpG.drawn (k:=6) (f:=6) (Qa c) (by kernel_rfl) (by kernel_rfl) (by kernel_rfl) (by kernel_rfl) rfl ?_; refine Q9 (by kernel_rfl) ?_
 refine rn (Ja @hk @hc) ?_
 refine Qa9 (zv:=.bool false) (L:=QdJ U) (k:=e.ref) rfl rfl um3 Qik (Q7 z3) (QaZ rfl) rfl hg (Qab rfl) ?_
 rw[show(DV.pv (.lit (.bool false)))=.bool false from rfl,Qmk]
 refine rn trivial ?_
 refine VWpG.seq ?_
 refine VWpG.drawn (k:=6) (f:=6) (Qa c) (by kernel_rfl) (by kernel_rfl) (by kernel_rfl) (by kernel_rfl) rfl ?_; refine Q9 (by kernel_rfl) ?_
 refine rn (Ja @hk @hc) ?_
 refine QaO (L:=QdJ U) (k:=e.ref) rfl rfl um3 Qik rfl hg (Qab rfl) ?_
 refine rn trivial ?_
 rw[show(DV.pv (.lit (.bool true)))=.bool true from rfl,Qlz]
 have hj:P.findIdx (Qat e)<P.length:=Ju (by simpa using ha)
 have hi:=QcB P (by omega) 55 [.ip e.q] rfl (Qat e) (fun x=>QgW x e)
 rw[QgA,if_pos ha] at hi
 generalize P.findIdx (Qat e)=j at *
 have hco:=Qbx (P.drop (j+1)) (by simp; omega) 60 [.ip e.q] rfl (Qg6 e) (fun x=>QgV x e)
 have hcl:=QpI (P.drop (j+1)) (by simp; omega)
 have hcc:=QmB (P.take j) (P.drop (j+1)) (by simp; omega)
 have hl1:(P.drop (j+1)).length=P.length-j-1:=by simp; omega
 have hl2:(P.take j).length+(P.drop (j+1)).length=P.length-1:=by simp; omega
 rw[hl1] at hcl
 rw[hl2] at hcc
 have hfr:∀ hp',QgF 0 hp' (j*13+13) 13 (P.length-j-1) (some (cells encE P))=some (.sl (fz encE (P.drop (j+1)))):=fun hp'=>by
  rw[QgE (i:=j+1) (len:=P.length-j-1) (by omega) (by omega),Ji (by simp; omega)]
 have hft:∀ hp',QgF 0 hp' 0 13 j (some (cells encE P))=some (.sl (fz encE (P.take j))):=fun hp'=>by
  rw[QgE (i:=0) (len:=j) rfl (by omega)]; simp
 have hj0:¬ ((j:Int)<0):=by omega
 have hA0:=QHW P j hj
 have hA6:=QHV P j hj
 have hlen:j*13+6+6<=P.length*13:=by omega
 have hlen0:¬ ((P.length-j:Nat):Int)=0:=by omega
 generalize P.getD j E0=x at *
 unfold Ch.d at hA6
 refine VWpG.plain (Qa c) ?_
 have F:=(Ja @hk (Ja @hc (Ja @hkt (Ja @ht (Ja @hkp (Ja @hpc (Ja @hpb (Ja @hj (Ja @hj0 (Ja @hfr (Ja @hft (Ja @hfe (Ja @hA0 (Ja @hA6 (Ja @hj1 (Ja @hlen (Ja @hl1 (Ja @hl2 (Ja @hlen0 @hne)))))))))))))))))))
 refine rn F ?_
 repeat' (first
  | with_reducible exact⟨⟩
  | (refine sG F ?_ ?_<;>intro hZ)
  | (refine sB F ?_ ?_<;>intro hZ)
  | refine vl F (hi) ?_
  | (refine Qgm (hcl) ?_ (Qzh _) ?_; (focus (refine rd F)); refine rn F ?_)
  | refine vp F (Qme x.c) ?_
  | (refine Qd (id:=7) [0,1,2,3,4,5,6] [] (by kernel_rfl) (by kernel_rfl) ?_; refine rn F ?_)
  | (refine Qd (id:=8) [0,1,2,3,4,5,6,7,8,9,10,11,12,13,14,15,16,18,19] [⟨[],[],17,[0,1,2,3,4,5,6,7,8,9,10,11,13,14,15,18,19],[20,21]⟩] (by kernel_rfl) (by kernel_rfl) ?_; refine rn F ?_))
 ·refine ⟨_,rfl,?_,fun h=>by cases h⟩
  rw[show eqC { pg:=x.c.pg,sl:=x.c.sl,b:=x.c.a,a:=x.c.b } e.c=false from ?_]
  ·rfl
  ·unfold eqC; rw[Jw]; intro h; simp at h; exact hZ h.1 h.2.1 h.2.2.1 h.2.2.2.1 h.2.2.2.2.1 h.2.2.2.2.2
 ·rw [show eqC { pg:=x.c.pg,sl:=x.c.sl,b:=x.c.a,a:=x.c.b } e.c = true from by unfold eqC; simp; exact hZ]
  have hjt:P.length-1=(P.take j).length+(P.drop (j+1)).length:=hl2.symm
  refine Qgm hcc (congrArg (fun o=>Qi [o]) (Qvi (d1:=.own kp 13 0 j) (d2:=.own (hp.length+1) 13 0 (P.length-j-1)) (p1:=.sl (fz encE (P.take j))) (p2:=.sl (fz encE (P.drop (j+1)))) ?_ ?_ ?_)) (Qzh _) ?_
  ·(refine rn (Ja @hk @hkp) ?_; try with_reducible exact⟨⟩)
  ·refine (Qze (i:=0) (l:=P) ?_ rfl (by omega)).trans (by simp)
   (refine rn (Ja @hkp @hpc) ?_; try with_reducible exact⟨⟩)
  ·refine (Qze (i:=0) (l:=P.drop (j + 1)) ?_ rfl (by simp; omega)).trans (by rw [<- hl1,Kr,JD])
   (refine rn (Ja @hkp @hpc) ?_; try with_reducible exact⟨⟩)
  refine rn (Ja @hk (Ja @hc (Ja @hkt (Ja @ht (Ja @hkp (Ja @hpc (Ja @hpb @hne))))))) ?_
  obtain⟨hp2,hS⟩:∃ h,h=Ql hp kt (rnC la ea ab en (.own (hp.length+1+1+1) 13 0 (P.length-1))):=⟨_,rfl⟩
  have hS0:=hS
  unfold rnC at hS
  rw[<- hS]
  have hlp:hp2.length=hp.length:=by rw[hS,Qv]
  have F:=(Ja @hk (Ja @hlp @hl1))
  refine rn F ?_
  repeat' (first
   | with_reducible exact⟨⟩
   | (refine sG F ?_ ?_<;>intro hZ)
   | refine vl F (hco) ?_)
  ·exact⟨_,rfl,rfl,fun _=>⟨_,_,_,by rw[hS0]; simp only[JC,Ki,Kp]; rfl⟩⟩
  ·exact⟨_,rfl,rfl,fun h=>by cases h⟩
 ·exact⟨_,rfl,rfl,fun h=>by cases h⟩
def Qq9(hp:Qb)(g:MapsD)(kc bt bp bu:Nat)(f:Int)(e:E)(U:List Int)(hk:kc<hp.length)(hc:Qc hp kc=some (ckC f bt bp bu))(hg:(bu,Qah kI (QdJ U))∈g)(kt kp:Nat)(la:Int)(ea ab en:Bool)(P:List E)(hPl:P.length<=10000)
 (hkt:kt<hp.length) (ht:Qc hp kt=some (rnC la ea ab en (.own kp 13 0 P.length))) (hkp:kp<hp.length) (hpb:hp[kp]?=some ⟨52,true,cells encE P⟩) (hne:kt≠kp)
 (ha:P.any (Qat e)=true) (hfe:f<=e.ref) (hj1:P.findIdx (Qat e)+1=P.length) :
 VCallsG prog 35 [.ptr kc 0,.ptr kt 0,.agg e.d] hp g (fun r h' g'=>∃ b,r=.bool b/\b=(decide ((P.getD (P.findIdx (Qat e)) E0).lsn=e.ref)&&(eqC (P.getD (P.findIdx (Qat e)) E0).c.inv e.c&&(!decide (e.ref∈U)&&!(P.drop (P.findIdx (Qat e)+1)).any (Qg6 e))))/\(b=true->(∃ x y z,h'=Ql hp kt (rnC la ea ab en (.own (hp.length+3) 13 0 (P.length-1)))++[x,y,z,⟨52,true,cells encE (Qqc P (P.findIdx (Qat e)))⟩])/\g'=g.map fun p=>if p.1=bu then (bu,Qah kI (QdJ (QoY U e.ref))) else p)):=by
 refine Q5 (fn:=Tryz.f35) Tryz.func35 rfl (by kernel_rfl) (by simp[Tryz.f35]) (fun c=>?_)
 have hpc:Qc hp kp=some (cells encE P):=QbG hpb
 unfold ckC at hc
 unfold rnC at ht
 refine VWpG.first (Qa c) ?_
 (unfold Tryz.f35; refine rn trivial ?_)
 refine VWpG.seq ?_
 refine VWpG.drawn (k:=6) (f:=6) (Qa c) (by kernel_rfl) (by kernel_rfl) (by kernel_rfl) (by kernel_rfl) rfl ?_; refine Q9 (by kernel_rfl) ?_
 refine rn (Ja @hk @hc) ?_
 refine Qa9 (zv:=.bool false) (L:=QdJ U) (k:=e.ref) rfl rfl um3 Qik (Q7 z3) (QaZ rfl) rfl hg (Qab rfl) ?_
 rw[show(DV.pv (.lit (.bool false)))=.bool false from rfl,Qmk]
 refine rn trivial ?_
 refine VWpG.seq ?_
 refine VWpG.drawn (k:=6) (f:=6) (Qa c) (by kernel_rfl) (by kernel_rfl) (by kernel_rfl) (by kernel_rfl) rfl ?_; refine Q9 (by kernel_rfl) ?_
 refine rn (Ja @hk @hc) ?_
 refine QaO (L:=QdJ U) (k:=e.ref) rfl rfl um3 Qik rfl hg (Qab rfl) ?_
 refine rn trivial ?_
 rw[show(DV.pv (.lit (.bool true)))=.bool true from rfl,Qlz]
 have hj:P.findIdx (Qat e)<P.length:=Ju (by simpa using ha)
 have hi:=QcB P (by omega) 55 [.ip e.q] rfl (Qat e) (fun x=>QgW x e)
 rw[QgA,if_pos ha] at hi
 generalize P.findIdx (Qat e)=j at *
 have hd0:P.drop (j+1)=[]:=List.drop_of_length_le (by omega)
 rw[hd0]
 have hco:VCalls prog 59 [.pv (.sl (fz encE [])),.fn (.func 60) [] [.ip e.q]] [] (Ret (.bool false)):=Qbx [] (by decide) 60 [.ip e.q] rfl (Qg6 e) (fun x=>QgV x e)
 have hcl:VCalls prog 57 [.pv (.sl [])] [] (QhX noK [] 13 0 52 (cells encE [])):=QpI [] (by decide)
 have hcc:=QmB (P.take j) [] (by simp; omega)
 have hl2:(P.take j).length+([]:List E).length=P.length-1:=by simp; omega
 rw[hl2] at hcc
 have hnj:P.length-j=1:=by omega
 have hun:Qqc P j=P.take j++[]:=by unfold Qqc; rw[hd0]
 rw[hun]
 have hft:∀ hp',QgF 0 hp' 0 13 j (some (cells encE P))=some (.sl (fz encE (P.take j))):=fun hp'=>by
  rw[QgE (i:=0) (len:=j) rfl (by omega)]; simp
 have hj0:¬ ((j:Int)<0):=by omega
 have hA0:=QHW P j hj
 have hA6:=QHV P j hj
 have hlen:j*13+6+6<=P.length*13:=by omega
 have hlen0:¬ ((P.length-j:Nat):Int)=0:=by omega
 generalize P.getD j E0=x at *
 unfold Ch.d at hA6
 refine VWpG.plain (Qa c) ?_
 have F:=(Ja @hk (Ja @hc (Ja @hkt (Ja @ht (Ja @hkp (Ja @hpc (Ja @hpb (Ja @hj (Ja @hj0 (Ja @hft (Ja @hfe (Ja @hA0 (Ja @hA6 (Ja @hlen (Ja @hnj @hne)))))))))))))))
 refine rn F ?_
 repeat' (first
  | with_reducible exact⟨⟩
  | (refine sG F ?_ ?_<;>intro hZ)
  | (refine sB F ?_ ?_<;>intro hZ)
  | refine vl F (hi) ?_
  | (refine Qgm (hcl) ?_ (Qzh _) ?_; (focus (refine rd F)); refine rn F ?_)
  | refine vp F (Qme x.c) ?_
  | (refine Qd (id:=7) [0,1,2,3,4,5,6] [] (by kernel_rfl) (by kernel_rfl) ?_; refine rn F ?_)
  | (refine Qd (id:=8) [0,1,2,3,4,5,6,7,8,9,10,11,12,13,14,15,16,18,19] [⟨[],[],17,[0,1,2,3,4,5,6,7,8,9,10,11,13,14,15,18,19],[20,21]⟩] (by kernel_rfl) (by kernel_rfl) ?_; refine rn F ?_))
 ·refine ⟨_,rfl,?_,fun h=>by cases h⟩
  rw[show eqC { pg:=x.c.pg,sl:=x.c.sl,b:=x.c.a,a:=x.c.b } e.c=false from ?_]
  ·rfl
  ·unfold eqC; rw[Jw]; intro h; simp at h; exact hZ h.1 h.2.1 h.2.2.1 h.2.2.2.1 h.2.2.2.2.1 h.2.2.2.2.2
 ·rw [show eqC { pg:=x.c.pg,sl:=x.c.sl,b:=x.c.a,a:=x.c.b } e.c = true from by unfold eqC; simp; exact hZ]
  refine Qgm hcc (congrArg (fun o=>Qi [o]) (Qvi (d1:=.own kp 13 0 j) (d2:=.own (hp.length+1) 13 0 0) (p1:=.sl (fz encE (P.take j))) (p2:=.sl (fz encE [])) ?_ ?_ ?_)) (Qzh _) ?_
  ·(refine rn (Ja @hk @hkp) ?_; try with_reducible exact⟨⟩)
  ·refine (Qze (i:=0) (l:=P) ?_ rfl (by omega)).trans (by simp)
   (refine rn (Ja @hkp @hpc) ?_; try with_reducible exact⟨⟩)
  ·refine (Qze (i:=0) (l:=[]) ?_ rfl (by simp)).trans (by simp)
   (refine rn (Ja @hkp @hpc) ?_; try with_reducible exact⟨⟩)
  refine rn (Ja @hk (Ja @hc (Ja @hkt (Ja @ht (Ja @hkp (Ja @hpc (Ja @hpb @hne))))))) ?_
  obtain⟨hp2,hS⟩:∃ h,h=Ql hp kt (rnC la ea ab en (.own (hp.length+1+1+1) 13 0 (P.length-1))):=⟨_,rfl⟩
  have hS0:=hS
  unfold rnC at hS
  rw[<- hS]
  have hlp:hp2.length=hp.length:=by rw[hS,Qv]
  have F:=(Ja @hk @hlp)
  refine rn F ?_
  repeat' (first
   | with_reducible exact⟨⟩
   | (refine sG F ?_ ?_<;>intro hZ)
   | refine vl F (hco) ?_)
  ·exact⟨_,rfl,rfl,fun _=>⟨_,_,_,by rw[hS0]; simp only[JC,Ki,Kp]; rfl⟩⟩
  ·exact⟨_,rfl,rfl,fun h=>by cases h⟩
 ·exact⟨_,rfl,rfl,fun h=>by cases h⟩
end
end Go.Proofs.YtomgpphpkcoolaaGreat
