/-
  Contracts of functions and plain laws. No condition.
-/
import Derived.Test.YtalibkpienbliaaGreatProg
import Derived.Test.YtalibkpienbliaaGreatV4
import Derived.KernelRfl
set_option linter.unusedSimpArgs false
set_option linter.unusedVariables false
set_option linter.defProp false
set_option maxRecDepth 100000
set_option maxHeartbeats 8000000
set_option autoImplicit true
set_option relaxedAutoImplicit true
open And renaming intro->Ja
open Bool renaming and_eq_true->Jc,or_eq_true->Jf,not_eq_false'->Ji,not_eq_true'->Jj,false_eq_true->Jo,eq_iff_iff->Jp,true_eq_false->Jq,and_eq_false_imp->Js,or_eq_false_iff->Jw,eq_false_iff->JF,and_false->JN,not_eq_eq_eq_not->JY,beq_eq_decide_eq->JZ,not_false->Ki,not_true->Km,and_assoc->Ky
open Int renaming reduceBEq->Jh,reduceAdd->Jv,toNat_natCast->Jz,reduceLT->JE,reduceNeg->JT,natCast_pow->Kb,natCast_mul->Ks,reduceToNat->Ku,lt_trans->KC
open List renaming length_append->Jb,length_nil->Jd,length_cons->Je,take_succ_eq_append_getElem->Jk,take_of_length_le->Jl,length_take->Jm,getD_eq_getElem?_getD->Jn,pairwise_iff_getElem->Jr,range->Jt,length_drop->Jx,mem_iff_getElem->Jy,getElem?_eq_getElem->JB,mem_append->JG,take_length->JH,all_eq_true->JK,mem_range->JL,mem_singleton->JM,length->JO,append_nil->JQ,filter_append->JS,findIdx_lt_length_of_exists->JU,find?_eq_some_iff_getElem->JV,length_filter_le->JW,any_eq_true->J1,getElem_mem->J2,mem_filter->J4,find?_eq_none->J5,mem_take_iff_getElem->J7,mem_of_find?_eq_some->J8,append_assoc->J9,getElem_cons_zero->Ka,find?_some->Kc,singleton_append->Kd,findIdx_getElem->Ke,mem_of_mem_take->Kf,mem_of_mem_drop->Kg,pairwise_append->Kh,takeWhile_cons->Kj,filter_sublist->Kk,getElem?_take->Kl,getElem_map->Kq,foldl_cons->Kt,length_set->Kv,filter_nil->Kw,drop_drop->Kz
open Nat renaming reduceBEq->Jg,reduceAdd->Ju,zero_le->JA,mul_le_mul_right->JC,reduceLT->JD,pow_le_pow_right->JI,le_refl->JJ,lt_or_ge->JP,lt_of_lt_of_le->JR,le_trans->JX,reduceLeDiff->J0,two_pow_add_eq_or_of_lt->J3,add_sub_cancel->J6,lt_trichotomy->Ko,zero_add->Kp,two_pow_pos->Kr,mul_le_mul->Kx,mod_lt->KA,mul_comm->KB,or_comm->KD,mul_add->KE,pow_add->KF
namespace Go.Proofs.YtalibkpienbliaaGreat
open Go.V Go
open Tryz (prog)
def F:True:=trivial
end Go.Proofs.YtalibkpienbliaaGreat
namespace Go.Proofs
open Go.V
theorem Tryz.velem24:QL prog 24=some (none,58,13):=vw
theorem Tryz.vplaces26:Qy prog 26=some fun j=>([(0,1),(1,1),(2,1)]:List (Nat×Nat))[j]?:=vw
theorem Tryz.vplaces29:Qy prog 29=some fun j=>([(0,1),(1,1),(2,1)]:List (Nat×Nat))[j]?:=vw
theorem Tryz.vplaces32:Qy prog 32=some fun j=>([(0,1),(1,1)]:List (Nat×Nat))[j]?:=vw
theorem Tryz.vplaces36:Qy prog 36=some fun j=>([(0,1)]:List (Nat×Nat))[j]?:=vw
theorem Tryz.vplaces39:Qy prog 39=some fun j=>([(0,1),(1,1),(2,3),(5,3),(8,2),(10,1),(11,1),(12,1)]:List (Nat×Nat))[j]?:=vw
theorem Tryz.vplaces52:Qy prog 52=some fun j=>([(0,1),(1,1)]:List (Nat×Nat))[j]?:=vw
theorem Tryz.vplaces56:Qy prog 56=some fun j=>([(0,1),(1,1),(2,2),(4,2)]:List (Nat×Nat))[j]?:=vw
theorem Tryz.vplaces58:Qy prog 58=some fun j=>([(0,1),(1,1),(2,1),(3,1),(4,1),(5,1),(6,6),(12,1)]:List (Nat×Nat))[j]?:=vw
theorem Tryz.vzero58:QO prog 58=some [.pv (.lit (.int .i64 0)),.pv (.lit (.int .i64 0)),.pv (.lit (.int .i64 0)),.pv (.lit (.int .i64 0)),.pv (.lit (.int .i64 0)),.pv (.lit (.int .i64 0)),.pv (.lit (.int .i64 0)),.pv (.lit (.int .i64 0)),.pv (.lit (.bool false)),.pv (.str []),.pv (.lit (.bool false)),.pv (.str []),.pv (.str [])]:=vw
theorem Tryz.bytes58:bI prog 58=some 128:=vw
theorem Tryz.vplaces64:Qy prog 64=some fun j=>([(0,1),(1,1),(2,1),(3,1),(4,1),(5,1)]:List (Nat×Nat))[j]?:=vw
theorem Tryz.vplaces71:Qy prog 71=some fun j=>([(0,1),(1,1)]:List (Nat×Nat))[j]?:=vw
theorem Tryz.vplaces75:Qy prog 75=some fun j=>([(0,1),(1,1),(2,1),(3,1),(4,1)]:List (Nat×Nat))[j]?:=vw
theorem Tryz.vplaces77:Qy prog 77=some fun j=>([(0,13),(13,5)]:List (Nat×Nat))[j]?:=vw
theorem Tryz.vplaces82:Qy prog 82=some fun j=>([]:List (Nat×Nat))[j]?:=vw
theorem Tryz.vplaces88:Qy prog 88=some fun j=>([(0,1),(1,1)]:List (Nat×Nat))[j]?:=vw
theorem Tryz.vplaces90:Qy prog 90=some fun j=>([(0,1),(1,1)]:List (Nat×Nat))[j]?:=vw
theorem Tryz.vplaces115:Qy prog 115=some fun j=>([(0,1),(1,1),(2,1),(3,1)]:List (Nat×Nat))[j]?:=vw
theorem Tryz.vplaces123:Qy prog 123=some fun j=>([(0,18),(18,1),(19,1),(20,1)]:List (Nat×Nat))[j]?:=vw
theorem Tryz.vplaces125:Qy prog 125=some fun j=>([(0,1),(1,1),(2,1),(3,2),(5,1)]:List (Nat×Nat))[j]?:=vw
theorem Tryz.vplaces128:Qy prog 128=some fun j=>([(0,1),(1,1),(2,1),(3,1)]:List (Nat×Nat))[j]?:=vw
theorem Tryz.vplaces130:Qy prog 130=some fun j=>([(0,1),(1,1),(2,1),(3,1),(4,1),(5,4)]:List (Nat×Nat))[j]?:=vw
theorem Tryz.vplaces134:Qy prog 134=some fun j=>([(0,1),(1,1),(2,1),(3,1),(4,1)]:List (Nat×Nat))[j]?:=vw
theorem Tryz.vplaces139:Qy prog 139=some fun j=>([(0,1),(1,1),(2,1),(3,1),(4,1),(5,1),(6,1)]:List (Nat×Nat))[j]?:=vw
theorem Tryz.vplaces140:Qy prog 140=some fun j=>some (j*7,7):=vw
theorem Tryz.vplaces173:Qy prog 173=some fun j=>([(0,1),(1,1),(2,1),(3,1),(4,2)]:List (Nat×Nat))[j]?:=vw
theorem Tryz.vplaces175:Qy prog 175=some fun j=>([(0,1),(1,1),(2,32)]:List (Nat×Nat))[j]?:=vw
theorem Tryz.vplaces179:Qy prog 179=some fun j=>([(0,34),(34,1),(35,1),(36,1)]:List (Nat×Nat))[j]?:=vw
theorem Tryz.vplaces187:Qy prog 187=some fun j=>([(0,1),(1,1),(2,1)]:List (Nat×Nat))[j]?:=vw
theorem Tryz.vplaces211:Qy prog 211=some fun j=>([(0,1),(1,1),(2,1),(3,1),(4,1)]:List (Nat×Nat))[j]?:=vw
theorem Tryz.vplaces221:Qy prog 221=some fun j=>([(0,1),(1,2),(3,1)]:List (Nat×Nat))[j]?:=vw
theorem Tryz.vplaces268:Qy prog 268=some fun j=>([(0,1),(1,1),(2,1),(3,1),(4,1),(5,1),(6,1)]:List (Nat×Nat))[j]?:=vw
theorem Tryz.vplaces341:Qy prog 341=some fun j=>([(0,1),(1,1),(2,1)]:List (Nat×Nat))[j]?:=vw
theorem Tryz.vplaces352:Qy prog 352=some fun j=>([(0,1),(1,1),(2,1)]:List (Nat×Nat))[j]?:=vw
@[go_sem] theorem Tryz.ty:vt prog 3=some none/\
 aB prog 3=.int .i64/\
 QO prog 3=some [.pv (.lit (.int .i64 0))]/\
 bI prog 3=some 8/\
 vt prog 4=some none/\
 vt prog 5=some none/\
 aB prog 5=.int .u8/\
 QO prog 5=some [.pv (.lit (.int .u8 0))]/\
 bI prog 5=some 1/\
 vt prog 9=some none/\
 aB prog 9=.str/\
 QO prog 9=some [.pv (.str [])]/\
 bI prog 9=some 16/\
 vt prog 22=some none/\
 QL prog 22=some (none,5,1)/\
 bX prog 22=true/\
 aB prog 22=.sl 5/\
 vt prog 24=some none/\
 bX prog 24=true/\
 aB prog 24=.sl 58/\
 QO prog 24=some [.pv (.slc [])]/\
 vt prog 26=some (some 3)/\
 Qg prog 26 0=some (3,0,1)/\
 Qg prog 26 1=some (24,1,1)/\
 Qg prog 26 2=some (3,2,1)/\
 QO prog 26=some [.pv (.lit (.int .i64 0)),.pv (.slc []),.pv (.lit (.int .i64 0))]/\
 vt prog 27=some none/\
 QL prog 27=some (none,179,37)/\
 bX prog 27=true/\
 aB prog 27=.sl 179/\
 vt prog 29=some (some 3)/\
 Qg prog 29 0=some (3,0,1)/\
 Qg prog 29 1=some (27,1,1)/\
 Qg prog 29 2=some (3,2,1)/\
 QO prog 29=some [.pv (.lit (.int .i64 0)),.pv (.slc []),.pv (.lit (.int .i64 0))]/\
 vt prog 30=some none/\
 QL prog 30=some (none,221,4)/\
 bX prog 30=true/\
 aB prog 30=.sl 221/\
 vt prog 32=some (some 2)/\
 Qg prog 32 0=some (30,0,1)/\
 Qg prog 32 1=some (30,1,1)/\
 QO prog 32=some [.pv (.slc []),.pv (.slc [])]/\
 vt prog 33=some none/\
 QL prog 33=some (none,64,6)/\
 bX prog 33=true/\
 aB prog 33=.sl 64/\
 vt prog 34=some none/\
 QL prog 34=some (none,279,3)/\
 bX prog 34=true/\
 aB prog 34=.sl 279/\
 vt prog 36=some (some 1)/\
 Qg prog 36 0=some (34,0,1)/\
 QO prog 36=some [.pv (.slc [])]/\
 vt prog 37=some none/\
 QL prog 37=some (none,187,3)/\
 bX prog 37=true/\
 aB prog 37=.sl 187/\
 vt prog 39=some (some 13)/\
 Qg prog 39 0=some (3,0,1)/\
 Qg prog 39 1=some (3,1,1)/\
 Qg prog 39 2=some (26,2,3)/\
 Qg prog 39 3=some (29,5,3)/\
 Qg prog 39 4=some (32,8,2)/\
 Qg prog 39 5=some (33,10,1)/\
 Qg prog 39 6=some (36,11,1)/\
 Qg prog 39 7=some (37,12,1)/\
 QO prog 39=some [.pv (.lit (.int .i64 0)),.pv (.lit (.int .i64 0)),.pv (.lit (.int .i64 0)),.pv (.slc []),.pv (.lit (.int .i64 0)),.pv (.lit (.int .i64 0)),.pv (.slc []),.pv (.lit (.int .i64 0)),.pv (.slc []),.pv (.slc []),.pv (.slc []),.pv (.slc []),.pv (.slc [])]/\
 vt prog 43=some none/\
 QL prog 43=some (none,3,1)/\
 bX prog 43=true/\
 aB prog 43=.sl 3/\
 vt prog 44=some none/\
 QL prog 47=some (none,53,32)/\
 aB prog 47=.sl 53/\
 vt prog 52=some (some 2)/\
 Qg prog 52 0=some (4,0,1)/\
 Qg prog 52 1=some (9,1,1)/\
 QO prog 52=some [.pv (.lit (.bool false)),.pv (.str [])]/\
 bJ prog 8 52=some [(0,0),(1,2)]/\
 prog.eqGuardType prog.depth 52=false/\
 vt prog 53=some (some 32)/\
 QL prog 53=some (some 16,52,2)/\
 QO prog 53=some [.pv (.lit (.bool false)),.pv (.str []),.pv (.lit (.bool false)),.pv (.str []),.pv (.lit (.bool false)),.pv (.str []),.pv (.lit (.bool false)),.pv (.str []),.pv (.lit (.bool false)),.pv (.str []),.pv (.lit (.bool false)),.pv (.str []),.pv (.lit (.bool false)),.pv (.str []),.pv (.lit (.bool false)),.pv (.str []),.pv (.lit (.bool false)),.pv (.str []),.pv (.lit (.bool false)),.pv (.str []),.pv (.lit (.bool false)),.pv (.str []),.pv (.lit (.bool false)),.pv (.str []),.pv (.lit (.bool false)),.pv (.str []),.pv (.lit (.bool false)),.pv (.str []),.pv (.lit (.bool false)),.pv (.str []),.pv (.lit (.bool false)),.pv (.str [])]/\
 bI prog 53=some 384/\
 bJ prog 8 53=some [(0,0),(1,2),(2,0),(3,2),(4,0),(5,2),(6,0),(7,2),(8,0),(9,2),(10,0),(11,2),(12,0),(13,2),(14,0),(15,2),(16,0),(17,2),(18,0),(19,2),(20,0),(21,2),(22,0),(23,2),(24,0),(25,2),(26,0),(27,2),(28,0),(29,2),(30,0),(31,2)]/\
 prog.eqGuardType prog.depth 53=false/\
 QL prog 54=some (some 4,53,32)/\
 QO prog 54=some [.pv (.lit (.bool false)),.pv (.str []),.pv (.lit (.bool false)),.pv (.str []),.pv (.lit (.bool false)),.pv (.str []),.pv (.lit (.bool false)),.pv (.str []),.pv (.lit (.bool false)),.pv (.str []),.pv (.lit (.bool false)),.pv (.str []),.pv (.lit (.bool false)),.pv (.str []),.pv (.lit (.bool false)),.pv (.str []),.pv (.lit (.bool false)),.pv (.str []),.pv (.lit (.bool false)),.pv (.str []),.pv (.lit (.bool false)),.pv (.str []),.pv (.lit (.bool false)),.pv (.str []),.pv (.lit (.bool false)),.pv (.str []),.pv (.lit (.bool false)),.pv (.str []),.pv (.lit (.bool false)),.pv (.str []),.pv (.lit (.bool false)),.pv (.str []),.pv (.lit (.bool false)),.pv (.str []),.pv (.lit (.bool false)),.pv (.str []),.pv (.lit (.bool false)),.pv (.str []),.pv (.lit (.bool false)),.pv (.str []),.pv (.lit (.bool false)),.pv (.str []),.pv (.lit (.bool false)),.pv (.str []),.pv (.lit (.bool false)),.pv (.str []),.pv (.lit (.bool false)),.pv (.str []),.pv (.lit (.bool false)),.pv (.str []),.pv (.lit (.bool false)),.pv (.str []),.pv (.lit (.bool false)),.pv (.str []),.pv (.lit (.bool false)),.pv (.str []),.pv (.lit (.bool false)),.pv (.str []),.pv (.lit (.bool false)),.pv (.str []),.pv (.lit (.bool false)),.pv (.str []),.pv (.lit (.bool false)),.pv (.str []),.pv (.lit (.bool false)),.pv (.str []),.pv (.lit (.bool false)),.pv (.str []),.pv (.lit (.bool false)),.pv (.str []),.pv (.lit (.bool false)),.pv (.str []),.pv (.lit (.bool false)),.pv (.str []),.pv (.lit (.bool false)),.pv (.str []),.pv (.lit (.bool false)),.pv (.str []),.pv (.lit (.bool false)),.pv (.str []),.pv (.lit (.bool false)),.pv (.str []),.pv (.lit (.bool false)),.pv (.str []),.pv (.lit (.bool false)),.pv (.str []),.pv (.lit (.bool false)),.pv (.str []),.pv (.lit (.bool false)),.pv (.str []),.pv (.lit (.bool false)),.pv (.str []),.pv (.lit (.bool false)),.pv (.str []),.pv (.lit (.bool false)),.pv (.str []),.pv (.lit (.bool false)),.pv (.str []),.pv (.lit (.bool false)),.pv (.str []),.pv (.lit (.bool false)),.pv (.str []),.pv (.lit (.bool false)),.pv (.str []),.pv (.lit (.bool false)),.pv (.str []),.pv (.lit (.bool false)),.pv (.str []),.pv (.lit (.bool false)),.pv (.str []),.pv (.lit (.bool false)),.pv (.str []),.pv (.lit (.bool false)),.pv (.str []),.pv (.lit (.bool false)),.pv (.str []),.pv (.lit (.bool false)),.pv (.str []),.pv (.lit (.bool false)),.pv (.str []),.pv (.lit (.bool false)),.pv (.str []),.pv (.lit (.bool false)),.pv (.str []),.pv (.lit (.bool false)),.pv (.str []),.pv (.lit (.bool false)),.pv (.str [])]/\
 vt prog 56=some (some 6)/\
 Qg prog 56 0=some (3,0,1)/\
 Qg prog 56 1=some (3,1,1)/\
 Qg prog 56 2=some (52,2,2)/\
 Qg prog 56 3=some (52,4,2)/\
 QO prog 56=some [.pv (.lit (.int .i64 0)),.pv (.lit (.int .i64 0)),.pv (.lit (.bool false)),.pv (.str []),.pv (.lit (.bool false)),.pv (.str [])]/\
 bJ prog 8 56=some [(0,1),(1,1),(2,0),(3,2),(4,0),(5,2)]/\
 prog.eqGuardType prog.depth 56=false/\
 vt prog 58=some (some 13)/\
 Qg prog 58 0=some (3,0,1)/\
 Qg prog 58 1=some (3,1,1)/\
 Qg prog 58 2=some (3,2,1)/\
 Qg prog 58 3=some (3,3,1)/\
 Qg prog 58 4=some (3,4,1)/\
 Qg prog 58 5=some (3,5,1)/\
 Qg prog 58 6=some (56,6,6)/\
 Qg prog 58 7=some (9,12,1)/\
 bJ prog 8 58=some [(0,1),(1,1),(2,1),(3,1),(4,1),(5,1),(6,1),(7,1),(8,0),(9,2),(10,0),(11,2),(12,2)]/\
 prog.eqGuardType prog.depth 58=false/\
 vt prog 64=some (some 6)/\
 Qg prog 64 0=some (3,0,1)/\
 Qg prog 64 1=some (3,1,1)/\
 Qg prog 64 2=some (3,2,1)/\
 Qg prog 64 3=some (3,3,1)/\
 Qg prog 64 4=some (43,4,1)/\
 Qg prog 64 5=some (43,5,1)/\
 QO prog 64=some [.pv (.lit (.int .i64 0)),.pv (.lit (.int .i64 0)),.pv (.lit (.int .i64 0)),.pv (.lit (.int .i64 0)),.pv (.slc []),.pv (.slc [])]/\
 bI prog 64=some 80/\
 Qg prog 71 0=some (22,0,1)/\
 Qg prog 71 1=some (3,1,1)/\
 QO prog 71=some [.pv (.slc []),.pv (.lit (.int .i64 0))]/\
 vt prog 72=some none/\
 QL prog 72=some (none,9,1)/\
 bX prog 72=true/\
 aB prog 72=.sl 9/\
 vt prog 73=some none/\
 QL prog 73=some (none,253,6)/\
 bX prog 73=true/\
 aB prog 73=.sl 253/\
 vt prog 75=some (some 5)/\
 Qg prog 75 0=some (72,0,1)/\
 Qg prog 75 1=some (3,1,1)/\
 Qg prog 75 2=some (43,2,1)/\
 Qg prog 75 3=some (4,3,1)/\
 Qg prog 75 4=some (73,4,1)/\
 QO prog 75=some [.pv (.slc []),.pv (.lit (.int .i64 0)),.pv (.slc []),.pv (.lit (.bool false)),.pv (.slc [])]/\
 vt prog 77=some (some 18)/\
 Qg prog 77 0=some (39,0,13)/\
 Qg prog 77 1=some (75,13,5)/\
 QO prog 77=some [.pv (.lit (.int .i64 0)),.pv (.lit (.int .i64 0)),.pv (.lit (.int .i64 0)),.pv (.slc []),.pv (.lit (.int .i64 0)),.pv (.lit (.int .i64 0)),.pv (.slc []),.pv (.lit (.int .i64 0)),.pv (.slc []),.pv (.slc []),.pv (.slc []),.pv (.slc []),.pv (.slc []),.pv (.slc []),.pv (.lit (.int .i64 0)),.pv (.slc []),.pv (.lit (.bool false)),.pv (.slc [])]/\
 vt prog 82=some (some 0)/\
 QO prog 82=some []/\
 vt prog 84=some none/\
 vt prog 88=some (some 2)/\
 Qg prog 88 0=some (3,0,1)/\
 Qg prog 88 1=some (3,1,1)/\
 QO prog 88=some [.pv (.lit (.int .i64 0)),.pv (.lit (.int .i64 0))]/\
 bJ prog 8 88=some [(0,1),(1,1)]/\
 prog.eqGuardType prog.depth 88=false/\
 vt prog 90=some (some 2)/\
 Qg prog 90 0=some (3,0,1)/\
 Qg prog 90 1=some (3,1,1)/\
 QO prog 90=some [.pv (.lit (.int .i64 0)),.pv (.lit (.int .i64 0))]/\
 QL prog 104=some (none,125,6)/\
 bX prog 104=true/\
 vt prog 105=some none/\
 QL prog 105=some (none,173,6)/\
 bX prog 105=true/\
 QL prog 108=some (none,130,9)/\
 bX prog 108=true/\
 aB prog 108=.sl 130/\
 Qg prog 115 0=some (3,0,1)/\
 Qg prog 115 1=some (111,1,1)/\
 Qg prog 115 2=some (112,2,1)/\
 Qg prog 115 3=some (113,3,1)/\
 Qg prog 123 0=some (77,0,18)/\
 Qg prog 123 1=some (43,18,1)/\
 Qg prog 123 2=some (105,19,1)/\
 Qg prog 123 3=some (4,20,1)/\
 QO prog 123=some [.pv (.lit (.int .i64 0)),.pv (.lit (.int .i64 0)),.pv (.lit (.int .i64 0)),.pv (.slc []),.pv (.lit (.int .i64 0)),.pv (.lit (.int .i64 0)),.pv (.slc []),.pv (.lit (.int .i64 0)),.pv (.slc []),.pv (.slc []),.pv (.slc []),.pv (.slc []),.pv (.slc []),.pv (.slc []),.pv (.lit (.int .i64 0)),.pv (.slc []),.pv (.lit (.bool false)),.pv (.slc []),.pv (.slc []),.pv (.slc []),.pv (.lit (.bool false))]/\
 vt prog 125=some (some 6)/\
 Qg prog 125 0=some (3,0,1)/\
 Qg prog 125 1=some (3,1,1)/\
 Qg prog 125 2=some (3,2,1)/\
 Qg prog 125 3=some (52,3,2)/\
 Qg prog 125 4=some (44,5,1)/\
 QO prog 125=some [.pv (.lit (.int .i64 0)),.pv (.lit (.int .i64 0)),.pv (.lit (.int .i64 0)),.pv (.lit (.bool false)),.pv (.str []),.pv (.lit (.int .i64 0))]/\
 bI prog 125=some 56/\
 vt prog 128=some (some 4)/\
 Qg prog 128 0=some (3,0,1)/\
 Qg prog 128 1=some (3,1,1)/\
 Qg prog 128 2=some (3,2,1)/\
 Qg prog 128 3=some (9,3,1)/\
 QO prog 128=some [.pv (.lit (.int .i64 0)),.pv (.lit (.int .i64 0)),.pv (.lit (.int .i64 0)),.pv (.str [])]/\
 bJ prog 8 128=some [(0,1),(1,1),(2,1),(3,2)]/\
 prog.eqGuardType prog.depth 128=false/\
 vt prog 130=some (some 9)/\
 Qg prog 130 0=some (3,0,1)/\
 Qg prog 130 1=some (3,1,1)/\
 Qg prog 130 2=some (3,2,1)/\
 Qg prog 130 3=some (3,3,1)/\
 Qg prog 130 4=some (3,4,1)/\
 Qg prog 130 5=some (128,5,4)/\
 QO prog 130=some [.pv (.lit (.int .i64 0)),.pv (.lit (.int .i64 0)),.pv (.lit (.int .i64 0)),.pv (.lit (.int .i64 0)),.pv (.lit (.int .i64 0)),.pv (.lit (.int .i64 0)),.pv (.lit (.int .i64 0)),.pv (.lit (.int .i64 0)),.pv (.str [])]/\
 bI prog 130=some 80/\
 Qg prog 134 0=some (3,0,1)/\
 Qg prog 134 1=some (4,1,1)/\
 Qg prog 134 2=some (4,2,1)/\
 Qg prog 134 3=some (4,3,1)/\
 Qg prog 134 4=some (24,4,1)/\
 QO prog 134=some [.pv (.lit (.int .i64 0)),.pv (.lit (.bool false)),.pv (.lit (.bool false)),.pv (.lit (.bool false)),.pv (.slc [])]/\
 vt prog 137=some none/\
 vt prog 139=some (some 7)/\
 Qg prog 139 0=some (4,0,1)/\
 Qg prog 139 1=some (4,1,1)/\
 Qg prog 139 2=some (4,2,1)/\
 Qg prog 139 3=some (4,3,1)/\
 Qg prog 139 4=some (4,4,1)/\
 Qg prog 139 5=some (84,5,1)/\
 Qg prog 139 6=some (137,6,1)/\
 QO prog 139=some [.pv (.lit (.bool false)),.pv (.lit (.bool false)),.pv (.lit (.bool false)),.pv (.lit (.bool false)),.pv (.lit (.bool false)),.pv (.lit .nilFunc),.pv (.lit .nilFunc)]/\
 vt prog 140=some (some 63)/\
 QL prog 140=some (some 9,139,7)/\
 QO prog 140=some [.pv (.lit (.bool false)),.pv (.lit (.bool false)),.pv (.lit (.bool false)),.pv (.lit (.bool false)),.pv (.lit (.bool false)),.pv (.lit .nilFunc),.pv (.lit .nilFunc),.pv (.lit (.bool false)),.pv (.lit (.bool false)),.pv (.lit (.bool false)),.pv (.lit (.bool false)),.pv (.lit (.bool false)),.pv (.lit .nilFunc),.pv (.lit .nilFunc),.pv (.lit (.bool false)),.pv (.lit (.bool false)),.pv (.lit (.bool false)),.pv (.lit (.bool false)),.pv (.lit (.bool false)),.pv (.lit .nilFunc),.pv (.lit .nilFunc),.pv (.lit (.bool false)),.pv (.lit (.bool false)),.pv (.lit (.bool false)),.pv (.lit (.bool false)),.pv (.lit (.bool false)),.pv (.lit .nilFunc),.pv (.lit .nilFunc),.pv (.lit (.bool false)),.pv (.lit (.bool false)),.pv (.lit (.bool false)),.pv (.lit (.bool false)),.pv (.lit (.bool false)),.pv (.lit .nilFunc),.pv (.lit .nilFunc),.pv (.lit (.bool false)),.pv (.lit (.bool false)),.pv (.lit (.bool false)),.pv (.lit (.bool false)),.pv (.lit (.bool false)),.pv (.lit .nilFunc),.pv (.lit .nilFunc),.pv (.lit (.bool false)),.pv (.lit (.bool false)),.pv (.lit (.bool false)),.pv (.lit (.bool false)),.pv (.lit (.bool false)),.pv (.lit .nilFunc),.pv (.lit .nilFunc),.pv (.lit (.bool false)),.pv (.lit (.bool false)),.pv (.lit (.bool false)),.pv (.lit (.bool false)),.pv (.lit (.bool false)),.pv (.lit .nilFunc),.pv (.lit .nilFunc),.pv (.lit (.bool false)),.pv (.lit (.bool false)),.pv (.lit (.bool false)),.pv (.lit (.bool false)),.pv (.lit (.bool false)),.pv (.lit .nilFunc),.pv (.lit .nilFunc)]/\
 QO prog 173=some [.pv (.lit (.int .i64 0)),.pv (.lit (.int .i64 0)),.pv (.lit (.int .i64 0)),.pv (.lit (.int .i64 0)),.pv (.lit (.bool false)),.pv (.str [])]/\
 bI prog 173=some 56/\
 vt prog 175=some (some 34)/\
 Qg prog 175 0=some (3,0,1)/\
 Qg prog 175 1=some (3,1,1)/\
 Qg prog 175 2=some (53,2,32)/\
 QO prog 175=some [.pv (.lit (.int .i64 0)),.pv (.lit (.int .i64 0)),.pv (.lit (.bool false)),.pv (.str []),.pv (.lit (.bool false)),.pv (.str []),.pv (.lit (.bool false)),.pv (.str []),.pv (.lit (.bool false)),.pv (.str []),.pv (.lit (.bool false)),.pv (.str []),.pv (.lit (.bool false)),.pv (.str []),.pv (.lit (.bool false)),.pv (.str []),.pv (.lit (.bool false)),.pv (.str []),.pv (.lit (.bool false)),.pv (.str []),.pv (.lit (.bool false)),.pv (.str []),.pv (.lit (.bool false)),.pv (.str []),.pv (.lit (.bool false)),.pv (.str []),.pv (.lit (.bool false)),.pv (.str []),.pv (.lit (.bool false)),.pv (.str []),.pv (.lit (.bool false)),.pv (.str []),.pv (.lit (.bool false)),.pv (.str [])]/\
 vt prog 179=some (some 37)/\
 Qg prog 179 0=some (175,0,34)/\
 Qg prog 179 1=some (4,34,1)/\
 Qg prog 179 2=some (3,35,1)/\
 Qg prog 179 3=some (4,36,1)/\
 QO prog 179=some [.pv (.lit (.int .i64 0)),.pv (.lit (.int .i64 0)),.pv (.lit (.bool false)),.pv (.str []),.pv (.lit (.bool false)),.pv (.str []),.pv (.lit (.bool false)),.pv (.str []),.pv (.lit (.bool false)),.pv (.str []),.pv (.lit (.bool false)),.pv (.str []),.pv (.lit (.bool false)),.pv (.str []),.pv (.lit (.bool false)),.pv (.str []),.pv (.lit (.bool false)),.pv (.str []),.pv (.lit (.bool false)),.pv (.str []),.pv (.lit (.bool false)),.pv (.str []),.pv (.lit (.bool false)),.pv (.str []),.pv (.lit (.bool false)),.pv (.str []),.pv (.lit (.bool false)),.pv (.str []),.pv (.lit (.bool false)),.pv (.str []),.pv (.lit (.bool false)),.pv (.str []),.pv (.lit (.bool false)),.pv (.str []),.pv (.lit (.bool false)),.pv (.lit (.int .i64 0)),.pv (.lit (.bool false))]/\
 bI prog 179=some 424/\
 vt prog 187=some (some 3)/\
 Qg prog 187 0=some (3,0,1)/\
 Qg prog 187 1=some (3,1,1)/\
 Qg prog 187 2=some (3,2,1)/\
 QO prog 187=some [.pv (.lit (.int .i64 0)),.pv (.lit (.int .i64 0)),.pv (.lit (.int .i64 0))]/\
 bI prog 187=some 24/\
 QL prog 193=some (none,24,1)/\
 aB prog 193=.sl 24/\
 vt prog 211=some (some 5)/\
 Qg prog 211 0=some (3,0,1)/\
 Qg prog 211 1=some (3,1,1)/\
 Qg prog 211 2=some (33,2,1)/\
 Qg prog 211 3=some (37,3,1)/\
 Qg prog 211 4=some (36,4,1)/\
 QO prog 211=some [.pv (.lit (.int .i64 0)),.pv (.lit (.int .i64 0)),.pv (.slc []),.pv (.slc []),.pv (.slc [])]/\
 vt prog 221=some (some 4)/\
 Qg prog 221 0=some (3,0,1)/\
 Qg prog 221 1=some (88,1,2)/\
 Qg prog 221 2=some (3,3,1)/\
 QO prog 221=some [.pv (.lit (.int .i64 0)),.pv (.lit (.int .i64 0)),.pv (.lit (.int .i64 0)),.pv (.lit (.int .i64 0))]/\
 bI prog 221=some 32/\
 bJ prog 8 221=some [(0,1),(1,1),(2,1),(3,1)]/\
 prog.eqGuardType prog.depth 221=false/\
 aB prog 248=.int .u32/\
 QO prog 253=some [.pv (.lit (.int .i64 0)),.pv (.lit (.int .i64 0)),.pv (.lit (.int .i64 0)),.pv (.lit (.int .i64 0)),.pv (.lit (.int .i64 0)),.pv (.lit (.int .u8 0))]/\
 bI prog 253=some 48/\
 vt prog 268=some (some 7)/\
 Qg prog 268 0=some (3,0,1)/\
 Qg prog 268 1=some (3,1,1)/\
 Qg prog 268 2=some (3,2,1)/\
 Qg prog 268 3=some (33,3,1)/\
 Qg prog 268 4=some (30,4,1)/\
 Qg prog 268 5=some (37,5,1)/\
 Qg prog 268 6=some (36,6,1)/\
 QO prog 268=some [.pv (.lit (.int .i64 0)),.pv (.lit (.int .i64 0)),.pv (.lit (.int .i64 0)),.pv (.slc []),.pv (.slc []),.pv (.slc []),.pv (.slc [])]/\
 vt prog 279=some (some 3)/\
 Qg prog 279 0=some (3,0,1)/\
 Qg prog 279 1=some (3,1,1)/\
 Qg prog 279 2=some (3,2,1)/\
 QO prog 279=some [.pv (.lit (.int .i64 0)),.pv (.lit (.int .i64 0)),.pv (.lit (.int .i64 0))]/\
 bI prog 279=some 24/\
 aB prog 298=.int .u64/\
 aB prog 299=.int .u64/\
 Qg prog 341 0=some (9,0,1)/\
 Qg prog 341 1=some (3,1,1)/\
 Qg prog 341 2=some (44,2,1)/\
 QO prog 341=some [.pv (.str []),.pv (.lit (.int .i64 0)),.pv (.lit (.int .i64 0))]/\
 Qg prog 352 0=some (9,0,1)/\
 Qg prog 352 1=some (3,1,1)/\
 Qg prog 352 2=some (4,2,1)/\
 QO prog 352=some [.pv (.str []),.pv (.lit (.int .i64 0)),.pv (.lit (.bool false))]:=by
 (repeat' apply And.intro)<;>kernel_rfl
attribute [go_sem] Tryz.velem24 Tryz.vplaces26 Tryz.vplaces29 Tryz.vplaces32 Tryz.vplaces36 Tryz.vplaces39 Tryz.vplaces52 Tryz.vplaces56 Tryz.vplaces58 Tryz.vzero58 Tryz.bytes58 Tryz.vplaces64 Tryz.vplaces71 Tryz.vplaces75 Tryz.vplaces77 Tryz.vplaces82 Tryz.vplaces88 Tryz.vplaces90 Tryz.vplaces115 Tryz.vplaces123 Tryz.vplaces125 Tryz.vplaces128 Tryz.vplaces130 Tryz.vplaces134 Tryz.vplaces139 Tryz.vplaces140 Tryz.vplaces173 Tryz.vplaces175 Tryz.vplaces179 Tryz.vplaces187 Tryz.vplaces211 Tryz.vplaces221 Tryz.vplaces268 Tryz.vplaces341 Tryz.vplaces352
end Go.Proofs
namespace Go.Proofs.YtalibkpienbliaaGreat
open Go.V Go
open Tryz (prog)
def pI(n:Int)(i:Nat):Int:=IntKind.u8.wrap ((IntKind.u64.wrap n).fdiv (2 ^ min (8*(i:Int)).toNat 64))
def cH(n:Int)(i:Nat):UInt8:=UInt8.ofNat (pI n i).toNat
def xA(x:Int):IntKind.u8.wrap x=x % 256:=by
 simp[IntKind.wrap,IntKind.signed,IntKind.bits]
def Fe(n:Int)(i:Nat):pI n i=((cH n i).toNat:Int):=by
 unfold cH pI;rw[xA];generalize (IntKind.u64.wrap n).fdiv (2 ^ min (8*(i:Int)).toNat 64)=y;simp only[UInt8.toNat_ofNat'];omega
def Ql(s:List UInt8)(n:Int)(k:Nat):List UInt8:=s++(Jt k).map (cH n)
def Qe(s:List UInt8)(n:Int)(k:Nat):(Ql s n k).length=s.length+k:=by simp[Ql]
def Ff(s:List UInt8)(n:Int)(k:Nat):Ql s n (k+1)=Ql s n k++[cH n k]:=by simp[Ql,List.range_succ]
theorem Fg:bts prog 22 9=true:=vw
def Q4(s:List UInt8)(hs:s.length<=1000000000)(n:Int)(k:Nat)(h1:1<=k)(h8:k<=8):VCalls prog 137 [.pv (.str s),.int .i64 n,.int .i64 k] [] (Ret (.pv (.str (Ql s n k)))):=by
 refine dD Tryz.func137 ?_;simp(config:={ maxSteps:=2000000 }) (implicitDefEqProofs:=false) (disch:=first|omega|assumption|(simp only[];done)|fail) only[go_sem,Ju,Jg,Jv,Jh,Tryz.f137]
 refine Qj (fun i:{i:Nat // i<=k}=>⟨32,0,[(7,.int .i64 i.1),(2,.int .i64 k),(0,.pv (.str (Ql s n i.1))),(1,.int .i64 n)],[]⟩) (fun i=>k-i.1) ⟨0,vz⟩ (.inl (by simpa only[Ql,List.range_zero,List.map_nil,JQ] using(by refine⟨rfl,rfl,vv,?_,?_,.inr ⟨?_,?_⟩⟩<;>(repeat' apply Ja)<;>first|rfl|trivial|(intro _;first|rfl|apply Fh)))) ?_;intro i;obtain⟨i,hi⟩:=i;dsimp only;simp(config:={ maxSteps:=2000000 }) (implicitDefEqProofs:=false) (disch:=first|omega|assumption|(simp only[];done)|fail) only[go_sem,Jg,Jh]
 refine fN (fun hc=>?_) (fun hc=>?_)<;>simp only[decide_eq_true_eq,decide_eq_false_iff_not,Jf,Jc,Jw,Js,Jj,Ji,beq_iff_eq,beq_eq_false_iff_ne,bne_iff_ne,bne_eq_false_iff_eq,ne_eq] at hc
 ·have hw8:IntKind.u64.wrap (8 * (i:Int)) = 8 * (i:Int):=by simp [IntKind.wrap,IntKind.signed,IntKind.bits];omega
  have hl:(Ql s n i).length+1<=9223372036854775807:=by rw[Qe];omega
  simp(config:={ maxSteps:=2000000 }) (implicitDefEqProofs:=false) (disch:=first|omega|assumption|(simp only[];done)|fail) only[go_sem,V.splice,V.mk,↓reduceIte,JD,J0,Jg,JE,Jh,hw8,pJ Fg,Fi]
  refine⟨⟨i+1,vz⟩,by show k-(i+1)<k-i;omega,?_⟩;rw[Ff];refine xB (keep:=[]) rfl rfl rfl vj trivial ?_;refine⟨⟨rfl,rfl⟩,⟨rfl,rfl⟩,⟨rfl,rfl⟩,⟨rfl,rfl⟩,trivial⟩
 ·simp (config:={ maxSteps:=2000000 }) (implicitDefEqProofs:=false) (disch:=first|omega|assumption|(simp only [];done)|fail) only [go_sem,↓reduceIte,JD,Jg,JE,Jh]
  have hik:i=k:=vz;rw[hik]
def aW(s:List UInt8)(a:Nat):Nat->Int
 |0=>0
 |i+1=>bits BinOp.or .u64 (aW s a i) (IntKind.u64.wrap (IntKind.u64.wrap (s.getD (a+i) 0).toNat*2 ^ min (8*(i:Int)).toNat 64))
def Fj(s:List UInt8)(a i:Nat)(h:a+i<s.length):s[((a:Int)+(i:Int)).toNat]?=some (s.getD (a+i) 0):=by
 grind
def pK(s:List UInt8)(a k:Int)(h:1<=k/\k<=8)(h0:0<=a)(hh:¬a+k<=s.length):VCalls prog 199 [.pv (.str s),.int .i64 a,.int .i64 k] [] (Ret (.tup [.int .i64 0,.int .i64 5])):=by
 refine dD Tryz.func199 ?_;have h1:¬k<1:=vz;have h2:¬8<k:=vz;have h3:¬a<0:=vz;by_cases h4:(s.length:Int)<a
 ·simp(config:={ maxSteps:=2000000 }) (implicitDefEqProofs:=false) (disch:=first|omega|assumption|(simp only[];done)|fail) only[go_sem,Ju,Jg,Jv,Jh,Tryz.f199,h1,h2,h3,h4]
 ·have h5:(s.length:Int) - a < k:=vz;simp(config:={ maxSteps:=2000000 }) (implicitDefEqProofs:=false) (disch:=first|omega|assumption|(simp only[];done)|fail) only[go_sem,Ju,Jg,Jv,Jh,Tryz.f199,h1,h2,h3,h4,h5]
def lr(s:List UInt8)(hs:s.length<=1000000000)(a k:Nat)(h:1<=k/\k<=8)(hh:a+k<=s.length):VCalls prog 199 [.pv (.str s),.int .i64 a,.int .i64 k] [] (Ret (.tup [.int .i64 (IntKind.i64.wrap (aW s a k)),.int .i64 0])):=by
 refine dD Tryz.func199 ?_;have h1:¬(k:Int)<1:=vz;have h2:¬8<(k:Int):=vz;have h3:¬(a:Int)<0:=vz;have h4:¬(s.length:Int)<a:=vz;have h5:¬(s.length:Int)-a<k:=vz;simp(config:={ maxSteps:=2000000 }) (implicitDefEqProofs:=false) (disch:=first|omega|assumption|(simp only[];done)|fail) only[go_sem,Ju,Jg,Jv,Jh,Tryz.f199,h1,h2,h3,h4,h5]
 refine nk (fun i:{i:Nat // i<=k}=>⟨51,0,[(9,.int .i64 i.1),(2,.int .i64 k),(8,.int .u64 (aW s a i.1)),(0,.pv (.str s)),(1,.int .i64 a)],[]⟩) (fun i=>k-i.1) ⟨0,vz⟩ (by refine⟨rfl,rfl,vv,?_,?_,.inl rfl⟩<;>(repeat' apply Ja)<;>first|rfl|trivial) ?_;intro i;obtain⟨i,hi⟩:=i;dsimp only;simp(config:={ maxSteps:=2000000 }) (implicitDefEqProofs:=false) (disch:=first|omega|assumption|(simp only[];done)|fail) only[go_sem,Jg,Jh]
 refine fN (fun hc=>?_) (fun hc=>?_)<;>simp only[decide_eq_true_eq,decide_eq_false_iff_not,Jf,Jc,Jw,Js,Jj,Ji,beq_iff_eq,beq_eq_false_iff_ne,bne_iff_ne,bne_eq_false_iff_eq,ne_eq] at hc
 ·have hg:s[((a:Int) + (i:Int)).toNat]? = some (s.getD (a + i) 0):=Fj s a i vz;have h0:0<=(a:Int)+(i:Int):=vz;have hw8:IntKind.u64.wrap (8*(i:Int))=8*(i:Int):=by simp[IntKind.wrap,IntKind.signed,IntKind.bits];omega
  simp(config:={ maxSteps:=2000000 }) (implicitDefEqProofs:=false) (disch:=first|omega|assumption|(simp only[];done)|fail) only[go_sem,Jg,Jh,hg,hw8]
  exact⟨⟨i+1,vz⟩,by show k-(i+1)<k-i;omega,(by refine⟨rfl,rfl,vv,?_,?_,.inl rfl⟩<;>(repeat' apply Ja)<;>first|rfl|trivial)⟩
 ·simp (config:={ maxSteps:=2000000 }) (implicitDefEqProofs:=false) (disch:=first|omega|assumption|(simp only [];done)|fail) only [go_sem,↓reduceIte,JD,Jg,JE,Jh]
  have hik:i=k:=vz;rw[hik]
def u64N(n:Int):Nat:=(n % 18446744073709551616).toNat
def Fk(n:Int):u64N n<2 ^ 64:=by unfold u64N;omega
def lu(n:Int):IntKind.u64.wrap n=(u64N n:Int):=by
 unfold u64N;simp[IntKind.wrap,IntKind.signed,IntKind.bits];omega
def sY(i:Nat)(h:i<8):min (8*(i:Int)).toNat 64=8*i:=by
 grind
def xC(n:Int)(i:Nat)(h:i<8):(cH n i).toNat=u64N n / 2 ^ (8*i) % 256:=by
 have hx:=Fe n i;unfold pI at hx;rw[xA,lu,sY i h] at hx;grind
def xD(x y:Nat)(hx:x<2 ^ 64)(hy:y<2 ^ 64):bits .or .u64 (x:Int) (y:Int)=((x ||| y:Nat):Int):=by
 have e:bits .or .u64 (x:Int) (y:Int)=IntKind.u64.wrap ((BitVec.ofInt 64 (x:Int) ||| BitVec.ofInt 64 (y:Int)).toNat:Int):=rfl;rw[e,BitVec.toNat_or];have h1:(BitVec.ofInt 64 (x:Int)).toNat=x:=vg;have h2:(BitVec.ofInt 64 (y:Int)).toNat=y:=vg;rw[h1,h2,lu];have h3:x ||| y<2 ^ 64:=Nat.or_lt_two_pow hx hy;unfold u64N;omega
def Fo(N i:Nat):(N % 2 ^ (8*i)) ||| (N / 2 ^ (8*i) % 256*2 ^ (8*i))=N % 2 ^ (8*(i+1)):=by
 have h:N % 2 ^ (8*i)<2 ^ (8*i):=KA _ (Kr _);rw[KD,KB,<-J3 h];have e:2 ^ (8*(i+1))=2 ^ (8*i)*256:=by rw[KE,KF]
 rw[e,Nat.mod_mul];omega
def Fp(s t:List UInt8)(n:Int)(k i:Nat)(hi:i<k):(Ql s n k++t).getD (s.length+i) 0=cH n i:=by
 rw[Jn,Ql,J9,List.getElem?_append_right vz,List.getElem?_append_left vg];simp[hi]
def nm (s t:List UInt8) (n:Int) (k:Nat) (hk:k<=8):∀i,i<=k->aW (Ql s n k ++ t) s.length i = ((u64N n % 2 ^ (8 * i):Nat):Int)
 |0,_=>by simp[aW,Nat.mod_one]
 |i + 1,hi=>by
   have ih:=nm s t n k hk i vz;have h8:i<8:=vz;unfold aW;rw[ih,Fp s t n k i vz,xC n i h8,sY i h8];have hb:u64N n / 2 ^ (8*i) % 256<256:=KA _ vz;have hw:IntKind.u64.wrap ((u64N n / 2 ^ (8*i) % 256:Nat):Int)=((u64N n / 2 ^ (8*i) % 256:Nat):Int):=by rw[lu];unfold u64N at *;omega
   rw[hw];have hp:(2:Nat) ^ (8*i)<=2 ^ 56:=JI vz vz
   have hlt:u64N n / 2 ^ (8*i) % 256*2 ^ (8*i)<2 ^ 64:=by
    have:u64N n / 2 ^ (8*i) % 256*2 ^ (8*i)<=255*2 ^ 56:=Kx vz hp;omega
   have e2:((u64N n / 2 ^ (8*i) % 256:Nat):Int)*2 ^ (8*i)=((u64N n / 2 ^ (8*i) % 256*2 ^ (8*i):Nat):Int):=by
    rw[Ks,Kb];rfl
   rw[e2]
   have hw2:IntKind.u64.wrap ((u64N n / 2 ^ (8*i) % 256*2 ^ (8*i):Nat):Int)=((u64N n / 2 ^ (8*i) % 256*2 ^ (8*i):Nat):Int):=by
    generalize u64N n / 2 ^ (8*i) % 256*2 ^ (8*i)=z at hlt;rw[lu];unfold u64N;omega
   rw[hw2,xD _ _ (Nat.lt_of_le_of_lt (Nat.mod_le _ _) (Fk n)) hlt,Fo]
def Fq(n:Int)(h : -9223372036854775808<=n/\n<=9223372036854775807):IntKind.i64.wrap ((u64N n % 2 ^ 64:Nat):Int)=n:=by
 rw[IntKind.wrap_i64];unfold u64N;omega
def Fs(n:Int)(m:Nat)(hm:m<=56):IntKind.i64.wrap ((u64N n % 2 ^ m:Nat):Int)=((u64N n % 2 ^ m:Nat):Int):=by
 have hp:(2:Nat) ^ m<=2 ^ 56:=JI vz hm;have h3:u64N n % 2 ^ m<2 ^ m:=KA _ (Kr m);rw[IntKind.wrap_i64];grind
def rnd(r:Int):Int:=if bits .and .u32 r 1=1 then bits .xor .u32 (r.fdiv 2) 2197175160 else r.fdiv 2
def eJ:Nat->Int->Int
 |0,r=>r
 |n+1,r=>rnd (eJ n r)
def xE(i:Nat):Int:=eJ 4 i
def sZ(i:Nat):List Int:=(Jt 16).map fun j=>if j<i then xE j else 0
def pL(r:Int):Int:=bits .xor .u32 (r.fdiv (2 ^ min 4 32)) ((sZ 16).getD (bits .and .u32 r 15).toNat 0)
def ly(r:Int)(b:UInt8):Int:=pL (pL (bits .xor .u32 r (IntKind.u32.wrap b.toNat)))
def dw(s:List UInt8):Int:=s.foldl ly 4294967295
def bY(s:List UInt8):Int:=bits .xor .u32 4294967295 (dw s)
def Ft(s:List UInt8)(i:Nat)(h:i<s.length):dw (s.take (i+1))=ly (dw (s.take i)) (s.getD i 0):=by
 rw[dw,Jk h,List.foldl_append];rw[Jn,JB h];rfl
def Fu(x:BitVec 32):rnd (x.toNat:Int)=((rb x).toNat:Int):=by
 have h1:bits .and .u32 (x.toNat:Int) 1=((x &&& 1#32).toNat:Int):=xF x 1#32;have h2:(x.toNat:Int).fdiv 2=((x >>> 1).toNat:Int):=xG x 1;have h3:(x &&& 1#32).toNat=x.toNat % 2:=by rw[BitVec.toNat_and];exact Nat.and_one_is_mod _
 have h4:x.getLsbD 0=decide (x.toNat % 2=1):=by simp[BitVec.getLsbD,Nat.testBit_zero]
 unfold rnd rb;rw[h1,h2,h3,h4];by_cases h:x.toNat % 2=1
 ·rw [if_pos vz,if_pos (by simpa using h)];exact np _ polyB
 ·rw[if_neg vz,if_neg (by simpa using h)];simp
def xH(n:Nat)(x:BitVec 32):eJ n (x.toNat:Int)=((rbN n x).toNat:Int):=by
 induction n with
 |zero=>rfl
 |succ n ih=>rw[eJ,ih,Fu];rfl
def xI (x:BitVec 32):pL (x.toNat:Int) = ((rbN 4 x).toNat:Int):=by
 have h1:bits .and .u32 (x.toNat:Int) 15=((x &&& 15#32).toNat:Int):=xF x 15#32;have h15:(x &&& 15#32).toNat<16:=by rw[BitVec.toNat_and];exact Nat.lt_succ_of_le Nat.and_le_right
 have h2:(sZ 16).getD (x &&& 15#32).toNat 0=((rbN 4 (x &&& 15#32)).toNat:Int):=by
  rw[<-xH];simp only[sZ,Jn,List.getElem?_map,List.getElem?_range h15,Option.map_some,Option.getD_some,xE];rw[if_pos h15]
 have h3:(x.toNat:Int).fdiv (2 ^ min 4 32)=((x >>> 4).toNat:Int):=xG x 4
 have e1:x = (x &&& 15#32) ^^^ ((x >>> 4) <<< 4):=by
  apply BitVec.eq_of_getLsbD_eq
  intro i hi;rw[BitVec.getLsbD_xor,BitVec.getLsbD_and,BitVec.getLsbD_shiftLeft,BitVec.getLsbD_ushiftRight];by_cases h:i<4
  ·have h15:(15#32).getLsbD i = true:=by
    rcases i with _|_|_|_|i<;>first|rfl|omega
   simp[h15,h]
  ·have h15:(15#32).getLsbD i = false:=by
    have:(15#32).getLsbD i=(15:Nat).testBit i:=by simp[BitVec.getLsbD]
    rw[this];apply Nat.testBit_lt_two_pow;exact JR (show 15<2 ^ 4 by omega) (JI vz vz)
   rw[h15];simp[h,hi,show 4+(i-4)=i by omega]
 have e2:rbN 4 x=rbN 4 (x &&& 15#32) ^^^ (x >>> 4):=by
  have hs:rbN 4 ((x >>> 4) <<< 4)=x >>> 4:=Fv _ _ (fun i hi=>by rw[BitVec.getLsbD_ushiftRight];exact BitVec.getLsbD_of_ge _ _ vz) vz;conv=>lhs;rw[e1]
  rw[Fw,hs]
 unfold pL;rw[h1,h3,Jz,h2,np,e2,BitVec.xor_comm]
def xJ(x:BitVec 32)(b:UInt8):ly (x.toNat:Int) b=((cb x b).toNat:Int):=by
 unfold ly;rw[xK,np,xI,xI,<-Fx];rfl
def xL:∀(s:List UInt8) (x:BitVec 32),s.foldl ly (x.toNat:Int)=((s.foldl cb x).toNat:Int)
 |[],_=>rfl
 |b::s,x=>by rw[Kt,xJ,xL s,Kt]
def xM(s:List UInt8):dw s=((s.foldl cb 4294967295#32).toNat:Int):=xL s 4294967295#32
def Fy(s:List UInt8):bY s=((4294967295#32 ^^^ s.foldl cb 4294967295#32).toNat:Int):=by
 rw[bY,xM];exact np 4294967295#32 _
def pM(s:List UInt8):0<=bY s/\bY s<4294967296:=by
 rw[Fy];have:=(4294967295#32 ^^^ s.foldl cb 4294967295#32).isLt;omega
def s7(r:Int)(b:UInt8):Int:=eJ 8 (bits .xor .u32 r (IntKind.u32.wrap b.toNat))
def FA(x:BitVec 32)(b:UInt8):s7 (x.toNat:Int) b=ly (x.toNat:Int) b:=by
 rw[xJ,s7,xK,np,xH];rfl
def FB(s:List UInt8)(i:Nat)(h:i<s.length):dw (s.take (i+1))=s7 (dw (s.take i)) (s.getD i 0):=by
 rw[Ft s i h,xM (s.take i),FA]
def pN(s:List UInt8)(hs:s.length<=100000000):VCalls prog 139 [.pv (.str s)] [] (Ret (.int .u32 (bY s))):=by
 refine dD Tryz.func139 ?_;simp(config:={ maxSteps:=2000000 }) (implicitDefEqProofs:=false) (disch:=first|omega|assumption|(simp only[];done)|fail) only[go_sem,Tryz.f139]
 refine nk (fun i:{i:Nat // i<=s.length}=>⟨32,0,[(4,.int .i64 i.1),(3,.int .u32 (dw (s.take i.1))),(0,.pv (.str s))],[]⟩) (fun i=>s.length-i.1) ⟨0,vz⟩ (by refine⟨rfl,rfl,vv,?_,?_,.inl rfl⟩<;>(repeat' apply Ja)<;>first|rfl|trivial) ?_;intro i;obtain⟨i,hi⟩:=i;dsimp only;simp(config:={ maxSteps:=2000000 }) (implicitDefEqProofs:=false) (disch:=first|omega|assumption|(simp only[];done)|fail) only[go_sem,Jg,Jh]
 refine fN (fun hc=>?_) (fun hc=>?_)<;>simp only[decide_eq_true_eq,decide_eq_false_iff_not,Jf,Jc,Jw,Js,Jj,Ji,beq_iff_eq,beq_eq_false_iff_ne,bne_iff_ne,bne_eq_false_iff_eq,ne_eq] at hc
 ·have hlt:i < s.length:=vz;have hg:s[i]?=some (s.getD i 0):=by rw[Jn,JB hlt];rfl
  simp(config:={ maxSteps:=2000000 }) (implicitDefEqProofs:=false) (disch:=first|omega|assumption|(simp only[];done)|fail) only[go_sem,Jg,Jh,hg]
  refine nk (fun j:{j:Nat // j<=8}=>⟨32,0,[(5,.int .i64 j.1),(4,.int .i64 i),(3,.int .u32 (eJ j.1 (bits .xor .u32 (dw (s.take i)) (IntKind.u32.wrap (s.getD i 0).toNat)))),(0,.pv (.str s))],[]⟩) (fun j=>8-j.1) ⟨0,vz⟩ (by refine⟨rfl,rfl,vv,?_,?_,.inl rfl⟩<;>(repeat' apply Ja)<;>first|rfl|trivial) ?_;intro j;obtain⟨j,hj⟩:=j;dsimp only;simp(config:={ maxSteps:=2000000 }) (implicitDefEqProofs:=false) (disch:=first|omega|assumption|(simp only[];done)|fail) only[go_sem]
  refine fN (fun hcj=>?_) (fun hcj=>?_)<;>simp only[decide_eq_true_eq,decide_eq_false_iff_not,Jf,Jc,Jw,Js,Jj,Ji,beq_iff_eq,beq_eq_false_iff_ne,bne_iff_ne,bne_eq_false_iff_eq,ne_eq] at hcj
  ·simp (config:={ maxSteps:=2000000 }) (implicitDefEqProofs:=false) (disch:=first|omega|assumption|(simp only [];done)|fail) only [go_sem,Jg,Jh]
   refine fN (fun hb=>?_) (fun hb=>?_)<;>simp only[decide_eq_true_eq,decide_eq_false_iff_not,Jf,Jc,Jw,Js,Jj,Ji,beq_iff_eq,beq_eq_false_iff_ne,bne_iff_ne,bne_eq_false_iff_eq,ne_eq] at hb
   ·simp (config:={ maxSteps:=2000000 }) (implicitDefEqProofs:=false) (disch:=first|omega|assumption|(simp only [];done)|fail) only [go_sem,Jg,Ku,Jh]
    refine⟨⟨j+1,vz⟩,by show 8-(j+1)<8-j;omega,?_⟩;have e:eJ (j+1) (bits .xor .u32 (dw (s.take i)) (IntKind.u32.wrap (s.getD i 0).toNat))=bits .xor .u32 ((eJ j (bits .xor .u32 (dw (s.take i)) (IntKind.u32.wrap (s.getD i 0).toNat))).fdiv 2) 2197175160:=by rw[eJ,rnd,if_pos hb]
    rw[e];exact(by refine⟨rfl,rfl,vv,?_,?_,.inl rfl⟩<;>(repeat' apply Ja)<;>first|rfl|trivial)
   ·simp (config:={ maxSteps:=2000000 }) (implicitDefEqProofs:=false) (disch:=first|omega|assumption|(simp only [];done)|fail) only [go_sem,Jg,Ku,Jh]
    refine⟨⟨j+1,vz⟩,by show 8-(j+1)<8-j;omega,?_⟩;have e:eJ (j+1) (bits .xor .u32 (dw (s.take i)) (IntKind.u32.wrap (s.getD i 0).toNat))=(eJ j (bits .xor .u32 (dw (s.take i)) (IntKind.u32.wrap (s.getD i 0).toNat))).fdiv 2:=by rw[eJ,rnd,if_neg hb]
    rw[e];exact(by refine⟨rfl,rfl,vv,?_,?_,.inl rfl⟩<;>(repeat' apply Ja)<;>first|rfl|trivial)
  ·have hj8:j = 8:=vz;subst hj8;simp(config:={ maxSteps:=2000000 }) (implicitDefEqProofs:=false) (disch:=first|omega|assumption|(simp only[];done)|fail) only[go_sem,↓reduceIte,Jg,Jh]
   refine⟨⟨i+1,hlt⟩,by show s.length-(i+1)<s.length-i;omega,?_⟩;have e:dw (s.take (i+1))=eJ 8 (bits .xor .u32 (dw (s.take i)) (IntKind.u32.wrap (s.getD i 0).toNat)):=FB s i hlt;rw[e];exact(by refine⟨rfl,rfl,vv,?_,?_,.inl rfl⟩<;>(repeat' apply Ja)<;>first|rfl|trivial)
 ·simp (config:={ maxSteps:=2000000 }) (implicitDefEqProofs:=false) (disch:=first|omega|assumption|(simp only [];done)|fail) only [go_sem,↓reduceIte,JD,Jg,JE,Jh]
  rw[Jl vz];rfl
def frm(s:List UInt8):List UInt8:=if s.length<=8392 then Ql (Ql [] s.length 4++s) (bY (Ql [] s.length 4++s)) 4 else []
def xN(s:List UInt8)(hs:s.length<=90000000):VCalls prog 196 [.pv (.str s)] [] (Ret (.pv (.str (frm s)))):=by
 refine dD Tryz.func196 ?_;by_cases h:s.length<=8392
 ·have h1:¬8392 < (s.length:Int):=vz;have hl:=Qe [] s.length 4;simp only[Jd,Kp] at hl;have hl2:(Ql [] s.length 4++s).length<=10000:=by rw[Jb,hl];omega
  simp(config:={ maxSteps:=2000000 }) (implicitDefEqProofs:=false) (disch:=first|omega|assumption|(simp only[];done)|fail) only[go_sem,Jg,Jh,Tryz.f196,h1]
  refine bZ (Q4 [] vv s.length 4 vz vz) rfl ?_;simp(config:={ maxSteps:=2000000 }) (implicitDefEqProofs:=false) (disch:=first|omega|assumption|(simp only[];done)|fail) only[go_sem,Jg,Jh]
  refine bZ (pN _ vz) rfl ?_;have hx:=pM (Ql [] s.length 4++s);simp(config:={ maxSteps:=2000000 }) (implicitDefEqProofs:=false) (disch:=first|omega|assumption|(simp only[];done)|fail) only[go_sem,JD,Jg,JE,Jh]
  refine bZ (Q4 (Ql [] s.length 4++s) vz _ 4 vz vz) rfl ?_;simp(config:={ maxSteps:=2000000 }) (implicitDefEqProofs:=false) (disch:=first|omega|assumption|(simp only[];done)|fail) only[go_sem,↓reduceIte,frm,h]
 ·have h1:8392 < (s.length:Int):=vz;simp(config:={ maxSteps:=2000000 }) (implicitDefEqProofs:=false) (disch:=first|omega|assumption|(simp only[];done)|fail) only[go_sem,↓reduceIte,Jg,Jh,Tryz.f196,h1,frm,h]
def leN(s:List UInt8)(a:Nat):Nat->Nat
 |0=>0
 |i+1=>leN s a i+(s.getD (a+i) 0).toNat*2 ^ (8*i)
def nq (s:List UInt8) (a:Nat):∀i,leN s a i < 2 ^ (8 * i)
 |0=>by simp[leN]
 |i + 1=>by
   have ih:=nq s a i;have hb:=(s.getD (a+i) 0).toNat_lt;rw[leN,KE,KF];have:(s.getD (a+i) 0).toNat*2 ^ (8*i)<=255*2 ^ (8*i):=JC _ vz;omega
def nr (s:List UInt8) (a:Nat):∀i,i<=8->aW s a i = (leN s a i:Int)
 |0,_=>rfl
 |i + 1,hi=>by
   have ih:=nr s a i vz;have hlt:=nq s a i;have hb:=(s.getD (a+i) 0).toNat_lt;unfold aW;rw[ih,sY i vz];have hw:IntKind.u64.wrap ((s.getD (a+i) 0).toNat:Int)=((s.getD (a+i) 0).toNat:Int):=by rw[lu];unfold u64N;omega
   have hp:(2:Nat) ^ (8*i)<=2 ^ 56:=JI vz vz;have hm:(s.getD (a+i) 0).toNat*2 ^ (8*i)<=255*2 ^ 56:=Kx vz hp
   have e2:((s.getD (a+i) 0).toNat:Int)*2 ^ (8*i)=(((s.getD (a+i) 0).toNat*2 ^ (8*i):Nat):Int):=by
    rw[Ks,Kb];rfl
   rw[hw,e2]
   have hw2:IntKind.u64.wrap (((s.getD (a+i) 0).toNat*2 ^ (8*i):Nat):Int)=(((s.getD (a+i) 0).toNat*2 ^ (8*i):Nat):Int):=by
    generalize (s.getD (a+i) 0).toNat*2 ^ (8*i)=z at hm;rw[lu];unfold u64N;omega
   have h64:leN s a i<2 ^ 64:=JR hlt (JI vz vz);rw[hw2,xD _ _ h64 vz,leN];congr 1;rw[KD,KB _ (2 ^ (8*i)),<-J3 hlt,Nat.add_comm]
def n4(s:List UInt8)(a:Nat):Nat:=leN s a 4
def s8(s:List UInt8)(a:Nat):n4 s a<4294967296:=nq s a 4
def FC(s:List UInt8)(a:Nat):IntKind.i64.wrap (aW s a 4)=(n4 s a:Int):=by
 rw[nr s a 4 vz];have:=s8 s a;unfold n4 at this |-;rw[IntKind.wrap_i64];omega
def xO(s:List UInt8)(hs:s.length<=100000000)(a:Nat)(hh:a+4<=s.length):VCalls prog 199 [.pv (.str s),.int .i64 a,.int .i64 4] [] (Ret (.tup [.int .i64 (n4 s a),.int .i64 0])):=by
 have h:=lr s vz a 4 vz hh;rwa [FC] at h
section
structure Ce where
 set:Bool
 data:List UInt8
structure Ch where
 pg:Int
 sl:Int
 b:Ce
 a:Ce
structure E where
 lsn:Int
 kind:Int
 tx:Int
 ptx:Int
 ppg:Int
 ref:Int
 c:Ch
 blob:List UInt8
def Ce.d(x:Ce):List DV:=[.bool x.set,.pv (.str x.data)]
def Ch.d(x:Ch):List DV:=[.int .i64 x.pg,.int .i64 x.sl,.bool x.b.set,.pv (.str x.b.data),.bool x.a.set,.pv (.str x.a.data)]
def E.d(x:E):List DV:=[.int .i64 x.lsn,.int .i64 x.kind,.int .i64 x.tx,.int .i64 x.ptx,.int .i64 x.ppg,.int .i64 x.ref,.int .i64 x.c.pg,.int .i64 x.c.sl,.bool x.c.b.set,.pv (.str x.c.b.data),.bool x.c.a.set,.pv (.str x.c.a.data),.pv (.str x.blob)]
def Ce0:Ce:=⟨false,[]⟩
def Ch0:Ch:=⟨0,0,Ce0,Ce0⟩
def E0:E:=⟨0,0,0,0,0,0,Ch0,[]⟩
def Ce.okB(x:Ce):Bool:=decide (x.data.length<=12)&&(x.set||x.data==[])
def Ch.okB(x:Ch):Bool:=decide (0<=x.pg)&&decide (x.pg<64)&&decide (0<=x.sl)&&decide (x.sl<16)&&x.b.okB&&x.a.okB
def Ce.no(x:Ce):Bool:=!x.set&&x.data==[]
def Ch.no(x:Ch):Bool:=x.pg==0&&x.sl==0&&x.b.no&&x.a.no
def bef(n l:Int):Bool:=decide (0<=n)&&decide (n<l)
attribute [local go_sem] Ce.d Ch.d E.d QZ bK
def xP(x:Ce):VCalls prog 95 [.agg x.d] [] (Ret (.bool x.okB)):=by
 refine dd Tryz.func95 ?_;refine rn F ?_
 repeat' (first|with_reducible exact⟨⟩|(refine sG F ?_ ?_<;>intro hZ))
 all_goals (first|rfl|(congr 3;rw[Jp];(try simp only[Ce.okB,decide_eq_true_eq,Jc,Jf,Jj,Ji,decide_eq_false_iff_not,beq_iff_eq,bne_iff_ne,ne_eq,Jo,Jq,iff_true,true_iff,iff_false,false_iff]);first|done|omega|grind))
def s9(x:Ce):VCalls prog 96 [.agg x.d] [] (Ret (.bool x.okB)):=by
 refine dd Tryz.func96 ?_;refine rn F ?_
 repeat' (first|with_reducible exact⟨⟩|(refine sG F ?_ ?_<;>intro hZ))
 all_goals (first|rfl|(congr 3;rw[Jp];(try simp only[Ce.okB,decide_eq_true_eq,Jc,Jf,Jj,Ji,decide_eq_false_iff_not,beq_iff_eq,bne_iff_ne,ne_eq,Jo,Jq,iff_true,true_iff,iff_false,false_iff]);first|done|omega|grind))
def FD(x:Ch):VCalls prog 74 [.agg x.d] [] (Ret (.bool x.no)):=by
 refine dd Tryz.func74 ?_;refine rn F ?_;simp only[Ch.no,Ce.no,Ky]
def ta(n:Int)(x:E):VCalls prog 46 [.int .i64 n,.agg x.d] [] (Ret (.bool (bef n x.lsn))):=by
 refine dd Tryz.func46 ?_;refine rn F ?_
 repeat' (first|with_reducible exact⟨⟩|(refine sG F ?_ ?_<;>intro hZ))
 all_goals (first|rfl|(congr 3;rw[Jp];(try simp only[bef,decide_eq_true_eq,Jc,Jf,Jj,Ji,decide_eq_false_iff_not,beq_iff_eq,bne_iff_ne,ne_eq,Jo,Jq,iff_true,true_iff,iff_false,false_iff]);first|done|omega|grind))
def td(n l:Int):VCalls prog 49 [.int .i64 n,.int .i64 l] [] (Ret (.bool (bef n l))):=by
 refine dd Tryz.func49 ?_;refine rn F ?_
 repeat' (first|with_reducible exact⟨⟩|(refine sG F ?_ ?_<;>intro hZ))
 all_goals (first|rfl|(congr 3;rw[Jp];(try simp only[bef,decide_eq_true_eq,Jc,Jf,Jj,Ji,decide_eq_false_iff_not,beq_iff_eq,bne_iff_ne,ne_eq,Jo,Jq,iff_true,true_iff,iff_false,false_iff]);first|done|omega|grind))
def FE(n:Int):VCalls prog 94 [.int .i64 n] [] (Ret (.bool (decide (0<=n)&&decide (n<64)))):=by
 refine dd Tryz.func94 ?_;refine rn F ?_
 repeat' (first|with_reducible exact⟨⟩|(refine sG F ?_ ?_<;>intro hZ))
 all_goals (first|rfl|(congr 3;rw[Jp];(try simp only[decide_eq_true_eq,Jc,Jf,Jj,Ji,decide_eq_false_iff_not,beq_iff_eq,bne_iff_ne,ne_eq,Jo,Jq,iff_true,true_iff,iff_false,false_iff]);first|done|omega|grind))
def FF(x:E):VCalls prog 73 [.agg x.d] [] (Ret (.bool true)):=by
 refine dd Tryz.func73 ?_;(refine rn F ?_;try with_reducible exact⟨⟩)
def FG(x:E):VCalls prog 76 [.agg x.d] [] (Ret (.bool (decide (1<=x.ref)&&decide (x.ref<=x.ptx)))):=by
 refine dd Tryz.func76 ?_;refine rn F ?_
 repeat' (first|with_reducible exact⟨⟩|(refine sG F ?_ ?_<;>intro hZ))
 all_goals (first|rfl|(congr 3;rw[Jp];(try simp only[decide_eq_true_eq,Jc,Jf,Jj,Ji,decide_eq_false_iff_not,beq_iff_eq,bne_iff_ne,ne_eq,Jo,Jq,iff_true,true_iff,iff_false,false_iff]);first|done|omega|grind))
def Ch.ix(x:Ch):Bool:=x.sl==0&&x.b.no&&x.a.no&&decide (0<=x.pg)&&decide (x.pg<64)
def FH(x:Ch):VCalls prog 77 [.agg x.d] [] (Ret (.bool x.ix)):=by
 refine dd Tryz.func77 ?_;refine rn F ?_
 repeat' (first|with_reducible exact⟨⟩|(refine sG F ?_ ?_<;>intro hZ))
 all_goals (first|rfl|(congr 3;rw[Jp];(try simp only[Ch.ix,Ce.no,decide_eq_true_eq,Jc,Jf,Jj,Ji,decide_eq_false_iff_not,beq_iff_eq,bne_iff_ne,ne_eq,Jo,Jq,iff_true,true_iff,iff_false,false_iff]);first|done|omega|grind))
def th(x:E):VCalls prog 20 [.agg x.d] [] (Ret (.bool (x.kind==1||x.kind==2))):=by
 refine dd Tryz.func20 ?_;refine rn F ?_
 repeat' (first|with_reducible exact⟨⟩|(refine sG F ?_ ?_<;>intro hZ))
 all_goals (first|rfl|(congr 3;rw[Jp];(try simp only[decide_eq_true_eq,Jc,Jf,Jj,Ji,decide_eq_false_iff_not,beq_iff_eq,bne_iff_ne,ne_eq,Jo,Jq,iff_true,true_iff,iff_false,false_iff]);first|done|omega|grind))
def nu(x:E):VCalls prog 27 [.agg x.d] [] (Ret (.bool (x.kind==1||x.kind==2))):=by
 refine dd Tryz.func27 ?_;refine rn F ?_
 repeat' (first|with_reducible exact⟨⟩|(refine sG F ?_ ?_<;>intro hZ))
 all_goals (first|rfl|(congr 3;rw[Jp];(try simp only[decide_eq_true_eq,Jc,Jf,Jj,Ji,decide_eq_false_iff_not,beq_iff_eq,bne_iff_ne,ne_eq,Jo,Jq,iff_true,true_iff,iff_false,false_iff]);first|done|omega|grind))
def FI(x:Ch):VCalls prog 75 [.agg x.d] [] (Ret (.bool x.okB)):=by
 refine dd Tryz.func75 ?_;refine rn F ?_
 repeat' (first|with_reducible exact⟨⟩|(refine sG F ?_ ?_<;>intro hZ)|refine vp F (FE x.pg) ?_|refine vp F (xP x.b) ?_|refine vp F (xP x.a) ?_)
 all_goals (first|rfl|(congr 3;rw[Jp];(try simp only[Ch.okB,decide_eq_true_eq,Jc,Jf,Jj,Ji,decide_eq_false_iff_not,beq_iff_eq,bne_iff_ne,ne_eq,Jo,Jq,iff_true,true_iff,iff_false,false_iff]);first|done|omega|grind))
def xQ(x:Ch):VCalls prog 78 [.agg x.d] [] (Ret (.bool x.okB)):=by
 refine dd Tryz.func78 ?_;refine rn F ?_
 repeat' (first|with_reducible exact⟨⟩|(refine sG F ?_ ?_<;>intro hZ)|refine vp F (s9 x.b) ?_|refine vp F (s9 x.a) ?_)
 all_goals (first|rfl|(congr 3;rw[Jp];(try simp only[Ch.okB,decide_eq_true_eq,Jc,Jf,Jj,Ji,decide_eq_false_iff_not,beq_iff_eq,bne_iff_ne,ne_eq,Jo,Jq,iff_true,true_iff,iff_false,false_iff]);first|done|omega|grind))
def rl(tx ch pg rf bl:Bool)(f g:Nat):List DV:=[.bool tx,.bool ch,.bool pg,.bool rf,.bool bl,.fn (.func f) [] [],.fn (.func g) [] []]
def rl0:List DV:=[.bool false,.bool false,.bool false,.bool false,.bool false,.pv (.lit .nilFunc),.pv (.lit .nilFunc)]
def pO:List DV:=rl true true false false false 73 74
def tl:List DV:=rl false false false false true 73 74
def xR:List DV:=rl0++rl true false true false false 73 75++rl true true true true false 76 75++pO++pO++pO++tl++rl false false false true false 73 77++tl
def FJ:VCalls prog 47 [] [] (Ret (.agg xR)):=by
 refine dd Tryz.func47 ?_;refine rn F ?_;rfl
end
section
attribute [local go_sem] xR rl0 rl pO tl
def txB(n:Int):Bool:=decide (1<=n)&&decide (n<=1073741824)
def E.kindB(e:E):Bool:=
 if e.kind=1 then txB e.tx&&e.ref==0&&e.blob==[]&&e.c.okB
 else if e.kind=2 then txB e.tx&&e.ptx != 0&&e.blob==[]&&decide (1<=e.ref)&&decide (e.ref<=e.ptx)&&e.c.okB
 else if e.kind=3\/e.kind=4\/e.kind=5 then txB e.tx&&e.ptx != 0&&e.ppg==0&&e.ref==0&&e.blob==[]&&e.c.no
 else if e.kind=6\/e.kind=8 then e.tx==0&&e.ptx==0&&e.ppg==0&&e.ref==0&&decide (e.blob.length<=8192)&&e.c.no
 else if e.kind=7 then e.tx==0&&e.ptx==0&&e.ppg==0&&e.blob==[]&&e.c.ix
 else false
def E.okB(e:E):Bool:=decide (1<=e.lsn)&&decide (e.lsn<=1099511627776)&&bef e.ptx e.lsn&&bef e.ppg e.lsn&&bef e.ref e.lsn&&e.kindB
theorem xS(lsn kind tx ptx ppg ref:Int)(c:Ch)(blob:List UInt8):(⟨lsn,kind,tx,ptx,ppg,ref,c,blob⟩:E).kindB =
 if kind=1 then txB tx&&ref==0&&blob==[]&&c.okB
 else if kind=2 then txB tx&&ptx != 0&&blob==[]&&decide (1<=ref)&&decide (ref<=ptx)&&c.okB
 else if kind=3\/kind=4\/kind=5 then txB tx&&ptx != 0&&ppg==0&&ref==0&&blob==[]&&c.no
 else if kind=6\/kind=8 then tx==0&&ptx==0&&ppg==0&&ref==0&&decide (blob.length<=8192)&&c.no
 else if kind=7 then tx==0&&ptx==0&&ppg==0&&blob==[]&&c.ix
 else false:=rfl
def FK{e:E}(h:e.kind<1\/8<e.kind):e.kindB=false:=by
 unfold E.kindB;rw[if_neg vz,if_neg vz,if_neg vz,if_neg vz,if_neg vz]
def xU(k:Int):(k<1\/8<k)\/k=1\/k=2\/k=3\/k=4\/k=5\/k=6\/k=7\/k=8:=vz
def FL(e:E):VCalls prog 36 [.agg e.d] [] (Ret (.bool e.okB)):=by
 refine dd Tryz.func36 ?_;obtain⟨lsn,kind,tx,ptx,ppg,ref,c,blob⟩:=e;have r1:=ta ptx ⟨lsn,kind,tx,ptx,ppg,ref,c,blob⟩;have r2:=ta ppg ⟨lsn,kind,tx,ptx,ppg,ref,c,blob⟩;have r3:=ta ref ⟨lsn,kind,tx,ptx,ppg,ref,c,blob⟩;have r4:=FF ⟨lsn,kind,tx,ptx,ppg,ref,c,blob⟩;have r5:=FG ⟨lsn,kind,tx,ptx,ppg,ref,c,blob⟩;have q1:=FD c;have q2:=FI c;have q3:=FH c;have e1:(⟨lsn,kind,tx,ptx,ppg,ref,c,blob⟩:E).okB=(decide (1<=lsn)&&decide (lsn<=1099511627776)&&bef ptx lsn&&bef ppg lsn&&bef ref lsn&&(⟨lsn,kind,tx,ptx,ppg,ref,c,blob⟩:E).kindB):=rfl;dsimp only[E.d] at *;generalize bef ptx lsn=B1 at *;generalize bef ppg lsn=B2 at *;generalize bef ref lsn=B3 at *;have e2:=xS lsn kind tx ptx ppg ref c blob;dsimp only[Ch.d] at q1 q2 q3;generalize c.no=N at *;generalize c.okB=K at *;generalize c.ix=X at *;have e3:=@FK ⟨lsn,kind,tx,ptx,ppg,ref,c,blob⟩;dsimp only at e3;generalize (⟨lsn,kind,tx,ptx,ppg,ref,c,blob⟩:E).kindB=Q at *;generalize (⟨lsn,kind,tx,ptx,ppg,ref,c,blob⟩:E).okB=R at *;refine rn F ?_
 repeat' (first|with_reducible exact⟨⟩|(refine sG F ?_ ?_<;>intro hZ)|(refine sB F ?_ ?_<;>intro hZ)|refine vp F (r1) ?_|refine vp F (r2) ?_|refine vp F (r3) ?_|(refine Qf (id:=3) [1,2] [⟨[4],[],0,[1,2],[3]⟩,⟨[4],[4],5,[],[]⟩] vw vw ?_;refine rn F ?_))
 all_goals first|(congr 3;rw[Jp,e1];simp only[Jc,decide_eq_true_eq,Jo,false_iff];first|omega|(intro h;simp_all;done)|(intro h;rw[e3 vz] at h;simp at h;done))|skip
 all_goals
  have hT:R=Q:=by rw[e1];simp_all
  rcases xU kind with hk|rfl|rfl|rfl|rfl|rfl|rfl|rfl|rfl
  ·omega
 all_goals
  refine rn F ?_
  repeat' (first|with_reducible exact⟨⟩|(refine sG F ?_ ?_<;>intro hZ)|(refine sB F ?_ ?_<;>intro hZ)|refine vp F (FJ) ?_|refine vp F (r4) ?_|refine vp F (r5) ?_|refine vp F (q1) ?_|refine vp F (q2) ?_|refine vp F (q3) ?_)
 all_goals (try (congr 3;rw[hT,Jp,e2];clear hT e1 e2 e3 r1 r2 r3 r4 r5 q1 q2 q3;simp[txB];first|omega|grind))
 all_goals skip
end
section
def encE:Enc E:=⟨13,fun x=>[.lit (.int .i64 x.lsn),.lit (.int .i64 x.kind),.lit (.int .i64 x.tx),.lit (.int .i64 x.ptx),.lit (.int .i64 x.ppg),.lit (.int .i64 x.ref),.lit (.int .i64 x.c.pg),.lit (.int .i64 x.c.sl),.lit (.bool x.c.b.set),.str x.c.b.data,.lit (.bool x.c.a.set),.str x.c.a.data,.str x.blob],vj,fun _=>rfl⟩
def bD(l:List E):(cells encE l).length=l.length*13:=QK encE l
def cL(l:List E)(n:Nat)(h:l.length*13<=n):(cells encE l).take n=cells encE l:=by rw[Jl];rw[bD];exact h
def cM(l m:List E):cells encE l++cells encE m=cells encE (l++m):=(QC encE l m).symm
def cN(l:List E)(T:TypeId)(a b:Nat)(h:a<=b/\b<=l.length):cO (some (none,T,13)) (fz encE l) a b=some (.pv (.sl (fz encE ((l.take b).drop a)))):=nw encE l T a b h
def cP(l:List E):(fz encE l=[]\/(fz encE l)[0]?.map JO=some 13)=True:=jW encE l
def cQ(h:l.length=len):bw n hp 0 13 len (some (cells encE l))=some (.sl (fz encE l)):=Q3 encE h
def cR(l:List E)(e:E):cells encE l++[.pv (.lit (.int .i64 e.lsn)),.pv (.lit (.int .i64 e.kind)),.pv (.lit (.int .i64 e.tx)),.pv (.lit (.int .i64 e.ptx)),.pv (.lit (.int .i64 e.ppg)),.pv (.lit (.int .i64 e.ref)),.pv (.lit (.int .i64 e.c.pg)),.pv (.lit (.int .i64 e.c.sl)),.pv (.lit (.bool e.c.b.set)),.pv (.str e.c.b.data),.pv (.lit (.bool e.c.a.set)),.pv (.str e.c.a.data),.pv (.str e.blob)]=cells encE (l++[e]):=by rw[QC];rfl
def Qd{α:Type}(l:List α)(i:Nat)(h:i<l.length)(d:α):l.getD i d=l[i]:=by rw[Jn,JB h];rfl
structure To(n:Nat) where
 i:Nat
 hi:i<=n
structure Okay(n:Nat)(c:Nat->Bool) where
 i:Nat
 hi:i<=n
 ok:∀k,k<i->c k=true
def Okay.start(n:Nat)(c:Nat->Bool):Okay n c:=⟨0,JA _,fun k h=>by omega⟩
def Okay.next{n:Nat}{c:Nat->Bool}(s:Okay n c)(h:s.i<n)(hc:c s.i=true):Okay n c:=⟨s.i+1,h,fun k hk=>by
 rcases JP k s.i with hlt|hge
 ·exact s.ok k hlt
 ·obtain rfl:k = s.i:=vz
  exact hc⟩
def Okay.all(s:Okay n c)(h:¬s.i<n):(Jt n).all c=true:=by
 rw[JK];intro k hk;rw[JL] at hk;exact s.ok k vz
def de(h:i<n)(hc:c i=false):(Jt n).all c=false:=by
 grind
def jX(l:List E)(i:Nat)(h:i<l.length):(fz encE l)[i]?=some [.lit (.int .i64 (l.getD i E0).lsn),.lit (.int .i64 (l.getD i E0).kind),.lit (.int .i64 (l.getD i E0).tx),.lit (.int .i64 (l.getD i E0).ptx),.lit (.int .i64 (l.getD i E0).ppg),.lit (.int .i64 (l.getD i E0).ref),.lit (.int .i64 (l.getD i E0).c.pg),.lit (.int .i64 (l.getD i E0).c.sl),.lit (.bool (l.getD i E0).c.b.set),.str (l.getD i E0).c.b.data,.lit (.bool (l.getD i E0).c.a.set),.str (l.getD i E0).c.a.data,.str (l.getD i E0).blob]:=by rw[Qd l i h];exact lz encE l i h
structure Lg where
 f:Int
 es:List E
 d:Int
def Lg.c(x:Lg):List DV:=[.int .i64 x.f,.pv (.sl (fz encE x.es)),.int .i64 x.d]
attribute [local go_sem] Lg.c
def Lg0:Lg:=⟨0,[],0⟩
def Lg.hd(x:Lg):Prop:=1<=x.f/\x.f<=1099511627776/\x.es.length<=4096/\x.f-1<=x.d/\x.d<=x.f+x.es.length-1
instance (x:Lg):Decidable x.hd:=by unfold Lg.hd;infer_instance
def lgC(x:Lg)(i:Nat):Bool:=decide ((x.es.getD i E0).lsn=x.f+i)&&(x.es.getD i E0).okB
def lgB(x:Lg):Bool:=decide x.hd&&(Jt x.es.length).all (lgC x)
def Lg.end_(x:Lg):Int:=x.f+x.es.length-1
def bz{x:Lg}(h:lgB x=true):x.hd:=by unfold lgB at h;simp at h;exact h.1
def FM(x:Lg)(h1 : -1099511627776<=x.f/\x.f<=1099511627776)(h2:x.es.length<=1000000):VCalls prog 35 [.agg x.c] [] (Ret (.int .i64 x.end_)):=by
 refine dd Tryz.func35 ?_;obtain⟨f,es,d⟩:=x;dsimp only at h1 h2;refine rn F ?_;(refine rn F ?_;try with_reducible exact⟨⟩)
 all_goals rfl
def xV(x:Lg)(hx:x.es.length<=9223372036854775807):VCalls prog 22 [.agg x.c] [] (Ret (.bool (lgB x))):=by
 refine dd Tryz.func22 ?_;obtain⟨f,es,d⟩:=x;dsimp only at hx;have hr:=fun(i:Nat)=>FL (es.getD i E0);have c1:=FM ⟨f,es,d⟩;have hlg:∀i,lgC ⟨f,es,d⟩ i=true ↔ (es.getD i E0).lsn=f+i/\(es.getD i E0).okB=true:=fun i=>by simp[lgC]
 have hB:lgB ⟨f,es,d⟩=(decide (Lg.hd ⟨f,es,d⟩)&&(Jt es.length).all (lgC ⟨f,es,d⟩)):=rfl;have hH:Lg.hd ⟨f,es,d⟩=(1<=f/\f<=1099511627776/\es.length<=4096/\f-1<=d/\d<=f+es.length-1):=rfl;have no:¬Lg.hd ⟨f,es,d⟩->lgB ⟨f,es,d⟩=false:=fun h=>by rw[hB,decide_eq_false h];rfl
 unfold Lg.c at c1 |-;unfold Lg.end_ at c1;unfold E.d at hr;dsimp only at c1 |-;generalize lgC ⟨f,es,d⟩=lc at *;generalize lgB ⟨f,es,d⟩=b at *;refine rn F ?_
 repeat' (first|with_reducible exact⟨⟩|(refine sG F ?_ ?_<;>intro hZ)|(refine sB F ?_ ?_<;>intro hZ)|refine vp F (c1 vz vz) ?_|(refine Qf (id:=1) [0,1,2,3,4,5,6,7,8,9,10,11,12,13,14,15,16,17,18,19,20,21,22,23,24,25] [⟨[],[],26,[0,1,2,3,4,5,6,7,8,9,10,11,12,13,14,15,16,17,18,19,20,21,23,24],[27,28]⟩] vw vw ?_;refine rn F ?_))
 all_goals first|(rw[no (by rw[hH];omega)])|skip
 refine Qj (fun s:Okay es.length lc=>⟨55,0,[(37,.int .i64 s.i),(36,.int .i64 es.length),(35,.pv (.sl (fz encE es))),(1,.ptr 0 0)],[⟨26,true,[.int .i64 f,.pv (.sl (fz encE es)),.int .i64 d]⟩]⟩) (fun s=>es.length-s.i) (Okay.start _ _) (gc [0]) ?_;intro s;have hsi:=s.hi;have hg:=fun h:s.i<es.length=>jX es s.i h;have F:=@hg;refine rn F ?_
 repeat' (first|with_reducible exact⟨⟩|(refine sG F ?_ ?_<;>intro hZ)|(refine sB F ?_ ?_<;>intro hZ)|refine vp F (hr s.i) ?_)
 all_goals first|(rw[hB,de (i:=s.i) vz (JF.2 fun h=>by rw[hlg] at h;omega),JN])|(rw[hB,de (i:=s.i) vz (JF.2 fun h=>by rw[hlg] at h;exact absurd h.2 (by simp_all)),JN])|(rw[hB,s.all vz,decide_eq_true (by rw[hH];omega)];rfl)|(exact⟨s.next vz ((hlg _).2 ⟨vz,vq⟩),by show es.length-(s.i+1)<es.length-s.i;omega,(gc [0])⟩)|skip
end
section
attribute [local go_sem] bD cL cM cN cP cQ cR Tryz.underlying24
abbrev noK:Nat->Bool:=fun _=>false
def xW(l:List E)(hl:l.length<=1000000):VCalls prog 69 [.pv (.sl (fz encE l))] [] (fO noK [] 13 l.length 58 (cells encE l)):=by
 refine VCalls.newSl ?_;by_cases hz:l=[]
 ·subst hz;refine VCalls.open0 fun ad cap hs=>?_;refine lA (fn:=Tryz.f69) Tryz.func69 rfl vw (by simp[Tryz.f69]) ?_;(unfold Tryz.f69;refine rn trivial ?_)
  refine fN (fun h=>?_) (fun h=>?_)
  ·(refine rn trivial ?_;try with_reducible exact ⟨⟩)
   exact⟨vv,.inl ⟨rfl,rfl,rfl⟩⟩
  ·(refine rn trivial ?_;try with_reducible exact ⟨⟩)
   exact⟨vv,.inr ⟨_,.inl rfl,vv,rfl,rfl⟩⟩
 ·have hp:0 < l.length:=List.length_pos_iff.2 hz;refine lA (fn:=Tryz.f69) Tryz.func69 rfl vw (by simp[Tryz.f69]) ?_;have h0:=FN encE l hp;have hx:(fz encE l)[0]?.map JO=some 13:=pP encE l hp;have hb:l.length*128<=140737488355328:=vz;have hfl:pvs (fz encE l)=cells encE l:=pQ encE l;(unfold Tryz.f69;refine rn (Ja @h0 (Ja @hx (Ja @hb @hfl))) ?_)
  exact⟨vv,.inr ⟨_,.inl rfl,vv,rfl,Qw _ _ _⟩⟩
def a8(x:Lg)(e:E):Lg×Int×Int:=if lgB x=false then (Lg0,0,26) else if x.es.length=4096\/1099511627776<x.end_+1 then (Lg0,0,21)
 else if ({ e with lsn:=x.end_+1 }:E).okB=false then (Lg0,0,12) else (⟨x.f,x.es++[{ e with lsn:=x.end_+1 }],x.d⟩,x.end_+1,0)
def tp(r:Lg×Int×Int):DV:=.tup [.agg r.1.c,.int .i64 r.2.1,.int .i64 r.2.2]
end
section
attribute [local go_sem] bD cL cM cN cP cQ cR
def QY(x:Lg)(n:Int):Lg×Int:=if lgB x=false then (Lg0,26) else if x.end_<n then (Lg0,14) else (⟨x.f,x.es,if n > x.d then n else x.d⟩,0)
def lgD(r:Lg×Int):DV:=.tup [.agg r.1.c,.int .i64 r.2]
end
section
attribute [local go_sem] E.d Ch0 Ce0
def FO(l:List UInt8):decide ((l.length:Int)<=8192)=decide (l.length<=8192):=by
 grind
def E.shp(e:E):E:=
 if e.kind=1 then ⟨e.lsn,e.kind,e.tx,e.ptx,e.ppg,0,e.c,[]⟩
 else if e.kind=2 then ⟨e.lsn,e.kind,e.tx,e.ptx,e.ppg,e.ref,e.c,[]⟩
 else if e.kind=3\/e.kind=4\/e.kind=5 then ⟨e.lsn,e.kind,e.tx,e.ptx,0,0,Ch0,[]⟩
 else if e.kind=6\/e.kind=8 then ⟨e.lsn,e.kind,0,0,0,0,Ch0,e.blob⟩
 else if e.kind=7 then ⟨e.lsn,e.kind,0,0,0,e.ref,⟨e.c.pg,0,Ce0,Ce0⟩,[]⟩
 else ⟨e.lsn,e.kind,0,0,0,0,Ch0,[]⟩
def E.shok(e:E):Bool:=
 if e.kind=1 then e.c.okB&&decide (1<=e.tx)&&decide (e.tx<=1073741824)
 else if e.kind=2 then e.c.okB&&decide (0<e.ptx)&&decide (1<=e.ref)&&decide (e.ref<=e.ptx)&&decide (1<=e.tx)&&decide (e.tx<=1073741824)
 else if e.kind=3\/e.kind=4\/e.kind=5 then decide (1<=e.tx)&&decide (e.tx<=1073741824)&&decide (0<e.ptx)
 else if e.kind=6\/e.kind=8 then decide (e.blob.length<=8192)
 else if e.kind=7 then decide (0<=e.c.pg)&&decide (e.c.pg<64)
 else false
def shD(e:E):DV:=.tup [.agg e.shp.d,.bool e.shok]
theorem FP(lsn kind tx ptx ppg ref:Int)(c:Ch)(blob:List UInt8):(⟨lsn,kind,tx,ptx,ppg,ref,c,blob⟩:E).shp =
 if kind=1 then ⟨lsn,kind,tx,ptx,ppg,0,c,[]⟩
 else if kind=2 then ⟨lsn,kind,tx,ptx,ppg,ref,c,[]⟩
 else if kind=3\/kind=4\/kind=5 then ⟨lsn,kind,tx,ptx,0,0,Ch0,[]⟩
 else if kind=6\/kind=8 then ⟨lsn,kind,0,0,0,0,Ch0,blob⟩
 else if kind=7 then ⟨lsn,kind,0,0,0,ref,⟨c.pg,0,Ce0,Ce0⟩,[]⟩
 else ⟨lsn,kind,0,0,0,0,Ch0,[]⟩:=rfl
theorem FQ(lsn kind tx ptx ppg ref:Int)(c:Ch)(blob:List UInt8):(⟨lsn,kind,tx,ptx,ppg,ref,c,blob⟩:E).shok =
 if kind=1 then c.okB&&decide (1<=tx)&&decide (tx<=1073741824)
 else if kind=2 then c.okB&&decide (0<ptx)&&decide (1<=ref)&&decide (ref<=ptx)&&decide (1<=tx)&&decide (tx<=1073741824)
 else if kind=3\/kind=4\/kind=5 then decide (1<=tx)&&decide (tx<=1073741824)&&decide (0<ptx)
 else if kind=6\/kind=8 then decide (blob.length<=8192)
 else if kind=7 then decide (0<=c.pg)&&decide (c.pg<64)
 else false:=rfl
def FR(e:E):VCalls prog 48 [.agg e.d] [] (Ret (shD e)):=by
 refine dd Tryz.func48 ?_;unfold shD;obtain⟨lsn,kind,tx,ptx,ppg,ref,c,blob⟩:=e;have q1:=xQ c;dsimp only[Ch.d] at q1;rw[FP,FQ];generalize c.okB=K at *;rcases xU kind with hk|rfl|rfl|rfl|rfl|rfl|rfl|rfl|rfl
 ·rw [if_neg vz,if_neg vz,if_neg vz,if_neg vz,if_neg vz,if_neg vz,if_neg vz,if_neg vz,if_neg vz,if_neg vz];have k1:(kind==1)=false:=vg;have k2:(kind==2)=false:=vg;have k3:(kind==3)=false:=vg;have k4:(kind==4)=false:=vg;have k5:(kind==5)=false:=vg;have k6:(kind==6)=false:=vg;have k7:(kind==7)=false:=vg;have k8:(kind==8)=false:=vg;(refine rn (Ja @k1 (Ja @k2 (Ja @k3 (Ja @k4 (Ja @k5 (Ja @k6 (Ja @k7 @k8))))))) ?_;try with_reducible exact⟨⟩)
 all_goals
  refine rn F ?_
  repeat' (first|with_reducible exact⟨⟩|(refine sG F ?_ ?_<;>intro hZ)|refine vp F (q1) ?_|(refine Qf (id:=5) [0,1,2,3,4,5,6,7,8] [⟨[],[],9,[2,3,4,5,6,7],[10]⟩,⟨[],[],11,[4,5,6,7],[12]⟩,⟨[],[],13,[6,7],[14]⟩,⟨[],[],15,[],[]⟩] vw vw ?_;refine rn F ?_)|(refine Qf (id:=10) [0,1,2,3,4,5,6,7,8,9,10,11] [⟨[],[],12,[1,2,3,4,5,6,8,9,10,11],[]⟩,⟨[],[],13,[],[]⟩] vw vw ?_;refine rn F ?_)|(refine Qf (id:=14) [0,1,2,3,4] [⟨[],[],5,[2,3],[6]⟩,⟨[],[],7,[],[]⟩] vw vw ?_;refine rn F ?_)|(refine Qf (id:=15) [0,1,2,3,4,5,6,7,8,9,10,11,12,13] [⟨[],[],14,[1,2,3,4,5,6,7,8,10,11,12,13],[]⟩,⟨[],[],15,[],[]⟩] vw vw ?_;refine rn F ?_)|(refine Qf (id:=19) [0,1,2,3,4] [⟨[],[],5,[1,2,3,4],[]⟩,⟨[],[],6,[],[]⟩] vw vw ?_;refine rn F ?_)|(refine Qf (id:=21) [0,1,2,3,4,5] [⟨[],[],6,[2,3,4],[7,8]⟩,⟨[],[],9,[7],[]⟩] vw vw ?_;refine rn F ?_)|(refine Qf (id:=22) [0,1,2,3,4,5,6,7,8,9,10] [⟨[],[],11,[1,2,3,4,6,7,8,9,10],[]⟩,⟨[],[],12,[],[]⟩] vw vw ?_;refine rn F ?_))
 all_goals first|rfl|(simp[Ch0,Ce0,FO];done)
def eqE(x y:E):Bool:=x.lsn==y.lsn&&(x.kind==y.kind&&(x.tx==y.tx&&(x.ptx==y.ptx&&(x.ppg==y.ppg&&(x.ref==y.ref&&(x.c.pg==y.c.pg&&(x.c.sl==y.c.sl&&(x.c.b.set==y.c.b.set&&(x.c.b.data==y.c.b.data&&(x.c.a.set==y.c.a.set&&(x.c.a.data==y.c.a.data&&x.blob==y.blob)))))))))))
def FS(x y:E):QZ x.d y.d [(0,1),(1,1),(2,1),(3,1),(4,1),(5,1),(6,1),(7,1),(8,0),(9,2),(10,0),(11,2),(12,2)]=some (eqE x y):=by
 simp[QZ,bK,E.d,eqE]
def E.okR(e:E):Bool:=e.shok&&eqE e.shp e&&decide (1<=e.lsn)&&decide (e.lsn<=1099511627776)&&bef e.ptx e.lsn&&bef e.ppg e.lsn&&bef e.ref e.lsn
def FT(e:E):VCalls prog 38 [.agg e.d] [] (Ret (.bool e.okR)):=by
 refine dd Tryz.func38 ?_;have hq:=FS e.shp e;have hs:=FR e;unfold shD at hs;simp only[E.d] at hq hs;have b1:=td e.ptx e.lsn;have b2:=td e.ppg e.lsn;have b3:=td e.ref e.lsn;have e1:e.okR=(e.shok&&eqE e.shp e&&decide (1<=e.lsn)&&decide (e.lsn<=1099511627776)&&bef e.ptx e.lsn&&bef e.ppg e.lsn&&bef e.ref e.lsn):=rfl;generalize e.okR=R at *;generalize bef e.ptx e.lsn=B1 at *;generalize bef e.ppg e.lsn=B2 at *;generalize bef e.ref e.lsn=B3 at *;generalize e.shp=s at *;generalize e.shok=ok at *;generalize eqE s e=q at *;have F:=@hq;refine rn F ?_
 repeat' (first|with_reducible exact⟨⟩|(refine sG F ?_ ?_<;>intro hZ)|refine vp F (hs) ?_|refine vp F (b1) ?_|refine vp F (b2) ?_|refine vp F (b3) ?_)
 all_goals (congr 3;rw[e1,Jp];clear e1 b1 b2 b3 hs hq;simp;first|omega|grind)
def FU(e:E):e.okR=e.okB:=by
 obtain⟨lsn,kind,tx,ptx,ppg,ref,⟨pg,sl,⟨b1,b2⟩,⟨a1,a2⟩⟩,blob⟩:=e;rw[Jp];by_cases h:kind<1\/8<kind
 ·have e1:E.shok ⟨lsn,kind,tx,ptx,ppg,ref,⟨pg,sl,⟨b1,b2⟩,⟨a1,a2⟩⟩,blob⟩ = false:=by unfold E.shok;rw [if_neg vu,if_neg vu,if_neg vu,if_neg vu,if_neg vu]
  have e2:E.kindB ⟨lsn,kind,tx,ptx,ppg,ref,⟨pg,sl,⟨b1,b2⟩,⟨a1,a2⟩⟩,blob⟩=false:=by unfold E.kindB;rw[if_neg vu,if_neg vu,if_neg vu,if_neg vu,if_neg vu]
  simp[E.okR,E.okB,e1,e2]
 ·have hk:kind = 1\/kind = 2\/kind = 3\/kind = 4\/kind = 5\/kind = 6\/kind = 7\/kind = 8:=vz;rcases hk with hk|hk|hk|hk|hk|hk|hk|hk<;>subst hk
  all_goals
   simp only[E.okR,E.okB,E.shok,E.shp,E.kindB,eqE,bef,txB,Ch.no,Ce.no,Ch.ix,Ch0,Ce0,Jc,decide_eq_true_eq,beq_iff_eq,bne_iff_ne,Jj,reduceIte,Int.reduceEq,or_self,or_false,false_or,or_true,true_or];grind
def jY(e:E):VCalls prog 38 [.agg e.d] [] (Ret (.bool e.okB)):=by
 rw[<-FU];exact FT e
end
section
structure Tx where
 id:Int
 st:Int
 n:Int
 b:Int
 l:List Int
 s:List Int
def ai:Enc Tx:=⟨6,fun t=>[.lit (.int .i64 t.id),.lit (.int .i64 t.st),.lit (.int .i64 t.n),.lit (.int .i64 t.b),.sl (fz Q7 t.l),.sl (fz Q7 t.s)],vj,fun _=>rfl⟩
def Tx.d(t:Tx):List DV:=[.int .i64 t.id,.int .i64 t.st,.int .i64 t.n,.int .i64 t.b,.pv (.sl (fz Q7 t.l)),.pv (.sl (fz Q7 t.s))]
def jZ(l:List Int)(lo hi d:Int)(i:Nat):Bool:=decide (lo<=l.getD i 0)&&decide (l.getD i 0<=hi)&&(decide (i=0)||decide (l.getD (i-1) 0+d<=l.getD i 0))
def bP(l:List Int)(lo hi d:Int):Bool:=(Jt l.length).all (jZ l lo hi d)
def ja(l:List Int)(lo hi d:Int)(i:Nat):jZ l lo hi d i=true ↔ lo<=l.getD i 0/\l.getD i 0<=hi/\(i=0\/l.getD (i-1) 0+d<=l.getD i 0):=by
 simp only[jZ,Jc,Jf,decide_eq_true_eq,and_assoc]
def Tx.sm(t:Tx):Prop:=t.l.length<=9223372036854775807/\t.s.length<=9223372036854775807
def Tx.hdB(t:Tx):Bool:=decide (1<=t.id)&&decide (t.id<=1073741824)&&decide (1<=t.st)&&decide (t.st<=3)&&decide (0<=t.n)&&decide (t.n<=1099511627776)&&(decide (t.b=0)||(decide (t.st=2)&&decide (0<t.b)&&decide (t.b<=t.n)))&&decide (t.l.length<=4096)&&decide (t.s.length<=8)
def Tx.okB(t:Tx):Bool:=t.hdB&&bP t.l 1 t.n 1&&bP t.s 0 t.n 0
def Tx0:Tx:=⟨0,0,0,0,[],[]⟩
def tC(l:List Tx)(i:Nat):Bool:=(l.getD i Tx0).okB&&(decide (i=0)||decide ((l.getD (i-1) Tx0).id<(l.getD i Tx0).id))
def lB(l:List Tx)(i:Nat):tC l i=true ↔ (l.getD i Tx0).okB=true/\(i=0\/(l.getD (i-1) Tx0).id<(l.getD i Tx0).id):=by
 simp only[tC,Jc,Jf,decide_eq_true_eq]
def al(l:List Tx):Bool:=decide (l.length<=64)&&(Jt l.length).all (tC l)
def smL(l:List Tx):Prop:=l.length<=1000000/\∀t∈l,t.sm
def pR(l:List Tx)(i:Nat)(h:i<l.length):(fz ai l)[i]?=some [.lit (.int .i64 l[i].id),.lit (.int .i64 l[i].st),.lit (.int .i64 l[i].n),.lit (.int .i64 l[i].b),.sl (fz Q7 l[i].l),.sl (fz Q7 l[i].s)]:=lz ai l i h
structure Pass{α:Type}(l:List α)(p:α->Prop) where
 i:Nat
 hi:i<=l.length
 no:∀x∈l.take i,¬p x
def Pass.start{α:Type}(l:List α)(p:α->Prop):Pass l p:=⟨0,JA _,vv⟩
def Pass.next{α:Type}{l:List α}{p:α->Prop}(s:Pass l p)(h:s.i<l.length)(hp:¬p l[s.i]):Pass l p :=
 ⟨s.i + 1,h,fun x hx=>by
  rw[Jk h,JG] at hx;rcases hx with hx|hx
  ·exact s.no x hx
  ·simp at hx; subst hx; exact hp⟩
def Pass.all(s:Pass l p)(h:¬s.i<l.length):∀x∈l,¬p x:=by
 have:=s.no;rwa [Jl vz] at this
def bA{α:Type}(l:List α)(p:α->Bool):Int:=if l.any p=true then (l.findIdx p:Int) else -1
def tq(l:List α)(p:α->Bool)(i:Nat)(h:i<l.length)(hx:p l[i]=true)(no:∀x∈l.take i,¬p x=true):bA l p=i:=by
 rw[bA,if_pos (J1.2 ⟨l[i],J2 h,hx⟩)];congr 1;rw[List.findIdx_eq h];refine⟨hx,fun j hj=>?_⟩;have:=no l[j] (J7.2 ⟨j,vz,rfl⟩);grind
def FV(l:List α)(p:α->Bool):(bA l p=-1/\l.find? p=none)\/∃i,∃h:i<l.length,bA l p=i/\l.find? p=some l[i]:=by
 by_cases ha:l.any p=true
 ·obtain ⟨x,hm,hp⟩:=J1.1 ha;have hlt:=JU ⟨x,hm,hp⟩;refine .inr ⟨l.findIdx p,hlt,by rw[bA,if_pos ha],?_⟩;rw[JV];refine⟨Ke (w:=hlt),_,hlt,rfl,fun j hj=>?_⟩;have:=List.not_of_lt_findIdx hj;simpa using this
 ·refine .inl ⟨by rw [bA,if_neg ha],?_⟩;rw[J5];intro x hx hp;exact ha (J1.2 ⟨x,hx,hp⟩)
def lo{α:Type}(l:List α)(f:α->Bool):Nat:=(l.takeWhile f).length
def FW{α:Type}(l:List α)(f:α->Bool):Prop:=∀i j:Nat,∀hi:i<l.length,∀hj:j<l.length,i<j->f l[j]=true->f l[i]=true
def FX(l:List α)(f:α->Bool):lo l f<=l.length:=(List.takeWhile_sublist _).length_le
def xX (l:List α) (f:α->Bool) (i:Nat) (hi:i<=l.length) (h1:∀k,∀hk:k < l.length,k < i->f l[k] = true) (h2:∀hi:i < l.length,f l[i] = false):lo l f = i:=by
 unfold lo;induction l generalizing i with
 |nil=>simp at hi;subst hi;rfl
 |cons a r ih =>
   cases i with
   |zero =>
     have:=h2 vv;simp only[Ka] at this;rw[Kj,this];rfl
   |succ i =>
     have h0:=h1 0 vv vz;simp only[Ka] at h0;rw[Kj,h0];simp only[if_true,Je];rw[ih i (by simpa using hi) (fun k hk hki=>h1 (k+1) (by simpa using hk) vz) (fun hi=>h2 (by simpa using hi))]
structure BS{α:Type}(l:List α)(f:α->Bool) where
 i:Nat
 j:Nat
 hij:i<=j
 hj:j<=l.length
 h1:∀k,∀hk:k<l.length,k<i->f l[k]=true
 h2:∀hj:j<l.length,f l[j]=false
def BS.start{α:Type}(l:List α)(f:α->Bool):BS l f:=⟨0,l.length,JA _,JJ _,fun k hk h=>by omega,fun h=>by omega⟩
def BS.up{α:Type}{l:List α}{f:α->Bool}(s:BS l f)(hf:FW l f)(h:Nat)(h1:s.i<=h)(h2:h<s.j)(hx:f (l[h]'(JR h2 s.hj))=true):BS l f :=
 ⟨h + 1,s.j,h2,s.hj,fun k hk hki=>by
  rcases JP k h with hlt|hge
  ·exact hf k h hk (JR h2 s.hj) hlt hx
  ·obtain rfl:k = h:=vz
   exact hx,s.h2⟩
def BS.fin(s:BS l f)(h:¬s.i<s.j):lo l f=s.i:=by
 have e:s.i=s.j:=by have:=s.hij;omega
 exact xX l f s.i (by have:=s.hj; omega) s.h1 (fun hi=>by
  have:=s.h2 (e▸hi)
  simpa only[e] using this)
def lC(l:List Tx)(i:Nat)(h:i<l.length):(fz ai l)[i]?=some [.lit (.int .i64 (l.getD i Tx0).id),.lit (.int .i64 (l.getD i Tx0).st),.lit (.int .i64 (l.getD i Tx0).n),.lit (.int .i64 (l.getD i Tx0).b),.sl (fz Q7 (l.getD i Tx0).l),.sl (fz Q7 (l.getD i Tx0).s)]:=by rw[Qd l i h];exact pR l i h
attribute [local go_sem] Tx.d ny Jb Jm Jx JH nz lD
def FY(t:Tx)(hs:t.sm):VCalls prog 173 [.agg t.d] [] (Ret (.bool t.okB)):=by
 refine dd Tryz.func173 ?_;obtain⟨id,st,n,b,l,s⟩:=t;obtain⟨hs1,hs2⟩:=hs;dsimp only at hs1 hs2;have e:(⟨id,st,n,b,l,s⟩:Tx).okB=((⟨id,st,n,b,l,s⟩:Tx).hdB&&bP l 1 n 1&&bP s 0 n 0):=rfl;have eh:(⟨id,st,n,b,l,s⟩:Tx).hdB=(decide (1<=id)&&decide (id<=1073741824)&&decide (1<=st)&&decide (st<=3)&&decide (0<=n)&&decide (n<=1099511627776)&&(decide (b=0)||(decide (st=2)&&decide (0<b)&&decide (b<=n)))&&decide (l.length<=4096)&&decide (s.length<=8)):=rfl;generalize (⟨id,st,n,b,l,s⟩:Tx).hdB=H at *;generalize (⟨id,st,n,b,l,s⟩:Tx).okB=K at *;unfold Tx.d;refine rn F ?_
 repeat' (first|with_reducible exact⟨⟩|(refine sG F ?_ ?_<;>intro hZ)|(refine sB F ?_ ?_<;>intro hZ))
 all_goals first|(rw[e,JF.2 (show ¬H=true from fun h=>by rw[eh] at h;simp only[Jc,Jf,decide_eq_true_eq] at h;omega)];rfl)|skip
 all_goals
  have hh:H=true:=by rw[eh];simp only[Jc,Jf,decide_eq_true_eq];omega
  refine Qj (fun q:Okay l.length (jZ l 1 n 1)=>⟨147,0,[(3,.int .i64 q.i),(1,.ptr 0 0)],[⟨64,true,[.int .i64 id,.int .i64 st,.int .i64 n,.int .i64 b,.pv (.sl (fz Q7 l)),.pv (.sl (fz Q7 s))]⟩]⟩) (fun q=>l.length-q.i) (Okay.start _ _) (by exact(gc [0])) ?_;intro q;have hqi:=q.hi;have hg:=fun h:q.i<l.length=>bL l q.i h
  have hgp:0<(q.i:Int)->(q.i:Int)<l.length->(fz Q7 l)[q.i-1]?=some [.lit (.int .i64 (l.getD (q.i-1) 0))]:=fun h h2=>by
   exact bL l (q.i-1) vz
  have F:=(Ja @hg @hgp)
  refine rn F ?_
  repeat' (first|with_reducible exact⟨⟩|(refine sG F ?_ ?_<;>intro hZ)|(refine sB F ?_ ?_<;>intro hZ)|(refine Qf (id:=8) [0,1,2,3,4,5,6,7,8,9,10,11,12,13,14,15,16,17,18,19,20,21,22,23,24,25,26,27,28,29,30,31,32,33] [] vw vw ?_;refine rn F ?_))
  all_goals first|(rw[e,bP,bP,de (n:=l.length) (c:=jZ l 1 n 1) (i:=q.i) vz (JF.2 fun h=>by rw[ja] at h;omega)];simp)|(exact⟨q.next vz ((ja _ _ _ _ _).2 vz),by show l.length-(q.i+1)<l.length-q.i;omega,(gc [0])⟩)|skip
  have hL:bP l 1 n 1=true:=q.all vz;clear hg hgp hqi;refine Qj (fun q:Okay s.length (jZ s 0 n 0)=>⟨147,0,[(4,.int .i64 q.i),(1,.ptr 0 0)],[⟨64,true,[.int .i64 id,.int .i64 st,.int .i64 n,.int .i64 b,.pv (.sl (fz Q7 l)),.pv (.sl (fz Q7 s))]⟩]⟩) (fun q=>s.length-q.i) (Okay.start _ _) (by exact(gc [0])) ?_;intro q;have hqi:=q.hi;have hg:=fun h:q.i<s.length=>bL s q.i h
  have hgp:0<(q.i:Int)->(q.i:Int)<s.length->(fz Q7 s)[q.i-1]?=some [.lit (.int .i64 (s.getD (q.i-1) 0))]:=fun h h2=>by
   exact bL s (q.i-1) vz
  have F:=(Ja @hg @hgp)
  refine rn F ?_
  repeat' (first|with_reducible exact⟨⟩|(refine sG F ?_ ?_<;>intro hZ)|(refine sB F ?_ ?_<;>intro hZ)|(refine Qf (id:=13) [0,1,2,3,4,5,6,7,8,9,10,11,12,13,14,15,16,17,18,19,20,21,22,23,24,25,26,27,28,29,30,31,32,33] [] vw vw ?_;refine rn F ?_))
  all_goals first|(rw[e,bP,bP,de (n:=s.length) (c:=jZ s 0 n 0) (i:=q.i) vz (JF.2 fun h=>by rw[ja] at h;omega)];simp)|(exact⟨q.next vz ((ja _ _ _ _ _).2 vz),by show s.length-(q.i+1)<s.length-q.i;omega,(gc [0])⟩)|skip
  rw[e,hh,hL,show bP s 0 n 0=true from q.all vz];rfl
def j4(l:List Tx)(hl:smL l):VCalls prog 127 [.pv (.sl (fz ai l))] [] (Ret (.bool (al l))):=by
 refine dd Tryz.func127 ?_;obtain⟨hl,hm⟩:=hl;have hr:=fun(i:Nat) (h:i<l.length)=>FY (l.getD i Tx0) (by rw[Qd l i h];exact hm _ (J2 h));unfold Tx.d at hr;refine rn F ?_
 repeat' (first|with_reducible exact⟨⟩|(refine sB F ?_ ?_<;>intro hZ))
 ·rw[al,decide_eq_false vz];rfl
 refine Qj (fun s:Okay l.length (tC l)=>⟨37,0,[(3,.int .i64 s.i),(0,.pv (.sl (fz ai l)))],[]⟩) (fun s=>l.length-s.i) (Okay.start _ _) (gc []) ?_;intro s;have hsi:=s.hi;have hg:=fun h:s.i<l.length=>lC l s.i h
 have hgp:0<(s.i:Int)->(s.i:Int)<l.length->(fz ai l)[s.i-1]?=some [.lit (.int .i64 (l.getD (s.i-1) Tx0).id),.lit (.int .i64 (l.getD (s.i-1) Tx0).st),.lit (.int .i64 (l.getD (s.i-1) Tx0).n),.lit (.int .i64 (l.getD (s.i-1) Tx0).b),.sl (fz Q7 (l.getD (s.i-1) Tx0).l),.sl (fz Q7 (l.getD (s.i-1) Tx0).s)]:=fun h h2=>by
  exact lC l (s.i-1) vz
 have F:=(Ja @hg @hgp)
 refine rn F ?_
 repeat' (first|with_reducible exact⟨⟩|(refine sG F ?_ ?_<;>intro hZ)|(refine sB F ?_ ?_<;>intro hZ)|refine vp F (hr s.i vz) ?_|(refine Qf (id:=6) [0,1,2,3] [⟨[],[],4,[0,1,2],[5,6,7,8,9,10,11,12,13,14,15,16,17,18,19,20,21,22,23]⟩] vw vw ?_;refine rn F ?_))
 all_goals first|(rw[al,de (i:=s.i) vz (JF.2 fun h=>by rw[lB] at h;omega),JN])|(rw[al,de (i:=s.i) vz (JF.2 fun h=>by rw[lB] at h;first|exact absurd h.1 vq|(have h1:=h.1;simp_all)),JN])|(rw[al,s.all vz,decide_eq_true vz];rfl)|(exact⟨s.next vz ((lB _ _).2 ⟨vq,vz⟩),by show l.length-(s.i+1)<l.length-s.i;omega,(gc [])⟩)|skip
def cI{α:Type}(l:List α)(p:α->Bool):List α:=l.filter fun x=>!p x
structure DF{α:Type}(l:List α)(p:α->Bool) where
 j:Nat
 hj:j<=l.length
 cur:List α
 hl:cur.length=l.length
 h1:cur.take (cI (l.take j) p).length=cI (l.take j) p
 h2:cur.drop j=l.drop j
 h3:(cI (l.take j) p).length<j
def DF.i{α:Type}{l:List α}{p:α->Bool}(s:DF l p):Nat:=(cI (l.take s.j) p).length
def tu(l:List α)(p:α->Bool)(j:Nat)(h:j<l.length):cI (l.take (j+1)) p=cI (l.take j) p++(if p l[j]=true then [] else [l[j]]):=by
 rw[Jk h,cI,JS];cases hp:p l[j]<;>simp[cI,hp]
def FZ(l:List α)(p:α->Bool)(h:∀x∈l,¬p x=true):cI l p=l:=by
 rw[cI,List.filter_eq_self];intro x hx;simpa using h x hx
def DF.start{α:Type}(l:List α)(p:α->Bool)(i:Nat)(h:i<l.length)(hp:p l[i]=true)(no:∀x∈l.take i,¬p x=true):DF l p:=
 have e:cI (l.take (i+1)) p=l.take i:=by rw[tu l p i h,if_pos hp,JQ,FZ _ p no]
 have el:(l.take i).length=i:=by rw[Jm];omega
 ⟨i+1,h,l,rfl,by rw[e,el],rfl,by rw[e,el];omega⟩
def DF.get{α:Type}{l:List α}{p:α->Bool}(s:DF l p)(h:s.j<l.length)(d:α):s.cur.getD s.j d=l[s.j]:=by
 have:=congrArg (fun x=>x[0]?) s.h2;grind
def DF.out{α:Type}{l:List α}{p:α->Bool}(s:DF l p)(h:s.j<l.length)(hp:p l[s.j]=true):DF l p :=
 have e:cI (l.take (s.j+1)) p=cI (l.take s.j) p:=by rw[tu l p s.j h,if_pos hp,JQ]
 ⟨s.j + 1,h,s.cur,s.hl,by rw [e]; exact s.h1,by
  have:=congrArg (List.drop 1) s.h2
  rwa [Kz,Kz] at this,by rw[e]; have:=s.h3; omega⟩
def F0(l:List α)(p:α->Bool):(cI l p).length<=l.length:=JW _ _
def j5(l:List Tx):(cells ai l).length=l.length*6:=QK ai l
def lE(l:List Tx)(n:Nat)(h:l.length*6<=n):(cells ai l).take n=cells ai l:=by rw[Jl];rw[j5];exact h
def nA(l:List Tx)(T:TypeId)(a b:Nat)(h:a<=b/\b<=l.length):cO (some (none,T,6)) (fz ai l) a b=some (.pv (.sl (fz ai ((l.take b).drop a)))):=nw ai l T a b h
def nB(l:List Tx):(fz ai l=[]\/(fz ai l)[0]?.map JO=some 6)=True:=jW ai l
def fP(h:l.length=len):bw n hp 0 6 len (some (cells ai l))=some (.sl (fz ai l)):=Q3 ai h
def tv(l:List Tx):DV.wk.go (cells ai l)=cells ai l:=gE ai l fun a p hp=>by
 simp[ai] at hp;rcases hp with rfl|rfl|rfl|rfl|rfl|rfl<;>rfl
def lF(r:List Tx×Int):DV:=.tup [.pv (.sl (fz ai r.1)),.int .i64 r.2]
def idT(l:List Tx)(a:Int):Int:=bA l fun t=>t.id==a
def j6(l:List Tx)(a:Int):Nat:=lo l fun t=>decide (t.id<a)
def jc(l:List Tx)(t:Tx):List Tx:=l.take (j6 l t.id)++t::l.drop (j6 l t.id)
def aY(l:List Tx)(a:Int):List Tx×Int:=
 if al l=false then ([],15) else if a<1\/1073741824<a then ([],1) else if 0<=idT l a then ([],25) else if l.length=64 then ([],21) else (jc l ⟨a,1,0,0,[],[]⟩,0)
def lG{l:List Tx}(h:al l=true):l.length<=64:=by
 simp[al] at h;exact h.1
def tw(h:al l=true):(l.map (·.id)).Pairwise (·<·):=by
 simp only[al,Jc,JK,JL] at h;obtain⟨_,h⟩:=h;rw[Jr]
 have step:∀i,∀h2:i+1<l.length,l[i].id<l[i+1].id:=fun i h2=>by
  have:=((lB l (i+1)).1 (h (i+1) h2)).2;rw[Qd l (i+1) h2,J6,Qd l i vz] at this;omega
 have all:∀d i,∀h2:i+d+1<l.length,l[i].id<l[i+d+1].id:=fun d=>by
  induction d with
  |zero=>exact step
  |succ d ih=>intro i h2;exact KC (ih i vz) (step (i+d+1) h2)
 intro i j hi hj hij;rw[Kq,Kq];have:=all (j-i-1) i (by rw[List.length_map] at hj;omega);grind
def bF(l:List Tx)(a:Int):List Tx:=cI l fun t=>t.id==a
def fQ(t:Tx)(a:Int):Bool:=decide (0<t.l.length)&&decide (a<t.l.getD (t.l.length-1) 0)
def F3(l:List Int)(h:0<l.length):(fz Q7 l)[((l.length:Int)-1).toNat]?=some [.lit (.int .i64 (l.getD (l.length-1) 0))]:=by
 rw[show((l.length:Int)-1).toNat=l.length-1 by omega];exact bL l (l.length-1) vz
def QB(l:List Tx)(a:Int):idT l a=-1\/∃i,∃h:i<l.length,idT l a=i/\l[i].id=a:=by
 unfold idT bA;grind
def Qu(l:List Tx)(a:Int):Tx×Int:=
 if al l=false then (Tx0,15) else if idT l a<0 then (Tx0,16) else if (l.getD (idT l a).toNat Tx0).st≠1 then (Tx0,15) else (l.getD (idT l a).toNat Tx0,0)
def jd{l:List Tx}{a:Int}(h:(Qu l a).2=0):al l=true/\∃i,∃hi:i<l.length,idT l a=i/\l[i].id=a/\(Qu l a).1=l[i]:=by
 unfold Qu at h |-;split at h
 ·simp at h
 rename_i h1;split at h
 ·simp at h
 rename_i h2;split at h
 ·simp at h
 rename_i h3;refine⟨by simpa using h1,?_⟩;rcases QB l a with h4|⟨i,hi,h4,h5⟩
 ·omega
 ·rw [if_neg h1,if_neg h2,if_neg h3];exact⟨i,hi,h4,h5,by rw[h4,Jz,Qd l i hi]⟩
def iq(l:List Int)(x:Int):cells Q7 l++[.pv (.lit (.int .i64 x))]=cells Q7 (l++[x]):=by rw[QC];rfl
def nC(l:List Int):(cells Q7 l).length=l.length*1:=QK Q7 l
def nD(l:List Int)(n:Nat)(h:l.length*1<=n):(cells Q7 l).take n=cells Q7 l:=by rw[Jl];rw[nC];exact h
def nE(l:List Int)(T:TypeId)(a b:Nat)(h:a<=b/\b<=l.length):cO (some (none,T,1)) (fz Q7 l) a b=some (.pv (.sl (fz Q7 ((l.take b).drop a)))):=nw Q7 l T a b h
def nF(l:List Int):(fz Q7 l=[]\/(fz Q7 l)[0]?.map JO=some 1)=True:=jW Q7 l
def eK(h:al l=true)(hi:i<l.length):l[i].okB=true:=by
 simp only[al,Jc,JK,JL,decide_eq_true_eq] at h;have:=((lB l i).1 (h.2 i hi)).1;grind
def fq(l:List Tx)(a:Int):List Tx×Int:=
 if (Qu l a).2≠0 then ([],(Qu l a).2) else if (Qu l a).1.s.length=8 then ([],21) else (l.set (idT l a).toNat { (Qu l a).1 with s:=(Qu l a).1.s++[(Qu l a).1.n] },0)
def ft(l:List Tx)(a sv:Int):List Tx×Int:=
 if (Qu l a).2≠0 then ([],(Qu l a).2)
 else if sv<0\/((Qu l a).1.s.length:Int)<=sv then ([],19)
 else if fQ (Qu l a).1 ((Qu l a).1.s.getD sv.toNat 0)=true then (l.set (idT l a).toNat { (Qu l a).1 with s:=(Qu l a).1.s.take (sv.toNat+1),st:=2,b:=(Qu l a).1.s.getD sv.toNat 0 },0)
 else (l.set (idT l a).toNat { (Qu l a).1 with s:=(Qu l a).1.s.take (sv.toNat+1) },0)
def F4{lo hi:Int}(h:bP l lo hi 1=true):l.Pairwise (·<·):=by
 simp only[bP,JK,JL] at h;rw[Jr]
 have step:∀i,∀h2:i+1<l.length,l[i]<l[i+1]:=fun i h2=>by
  have:=(ja _ _ _ _ _).1 (h (i+1) h2);rw[Qd l (i+1) h2,J6,Qd l i vz] at this;omega
 have all:∀d i,∀h2:i+d+1<l.length,l[i]<l[i+d+1]:=fun d=>by
  induction d with
  |zero=>exact step
  |succ d ih=>intro i h2;exact KC (ih i vz) (step (i+d+1) h2)
 intro i j hi hj hij;have:=all (j-i-1) i vz;grind
def xY{t:Tx}(h:t.okB=true):t.l.Pairwise (·<·):=by
 simp only[Tx.okB,Jc] at h;exact F4 h.1.2
def je{t:Tx}(h:t.okB=true):t.l.length<=4096/\t.s.length<=8:=by
 simp only[Tx.okB,Tx.hdB,Jc,decide_eq_true_eq] at h;omega
def QD(t:Tx):Tx:=if t.st=2/\fQ t t.b=false then { t with st:=1,b:=0 } else t
def aX(t:Tx)(e:E):Tx:=
 if e.kind=1 then { t with n:=e.lsn,l:=t.l++[e.lsn] }
 else if e.kind=2 then { t with n:=e.lsn,l:=t.l.filter fun x=>decide (x≠e.ref) }
 else { t with n:=e.lsn,st:=3,b:=0,s:=[] }
def ir(l:List Tx)(i:Nat)(t:Tx)(e:E):List Tx×Int:=
 if e.ptx≠t.n\/(e.kind=2/\e.ref ∉ t.l) then ([],13)
 else if e.kind=3\/e.kind=5 then (bF l e.tx,0)
 else (l.set i (QD (aX t e)),0)
def QA(l:List Tx)(e:E):List Tx×Int:=
 if al l=false then ([],15) else if e.okB=false then ([],12) else if e.tx=0 then (l,0) else if idT l e.tx<0 then ([],16)
 else ir l (idT l e.tx).toNat (l.getD (idT l e.tx).toNat Tx0) e
def nG{e:E}(h:e.okB=true)(ht:e.tx≠0):e.kind=1\/e.kind=2\/e.kind=3\/e.kind=4\/e.kind=5:=by
 obtain⟨lsn,kind,tx,ptx,ppg,ref,c,blob⟩:=e;simp only[E.okB,Jc] at h;have h:=h.2;rw[xS] at h;grind
def F5{l:List Tx}{e:E}(h1:al l=true)(h2:e.okB=true)(h3:e.tx≠0){i:Nat}(hi:i<l.length)(h4:idT l e.tx=i):QA l e=ir l i l[i] e:=by
 unfold QA;grind
def w0:List Tx:=[⟨1,1,0,0,[],[]⟩]
def w1:List Tx:=[⟨1,1,1,0,[1],[]⟩]
def w2:List Tx:=[⟨1,1,1,0,[1],[1]⟩]
def w3:List Tx:=[⟨1,1,2,0,[1,2],[1]⟩]
def w4:List Tx:=[⟨1,1,3,0,[1,2,3],[1]⟩]
def w5:List Tx:=[⟨1,2,3,1,[1,2,3],[1]⟩]
end
section
attribute [local go_sem] Tx.d j5 lE nA nB fP nC nD nE nF ny Jb Jm Jx JH nz lD
def pS(l:List Tx)(hl:l.length<=1000000)(a:Int):VCalls prog 128 [.pv (.sl (fz ai l)),.int .i64 a] [] (Ret (.int .i64 (idT l a))):=by
 refine dd Tryz.func128 ?_;refine rn F ?_;refine Qj (fun i:Pass l (fun x=>(x.id==a)=true)=>⟨20,0,[(5,.int .i64 i.i),(0,.pv (.sl (fz ai l))),(1,.int .i64 a)],[]⟩) (fun i=>l.length-i.i) (Pass.start l _) (gc []) ?_;intro i;have hi:=i.hi;have hg:=fun h:i.i<l.length=>lC l i.i h;have F:=@hg;refine rn F ?_
 repeat' (first|with_reducible exact⟨⟩|(refine sB F ?_ ?_<;>intro hZ))
 ·have:=tq l (fun x=>x.id == a) i.i vz (by rw [<-Qd l i.i vz Tx0];simpa using (by assumption:(l.getD i.i Tx0).id = a)) i.no;rw[idT,this]
 ·exact⟨i.next vz (by rw[<-Qd l i.i vz Tx0];simpa using(by assumption:¬(l.getD i.i Tx0).id=a)),by show l.length-(i.i+1)<l.length-i.i;omega,(gc [])⟩
 ·have:=i.all vz;rw[idT,bA,if_neg (by simpa using this)]
def gF(l:List Tx)(hl:l.length<=1000000)(a:Int):VCalls prog 149 [.pv (.sl (fz ai l)),.int .i64 a] [] (Ret (.int .i64 (idT l a))):=by
 refine dd Tryz.func149 ?_;have h:=pS l hl a;refine rn F ?_
 repeat' (first|with_reducible exact⟨⟩|refine vp F (h) ?_)
def tz(l:List Tx)(hl:l.length<=1000000)(i:Nat)(hi:i<l.length)(t:Tx):VCalls prog 193 [.pv (.sl (fz ai l)),.int .i64 i,.agg t.d] [] (Ret (.pv (.sl (fz ai (l.set i t))))):=by
 refine dd Tryz.func193 ?_;have hb:i*6+6<=l.length*6:=vz;have hse:(cells ai l).take (i*6)++[.pv (.lit (.int .i64 t.id)),.pv (.lit (.int .i64 t.st)),.pv (.lit (.int .i64 t.n)),.pv (.lit (.int .i64 t.b)),.pv (.sl (fz Q7 t.l)),.pv (.sl (fz Q7 t.s))]++(cells ai l).drop (i*6+6)=cells ai (l.set i t):=tA ai l i t hi;have hle:(l.set i t).length=l.length:=Kv;refine rn F ?_;have F:=(Ja @hb (Ja @hse @hle))
 (refine rn F ?_;try with_reducible exact⟨⟩)
def pT(t:Tx)(hs:t.sm):VCalls prog 194 [.agg t.d] [] (Ret (.agg (QD t).d)):=by
 refine dd Tryz.func194 ?_;have hg:=fun h:0<t.l.length=>F3 t.l h;simp only[lD] at hg;obtain⟨id,st,n,b,l,s⟩:=t;obtain⟨h1,h2⟩:=hs;dsimp only at h1 h2 hg;have eS:QD ⟨id,st,n,b,l,s⟩=if st=2/\fQ ⟨id,st,n,b,l,s⟩ b=false then ⟨id,1,n,0,l,s⟩ else ⟨id,st,n,b,l,s⟩:=rfl
 have eL:fQ ⟨id,st,n,b,l,s⟩ b=(decide (0<l.length)&&decide (b<l.getD (l.length-1) 0)):=rfl;generalize QD ⟨id,st,n,b,l,s⟩=u at *;generalize fQ ⟨id,st,n,b,l,s⟩ b=B at *;have F:=@hg;refine rn F ?_
 repeat' (first|with_reducible exact⟨⟩|(refine sG F ?_ ?_<;>intro hZ)|(refine sB F ?_ ?_<;>intro hZ)|(refine Qf (id:=1) [0,1,2,3,4,5,6,7,8,9,10,11,12,13,14,15,16,17,18,19,20,21] [] vw vw ?_;refine rn F ?_))
 all_goals first|(rw[eS,if_pos ⟨vq,by rw[eL,decide_eq_false (show ¬b<l.getD (l.length-1) 0 by omega),JN]⟩])|(rw[eS,if_pos ⟨vq,by rw[eL,decide_eq_false (show ¬0<l.length by omega),Bool.false_and]⟩])|(rw[eS,if_neg (by rintro⟨h,_⟩;omega)])|(rw[eS,if_neg (by rintro⟨_,h⟩;rw[eL,decide_eq_true (show b<l.getD (l.length-1) 0 by omega),decide_eq_true (show 0<l.length by omega)] at h;cases h)])
def fu(l:List Tx)(t:Tx):cells ai l++[.pv (.lit (.int .i64 t.id)),.pv (.lit (.int .i64 t.st)),.pv (.lit (.int .i64 t.n)),.pv (.lit (.int .i64 t.b)),.pv (.sl (fz Q7 t.l)),.pv (.sl (fz Q7 t.s))]=cells ai (l++[t]):=by rw[QC];rfl
def xZ(l:List Tx)(a:Int):(bF l a).length<=l.length:=F0 _ _
def F6(l:List Tx)(a:Int)(i:Nat)(h:i<l.length):bF (l.take (i+1)) a=if (l.getD i Tx0).id=a then bF (l.take i) a else bF (l.take i) a++[l.getD i Tx0]:=by
 rw[Qd l i h];unfold bF;rw[tu l _ i h];grind
def tB(l:List Tx)(hl:l.length<=1000000)(a:Int):VCalls prog 192 [.pv (.sl (fz ai l)),.int .i64 a] [] (Ret (.pv (.sl (fz ai (bF l a))))):=by
 refine dd Tryz.func192 ?_;refine rn F ?_;refine VLoop.nilOwn 5 64 6 rfl ?_;refine Qj (fun s:To l.length=>⟨28,0,[(6,.int .i64 s.i),(5,.own 0 6 0 (bF (l.take s.i) a).length),(0,.pv (.sl (fz ai l))),(1,.int .i64 a)],[⟨64,true,cells ai (bF (l.take s.i) a)⟩]⟩) (fun s=>l.length-s.i) ⟨0,JA _⟩ (gc [0]) ?_;intro s;have hi:=s.hi;have hg:=fun h:s.i<l.length=>lC l s.i h;have hle:=xZ (l.take s.i) a;rw[Jm] at hle;have hb:((bF (l.take s.i) a).length+1)*80<=140737488355328:=vz;have hs:=F6 l a s.i;have F:=(Ja @hg (Ja @hb @fu))
 refine rn F ?_
 repeat' (first|with_reducible exact⟨⟩|(refine sB F ?_ ?_<;>intro hZ))
 ·replace hs:=hs vz;rw[if_neg vq] at hs;refine⟨⟨s.i+1,vz⟩,by show l.length-(s.i+1)<l.length-s.i;omega,?_⟩;rw[hs,Jb];exact(gc [2])
 ·replace hs:=hs vz;rw[if_pos vq] at hs;refine⟨⟨s.i+1,vz⟩,by show l.length-(s.i+1)<l.length-s.i;omega,?_⟩;rw[hs];exact(gc [0])
 ·rw[Jl vz]
def iu(l:List Tx)(a:Int):Int×Int:=
 if al l=false then (0,15) else if idT l a<0 then (0,16) else if (l.getD (idT l a).toNat Tx0).st≠1 then (0,15) else (idT l a,0)
def x8(l:List Tx)(a:Int):(iu l a).2=(Qu l a).2:=by
 unfold iu Qu;grind
def x9(h:(Qu l a).2=0):(iu l a).1=idT l a:=by
 unfold iu;unfold Qu at h;grind
def ya(l:List Tx)(hs:smL l)(a:Int):VCalls prog 221 [.pv (.sl (fz ai l)),.int .i64 a] [] (Ret (.tup [.int .i64 (iu l a).1,.int .i64 (iu l a).2])):=by
 refine dd Tryz.func221 ?_;have c1:=j4 l hs;have c2:=pS l hs.1 a;unfold iu;rcases QB l a with h|⟨i,hi,h,hid⟩
 ·rw [h] at c2 |-;refine rn F ?_
  repeat' (first|with_reducible exact⟨⟩|(refine sB F ?_ ?_<;>intro hZ)|refine vp F (c1) ?_|refine vp F (c2) ?_)
  all_goals rfl
 ·rw [h] at c2 |-;have hg:=lC l i hi;rw[Jz,if_neg (show ¬(i:Int)<0 by omega)];have F:=@hg;refine rn F ?_
  repeat' (first|with_reducible exact⟨⟩|(refine sB F ?_ ?_<;>intro hZ)|refine vp F (c1) ?_|refine vp F (c2) ?_)
  all_goals first|rfl|(rw[if_pos vq])|(rw[if_neg vz])
def F7(l:List Tx)(hs:smL l)(a:Int):VCalls prog 177 [.pv (.sl (fz ai l)),.int .i64 a] [] (Ret (lF (fq l a))):=by
 refine VCalls.unwk ?_;refine dd Tryz.func177 ?_;have c1:=ya l hs a;have hok:=@jd l a;rw[x8] at c1;unfold fq;by_cases hz:(Qu l a).2=0
 ·obtain ⟨hv,i,hi,h1,h2,h3⟩:=hok hz;rw[x9 hz,h1,hz] at c1;have hts:=je (eK hv hi);have hg:=pR l i hi;have hw:=tz l hs.1 i hi ⟨l[i].id,l[i].st,l[i].n,l[i].b,l[i].l,l[i].s++[l[i].n]⟩;rw[if_neg (by rw[hz];simp),h3,h1,Jz];generalize l[i]=t at *;obtain⟨id,st,n,b,q,s⟩:=t;dsimp only at hts hg hw;have F:=(Ja @hg @iq)
  refine rn F ?_
  repeat' (first|with_reducible exact⟨⟩|(refine sB F ?_ ?_<;>intro hZ)|refine vp F (c1) ?_|(refine pU [3] _ _ (hw) rfl ⟨⟨vv,Qw _ _ _⟩,trivial⟩ vj rfl wu ?_ ?_;(focus (refine rd F));refine rn F ?_)|(refine Qf (id:=7) [0,1,3,4] [⟨[5],[],2,[0,3,4],[]⟩,⟨[5],[5],6,[0,1,3,4],[7]⟩,⟨[],[],8,[],[]⟩] vw vw ?_;refine rn F ?_))
  all_goals first|rfl|(rw[if_pos vz];rfl)|(rw[if_neg vz];rfl)|skip
 ·generalize Qu l a = r at *;generalize (iu l a).1=j at *;rw[if_pos hz];have F:=trivial;refine rn F ?_
  repeat' (first|with_reducible exact⟨⟩|refine vp F (c1) ?_)
  all_goals first|rfl|contradiction|skip
def yb{l:List Tx}{a:Int}(h:(Qu l a).2=0):(Qu l a).1.st=1/\(Qu l a).1.b=0:=by
 obtain⟨hv,i,hi,h1,h2,h3⟩:=jd h
 have hst:(Qu l a).1.st=1:=by
  unfold Qu at h |-;split at h
  ·simp at h
  ·rename_i q1;split at h
   ·simp at h
   ·rename_i q2;split at h
    ·simp at h
    ·rename_i q3;rw[if_neg q1,if_neg q2,if_neg q3];simpa using q3
 refine⟨hst,?_⟩;have ho:=eK hv hi;rw[h3] at hst |-;simp only[Tx.okB,Tx.hdB,Jc,Jf,decide_eq_true_eq] at ho;omega
def F8(l:List Tx)(hs:smL l)(a sv:Int):VCalls prog 178 [.pv (.sl (fz ai l)),.int .i64 a,.int .i64 sv] [] (Ret (lF (ft l a sv))):=by
 refine VCalls.unwk ?_;refine dd Tryz.func178 ?_;have c1:=ya l hs a;have hok:=@jd l a;have hab:=@yb l a;rw[x8] at c1;unfold ft;by_cases hz:(Qu l a).2=0
 ·obtain ⟨hv,i,hi,h1,h2,h3⟩:=hok hz;obtain⟨hst,hb0⟩:=hab hz;rw[x9 hz,h1,hz] at c1;have hts:=je (eK hv hi);have hg:=pR l i hi;rw[if_neg (by rw[hz];simp),h3,h1,Jz];rw[h3] at hst hb0;have hw:=tz l hs.1 i hi;by_cases hr:sv<0\/((l[i].s.length:Int)<=sv)
  ·generalize l[i] = t at *;obtain⟨id,st,n,b,q,s⟩:=t;dsimp only at hr hg |-;rw[if_pos hr];have F:=@hg;refine rn F ?_
   repeat' (first|with_reducible exact⟨⟩|(refine sG F ?_ ?_<;>intro hZ)|refine vp F (c1) ?_)
   all_goals first|rfl|(exfalso;omega)
  obtain⟨k,rfl⟩:∃k:Nat,sv=k:=⟨sv.toNat,vz⟩
  have hk:k<l[i].s.length:=vz;rw[if_neg vz,Jz];have hw2:=hw (QD ⟨l[i].id,2,l[i].n,l[i].s.getD k 0,l[i].l,l[i].s.take (k+1)⟩);generalize l[i]=t at *;obtain⟨id,st,n,b,q,s⟩:=t;dsimp only at hts hg hk hst hb0 hw2 |-;subst hst hb0;have hse:=pT ⟨id,2,n,s.getD k 0,q,s.take (k+1)⟩ ⟨by show q.length<=_;omega,by show(s.take (k+1)).length<=_;rw[Jm];omega⟩
  have eS:QD ⟨id,2,n,s.getD k 0,q,s.take (k+1)⟩=if fQ ⟨id,1,n,0,q,s⟩ (s.getD k 0)=true then ⟨id,2,n,s.getD k 0,q,s.take (k+1)⟩ else ⟨id,1,n,0,q,s.take (k+1)⟩:=by
   unfold QD;have e:fQ ⟨id,2,n,s.getD k 0,q,s.take (k+1)⟩ (s.getD k 0)=fQ ⟨id,1,n,0,q,s⟩ (s.getD k 0):=rfl;cases hB:fQ ⟨id,1,n,0,q,s⟩ (s.getD k 0)
   ·rw[if_pos ⟨rfl,by rw[<-hB];exact e⟩];rfl
   ·rw[if_neg (by rintro⟨_,h⟩;rw[show fQ ⟨id,2,n,s.getD k 0,q,s.take (k+1)⟩ (s.getD k 0)=true from e.trans hB] at h;cases h)];rfl
  have hgc:((cells Q7 (s.take (k+1))).drop k).take 1=[.int .i64 (s.getD k 0)]:=by
   have hgc:(cells Q7 (s.take (k+1)))[k]?=some (.int .i64 (s.getD k 0)):=by
    rw[tD _ _ (by rw[Jm];omega)];simp[Jn,Kl]
   obtain⟨h,e⟩:=List.getElem?_eq_some_iff.1 hgc;rw[List.drop_eq_getElem_cons h,e];rfl
  have hgd:(cells Q7 (s.take (k+1)))[k]?=some (.int .i64 (s.getD k 0)):=by
   rw[tD _ _ (by rw[Jm];omega)];simp[Jn,Kl]
  have hl1:(s.take (k+1)).length=k+1:=by rw[Jm];omega
  have ek:((k:Int)+1).toNat=k+1:=vz
  have fin:(if fQ ⟨id,1,n,0,q,s⟩ (s.getD k 0)=true then (l.set i ⟨id,2,n,s.getD k 0,q,s.take (k+1)⟩,(0:Int)) else (l.set i ⟨id,1,n,0,q,s.take (k+1)⟩,0))=(l.set i (QD ⟨id,2,n,s.getD k 0,q,s.take (k+1)⟩),0):=by
   rw[eS];split<;>rfl
  rw[fin];clear fin eS;generalize hT:QD ⟨id,2,n,s.getD k 0,q,s.take (k+1)⟩=T at *;have F:=(Ja @hg (Ja @hl1 (Ja @ek (Ja @hgc @hgd))))
  refine rn F ?_
  repeat' (first|with_reducible exact⟨⟩|refine vp F (c1) ?_|(refine pU [1] _ _ (hse) rfl ⟨⟨vv,Qw _ _ _⟩,trivial⟩ vj rfl wu ?_ ?_;(focus (refine rd F));refine rn F ?_)|refine vp F (hw2) ?_|(refine Qf (id:=8) [0,1,2,3,4,5] [⟨[],[],6,[2,3,4],[7]⟩,⟨[],[],8,[],[]⟩] vw vw ?_;refine rn F ?_))
  all_goals first|rfl|skip
 ·generalize Qu l a = r at *;generalize (iu l a).1=j at *;rw[if_pos hz];have F:=trivial;refine rn F ?_
  repeat' (first|with_reducible exact⟨⟩|refine vp F (c1) ?_)
  all_goals first|rfl|contradiction|skip
end
section
attribute [local go_sem] Tx.d j5 lE nA nB fP nC nD nE nF ny Jb Jm Jx JH nz lD dP nH nI iv iw yc yd pV pW pX pY tv
structure Fr(l:List Tx)(a:Int) where
 j:Nat
 hj:j<=l.length
 lt:∀k,∀h:k<l.length,k<j->l[k].id<a
def Fr.fin{l:List Tx}{a:Int}(s:Fr l a)(h:∀h:s.j<l.length,¬l[s.j].id<a):j6 l a=s.j:=
 xX l _ s.j s.hj (fun k hk hkj=>decide_eq_true (s.lt k hk hkj)) (fun hj=>decide_eq_false (h hj))
def F9{l:List Tx}(h:j<=l.length):(l.take j).length=j:=by rw[Jm];omega
def Ga(l:List Tx)(j:Nat)(h:j<l.length):cells ai (l.take j)++[.pv (.lit (.int .i64 (l.getD j Tx0).id)),.pv (.lit (.int .i64 (l.getD j Tx0).st)),.pv (.lit (.int .i64 (l.getD j Tx0).n)),.pv (.lit (.int .i64 (l.getD j Tx0).b)),.pv (.sl (fz Q7 (l.getD j Tx0).l)),.pv (.sl (fz Q7 (l.getD j Tx0).s))]=cells ai (l.take (j+1)):=by
 rw[fu,Jk h,Qd l j h]
def ye (l:List Tx) (hs:smL l) (a:Int):VCalls prog 97 [.pv (.sl (fz ai l)),.int .i64 a] [] (Ret (lF (aY l a))):=by
 refine VCalls.unwk ?_;have hl:=hs.1;have c1:=j4 l hs;have c2:=pS l hl a;have eS:aY l a=if al l=false then ([],15) else if a<1\/1073741824<a then ([],1) else if 0<=idT l a then ([],25) else if l.length=64 then ([],21) else (l.take (j6 l a)++⟨a,1,0,0,[],[]⟩::l.drop (j6 l a),0):=rfl
 have hfin:=@Fr.fin l a;have hp:j6 l a<=l.length:=FX _ _;have hsm:=@lG l;generalize idT l a=d at *;generalize aY l a=res at *;generalize al l=T at *;refine tE (fn:=Tryz.f97) (c:=dP Tryz.f97) Tryz.func97 rfl vw (by simp[Tryz.f97]) ?_;refine tF 5 ?_;generalize hrest:eM 5 (dP Tryz.f97)=rest;(unfold Tryz.f97;refine rn trivial ?_)
 have F:=trivial;(refine rn F ?_;try with_reducible exact⟨⟩)
 repeat' (first|(refine sG F ?_ ?_<;>intro hZ<;>try with_reducible exact⟨⟩)|(refine sB F ?_ ?_<;>intro hZ<;>try with_reducible exact⟨⟩)|(refine sD F ?_ ?_<;>intro hZ<;>try with_reducible exact⟨⟩)|(refine vp F (c1) ?_;try with_reducible exact⟨⟩)|(refine vd F (c1) ?_;try with_reducible exact⟨⟩)|(refine vl F (c1) ?_;try with_reducible exact⟨⟩)|(refine vp F (c2) ?_;try with_reducible exact⟨⟩)|(refine vd F (c2) ?_;try with_reducible exact⟨⟩)|(refine vl F (c2) ?_;try with_reducible exact⟨⟩)|(refine Qf (id:=14) [0,1,2,5,6,7,8] [⟨[3],[3],4,[1,2,5,6,7,8],[]⟩,⟨[],[],9,[0,1,2,5,6,7],[]⟩,⟨[],[],10,[],[]⟩,⟨[],[],11,[],[]⟩] vw vw ?_;refine rn F ?_;try with_reducible exact⟨⟩)|(refine eO vw vw ?_;refine rn F ?_;try with_reducible exact⟨⟩))
 all_goals first
  | (rw [eS]; repeat (first | rw [if_pos wz] | rw [if_neg (by first | assumption | omega | (rw [show T = true by assumption]; decide))])
     rfl)
  |skip
 rw[eS];repeat (first|rw[if_pos wz]|rw[if_neg (by first|assumption|omega|(rw[show T=true by assumption];decide))])
 have hsm:=hsm vq;refine VLoop.nilOwn 6 64 6 rfl ?_;refine Qj (fun s:Fr l a=>⟨60,0,[(7,.int .i64 s.j),(6,.own 0 6 0 s.j),(0,.pv (.sl (fz ai l))),(1,.int .i64 a)],[⟨64,true,cells ai (l.take s.j)⟩]⟩) (fun s=>l.length-s.j) ⟨0,JA _,fun k _ h=>by omega⟩ (gc [0]) ?_;intro s;have hj:=s.hj;have hlt:=s.lt;have hf:=hfin s;have htl:=F9 s.hj;have hg:=fun h:s.j<l.length=>lC l s.j h;have hts:=fun h:s.j<l.length=>Ga l s.j h;have hcl:(cells ai (l.take s.j)).length=s.j*6:=by rw[j5,htl]
 have hta:(cells ai (l.take s.j)).take (s.j*6)=cells ai (l.take s.j):=lE _ _ (by rw[htl];exact JJ _);have hb:(s.j+1)*80<=140737488355328:=vz
 have htx:(cells ai (l.take s.j)++([.pv (.lit (.int .i64 a)),.pv (.lit (.int .i64 1)),.pv (.lit (.int .i64 0)),.pv (.lit (.int .i64 0)),.pv (.slc []),.pv (.slc [])]:List DV)).take ((s.j+1)*6)=cells ai (l.take s.j)++[.pv (.lit (.int .i64 a)),.pv (.lit (.int .i64 1)),.pv (.lit (.int .i64 0)),.pv (.lit (.int .i64 0)),.pv (.slc []),.pv (.slc [])]:=by
  rw[Jl];rw[Jb,hcl];simp;omega
 have hb2:(s.j+1+(l.length-s.j))*80<=140737488355328:=vz;have hb3:(s.j+1)*6<=s.j*6+6:=vz
 have hw:DV.wk.go (cells ai (l.take s.j)++[.pv (.lit (.int .i64 a)),.pv (.lit (.int .i64 1)),.pv (.lit (.int .i64 0)),.pv (.lit (.int .i64 0)),.pv (.slc []),.pv (.slc [])]++cells ai (l.drop s.j))=cells ai (l.take s.j++⟨a,1,0,0,[],[]⟩::l.drop s.j):=by
  rw[yf,yf,tv,tv,QC,J9];rfl
 have hfl:(l.take s.j++(⟨a,1,0,0,[],[]⟩:Tx)::l.drop s.j).length=s.j+1+(l.length-s.j):=by
  rw[Jb,Je,Jx,htl];omega
 have F:=(Ja @hg (Ja @hts (Ja @hcl (Ja @hta (Ja @hb (Ja @htx (Ja @hb2 @hb3)))))))
 (refine rn F ?_;try with_reducible exact⟨⟩)
 repeat' (first|(refine sG F ?_ ?_<;>intro hZ<;>try with_reducible exact⟨⟩)|(refine sB F ?_ ?_<;>intro hZ<;>try with_reducible exact⟨⟩)|(refine sD F ?_ ?_<;>intro hZ<;>try with_reducible exact⟨⟩)|(refine Qf (id:=14) [0,1,2,5,6,7,8] [⟨[3],[3],4,[1,2,5,6,7,8],[]⟩,⟨[],[],9,[0,1,2,5,6,7],[]⟩,⟨[],[],10,[],[]⟩,⟨[],[],11,[],[]⟩] vw vw ?_;refine rn F ?_;try with_reducible exact⟨⟩)|(refine eO vw vw ?_;refine rn F ?_;try with_reducible exact⟨⟩))
 all_goals first
  | (refine ⟨⟨s.j + 1,vz,fun k h' hkj=>?_⟩,by show l.length - (s.j + 1) < l.length - s.j; omega,(gc [2])⟩
     rcases JP k s.j with h|h
     ·exact hlt k h' h
     ·obtain rfl:k = s.j:=vz;rw[<-Qd l s.j h' Tx0]
      assumption)
  | (rw [hf (fun h=>by first | (rw [<- Qd l s.j h Tx0]; exact Int.not_lt.2 vq) | (clear F hg hts hf hlt htx hw; omega))]
     refine Gb ?_;subst hrest;simp(config:={ maxSteps:=2000000 }) (implicitDefEqProofs:=false) (disch:=first|omega|assumption) only[go_sem,↓reduceIte,JD,Jg,JE,Jh,Tryz.f97,hw,fP hfl]
     rfl)
end
section
attribute [local go_sem] Tx.d j5 lE nA nB fP nC nD nE nF ny Jb Jm Jx JH nz lD
def Gd(q:List Int)(r:Int)(i:Nat)(h:i<q.length):(q.take (i+1)).filter (fun x=>decide (x≠r))=(q.take i).filter (fun x=>decide (x≠r))++(if q.getD i 0=r then [] else [q.getD i 0]):=by
 rw[Jk h,JS,Qd q i h];grind
def Ge(q:List Int)(r:Int)(i:Nat):((q.take i).filter fun x=>decide (x≠r)).length<=i:=by
 grind
def Gf(q:List Int)(r:Int):(q.filter fun x=>decide (x≠r)).length=q.length ↔ r ∉ q:=by
 rw[List.length_filter_eq_length_iff];grind
def tG(l:List Tx)(hs:smL l)(e:E):VCalls prog 151 [.pv (.sl (fz ai l)),.agg e.d] [] (Ret (lF (QA l e))):=by
 refine VCalls.unwk ?_;have c1:=j4 l hs;have c2:=jY e;have c3:=pS l hs.1 e.tx;have c4:=tB l hs.1 e.tx;have hw:=fun(i:Nat) (hi:i<l.length) (t:Tx)=>tz l hs.1 i hi t;have hok:=@nG e;have hat:=@F5 l e
 have e0:QA l e=if al l=false then ([],15) else if e.okB=false then ([],12) else if e.tx=0 then (l,0) else if idT l e.tx<0 then ([],16)
  else ir l (idT l e.tx).toNat (l.getD (idT l e.tx).toNat Tx0) e:=rfl
 by_cases hv:al l=true;rotate_left
 ·have hv':al l = false:=by simpa using hv
  rw[e0,if_pos hv'];rw[hv'] at c1;refine dd Tryz.func151 ?_;unfold E.d;refine rn F ?_
  repeat' (first|with_reducible exact⟨⟩|refine vp F (c1) ?_)
  rfl
 by_cases hk:e.okB=true;rotate_left
 ·have hk':e.okB = false:=by simpa using hk
  rw[e0,if_neg (by rw[hv];decide),if_pos hk'];rw[hv] at c1;rw[hk'] at c2;unfold E.d at c2 |-;refine dd Tryz.func151 ?_;refine rn F ?_
  repeat' (first|with_reducible exact⟨⟩|refine vp F (c1) ?_|refine vp F (c2) ?_)
  rfl
 by_cases ht:e.tx=0
 ·rw [e0,if_neg (by rw [hv];decide),if_neg (by rw [hk];decide),if_pos ht];rw[hv] at c1;rw[hk] at c2;unfold E.d at c2 |-;refine dd Tryz.func151 ?_;have F:=@ht;refine rn F ?_
  repeat' (first|with_reducible exact⟨⟩|refine vp F (c1) ?_|refine vl F (c2) ?_)
  rfl
 rw[hv] at c1;rw[hk] at c2;rcases QB l e.tx with h|⟨i,hi,h,hid⟩
 ·rw [e0,if_neg (by rw [hv];decide),if_neg (by rw [hk];decide),if_neg ht,h,if_pos vj];rw[h] at c3;unfold E.d at c2 |-;refine dd Tryz.func151 ?_;have F:=@ht;refine rn F ?_
  repeat' (first|with_reducible exact⟨⟩|refine vp F (c1) ?_|refine vp F (c2) ?_|refine vp F (c3) ?_)
  all_goals first|rfl|contradiction
 rw[hat hv hk ht hi h];have hkk:=hok hk ht;rw[h] at c3;have hg:=pR l i hi;have hto:=eK hv hi;have hso:=xY hto;have hle:=je hto;clear hat e0 hok;generalize hT:l[i]=t at *;obtain⟨id,st,n,b,q,s⟩:=t;dsimp only at hid hso hle hg;obtain⟨lsn,kind,tx,ptx,ppg,ref,c,blob⟩:=e;dsimp only at hid c4 c3 h hkk ht;unfold E.d at c2 |-;dsimp only at c2 |-;unfold ir;dsimp only;by_cases hp:ptx=n;rotate_left
 ·rw [if_pos (.inl hp)];refine dd Tryz.func151 ?_;have F:=(Ja @ht @hg)
  refine rn F ?_
  repeat' (first|with_reducible exact⟨⟩|refine vp F (c1) ?_|refine vp F (c2) ?_|refine vp F (c3) ?_)
  all_goals first|rfl|contradiction|omega
 subst hp;rcases hkk with rfl|rfl|rfl|rfl|rfl
 ·rw [if_neg (by rintro (h|h);exact h rfl;omega),if_neg vz];have hwA:=hw i hi (QD (aX ⟨id,st,ptx,b,q,s⟩ ⟨lsn,1,tx,ptx,ppg,ref,c,blob⟩));have hse:=pT (aX ⟨id,st,ptx,b,q,s⟩ ⟨lsn,1,tx,ptx,ppg,ref,c,blob⟩);have eN:aX ⟨id,st,ptx,b,q,s⟩ ⟨lsn,1,tx,ptx,ppg,ref,c,blob⟩=⟨id,st,lsn,b,q++[lsn],s⟩:=rfl;rw[eN] at hwA hse |-;replace hse:=hse ⟨vg,by show s.length<=_;omega⟩;generalize QD ⟨id,st,lsn,b,q++[lsn],s⟩=u at *;refine dd Tryz.func151 ?_;have F:=(Ja @ht (Ja @hg @iq))
  refine rn F ?_
  repeat' (first|with_reducible exact⟨⟩|refine vp F (c1) ?_|refine vp F (c2) ?_|refine vp F (c3) ?_|(refine pU [4] _ _ (hse) rfl ⟨⟨vv,Qw _ _ _⟩,trivial⟩ vj rfl wu ?_ ?_;(focus (refine rd F));refine rn F ?_)|refine vp F (hwA) ?_|(refine Qf (id:=17) [0,1,3,4] [⟨[5],[],2,[0,3,4],[]⟩,⟨[5],[5],6,[0,1,3,4],[7]⟩,⟨[],[],8,[],[]⟩] vw vw ?_;refine rn F ?_))
  all_goals first|rfl|skip
 ·refine dd Tryz.func151 ?_;have F:=(Ja @ht @hg)
  refine rn F ?_
  repeat' (first|with_reducible exact⟨⟩|refine vp F (c1) ?_|refine vp F (c2) ?_|refine vp F (c3) ?_)
  rotate_left;all_goals first|contradiction|skip
  refine VLoop.nilOwn 8 3 1 rfl ?_
  refine Qj (fun s0:To q.length=>⟨100,0,[(9,.int .i64 s0.i),(8,.own 2 1 0 ((q.take s0.i).filter fun x=>decide (x≠ref)).length),(7,.ptr 1 0),(6,.int .i64 i),(3,.ptr 0 0),(0,.pv (.sl (fz ai l)))],
   [⟨58,true,[.int .i64 lsn,.int .i64 2,.int .i64 tx,.int .i64 ptx,.int .i64 ppg,.int .i64 ref,.int .i64 c.pg,.int .i64 c.sl,.bool c.b.set,.pv (.str c.b.data),.bool c.a.set,.pv (.str c.a.data),.pv (.str blob)]⟩,
    ⟨64,true,[.int .i64 id,.int .i64 st,.int .i64 lsn,.int .i64 b,.pv (.sl (fz Q7 q)),.pv (.sl (fz Q7 s))]⟩,
    ⟨3,true,cells Q7 ((q.take s0.i).filter fun x=>decide (x≠ref))⟩]⟩) (fun s0=>q.length-s0.i) ⟨0,JA _⟩ (gc [0,1,2]) ?_
  intro s0;have hi0:=s0.hi;have hgq:=fun h:s0.i<q.length=>bL q s0.i h;have hfl:=Ge q ref s0.i;have hfs:=Gd q ref s0.i;have hwA:=hw i hi (QD (aX ⟨id,st,ptx,b,q,s⟩ ⟨lsn,2,tx,ptx,ppg,ref,c,blob⟩));have hse:=pT (aX ⟨id,st,ptx,b,q,s⟩ ⟨lsn,2,tx,ptx,ppg,ref,c,blob⟩);have eN:aX ⟨id,st,ptx,b,q,s⟩ ⟨lsn,2,tx,ptx,ppg,ref,c,blob⟩=⟨id,st,lsn,b,q.filter fun x=>decide (x≠ref),s⟩:=rfl;have hfq:=Gf q ref;rw[eN] at hwA hse |-;have hfl2:(q.filter fun x=>decide (x≠ref)).length<=q.length:=JW _ _;replace hse:=hse ⟨by show(q.filter fun x=>decide (x≠ref)).length<=_;omega,by show s.length<=_;omega⟩;by_cases hc:s0.i<q.length
  ·replace hfs:=hfs hc;generalize ((q.take s0.i).filter fun x=>decide (x≠ref))=out at *;have hb:(out.length+1)*8<=140737488355328:=vz;have F:=(Ja @hgq (Ja @iq @hb))
   refine rn F ?_
   repeat' (first|with_reducible exact⟨⟩|(refine sB F ?_ ?_<;>intro hZ)|(refine Qf (id:=23) [0,1,2,3,4,5,6,7] [] vw vw ?_;refine rn F ?_))
   ·have hf2:(q.take (s0.i + 1)).filter (fun x=>decide ¬x = ref) = out ++ [q.getD s0.i 0]:=by rw [if_neg vq] at hfs;exact hfs
    refine⟨⟨s0.i+1,vz⟩,by show q.length-(s0.i+1)<q.length-s0.i;omega,?_⟩;dsimp only;rw[hf2,Jb];exact(gc [0,1,4])
   ·have hf2:(q.take (s0.i + 1)).filter (fun x=>decide ¬x = ref) = out:=by rw [if_pos vq,JQ] at hfs;exact hfs
    refine⟨⟨s0.i+1,vz⟩,by show q.length-(s0.i+1)<q.length-s0.i;omega,?_⟩;dsimp only;rw[hf2];exact(gc [0,1,2])
  ·rw [Jl vz] at *;generalize (q.filter fun x=>decide (x≠ref))=out at *;generalize QD ⟨id,st,lsn,b,out,s⟩=u at *;have F:=trivial;refine rn F ?_
   repeat' (first|with_reducible exact⟨⟩|(refine sB F ?_ ?_<;>intro hZ)|(refine pU [2] _ _ (hse) rfl ⟨⟨vv,Qw _ _ _⟩,trivial⟩ vj rfl wu ?_ ?_;(focus (refine rd F));refine rn F ?_)|refine vp F (hwA) ?_)
   all_goals first|(rw[if_pos (hfq.1 vz)];rfl)|(rw[if_neg (fun h=>absurd (hfq.2 h) vz)];rfl)|skip
 ·rw [if_neg (by rintro (h|h);exact h rfl;omega),if_pos vz];refine dd Tryz.func151 ?_;have F:=(Ja @ht @hg)
  refine rn F ?_
  repeat' (first|with_reducible exact⟨⟩|refine vp F (c1) ?_|refine vp F (c2) ?_|refine vp F (c3) ?_|refine vp F (c4) ?_)
  all_goals rfl
 ·rw [if_neg (by rintro (h|h);exact h rfl;omega),if_neg vz];have hwA:=hw i hi (QD (aX ⟨id,st,ptx,b,q,s⟩ ⟨lsn,4,tx,ptx,ppg,ref,c,blob⟩));have hse:=pT (aX ⟨id,st,ptx,b,q,s⟩ ⟨lsn,4,tx,ptx,ppg,ref,c,blob⟩);have eN:aX ⟨id,st,ptx,b,q,s⟩ ⟨lsn,4,tx,ptx,ppg,ref,c,blob⟩=⟨id,3,lsn,0,q,[]⟩:=rfl;rw[eN] at hwA hse |-;replace hse:=hse ⟨by show q.length<=_;omega,vv⟩;have hse2:VCalls prog 194 [.agg [.int .i64 id,.int .i64 3,.int .i64 lsn,.int .i64 0,.pv (.sl (fz Q7 q)),.pv (.slc [])]] [] (Ret (.agg (QD ⟨id,3,lsn,0,q,[]⟩).d)):=VCalls.wkA hse;generalize QD ⟨id,3,lsn,0,q,[]⟩=u at *;refine dd Tryz.func151 ?_;have F:=(Ja @ht @hg)
  refine rn F ?_
  repeat' (first|with_reducible exact⟨⟩|refine vp F (c1) ?_|refine vp F (c2) ?_|refine vp F (c3) ?_|refine vp F (hse2) ?_|refine vp F (hwA) ?_)
  all_goals rfl
 ·rw [if_neg (by rintro (h|h);exact h rfl;omega),if_pos vz];refine dd Tryz.func151 ?_;have F:=(Ja @ht @hg)
  refine rn F ?_
  repeat' (first|with_reducible exact⟨⟩|refine vp F (c1) ?_|refine vp F (c2) ?_|refine vp F (c3) ?_|refine vp F (c4) ?_)
  all_goals rfl
end
attribute [go_sem] Ce.d Ch.d E.d Lg.c ny Jb Jm Jx JH nz lD
attribute [go_sem] bD cL cM cN cP cQ cR
def Okay.no(s:Okay n c)(h:s.i<n)(hB:B=(Jt n).all c)(hc:c s.i=false):B=false:=by rw[hB,de h hc]
def Okay.yes(s:Okay n c)(h:¬s.i<n)(hB:B=(Jt n).all c):B=true:=by rw[hB,s.all h]
def Okay.dec(s:Okay n c)(h:s.i<n):n-(s.i+1)<n-s.i:=vz
structure Pg where
 id:Int
 lsn:Int
 cel:Nat->Ce
def Gg(c:Nat->Ce):List PV:=(Jt 16).flatMap fun i=>[.lit (.bool (c i).set),.str (c i).data]
def Pg.p(x:Pg):List PV:=.lit (.int .i64 x.id)::.lit (.int .i64 x.lsn)::Gg x.cel
def Pg.d(x:Pg):List DV:=x.p.map .pv
def Pg0:Pg:=⟨0,0,fun _=>Ce0⟩
structure Fm where
 pg:Pg
 dirty:Bool
 rc:Int
 used:Bool
def Fm.p(f:Fm):List PV:=f.pg.p++[.lit (.bool f.dirty),.lit (.int .i64 f.rc),.lit (.bool f.used)]
def Fm.d(f:Fm):List DV:=f.p.map .pv
def Fm0:Fm:=⟨Pg0,false,0,false⟩
def aA:Enc Fm:=⟨37,Fm.p,vj,fun _=>rfl⟩
def pZ(l:List Fm):(cells aA l).length=l.length*37:=QK aA l
def Gh(l:List Fm)(n:Nat)(h:l.length*37<=n):(cells aA l).take n=cells aA l:=by rw[Jl];rw[pZ];exact h
def Gi(l m:List Fm):cells aA l++cells aA m=cells aA (l++m):=(QC aA l m).symm
def Gj(l:List Fm)(T:TypeId)(a b:Nat)(h:a<=b/\b<=l.length):cO (some (none,T,37)) (fz aA l) a b=some (.pv (.sl (fz aA ((l.take b).drop a)))):=nw aA l T a b h
def Gk(l:List Fm):(fz aA l=[]\/(fz aA l)[0]?.map JO=some 37)=True:=jW aA l
def qa(h:l.length=len):bw n hp 0 37 len (some (cells aA l))=some (.sl (fz aA l)):=Q3 aA h
def iy(e:Enc α)(l:List α)(d:α)(i:Nat)(h:i<l.length):(fz e l)[i]?=some (e.enc (l.getD i d)):=by rw[Qd l i h d];exact lz e l i h
def dQ(l:List Fm)(i:Nat)(h:i<l.length):(fz aA l)[i]?=some (l.getD i Fm0).p:=iy aA l Fm0 i h
def nJ(l:List Fm)(f:Fm):cells aA l++f.d=cells aA (l++[f]):=by rw[QC];simp[cells,aA,Fm.d]
@[go_sem] def Z5(x:Fm)(h0:0<=i):nK (some (none,T,37)) (some x.p) i=some (.ip x.p):=yg h0 rfl vj
@[go_sem] theorem Pg.p_len(x:Pg):x.p.length=34:=rfl
@[go_sem] theorem Pg.d_len(x:Pg):x.d.length=34:=rfl
@[go_sem] theorem Fm.p_len(x:Fm):x.p.length=37:=rfl
@[go_sem] theorem Fm.d_len(x:Fm):x.d.length=37:=rfl
@[go_sem] def Pg.p_map(x:Pg):x.p.map DV.pv=x.d:=(rfl)
@[go_sem] def Fm.p_map(x:Fm):x.p.map DV.pv=x.d:=(rfl)
@[go_sem] def Fm.p_take(x:Fm):x.p.take 37=x.p:=(rfl)
@[go_sem] def Fm.d_take(x:Fm):x.d.take 37=x.d:=(rfl)
@[go_sem] def Pg.p_take(x:Pg):x.p.take 34=x.p:=(rfl)
@[go_sem] def Pg.d_take(x:Pg):x.d.take 34=x.d:=(rfl)
@[go_sem] def Fm.p_pg(x:Fm):x.p.take 34=x.pg.p:=(rfl)
@[go_sem] def Fm.d_pg(x:Fm):x.d.take 34=x.pg.d:=(rfl)
@[go_sem] def Fm.p0(x:Fm):x.p[0]?=some (.lit (.int .i64 x.pg.id)):=(rfl)
def Fm.p1(x:Fm):x.p[1]?=some (.lit (.int .i64 x.pg.lsn)):=(rfl)
@[go_sem] def Fm.pd1(x:Fm):(x.p.drop 1)[0]?=some (.lit (.int .i64 x.pg.lsn)):=(rfl)
@[go_sem] def Fm.pd34(x:Fm):(x.p.drop 34)[0]?=some (.lit (.bool x.dirty)):=(rfl)
@[go_sem] def Fm.pd35(x:Fm):(x.p.drop 35)[0]?=some (.lit (.int .i64 x.rc)):=(rfl)
@[go_sem] def Fm.pd36(x:Fm):(x.p.drop 36)[0]?=some (.lit (.bool x.used)):=(rfl)
@[go_sem] def Fm.d0(x:Fm):x.d[0]?=some (.pv (.lit (.int .i64 x.pg.id))):=(rfl)
@[go_sem] def Fm.d1(x:Fm):x.d[1]?=some (.pv (.lit (.int .i64 x.pg.lsn))):=(rfl)
@[go_sem] def Fm.d34(x:Fm):x.d[34]?=some (.pv (.lit (.bool x.dirty))):=(rfl)
@[go_sem] def Fm.d35(x:Fm):x.d[35]?=some (.pv (.lit (.int .i64 x.rc))):=(rfl)
@[go_sem] def Pg.p0(x:Pg):x.p[0]?=some (.lit (.int .i64 x.id)):=(rfl)
def Pg.p1(x:Pg):x.p[1]?=some (.lit (.int .i64 x.lsn)):=(rfl)
@[go_sem] def Pg.d0(x:Pg):x.d[0]?=some (.pv (.lit (.int .i64 x.id))):=(rfl)
@[go_sem] def Pg.d1(x:Pg):x.d[1]?=some (.pv (.lit (.int .i64 x.lsn))):=(rfl)
@[go_sem] def Pg.d_one(x:Pg):Qp x.d=true:=(rfl)
@[go_sem] def Fm.d_one(x:Fm):Qp x.d=true:=(rfl)
@[go_sem] def Pg.d_nums(x:Pg)(k:Nat->Bool):DV.nums.go k x.d=true:=(rfl)
@[go_sem] def Fm.d_nums(x:Fm)(k:Nat->Bool):DV.nums.go k x.d=true:=(rfl)
@[go_sem] def Fm.set34(x:Fm)(b:Bool):x.d.set 34 (.pv (.lit (.bool b)))=Fm.d ⟨x.pg,b,x.rc,x.used⟩:=(rfl)
@[go_sem] def Fm.set35(x:Fm)(b:Int):x.d.set 35 (.pv (.lit (.int .i64 b)))=Fm.d ⟨x.pg,x.dirty,b,x.used⟩:=(rfl)
@[go_sem] def Fm.set36(x:Fm)(b:Bool):x.d.set 36 (.pv (.lit (.bool b)))=Fm.d ⟨x.pg,x.dirty,x.rc,b⟩:=(rfl)
@[go_sem] def Fm.setpg(x:Fm)(p:Pg):p.d++x.d.drop 34=Fm.d ⟨p,x.dirty,x.rc,x.used⟩:=(rfl)
@[go_sem] def Fm.mk36(x:Pg)(a c u:Bool)(b:Int):(x.d++([.pv (.lit (.bool a)),.pv (.lit (.int .i64 b)),.pv (.lit (.bool c))]:List DV)).take 36++[.pv (.lit (.bool u))]++(x.d++([.pv (.lit (.bool a)),.pv (.lit (.int .i64 b)),.pv (.lit (.bool c))]:List DV)).drop 37=Fm.d ⟨x,a,b,u⟩:=(rfl)
@[go_sem] def Pg.set1(x:Pg)(b:Int):x.d.set 1 (.pv (.lit (.int .i64 b)))=Pg.d ⟨x.id,b,x.cel⟩:=(rfl)
@[go_sem] def Pg.d_drop(x:Pg):x.d.drop 34=[]:=(rfl)
@[go_sem] def Fm.d_drop(x:Fm):x.d.drop 37=[]:=(rfl)
def tH(n:Nat)(hp:Qb):∀l:List PV,Qi ((l.map DV.pv).map (aD n hp))=some (l.map DV.pv)
 |[]=>rfl
 |p::l=>by show Qi (some (.pv p)::(l.map DV.pv).map (aD n hp))=_;rw[yh,tH n hp l];rfl
@[go_sem] def Pg.d_frz1(x:Pg)(n:Nat)(hp:Qb):Qi (x.d.map (aD n hp))=some x.d:=tH n hp x.p
@[go_sem] def Fm.d_frz1(x:Fm)(n:Nat)(hp:Qb):Qi (x.d.map (aD n hp))=some x.d:=tH n hp x.p
@[go_sem] def Pg.d_wk(x:Pg):DV.wk.go x.d=x.d:=(rfl)
@[go_sem] def Fm.d_wk(x:Fm):DV.wk.go x.d=x.d:=(rfl)
def qb(x:Pg)(i:Nat)(h:i<16):(x.d.drop (2+i*2)).take 2=[.pv (.lit (.bool (x.cel i).set)),.pv (.str (x.cel i).data)]:=by
 have:i=0\/i=1\/i=2\/i=3\/i=4\/i=5\/i=6\/i=7\/i=8\/i=9\/i=10\/i=11\/i=12\/i=13\/i=14\/i=15:=vz;rcases this with h|h|h|h|h|h|h|h|h|h|h|h|h|h|h|h<;>subst h<;>rfl
def yi(x:Pg)(i:Nat)(h:i<16):x.d[2+i*2]?=some (.pv (.lit (.bool (x.cel i).set))):=by
 have:i=0\/i=1\/i=2\/i=3\/i=4\/i=5\/i=6\/i=7\/i=8\/i=9\/i=10\/i=11\/i=12\/i=13\/i=14\/i=15:=vz;rcases this with h|h|h|h|h|h|h|h|h|h|h|h|h|h|h|h<;>subst h<;>rfl
def Pg.setc(x:Pg)(i:Nat)(c:Ce):Pg:=⟨x.id,x.lsn,fun k=>if k=i then c else x.cel k⟩
def Gl(x:Pg)(i:Nat)(h:i<16)(c:Ce):splice x.d (2+i*2) [.pv (.lit (.bool c.set)),.pv (.str c.data)]=(x.setc i c).d:=by
 have:i=0\/i=1\/i=2\/i=3\/i=4\/i=5\/i=6\/i=7\/i=8\/i=9\/i=10\/i=11\/i=12\/i=13\/i=14\/i=15:=vz;rcases this with h|h|h|h|h|h|h|h|h|h|h|h|h|h|h|h<;>subst h<;>rfl
structure Rw where
 lsn:Int
 im:Int
 at_:Int
def ay:Enc Rw:=⟨3,fun r=>[.lit (.int .i64 r.lsn),.lit (.int .i64 r.im),.lit (.int .i64 r.at_)],vj,fun _=>rfl⟩
@[go_sem] def Rw.d(r:Rw):List DV:=[.int .i64 r.lsn,.int .i64 r.im,.int .i64 r.at_]
def yj(l:List Rw):(cells ay l).length=l.length*3:=QK ay l
def Gn(l:List Rw)(n:Nat)(h:l.length*3<=n):(cells ay l).take n=cells ay l:=by rw[Jl];rw[yj];exact h
def Gp(l:List Rw):(fz ay l=[]\/(fz ay l)[0]?.map JO=some 3)=True:=jW ay l
def Gq(h:l.length=len):bw n hp 0 3 len (some (cells ay l))=some (.sl (fz ay l)):=Q3 ay h
def Rw0:Rw:=⟨0,0,0⟩
def nL(l:List Rw)(i:Nat)(h:i<l.length):(fz ay l)[i]?=some [.lit (.int .i64 (l.getD i Rw0).lsn),.lit (.int .i64 (l.getD i Rw0).im),.lit (.int .i64 (l.getD i Rw0).at_)]:=iy ay l Rw0 i h
def Gs(l:List Rw)(a b c:Int):cells ay l++[.pv (.lit (.int .i64 a)),.pv (.lit (.int .i64 b)),.pv (.lit (.int .i64 c))]=cells ay (l++[⟨a,b,c⟩]):=by rw[QC];rfl
structure Dt where
 pg:Int
 rc:Int
 last:Int
def aF:Enc Dt:=⟨3,fun r=>[.lit (.int .i64 r.pg),.lit (.int .i64 r.rc),.lit (.int .i64 r.last)],vj,fun _=>rfl⟩
@[go_sem] def Dt.d(r:Dt):List DV:=[.int .i64 r.pg,.int .i64 r.rc,.int .i64 r.last]
def yk(l:List Dt):(cells aF l).length=l.length*3:=QK aF l
def Gt(l:List Dt)(n:Nat)(h:l.length*3<=n):(cells aF l).take n=cells aF l:=by rw[Jl];rw[yk];exact h
def Gu(h:l.length=len):bw n hp 0 3 len (some (cells aF l))=some (.sl (fz aF l)):=Q3 aF h
def Dt0:Dt:=⟨0,0,0⟩
def iz(l:List Dt)(i:Nat)(h:i<l.length):(fz aF l)[i]?=some [.lit (.int .i64 (l.getD i Dt0).pg),.lit (.int .i64 (l.getD i Dt0).rc),.lit (.int .i64 (l.getD i Dt0).last)]:=iy aF l Dt0 i h
def Gv(l:List Dt)(a b c:Int):cells aF l++[.pv (.lit (.int .i64 a)),.pv (.lit (.int .i64 b)),.pv (.lit (.int .i64 c))]=cells aF (l++[⟨a,b,c⟩]):=by rw[QC];rfl
structure Gr where
 tx:Int
 pg:Int
 sl:Int
 md:Int
def Gr0:Gr:=⟨0,0,0,0⟩
def aj:Enc Gr:=⟨4,fun g=>[.lit (.int .i64 g.tx),.lit (.int .i64 g.pg),.lit (.int .i64 g.sl),.lit (.int .i64 g.md)],vj,fun _=>rfl⟩
@[go_sem] def Gr.d(g:Gr):List DV:=[.int .i64 g.tx,.int .i64 g.pg,.int .i64 g.sl,.int .i64 g.md]
def yn(l:List Gr):(cells aj l).length=l.length*4:=QK aj l
def Gw(l:List Gr)(n:Nat)(h:l.length*4<=n):(cells aj l).take n=cells aj l:=by rw[Jl];rw[yn];exact h
def Gx(l m:List Gr):cells aj l++cells aj m=cells aj (l++m):=(QC aj l m).symm
def Gy(l:List Gr)(T:TypeId)(a b:Nat)(h:a<=b/\b<=l.length):cO (some (none,T,4)) (fz aj l) a b=some (.pv (.sl (fz aj ((l.take b).drop a)))):=nw aj l T a b h
def Gz(l:List Gr):(fz aj l=[]\/(fz aj l)[0]?.map JO=some 4)=True:=jW aj l
def GA(h:l.length=len):bw n hp 0 4 len (some (cells aj l))=some (.sl (fz aj l)):=Q3 aj h
def bM(l:List Gr)(i:Nat)(h:i<l.length):(fz aj l)[i]?=some [.lit (.int .i64 (l.getD i Gr0).tx),.lit (.int .i64 (l.getD i Gr0).pg),.lit (.int .i64 (l.getD i Gr0).sl),.lit (.int .i64 (l.getD i Gr0).md)]:=iy aj l Gr0 i h
def GB(l:List Gr)(a b c d:Int):cells aj l++[.pv (.lit (.int .i64 a)),.pv (.lit (.int .i64 b)),.pv (.lit (.int .i64 c)),.pv (.lit (.int .i64 d))]=cells aj (l++[⟨a,b,c,d⟩]):=by rw[QC];rfl
def jf(l:List E)(i:Nat)(h:i<l.length):(fz encE l)[i]?=some [.lit (.int .i64 (l.getD i E0).lsn),.lit (.int .i64 (l.getD i E0).kind),.lit (.int .i64 (l.getD i E0).tx),.lit (.int .i64 (l.getD i E0).ptx),.lit (.int .i64 (l.getD i E0).ppg),.lit (.int .i64 (l.getD i E0).ref),.lit (.int .i64 (l.getD i E0).c.pg),.lit (.int .i64 (l.getD i E0).c.sl),.lit (.bool (l.getD i E0).c.b.set),.str (l.getD i E0).c.b.data,.lit (.bool (l.getD i E0).c.a.set),.str (l.getD i E0).c.a.data,.str (l.getD i E0).blob]:=iy encE l E0 i h
def dx(l:List Tx)(i:Nat)(h:i<l.length):(fz ai l)[i]?=some [.lit (.int .i64 (l.getD i Tx0).id),.lit (.int .i64 (l.getD i Tx0).st),.lit (.int .i64 (l.getD i Tx0).n),.lit (.int .i64 (l.getD i Tx0).b),.sl (fz Q7 (l.getD i Tx0).l),.sl (fz Q7 (l.getD i Tx0).s)]:=iy ai l Tx0 i h
def tI(l:List E):DV.wk.go (cells encE l)=cells encE l:=gE encE l fun a p hp=>by
 simp[encE] at hp;rcases hp with h|h|h|h|h|h|h|h|h|h|h|h|h<;>subst h<;>rfl
def GC(l:List Gr):DV.wk.go (cells aj l)=cells aj l:=gE aj l fun a p hp=>by
 simp[aj] at hp;rcases hp with h|h|h|h<;>subst h<;>rfl
def GD(l:List Rw):DV.wk.go (cells ay l)=cells ay l:=gE ay l fun a p hp=>by
 simp[ay] at hp;rcases hp with h|h|h<;>subst h<;>rfl
def GE(l:List Dt):DV.wk.go (cells aF l)=cells aF l:=gE aF l fun a p hp=>by
 simp[aF] at hp;rcases hp with h|h|h<;>subst h<;>rfl
def GF(l:List Fm):DV.wk.go (cells aA l)=cells aA l:=gE aA l fun a p hp=>by
 have hm:a.p.map PV.wk=a.p:=rfl;have hp:p∈a.p:=hp;obtain⟨i,hi,rfl⟩:=List.getElem_of_mem hp;have:=congrArg (fun l=>l[i]?) hm;simpa [hi] using this
attribute [go_sem] tI GC GD GE GF
attribute [go_sem] pZ Gh Gi Gj Gk qa nJ yj Gn Gp Gq Gs yk Gt Gu Gv yn Gw Gx Gy Gz GA GB
structure Pl where
 size:Int
 fs:List Fm
 hand:Int
@[go_sem] def Pl.d(p:Pl):List DV:=[.int .i64 p.size,.pv (.sl (fz aA p.fs)),.int .i64 p.hand]
def Pl0:Pl:=⟨0,[],0⟩
structure Lk where
 held:List Gr
 wait:List Gr
@[go_sem] def Lk.d(t:Lk):List DV:=[.pv (.sl (fz aj t.held)),.pv (.sl (fz aj t.wait))]
def cb(c:C):Blk:=⟨71,true,cc c⟩
abbrev CX(R:DV->Prop):DV->Qb->Prop:=fun r h'=>∃B',h'=[B']/\B'.live=true/\DV.nums.go (fun _=>false) B'.cells=true/\r.nums (fun _=>false)=true/\(R r/\∃c',B'=cb c')
def aT(h:VCalls prog g (args.map (DV.ren fun _=>0)) [cb c] (CX R))(hk:hp[k]?=some (cb c))(ha:DV.nums.go (fun i=>i==k) args=true)(hK:∀r c',R r->K r (hp.set k (cb c'))):VCalls prog g args hp K:=
 (VCalls.ptr1 (R:=fun r B'=>R r/\∃c',B'=cb c') hk rfl (gG c) h ha).mono fun r h' ⟨B',e1,_,_,e2,e3⟩=>by subst e1;obtain⟨c',rfl⟩:=e3;exact hK r c' e2
abbrev Nx(n:Nat):DV->Prop:=fun r=>∃x:Nat,r=.int .i64 x/\x<n
def yo(c:C)(n:Nat)(h1:1<=n)(hn:n<=256):VCalls prog 30 [.ptr 0 0,.int .i64 n] [cb c] (CX (Nx n)):=by
 refine dD Tryz.func30 ?_;have ha:=c.ha;have hl:=c.hl;simp(config:={ maxSteps:=2000000 }) (implicitDefEqProofs:=false) (disch:=first|omega|assumption|(simp only[];done)|fail) only[go_sem,Ju,Jv,Tryz.f30,cb,cc]
 refine eO vw vw ?_;by_cases a:c.at_<c.l.length
 ·simp (config:={ maxSteps:=2000000 }) (implicitDefEqProofs:=false) (disch:=first|omega|assumption|(simp only [];done)|fail) only [go_sem,↓reduceIte,reduceCtorEq,Ju,Jg,Jv,Jh]
  refine eO vw vw ?_;have hg:=yp c.l c.at_ a;have hh:(c.l.getD c.at_ 0).toNat<256:=UInt8.toNat_lt _;simp(config:={ maxSteps:=2000000 }) (implicitDefEqProofs:=false) (disch:=first|omega|assumption|(simp only[Je,Jd,Kp];done)|fail) only[go_sem,↓reduceIte,reduceCtorEq,Ju,JD,Jg,JE,Jv,Jh,hg]
  obtain⟨y,hy,hlt⟩:=yq (c.l.getD c.at_ 0).toNat n h1;refine⟨_,rfl,rfl,rfl,rfl,⟨y,by rw[hy],hlt⟩,⟨c.l,c.at_+1,a,hl⟩,rfl⟩
 ·simp (config:={ maxSteps:=2000000 }) (implicitDefEqProofs:=false) (disch:=first|omega|assumption|(simp only [];done)|fail) only [go_sem,↓reduceIte,reduceCtorEq,Ju,Jg,Jv,Jh]
  exact⟨_,rfl,rfl,rfl,rfl,⟨0,rfl,h1⟩,c,rfl⟩
def bQ(c:C)(n:Nat)(h1:1<=n)(hn:n<=1000000000):VCalls prog 30 [.ptr 0 0,.int .i64 n] [cb c] (CX (Nx n)):=by
 by_cases hs:n<=256
 ·exact yo c n h1 hs
 refine dD Tryz.func30 ?_;have ha:=c.ha;have hl:=c.hl;simp(config:={ maxSteps:=2000000 }) (implicitDefEqProofs:=false) (disch:=first|omega|assumption|(simp only[];done)|fail) only[go_sem,Ju,Jv,Tryz.f30,cb,cc]
 refine eO vw vw ?_;by_cases a:c.at_<c.l.length
 ·simp (config:={ maxSteps:=2000000 }) (implicitDefEqProofs:=false) (disch:=first|omega|assumption|(simp only [];done)|fail) only [go_sem,↓reduceIte,reduceCtorEq,Ju,Jg,Jv,Jh]
  refine eO vw vw ?_;have hg:=yp c.l c.at_ a;have hh:(c.l.getD c.at_ 0).toNat<256:=UInt8.toNat_lt _;generalize hx:(c.l.getD c.at_ 0).toNat=x at hg hh;simp(config:={ maxSteps:=2000000 }) (implicitDefEqProofs:=false) (disch:=first|omega|assumption|(simp only[Je,Jd,Kp];done)|fail) only[go_sem,↓reduceIte,reduceCtorEq,Ju,JD,Jg,JE,Jv,Jh,hg]
  refine aT (k:=0) (c:=⟨c.l,c.at_+1,a,hl⟩) (yo _ 256 vz vz) rfl rfl ?_;rintro r c' ⟨z,rfl,hz⟩;simp(config:={ maxSteps:=2000000 }) (implicitDefEqProofs:=false) (disch:=first|omega|assumption|(simp only[];done)|fail) only[go_sem,Jg,Jh,cb,cc]
  obtain⟨y,hy,hlt⟩:=yq (256*x+z) n h1;have e:(256*(x:Int)+(z:Int))=((256*x+z:Nat):Int):=vz;refine⟨_,rfl,rfl,rfl,rfl,⟨y,by rw[e,hy],hlt⟩,c',rfl⟩
 ·simp (config:={ maxSteps:=2000000 }) (implicitDefEqProofs:=false) (disch:=first|omega|assumption|(simp only [];done)|fail) only [go_sem,↓reduceIte,reduceCtorEq,Ju,Jg,Jv,Jh]
  exact⟨_,rfl,rfl,rfl,rfl,⟨0,rfl,h1⟩,c,rfl⟩
def yr(c:C)(m:Int)(h1:1<=m)(hn:m<=1000000000):VCalls prog 30 [.ptr 0 0,.int .i64 m] [cb c] (CX (Nx m.toNat)):=by
 have h:=bQ c m.toNat vz vz;grind
def GG(l:List UInt8)(most:Nat)(hm:1<=most)(h:most<=1000000)(hl:l.length<=9223372036854775807):VCalls prog 6 [.pv (.sl (fz a9 l)),.int .i64 most] [] fun r h'=>∃B,h'=[B]/\r=.ptr 0 0/\B.live=true/\DV.nums.go (fun _=>false) B.cells=true/\∃c,B=cb c:=by
 refine lA (fn:=Tryz.f6) Tryz.func6 rfl vw (by simp[Tryz.f6]) ?_;simp(config:={ maxSteps:=2000000 }) (implicitDefEqProofs:=false) (disch:=first|omega|assumption|(simp only[];done)|fail) only[go_sem,Ju,Jg,Jv,Jh,Tryz.f6]
 refine fN (fun hc=>?_) (fun hc=>?_)<;>simp only[decide_eq_true_eq,decide_eq_false_iff_not,Jf,Jc,Jw,Js,Jj,Ji,beq_iff_eq,beq_eq_false_iff_ne,bne_iff_ne,bne_eq_false_iff_eq,ne_eq] at hc
 ·have hx:(fz a9 l)[0]?.map JO = some 1:=pP a9 l vz;have ht:(fz a9 l).take most=fz a9 (l.take most):=yt a9 l most;have hh:most<=(fz a9 l).length:=by rw[tJ];omega
  have h0:(0:Nat)<=most:=vz;simp(config:={ maxSteps:=2000000 }) (implicitDefEqProofs:=false) (disch:=first|omega|assumption|(simp only[];done)|fail) only[go_sem,V.splice,↓reduceIte,Ju,JD,J0,Jg,JE,Jv,Jh,ht]
  exact⟨_,rfl,rfl,rfl,⟨l.take most,0,vz,by rw[Jm];omega⟩,rfl⟩
 ·simp (config:={ maxSteps:=2000000 }) (implicitDefEqProofs:=false) (disch:=first|omega|assumption|(simp only [];done)|fail) only [go_sem,V.splice,↓reduceIte,Ju,JD,J0,Jg,JE,Jv,Jh]
  exact⟨_,rfl,rfl,rfl,⟨l,0,vz,vz⟩,rfl⟩
def GH{most:Nat}(hm:1<=most)(h:most<=1000000)(hl:l.length<=9223372036854775807)(hK:∀c,K (.ptr hp.length 0) (hp++[cb c])):VCalls prog 6 [.pv (.sl (fz a9 l)),.int .i64 most] hp K:=
 (VCalls.new (GG l most hm h hl) rfl).mono fun r h' ⟨B,e1,e2,_,_,c,e3⟩=>by subst e1 e2 e3;exact hK c
def GI(c:C):VCalls prog 92 [.ptr 0 0] [cb c] (CX fun r=>∃n:Int,r=.int .i64 n/\-9223372036854775808<=n/\n<=9223372036854775807):=by
 refine dD Tryz.func92 ?_;simp(config:={ maxSteps:=2000000 }) (implicitDefEqProofs:=false) (disch:=first|omega|assumption|(simp only[];done)|fail) only[go_sem,Jg,JT,Jh,Tryz.f92]
 refine aT (k:=0) (c:=c) (bQ c 10 vz vz) rfl rfl ?_;rintro _ c1 ⟨z,rfl,hz⟩;(try simp(config:={ maxSteps:=2000000 }) (implicitDefEqProofs:=false) (disch:=first|omega|assumption|(simp only[];done)|fail) only[go_sem,JT])
 repeat' (first|(refine yu (fun hZ=>?_) (fun hZ=>?_)<;>(try rw[hZ])<;>(try simp only[decide_eq_true_eq,decide_eq_false_iff_not,Jf,Jc,Jw,Js,Jj,Ji,beq_iff_eq,beq_eq_false_iff_ne,bne_iff_ne,bne_eq_false_iff_eq,ne_eq,JY,Km,Ki] at hZ)<;>(try (first|rw[(hZ:_=false)]|rw[(hZ:_=true)]))<;>skip)|(refine fN (fun hZ=>?_) (fun hZ=>?_)<;>(try rw[hZ])<;>(try simp only[decide_eq_true_eq,decide_eq_false_iff_not,Jf,Jc,Jw,Js,Jj,Ji,beq_iff_eq,beq_eq_false_iff_ne,bne_iff_ne,bne_eq_false_iff_eq,ne_eq,JY,Km,Ki] at hZ)<;>(try (first|rw[(hZ:_=false)]|rw[(hZ:_=true)]))<;>(try simp(config:={ maxSteps:=2000000 }) (implicitDefEqProofs:=false) (disch:=first|omega|assumption|(simp only[];done)|fail) only[go_sem,V.splice,V.mk,↓reduceIte,Ju,JD,J0,Jg,JE,JT,Jv,Jh]))|(refine yv (fun hZ=>?_) (fun hZ=>?_)<;>(try rw[hZ])<;>(try simp only[decide_eq_true_eq,decide_eq_false_iff_not,Jf,Jc,Jw,Js,Jj,Ji,beq_iff_eq,beq_eq_false_iff_ne,bne_iff_ne,bne_eq_false_iff_eq,ne_eq,JY,Km,Ki] at hZ)<;>(try (first|rw[(hZ:_=false)]|rw[(hZ:_=true)]))<;>skip))
 ·refine aT (k:=0) (c:=c1) (bQ c1 3 vz vz) rfl rfl ?_;rintro _ c2 ⟨y,rfl,hy⟩;simp(config:={ maxSteps:=2000000 }) (implicitDefEqProofs:=false) (disch:=first|omega|assumption|(simp only[];done)|fail) only[go_sem,JT]
  exact⟨_,rfl,rfl,gG _,rfl,⟨_,rfl,vz,vz⟩,c2,rfl⟩
 ·refine aT (k:=0) (c:=c1) (bQ c1 16 vz vz) rfl rfl ?_;rintro _ c2 ⟨y,rfl,hy⟩;have h:y=0\/y=1\/y=2\/y=3\/y=4\/y=5\/y=6\/y=7\/y=8\/y=9\/y=10\/y=11\/y=12\/y=13\/y=14\/y=15:=vz;rcases h with rfl|rfl|rfl|rfl|rfl|rfl|rfl|rfl|rfl|rfl|rfl|rfl|rfl|rfl|rfl|rfl<;>(simp(config:={ maxSteps:=2000000 }) (implicitDefEqProofs:=false) (disch:=first|omega|assumption|(simp only[];done)|fail) only[go_sem,Jg,JT,Jh];exact⟨_,rfl,rfl,gG _,rfl,⟨_,rfl,vz,vz⟩,c2,rfl⟩)
 ·refine aT (k:=0) (c:=c1) (bQ c1 20 vz vz) rfl rfl ?_;rintro _ c2 ⟨y,rfl,hy⟩;simp(config:={ maxSteps:=2000000 }) (implicitDefEqProofs:=false) (disch:=first|omega|assumption|(simp only[];done)|fail) only[go_sem,JT]
  exact⟨_,rfl,rfl,gG _,rfl,⟨_,rfl,vz,vz⟩,c2,rfl⟩
theorem tK:bts prog 22 9=true:=vw
def gH(a b c d:Int):QZ [.pv (.lit (.int .i64 a)),.pv (.lit (.int .i64 b))] [.pv (.lit (.int .i64 c)),.pv (.lit (.int .i64 d))] [(0,1),(1,1)]=some (decide (a=c)&&decide (b=d)):=by simp[QZ,bK,JZ]
def grB(g:Gr):Bool:=decide (1<=g.tx)&&decide (g.tx<=1073741824)&&decide (0<=g.pg)&&decide (g.pg<64)&&decide (0<=g.sl)&&decide (g.sl<16)&&(decide (g.md=1)||decide (g.md=2))
def lessG(a b:Gr):Bool:=if a.pg≠b.pg then decide (a.pg<b.pg) else if a.sl≠b.sl then decide (a.sl<b.sl) else decide (a.tx<b.tx)
def j7(a b:Gr):Bool:=!decide (a.tx=b.tx)&&(decide (a.pg=b.pg)&&decide (a.sl=b.sl))&&(decide (a.md=2)||decide (b.md=2))
def tL(g:Gr):VCalls prog 204 [.agg g.d] [] (Ret (.bool (grB g))):=by
 refine dd Tryz.func204 ?_;refine rn F ?_
 repeat' (first|with_reducible exact⟨⟩|(refine sG F ?_ ?_<;>intro hZ))
 all_goals (first|rfl|(congr 3;rw[Jp];(try simp only[grB,decide_eq_true_eq,Jc,Jf,Jj,Ji,decide_eq_false_iff_not,beq_iff_eq,bne_iff_ne,ne_eq,Jo,Jq,iff_true,true_iff,iff_false,false_iff]);first|done|omega|grind))
def yw(a b:Gr):VCalls prog 205 [.agg a.d,.agg b.d] [] (Ret (.bool (lessG a b))):=by
 refine dd Tryz.func205 ?_;have e:lessG a b=if a.pg≠b.pg then decide (a.pg<b.pg) else if a.sl≠b.sl then decide (a.sl<b.sl) else decide (a.tx<b.tx):=rfl
 generalize lessG a b=r at *;refine rn F ?_
 repeat' (first|with_reducible exact⟨⟩|(refine sB F ?_ ?_<;>intro hZ))
 all_goals first|(first|(rw[e];simp(disch:=first|assumption|omega|exact rfl|exact nf vq|exact nt vq|decide|fail) only[if_pos,if_neg];first|done|rfl)|(rw[e];simp(disch:=first|assumption|omega|exact rfl|exact nf vq|exact nt vq|decide|(simp_all;done)|fail) only[if_pos,if_neg];first|done|rfl))|skip
def qc(a b:Gr):VCalls prog 184 [.agg a.d,.agg b.d] [] (Ret (.bool (j7 a b))):=by
 refine dd Tryz.func184 ?_;have F:=@gH;refine rn F ?_
 repeat' (first|with_reducible exact⟨⟩|(refine sG F ?_ ?_<;>intro hZ))
 all_goals (unfold j7;simp_all [JZ])
def gI(tx pg sl:Int)(g:Gr):Bool:=decide (g.tx=tx)&&(decide (g.pg=pg)&&decide (g.sl=sl))
def dR(l:List Gr)(tx pg sl:Int):Int:=match l.find? (gI tx pg sl) with|some g=>g.md|none=>0
def tM (t:Lk) (hs:t.held.length<=1000000) (tx pg sl:Int):VCalls prog 206 [.agg t.d,.int .i64 tx,.agg [.int .i64 pg,.int .i64 sl]] [] (Ret (.int .i64 (dR t.held tx pg sl))):=by
 refine dd Tryz.func206 ?_;obtain⟨l,w⟩:=t;dsimp only at hs |-;refine rn F ?_;refine Qj (fun s:Pass l (fun x=>gI tx pg sl x=true)=>⟨39,0,[(7,.int .i64 s.i),(5,.ptr 1 0),(3,.ptr 0 0),(1,.int .i64 tx)],[⟨32,true,[.pv (.sl (fz aj l)),.pv (.sl (fz aj w))]⟩,⟨88,true,[.int .i64 pg,.int .i64 sl]⟩]⟩) (fun s=>l.length-s.i) (Pass.start l _) (gc [0,1]) ?_;intro s;have hsi:=s.hi;have hg:=fun h:s.i<l.length=>bM l s.i h;have hkey:s.i<l.length->gI tx pg sl (l.getD s.i Gr0)=gI tx pg sl (l[s.i]?.getD Gr0):=fun _=>by rw[Jn]
 have hk0:gI tx pg sl (l.getD s.i Gr0)=(decide ((l.getD s.i Gr0).tx=tx)&&(decide ((l.getD s.i Gr0).pg=pg)&&decide ((l.getD s.i Gr0).sl=sl))):=rfl;have F:=(Ja @hg @gH)
 refine rn F ?_
 repeat' (first|with_reducible exact⟨⟩|(refine sG F ?_ ?_<;>intro hZ)|(refine sB F ?_ ?_<;>intro hZ)|(refine Qf (id:=4) [0,1,2,3,4,5,6,7,8,9,10,11,12,13,14,15,16,17] [] vw vw ?_;refine rn F ?_))
 all_goals first
  | (have h:=s.all vz
     rw[dR,J5.2 h])
  | (have hlt:s.i < l.length:=vz
     have hk:gI tx pg sl l[s.i]=true:=by rw[<-Qd l s.i hlt Gr0,hk0];simp_all
     rw[Qd l s.i hlt,dR,List.find?_eq_some_iff_getElem.2 ⟨hk,s.i,hlt,rfl,fun j hj=>by simpa using s.no l[j] (List.mem_take_iff_getElem.2 ⟨j,vz,rfl⟩)⟩])
  | (have hlt:s.i < l.length:=vz
     exact⟨s.next hlt (by rw[<- Qd l s.i hlt Gr0,hk0]; simp_all),by show l.length-(s.i+1)<l.length-s.i; omega,(gc [0,1])⟩)
  |skip
def dS(tx:Int)(one:Bool)(pg sl:Int)(x:Gr):Bool:=!decide (x.tx=tx)||(one&&!(decide (x.pg=pg)&&decide (x.sl=sl)))
def yx{l out:List Gr}(hi:i<l.length)(h:p (l.getD i Gr0)=true)(ho:out=(l.take i).filter p):out++[l.getD i Gr0]=(l.take (i+1)).filter p:=by
 rw[Jk hi,JS,<-ho,<-Qd l i hi Gr0,List.filter_cons_of_pos h,Kw]
def yy{l out:List Gr}(hi:i<l.length)(h:p (l.getD i Gr0)=false)(ho:out=(l.take i).filter p):out=(l.take (i+1)).filter p:=by
 rw[Jk hi,JS,<-ho,<-Qd l i hi Gr0,List.filter_cons_of_neg (by rw[h];decide),Kw,JQ]
def qd(l:List Gr)(hl:l.length<=100000)(tx:Int)(one:Bool)(pg sl:Int):VCalls prog 167 [.pv (.sl (fz aj l)),.int .i64 tx,.bool one,.agg [.int .i64 pg,.int .i64 sl]] [] (QM (fun m:List Gr=>.pv (.sl (fz aj m))) fun m=>m.length<=l.length/\m=l.filter (dS tx one pg sl)):=by
 refine dd Tryz.func167 ?_;refine rn F ?_;refine VLoop.nilOwn 9 221 4 rfl ?_;refine rn trivial ?_;refine Qj (fun s:{s:Nat×List Gr // s.1<=l.length/\s.2.length<=s.1/\s.2=(l.take s.1).filter (dS tx one pg sl)}=>⟨44,0,[(10,.int .i64 s.1.1),(9,.own 1 4 0 s.1.2.length),(7,.ptr 0 0),(2,.bool one),(1,.int .i64 tx),(0,.pv (.sl (fz aj l)))],[⟨88,true,[.int .i64 pg,.int .i64 sl]⟩,⟨221,true,cells aj s.1.2⟩]⟩) (fun s=>l.length-s.1.1) ⟨(0,[]),vv⟩ (gc [0,1]) ?_;rintro⟨⟨i,out⟩,hi,ho,hx⟩;dsimp only at hi ho hx |-;have hg:=fun h:i<l.length=>bM l i h;have hb:(out.length+1)*32<=140737488355328:=vz;cases one
 ·skip
  have k1:=fun(h:i<l.length) (q:dS tx false pg sl (l.getD i Gr0)=true)=>yx h q hx;have k2:=fun(h:i<l.length) (q:dS tx false pg sl (l.getD i Gr0)=false)=>yy h q hx;have e0:dS tx false pg sl (l.getD i Gr0)=(!decide ((l.getD i Gr0).tx=tx)||(false&&!(decide ((l.getD i Gr0).pg=pg)&&decide ((l.getD i Gr0).sl=sl)))):=rfl;generalize dS tx false pg sl (l.getD i Gr0)=L0 at *;have kend:¬i<l.length->out=l.filter (dS tx false pg sl):=fun h=>by rw[hx,show i=l.length by omega,JH]
  clear hx;have F:=(Ja @hg (Ja @hb @gH))
  refine rn F ?_
  repeat' (first|with_reducible exact⟨⟩|(refine sG F ?_ ?_<;>intro hZ)|(refine sB F ?_ ?_<;>intro hZ)|(refine Qf (id:=5) [0,1,2,3,4,5,6,7,8,9,10,11,12,13,14,15,16,17,18] [] vw vw ?_;refine rn F ?_))
  all_goals first|exact⟨rfl,rfl,out,rfl,vz,kend vz⟩|exact⟨⟨(i+1,out),vu,vu,k2 vz (by rw[e0];first|(simp_all;done)|(simp_all;omega))⟩,vu,(gc [0,1])⟩|exact⟨⟨(i+1,out++[⟨(l.getD i Gr0).tx,(l.getD i Gr0).pg,(l.getD i Gr0).sl,(l.getD i Gr0).md⟩]),vu,vg,k1 vz (by rw[e0];first|(simp_all;done)|(simp_all;omega))⟩,vu,by dsimp only;rw[Jb];exact(gc [0,3])⟩|skip
 ·skip
  have k1:=fun(h:i<l.length) (q:dS tx true pg sl (l.getD i Gr0)=true)=>yx h q hx;have k2:=fun(h:i<l.length) (q:dS tx true pg sl (l.getD i Gr0)=false)=>yy h q hx;have e0:dS tx true pg sl (l.getD i Gr0)=(!decide ((l.getD i Gr0).tx=tx)||(true&&!(decide ((l.getD i Gr0).pg=pg)&&decide ((l.getD i Gr0).sl=sl)))):=rfl;generalize dS tx true pg sl (l.getD i Gr0)=L0 at *;have kend:¬i<l.length->out=l.filter (dS tx true pg sl):=fun h=>by rw[hx,show i=l.length by omega,JH]
  clear hx;have F:=(Ja @hg (Ja @hb @gH))
  refine rn F ?_
  repeat' (first|with_reducible exact⟨⟩|(refine sG F ?_ ?_<;>intro hZ)|(refine sB F ?_ ?_<;>intro hZ)|(refine Qf (id:=5) [0,1,2,3,4,5,6,7,8,9,10,11,12,13,14,15,16,17,18] [] vw vw ?_;refine rn F ?_))
  all_goals first|exact⟨rfl,rfl,out,rfl,vz,kend vz⟩|exact⟨⟨(i+1,out),vu,vu,k2 vz (by rw[e0];first|(simp_all;done)|(simp_all;omega))⟩,vu,(gc [0,1])⟩|exact⟨⟨(i+1,out++[⟨(l.getD i Gr0).tx,(l.getD i Gr0).pg,(l.getD i Gr0).sl,(l.getD i Gr0).md⟩]),vu,vg,k1 vz (by rw[e0];first|(simp_all;done)|(simp_all;omega))⟩,vu,by dsimp only;rw[Jb];exact(gc [0,3])⟩|skip
def GJ(t:Lk)(hs:t.held.length<=100000/\t.wait.length<=100000)(i:Nat)(hi:i<t.wait.length):VCalls prog 214 [.agg t.d,.int .i64 i] [] (QM (fun b:Bool=>.bool b) fun _=>True):=by
 refine dd Tryz.func214 ?_;obtain⟨l,w⟩:=t;dsimp only at hs hi |-;have hw:=bM w i hi;have c:=fun a=>qc a (w.getD i Gr0);refine rn F ?_;refine Qj (fun s:To l.length=>⟨41,0,[(5,.int .i64 s.i),(2,.ptr 0 0),(1,.int .i64 i)],[⟨32,true,[.pv (.sl (fz aj l)),.pv (.sl (fz aj w))]⟩]⟩) (fun s=>l.length-s.i) ⟨0,JA _⟩ (gc [0]) ?_;intro s;have hsi:=s.hi;have hg:=fun h:s.i<l.length=>bM l s.i h;have c1:=c (l.getD s.i Gr0);have F:=(Ja @hg @hw)
 refine rn F ?_
 repeat' (first|with_reducible exact⟨⟩|(refine sB F ?_ ?_<;>intro hZ)|refine vp F (c1) ?_|(refine Qf (id:=4) [0,1,2,3,4,5,6,7,8,9] [⟨[],[],10,[0,1,2,3,5,6,7,8],[]⟩] vw vw ?_;refine rn F ?_))
 all_goals first|exact⟨rfl,rfl,_,rfl,trivial⟩|exact⟨⟨s.i+1,vz⟩,vu,(gc [0])⟩|skip
 refine Qj (fun s:To i=>⟨41,0,[(6,.int .i64 s.i),(2,.ptr 0 0),(1,.int .i64 i)],[⟨32,true,[.pv (.sl (fz aj l)),.pv (.sl (fz aj w))]⟩]⟩) (fun s=>i-s.i) ⟨0,JA _⟩ (gc [0]) ?_;intro s;have hsi:=s.hi;have hg:=fun h:s.i<w.length=>bM w s.i h;have c1:=c (w.getD s.i Gr0);have F:=(Ja @hg @hw)
 refine rn F ?_
 repeat' (first|with_reducible exact⟨⟩|(refine sB F ?_ ?_<;>intro hZ)|refine vp F (c1) ?_|(refine Qf (id:=9) [0,1,2,3,4,5,6,7,8,9] [⟨[],[],10,[0,1,2,3,5,6,7,8],[]⟩] vw vw ?_;refine rn F ?_))
 all_goals first|exact⟨rfl,rfl,_,rfl,trivial⟩|exact⟨⟨s.i+1,vz⟩,vu,(gc [0])⟩|skip
def dU(a b:Gr):Prop:=a.tx=b.tx/\a.pg=b.pg/\a.sl=b.sl
instance (a b:Gr):Decidable (dU a b):=inferInstanceAs (Decidable (_/\_))
def HoldT(l:List Gr)(g:Gr)(i:Nat)(out:List Gr)(dn:Bool):Prop:=∀x,x∈out ↔ (dn=true/\x=g)\/(x∈l.take i/\¬dU x g)
def qg(l:List Gr)(g:Gr)(m:List Gr):Prop:=∀x,x∈m ↔ x=g\/(x∈l/\¬dU x g)
def HoldT.nil(l:List Gr)(g:Gr):HoldT l g 0 [] false:=fun x=>by simp
def HoldT.put{l:List Gr}{g:Gr}{i:Nat}{out:List Gr}(h:HoldT l g i out false):HoldT l g i (out++[g]) true:=fun x=>by
 have:=h x;simp only[JG,JM,this];simp only[Jo,false_and,false_or,true_and];exact or_comm
def HoldT.skip{l:List Gr}{g:Gr}{i:Nat}{out:List Gr}{dn:Bool}(h:HoldT l g i out dn)(hi:i<l.length)(hs:dU (l.getD i Gr0) g):HoldT l g (i+1) out dn:=fun x=>by
 rw[h x,Jk hi,JG,JM,<-Qd l i hi Gr0];constructor
 ·rintro (q|⟨q1,q2⟩)
  ·exact .inl q
  ·exact .inr ⟨.inl q1,q2⟩
 ·rintro (q|⟨q1|q1,q2⟩)
  ·exact .inl q
  ·exact .inr ⟨q1,q2⟩
  ·exact absurd (q1▸hs) q2
def HoldT.keep(h:HoldT l g i out dn)(hi:i<l.length)(hs:¬dU (l.getD i Gr0) g):HoldT l g (i+1) (out++[l.getD i Gr0]) dn:=fun x=>by
 rw[JG,h x,JM,Jk hi,JG,JM,<-Qd l i hi Gr0];constructor
 ·rintro ((q|⟨q1,q2⟩)|q)
  ·exact .inl q
  ·exact .inr ⟨.inl q1,q2⟩
  ·exact .inr ⟨.inr q,q▸hs⟩
 ·rintro (q|⟨q1|q1,q2⟩)
  ·exact .inl (.inl q)
  ·exact .inl (.inr ⟨q1,q2⟩)
  ·exact .inr q1
def HoldT.fin(h:HoldT l g i out true)(hi:¬i<l.length):qg l g out:=fun x=>by
 rw[h x,Jl vz];simp
def HoldT.finF(h:HoldT l g i out false)(hi:¬i<l.length):qg l g (out++[g]):=h.put.fin hi
def GK(l:List Gr)(hl:l.length<=100000)(g:Gr):VCalls prog 215 [.pv (.sl (fz aj l)),.agg g.d] [] (QM (fun m:List Gr=>.pv (.sl (fz aj m))) fun m=>m.length<=l.length+1/\qg l g m):=by
 refine dd Tryz.func215 ?_;refine rn F ?_;refine VLoop.nilOwn 5 221 4 rfl ?_;refine rn trivial ?_;refine Qj (fun s:{s:Nat×List Gr×Bool // s.1<=l.length/\s.2.1.length<=s.1+1/\(s.2.2=false->s.2.1.length<=s.1)/\HoldT l g s.1 s.2.1 s.2.2}=>⟨61,0,[(7,.int .i64 s.1.1),(6,.bool s.1.2.2),(5,.own 1 4 0 s.1.2.1.length),(3,.ptr 0 0),(0,.pv (.sl (fz aj l)))],[⟨221,true,g.d⟩,⟨221,true,cells aj s.1.2.1⟩]⟩) (fun s=>l.length-s.1.1) ⟨(0,[],false),vv,vv,vv,HoldT.nil l g⟩ (gc [0,1]) ?_;rintro⟨⟨i,out,dn⟩,hi,ho,hd,hT⟩;dsimp only at hi ho hd hT |-;have hg:=fun h:i<l.length=>bM l i h;have c:=yw (l.getD i Gr0) g;have hb:(out.length+1)*32<=140737488355328:=vz;have hb2:(out.length+1+1)*32<=140737488355328:=JX (JC 32 (show out.length+1+1<=100003 by omega)) vj;cases dn
 ·have t1:=fun (h:i < l.length) (q:dU (l.getD i Gr0) g)=>hT.skip h q;have t2:=fun(h:i<l.length) (q:¬dU (l.getD i Gr0) g)=>hT.keep h q;have t3:=fun(h:i<l.length) (q:dU (l.getD i Gr0) g)=>hT.put.skip h q;have t4:=fun(h:i<l.length) (q:¬dU (l.getD i Gr0) g)=>hT.put.keep h q;have t5:=fun(h:¬i<l.length)=>hT.finF h;clear hT;have hd':=hd rfl;clear hd;unfold dU at t1 t2 t3 t4;have F:=(Ja @hg (Ja @hb (Ja @hb2 @gH)))
  refine rn F ?_
  repeat' (first|with_reducible exact⟨⟩|(refine sG F ?_ ?_<;>intro hZ)|(refine sB F ?_ ?_<;>intro hZ)|refine vp F (c) ?_|(refine Qf (id:=6) [0,1,2,3,4,5,6,7] [⟨[],[],8,[0,1,3,4,5],[9,10]⟩] vw vw ?_;refine rn F ?_)|(refine Qf (id:=9) [0,1,2,3,4,5,6,7,8,9,10,11,12,13,14,15,16,17] [] vw vw ?_;refine rn F ?_))
  all_goals first|exact⟨rfl,rfl,out++[g],rfl,vg,t5 vz⟩|exact⟨⟨(i+1,out,false),vu,vu,fun _=>by dsimp only;omega,t1 vz (by first|omega|(clear F;omega)|(simp_all;done))⟩,vu,(gc [0,1])⟩|exact⟨⟨(i+1,out++[⟨(l.getD i Gr0).tx,(l.getD i Gr0).pg,(l.getD i Gr0).sl,(l.getD i Gr0).md⟩],false),vu,by dsimp only;rw[Jb,Je,Jd];omega,fun _=>by dsimp only;rw[Jb,Je,Jd];omega,t2 vz (by first|omega|(clear F;omega)|(simp_all;done))⟩,vu,by dsimp only;rw[Jb,Je,Jd];exact(gc [0,3])⟩|exact⟨⟨(i+1,out++[g],true),vu,by dsimp only;rw[Jb,Je,Jd];omega,fun h=>(by cases h),t3 vz (by first|omega|(clear F;omega)|(simp_all;done))⟩,vu,by dsimp only;rw[Jb,Je,Jd];exact(gc [0,3])⟩|exact⟨⟨(i+1,out++[g]++[⟨(l.getD i Gr0).tx,(l.getD i Gr0).pg,(l.getD i Gr0).sl,(l.getD i Gr0).md⟩],true),vu,by dsimp only;rw[Jb,Jb,Je,Jd,Je,Jd];omega,fun h=>(by cases h),t4 vz (by first|omega|(clear F;omega)|(simp_all;done))⟩,vu,by dsimp only;rw[Jb,Jb,Je,Jd,Je,Jd];exact(gc [0,5])⟩|skip
 ·have t1:=fun (h:i < l.length) (q:dU (l.getD i Gr0) g)=>hT.skip h q;have t2:=fun(h:i<l.length) (q:¬dU (l.getD i Gr0) g)=>hT.keep h q;have t5:=fun(h:¬i<l.length)=>hT.fin h;clear hT hd;unfold dU at t1 t2;have F:=(Ja @hg (Ja @hb (Ja @hb2 @gH)))
  refine rn F ?_
  repeat' (first|with_reducible exact⟨⟩|(refine sG F ?_ ?_<;>intro hZ)|(refine sB F ?_ ?_<;>intro hZ)|(refine Qf (id:=6) [0,1,2,3,4,5,6,7] [⟨[],[],8,[0,1,3,4,5],[9,10]⟩] vw vw ?_;refine rn F ?_)|(refine Qf (id:=9) [0,1,2,3,4,5,6,7,8,9,10,11,12,13,14,15,16,17] [] vw vw ?_;refine rn F ?_))
  all_goals first|exact⟨rfl,rfl,out,rfl,vz,t5 vz⟩|exact⟨⟨(i+1,out,true),vu,vu,fun h=>(by cases h),t1 vz (by first|omega|(clear F;omega)|(simp_all;done))⟩,vu,(gc [0,1])⟩|exact⟨⟨(i+1,out++[⟨(l.getD i Gr0).tx,(l.getD i Gr0).pg,(l.getD i Gr0).sl,(l.getD i Gr0).md⟩],true),vu,by dsimp only;rw[Jb,Je,Jd];omega,fun h=>(by cases h),t2 vz (by first|omega|(clear F;omega)|(simp_all;done))⟩,vu,by dsimp only;rw[Jb,Je,Jd];exact(gc [0,3])⟩|skip
section
attribute [local go_sem] fw
def Lk.sum(t:Lk):Nat:=t.held.length+t.wait.length
structure LkH(l w:List Gr):Prop where
 md:∀x∈w,x.md<=2
 lt:∀x∈w,∀g∈l,dU g x->g.md<x.md
 un:w.Pairwise fun a b=>a.tx≠b.tx
def exG(l:List Gr)(tx pg sl:Int):Prop:=∃g∈l,g.tx=tx/\g.pg=pg/\g.sl=sl/\2<=g.md
def ExS(l m:List Gr):Prop:=∀tx pg sl,exG l tx pg sl->exG m tx pg sl
def ExS.refl(l:List Gr):ExS l l:=fun _ _ _ h=>h
def ExS.trans(h:ExS a b)(g:ExS b c):ExS a c:=fun _ _ _ q=>g _ _ _ (h _ _ _ q)
def LkH.sub(h:LkH l w)(h1:∀x∈l',x∈l)(h2:w'.Sublist w):LkH l' w':=⟨fun x hx=>h.md x (h2.subset hx),fun x hx g hg=>h.lt x (h2.subset hx) g (h1 g hg),h.un.sublist h2⟩
def LkH.grant(h:LkH l w)(hi:i<w.length)(hm:qg l (w.getD i Gr0) m):LkH m (w.take i++w.drop (i+1))/\ExS l m:=by
 rw[Qd w i hi] at hm
 have hsub:(w.take i++w.drop (i+1)).Sublist w:=by
  rw[<-List.eraseIdx_eq_take_drop_succ];exact List.eraseIdx_sublist _ _
 have hne:∀x∈w.take i++w.drop (i+1),x.tx≠w[i].tx:=fun x hx=>by
  have hp:=Jr.1 h.un;rcases JG.1 hx with hx|hx
  ·obtain ⟨j,hj,rfl⟩:=Jy.1 hx;rw[Jm] at hj;rw[List.getElem_take];exact hp j i vz hi vz
  ·obtain ⟨j,hj,rfl⟩:=Jy.1 hx;rw[Jx] at hj;rw[List.getElem_drop];exact(hp i (i+1+j) hi vz vz).symm
 refine⟨⟨fun x hx=>h.md x (hsub.subset hx),fun x hx g hg hs=>?_,h.un.sublist hsub⟩,fun tx pg sl ⟨g,g1,g2,g3,g4,g5⟩=>⟨g,(hm g).2 (.inr ⟨g1,fun hs=>?_⟩),g2,g3,g4,g5⟩⟩
 ·rcases (hm g).1 hg with rfl|⟨q,_⟩
  ·exact absurd hs.1.symm (hne x hx)
  ·exact h.lt x (hsub.subset hx) g q hs
 ·have:=h.lt _ (J2 hi) g g1 hs;have:=h.md _ (J2 hi);omega
def qh(t:Lk)(hs:t.sum<=5000):VCalls prog 166 [.agg t.d] [] (QM (fun u:Lk=>.agg u.d) fun u=>u.sum<=t.sum/\(LkH t.held t.wait->LkH u.held u.wait/\ExS t.held u.held)):=by
 refine dk Tryz.func166 ?_;refine rn F ?_;refine GL (fun s:{s:Lk×Nat // s.2<=s.1.wait.length/\s.1.sum<=t.sum/\(LkH t.held t.wait->LkH s.1.held s.1.wait/\ExS t.held s.1.held)}=>⟨36,0,[(3,.int .i64 s.1.2),(2,.ptr 1 0),(1,.ptr 0 0)],[⟨32,true,s.1.1.d⟩,⟨32,true,[.pv (.slc []),.pv (.slc [])]⟩]⟩) (fun s=>s.1.1.wait.length*5001+(s.1.1.wait.length-s.1.2)) ⟨(t,0),JA _,JJ _,fun h=>⟨h,ExS.refl _⟩⟩ (.inl (by exact(gc [0,1]))) ?_;rintro⟨⟨⟨l,w⟩,i⟩,hi,hsum,hO⟩;unfold Lk.sum at *;dsimp only at hi hsum hO |-;have hgx:=fun h:i<w.length=>bM w i h;have c1:=fun h:i<w.length=>GJ ⟨l,w⟩ ⟨vu,vu⟩ i h;have c2:=GK l vz;have hb:(i+(w.length-(i+1)))*32<=140737488355328:=vz;have hb1:i*32<=140737488355328:=vz;have hmin:i<w.length->min i w.length=i:=fun h=>by omega
 have F:=(Ja @hgx (Ja @hb (Ja @hb1 @hmin)))
 refine rn F ?_
 repeat' (first|with_reducible exact⟨⟩|(refine sB F ?_ ?_<;>intro hZ)|(refine Qs (c1 vz) rfl ?_;rintro b -;refine rn F ?_)|(refine Qs (c2 ⟨_,_,_,_⟩) rfl ?_;rintro m hm;refine rn F ?_)|(refine Qf (id:=5) [0,1,2,3,4,5,6] [⟨[],[],7,[0,2,3,4,5],[8]⟩,⟨[],[],9,[],[]⟩] vw vw ?_;refine rn F ?_)|(refine Qf (id:=6) [0,1,2,3,5,6,7,8,9] [⟨[],[],4,[0,1,2,5,6,7,8,9],[]⟩,⟨[],[],10,[0,1,2,3,5,6,7,8],[11]⟩,⟨[],[],12,[],[]⟩] vw vw ?_;refine rn F ?_))
 ·have hl:(w.take i ++ w.drop (i + 1)).length = i + (w.length - (i + 1)):=by rw [Jb,Jm,Jx];omega
  have hm1:=hm.1
  have hO':LkH t.held t.wait->LkH m (w.take i++w.drop (i+1))/\ExS t.held m:=fun q=>by
   obtain⟨o1,o2⟩:=(hO q).1.grant vz hm.2;exact⟨o1,(hO q).2.trans o2⟩
  refine⟨⟨(⟨m,w.take i++w.drop (i+1)⟩,0),JA _,by dsimp only;rw[hl];omega,hO'⟩,by dsimp only;rw[hl];omega,?_⟩;dsimp only;clear hO hO' hm;generalize w.take i++w.drop (i+1)=L at *;generalize i+(w.length-(i+1))=n at *;refine .inr ⟨2,⟨36,0,[(3,.int .i64 0),(2,.ptr 1 0),(1,.ptr 0 0)],[⟨32,true,[.pv (.sl (fz aj m)),.own 2 4 0 n]⟩,⟨32,true,[.pv (.slc []),.pv (.slc [])]⟩,⟨221,true,cells aj L⟩]⟩,(gc [0,1,3]),⟨rfl,rfl,JA _,vv,?_,⟨rfl,rfl,rfl,trivial⟩⟩⟩;(refine rn @hl ?_;try with_reducible exact⟨⟩)
 ·exact⟨⟨(⟨l,w⟩,i+1),vu,vu,hO⟩,vu,.inl (gc [0,1])⟩
 ·exact⟨rfl,rfl,⟨l,w⟩,rfl,hsum,hO⟩
def GM(t:Lk)(hs:t.sum<=5000)(g:Gr):VCalls prog 222 [.agg t.d,.agg g.d] [] (QM (fun n:Nat=>.int .i64 n) fun n=>n<=t.wait.length):=by
 refine dd Tryz.func222 ?_;unfold Lk.sum at hs;have c1:=tM t vz;obtain⟨l,w⟩:=t;dsimp only at hs c1 |-;generalize hm:dR l=M at *;refine rn F ?_
 repeat' (first|with_reducible exact⟨⟩|(refine sB F ?_ ?_<;>intro hZ)|refine vp F (c1 _ _ _) ?_)
 ·exact⟨rfl,rfl,w.length,rfl,JJ _⟩
 refine Qj (fun s:To w.length=>⟨47,0,[(5,.int .i64 s.i),(3,.ptr 1 0),(2,.ptr 0 0)],[⟨32,true,[.pv (.sl (fz aj l)),.pv (.sl (fz aj w))]⟩,⟨221,true,g.d⟩]⟩) (fun s=>w.length-s.i) ⟨0,JA _⟩ (gc [0,1]) ?_;intro s;have hsi:=s.hi;have hg:=fun h:s.i<w.length=>bM w s.i h;have F:=(Ja @hg @gH)
 refine rn F ?_
 repeat' (first|with_reducible exact⟨⟩|(refine sG F ?_ ?_<;>intro hZ)|(refine sB F ?_ ?_<;>intro hZ)|refine vp F (c1 _ _ _) ?_)
 all_goals first|exact⟨rfl,rfl,s.i,rfl,vz⟩|exact⟨⟨s.i+1,vz⟩,vu,(gc [0,1])⟩|exact⟨rfl,rfl,w.length,rfl,JJ _⟩|skip
end
def lkC(l:List Gr)(i:Nat):Nat->Bool
 |0=>true
 |k+1=>if (l.getD k Gr0).pg=(l.getD i Gr0).pg/\(l.getD k Gr0).sl=(l.getD i Gr0).sl then !j7 (l.getD k Gr0) (l.getD i Gr0)&&lkC l i k else true
def lkH(l:List Gr)(i:Nat):Bool:=grB (l.getD i Gr0)&&((decide (i=0)||lessG (l.getD (i-1) Gr0) (l.getD i Gr0))&&lkC l i i)
def lkX(w:List Gr)(j k:Nat):Bool:=!decide ((w.getD k Gr0).tx=(w.getD j Gr0).tx)
def lkW(l w:List Gr)(j:Nat):Bool:=grB (w.getD j Gr0)&&(decide (dR l (w.getD j Gr0).tx (w.getD j Gr0).pg (w.getD j Gr0).sl<(w.getD j Gr0).md)&&(Jt j).all (lkX w j))
def lkB(t:Lk):Bool:=decide (t.sum<=1024)&&((Jt t.held.length).all (lkH t.held)&&(Jt t.wait.length).all (lkW t.held t.wait))
def tN{t:Lk}(h:¬t.sum<=1024):lkB t=false:=by unfold lkB;rw[decide_eq_false h];rfl
def GN{t:Lk}{i:Nat}(hi:i<t.held.length)(h:lkH t.held i=false):lkB t=false:=by unfold lkB;rw[de hi h];simp
def GO{t:Lk}{i:Nat}(hi:i<t.wait.length)(h:lkW t.held t.wait i=false):lkB t=false:=by unfold lkB;rw[de hi h];simp
def j8(t:Lk)(hs:t.sum<=100000):VCalls prog 158 [.agg t.d] [] (Ret (.bool (lkB t))):=by
 refine dd Tryz.func158 ?_;have k0:=@tN t;have kh:=@GN t;have kw:=@GO t;have ky:t.sum<=1024->(Jt t.held.length).all (lkH t.held)=true->(Jt t.wait.length).all (lkW t.held t.wait)=true->lkB t=true:=fun a b c=>by unfold lkB;rw[decide_eq_true a,b,c];rfl
 unfold Lk.sum at *;have cm:=tM t vz;obtain⟨l,w⟩:=t;dsimp only at hs cm k0 kh kw ky |-;generalize lkB ⟨l,w⟩=R at *;refine rn F ?_
 repeat' (first|with_reducible exact⟨⟩|(refine sB F ?_ ?_<;>intro hZ))
 ·rw[k0 vz]
 have hsum:l.length+w.length<=1024:=vz;refine Qj (fun s:Okay l.length (lkH l)=>⟨121,0,[(3,.int .i64 s.i),(1,.ptr 0 0)],[⟨32,true,[.pv (.sl (fz aj l)),.pv (.sl (fz aj w))]⟩]⟩) (fun s=>l.length-s.i) (Okay.start _ _) (gc [0]) ?_;intro s;have hi:=s.hi;by_cases hc:s.i<l.length;rotate_left
 ·have hc':¬((s.i:Nat):Int) < l.length:=vz;have F:=@hc';refine rn F ?_;refine Qj (fun r:Okay w.length (lkW l w)=>⟨121,0,[(5,.int .i64 r.i),(1,.ptr 0 0)],[⟨32,true,[.pv (.sl (fz aj l)),.pv (.sl (fz aj w))]⟩]⟩) (fun s=>w.length-s.i) (Okay.start _ _) (gc [0]) ?_;intro r;have hj:=r.hi;by_cases hr:r.i<w.length;rotate_left
  ·have hr':¬((r.i:Nat):Int) < w.length:=vz;have F:=@hr';refine rn F ?_;rw[ky hsum (s.all hc) (r.all hr)]
  have hr':((r.i:Nat):Int)<w.length:=vz;have hw:=bM w r.i hr;have d1:=tL (w.getD r.i Gr0);have ew:lkW l w r.i=(grB (w.getD r.i Gr0)&&(decide (dR l (w.getD r.i Gr0).tx (w.getD r.i Gr0).pg (w.getD r.i Gr0).sl<(w.getD r.i Gr0).md)&&(Jt r.i).all (lkX w r.i))):=rfl;have kwr:=kw hr;generalize hM:dR l (w.getD r.i Gr0).tx (w.getD r.i Gr0).pg (w.getD r.i Gr0).sl=M at *;have cm':=cm (w.getD r.i Gr0).tx (w.getD r.i Gr0).pg (w.getD r.i Gr0).sl;rw[hM] at cm';generalize hgr:grB (w.getD r.i Gr0)=gb at *;cases gb
  ·skip
   have F:=(Ja @hr' @hw)
   refine rn F ?_
   repeat' (first|with_reducible exact⟨⟩|refine vp F (d1) ?_|(refine eQ (id:=17) [[],[0],[0,1],[0,1,2],[0,1,2,3],[0,1,2,3],[0,1,2,3,5],[0,1,2,3],[0,1,2,3,7],[0,1,2,3,4,5,6,7,8],[0,1,2,3],[0,1,2,3,10],[0,1,2,3,4,5,6,7,8,9,10,11],[0,1,2,3,4,5,6,7,8,9,10,11,12]] [0] [⟨[],[],1,[],[2,3,4,5,6,7,8,10,11]⟩,⟨[],[],9,[10,11],[12,13]⟩] vw vw vw ?_;refine rn F ?_))
   rw[kwr (by rw[ew];rfl)]
  by_cases hmd:M<(w.getD r.i Gr0).md;rotate_left
  ·skip
   have F:=(Ja @hr' (Ja @hw @hmd))
   refine rn F ?_
   repeat' (first|with_reducible exact⟨⟩|refine vp F (d1) ?_|refine vp F (cm') ?_|(refine eQ (id:=17) [[],[0],[0,1],[0,1,2],[0,1,2,3],[0,1,2,3],[0,1,2,3,5],[0,1,2,3],[0,1,2,3,7],[0,1,2,3,4,5,6,7,8],[0,1,2,3],[0,1,2,3,10],[0,1,2,3,4,5,6,7,8,9,10,11],[0,1,2,3,4,5,6,7,8,9,10,11,12]] [0] [⟨[],[],1,[],[2,3,4,5,6,7,8,10,11]⟩,⟨[],[],9,[10,11],[12,13]⟩] vw vw vw ?_;refine rn F ?_))
   rw[kwr (by rw[ew,decide_eq_false hmd];rfl)]
  rw[decide_eq_true hmd] at ew;have F:=(Ja @hr' (Ja @hw @hmd))
  refine rn F ?_
  repeat' (first|with_reducible exact⟨⟩|refine vp F (d1) ?_|refine vp F (cm') ?_|(refine eQ (id:=17) [[],[0],[0,1],[0,1,2],[0,1,2,3],[0,1,2,3],[0,1,2,3,5],[0,1,2,3],[0,1,2,3,7],[0,1,2,3,4,5,6,7,8],[0,1,2,3],[0,1,2,3,10],[0,1,2,3,4,5,6,7,8,9,10,11],[0,1,2,3,4,5,6,7,8,9,10,11,12]] [0] [⟨[],[],1,[],[2,3,4,5,6,7,8,10,11]⟩,⟨[],[],9,[10,11],[12,13]⟩] vw vw vw ?_;refine rn F ?_))
  refine Qj (fun s:Okay r.i (lkX w r.i)=>⟨121,0,[(7,.int .i64 s.i),(6,.ptr 1 0),(5,.int .i64 r.i),(1,.ptr 0 0)],[⟨32,true,[.pv (.sl (fz aj l)),.pv (.sl (fz aj w))]⟩,⟨221,true,Gr.d (w.getD r.i Gr0)⟩]⟩) (fun s=>r.i-s.i) (Okay.start _ _) (gc [0,1]) ?_;intro q;have hq:=q.hi;by_cases hqc:q.i<r.i
  ·have hqc':((q.i:Nat):Int) < r.i:=vz;have hqw:((q.i:Nat):Int)<w.length:=vz;have hx:=bM w q.i vz;have F:=(Ja @hqc' (Ja @hqw @hx))
   refine rn F ?_
   repeat' (first|with_reducible exact⟨⟩|(refine sB F ?_ ?_<;>intro hZ)|(refine Qf (id:=22) [0,1,2,3,4,5,6,7,8] [] vw vw ?_;refine rn F ?_))
   all_goals first|exact⟨q.next hqc (by unfold lkX;rw[decide_eq_false vq];rfl),q.dec hqc,(gc [0,1])⟩|(rw[kwr (by rw[ew,de hqc (by unfold lkX;rw[decide_eq_true vq];rfl)];rfl)])
  ·have hqc':¬((q.i:Nat):Int) < r.i:=vz;have F:=@hqc';refine rn F ?_;exact⟨r.next hr (by rw[ew,q.all hqc];rfl),r.dec hr,(gc [0])⟩
 have hc':((s.i:Nat):Int)<l.length:=vz;have hg:=bM l s.i hc;have hgp:=fun h:s.i-1<l.length=>bM l (s.i-1) h;have c1:=tL (l.getD s.i Gr0);have c2:=yw (l.getD (s.i-1) Gr0) (l.getD s.i Gr0);have c3:=fun a=>qc a (l.getD s.i Gr0);have eh:lkH l s.i=(grB (l.getD s.i Gr0)&&((decide (s.i=0)||lessG (l.getD (s.i-1) Gr0) (l.getD s.i Gr0))&&lkC l s.i s.i)):=rfl;have khs:=kh hc;generalize hgr:grB (l.getD s.i Gr0)=gb at *;cases gb
 ·skip
  have F:=(Ja @hc' @hg)
  refine rn F ?_
  repeat' (first|with_reducible exact⟨⟩|refine vp F (c1) ?_|(refine eQ (id:=6) [[],[0],[],[0,1,2],[0,1,2,3],[0,1,2,3,4],[0,1,2,3,4,5],[0,1,2,3,4,5,6],[0,1,2,3,4,5,6,7],[0,1,2,3,4,5,6,7,8],[0,1,2,3,4,5,6,7,8,9],[0,1,2,3,4,5,6,7,8,9,10],[0,1,2,3,4,5,6,7,8,9,10,11],[0,1,2,3,4,5,6,7,8,9,10],[0,1,2,3,4,5,6,7,8,9,10,13],[0,1,2,3,4,5,6,7,8,9,10,11,12,13,14],[0,1,2,3,4,5,6,7,8,9,10,11,12,13,14,15],[0,1,2,3,4,5,6,7,8,9,10],[0,1,2,3,4,5,6,7,8,9,10,17],[0,1,2,3,4,5,6,7,8,9,10],[0,1,2,3,4,5,6,7,8,9,10,17,18,19],[0,1,2,3,4,5,6,7,8,9,10,17,18,19,20],[0,1,2,3,4,5,6,7,8,9,10,11,12,13,14,15,16,17,18,19,20,21],[0,1,2,3,4,5,6,7,8,9,10,11,12,13,14,15,16,17,18,19,20,21,22],[0,1,2,3,4,5,6,7,8,9,10,11,12,13,14,15,16,17,18,19,20,21,22,23],[0,1,2,3,4,5,6,7,8,9,10,11,12,13,14,15,16,17,18,19,20,21,22,23,24]] [0,1,2,3,4] [⟨[],[],5,[],[6,7,8,9,10,11,12,13,14,15,16,17,18,19,20,21]⟩,⟨[],[],22,[],[23,24,25]⟩] vw vw vw ?_;refine rn F ?_))
  rw[khs (by rw[eh];rfl)]
 have tail:(decide (s.i=0)||lessG (l.getD (s.i-1) Gr0) (l.getD s.i Gr0))=true->lkH l s.i=lkC l s.i s.i:=fun h=>by rw[eh,h];rfl
 by_cases hz:s.i=0;rotate_left;have hz':(0:Int)<s.i:=vz;have hcp:((s.i:Nat):Int)-1<l.length:=vz;have hgp':=hgp vz;generalize hls:lessG (l.getD (s.i-1) Gr0) (l.getD s.i Gr0)=lb at *;cases lb
 ·skip
  have F:=(Ja @hc' (Ja @hg (Ja @hz' (Ja @hcp @hgp'))))
  refine rn F ?_
  repeat' (first|with_reducible exact⟨⟩|refine vp F (c1) ?_|refine vp F (c2) ?_|(refine eQ (id:=6) [[],[0],[],[0,1,2],[0,1,2,3],[0,1,2,3,4],[0,1,2,3,4,5],[0,1,2,3,4,5,6],[0,1,2,3,4,5,6,7],[0,1,2,3,4,5,6,7,8],[0,1,2,3,4,5,6,7,8,9],[0,1,2,3,4,5,6,7,8,9,10],[0,1,2,3,4,5,6,7,8,9,10,11],[0,1,2,3,4,5,6,7,8,9,10],[0,1,2,3,4,5,6,7,8,9,10,13],[0,1,2,3,4,5,6,7,8,9,10,11,12,13,14],[0,1,2,3,4,5,6,7,8,9,10,11,12,13,14,15],[0,1,2,3,4,5,6,7,8,9,10],[0,1,2,3,4,5,6,7,8,9,10,17],[0,1,2,3,4,5,6,7,8,9,10],[0,1,2,3,4,5,6,7,8,9,10,17,18,19],[0,1,2,3,4,5,6,7,8,9,10,17,18,19,20],[0,1,2,3,4,5,6,7,8,9,10,11,12,13,14,15,16,17,18,19,20,21],[0,1,2,3,4,5,6,7,8,9,10,11,12,13,14,15,16,17,18,19,20,21,22],[0,1,2,3,4,5,6,7,8,9,10,11,12,13,14,15,16,17,18,19,20,21,22,23],[0,1,2,3,4,5,6,7,8,9,10,11,12,13,14,15,16,17,18,19,20,21,22,23,24]] [0,1,2,3,4] [⟨[],[],5,[],[6,7,8,9,10,11,12,13,14,15,16,17,18,19,20,21]⟩,⟨[],[],22,[],[23,24,25]⟩] vw vw vw ?_;refine rn F ?_))
  rw[khs (by rw[eh,decide_eq_false hz];rfl)]
 have htl:=tail vv;have F:=(Ja @hc' (Ja @hg (Ja @hz' (Ja @hcp @hgp'))))
 refine rn F ?_
 repeat' (first|with_reducible exact⟨⟩|refine vp F (c1) ?_|refine vp F (c2) ?_|(refine eQ (id:=6) [[],[0],[],[0,1,2],[0,1,2,3],[0,1,2,3,4],[0,1,2,3,4,5],[0,1,2,3,4,5,6],[0,1,2,3,4,5,6,7],[0,1,2,3,4,5,6,7,8],[0,1,2,3,4,5,6,7,8,9],[0,1,2,3,4,5,6,7,8,9,10],[0,1,2,3,4,5,6,7,8,9,10,11],[0,1,2,3,4,5,6,7,8,9,10],[0,1,2,3,4,5,6,7,8,9,10,13],[0,1,2,3,4,5,6,7,8,9,10,11,12,13,14],[0,1,2,3,4,5,6,7,8,9,10,11,12,13,14,15],[0,1,2,3,4,5,6,7,8,9,10],[0,1,2,3,4,5,6,7,8,9,10,17],[0,1,2,3,4,5,6,7,8,9,10],[0,1,2,3,4,5,6,7,8,9,10,17,18,19],[0,1,2,3,4,5,6,7,8,9,10,17,18,19,20],[0,1,2,3,4,5,6,7,8,9,10,11,12,13,14,15,16,17,18,19,20,21],[0,1,2,3,4,5,6,7,8,9,10,11,12,13,14,15,16,17,18,19,20,21,22],[0,1,2,3,4,5,6,7,8,9,10,11,12,13,14,15,16,17,18,19,20,21,22,23],[0,1,2,3,4,5,6,7,8,9,10,11,12,13,14,15,16,17,18,19,20,21,22,23,24]] [0,1,2,3,4] [⟨[],[],5,[],[6,7,8,9,10,11,12,13,14,15,16,17,18,19,20,21]⟩,⟨[],[],22,[],[23,24,25]⟩] vw vw vw ?_;refine rn F ?_))
 rotate_left;have hz':¬(0:Int)<s.i:=vz;have htl:=tail (by rw[decide_eq_true hz];rfl);have F:=(Ja @hc' (Ja @hg @hz'))
 refine rn F ?_
 repeat' (first|with_reducible exact⟨⟩|refine vp F (c1) ?_|(refine eQ (id:=6) [[],[0],[],[0,1,2],[0,1,2,3],[0,1,2,3,4],[0,1,2,3,4,5],[0,1,2,3,4,5,6],[0,1,2,3,4,5,6,7],[0,1,2,3,4,5,6,7,8],[0,1,2,3,4,5,6,7,8,9],[0,1,2,3,4,5,6,7,8,9,10],[0,1,2,3,4,5,6,7,8,9,10,11],[0,1,2,3,4,5,6,7,8,9,10],[0,1,2,3,4,5,6,7,8,9,10,13],[0,1,2,3,4,5,6,7,8,9,10,11,12,13,14],[0,1,2,3,4,5,6,7,8,9,10,11,12,13,14,15],[0,1,2,3,4,5,6,7,8,9,10],[0,1,2,3,4,5,6,7,8,9,10,17],[0,1,2,3,4,5,6,7,8,9,10],[0,1,2,3,4,5,6,7,8,9,10,17,18,19],[0,1,2,3,4,5,6,7,8,9,10,17,18,19,20],[0,1,2,3,4,5,6,7,8,9,10,11,12,13,14,15,16,17,18,19,20,21],[0,1,2,3,4,5,6,7,8,9,10,11,12,13,14,15,16,17,18,19,20,21,22],[0,1,2,3,4,5,6,7,8,9,10,11,12,13,14,15,16,17,18,19,20,21,22,23],[0,1,2,3,4,5,6,7,8,9,10,11,12,13,14,15,16,17,18,19,20,21,22,23,24]] [0,1,2,3,4] [⟨[],[],5,[],[6,7,8,9,10,11,12,13,14,15,16,17,18,19,20,21]⟩,⟨[],[],22,[],[23,24,25]⟩] vw vw vw ?_;refine rn F ?_))
 all_goals
  refine Qj (fun r:{r:Nat // r<=s.i/\lkH l s.i=lkC l s.i r}=>⟨121,0,[(4,.int .i64 ((r.1:Int)-1)),(3,.int .i64 s.i),(1,.ptr 0 0)],[⟨32,true,[.pv (.sl (fz aj l)),.pv (.sl (fz aj w))]⟩]⟩) (fun r=>r.1) ⟨s.i,JJ _,htl⟩ (gc [0]) ?_;rintro⟨r,hr,hrl⟩;dsimp only;by_cases hr0:r=0
  ·have hr0':¬(0:Int)<=(r:Int) - 1:=vz;subst hr0;have F:=@hr0';refine rn F ?_
   repeat' (first|with_reducible exact⟨⟩|(refine Qf (id:=9) [0,1,2,3,4,5,6,7,8,9,10,11,12,13,14,15,16] [] vw vw ?_;refine rn F ?_))
   exact⟨s.next hc hrl,s.dec hc,(gc [0])⟩
  obtain⟨m,rfl⟩:∃m,r=m+1:=⟨r-1,vz⟩
  have e1:((m+1:Nat):Int)-1=m:=vz;rw[e1];have hm0:(0:Int)<=(m:Int):=vz;have hml:(m:Int)<l.length:=vz;have hx:=bM l m vz;have c4:=c3 (l.getD m Gr0);have el:lkC l s.i (m+1)=if (l.getD m Gr0).pg=(l.getD s.i Gr0).pg/\(l.getD m Gr0).sl=(l.getD s.i Gr0).sl then !j7 (l.getD m Gr0) (l.getD s.i Gr0)&&lkC l s.i m else true:=rfl
  by_cases hsame:(l.getD m Gr0).pg=(l.getD s.i Gr0).pg/\(l.getD m Gr0).sl=(l.getD s.i Gr0).sl
  ·rw [if_pos hsame] at el;obtain⟨s1,s2⟩:=hsame;generalize hcf:j7 (l.getD m Gr0) (l.getD s.i Gr0)=cf at *;cases cf
   ·skip
    have F:=(Ja @hc' (Ja @hg (Ja @hm0 (Ja @hml (Ja @hx (Ja @s1 (Ja @s2 @gH)))))))
    refine rn F ?_
    repeat' (first|with_reducible exact⟨⟩|refine vl F (c4) ?_|(refine Qf (id:=9) [0,1,2,3,4,5,6,7,8,9,10,11,12,13,14,15,16] [] vw vw ?_;refine rn F ?_)|(refine Qf (id:=11) [0,1,2,3,4,5,6,7,8,9] [⟨[],[],10,[0,1,2,3,5,6,7,8],[]⟩] vw vw ?_;refine rn F ?_))
    all_goals first|exact⟨⟨m,vz,hrl.trans el⟩,vu,(gc [0])⟩|exact⟨⟨m,vz,hrl.trans el⟩,(gc [0])⟩
   ·skip
    have F:=(Ja @hc' (Ja @hg (Ja @hm0 (Ja @hml (Ja @hx (Ja @s1 (Ja @s2 @gH)))))))
    refine rn F ?_
    repeat' (first|with_reducible exact⟨⟩|refine vl F (c4) ?_|(refine Qf (id:=9) [0,1,2,3,4,5,6,7,8,9,10,11,12,13,14,15,16] [] vw vw ?_;refine rn F ?_)|(refine Qf (id:=11) [0,1,2,3,4,5,6,7,8,9] [⟨[],[],10,[0,1,2,3,5,6,7,8],[]⟩] vw vw ?_;refine rn F ?_))
    rw[khs (hrl.trans el)]
  ·rw [if_neg hsame] at el;have F:=(Ja @hc' (Ja @hg (Ja @hm0 (Ja @hml (Ja @hx @gH)))))
   refine rn F ?_
   repeat' (first|with_reducible exact⟨⟩|(refine sB F ?_ ?_<;>intro hZ)|refine vp F (c4) ?_|(refine Qf (id:=9) [0,1,2,3,4,5,6,7,8,9,10,11,12,13,14,15,16] [] vw vw ?_;refine rn F ?_)|(refine Qf (id:=11) [0,1,2,3,4,5,6,7,8,9] [⟨[],[],10,[0,1,2,3,5,6,7,8],[]⟩] vw vw ?_;refine rn F ?_))
   all_goals first|exact⟨s.next hc (hrl.trans el),s.dec hc,(gc [0])⟩|(exfalso;omega)|(exfalso;exact hsame ⟨vq,vq⟩)|(exfalso;simp_all;done)|skip
def GP(t:Lk)(hs:t.sum<=100000):VCalls prog 158 [.agg t.d] [] (QM (fun b:Bool=>.bool b) fun b=>b=true->t.sum<=1024):=
 (j8 t hs).toS (lkB t) rfl fun h=>by
  rcases JP 1024 t.sum with h1|h1
  ·rw[tN vz] at h;cases h
  ·exact h1
def qi(t:Lk)(hs:t.sum<=5000)(tx:Int):VCalls prog 132 [.agg t.d,.int .i64 tx] [] (QM (fun a:Gr×Bool=>.tup [.agg a.1.d,.bool a.2]) fun a=>a.2=false->lkB t=true->∀x∈t.wait,x.tx≠tx):=by
 refine dd Tryz.func132 ?_;have c1:=j8 t vz;unfold Lk.sum at *;obtain⟨l,w⟩:=t;dsimp only at hs c1 |-;generalize lkB ⟨l,w⟩=B at *;cases B
 ·(refine rn F ?_;try with_reducible exact⟨⟩)
  refine rn F ?_
  repeat' (first|with_reducible exact⟨⟩|refine vp F (c1) ?_)
  exact⟨rfl,rfl,(Gr0,false),rfl,fun _ h=>by cases h⟩
 refine rn F ?_
 repeat' (first|with_reducible exact⟨⟩|refine vp F (c1) ?_)
 refine Qj (fun s:Pass w (fun x=>x.tx=tx)=>⟨30,0,[(6,.int .i64 s.i),(4,.ptr 1 0),(2,.ptr 0 0),(1,.int .i64 tx)],[⟨32,true,[.pv (.sl (fz aj l)),.pv (.sl (fz aj w))]⟩,⟨221,true,[.int .i64 0,.int .i64 0,.int .i64 0,.int .i64 0]⟩]⟩) (fun s=>w.length-s.i) (Pass.start w _) (gc [0,1]) ?_;intro s;have hi:=s.hi;have hn:=fun(h:s.i<w.length) (q:¬(w.getD s.i Gr0).tx=tx)=>s.next h (by rwa [Qd w s.i h] at q)
 have ha:=s.all;have hg:=fun h:s.i<w.length=>bM w s.i h;have F:=@hg;refine rn F ?_
 repeat' (first|with_reducible exact⟨⟩|(refine sB F ?_ ?_<;>intro hZ))
 all_goals first|exact⟨s.next vz (by rw[<-Qd w s.i vz Gr0];assumption),by show w.length-(s.i+1)<w.length-s.i;omega,(gc [0,1])⟩|exact⟨rfl,rfl,(Gr0,false),rfl,fun _ _ x hx=>ha vz x hx⟩|exact⟨rfl,rfl,(w.getD s.i Gr0,true),rfl,fun h=>by cases h⟩|skip
def GQ(h:lessG a b=true):a.pg<b.pg\/(a.pg=b.pg/\(a.sl<b.sl\/(a.sl=b.sl/\a.tx<b.tx))):=by
 unfold lessG at h;grind
structure LkV(t:Lk):Prop where
 gr:∀g∈t.held,g.md=1\/g.md=2
 sr:t.held.Pairwise fun a b=>a.pg<b.pg\/(a.pg=b.pg/\(a.sl<b.sl\/(a.sl=b.sl/\a.tx<b.tx)))
 nc:∀a∈t.held,∀b∈t.held,a.pg=b.pg->a.sl=b.sl->a.tx≠b.tx->a.md≠2/\b.md≠2
 wt:∀w∈t.wait,(w.md=1\/w.md=2)/\dR t.held w.tx w.pg w.sl<w.md
 un:t.wait.Pairwise fun a b=>a.tx≠b.tx
def GR {α:Type} {R:α->α->Prop} (tr:∀a b c,R a b->R b c->R a c) (l:List α) (h:∀i,(hi:i + 1 < l.length)->R l[i] l[i + 1]):l.Pairwise R:=by
 rw[Jr];intro i j hi hj hij;induction j with
 |zero=>omega
 |succ j ih =>
   rcases JP i j with q|q
   ·exact tr _ _ _ (ih vz q) (h j hj)
   ·obtain rfl:i = j:=vz;exact h i hj
def yz (hi:i < l.length) (ha:l.Pairwise fun a b=>a.pg < b.pg\/(a.pg = b.pg/\(a.sl < b.sl\/(a.sl = b.sl/\a.tx < b.tx)))):∀k,k<=i->lkC l i k = true->∀j,j < k->(l.getD j Gr0).pg = (l.getD i Gr0).pg->(l.getD j Gr0).sl = (l.getD i Gr0).sl->j7 (l.getD j Gr0) (l.getD i Gr0) = false
 |0,_,_,j,h,_,_=>absurd h (Nat.not_lt_zero _)
 |k + 1,hk,hc,j,hj,h1,h2=>by
   rw[lkC] at hc;rcases JP j k with q|q
   ·split at hc
    ·exact yz hi ha k vz (by simp at hc;exact hc.2) j q h1 h2
    ·rename_i hn;exfalso;apply hn
     have p1:=Jr.1 ha j k vz vz q;have p2:=Jr.1 ha k i vz hi vz;rw[Qd l j vz,Qd l i hi] at h1 h2;rw[Qd l k vz,Qd l i hi];omega
   ·obtain rfl:j = k:=vz;rw[if_pos ⟨h1,h2⟩] at hc;simp at hc;exact hc.1
def nM{t:Lk}(h:lkB t=true):LkV t:=by
 unfold lkB at h;simp only[Jc,JK,JL,decide_eq_true_eq] at h;obtain⟨_,h1,h2⟩:=h;unfold lkH at h1;unfold lkW at h2;simp only[Jc,JK,JL,decide_eq_true_eq,Jf] at h1 h2
 have hgr:∀g:Gr,grB g=true->g.md=1\/g.md=2:=fun g q=>by
  unfold grB at q;simp only[Jc,decide_eq_true_eq,Jf] at q;exact q.2
 have has:t.held.Pairwise fun a b=>a.pg<b.pg\/(a.pg=b.pg/\(a.sl<b.sl\/(a.sl=b.sl/\a.tx<b.tx))):=by
  refine GR (fun a b c q1 q2=>by omega) _ fun i hi=>?_;have:=(h1 (i+1) hi).2.1;rw[J6,Qd _ _ vz,Qd _ _ hi] at this;exact GQ (this.resolve_left vz)
 have key:∀j i,j<i->(hi:i<t.held.length)->(t.held.getD j Gr0).pg=(t.held.getD i Gr0).pg->(t.held.getD j Gr0).sl=(t.held.getD i Gr0).sl->(t.held.getD j Gr0).tx≠(t.held.getD i Gr0).tx->(t.held.getD j Gr0).md≠2/\(t.held.getD i Gr0).md≠2:=fun j i hj hi e1 e2 e3=>by
  have:=yz hi has i (JJ _) (h1 i hi).2.2 j hj e1 e2;unfold j7 at this;rw[decide_eq_false e3,decide_eq_true e1,decide_eq_true e2] at this;simpa using this
 refine⟨fun g hg=>?_,has,fun a ha b hb e1 e2 e3=>?_,fun w hw=>?_,?_⟩
 ·obtain ⟨i,hi,rfl⟩:=Jy.1 hg;have:=(h1 i hi).1;rw[Qd _ _ hi] at this;exact hgr _ this
 ·obtain ⟨i,hi,rfl⟩:=Jy.1 ha;obtain⟨j,hj,rfl⟩:=Jy.1 hb;rw[<-Qd _ _ hi Gr0,<-Qd _ _ hj Gr0] at *;rcases Ko i j with q|q|q
  ·exact key i j q hj e1 e2 e3
  ·subst q;exact absurd rfl e3
  ·exact(key j i q hi e1.symm e2.symm (Ne.symm e3)).symm
 ·obtain ⟨i,hi,rfl⟩:=Jy.1 hw;have:=h2 i hi;rw[Qd _ _ hi] at this;exact⟨hgr _ this.1,this.2.1⟩
 ·rw [Jr];intro i j hi hj hij;have:=(h2 j hj).2.2 i hij;unfold lkX at this;rw[Qd _ _ hi,Qd _ _ hj] at this;simpa using this
def yA (ha:l.Pairwise fun a b=>a.pg < b.pg\/(a.pg = b.pg/\(a.sl < b.sl\/(a.sl = b.sl/\a.tx < b.tx)))) (hg:g ∈ l):dR l g.tx g.pg g.sl = g.md:=by
 unfold dR;have hk:∀x:Gr,gI g.tx g.pg g.sl x=true ↔ x.tx=g.tx/\x.pg=g.pg/\x.sl=g.sl:=fun x=>by unfold gI;simp
 cases hf:l.find? (gI g.tx g.pg g.sl) with
 |none=>exact absurd ((hk g).2 ⟨rfl,rfl,rfl⟩) (by simpa using J5.1 hf g hg)
 |some x =>
   have h1:=(hk x).1 (Kc hf);have h2:=J8 hf;obtain⟨i,hi,rfl⟩:=Jy.1 hg;obtain⟨j,hj,rfl⟩:=Jy.1 h2;rw[Jr] at ha;rcases Ko i j with q|q|q
   ·have:=ha i j hi hj q;omega
   ·subst q;rfl
   ·have:=ha j i hj hi q;omega
def GS{l:List Gr}{tx pg sl:Int}(h:2<=dR l tx pg sl):exG l tx pg sl:=by
 unfold dR at h;split at h
 ·rename_i g hf;have h1:=Kc hf;unfold gI at h1;simp at h1;exact⟨g,J8 hf,h1.1,h1.2.1,h1.2.2,h⟩
 ·omega
def LkV.o(h:LkV t):LkH t.held t.wait:=⟨fun x hx=>by have:=(h.wt x hx).1; omega,fun x hx g hg hs=>by
 have:=(h.wt x hx).2;obtain⟨s1,s2,s3⟩:=hs;rw[<-s1,<-s2,<-s3,yA h.sr hg] at this
 exact this,h.un⟩
def qj (t:Lk) (hs:t.sum<=5000) (tx:Int):VCalls prog 124 [.agg t.d,.int .i64 tx] [] (QM (fun u:Lk=>.agg u.d) fun u=>u.sum<=t.sum/\∀a pg sl,a ≠ tx->exG t.held a pg sl->exG u.held a pg sl):=by
 refine dd Tryz.func124 ?_;have c1:=j8 t vz;have hv:=@nM t;have c4:=qh;unfold Lk.sum at *;obtain⟨l,w⟩:=t;dsimp only at hs c1 |-;have c2:=fun a=>qd l vz a;have c3:=fun a=>qd w vz a;generalize lkB ⟨l,w⟩=B at *;refine rn F ?_
 repeat' (first|with_reducible exact⟨⟩|(refine sB F ?_ ?_<;>intro hZ)|refine vp F (c1) ?_|(refine Qs (c2 _ _ _ _) rfl ?_;rintro m1 hm1;refine rn F ?_)|(refine Qs (c3 _ _ _ _) rfl ?_;rintro m2 hm2;refine rn F ?_)|(refine Qs (c4 ⟨_,_⟩ vu) rfl ?_;rintro u hu;refine rn F ?_)|(refine Qf (id:=3) [0,1,2,3,5,6,7,8] [⟨[],[],4,[0,5,6,7,8],[]⟩,⟨[],[],9,[0,1,2,3,5],[10]⟩,⟨[],[],11,[0,1,2,3,5,6,7,8],[]⟩,⟨[],[],12,[],[]⟩] vw vw ?_;refine rn F ?_))
 all_goals first
  |exact⟨rfl,rfl,⟨l,w⟩,rfl,JJ _,fun _ _ _ _ h=>h⟩
  | (refine ⟨rfl,rfl,u,rfl,by dsimp only at hu; omega,fun a pg sl ha ⟨g,g1,g2,g3,g4,g5⟩=>?_⟩
     have ho:=(hv vq).o;dsimp only at ho hu;refine(hu.2 (ho.sub (fun x hx=>(J4.1 (hm1.2▸hx)).1) (hm2.2▸Kk))).2 _ _ _ ⟨g,?_,g2,g3,g4,g5⟩;rw[hm1.2]
     exact J4.2 ⟨g1,by unfold dS; rw[decide_eq_false vz]; rfl⟩)
  |skip
def GT (t:Lk) (hs:t.sum<=5000) (tx:Int):VCalls prog 219 [.agg t.d,.int .i64 tx] [] (QM (fun u:Lk=>.agg u.d) fun u=>u.sum<=t.sum/\ExS t.held u.held):=by
 refine dd Tryz.func219 ?_;have c1:=j8 t vz;have hv:=@nM t;have c4:=qh;unfold Lk.sum at *;obtain⟨l,w⟩:=t;dsimp only at hs c1 |-;have c3:=fun a=>qd w vz a;generalize lkB ⟨l,w⟩=B at *;refine rn F ?_
 repeat' (first|with_reducible exact⟨⟩|(refine sB F ?_ ?_<;>intro hZ)|refine vp F (c1) ?_|(refine Qs (c3 _ _ _ _) rfl ?_;rintro m2 hm2;refine rn F ?_)|(refine Qs (c4 ⟨_,_⟩ vu) rfl ?_;rintro u hu;refine rn F ?_)|(refine Qf (id:=3) [0,1,2,3,4,5] [⟨[],[],6,[0,1,2],[7]⟩,⟨[],[],8,[0,1,2,3,4,5],[]⟩,⟨[],[],9,[],[]⟩] vw vw ?_;refine rn F ?_))
 all_goals first
  |exact⟨rfl,rfl,⟨l,w⟩,rfl,JJ _,ExS.refl _⟩
  | (refine ⟨rfl,rfl,u,rfl,by dsimp only at hu; omega,?_⟩
     have ho:=(hv vq).o;dsimp only at ho hu
     exact(hu.2 (ho.sub (fun x hx=>hx) (hm2.2▸Kk))).2)
  |skip
def yB (t:Lk) (hs:t.sum<=5000) (tx pg sl:Int):VCalls prog 172 [.agg t.d,.int .i64 tx,.agg [.int .i64 pg,.int .i64 sl]] [] (QM (fun u:Lk=>.agg u.d) fun u=>u.sum<=t.sum/\∀a p s,¬(a = tx/\p = pg/\s = sl)->exG t.held a p s->exG u.held a p s):=by
 refine dd Tryz.func172 ?_;have c1:=j8 t vz;have hv:=@nM t;have c4:=qh;unfold Lk.sum at *;obtain⟨l,w⟩:=t;dsimp only at hs c1 |-;have c2:=fun a=>qd l vz a;generalize lkB ⟨l,w⟩=B at *;refine rn F ?_
 repeat' (first|with_reducible exact⟨⟩|(refine sB F ?_ ?_<;>intro hZ)|refine vp F (c1) ?_|(refine Qs (c2 _ _ _ _) rfl ?_;rintro m1 hm1;refine rn F ?_)|(refine Qs (c4 ⟨_,_⟩ vu) rfl ?_;rintro u hu;refine rn F ?_)|(refine Qf (id:=3) [0,1,2,3,5,6] [⟨[],[],4,[0,5,6],[7]⟩,⟨[],[],8,[0,1,2,3,5,6],[]⟩,⟨[],[],9,[],[]⟩] vw vw ?_;refine rn F ?_))
 all_goals first
  |exact⟨rfl,rfl,⟨l,w⟩,rfl,JJ _,fun _ _ _ _ h=>h⟩
  | (refine ⟨rfl,rfl,u,rfl,by dsimp only at hu; omega,fun a p s ha ⟨g,g1,g2,g3,g4,g5⟩=>?_⟩
     have ho:=(hv vq).o;dsimp only at ho hu;refine(hu.2 (ho.sub (fun x hx=>(J4.1 (hm1.2▸hx)).1) (List.Sublist.refl _))).2 _ _ _ ⟨g,?_,g2,g3,g4,g5⟩;rw[hm1.2];refine J4.2 ⟨g1,?_⟩;unfold dS;rw[g2,g3,g4];by_cases q1:a=tx
     ·by_cases q2:p = pg
      ·rw[decide_eq_false (show ¬s=sl from fun q3=>ha ⟨q1,q2,q3⟩)];simp
      ·rw[decide_eq_false q2];simp
     ·rw[decide_eq_false q1]; rfl)
  |skip
def yC(a:Lk×Bool×Int):DV:=.tup [.agg a.1.d,.bool a.2.1,.int .i64 a.2.2]
def Lk0:Lk:=⟨[],[]⟩
def tO(a b c d a' b' c' d':Int):QZ [.pv (.lit (.int .i64 a)),.pv (.lit (.int .i64 b)),.pv (.lit (.int .i64 c)),.pv (.lit (.int .i64 d))] [.pv (.lit (.int .i64 a')),.pv (.lit (.int .i64 b')),.pv (.lit (.int .i64 c')),.pv (.lit (.int .i64 d'))] [(0,1),(1,1),(2,1),(3,1)]=some (decide (a=a')&&decide (b=b')&&decide (c=c')&&decide (d=d')):=by simp[QZ,bK,JZ,Ky]
def LkV.ins(h:LkV ⟨l,w⟩)(hg:grB g=true)(hm:dR l g.tx g.pg g.sl<g.md)(hn:∀x∈w,x.tx≠g.tx)(n:Nat):LkH l (w.take n++[g]++w.drop n):=by
 have ho:=h.o;dsimp only at ho
 have hmd:g.md<=2:=by
  unfold grB at hg;simp only[Jc,decide_eq_true_eq,Jf] at hg;omega
 have hmem:∀x∈w.take n++[g]++w.drop n,x=g\/x∈w:=fun x hx=>by
  rcases JG.1 hx with hx|hx
  ·rcases JG.1 hx with hx|hx
   ·exact .inr (Kf hx)
   ·exact .inl (JM.1 hx)
  ·exact .inr (Kg hx)
 refine⟨fun x hx=>?_,fun x hx y hy hs=>?_,?_⟩
 ·rcases hmem x hx with rfl|q
  ·exact hmd
  ·exact ho.md x q
 ·rcases hmem x hx with rfl|q
  ·obtain ⟨s1,s2,s3⟩:=hs;rw[<-s1,<-s2,<-s3,yA h.sr hy] at hm;exact hm
  ·exact ho.lt x q y hy hs
 ·have hun:=ho.un;rw[<-List.take_append_drop n w,Kh] at hun;rw[J9,Kh];refine⟨hun.1,?_,fun a ha b hb=>?_⟩
  ·rw [Kd,List.pairwise_cons];exact⟨fun b hb=>(hn b (Kg hb)).symm,hun.2.1⟩
  ·rw [Kd,List.mem_cons] at hb;rcases hb with rfl|hb
   ·exact hn a (Kf ha)
   ·exact hun.2.2 a ha b hb
def tP(t:Lk)(g:Gr)(a:Lk×Bool×Int):Prop:=a.1.sum<=1024/\(a.2.2=0->ExS t.held a.1.held/\(a.2.1=true->2<=g.md->exG a.1.held g.tx g.pg g.sl))
def GU (t:Lk) (hs:t.sum<=4000) (g:Gr):VCalls prog 180 [.agg t.d,.agg g.d] [] (QM yC (tP t g)):=by
 refine dk Tryz.func180 ?_;have c1:=j8 t vz
 have hb:lkB t=true->t.sum<=1024:=fun h=>by
  rcases JP 1024 t.sum with h1|h1
  ·rw[tN vz] at h;cases h
  ·exact h1
 have c2:=tL g;have c3:=qi t vz g.tx;have c4:=qh;have c5:=GM t vz g;have c6:=fun(u:Lk) (h:u.held.length<=1000000)=>tM u h;unfold Lk.sum at *;obtain⟨l,w⟩:=t;have hV:=@nM ⟨l,w⟩;have hins:=fun(h:lkB ⟨l,w⟩=true)=>(hV h).ins (g:=g);have hmx:=@GS;unfold tP;dsimp only at hs c1 c5 hb c3 |-;generalize hBB:lkB ⟨l,w⟩=B at *;generalize grB g=G at *;generalize dR=M at *;clear hV hBB;have F:=@tO;refine rn F ?_
 repeat' (first|with_reducible exact⟨⟩|(refine sG F ?_ ?_<;>intro hZ)|(refine sB F ?_ ?_<;>intro hZ)|refine vp F (c1) ?_|refine vp F (c2) ?_|(refine Qs (c3) rfl ?_;rintro⟨g0,b0⟩ hw;refine rn F ?_)|(refine vp F (c6 ⟨_,_⟩ (by first|(dsimp only;omega)|(have hu1:=hu.1;dsimp only at hu1 |-;simp only[Jb,Jm,Jx,Je,Jd] at hu1;omega)) _ _ _) ?_)|(refine Qs (c5) rfl ?_;rintro n hn;refine rn F ?_)|(refine tQ [7] _ _ (c4 ⟨l,w.take n++[⟨g.tx,g.pg,g.sl,g.md⟩]++w.drop n⟩ (by dsimp only;simp only[Jb,Jm,Jx,Je,Jd];omega)) rfl ⟨⟨vv,Qw _ _ _⟩,trivial⟩ vj rfl wu ?_ ?_;(focus (refine rd F));rintro⟨ul,uw⟩ hu;refine rn F ?_)|(refine Qf (id:=10) [0,1,2,3,4,6,7] [⟨[],[],5,[1,3,6,7],[8]⟩] vw vw ?_;refine rn F ?_)|(refine Qf (id:=15) [0,1,2,3,5,8,9,10,11] [⟨[6],[],4,[0,1,2,5,8,9,10,11],[]⟩,⟨[6],[6],7,[0,1,2,3,5,8,9,10,11],[]⟩,⟨[],[],12,[0,1,2,3,5,8,9,10],[13]⟩,⟨[],[],14,[],[]⟩] vw vw ?_;refine rn F ?_)|(refine Qf (id:=17) [0,1,2,3,4,5,7,8] [⟨[],[],6,[0,2,4,7,8],[9]⟩,⟨[],[],10,[1,2,3,4,5,7,8,9],[]⟩,⟨[],[],11,[],[]⟩,⟨[],[],12,[],[]⟩] vw vw ?_;refine rn F ?_))
 all_goals first
  |exact⟨rfl,rfl,(Lk0,false,_),rfl,by simp[Lk0,Lk.sum],fun h=>by first|(dsimp only at h;omega)|exact absurd h vj⟩
  |exact⟨rfl,rfl,(⟨l,w⟩,true,_),rfl,hb wv,fun _=>⟨ExS.refl _,fun _ h=>hmx (by dsimp only at h |-;omega)⟩⟩
  |exact⟨rfl,rfl,(⟨l,w⟩,false,_),rfl,hb wv,fun _=>⟨ExS.refl _,fun h=>by cases h⟩⟩
  | (have hi:=hu.2 (hins wv wv vz (hw wv wv) n)
     refine⟨rfl,rfl,(⟨ul,uw⟩,decide (g.md<=M ul g.tx g.pg g.sl),0),rfl,?_,fun _=>⟨hi.2,fun h1 h2=>hmx (by have:=of_decide_eq_true h1;dsimp only at h2 |-;omega)⟩⟩;have q1:=hb wv;have q2:=hu.1;show ul.length+uw.length<=1024
     dsimp only at q2;simp only[Jb,Jm,Jx,Je,Jd] at q2
     omega)
  |skip
attribute [go_sem] nD nE nF iq
@[go_sem] def ilD(l:List Int):DV:=.pv (.sl (fz Q7 l))
def tR(l:List Int)(hl:l.length<=100000)(n:Int):VCalls prog 185 [.pv (.sl (fz Q7 l)),.int .i64 n] [] (QM ilD fun m=>m.length<=l.length+1):=by
 refine dd Tryz.func185 ?_;refine rn F ?_;refine VLoop.nilOwn 5 3 1 rfl ?_;refine rn trivial ?_;refine Qj (fun s:{s:Nat×List Int×Bool // s.1<=l.length/\s.2.1.length<=s.1+1/\(s.2.2=false->s.2.1.length<=s.1)}=>⟨48,0,[(7,.int .i64 s.1.1),(6,.bool s.1.2.2),(5,.own 0 1 0 s.1.2.1.length),(1,.int .i64 n),(0,.pv (.sl (fz Q7 l)))],[⟨3,true,cells Q7 s.1.2.1⟩]⟩) (fun s=>l.length-s.1.1) ⟨(0,[],false),vv⟩ (gc [0]) ?_;rintro⟨⟨i,out,dn⟩,hi,ho,hd⟩;dsimp only at hi ho hd |-;have hg:=fun h:i<l.length=>bL l i h;have hb:(out.length+1)*8<=140737488355328:=JX (JC 8 (show out.length+1<=100003 by omega)) vj;have hb2:(out.length+1+1)*8<=140737488355328:=JX (JC 8 (show out.length+1+1<=100003 by omega)) vj;cases dn
 all_goals
  simp only[forall_const,reduceCtorEq,false_implies] at hd;have F:=(Ja @hg (Ja @hb @hb2))
  refine rn F ?_
  repeat' (first|with_reducible exact⟨⟩|(refine sB F ?_ ?_<;>intro hZ))
 all_goals first|exact⟨rfl,rfl,out,rfl,vz⟩|exact⟨rfl,rfl,out++[n],rfl,vg⟩|exact⟨⟨(i+1,out,false),vu,by dsimp only;(try rw[Jd]);omega,by dsimp only;(try rw[Jd]);first|omega|(intro h;omega)|(intro h;cases h)⟩,vu,by dsimp only;(try rw[Jd]);exact(gc [0])⟩|exact⟨⟨(i+1,out++[l.getD i 0],false),vu,by dsimp only;(try rw[Jb,Je,Jd]);omega,by dsimp only;(try rw[Jb,Je,Jd]);first|omega|(intro h;omega)|(intro h;cases h)⟩,vu,by dsimp only;(try rw[Jb,Je,Jd]);exact(gc [2])⟩|exact⟨⟨(i+1,out,true),vu,by dsimp only;(try rw[Jd]);omega,by dsimp only;(try rw[Jd]);first|omega|(intro h;omega)|(intro h;cases h)⟩,vu,by dsimp only;(try rw[Jd]);exact(gc [0])⟩|exact⟨⟨(i+1,out++[l.getD i 0],true),vu,by dsimp only;(try rw[Jb,Je,Jd]);omega,by dsimp only;(try rw[Jb,Je,Jd]);first|omega|(intro h;omega)|(intro h;cases h)⟩,vu,by dsimp only;(try rw[Jb,Je,Jd]);exact(gc [2])⟩|exact⟨⟨(i+1,out++[n],true),vu,by dsimp only;(try rw[Jb,Je,Jd]);omega,by dsimp only;(try rw[Jb,Je,Jd]);first|omega|(intro h;omega)|(intro h;cases h)⟩,vu,by dsimp only;(try rw[Jb,Je,Jd]);exact(gc [2])⟩|exact⟨⟨(i+1,out++[n]++[l.getD i 0],true),vu,by dsimp only;(try rw[Jb,Jb,Je,Jd,Je,Jd]);omega,by dsimp only;(try rw[Jb,Jb,Je,Jd,Je,Jd]);first|omega|(intro h;omega)|(intro h;cases h)⟩,vu,by dsimp only;(try rw[Jb,Jb,Je,Jd,Je,Jd]);exact(gc [4])⟩|skip
def GV(t:Lk)(hs:t.sum<=5000):VCalls prog 224 [.agg t.d] [] (QM ilD fun m=>m.length<=t.sum):=by
 refine dk Tryz.func224 ?_;have c1:=GP t vz;unfold Lk.sum at *;obtain⟨l,w⟩:=t;dsimp only at hs c1 |-;refine rn F ?_
 repeat' (first|with_reducible exact⟨⟩|(refine sB F ?_ ?_<;>intro hZ)|(refine Qs (c1) rfl ?_;rintro b -;refine rn F ?_))
 all_goals first|exact⟨rfl,rfl,[],rfl,vv⟩|skip
 refine VLoop.wkS ?_;refine rn trivial ?_;refine Qj (fun s:{s:Nat×List Int // s.1<=w.length/\s.2.length<=s.1}=>⟨23,0,[(4,.int .i64 s.1.1),(3,.pv (.sl (fz Q7 s.1.2))),(1,.ptr 0 0)],[⟨32,true,[.pv (.sl (fz aj l)),.pv (.sl (fz aj w))]⟩]⟩) (fun s=>w.length-s.1.1) ⟨(0,[]),vv⟩ (gc [0]) ?_;rintro⟨⟨i,out⟩,hi,ho⟩;dsimp only at hi ho |-;have hg:=fun h:i<w.length=>bM w i h;have c2:=tR out vz;have F:=@hg;refine rn F ?_
 repeat' (first|with_reducible exact⟨⟩|(refine sB F ?_ ?_<;>intro hZ)|(refine Qs (c2 _) rfl ?_;rintro m hm;refine rn F ?_))
 all_goals first|exact⟨⟨(i+1,m),vu,vu⟩,vu,(gc [0])⟩|exact⟨rfl,rfl,out,rfl,vz⟩|skip
def qk(t:Lk)(hs:t.sum<=5000)(tx:Int):VCalls prog 133 [.agg t.d,.int .i64 tx] [] (QM ilD fun m=>m.length<=t.sum):=by
 refine dk Tryz.func133 ?_;have c1:=qi t vz tx;unfold Lk.sum at *;obtain⟨l,w⟩:=t;dsimp only at hs c1 |-;refine rn F ?_
 repeat' (first|with_reducible exact⟨⟩|(refine sB F ?_ ?_<;>intro hZ)|(refine Qs (c1) rfl ?_;rintro⟨g,b⟩ -;refine rn F ?_))
 all_goals first|exact⟨rfl,rfl,[],rfl,vv⟩|skip
 refine VLoop.wkS ?_;refine rn trivial ?_;refine Qj (fun s:{s:Nat×List Int // s.1<=l.length/\s.2.length<=s.1}=>⟨73,0,[(8,.int .i64 s.1.1),(7,.pv (.sl (fz Q7 s.1.2))),(5,.ptr 1 0),(2,.ptr 0 0),(1,.int .i64 tx)],[⟨32,true,[.pv (.sl (fz aj l)),.pv (.sl (fz aj w))]⟩,⟨221,true,g.d⟩]⟩) (fun s=>l.length-s.1.1) ⟨(0,[]),vv⟩ (gc [0,1]) ?_;rintro⟨⟨i,out⟩,hi,ho⟩;dsimp only at hi ho |-;have hg:=fun h:i<l.length=>bM l i h;have c2:=tR out vz;have c3:=qc (l.getD i Gr0) g;have F:=@hg;refine rn F ?_
 repeat' (first|with_reducible exact⟨⟩|(refine sB F ?_ ?_<;>intro hZ)|refine vp F (c3) ?_|(refine Qs (c2 _) rfl ?_;rintro m hm;refine rn F ?_)|(refine Qf (id:=8) [0,1,2,3,4,5] [⟨[],[],6,[0,1,2,3],[]⟩] vw vw ?_;refine rn F ?_))
 all_goals first|exact⟨⟨(i+1,m),vu,vu⟩,vu,(gc [0,1])⟩|exact⟨⟨(i+1,out),vu,vu⟩,vu,(gc [0,1])⟩|skip
 clear c2 c3 hg;refine Qj (fun s:{s:Nat×List Int // s.1<=w.length/\s.2.length<=l.length+s.1}=>⟨73,0,[(9,.int .i64 s.1.1),(7,.pv (.sl (fz Q7 s.1.2))),(5,.ptr 1 0),(2,.ptr 0 0),(1,.int .i64 tx)],[⟨32,true,[.pv (.sl (fz aj l)),.pv (.sl (fz aj w))]⟩,⟨221,true,g.d⟩]⟩) (fun s=>w.length-s.1.1) ⟨(0,out),vu⟩ (gc [0,1]) ?_;rintro⟨⟨j,o2⟩,hj,ho2⟩;dsimp only at hj ho2 |-;have hg:=fun h:j<w.length=>bM w j h;have c2:=tR o2 vz;have c3:=qc (w.getD j Gr0) g;have F:=@hg;refine rn F ?_
 repeat' (first|with_reducible exact⟨⟩|(refine sG F ?_ ?_<;>intro hZ)|(refine sB F ?_ ?_<;>intro hZ)|refine vp F (c3) ?_|(refine Qs (c2 _) rfl ?_;rintro m hm;refine rn F ?_)|(refine Qf (id:=13) [0,1,2,3,4,5] [⟨[],[],6,[0,1,2,3],[]⟩] vw vw ?_;refine rn F ?_))
 all_goals first|exact⟨⟨(j+1,m),vu,vu⟩,vu,(gc [0,1])⟩|exact⟨⟨(j+1,o2),vu,vu⟩,vu,(gc [0,1])⟩|exact⟨rfl,rfl,o2,rfl,vz⟩|skip
def GW(l:List Int):VCalls prog 226 [.pv (.sl (fz Q7 l))] [] (QM (fun n:Int=>.int .i64 n) fun _=>True):=by
 refine dd Tryz.func226 ?_;have hg:=fun h:0<l.length=>bL l 0 h;have F:=@hg;refine rn F ?_
 repeat' (first|with_reducible exact⟨⟩|(refine sB F ?_ ?_<;>intro hZ))
 all_goals first|exact⟨rfl,rfl,_,rfl,trivial⟩|skip
def GX (t:Lk) (hs:t.sum<=5000) (n:Nat) (hn:n<=5000):∀(k:Nat) (way:List Int),0 < way.length->way.length + k = n->VCalls prog 225 [.agg t.d,.pv (.sl (fz Q7 way)),.int .i64 n] [] (QM ilD fun m=>m.length<=5000):=by
 intro k;induction k with
 |zero =>
   intro way h0 hk;refine dk Tryz.func225 ?_;have c1:=qk t hs;have hg:=bL way (way.length-1) vz;have hg0:=bL way 0 h0;obtain rfl:n=way.length:=vz;have F:=@hg;refine rn F ?_
   repeat' (first|with_reducible exact⟨⟩|(refine Qs (c1 _) rfl ?_;rintro m hm;refine rn F ?_)|(refine Qf (id:=1) [0,1,2,3,4,5,6] [⟨[],[],7,[1,2,3,4,5],[]⟩,⟨[],[],8,[],[]⟩] vw vw ?_;refine rn F ?_))
   refine Qj (fun s:To m.length=>⟨74,0,[(30,.int .i64 s.i),(29,.int .i64 m.length),(28,.pv (.sl (fz Q7 m))),(1,.pv (.sl (fz Q7 way)))],[]⟩) (fun s=>m.length-s.i) ⟨0,JA _⟩ (gc []) ?_;rintro⟨i,hi⟩;dsimp only;have hx:=fun h:i<m.length=>bL m i h;have F:=(Ja @hx @hg0)
   refine rn F ?_
   repeat' (first|with_reducible exact⟨⟩|(refine sB F ?_ ?_<;>intro hZ))
   all_goals first|exact⟨⟨i+1,vz⟩,vu,(gc [])⟩|exact⟨rfl,rfl,way,rfl,vz⟩|exact⟨rfl,rfl,[],rfl,vv⟩|skip
 |succ k ih =>
   intro way h0 hk;refine dk Tryz.func225 ?_;have c1:=qk t hs;have hg:=bL way (way.length-1) vz;obtain rfl:n=way.length+(k+1):=vz;have hne:¬(way.length:Int)=((way.length+(k+1):Nat):Int):=vz;have F:=(Ja @hg @hne)
   refine rn F ?_
   repeat' (first|with_reducible exact⟨⟩|(refine Qs (c1 _) rfl ?_;rintro m hm;refine rn F ?_)|(refine Qf (id:=1) [0,1,2,3,4,5,6] [⟨[],[],7,[1,2,3,4,5],[]⟩,⟨[],[],8,[],[]⟩] vw vw ?_;refine rn F ?_))
   refine Qj (fun s:To m.length=>⟨74,0,[(43,.int .i64 s.i),(42,.int .i64 m.length),(41,.pv (.sl (fz Q7 m))),(3,.ptr 0 0),(2,.int .i64 (way.length+(k+1):Nat)),(1,.pv (.sl (fz Q7 way)))],[⟨32,true,t.d⟩]⟩) (fun s=>m.length-s.i) ⟨0,JA _⟩ (gc [0]) ?_;rintro⟨i,hi⟩;dsimp only;have hx:=fun h:i<m.length=>bL m i h;have F:=@hx;refine rn F ?_
   repeat' (first|with_reducible exact⟨⟩|(refine sB F ?_ ?_<;>intro hZ))
   rotate_left
   ·exact⟨rfl,rfl,[],rfl,vv⟩
   generalize hv:m.getD i 0=v at *;refine Qj (fun s:{s:Nat×Bool // s.1<=way.length}=>⟨74,0,[(49,.int .i64 s.1.1),(48,.int .i64 way.length),(47,.pv (.sl (fz Q7 way))),(43,.int .i64 i),(42,.int .i64 m.length),(41,.pv (.sl (fz Q7 m))),(12,.bool s.1.2),(11,.int .i64 v),(3,.ptr 0 0),(2,.int .i64 (way.length+(k+1):Nat)),(1,.pv (.sl (fz Q7 way)))],[⟨32,true,t.d⟩]⟩) (fun s=>way.length-s.1.1) ⟨(0,false),JA _⟩ (gc [0]) ?_;rintro⟨⟨j,sn⟩,hj⟩;dsimp only at hj |-;have hy:=fun h:j<way.length=>bL way j h;have hb:(way.length+1)*8<=140737488355328:=JX (JC 8 (show way.length+1<=100003 by omega)) vj;have hb2:way.length*8<=140737488355328:=JX (JC 8 (show way.length<=100003 by omega)) vj;have ih2:=ih (way++[v]) vv vg;have F:=(Ja @hy (Ja @hb @hb2))
   refine rn F ?_
   repeat' (first|with_reducible exact⟨⟩|(refine sG F ?_ ?_<;>intro hZ)|(refine sB F ?_ ?_<;>intro hZ)|(refine tQ [3] _ _ (ih2) rfl ⟨⟨vv,Qw _ _ _⟩,trivial⟩ vj rfl wu ?_ ?_;(focus (refine rd F));rintro m2 hm2;refine rn F ?_)|(refine Qf (id:=20) [0,1,3,6] [⟨[4],[],2,[0,3,6],[]⟩,⟨[4],[4],5,[0,1,3,6],[]⟩,⟨[],[],7,[1,3],[]⟩,⟨[],[],8,[],[]⟩] vw vw ?_;refine rn F ?_))
   all_goals first|exact⟨⟨(j+1,v==way.getD j 0),vu⟩,vu,(gc [0])⟩|exact⟨⟨(j+1,true),vu⟩,vu,(gc [0])⟩|exact⟨⟨i+1,vz⟩,vu,(gc [0])⟩|exact⟨rfl,rfl,m2,rfl,hm2⟩|skip
def GY(t:Lk)(hs:t.sum<=5000)(tx:Int):VCalls prog 182 [.agg t.d,.int .i64 tx] [] (QM ilD fun m=>m.length<=5000):=by
 refine dk Tryz.func182 ?_;have c1:=GV t hs;refine rn F ?_;refine Qj (fun s:{s:Nat // 1<=s/\s<=t.sum+1}=>⟨23,0,[(5,.int .i64 s.1),(2,.ptr 0 0),(1,.int .i64 tx)],[⟨32,true,t.d⟩]⟩) (fun s=>t.sum+1-s.1) ⟨1,vz⟩ (gc [0]) ?_;rintro⟨i,hi⟩;dsimp only;have c2:=fun(h:i<=5000)=>GX t hs i h (i-1) [tx] vv vg;refine rn F ?_
 repeat' (first|with_reducible exact⟨⟩|(refine sB F ?_ ?_<;>intro hZ)|(refine Qs (c1) rfl ?_;rintro m hm;refine rn F ?_))
 ·rw [show ([.pv (.lit (.int .i64 tx))]:List DV) = cells Q7 [tx] from rfl];refine tQ [1] _ _ (c2 vz) rfl ⟨⟨vv,Qw _ _ _⟩,trivial⟩ vj rfl wu ?_ ?_
  ·(refine rn trivial ?_;try with_reducible exact⟨⟩)
  intro m2 hm2;refine rn F ?_
  repeat' (first|with_reducible exact⟨⟩|(refine sB F ?_ ?_<;>intro hZ))
  ·exact⟨rfl,rfl,m2,rfl,hm2⟩
  ·exact⟨⟨i+1,vz⟩,vu,(gc [0])⟩
 ·exact⟨rfl,rfl,[],rfl,vv⟩
section
attribute [local go_sem] ba
def Pg.numB(p:Pg):Bool:=decide (0<=p.id)&&decide (p.id<64)&&decide (0<=p.lsn)&&decide (p.lsn<=1099511627776)
def Pg.celC(p:Pg)(i:Nat):Bool:=(p.cel i).okB&&!(decide (p.lsn=0)&&(p.cel i).set)
def Pg.celB(p:Pg):Bool:=(Jt 16).all p.celC
def Pg.okB(p:Pg):Bool:=p.numB&&p.celB
def Q5(p:Pg):Int:=if p.numB=false then 1 else if p.celB=false then 22 else 0
def yD(p:Pg):VCalls prog 186 [.agg p.d] [] (Ret (.bool p.numB)):=by
 refine dd Tryz.func186 ?_;refine rn F ?_
 repeat' (first|with_reducible exact⟨⟩|(refine sG F ?_ ?_<;>intro hZ))
 all_goals (first|rfl|(congr 3;rw[Jp];(try simp only[Pg.numB,decide_eq_true_eq,Jc,Jf,Jj,Ji,decide_eq_false_iff_not,beq_iff_eq,bne_iff_ne,ne_eq,Jo,Jq,iff_true,true_iff,iff_false,false_iff]);first|done|omega|grind))
def yE(p:Pg):VCalls prog 187 [.agg p.d] [] (Ret (.bool p.celB)):=by
 refine dd Tryz.func187 ?_;refine rn F ?_;refine Qj (fun s:Okay 16 p.celC=>⟨26,0,[(3,.int .i64 s.i),(1,.ptr 0 0)],[⟨175,true,p.d⟩]⟩) (fun s=>16-s.i) (Okay.start _ _) (gc [0]) ?_;intro s;have hsi:=s.hi;have hg:=fun h:s.i<16=>qb p s.i h;have hg0:=fun h:s.i<16=>yi p s.i h;have e:p.celC s.i=((p.cel s.i).okB&&!(decide (p.lsn=0)&&(p.cel s.i).set)):=rfl;have c:=s9 (p.cel s.i);generalize (p.cel s.i).okB=ok at *;have F:=(Ja @hg @hg0)
 refine rn F ?_
 repeat' (first|with_reducible exact⟨⟩|(refine sG F ?_ ?_<;>intro hZ)|(refine sB F ?_ ?_<;>intro hZ)|refine vp F (c) ?_)
 all_goals first|(exact congrArg DV.bool (s.no vz rfl (by rw[e];simp_all )).symm)|(exact congrArg DV.bool (s.yes vz rfl).symm)|(exact⟨s.next vz (by rw[e];simp_all ),s.dec vz,(gc [ 0])⟩)|skip
def GZ(p:Pg):VCalls prog 135 [.agg p.d] [] (Ret (.bool p.okB)):=by
 refine dd Tryz.func135 ?_;have c1:=yD p;have c2:=yE p;have e:p.okB=(p.numB&&p.celB):=rfl;generalize p.numB=a at *;generalize p.celB=b at *;refine rn F ?_
 repeat' (first|with_reducible exact⟨⟩|(refine sG F ?_ ?_<;>intro hZ)|refine vp F (c1) ?_|refine vp F (c2) ?_)
 all_goals (rw[e];simp_all)
def lH(p:Pg):VCalls prog 136 [.agg p.d] [] (Ret (.int .i64 (Q5 p))):=by
 refine dd Tryz.func136 ?_;have c1:=yD p;have c2:=yE p;have e:Q5 p=if p.numB=false then 1 else if p.celB=false then 22 else 0:=rfl
 generalize p.numB=a at *;generalize p.celB=b at *;refine rn F ?_
 repeat' (first|with_reducible exact⟨⟩|(refine sB F ?_ ?_<;>intro hZ)|refine vp F (c1) ?_|refine vp F (c2) ?_)
 all_goals (rw[e];simp_all)
def tS(h:Q5 p=0):p.okB=true:=by
 unfold Q5 at h;unfold Pg.okB;grind
end
section
attribute [local go_sem] ba
def idF(l:List Fm)(a:Int):Int:=bA l fun f=>f.pg.id==a
def j9(p:Pl)(hl:p.fs.length<=1000000)(a:Int):VCalls prog 104 [.agg p.d,.int .i64 a] [] (Ret (.int .i64 (idF p.fs a))):=by
 refine dd Tryz.func104 ?_;obtain⟨z,l,h⟩:=p;refine rn F ?_;refine Qj (fun i:Pass l (fun x=>(x.pg.id==a)=true)=>⟨23,0,[(5,.int .i64 i.i),(2,.ptr 0 0),(1,.int .i64 a)],[⟨29,true,Pl.d ⟨z,l,h⟩⟩]⟩) (fun i=>l.length-i.i) (Pass.start l _) (gc [0]) ?_;intro i;have hi:=i.hi;dsimp only at hl;have hg:=fun h:i.i<l.length=>dQ l i.i h;have F:=@hg;refine rn F ?_
 repeat' (first|with_reducible exact⟨⟩|(refine sB F ?_ ?_<;>intro hZ))
 ·have hq:(l.getD i.i Fm0).pg.id = a:=vq;rw[Qd l i.i vz] at hq;have:=tq l (fun x=>x.pg.id==a) i.i vz (by simpa using hq) i.no;rw[idF,this]
 ·have hq:¬(l.getD i.i Fm0).pg.id = a:=vq;rw[Qd l i.i vz] at hq;exact⟨i.next vz (by simpa using hq),by show l.length-(i.i+1)<l.length-i.i;omega,(gc [0])⟩
 ·have:=i.all vz;rw[idF,bA,if_neg (by simpa using this)]
def fR(l:List Fm)(i k:Nat):Bool:=!decide ((l.getD k Fm0).pg.id=(l.getD i Fm0).pg.id)
def frC(l:List Fm)(i:Nat):Bool:=(l.getD i Fm0).pg.okB&&!((l.getD i Fm0).dirty&&(decide ((l.getD i Fm0).rc<1)||decide ((l.getD i Fm0).pg.lsn<(l.getD i Fm0).rc)))&&!(!(l.getD i Fm0).dirty&&!decide ((l.getD i Fm0).rc=0))&&(Jt i).all (fR l i)
def Pl.hd(p:Pl):Prop:=1<=p.size/\p.size<=64/\p.fs.length<=p.size/\0<=p.hand/\p.hand<=max 0 ((p.fs.length:Int)-1)
instance (p:Pl):Decidable p.hd:=by unfold Pl.hd;infer_instance
def plB(p:Pl):Bool:=decide p.hd&&(Jt p.fs.length).all (frC p.fs)
def lI{p:Pl}(h:plB p=true):p.hd:=by unfold plB at h;simp at h;exact h.1
def gJ(p:Pl)(hl:p.fs.length<=1000000):VCalls prog 103 [.agg p.d] [] (Ret (.bool (plB p))):=by
 refine dd Tryz.func103 ?_;obtain⟨z,l,hn⟩:=p;dsimp only at hl;have hB:plB ⟨z,l,hn⟩=(decide (Pl.hd ⟨z,l,hn⟩)&&(Jt l.length).all (frC l)):=rfl;have hH:Pl.hd ⟨z,l,hn⟩=(1<=z/\z<=64/\l.length<=z/\0<=hn/\hn<=max 0 ((l.length:Int)-1)):=rfl;have hB':Pl.hd ⟨z,l,hn⟩->plB ⟨z,l,hn⟩=(Jt l.length).all (frC l):=fun h=>by rw[hB,decide_eq_true h,Bool.true_and]
 have no:¬Pl.hd ⟨z,l,hn⟩->plB ⟨z,l,hn⟩=false:=fun h=>by rw[hB,decide_eq_false h];rfl
 generalize plB ⟨z,l,hn⟩=b at *;refine rn F ?_
 repeat' (first|with_reducible exact⟨⟩|(refine sG F ?_ ?_<;>intro hZ)|(refine sB F ?_ ?_<;>intro hZ))
 all_goals first|(rw[no (by rw[hH];omega)])|skip
 refine Qj (fun s:Okay l.length (frC l)=>⟨94,0,[(4,.int .i64 s.i),(3,.int .i64 l.length),(1,.ptr 0 0)],[⟨29,true,Pl.d ⟨z,l,hn⟩⟩]⟩) (fun s=>l.length-s.i) (Okay.start _ _) (gc [0]) ?_;intro s;have hsi:=s.hi;have hg:=fun h:s.i<l.length=>dQ l s.i h;have c1:=GZ (l.getD s.i Fm0).pg;have e:frC l s.i=((l.getD s.i Fm0).pg.okB&&!((l.getD s.i Fm0).dirty&&(decide ((l.getD s.i Fm0).rc<1)||decide ((l.getD s.i Fm0).pg.lsn<(l.getD s.i Fm0).rc)))&&!(!(l.getD s.i Fm0).dirty&&!decide ((l.getD s.i Fm0).rc=0))&&(Jt s.i).all (fR l s.i)):=rfl;generalize (l.getD s.i Fm0).pg.okB=ok at *;have F:=@hg;refine rn F ?_
 repeat' (first|with_reducible exact⟨⟩|(refine sG F ?_ ?_<;>intro hZ)|(refine sB F ?_ ?_<;>intro hZ)|refine vp F (c1) ?_)
 all_goals first|(exact congrArg DV.bool (s.no vz (hB' (by rw[hH];omega)) (by rw[e];simp_all)).symm)|(exact congrArg DV.bool (s.yes vz (hB' (by rw[hH];omega))).symm)|skip
 all_goals
  refine Qj (fun r:Okay s.i (fR l s.i)=>⟨94,0,[(6,.int .i64 r.i),(5,.ptr 1 0),(4,.int .i64 s.i),(3,.int .i64 l.length),(1,.ptr 0 0)],[⟨29,true,Pl.d ⟨z,l,hn⟩⟩,⟨179,true,(l.getD s.i Fm0).d⟩]⟩) (fun r=>s.i-r.i) (Okay.start _ _) (gc [0,1]) ?_;intro r;have hri:=r.hi;have hk:=fun h:r.i<l.length=>dQ l r.i h;have e2:fR l s.i r.i=!decide ((l.getD r.i Fm0).pg.id=(l.getD s.i Fm0).pg.id):=rfl;have F:=@hk;refine rn F ?_
  repeat' (first|with_reducible exact⟨⟩|(refine sB F ?_ ?_<;>intro hZ)|(refine Qf (id:=13) [0,1,2,3,4,5,6,7,8,9,10] [] vw vw ?_;refine rn F ?_))
 all_goals first|(exact congrArg DV.bool (s.no vz (hB' (by rw[hH];omega)) (by rw[e,de (i:=r.i) vz (by rw[e2];simp_all),JN])).symm)|(exact⟨r.next vz (by rw[e2];simp_all),r.dec vz,(gc [0,1])⟩)|(exact⟨s.next vz (by rw[e,r.all vz];simp_all),s.dec vz,(gc [0])⟩)|skip
end
section
attribute [local go_sem] ba
def bg(p:Pl)(a:Int):Int:=if plB p=true then idF p.fs a else -1
def gK(l:List Fm)(a:Int):idF l a=-1\/∃i:Nat,∃_:i<l.length,idF l a=i/\(l.getD i Fm0).pg.id=a:=by
 rcases FV l (fun f=>f.pg.id==a) with⟨h,_⟩|⟨i,hi,h,hf⟩
 ·exact .inl h
 ·refine .inr ⟨i,hi,h,?_⟩;have:=Kc hf;rw[Qd l i hi];simpa using this
def nN(p:Pl)(a:Int):bg p a=-1\/(plB p=true/\∃i:Nat,∃_:i<p.fs.length,bg p a=i/\idF p.fs a=i/\(p.fs.getD i Fm0).pg.id=a):=by
 unfold bg;split
 ·rename_i hv;rcases gK p.fs a with h|⟨i,hi,h,hx⟩
  ·exact .inl h
  ·exact .inr ⟨hv,i,hi,h,h,hx⟩
 ·exact .inl rfl
def aN(p:Pl)(a:Int):Pg×Bool:=if bg p a<0 then (Pg0,false) else ((p.fs.getD (bg p a).toNat Fm0).pg,true)
def ka(p:Pl)(hl:p.fs.length<=1000000)(a:Int):VCalls prog 82 [.agg p.d,.int .i64 a] [] (Ret (.int .i64 (bg p a))):=by
 refine dd Tryz.func82 ?_;have c1:=gJ p hl;have c2:=j9 p hl a;unfold bg;generalize plB p=b at *;refine rn F ?_
 repeat' (first|with_reducible exact⟨⟩|(refine sB F ?_ ?_<;>intro hZ)|refine vp F (c1) ?_|refine vp F (c2) ?_)
 all_goals (simp_all)
def nO(p:Pl)(hl:p.fs.length<=1000000)(a:Int):VCalls prog 101 [.agg p.d,.int .i64 a] [] (Ret (.tup [.agg (aN p a).1.d,.bool (aN p a).2])):=by
 refine dd Tryz.func101 ?_;have c1:=ka p hl a;unfold aN;rcases nN p a with h|⟨_,i,hi,h,_⟩
 ·rw [h] at c1 |-;refine rn F ?_
  repeat' (first|with_reducible exact⟨⟩|refine vp F (c1) ?_)
  all_goals rfl
 ·rw [h] at c1 |-;rw[if_neg vz,Jz];have hg:=dQ p.fs i hi;generalize p.fs.getD i Fm0=f at *;have F:=@hg;refine rn F ?_
  repeat' (first|with_reducible exact⟨⟩|refine vp F (c1) ?_)
def G0(l:List Fm)(i:Nat)(f:Fm)(hi:i<l.length):(cells aA l).take (i*37)++f.d++(cells aA l).drop (i*37+37)=cells aA (l.set i f):=tA aA l i f hi
def qm(p:Pl)(hl:p.fs.length<=1000000)(i:Nat)(hi:i<p.fs.length)(f:Fm):VCalls prog 190 [.agg p.d,.int .i64 i,.agg f.d] [] (Ret (.agg (Pl.d ⟨p.size,p.fs.set i f,p.hand⟩))):=by
 refine dd Tryz.func190 ?_;obtain⟨z,l,hn⟩:=p;dsimp only at hl hi;have hb:i*37+37<=l.length*37:=vz;have hse:=G0 l i f hi;have hle:(l.set i f).length=l.length:=Kv;refine rn F ?_;have F:=(Ja @hb (Ja @hse @hle))
 (refine rn F ?_;try with_reducible exact⟨⟩)
def kd(p:Pl)(a:Int):Pl:=if bg p a<0 then p else ⟨p.size,p.fs.set (bg p a).toNat ⟨(p.fs.getD (bg p a).toNat Fm0).pg,(p.fs.getD (bg p a).toNat Fm0).dirty,(p.fs.getD (bg p a).toNat Fm0).rc,true⟩,p.hand⟩
def G1(p:Pl)(hl:p.fs.length<=1000000)(a:Int):VCalls prog 223 [.agg p.d,.int .i64 a] [] (Ret (.agg (kd p a).d)):=by
 refine dd Tryz.func223 ?_;have c1:=ka p hl a;unfold kd;rcases nN p a with h|⟨_,i,hi,h,_⟩
 ·rw [h] at c1 |-;refine rn F ?_
  repeat' (first|with_reducible exact⟨⟩|refine vp F (c1) ?_)
  all_goals rfl
 ·rw [h] at c1 |-;rw[if_neg vz,Jz];have hg:=dQ p.fs i hi;have c2:=qm p hl i hi ⟨(p.fs.getD i Fm0).pg,(p.fs.getD i Fm0).dirty,(p.fs.getD i Fm0).rc,true⟩;generalize p.fs.getD i Fm0=f at *;have F:=@hg;refine rn F ?_
  repeat' (first|with_reducible exact⟨⟩|refine vp F (c1) ?_|refine vp F (c2) ?_)
def gL(n:Int):Pl×Int:=if n<1\/64<n then (Pl0,1) else (⟨n,[],0⟩,0)
def yF(n:Int):VCalls prog 50 [.int .i64 n] [] (Ret (.tup [.agg (gL n).1.d,.int .i64 (gL n).2])):=by
 refine dk Tryz.func50 ?_;unfold gL;refine rn F ?_
 repeat' (first|with_reducible exact⟨⟩|(refine sG F ?_ ?_<;>intro hZ)|(refine sB F ?_ ?_<;>intro hZ))
 all_goals first|(rw[if_pos vz];rfl)|(rw[if_neg vz];rfl)
def dV(p:Pl)(x:Pg):Pl×Int:=
 if plB p=false then (Pl0,15) else if Q5 x≠0 then (Pl0,Q5 x) else if 0<=idF p.fs x.id then (Pl0,25) else if (p.fs.length:Int)=p.size then (Pl0,21)
 else (⟨p.size,p.fs++[⟨x,false,0,true⟩],p.hand⟩,0)
def G2(p:Pl)(hl:p.fs.length<=100000)(x:Pg):VCalls prog 165 [.agg p.d,.agg x.d] [] (Ret (.tup [.agg (dV p x).1.d,.int .i64 (dV p x).2])):=by
 refine dk Tryz.func165 ?_;have c1:=gJ p vz;have c2:=lH x;have c3:=j9 p vz x.id
 have e:dV p x=if plB p=false then (Pl0,15) else if Q5 x≠0 then (Pl0,Q5 x) else if 0<=idF p.fs x.id then (Pl0,25) else if (p.fs.length:Int)=p.size then (Pl0,21)
  else (⟨p.size,p.fs++[⟨x,false,0,true⟩],p.hand⟩,0):=rfl
 generalize dV p x=r at *;generalize plB p=b at *;generalize Q5 x=k at *;generalize idF p.fs x.id=m at *;have hb:(p.fs.length+1)*304<=140737488355328:=vz;have F:=@hb;refine rn F ?_
 repeat' (first|with_reducible exact⟨⟩|(refine sB F ?_ ?_<;>intro hZ)|refine vp F (c1) ?_|refine vp F (c2) ?_|refine vp F (c3) ?_|(refine Qf (id:=10) [0,1,3,4] [⟨[5],[],2,[0,3,4],[]⟩,⟨[5],[5],6,[0,1,3,4],[7]⟩,⟨[],[],8,[],[]⟩] vw vw ?_;refine rn F ?_))
 all_goals first|(first|(rw[e];simp(disch:=first|assumption|omega|exact rfl|exact nf vq|exact nt vq|decide|fail) only[if_pos,if_neg];first|done|rfl)|(rw[e];simp(disch:=first|assumption|omega|exact rfl|exact nf vq|exact nt vq|decide|(simp_all;done)|fail) only[if_pos,if_neg];first|done|rfl))|skip
end
end Go.Proofs.YtalibkpienbliaaGreat
