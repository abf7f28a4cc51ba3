/-
  Contracts of functions and plain laws. No condition.
-/
import Derived.Test.YtdnbdbgdfocpgaaGreatP3
import Derived.Test.YtdnbdbgdfocpgaaGreatP1
import Derived.Test.YtdnbdbgdfocpgaaGreatP2
import Derived.Test.YtdnbdbgdfocpgaaGreatV3
set_option linter.unusedSimpArgs false
set_option linter.unusedVariables false
set_option linter.defProp false
set_option maxRecDepth 100000
set_option maxHeartbeats 8000000
set_option autoImplicit true
set_option relaxedAutoImplicit true
open And renaming intro->Ja
open Bool renaming and_eq_true->Jb,not_eq_true'->Jk,or_eq_true->Jp,and_eq_false_iff->Jq,eq_iff_iff->Jy,eq_false_iff->Jz,or_eq_false_iff->JE,or_false->JG,true_and->JH,and_false->JN,false_and->JO,and_comm->JZ,and_true->Kd
open Int renaming le_refl->JY,tmod_lt_of_pos->J0,tmod_nonneg->Ka
open List renaming getElem?_append_left->Jc,findIdx_lt_length_of_exists->Jd,mem_cons->Je,mem_append_right->Jg,take_of_length_le->Jh,not_mem_nil->Ji,mem_append_left->Jj,flatMap_append->Jl,mem_append->Jm,append_nil->Jn,filter_eq_self->Jo,mem_map->Jr,mem_cons_of_mem->Jt,length_drop->Ju,take_length->Jv,cons_append->Jw,mem_filter->Jx,mem_range->JB,take_append_drop->JC,length_take->JD,map_cons->JF,find?_cons->JI,getD_eq_getElem?_getD->JJ,length_append->JK,pairwise_cons->JM,append_assoc->JP,flatMap_cons->JQ,mem_flatMap->JR,all_eq_true->JS,filter_cons->JT,any_eq_true->JU,map_append->JV,range_succ->JW,range->JX,nodup_append->J1,findIdx_cons->J3,filter_congr->J4,nil_append->J7,nodup_cons->J8,all_append->J9,drop_zero->Kb,take_zero->Kc
open Nat renaming not_lt_zero->Jf,le_refl->Js,zero_le->JA,lt_of_lt_of_le->JL,le_succ_of_le->J2,le_trans->J5,le_of_lt->J6,add_assoc->Ke,le_total->Kf
open Option renaming some->Kg
namespace Go.Proofs.YtdnbdbgdfocpgaaGreat
open Go.V Go
open Tryz (prog)
section
attribute [local go_sem] Ce.d Ch.d E.d Qj0 Qrd Qq8 Qok QpM Qqu Qfn Qwf Qwe Qwd E.q Ch.inv Jf
def QdK(U:List Int):List (Int×DV):=U.map fun x=>(x,.bool true)
def QoH(U:List Int)(x:Int):List Int:=if x∈U then U else U++[x]
def Qma (U:List Int) (x:Int):(Qds (QdK U) x).getD (.bool false) = .bool (decide (x ∈ U)):=by
 induction U with
 | nil=>rfl
 | cons a r ih =>
   unfold QdK at ih |-
   simp only[JF,Qds]
   by_cases h:a=x
   ·subst h; simp
   ·rw[if_neg h,ih]; congr 1; simp[Ne.symm h]
def Qlw (U:List Int) (x:Int):Qgl (QdK U) x (.bool true) = QdK (QoH U x):=by
 induction U with
 | nil=>rfl
 | cons a r ih =>
   unfold QdK QoH at ih |-
   simp only[JF,Qgl]
   by_cases h:a=x
   ·subst h; simp
   ·rw [if_neg h,ih]
    by_cases hr:x∈r
    ·simp[hr]
    ·simp[hr,Ne.symm h]
def Q9(e x:E):Bool:=decide (x.lsn >= e.ref)
def Qdj(e x:E):Bool:=decide (x.c.pg=e.c.pg)&&decide (x.c.sl=e.c.sl)
def QqL(hp:Qa)(g:MapsD)(kc bt bp bu:Nat)(f:Int)(e:E)(U:List Int)(hk:kc<hp.length)(hc:Qc hp kc=some (ckC f bt bp bu))(hg:(bu,Qbg kI (QdK U))∈g)(kt:Nat)(la:Int)(ea ab en:Bool)(hkt:kt<hp.length)(ht:Qc hp kt=some (rnC la ea ab en (.pv (.slc [])))) :
 VCallsG prog 40 [.ptr kc 0,.ptr kt 0,.agg e.d] hp g (fun r h' g'=>∃ b,r=.bool b/\b=(decide (e.ref<f)&&!decide (e.ref∈U))/\(b=true->(∃ x,h'=hp++[x])/\g'=g.map fun p=>if p.1=bu then (bu,Qbg kI (QdK (QoH U e.ref))) else p)):=by
 refine Q3 (fn:=Tryz.f40) Tryz.func40 rfl (by kernel_rfl) (by simp[Tryz.f40]) (fun c=>?_)
 unfold ckC at hc
 unfold rnC at ht
 refine VWpG.first (Qb c) ?_
 (unfold Tryz.f40; refine rn trivial ?_)
 refine VWpG.seq ?_
 refine VWpG.drawn (k:=6) (f:=6) (Qb c) (by kernel_rfl) (by kernel_rfl) (by kernel_rfl) (by kernel_rfl) rfl ?_; refine QY (by kernel_rfl) ?_
 refine rn (Ja @hk @hc) ?_
 refine Qbc (zv:=.bool false) (L:=QdK U) (k:=e.ref) rfl rfl um3 Qj2 (Qai z3) (QaQ rfl) rfl hg (Qaf rfl) ?_
 rw[show(DV.pv (.lit (.bool false)))=.bool false from rfl,Qma]
 refine rn trivial ?_
 refine VWpG.seq ?_
 refine VWpG.drawn (k:=6) (f:=6) (Qb c) (by kernel_rfl) (by kernel_rfl) (by kernel_rfl) (by kernel_rfl) rfl ?_; refine QY (by kernel_rfl) ?_
 refine rn (Ja @hk @hc) ?_
 refine QcX (L:=QdK U) (k:=e.ref) rfl rfl um3 Qj2 rfl hg (Qaf rfl) ?_
 refine rn trivial ?_
 rw[show(DV.pv (.lit (.bool true)))=.bool true from rfl,Qlw]
 have hi:=QcD [] (by decide) 51 [.ip e.q] rfl (Q9 e) (fun x=>Qg2 x e)
 have hco:=QbA [] (by decide) 55 [.ip e.q] rfl (Qdj e) (fun x=>Qg1 x e)
 have hi':VCalls prog 50 [.pv (.slc []),.fn (.func 51) [] [.ip e.q]] [] (Ret (.int .i64 (-1))):=VCalls.wkA hi
 have hco':VCalls prog 54 [.pv (.sl []),.fn (.func 55) [] [.ip e.q]] [] (Ret (.bool false)):=hco
 refine VWpG.plain (Qb c) ?_
 have F:=(Ja @hk (Ja @hc (Ja @hkt @ht)))
 refine rn F ?_
 repeat' (first
  | with_reducible exact⟨⟩
  | (refine sG F ?_ ?_<;>intro hZ)
  | (refine sB F ?_ ?_<;>intro hZ)
  | refine vl F (hi') ?_
  | refine vl F (hco') ?_
  | (refine Qd (id:=7) [0,1,2,3,4,5,6] [] (by kernel_rfl) (by kernel_rfl) ?_; refine rn F ?_)
  | (refine Qd (id:=8) [0,1,2,3,4,5,6,7,8,9,10,11,12,13,14,15,16,18,19] [⟨[],[],17,[0,1,2,3,4,5,6,7,8,9,10,11,13,14,15,18,19],[20,21]⟩] (by kernel_rfl) (by kernel_rfl) ?_; refine rn F ?_))
 all_goals exact⟨_,rfl,rfl,fun _=>⟨_,rfl⟩⟩
def QgL(ho:off=i*13)(h:i+len<=l.length):QhC n hp off 13 len (some (cells encE l))=some (.sl (fz encE ((l.drop i).take len))):=by
 subst ho
 have h0:=QqY encE (n:=n) (hp:=hp) (len:=len) (l:=(l.drop i).take len) (m:=(l.drop i).drop len) (by simp; omega)
 rw[JC] at h0
 have e:(encE.sz)=13:=rfl
 rw[e] at h0
 have hd:(cells encE l).drop (i*13)=cells encE (l.drop i):=QfV encE l i
 simp only[QhC] at h0 |-
 rw[hd]
 rw[Kb,if_pos ⟨by rw[Qj0,Ju]; omega,by decide⟩] at h0
 rw[if_pos ⟨by rw[Qj0]; omega,by decide⟩]
 exact h0
def QyH(l:List E):∀ d∈cells encE l,d.flat=true:=QqZ encE l fun a _ p hp=>by
 simp only[encE,Je,Ji,or_false] at hp
 rcases hp with rfl | rfl | rfl | rfl | rfl | rfl | rfl | rfl | rfl | rfl | rfl | rfl | rfl<;>rfl
def atE(l:List E)(i:Nat)(h:i<l.length):((cells encE l).drop (i*13)).take 13=(l.getD i E0).d:=by rw[Qf l i h]; exact Qy3 encE l i h
def QHa(l:List E)(i:Nat)(h:i<l.length):(cells encE l)[i*13]?=some (.pv (.lit (.int .i64 (l.getD i E0).lsn))):=by
 have h2:=congrArg (fun x=>x[0]?) (atE l i h)
 simp only[List.getElem?_take,List.getElem?_drop,Nat.add_zero] at h2
 rw[if_pos (by decide)] at h2
 exact h2
def QG9(l:List E)(i:Nat)(h:i<l.length):((cells encE l).drop (i*13+6)).take 6=(l.getD i E0).c.d:=by
 have h2:=congrArg (fun x=>(x.drop 6).take 6) (atE l i h)
 simp only[List.drop_take,List.drop_drop,List.take_take] at h2
 exact h2
def QyE(hb:Qc hp k=some (cells encE l))(ho:off=i*13)(h:i+len<=l.length):QhB 0 hp (f+1) (.own k 13 off len)=some (.sl (fz encE ((l.drop i).take len))):=by
 subst ho
 have hd:(cells encE l).drop (i*13)=cells encE (l.drop i):=QfV encE l i
 have h1:=QdY encE 0 hp f ((l.drop i).take len)
 have hr:rows 13 len (cells encE (l.drop i))=rows 13 len (cells encE ((l.drop i).take len)):=by
  conv=>lhs; rw[<- JC len (l.drop i),QF]
  exact Qln _ _ _ _ (by rw[Qj0,JD,Ju,Nat.min_eq_left (by omega)]; exact Js _)
 have hl:((l.drop i).take len).length=len:=by simp; omega
 rw[hl] at h1
 simp only[QhB,hb,Jf,if_false]
 rw[if_pos ⟨by rw[Qj0]; omega,by decide⟩,hd,hr]
 exact congrArg (Option.map PV.sl) h1
def QuS(hb:Qc hp k=some [d1,d2])(h1:QhB 0 hp 3 d1=some p1)(h2:QhB 0 hp 3 d2=some p2):QmM hp (.own k 1 0 2)=some (.pv (.sl [[p1],[p2]])):=by
 rw[Qmf,Qc3,if_neg (Jf _),Qo4,if_neg (Jf _),hb]
 simp[QhC,rows,h1,h2,Qi]
def QpI(P:List E)(j:Nat):List E:=P.take j++P.drop (j+1)
def eqC(x y:Ch):Bool:=x.pg==y.pg&&(x.sl==y.sl&&(x.b.set==y.b.set&&(x.b.data==y.b.data&&(x.a.set==y.a.set&&x.a.data==y.a.data))))
end
section
attribute [local go_sem] Ce.d Ch.d E.d Qj0 Qrd Qq8 Qok QpM Qqu Qfn Qwf Qwe Qwd E.q Ch.inv Jf QZ QaW
def QqK(hp:Qa)(g:MapsD)(kc bt bp bu:Nat)(f:Int)(e:E)(U:List Int)(hk:kc<hp.length)(hc:Qc hp kc=some (ckC f bt bp bu))(hg:(bu,Qbg kI (QdK U))∈g)(kt kp:Nat)(la:Int)(ea ab en:Bool)(P:List E)(hPl:P.length<=10000)
 (hkt:kt<hp.length) (ht:Qc hp kt=some (rnC la ea ab en (.own kp 13 0 P.length))) (hkp:kp<hp.length) (hpb:hp[kp]?=some ⟨57,true,cells encE P⟩) (hne:kt≠kp)
 (ha:P.any (Q9 e)=true) (hfe:¬ f<=e.ref) :
 VCallsG prog 40 [.ptr kc 0,.ptr kt 0,.agg e.d] hp g (fun r h' g'=>∃ b,r=.bool b/\b=(!decide (e.ref∈U)&&!(P.drop (P.findIdx (Q9 e))).any (Qdj e))/\(b=true->(∃ x,h'=hp++[x])/\g'=g.map fun p=>if p.1=bu then (bu,Qbg kI (QdK (QoH U e.ref))) else p)):=by
 refine Q3 (fn:=Tryz.f40) Tryz.func40 rfl (by kernel_rfl) (by simp[Tryz.f40]) (fun c=>?_)
 have hpc:Qc hp kp=some (cells encE P):=Qd0 hpb
 unfold ckC at hc
 unfold rnC at ht
 refine VWpG.first (Qb c) ?_
 (unfold Tryz.f40; refine rn trivial ?_)
 refine VWpG.seq ?_
 refine VWpG.drawn (k:=6) (f:=6) (Qb c) (by kernel_rfl) (by kernel_rfl) (by kernel_rfl) (by kernel_rfl) rfl ?_; refine QY (by kernel_rfl) ?_
 refine rn (Ja @hk @hc) ?_
 refine Qbc (zv:=.bool false) (L:=QdK U) (k:=e.ref) rfl rfl um3 Qj2 (Qai z3) (QaQ rfl) rfl hg (Qaf rfl) ?_
 rw[show(DV.pv (.lit (.bool false)))=.bool false from rfl,Qma]
 refine rn trivial ?_
 refine VWpG.seq ?_
 refine VWpG.drawn (k:=6) (f:=6) (Qb c) (by kernel_rfl) (by kernel_rfl) (by kernel_rfl) (by kernel_rfl) rfl ?_; refine QY (by kernel_rfl) ?_
 refine rn (Ja @hk @hc) ?_
 refine QcX (L:=QdK U) (k:=e.ref) rfl rfl um3 Qj2 rfl hg (Qaf rfl) ?_
 refine rn trivial ?_
 rw[show(DV.pv (.lit (.bool true)))=.bool true from rfl,Qlw]
 have hj:P.findIdx (Q9 e)<P.length:=Jd (by simpa using ha)
 have hi:=QcD P (by omega) 51 [.ip e.q] rfl (Q9 e) (fun x=>Qg2 x e)
 rw[QgH,if_pos ha] at hi
 generalize P.findIdx (Q9 e)=j at *
 have hco:=QbA (P.drop j) (by simp; omega) 55 [.ip e.q] rfl (Qdj e) (fun x=>Qg1 x e)
 have hfr:∀ hp',QhC 0 hp' (j*13) 13 (P.length-j) (some (cells encE P))=some (.sl (fz encE (P.drop j))):=fun hp'=>by
  rw[QgL (i:=j) (len:=P.length-j) rfl (by omega),Jh (by simp)]
 have hj0:¬ ((j:Int)<0):=by omega
 refine VWpG.plain (Qb c) ?_
 have F:=(Ja @hk (Ja @hc (Ja @hkt (Ja @ht (Ja @hkp (Ja @hpc (Ja @hpb (Ja @hj (Ja @hj0 (Ja @hfr @hfe))))))))))
 refine rn F ?_
 repeat' (first
  | with_reducible exact⟨⟩
  | (refine sG F ?_ ?_<;>intro hZ)
  | refine vl F (hi) ?_
  | refine vl F (hco) ?_
  | (refine Qd (id:=7) [0,1,2,3,4,5,6] [] (by kernel_rfl) (by kernel_rfl) ?_; refine rn F ?_))
 all_goals exact⟨_,rfl,rfl,fun _=>⟨_,rfl⟩⟩
def QqI(hp:Qa)(g:MapsD)(kc bt bp bu:Nat)(f:Int)(e:E)(U:List Int)(hk:kc<hp.length)(hc:Qc hp kc=some (ckC f bt bp bu))(hg:(bu,Qbg kI (QdK U))∈g)(kt kp:Nat)(la:Int)(ea ab en:Bool)(P:List E)(hPl:P.length<=10000)
 (hkt:kt<hp.length) (ht:Qc hp kt=some (rnC la ea ab en (.own kp 13 0 P.length))) (hkp:kp<hp.length) (hpb:hp[kp]?=some ⟨57,true,cells encE P⟩) (hne:kt≠kp)
 (ha:P.any (Q9 e)=false) :
 VCallsG prog 40 [.ptr kc 0,.ptr kt 0,.agg e.d] hp g (fun r h' g'=>∃ b,r=.bool b/\b=(decide (e.ref<f)&&!decide (e.ref∈U))/\(b=true->(∃ x,h'=hp++[x])/\g'=g.map fun p=>if p.1=bu then (bu,Qbg kI (QdK (QoH U e.ref))) else p)):=by
 refine Q3 (fn:=Tryz.f40) Tryz.func40 rfl (by kernel_rfl) (by simp[Tryz.f40]) (fun c=>?_)
 have hpc:Qc hp kp=some (cells encE P):=Qd0 hpb
 unfold ckC at hc
 unfold rnC at ht
 refine VWpG.first (Qb c) ?_
 (unfold Tryz.f40; refine rn trivial ?_)
 refine VWpG.seq ?_
 refine VWpG.drawn (k:=6) (f:=6) (Qb c) (by kernel_rfl) (by kernel_rfl) (by kernel_rfl) (by kernel_rfl) rfl ?_; refine QY (by kernel_rfl) ?_
 refine rn (Ja @hk @hc) ?_
 refine Qbc (zv:=.bool false) (L:=QdK U) (k:=e.ref) rfl rfl um3 Qj2 (Qai z3) (QaQ rfl) rfl hg (Qaf rfl) ?_
 rw[show(DV.pv (.lit (.bool false)))=.bool false from rfl,Qma]
 refine rn trivial ?_
 refine VWpG.seq ?_
 refine VWpG.drawn (k:=6) (f:=6) (Qb c) (by kernel_rfl) (by kernel_rfl) (by kernel_rfl) (by kernel_rfl) rfl ?_; refine QY (by kernel_rfl) ?_
 refine rn (Ja @hk @hc) ?_
 refine QcX (L:=QdK U) (k:=e.ref) rfl rfl um3 Qj2 rfl hg (Qaf rfl) ?_
 refine rn trivial ?_
 rw[show(DV.pv (.lit (.bool true)))=.bool true from rfl,Qlw]
 have hi:=QcD P (by omega) 51 [.ip e.q] rfl (Q9 e) (fun x=>Qg2 x e)
 rw[QgH,if_neg (by rw[ha]; simp)] at hi
 have hco:VCalls prog 54 [.pv (.sl []),.fn (.func 55) [] [.ip e.q]] [] (Ret (.bool false)):=QbA [] (by decide) 55 [.ip e.q] rfl (Qdj e) (fun x=>Qg1 x e)
 refine VWpG.plain (Qb c) ?_
 have F:=(Ja @hk (Ja @hc (Ja @hkt (Ja @ht (Ja @hkp (Ja @hpc @hpb))))))
 refine rn F ?_
 repeat' (first
  | with_reducible exact⟨⟩
  | (refine sG F ?_ ?_<;>intro hZ)
  | (refine sB F ?_ ?_<;>intro hZ)
  | refine vl F (hi) ?_
  | refine vl F (hco) ?_
  | (refine Qd (id:=7) [0,1,2,3,4,5,6] [] (by kernel_rfl) (by kernel_rfl) ?_; refine rn F ?_)
  | (refine Qd (id:=8) [0,1,2,3,4,5,6,7,8,9,10,11,12,13,14,15,16,18,19] [⟨[],[],17,[0,1,2,3,4,5,6,7,8,9,10,11,13,14,15,18,19],[20,21]⟩] (by kernel_rfl) (by kernel_rfl) ?_; refine rn F ?_))
 all_goals exact⟨_,rfl,rfl,fun _=>⟨_,rfl⟩⟩
def QqJ(hp:Qa)(g:MapsD)(kc bt bp bu:Nat)(f:Int)(e:E)(U:List Int)(hk:kc<hp.length)(hc:Qc hp kc=some (ckC f bt bp bu))(hg:(bu,Qbg kI (QdK U))∈g)(kt kp:Nat)(la:Int)(ea ab en:Bool)(P:List E)(hPl:P.length<=10000)
 (hkt:kt<hp.length) (ht:Qc hp kt=some (rnC la ea ab en (.own kp 13 0 P.length))) (hkp:kp<hp.length) (hpb:hp[kp]?=some ⟨57,true,cells encE P⟩) (hne:kt≠kp)
 (ha:P.any (Q9 e)=true) (hfe:f<=e.ref) (hj1:P.findIdx (Q9 e)+1<P.length) :
 VCallsG prog 40 [.ptr kc 0,.ptr kt 0,.agg e.d] hp g (fun r h' g'=>∃ b,r=.bool b/\b=(decide ((P.getD (P.findIdx (Q9 e)) E0).lsn=e.ref)&&(eqC (P.getD (P.findIdx (Q9 e)) E0).c.inv e.c&&(!decide (e.ref∈U)&&!(P.drop (P.findIdx (Q9 e)+1)).any (Qdj e))))/\(b=true->(∃ x y z,h'=Ql hp kt (rnC la ea ab en (.own (hp.length+3) 13 0 (P.length-1)))++[x,y,z,⟨57,true,cells encE (QpI P (P.findIdx (Q9 e)))⟩])/\g'=g.map fun p=>if p.1=bu then (bu,Qbg kI (QdK (QoH U e.ref))) else p)):=by
 refine Q3 (fn:=Tryz.f40) Tryz.func40 rfl (by kernel_rfl) (by simp[Tryz.f40]) (fun c=>?_)
 have hpc:Qc hp kp=some (cells encE P):=Qd0 hpb
 unfold ckC at hc
 unfold rnC at ht
 refine VWpG.first (Qb c) ?_
 (unfold Tryz.f40; refine rn trivial ?_)
 refine VWpG.seq ?_
 refine VWpG.drawn (k:=6) (f:=6) (Qb c) (by kernel_rfl) (by kernel_rfl) (by kernel_rfl) (by kernel_rfl) rfl ?_; refine QY (by kernel_rfl) ?_
 refine rn (Ja @hk @hc) ?_
 refine Qbc (zv:=.bool false) (L:=QdK U) (k:=e.ref) rfl rfl um3 Qj2 (Qai z3) (QaQ rfl) rfl hg (Qaf rfl) ?_
 rw[show(DV.pv (.lit (.bool false)))=.bool false from rfl,Qma]
 refine rn trivial ?_
 refine VWpG.seq ?_
 refine VWpG.drawn (k:=6) (f:=6) (Qb c) (by kernel_rfl) (by kernel_rfl) (by kernel_rfl) (by kernel_rfl) rfl ?_; refine QY (by kernel_rfl) ?_
 refine rn (Ja @hk @hc) ?_
 refine QcX (L:=QdK U) (k:=e.ref) rfl rfl um3 Qj2 rfl hg (Qaf rfl) ?_
 refine rn trivial ?_
 rw[show(DV.pv (.lit (.bool true)))=.bool true from rfl,Qlw]
 have hj:P.findIdx (Q9 e)<P.length:=Jd (by simpa using ha)
 have hi:=QcD P (by omega) 51 [.ip e.q] rfl (Q9 e) (fun x=>Qg2 x e)
 rw[QgH,if_pos ha] at hi
 generalize P.findIdx (Q9 e)=j at *
 have hco:=QbA (P.drop (j+1)) (by simp; omega) 55 [.ip e.q] rfl (Qdj e) (fun x=>Qg1 x e)
 have hcl:=Qkg (P.drop (j+1)) (by simp; omega)
 have hcc:=Qmr (P.take j) (P.drop (j+1)) (by simp; omega)
 have hl1:(P.drop (j+1)).length=P.length-j-1:=by simp; omega
 have hl2:(P.take j).length+(P.drop (j+1)).length=P.length-1:=by simp; omega
 rw[hl1] at hcl
 rw[hl2] at hcc
 have hfr:∀ hp',QhC 0 hp' (j*13+13) 13 (P.length-j-1) (some (cells encE P))=some (.sl (fz encE (P.drop (j+1)))):=fun hp'=>by
  rw[QgL (i:=j+1) (len:=P.length-j-1) (by omega) (by omega),Jh (by simp; omega)]
 have hft:∀ hp',QhC 0 hp' 0 13 j (some (cells encE P))=some (.sl (fz encE (P.take j))):=fun hp'=>by
  rw[QgL (i:=0) (len:=j) rfl (by omega)]; simp
 have hj0:¬ ((j:Int)<0):=by omega
 have hA0:=QHa P j hj
 have hA6:=QG9 P j hj
 have hlen:j*13+6+6<=P.length*13:=by omega
 have hlen0:¬ ((P.length-j:Nat):Int)=0:=by omega
 generalize P.getD j E0=x at *
 unfold Ch.d at hA6
 refine VWpG.plain (Qb c) ?_
 have F:=(Ja @hk (Ja @hc (Ja @hkt (Ja @ht (Ja @hkp (Ja @hpc (Ja @hpb (Ja @hj (Ja @hj0 (Ja @hfr (Ja @hft (Ja @hfe (Ja @hA0 (Ja @hA6 (Ja @hj1 (Ja @hlen (Ja @hl1 (Ja @hl2 (Ja @hlen0 @hne)))))))))))))))))))
 refine rn F ?_
 repeat' (first
  | with_reducible exact⟨⟩
  | (refine sG F ?_ ?_<;>intro hZ)
  | (refine sB F ?_ ?_<;>intro hZ)
  | refine vl F (hi) ?_
  | (refine Qgr (hcl) ?_ (QyH _) ?_; (focus (refine rd F)); refine rn F ?_)
  | refine vp F (Ql5 x.c) ?_
  | (refine Qd (id:=7) [0,1,2,3,4,5,6] [] (by kernel_rfl) (by kernel_rfl) ?_; refine rn F ?_)
  | (refine Qd (id:=8) [0,1,2,3,4,5,6,7,8,9,10,11,12,13,14,15,16,18,19] [⟨[],[],17,[0,1,2,3,4,5,6,7,8,9,10,11,13,14,15,18,19],[20,21]⟩] (by kernel_rfl) (by kernel_rfl) ?_; refine rn F ?_))
 ·refine ⟨_,rfl,?_,fun h=>by cases h⟩
  rw[show eqC { pg:=x.c.pg,sl:=x.c.sl,b:=x.c.a,a:=x.c.b } e.c=false from ?_]
  ·rfl
  ·unfold eqC; rw[Jz]; intro h; simp at h; exact hZ h.1 h.2.1 h.2.2.1 h.2.2.2.1 h.2.2.2.2.1 h.2.2.2.2.2
 ·rw [show eqC { pg:=x.c.pg,sl:=x.c.sl,b:=x.c.a,a:=x.c.b } e.c = true from by unfold eqC; simp; exact hZ]
  have hjt:P.length-1=(P.take j).length+(P.drop (j+1)).length:=hl2.symm
  refine Qgr hcc (congrArg (fun o=>Qi [o]) (QuS (d1:=.own kp 13 0 j) (d2:=.own (hp.length+1) 13 0 (P.length-j-1)) (p1:=.sl (fz encE (P.take j))) (p2:=.sl (fz encE (P.drop (j+1)))) ?_ ?_ ?_)) (QyH _) ?_
  ·(refine rn (Ja @hk @hkp) ?_; try with_reducible exact⟨⟩)
  ·refine (QyE (i:=0) (l:=P) ?_ rfl (by omega)).trans (by simp)
   (refine rn (Ja @hkp @hpc) ?_; try with_reducible exact⟨⟩)
  ·refine (QyE (i:=0) (l:=P.drop (j + 1)) ?_ rfl (by simp; omega)).trans (by rw [<- hl1,Kb,Jv])
   (refine rn (Ja @hkp @hpc) ?_; try with_reducible exact⟨⟩)
  refine rn (Ja @hk (Ja @hc (Ja @hkt (Ja @ht (Ja @hkp (Ja @hpc (Ja @hpb @hne))))))) ?_
  obtain⟨hp2,hS⟩:∃ h,h=Ql hp kt (rnC la ea ab en (.own (hp.length+1+1+1) 13 0 (P.length-1))):=⟨_,rfl⟩
  have hS0:=hS
  unfold rnC at hS
  rw[<- hS]
  have hlp:hp2.length=hp.length:=by rw[hS,Qap]
  have F:=(Ja @hk (Ja @hlp @hl1))
  refine rn F ?_
  repeat' (first
   | with_reducible exact⟨⟩
   | (refine sG F ?_ ?_<;>intro hZ)
   | refine vl F (hco) ?_)
  ·exact⟨_,rfl,rfl,fun _=>⟨_,_,_,by rw[hS0]; simp only[JP,Jw,J7]; rfl⟩⟩
  ·exact⟨_,rfl,rfl,fun h=>by cases h⟩
 ·exact⟨_,rfl,rfl,fun h=>by cases h⟩
def QqH(hp:Qa)(g:MapsD)(kc bt bp bu:Nat)(f:Int)(e:E)(U:List Int)(hk:kc<hp.length)(hc:Qc hp kc=some (ckC f bt bp bu))(hg:(bu,Qbg kI (QdK U))∈g)(kt kp:Nat)(la:Int)(ea ab en:Bool)(P:List E)(hPl:P.length<=10000)
 (hkt:kt<hp.length) (ht:Qc hp kt=some (rnC la ea ab en (.own kp 13 0 P.length))) (hkp:kp<hp.length) (hpb:hp[kp]?=some ⟨57,true,cells encE P⟩) (hne:kt≠kp)
 (ha:P.any (Q9 e)=true) (hfe:f<=e.ref) (hj1:P.findIdx (Q9 e)+1=P.length) :
 VCallsG prog 40 [.ptr kc 0,.ptr kt 0,.agg e.d] hp g (fun r h' g'=>∃ b,r=.bool b/\b=(decide ((P.getD (P.findIdx (Q9 e)) E0).lsn=e.ref)&&(eqC (P.getD (P.findIdx (Q9 e)) E0).c.inv e.c&&(!decide (e.ref∈U)&&!(P.drop (P.findIdx (Q9 e)+1)).any (Qdj e))))/\(b=true->(∃ x y z,h'=Ql hp kt (rnC la ea ab en (.own (hp.length+3) 13 0 (P.length-1)))++[x,y,z,⟨57,true,cells encE (QpI P (P.findIdx (Q9 e)))⟩])/\g'=g.map fun p=>if p.1=bu then (bu,Qbg kI (QdK (QoH U e.ref))) else p)):=by
 refine Q3 (fn:=Tryz.f40) Tryz.func40 rfl (by kernel_rfl) (by simp[Tryz.f40]) (fun c=>?_)
 have hpc:Qc hp kp=some (cells encE P):=Qd0 hpb
 unfold ckC at hc
 unfold rnC at ht
 refine VWpG.first (Qb c) ?_
 (unfold Tryz.f40; refine rn trivial ?_)
 refine VWpG.seq ?_
 refine VWpG.drawn (k:=6) (f:=6) (Qb c) (by kernel_rfl) (by kernel_rfl) (by kernel_rfl) (by kernel_rfl) rfl ?_; refine QY (by kernel_rfl) ?_
 refine rn (Ja @hk @hc) ?_
 refine Qbc (zv:=.bool false) (L:=QdK U) (k:=e.ref) rfl rfl um3 Qj2 (Qai z3) (QaQ rfl) rfl hg (Qaf rfl) ?_
 rw[show(DV.pv (.lit (.bool false)))=.bool false from rfl,Qma]
 refine rn trivial ?_
 refine VWpG.seq ?_
 refine VWpG.drawn (k:=6) (f:=6) (Qb c) (by kernel_rfl) (by kernel_rfl) (by kernel_rfl) (by kernel_rfl) rfl ?_; refine QY (by kernel_rfl) ?_
 refine rn (Ja @hk @hc) ?_
 refine QcX (L:=QdK U) (k:=e.ref) rfl rfl um3 Qj2 rfl hg (Qaf rfl) ?_
 refine rn trivial ?_
 rw[show(DV.pv (.lit (.bool true)))=.bool true from rfl,Qlw]
 have hj:P.findIdx (Q9 e)<P.length:=Jd (by simpa using ha)
 have hi:=QcD P (by omega) 51 [.ip e.q] rfl (Q9 e) (fun x=>Qg2 x e)
 rw[QgH,if_pos ha] at hi
 generalize P.findIdx (Q9 e)=j at *
 have hd0:P.drop (j+1)=[]:=List.drop_of_length_le (by omega)
 rw[hd0]
 have hco:VCalls prog 54 [.pv (.sl (fz encE [])),.fn (.func 55) [] [.ip e.q]] [] (Ret (.bool false)):=QbA [] (by decide) 55 [.ip e.q] rfl (Qdj e) (fun x=>Qg1 x e)
 have hcl:VCalls prog 25 [.pv (.sl [])] [] (QhY noK [] 13 0 57 (cells encE [])):=Qkg [] (by decide)
 have hcc:=Qmr (P.take j) [] (by simp; omega)
 have hl2:(P.take j).length+([]:List E).length=P.length-1:=by simp; omega
 rw[hl2] at hcc
 have hnj:P.length-j=1:=by omega
 have hun:QpI P j=P.take j++[]:=by unfold QpI; rw[hd0]
 rw[hun]
 have hft:∀ hp',QhC 0 hp' 0 13 j (some (cells encE P))=some (.sl (fz encE (P.take j))):=fun hp'=>by
  rw[QgL (i:=0) (len:=j) rfl (by omega)]; simp
 have hj0:¬ ((j:Int)<0):=by omega
 have hA0:=QHa P j hj
 have hA6:=QG9 P j hj
 have hlen:j*13+6+6<=P.length*13:=by omega
 have hlen0:¬ ((P.length-j:Nat):Int)=0:=by omega
 generalize P.getD j E0=x at *
 unfold Ch.d at hA6
 refine VWpG.plain (Qb c) ?_
 have F:=(Ja @hk (Ja @hc (Ja @hkt (Ja @ht (Ja @hkp (Ja @hpc (Ja @hpb (Ja @hj (Ja @hj0 (Ja @hft (Ja @hfe (Ja @hA0 (Ja @hA6 (Ja @hlen (Ja @hnj @hne)))))))))))))))
 refine rn F ?_
 repeat' (first
  | with_reducible exact⟨⟩
  | (refine sG F ?_ ?_<;>intro hZ)
  | (refine sB F ?_ ?_<;>intro hZ)
  | refine vl F (hi) ?_
  | (refine Qgr (hcl) ?_ (QyH _) ?_; (focus (refine rd F)); refine rn F ?_)
  | refine vp F (Ql5 x.c) ?_
  | (refine Qd (id:=7) [0,1,2,3,4,5,6] [] (by kernel_rfl) (by kernel_rfl) ?_; refine rn F ?_)
  | (refine Qd (id:=8) [0,1,2,3,4,5,6,7,8,9,10,11,12,13,14,15,16,18,19] [⟨[],[],17,[0,1,2,3,4,5,6,7,8,9,10,11,13,14,15,18,19],[20,21]⟩] (by kernel_rfl) (by kernel_rfl) ?_; refine rn F ?_))
 ·refine ⟨_,rfl,?_,fun h=>by cases h⟩
  rw[show eqC { pg:=x.c.pg,sl:=x.c.sl,b:=x.c.a,a:=x.c.b } e.c=false from ?_]
  ·rfl
  ·unfold eqC; rw[Jz]; intro h; simp at h; exact hZ h.1 h.2.1 h.2.2.1 h.2.2.2.1 h.2.2.2.2.1 h.2.2.2.2.2
 ·rw [show eqC { pg:=x.c.pg,sl:=x.c.sl,b:=x.c.a,a:=x.c.b } e.c = true from by unfold eqC; simp; exact hZ]
  refine Qgr hcc (congrArg (fun o=>Qi [o]) (QuS (d1:=.own kp 13 0 j) (d2:=.own (hp.length+1) 13 0 0) (p1:=.sl (fz encE (P.take j))) (p2:=.sl (fz encE [])) ?_ ?_ ?_)) (QyH _) ?_
  ·(refine rn (Ja @hk @hkp) ?_; try with_reducible exact⟨⟩)
  ·refine (QyE (i:=0) (l:=P) ?_ rfl (by omega)).trans (by simp)
   (refine rn (Ja @hkp @hpc) ?_; try with_reducible exact⟨⟩)
  ·refine (QyE (i:=0) (l:=[]) ?_ rfl (by simp)).trans (by simp)
   (refine rn (Ja @hkp @hpc) ?_; try with_reducible exact⟨⟩)
  refine rn (Ja @hk (Ja @hc (Ja @hkt (Ja @ht (Ja @hkp (Ja @hpc (Ja @hpb @hne))))))) ?_
  obtain⟨hp2,hS⟩:∃ h,h=Ql hp kt (rnC la ea ab en (.own (hp.length+1+1+1) 13 0 (P.length-1))):=⟨_,rfl⟩
  have hS0:=hS
  unfold rnC at hS
  rw[<- hS]
  have hlp:hp2.length=hp.length:=by rw[hS,Qap]
  have F:=(Ja @hk @hlp)
  refine rn F ?_
  repeat' (first
   | with_reducible exact⟨⟩
   | (refine sG F ?_ ?_<;>intro hZ)
   | refine vl F (hco) ?_)
  ·exact⟨_,rfl,rfl,fun _=>⟨_,_,_,by rw[hS0]; simp only[JP,Jw,J7]; rfl⟩⟩
  ·exact⟨_,rfl,rfl,fun h=>by cases h⟩
 ·exact⟨_,rfl,rfl,fun h=>by cases h⟩
end
section
attribute [local go_sem] Ce.d Ch.d E.d Qj0 Qrd Qq8 Qok QpM Qqu Qfn Qwf Qwe Qwd E.q Jf QaK Qar
def QmI(hp:Qa)(kp:Nat)(P:List E)(p:DV):Prop:=(P=[]/\p=.pv (.slc []))\/(p=.own kp 13 0 P.length/\kp<hp.length/\hp[kp]?=some ⟨57,true,cells encE P⟩)
def RunOk(hp:Qa)(k kp:Nat)(la:Int)(ea ab en:Bool)(P:List E):Prop:=k<hp.length/\∃ p,Qc hp k=some (rnC la ea ab en p)/\QmI hp kp P p
def QfH(e:E)(ea ab:Bool)(P:List E):Bool:=(!ab||decide (e.kind=5))&&(!decide (e.kind=5)||(ab||ea)&&P.isEmpty)
def nP(e:E)(P:List E):List E:=if e.kind=1 then P++[e] else P
def nab(e:E)(ab:Bool):Bool:=ab||decide (e.kind=4)
def nen(e:E)(en:Bool):Bool:=en||decide (e.kind=3)||decide (e.kind=5)
def Left(hp:Qa)(k kp:Nat)(la:Int)(ea ab en:Bool)(P:List E)(h':Qa):Prop:=FrH hp h' (fun j=>j=k\/j=kp)/\∃ kp',(kp'=kp\/hp.length<=kp')/\RunOk h' k kp' la ea ab en P
def QoT(hkk:k<hp.length)(hkc:Qc hp k=some (rnC la ea ab en p))(hp0:QmI hp kp P p):Left hp k kp la ea ab en P hp:=⟨FrH.refl _ _,kp,.inl rfl,hkk,p,hkc,hp0⟩
def Qj1(hkk:k<hp.length)(hkc:Qc hp k=some (rnC la ea ab en p))(hp0:QmI hp kp P p)(h1:k≠kp):Left hp k kp la ea ab' en' P (Ql hp k (rnC la ea ab' en' p)):=by
 refine⟨(FrH.refl _ _).set (.inl rfl) _,kp,.inl rfl,by rw[Qap]; exact hkk,p,by rw[QaB,hkc]; rfl,?_⟩
 rcases hp0 with h | ⟨e1,e2,e3⟩
 ·exact .inl h
 ·exact .inr ⟨e1,by rw[Qap]; exact e2,by rw[QbQ h1]; exact e3⟩
def QBV(hkk:k<hp.length)(hkc:Qc hp k=some (rnC la ea ab en p))(h1:k≠kp)(hkp:kp<hp.length):
 Left hp k kp la ea ab en (P++[e]) (Ql (List.set hp kp B) k (rnC la ea ab en (.own (hp.length+1) 13 0 (P.length+1)))++[x]++[⟨57,true,cells encE (P++[e])⟩]):=by
 have hl:(Ql (List.set hp kp B) k (rnC la ea ab en (.own (hp.length+1) 13 0 (P.length+1)))).length=hp.length:=by rw[Qap,Qx9]
 refine⟨⟨by simp[hl],fun j hj ha=>?_⟩,hp.length+1,.inr (by omega),by simp[hl]; omega,.own (hp.length+1) 13 0 (P.length+1),?_,.inr ⟨by simp,by simp[hl],?_⟩⟩
 ·rw[Jc (by simp[hl]; omega),Jc (by omega),QbQ (fun h=>ha (.inl h.symm)),Quh (fun h=>ha (.inr h.symm))]
 ·rw[QA (by simp[hl]; omega),QA (by omega),QaB,QoQ (Ne.symm h1),hkc]; rfl
 ·rw[Qj7 (by simp[hl])]; simp[hl]
def QEq(c:Qkt)(hp:Qa)(g:MapsD)(b kb kc bt bp bu:Nat)(f:Int)(e:E)(L:List (Int×DV))(hkb:kb<hp.length)(hb:Qc hp kb=some e.d)(hk:kc<hp.length)(hc:Qc hp kc=some (ckC f bt bp bu))(hg:(bt,Qbg kI L)∈g)
 (k kp:Nat) (la:Int) (ea ab en:Bool) (P:List E) (hPl:P.length<=10000) (hkk:k<hp.length) (hkc:Qc hp k=some (rnC la ea ab en (.own kp 13 0 P.length))) (hkp:kp<hp.length) (hpb:hp[kp]?=some ⟨57,true,cells encE P⟩) (hn:Qds L e.tx=some (.ptr k 0))
 (h1:k≠kp) (h2:k≠kc) (h3:k≠kb) (h4:kp≠kc) (h5:kp≠kb) (hk2:e.kind≠2) :
 VWpG prog (Qa1 c) (QeQ 3 (Qev Tryz.f26)) (Qct prog [.tmp 4] fun r h' g'=>∃ b,r=.bool b/\b=QfH e ea ab P/\(b=true->g'=g/\Left hp k kp la ea (nab e ab) (nen e en) (nP e P) h')) ⟨97,b,[(3,.ptr kb 0),(0,.ptr kc 0)],hp⟩ g:=by
 have hpc:Qc hp kp=some (cells encE P):=Qd0 hpb
 have hkc0:=hkc
 have hp0:QmI hp kp P (.own kp 13 0 P.length):=.inr ⟨rfl,hkp,hpb⟩
 have m1:(P.length+1)*128<=140737488355328:=by omega
 unfold ckC at hc
 unfold rnC at hkc
 unfold E.d at hb
 have hkind:e.kind=1\/e.kind=3\/e.kind=4\/e.kind=5\/(e.kind≠1/\e.kind≠3/\e.kind≠4/\e.kind≠5):=by omega
 have fl:e.kind=1->QfH e ea ab P=!ab/\nP e P=P++[e]/\nab e ab=ab/\nen e en=en:=fun h=>by simp[QfH,nP,nab,nen,h]
 have fl3:e.kind=3->QfH e ea ab P=!ab/\nP e P=P/\nab e ab=ab/\nen e en=true:=fun h=>by simp[QfH,nP,nab,nen,h]
 have fl4:e.kind=4->QfH e ea ab P=!ab/\nP e P=P/\nab e ab=true/\nen e en=en:=fun h=>by simp[QfH,nP,nab,nen,h]
 have fl5:e.kind=5->QfH e ea ab P=((ab||ea)&&P.isEmpty)/\nP e P=P/\nab e ab=ab/\nen e en=true:=fun h=>by simp[QfH,nP,nab,nen,h]
 have fl0:(e.kind≠1/\e.kind≠3/\e.kind≠4/\e.kind≠5)->QfH e ea ab P=!ab/\nP e P=P/\nab e ab=ab/\nen e en=en:=fun h=>by simp[QfH,nP,nab,nen,h]
 have hle:((P.length:Int)==0)=P.isEmpty:=by cases P<;>simp; omega
 show VWpG prog (Qa1 c) (.seq _ _) _ _ _
 refine VWpG.seq ?_
 refine VWpG.drawn (k:=6) (f:=6) (Qb c) (by kernel_rfl) (by kernel_rfl) (by kernel_rfl) (by kernel_rfl) rfl ?_; refine QY (by kernel_rfl) ?_
 refine rn (Ja @hk (Ja @hc (Ja @hb @hkb))) ?_
 refine Qbc (zv:=.pointer none) (L:=L) (k:=e.tx) rfl rfl um1 Qj2 (Qai z1) (QaQ rfl) rfl hg (Qaf rfl) ?_
 rw[hn]
 refine rn trivial ?_
 refine VWpG.plain (Qb c) ?_
 rcases hkind with hq | hq | hq | hq | ⟨q1,q3,q4,q5⟩
 ·obtain ⟨f1,f2,f3,f4⟩:=fl hq
  rw[f1,f2,f3,f4]
  cases ab
  ·skip
   have F:=(Ja @hk (Ja @hc (Ja @hb (Ja @hkb (Ja @hkk (Ja @hkc (Ja @hkp (Ja @hpb (Ja @hpc (Ja @h1 (Ja @h2 (Ja @h3 (Ja @h4 (Ja @h5 (Ja @hk2 (Ja @m1 (Ja @h1.symm (Ja @h2.symm (Ja @h3.symm (Ja @h4.symm (Ja @h5.symm ((eq_true hq)))))))))))))))))))))))
   refine rn F ?_
   repeat' (first
    | with_reducible exact⟨⟩
    | (refine Qd (id:=10) [0,1,2,3,4,5] [⟨[6],[6],7,[0,1,2,3,5],[8,9]⟩,⟨[],[],10,[8],[]⟩] (by kernel_rfl) (by kernel_rfl) ?_; refine rn F ?_))
   exact⟨_,rfl,rfl,fun h=>QBV hkk hkc0 h1 hkp⟩
  ·skip
   have F:=(Ja @hk (Ja @hc (Ja @hb (Ja @hkb (Ja @hkk (Ja @hkc (Ja @hkp (Ja @hpb (Ja @hpc (Ja @h1 (Ja @h2 (Ja @h3 (Ja @h4 (Ja @h5 (Ja @hk2 (Ja @m1 (Ja @h1.symm (Ja @h2.symm (Ja @h3.symm (Ja @h4.symm (Ja @h5.symm ((eq_true hq)))))))))))))))))))))))
   refine rn F ?_
   exact⟨_,rfl,rfl,fun h=>by cases h⟩
 ·obtain ⟨f1,f2,f3,f4⟩:=fl3 hq
  rw[f1,f2,f3,f4]
  cases ab
  ·skip
   have F:=(Ja @hk (Ja @hc (Ja @hb (Ja @hkb (Ja @hkk (Ja @hkc (Ja @hkp (Ja @hpb (Ja @hpc (Ja @h1 (Ja @h2 (Ja @h3 (Ja @h4 (Ja @h5 (Ja @hk2 (Ja @m1 (Ja @h1.symm (Ja @h2.symm (Ja @h3.symm (Ja @h4.symm (Ja @h5.symm (Ja (eq_true hq) @hq))))))))))))))))))))))
   refine rn F ?_
   exact⟨_,rfl,rfl,fun h=>Qj1 hkk hkc0 hp0 h1⟩
  ·skip
   have F:=(Ja @hk (Ja @hc (Ja @hb (Ja @hkb (Ja @hkk (Ja @hkc (Ja @hkp (Ja @hpb (Ja @hpc (Ja @h1 (Ja @h2 (Ja @h3 (Ja @h4 (Ja @h5 (Ja @hk2 (Ja @m1 (Ja @h1.symm (Ja @h2.symm (Ja @h3.symm (Ja @h4.symm (Ja @h5.symm (Ja (eq_true hq) @hq))))))))))))))))))))))
   refine rn F ?_
   exact⟨_,rfl,rfl,fun h=>by cases h⟩
 ·obtain ⟨f1,f2,f3,f4⟩:=fl4 hq
  rw[f1,f2,f3,f4]
  cases ab
  ·skip
   have F:=(Ja @hk (Ja @hc (Ja @hb (Ja @hkb (Ja @hkk (Ja @hkc (Ja @hkp (Ja @hpb (Ja @hpc (Ja @h1 (Ja @h2 (Ja @h3 (Ja @h4 (Ja @h5 (Ja @hk2 (Ja @m1 (Ja @h1.symm (Ja @h2.symm (Ja @h3.symm (Ja @h4.symm (Ja @h5.symm (Ja (eq_true hq) @hq))))))))))))))))))))))
   refine rn F ?_
   exact⟨_,rfl,rfl,fun h=>Qj1 hkk hkc0 hp0 h1⟩
  ·skip
   have F:=(Ja @hk (Ja @hc (Ja @hb (Ja @hkb (Ja @hkk (Ja @hkc (Ja @hkp (Ja @hpb (Ja @hpc (Ja @h1 (Ja @h2 (Ja @h3 (Ja @h4 (Ja @h5 (Ja @hk2 (Ja @m1 (Ja @h1.symm (Ja @h2.symm (Ja @h3.symm (Ja @h4.symm (Ja @h5.symm (Ja (eq_true hq) @hq))))))))))))))))))))))
   refine rn F ?_
   exact⟨_,rfl,rfl,fun h=>by cases h⟩
 ·obtain ⟨f1,f2,f3,f4⟩:=fl5 hq
  rw[f1,f2,f3,f4]
  cases ab
  ·cases ea
   ·skip
    have F:=(Ja @hk (Ja @hc (Ja @hb (Ja @hkb (Ja @hkk (Ja @hkc (Ja @hkp (Ja @hpb (Ja @hpc (Ja @h1 (Ja @h2 (Ja @h3 (Ja @h4 (Ja @h5 (Ja @hk2 (Ja @m1 (Ja @h1.symm (Ja @h2.symm (Ja @h3.symm (Ja @h4.symm (Ja @h5.symm (Ja @hq @hle))))))))))))))))))))))
    refine rn F ?_
    exact⟨_,rfl,rfl,fun h=>by cases h⟩
   ·skip
    have F:=(Ja @hk (Ja @hc (Ja @hb (Ja @hkb (Ja @hkk (Ja @hkc (Ja @hkp (Ja @hpb (Ja @hpc (Ja @h1 (Ja @h2 (Ja @h3 (Ja @h4 (Ja @h5 (Ja @hk2 (Ja @m1 (Ja @h1.symm (Ja @h2.symm (Ja @h3.symm (Ja @h4.symm (Ja @h5.symm (Ja @hq @hle))))))))))))))))))))))
    refine rn F ?_
    exact⟨_,rfl,rfl,fun h=>Qj1 hkk hkc0 hp0 h1⟩
  ·skip
   have F:=(Ja @hk (Ja @hc (Ja @hb (Ja @hkb (Ja @hkk (Ja @hkc (Ja @hkp (Ja @hpb (Ja @hpc (Ja @h1 (Ja @h2 (Ja @h3 (Ja @h4 (Ja @h5 (Ja @hk2 (Ja @m1 (Ja @h1.symm (Ja @h2.symm (Ja @h3.symm (Ja @h4.symm (Ja @h5.symm (Ja @hq @hle))))))))))))))))))))))
   refine rn F ?_
   exact⟨_,rfl,rfl,fun h=>Qj1 hkk hkc0 hp0 h1⟩
 ·obtain ⟨f1,f2,f3,f4⟩:=fl0 ⟨q1,q3,q4,q5⟩
  rw[f1,f2,f3,f4]
  cases ab
  ·skip
   have F:=(Ja @hk (Ja @hc (Ja @hb (Ja @hkb (Ja @hkk (Ja @hkc (Ja @hkp (Ja @hpb (Ja @hpc (Ja @h1 (Ja @h2 (Ja @h3 (Ja @h4 (Ja @h5 (Ja @hk2 (Ja @m1 (Ja @h1.symm (Ja @h2.symm (Ja @h3.symm (Ja @h4.symm (Ja @h5.symm (Ja @q1 (Ja @q3 (Ja @q4 @q5))))))))))))))))))))))))
   refine rn F ?_
   exact⟨_,rfl,rfl,fun h=>QoT hkk hkc0 hp0⟩
  ·skip
   have F:=(Ja @hk (Ja @hc (Ja @hb (Ja @hkb (Ja @hkk (Ja @hkc (Ja @hkp (Ja @hpb (Ja @hpc (Ja @h1 (Ja @h2 (Ja @h3 (Ja @h4 (Ja @h5 (Ja @hk2 (Ja @m1 (Ja @h1.symm (Ja @h2.symm (Ja @h3.symm (Ja @h4.symm (Ja @h5.symm (Ja @q1 (Ja @q3 (Ja @q4 @q5))))))))))))))))))))))))
   refine rn F ?_
   exact⟨_,rfl,rfl,fun h=>by cases h⟩
end
section
attribute [local go_sem] Ce.d Ch.d E.d Qj0 Qrd Qq8 Qok QpM Qqu Qfn Qwf Qwe Qwd E.q Jf QaK Qar
def QgE(hkk:k<hp.length)(hkc:Qc hp k=some (rnC la ea ab en (.pv (.slc [])))):Left hp k kp la ea ab' en' [] (Ql hp k (rnC la ea ab' en' (.pv (.slc [])))):=
 ⟨(FrH.refl _ _).set (.inl rfl) _,kp,.inl rfl,by rw[Qap]; exact hkk,.pv (.slc []),by rw[QaB,hkc]; rfl,.inl ⟨rfl,rfl⟩⟩
def Qye(hkk:k<hp.length)(hkc:Qc hp k=some (rnC la ea ab en p)):
 Left hp k kp la ea ab en [e] (Ql hp k (rnC la ea ab en (.own (hp.length+1) 13 0 1))++[x]++[⟨57,true,cells encE [e]⟩]):=by
 have hl:(Ql hp k (rnC la ea ab en (.own (hp.length+1) 13 0 1))).length=hp.length:=by rw[Qap]
 refine⟨⟨by simp[hl],fun j hj ha=>?_⟩,hp.length+1,.inr (by omega),by simp[hl]; omega,.own (hp.length+1) 13 0 1,?_,.inr ⟨rfl,by simp[hl],?_⟩⟩
 ·rw[Jc (by simp[hl]; omega),Jc (by omega),QbQ (fun h=>ha (.inl h.symm))]
 ·rw[QA (by simp[hl]; omega),QA (by omega),QaB,hkc]; rfl
 ·rw[Qj7 (by simp[hl])]; simp[hl]
def QEr(c:Qkt)(hp:Qa)(g:MapsD)(b kb kc bt bp bu:Nat)(f:Int)(e:E)(L:List (Int×DV))(hkb:kb<hp.length)(hb:Qc hp kb=some e.d)(hk:kc<hp.length)(hc:Qc hp kc=some (ckC f bt bp bu))(hg:(bt,Qbg kI L)∈g)
 (k kp:Nat) (la:Int) (ea ab en:Bool) (hkk:k<hp.length) (hkc:Qc hp k=some (rnC la ea ab en (.pv (.slc [])))) (hn:Qds L e.tx=some (.ptr k 0))
 (h2:k≠kc) (h3:k≠kb) (hk2:e.kind≠2) :
 VWpG prog (Qa1 c) (QeQ 3 (Qev Tryz.f26)) (Qct prog [.tmp 4] fun r h' g'=>∃ b,r=.bool b/\b=QfH e ea ab []/\(b=true->g'=g/\Left hp k kp la ea (nab e ab) (nen e en) (nP e []) h')) ⟨97,b,[(3,.ptr kb 0),(0,.ptr kc 0)],hp⟩ g:=by
 have hkc0:=hkc
 have hp0:QmI hp kp [] (.pv (.slc [])):=.inl ⟨rfl,rfl⟩
 unfold ckC at hc
 unfold rnC at hkc
 unfold E.d at hb
 have hkind:e.kind=1\/e.kind=3\/e.kind=4\/e.kind=5\/(e.kind≠1/\e.kind≠3/\e.kind≠4/\e.kind≠5):=by omega
 have fl:e.kind=1->QfH e ea ab []=!ab/\nP e []=[e]/\nab e ab=ab/\nen e en=en:=fun h=>by simp[QfH,nP,nab,nen,h]
 have fl3:e.kind=3->QfH e ea ab []=!ab/\nP e []=[]/\nab e ab=ab/\nen e en=true:=fun h=>by simp[QfH,nP,nab,nen,h]
 have fl4:e.kind=4->QfH e ea ab []=!ab/\nP e []=[]/\nab e ab=true/\nen e en=en:=fun h=>by simp[QfH,nP,nab,nen,h]
 have fl5:e.kind=5->QfH e ea ab []=((ab||ea)&&true)/\nP e []=[]/\nab e ab=ab/\nen e en=true:=fun h=>by simp[QfH,nP,nab,nen,h]
 have fl0:(e.kind≠1/\e.kind≠3/\e.kind≠4/\e.kind≠5)->QfH e ea ab []=!ab/\nP e []=[]/\nab e ab=ab/\nen e en=en:=fun h=>by simp[QfH,nP,nab,nen,h]
 have hle:(((0:Nat):Int)==0)=true:=rfl
 show VWpG prog (Qa1 c) (.seq _ _) _ _ _
 refine VWpG.seq ?_
 refine VWpG.drawn (k:=6) (f:=6) (Qb c) (by kernel_rfl) (by kernel_rfl) (by kernel_rfl) (by kernel_rfl) rfl ?_; refine QY (by kernel_rfl) ?_
 refine rn (Ja @hk (Ja @hc (Ja @hb @hkb))) ?_
 refine Qbc (zv:=.pointer none) (L:=L) (k:=e.tx) rfl rfl um1 Qj2 (Qai z1) (QaQ rfl) rfl hg (Qaf rfl) ?_
 rw[hn]
 refine rn trivial ?_
 refine VWpG.plain (Qb c) ?_
 rcases hkind with hq | hq | hq | hq | ⟨q1,q3,q4,q5⟩
 ·obtain ⟨f1,f2,f3,f4⟩:=fl hq
  rw[f1,f2,f3,f4]
  cases ab
  ·skip
   have F:=(Ja @hk (Ja @hc (Ja @hb (Ja @hkb (Ja @hkk (Ja @hkc (Ja @h2 (Ja @h3 (Ja @hk2 (Ja @h2.symm (Ja @h3.symm ((eq_true hq)))))))))))))
   refine rn F ?_
   repeat' (first
    | with_reducible exact⟨⟩
    | (refine Qd (id:=10) [0,1,2,3,4,5] [⟨[6],[6],7,[0,1,2,3,5],[8,9]⟩,⟨[],[],10,[8],[]⟩] (by kernel_rfl) (by kernel_rfl) ?_; refine rn F ?_))
   exact⟨_,rfl,rfl,fun h=>Qye hkk hkc0⟩
  ·skip
   have F:=(Ja @hk (Ja @hc (Ja @hb (Ja @hkb (Ja @hkk (Ja @hkc (Ja @h2 (Ja @h3 (Ja @hk2 (Ja @h2.symm (Ja @h3.symm ((eq_true hq)))))))))))))
   refine rn F ?_
   exact⟨_,rfl,rfl,fun h=>by cases h⟩
 ·obtain ⟨f1,f2,f3,f4⟩:=fl3 hq
  rw[f1,f2,f3,f4]
  cases ab
  ·skip
   have F:=(Ja @hk (Ja @hc (Ja @hb (Ja @hkb (Ja @hkk (Ja @hkc (Ja @h2 (Ja @h3 (Ja @hk2 (Ja @h2.symm (Ja @h3.symm (Ja (eq_true hq) @hq))))))))))))
   refine rn F ?_
   exact⟨_,rfl,rfl,fun h=>QgE hkk hkc0⟩
  ·skip
   have F:=(Ja @hk (Ja @hc (Ja @hb (Ja @hkb (Ja @hkk (Ja @hkc (Ja @h2 (Ja @h3 (Ja @hk2 (Ja @h2.symm (Ja @h3.symm (Ja (eq_true hq) @hq))))))))))))
   refine rn F ?_
   exact⟨_,rfl,rfl,fun h=>by cases h⟩
 ·obtain ⟨f1,f2,f3,f4⟩:=fl4 hq
  rw[f1,f2,f3,f4]
  cases ab
  ·skip
   have F:=(Ja @hk (Ja @hc (Ja @hb (Ja @hkb (Ja @hkk (Ja @hkc (Ja @h2 (Ja @h3 (Ja @hk2 (Ja @h2.symm (Ja @h3.symm (Ja (eq_true hq) @hq))))))))))))
   refine rn F ?_
   exact⟨_,rfl,rfl,fun h=>QgE hkk hkc0⟩
  ·skip
   have F:=(Ja @hk (Ja @hc (Ja @hb (Ja @hkb (Ja @hkk (Ja @hkc (Ja @h2 (Ja @h3 (Ja @hk2 (Ja @h2.symm (Ja @h3.symm (Ja (eq_true hq) @hq))))))))))))
   refine rn F ?_
   exact⟨_,rfl,rfl,fun h=>by cases h⟩
 ·obtain ⟨f1,f2,f3,f4⟩:=fl5 hq
  rw[f1,f2,f3,f4]
  cases ab
  ·cases ea
   ·skip
    have F:=(Ja @hk (Ja @hc (Ja @hb (Ja @hkb (Ja @hkk (Ja @hkc (Ja @h2 (Ja @h3 (Ja @hk2 (Ja @h2.symm (Ja @h3.symm (Ja @hq @hle))))))))))))
    refine rn F ?_
    exact⟨_,rfl,rfl,fun h=>by cases h⟩
   ·skip
    have F:=(Ja @hk (Ja @hc (Ja @hb (Ja @hkb (Ja @hkk (Ja @hkc (Ja @h2 (Ja @h3 (Ja @hk2 (Ja @h2.symm (Ja @h3.symm (Ja @hq @hle))))))))))))
    refine rn F ?_
    exact⟨_,rfl,rfl,fun h=>QgE hkk hkc0⟩
  ·skip
   have F:=(Ja @hk (Ja @hc (Ja @hb (Ja @hkb (Ja @hkk (Ja @hkc (Ja @h2 (Ja @h3 (Ja @hk2 (Ja @h2.symm (Ja @h3.symm (Ja @hq @hle))))))))))))
   refine rn F ?_
   exact⟨_,rfl,rfl,fun h=>QgE hkk hkc0⟩
 ·obtain ⟨f1,f2,f3,f4⟩:=fl0 ⟨q1,q3,q4,q5⟩
  rw[f1,f2,f3,f4]
  cases ab
  ·skip
   have F:=(Ja @hk (Ja @hc (Ja @hb (Ja @hkb (Ja @hkk (Ja @hkc (Ja @h2 (Ja @h3 (Ja @hk2 (Ja @h2.symm (Ja @h3.symm (Ja @q1 (Ja @q3 (Ja @q4 @q5))))))))))))))
   refine rn F ?_
   exact⟨_,rfl,rfl,fun h=>QoT hkk hkc0 hp0⟩
  ·skip
   have F:=(Ja @hk (Ja @hc (Ja @hb (Ja @hkb (Ja @hkk (Ja @hkc (Ja @h2 (Ja @h3 (Ja @hk2 (Ja @h2.symm (Ja @h3.symm (Ja @q1 (Ja @q3 (Ja @q4 @q5))))))))))))))
   refine rn F ?_
   exact⟨_,rfl,rfl,fun h=>by cases h⟩
end
section
attribute [local go_sem] Ce.d Ch.d E.d Qj0 Qrd Qq8 Qok QpM Qqu Qfn Qwf Qwe Qwd E.q Jf QaK Qar
def QpJ (f:Int) (U:List Int) (P:List E) (e:E):Bool:=!decide (e.ref ∈ U) && (if P.any (Q9 e) = true then
    (if f<=e.ref then decide ((P.getD (P.findIdx (Q9 e)) E0).lsn=e.ref)&&(eqC (P.getD (P.findIdx (Q9 e)) E0).c.inv e.c&&!(P.drop (P.findIdx (Q9 e)+1)).any (Qdj e)) else !(P.drop (P.findIdx (Q9 e))).any (Qdj e))
 else decide (e.ref<f))
def Qsm(f:Int)(P:List E)(e:E):List E:=if f<=e.ref then QpI P (P.findIdx (Q9 e)) else P
def RunOk.app(h:RunOk hp k kp la ea ab en P):RunOk (hp++r) k kp la ea ab en P:=by
 obtain⟨h1,p,h2,h3⟩:=h
 refine⟨by rw[JK]; omega,p,by rw[QA h1]; exact h2,?_⟩
 rcases h3 with h | ⟨e1,e2,e3⟩
 ·exact .inl h
 ·exact .inr ⟨e1,by rw[JK]; omega,by rw[Jc e2]; exact e3⟩
def Left.ofRun(h:RunOk hp k kp la ea ab en P):Left hp k kp la ea ab en P (hp++r):=⟨(FrH.refl _ _).app r,kp,.inl rfl,h.app⟩
def QGk(hkk:k<hp.length)(hkc:Qc hp k=some (rnC la ea ab en p))(hn:P.length=n):
 Left hp k kp la ea ab en P (Ql hp k (rnC la ea ab en (.own (hp.length+3) 13 0 n))++[x,y,z,⟨57,true,cells encE P⟩]):=by
 have hl:(Ql hp k (rnC la ea ab en (.own (hp.length+3) 13 0 n))).length=hp.length:=by rw[Qap]
 refine⟨((FrH.refl _ _).set (.inl rfl) _).app _,hp.length+3,.inr (by omega),by simp[hl]; omega,.own (hp.length+3) 13 0 n,?_,.inr ⟨by rw[hn],by simp[hl],?_⟩⟩
 ·rw[QA (by omega),QaB,hkc]; rfl
 ·rw[Qj7 (by simp[hl])]; simp[hl]
def Qvu(hp:Qa)(g:MapsD)(kc bt bp bu:Nat)(f:Int)(e:E)(U:List Int)(hk:kc<hp.length)(hc:Qc hp kc=some (ckC f bt bp bu))(hg:(bu,Qbg kI (QdK U))∈g)(k kp:Nat)(la:Int)(ea ab en:Bool)(P:List E)(hPl:P.length<=10000)(hr:RunOk hp k kp la ea ab en P)(hne:k≠kp) :
 VCallsG prog 40 [.ptr kc 0,.ptr k 0,.agg e.d] hp g (fun r h' g'=>∃ b,r=.bool b/\b=QpJ f U P e/\(b=true->Left hp k kp la ea ab en (Qsm f P e) h'/\g'=g.map fun p=>if p.1=bu then (bu,Qbg kI (QdK (QoH U e.ref))) else p)):=by
 have hr0:=hr
 obtain⟨hkk,p,hkc,hp0⟩:=hr
 rcases hp0 with⟨rfl,rfl⟩ | ⟨rfl,hkp,hpb⟩
 ·refine (QqL hp g kc bt bp bu f e U hk hc hg k la ea ab en hkk hkc).mono ?_
  rintro r h' g' ⟨b,e1,e2,e3⟩
  refine⟨b,e1,?_,fun hb=>?_⟩
  ·rw[e2]; simp[QpJ,JZ]
  ·obtain ⟨⟨x,rfl⟩,e4⟩:=e3 hb
   refine⟨?_,e4⟩
   rw[show Qsm f [] e=[] by unfold Qsm QpI; simp]
   exact Left.ofRun hr0
 by_cases ha:P.any (Q9 e)=true
 ·have hj:P.findIdx (Q9 e) < P.length:=Jd (by simpa using ha)
  by_cases hf:f<=e.ref
  ·have hlen:(QpI P (P.findIdx (Q9 e))).length = P.length - 1:=by simp [QpI]; omega
   have fin:∀ r (h':Qa) (g':MapsD),(∃ b,r=DV.bool b/\b=(decide ((P.getD (P.findIdx (Q9 e)) E0).lsn=e.ref)&&(eqC (P.getD (P.findIdx (Q9 e)) E0).c.inv e.c&&(!decide (e.ref∈U)&&!(P.drop (P.findIdx (Q9 e)+1)).any (Qdj e))))/\(b=true->(∃ x y z,h'=Ql hp k (rnC la ea ab en (.own (hp.length+3) 13 0 (P.length-1)))++[x,y,z,⟨57,true,cells encE (QpI P (P.findIdx (Q9 e)))⟩])/\g'=g.map fun p=>if p.1=bu then (bu,Qbg kI (QdK (QoH U e.ref))) else p)) ->
    ∃ b,r=.bool b/\b=QpJ f U P e/\(b=true->Left hp k kp la ea ab en (Qsm f P e) h'/\g'=g.map fun p=>if p.1=bu then (bu,Qbg kI (QdK (QoH U e.ref))) else p):=by
    rintro r h' g' ⟨b,e1,e2,e3⟩
    refine⟨b,e1,?_,fun hb=>?_⟩
    ·rw [e2,QpJ,if_pos ha,if_pos hf]
     generalize decide (e.ref∈U)=q1
     generalize decide ((P.getD (P.findIdx (Q9 e)) E0).lsn=e.ref)=q2
     generalize eqC _ _=q3
     generalize List.any _ _=q4
     cases q1<;>cases q2<;>cases q3<;>rfl
    ·obtain ⟨⟨x,y,z,rfl⟩,e4⟩:=e3 hb
     refine⟨?_,e4⟩
     rw[Qsm,if_pos hf]
     exact QGk hkk hkc hlen
   by_cases hj1:P.findIdx (Q9 e)+1=P.length
   ·exact(QqH hp g kc bt bp bu f e U hk hc hg k kp la ea ab en P hPl hkk hkc hkp hpb hne ha hf hj1).mono fin
   ·exact(QqJ hp g kc bt bp bu f e U hk hc hg k kp la ea ab en P hPl hkk hkc hkp hpb hne ha hf (by omega)).mono fin
  ·refine (QqK hp g kc bt bp bu f e U hk hc hg k kp la ea ab en P hPl hkk hkc hkp hpb hne ha hf).mono ?_
   rintro r h' g' ⟨b,e1,e2,e3⟩
   refine⟨b,e1,?_,fun hb=>?_⟩
   ·rw[e2,QpJ,if_pos ha,if_neg hf]
   ·obtain ⟨⟨x,rfl⟩,e4⟩:=e3 hb
    refine⟨?_,e4⟩
    rw[Qsm,if_neg hf]
    exact Left.ofRun hr0
 ·have ha':P.any (Q9 e) = false:=by simpa using ha
  refine(QqI hp g kc bt bp bu f e U hk hc hg k kp la ea ab en P hPl hkk hkc hkp hpb hne ha').mono ?_
  rintro r h' g' ⟨b,e1,e2,e3⟩
  refine⟨b,e1,?_,fun hb=>?_⟩
  ·rw[e2,QpJ,if_neg ha,JZ]
  ·obtain ⟨⟨x,rfl⟩,e4⟩:=e3 hb
   refine⟨?_,e4⟩
   have hf:¬ f<=e.ref:=by
    rw[e2] at hb
    simp at hb
    omega
   rw[Qsm,if_neg hf]
   exact Left.ofRun hr0
def QEp(c:Qkt)(hp:Qa)(g:MapsD)(b kb kc bt bp bu:Nat)(f:Int)(e:E)(L:List (Int×DV))(U:List Int)(hkb:kb<hp.length)(hb:Qc hp kb=some e.d)(hk:kc<hp.length)(hc:Qc hp kc=some (ckC f bt bp bu))(hg:(bt,Qbg kI L)∈g)(hgu:(bu,Qbg kI (QdK U))∈g)
 (k kp:Nat) (la:Int) (ea ab en:Bool) (P:List E) (hPl:P.length<=10000) (hr:RunOk hp k kp la ea ab en P) (hn:Qds L e.tx=some (.ptr k 0)) (h1:k≠kp) (hk2:e.kind=2) :
 VWpG prog (Qa1 c) (QeQ 3 (Qev Tryz.f26)) (Qct prog [.tmp 4] fun r h' g'=>∃ b,r=.bool b/\b=QpJ f U P e/\(b=true->Left hp k kp la ea ab en (Qsm f P e) h'/\g'=g.map fun p=>if p.1=bu then (bu,Qbg kI (QdK (QoH U e.ref))) else p)) ⟨97,b,[(3,.ptr kb 0),(0,.ptr kc 0)],hp⟩ g:=by
 have hcu:=Qvu hp g kc bt bp bu f e U hk hc hgu k kp la ea ab en P hPl hr h1
 obtain⟨hkk,p,hkc,hp0⟩:=hr
 unfold ckC at hc
 unfold rnC at hkc
 unfold E.d at hb hcu
 show VWpG prog (Qa1 c) (.seq _ _) _ _ _
 refine VWpG.seq ?_
 refine VWpG.drawn (k:=6) (f:=6) (Qb c) (by kernel_rfl) (by kernel_rfl) (by kernel_rfl) (by kernel_rfl) rfl ?_; refine QY (by kernel_rfl) ?_
 refine rn (Ja @hk (Ja @hc (Ja @hb @hkb))) ?_
 refine Qbc (zv:=.pointer none) (L:=L) (k:=e.tx) rfl rfl um1 Qj2 (Qai z1) (QaQ rfl) rfl hg (Qaf rfl) ?_
 rw[hn]
 refine rn trivial ?_
 refine VWpG.seq ?_
 have d2:(e.kind=2)=True:=eq_true hk2
 have d1:¬ e.kind=1:=by omega
 refine VWpG.first (Qb c) ?_
 cases ab
 ·(refine rn (Ja @hk (Ja @hc (Ja @hb (Ja @hkb (Ja @hkk (Ja @hkc @d2)))))) ?_; try with_reducible exact ⟨⟩)
  refine VWpG.cond rfl (fun hZ=>?_) (fun hZ=>?_)
  ·cases hZ
  refine VWpG.plain (Qb c) ?_
  refine rn trivial ?_
  refine VWpG.seq ?_
  refine VWpG.first (Qb c) ?_
  refine rn (Ja @hb @hkb) ?_
  refine VWpG.block ?_
  refine VWpG.first (Qb c) ?_
  refine rn @d1 ?_
  refine VWpG.cond rfl (fun hZ=>?_) (fun hZ=>?_)
  ·cases hZ
  refine VWpG.first (Qb c) ?_
  refine rn @d2 ?_
  refine VWpG.cond rfl (fun hZ=>?_) (fun hZ=>?_)
  ·refine VWpG.seq ?_
   refine VWpG.cut1 (Qb c) 3 [] ?_
   refine rn (Ja @hk (Ja @hc (Ja @hb (Ja @hkb (Ja @hkk @hkc))))) ?_
   refine Qce rfl rfl rfl hcu ?_
   rintro r h' g' ⟨b',rfl,e2,e3⟩
   refine rn trivial ?_
   refine VWpG.plain (Qb c) ?_
   refine rn trivial ?_
   exact⟨b',rfl,e2,e3⟩
  ·cases hZ
 ·(refine rn (Ja @hk (Ja @hc (Ja @hb (Ja @hkb (Ja @hkk (Ja @hkc @d2)))))) ?_; try with_reducible exact ⟨⟩)
  refine VWpG.cond rfl (fun hZ=>?_) (fun hZ=>?_)
  ·cases hZ
  refine VWpG.plain (Qb c) ?_
  refine rn trivial ?_
  refine VWpG.seq ?_
  refine VWpG.first (Qb c) ?_
  refine rn (Ja @hb @hkb) ?_
  refine VWpG.block ?_
  refine VWpG.first (Qb c) ?_
  refine rn @d1 ?_
  refine VWpG.cond rfl (fun hZ=>?_) (fun hZ=>?_)
  ·cases hZ
  refine VWpG.first (Qb c) ?_
  refine rn @d2 ?_
  refine VWpG.cond rfl (fun hZ=>?_) (fun hZ=>?_)
  ·refine VWpG.seq ?_
   refine VWpG.cut1 (Qb c) 3 [] ?_
   refine rn (Ja @hk (Ja @hc (Ja @hb (Ja @hkb (Ja @hkk @hkc))))) ?_
   refine Qce rfl rfl rfl hcu ?_
   rintro r h' g' ⟨b',rfl,e2,e3⟩
   refine rn trivial ?_
   refine VWpG.plain (Qb c) ?_
   refine rn trivial ?_
   exact⟨b',rfl,e2,e3⟩
  ·cases hZ
end
section
attribute [local go_sem] Ce.d Ch.d E.d Qj0 Qrd Qq8 Qok QpM Qqu Qfn Qwf Qwe Qwd E.q Jf QaK Qar
def Qfl(x:E):Bool:=x.kind==1||x.kind==2
def ckG(bt bp bu:Nat)(L:List (Int×DV))(Pg:List (Int×Int))(U:List Int):MapsD:=[(bt,Qbg kI L),(bp,Qbg kI (QmK Pg)),(bu,Qbg kI (QdK U))]
def Qia(f:Int)(U:List Int)(e:E)(ea ab:Bool)(P:List E):Bool:=if e.kind=2 then QpJ f U P e else QfH e ea ab P
def Qeg(f:Int)(e:E)(P:List E):List E:=if e.kind=2 then Qsm f P e else nP e P
def QjB(U:List Int)(e:E):List Int:=if e.kind=2 then QoH U e.ref else U
def QGC(h1:bt≠bp)(h3:bp≠bu)(L:List (Int×DV))(Pg Pg':List (Int×Int))(U:List Int):((ckG bt bp bu L Pg U).map fun p=>if p.1=bp then (bp,Qbg kI (QmK Pg')) else p)=ckG bt bp bu L Pg' U:=by
 simp[ckG,h1,Ne.symm h3]
def QGA(h1:bt≠bu)(h3:bp≠bu)(L:List (Int×DV))(Pg:List (Int×Int))(U U':List Int):((ckG bt bp bu L Pg U).map fun p=>if p.1=bu then (bu,Qbg kI (QdK U')) else p)=ckG bt bp bu L Pg U':=by
 simp[ckG,h1,h3]
def QGB(h1:bt≠bp)(h3:bt≠bu)(L L':List (Int×DV))(Pg:List (Int×Int))(U:List Int):((ckG bt bp bu L Pg U).map fun p=>if p.1=bt then (bt,Qbg kI L') else p)=ckG bt bp bu L' Pg U:=by
 simp[ckG,Ne.symm h1,Ne.symm h3]
def QbV(hh:∀ r h g,R r h g->R' r h g):∀ e S g,Qct P rs R e S g->Qct P rs R' e S g:=fun e S g h=>by
 unfold Qct at h |-
 cases e<;>dsimp only at h |-<;>first | exact h | (split at h<;>first | exact hh _ _ _ h | exact h)
def QEs(c:Qkt)(hp:Qa)(b kb kc bt bp bu:Nat)(hbb:bt≠bp/\bt≠bu/\bp≠bu)(f:Int)(e:E)(L:List (Int×DV))(Pg:List (Int×Int))(U:List Int)(hkb:kb<hp.length)(hb:Qc hp kb=some e.d)(hk:kc<hp.length)(hc:Qc hp kc=some (ckC f bt bp bu))
 (k kp:Nat) (la:Int) (ea ab en:Bool) (P:List E) (hPl:P.length<=10000) (hr:RunOk hp k kp la ea ab en P) (hn:Qds L e.tx=some (.ptr k 0)) (h1:k≠kp) (h2:k≠kc) (h3:k≠kb) (h4:kp≠kc) (h5:kp≠kb) :
 VWpG prog (Qa1 c) (QeQ 3 (Qev Tryz.f26)) (Qct prog [.tmp 4] fun r h' g'=>∃ b,r=.bool b/\b=Qia f U e ea ab P/\(b=true->Left hp k kp la ea (nab e ab) (nen e en) (Qeg f e P) h'/\g'=ckG bt bp bu L Pg (QjB U e))) ⟨97,b,[(3,.ptr kb 0),(0,.ptr kc 0)],hp⟩ (ckG bt bp bu L Pg U):=by
 have hgt:(bt,Qbg kI L)∈ckG bt bp bu L Pg U:=by simp[ckG]
 have hgu:(bu,Qbg kI (QdK U))∈ckG bt bp bu L Pg U:=by simp[ckG]
 by_cases hk2:e.kind=2
 ·refine (QEp c hp _ b kb kc bt bp bu f e L U hkb hb hk hc hgt hgu k kp la ea ab en P hPl hr hn h1 hk2).mono (QbV ?_)
  rintro r h' g' ⟨b,e1,e2,e3⟩
  refine⟨b,e1,by rw[e2,Qia,if_pos hk2],fun hb=>?_⟩
  obtain⟨e4,e5⟩:=e3 hb
  rw[QGA hbb.2.1 hbb.2.2] at e5
  rw[Qeg,if_pos hk2,QjB,if_pos hk2,show nab e ab=ab by simp[nab,hk2],show nen e en=en by simp[nen,hk2]]
  exact⟨e4,e5⟩
 ·obtain ⟨hkk,p,hkc,hp0⟩:=hr
  have fin:∀ (r:DV) (h':Qa) (g':MapsD),(∃ b,r=.bool b/\b=QfH e ea ab P/\(b=true->g'=ckG bt bp bu L Pg U/\Left hp k kp la ea (nab e ab) (nen e en) (nP e P) h'))->∃ b,r=.bool b/\b=Qia f U e ea ab P/\(b=true->Left hp k kp la ea (nab e ab) (nen e en) (Qeg f e P) h'/\g'=ckG bt bp bu L Pg (QjB U e)):=by
   rintro r h' g' ⟨b,e1,e2,e3⟩
   refine⟨b,e1,by rw[e2,Qia,if_neg hk2],fun hb=>?_⟩
   obtain⟨e4,e5⟩:=e3 hb
   rw[Qeg,if_neg hk2,QjB,if_neg hk2]
   exact⟨e5,e4⟩
  rcases hp0 with⟨rfl,rfl⟩ | ⟨rfl,hkp,hpb⟩
  ·exact(QEr c hp _ b kb kc bt bp bu f e L hkb hb hk hc hgt k kp la ea ab en hkk hkc hn h2 h3 hk2).mono (QbV fin)
  ·exact(QEq c hp _ b kb kc bt bp bu f e L hkb hb hk hc hgt k kp la ea ab en P hPl hkk hkc hkp hpb hn h1 h2 h3 h4 h5 hk2).mono (QbV fin)
def Qn8(hp:Qa)(kc:Nat)(e:E)(k kp:Nat)(ea ab en:Bool)(P:List E)(h':Qa):Prop:=kc<h'.length/\Qc h' kc=Qc hp kc/\hp.length+1<=h'.length/\Qc h' hp.length=some e.d/\RunOk h' k kp e.lsn ea ab en P/\FrH hp h' (fun j=>j=k\/j=kp)
def QvI(hp:Qa)(kc bt bp bu:Nat)(hbb:bt≠bp/\bt≠bu/\bp≠bu)(f:Int)(e:E)(L L':List (Int×DV))(Pg:List (Int×Int))(U:List Int)(hk:kc<hp.length)(hc:Qc hp kc=some (ckC f bt bp bu))(htx:e.tx≠0)
 (k kp:Nat) (rb ea ab en:Bool) (P:List E) (hPl:P.length<=10000) (hn:Qds L' e.tx=some (.ptr k 0)) (h1:k≠kp) (h2:k≠kc) (h3:k≠hp.length) (h4:kp≠kc) (h5:kp≠hp.length)
 (hright:∀ B:Blk,B=⟨57,true,e.d⟩->VCallsG prog 38 [.ptr kc 0,.agg e.d] (hp++[B]) (ckG bt bp bu L Pg U) (fun r h' g'=>r=.bool rb/\Qn8 hp kc e k kp ea ab en P h'/\g'=ckG bt bp bu L' Pg U)) :
 VCallsG prog 26 [.ptr kc 0,.agg e.d] hp (ckG bt bp bu L Pg U) (fun r h' g'=>∃ b,r=.bool b/\b=(rb&&((!Qfl e||pagedB f Pg e)&&Qia f U e ea ab P)) /\
  (b=true->FrH hp h' (fun j=>j=k\/j=kp)/\(∃ kp',(kp'=kp\/hp.length<=kp')/\RunOk h' k kp' e.lsn ea (nab e ab) (nen e en) (Qeg f e P))/\g'=ckG bt bp bu L' (if Qfl e=true then Qrj Pg e.c.pg e.lsn else Pg) (QjB U e))):=by
 have hr0:=hright _ rfl
 refine Q3 (fn:=Tryz.f26) Tryz.func26 rfl (by kernel_rfl) (by simp[Tryz.f26]) (fun c=>?_)
 have hc0:=hc
 unfold ckC at hc
 unfold E.d at hr0
 refine VWpG.first (Qb c) ?_
 (unfold Tryz.f26; refine rn trivial ?_)
 refine VWpG.seq ?_
 refine VWpG.first (Qb c) ?_
 refine rn @htx ?_
 refine VWpG.cond rfl (fun hZ=>?_) (fun hZ=>?_)
 ·cases hZ
 refine VWpG.plain (Qb c) ?_
 refine rn trivial ?_
 refine VWpG.seq ?_
 refine VWpG.seq ?_
 refine VWpG.cut1 (Qb c) 2 [7] ?_
 refine rn trivial ?_
 refine Qce rfl rfl rfl hr0 ?_
 rintro r h1' g1 ⟨rfl,⟨q1,q2,q3,q4,q5,q6⟩,rfl⟩
 have q4':Qc h1' hp.length=some [.int .i64 e.lsn,.int .i64 e.kind,.int .i64 e.tx,.int .i64 e.ptx,.int .i64 e.ppg,.int .i64 e.ref,.int .i64 e.c.pg,.int .i64 e.c.sl,.bool e.c.b.set,.pv (.str e.c.b.data),.bool e.c.a.set,.pv (.str e.c.a.data),.pv (.str e.blob)]:=q4
 have q2':=q2
 rw[hc] at q2'
 have hl3:hp.length<h1'.length:=by omega
 have hcg:VCalls prog 27 [.agg [.int .i64 e.lsn,.int .i64 e.kind,.int .i64 e.tx,.int .i64 e.ptx,.int .i64 e.ppg,.int .i64 e.ref,.int .i64 e.c.pg,.int .i64 e.c.sl,.bool e.c.b.set,.pv (.str e.c.b.data),.bool e.c.a.set,.pv (.str e.c.a.data),.pv (.str e.blob)]] [] (Ret (.bool (Qfl e))):=Qmt e
 refine QbF ?_
 cases rb
 ·(refine rn trivial ?_; try with_reducible exact ⟨⟩)
  refine QoK rfl rfl ?_
  refine rn trivial ?_
  refine VWpG.cond rfl (fun hZ=>?_) (fun hZ=>?_)
  ·refine VWpG.plain (Qb c) ?_
   refine rn trivial ?_
   exact⟨false,rfl,rfl,fun h=>by cases h⟩
  ·cases hZ
 cases hch:Qfl e
 ·rw [hch] at hcg
  refine rn (Ja @q4' @hl3) ?_
  refine Qaa hcg rfl ?_
  refine rn trivial ?_
  refine QoK rfl rfl ?_
  refine rn trivial ?_
  refine VWpG.cond rfl (fun hZ=>?_) (fun hZ=>?_)
  ·cases hZ
  refine VWpG.plain (Qb c) ?_
  refine rn trivial ?_
  refine VWpG.weakG (VWpG.mono (QEs c h1' h1'.length hp.length kc bt bp bu hbb f e L' Pg U hl3 q4 q1 (q2.trans hc0) k kp e.lsn ea ab en P hPl q5 hn h1 h2 h3 h4 h5) (QbV ?_)) (WeakG.slots rfl rfl ?_)
  ·rintro r h' g' ⟨b,e1,e2,e3⟩
   refine⟨b,e1,e2,fun hb=>?_⟩
   obtain⟨⟨e4,kp',e5,e6⟩,e7⟩:=e3 hb
   exact⟨q6.trans e4 fun _ _ h=>h,⟨kp',e5.imp id fun h=>by omega,e6⟩,e7⟩
  ·intro p hp
   simp only[Je,Ji,or_false] at hp
   rcases hp with rfl | rfl<;>exact .inl rfl
 ·rw [hch] at hcg
  refine rn (Ja @q4' @hl3) ?_
  refine Qaa hcg rfl ?_
  refine rn (Ja @q4' @hl3) ?_
  refine Qce rfl rfl rfl (Qpd h1' _ kc bt bp bu f e Pg q1 (q2.trans hc0) (by simp[ckG])) ?_
  rintro r h2' g2 ⟨rfl,⟨x,rfl⟩,rfl⟩
  refine rn trivial ?_
  rw[QGC hbb.1 hbb.2.2]
  cases hpb:pagedB f Pg e
  ·refine VWpG.cond rfl (fun hZ=>?_) (fun hZ=>?_)
   ·refine VWpG.plain (Qb c) ?_
    refine rn trivial ?_
    exact⟨false,rfl,rfl,fun h=>by cases h⟩
   ·cases hZ
  ·refine VWpG.cond rfl (fun hZ=>?_) (fun hZ=>?_)
   ·cases hZ
   refine VWpG.plain (Qb c) ?_
   refine rn trivial ?_
   refine VWpG.weakG (VWpG.mono (QEs c (h1'++[x]) (h1'.length+1) hp.length kc bt bp bu hbb f e L' (Qrj Pg e.c.pg e.lsn) U (by simp; omega) ((QA hl3).trans q4) (by simp; omega) ((QA q1).trans (q2.trans hc0)) k kp e.lsn ea ab en P hPl q5.app hn h1 h2 h3 h4 h5) (QbV ?_)) (WeakG.slots rfl rfl ?_)
   ·rintro r h' g' ⟨b,e1,e2,e3⟩
    refine⟨b,e1,e2,fun hb=>?_⟩
    obtain⟨⟨e4,kp',e5,e6⟩,e7⟩:=e3 hb
    exact⟨(q6.app [x]).trans e4 fun _ _ h=>h,⟨kp',e5.imp id fun h=>by simp at h; omega,e6⟩,e7⟩
   ·intro p hp
    simp only[Je,Ji,or_false] at hp
    rcases hp with rfl | rfl<;>exact .inl rfl
end
def RunP(hp:Qa)(k:Nat)(kpo:Option Nat)(la:Int)(ea ab en:Bool)(P:List E):Prop:=k<hp.length/\match kpo with
 | none=>P=[]/\Qc hp k=some (rnC la ea ab en (.pv (.slc [])))
 | some kp=>Qc hp k=some (rnC la ea ab en (.own kp 13 0 P.length))/\kp<hp.length/\hp[kp]?=some ⟨57,true,cells encE P⟩
def RunP.ok(h:RunP hp k kpo la ea ab en P):RunOk hp k (kpo.getD (hp.length+7)) la ea ab en P:=by
 obtain⟨h1,h2⟩:=h
 cases kpo with
 | none=>exact⟨h1,_,h2.2,.inl ⟨h2.1,rfl⟩⟩
 | some kp=>exact⟨h1,_,h2.1,.inr ⟨rfl,h2.2.1,h2.2.2⟩⟩
def RunOk.toP(h:RunOk hp k kp la ea ab en P):RunP hp k none la ea ab en P\/(RunP hp k (some kp) la ea ab en P):=by
 obtain⟨h1,p,h2,h3⟩:=h
 rcases h3 with⟨rfl,rfl⟩ | ⟨rfl,h4,h5⟩
 ·exact .inl ⟨h1,rfl,h2⟩
 ·exact .inr ⟨h1,h2,h4,h5⟩
def RunP.fr(h:RunP hp k kpo la ea ab en P)(hf:FrH hp h' A)(hk:¬ A k)(hkp:∀ kp,kpo=some kp->¬ A kp):RunP h' k kpo la ea ab en P:=by
 obtain⟨h1,h2⟩:=h
 have hb:=Qi7 (hf.same k h1 hk)
 refine⟨JL h1 hf.len,?_⟩
 cases kpo with
 | none=>exact⟨h2.1,by rw[hb]; exact h2.2⟩
 | some kp=>exact⟨by rw[hb]; exact h2.1,JL h2.2.1 hf.len,by rw[hf.same kp h2.2.1 (hkp kp rfl)]; exact h2.2.2⟩
def Qp4(hp:Qa)(kc bt bp bu:Nat)(f:Int)(e:E)(L:List (Int×DV))(Pg:List (Int×Int))(U:List Int)(hk:kc<hp.length)(hc:Qc hp kc=some (ckC f bt bp bu))(k kp:Nat)(la:Int)(ea ab en:Bool)(P:List E)(hr:RunOk hp k kp la ea ab en P)(hn:Qds L e.tx=some (.ptr k 0))(h1:k≠kp)(h2:k≠kc)(h5:kp≠hp.length)(B:Blk)(hB:B=⟨57,true,e.d⟩) :
 VCallsG prog 38 [.ptr kc 0,.agg e.d] (hp++[B]) (ckG bt bp bu L Pg U) (fun r h' g'=>r=.bool (decide (e.ptx=la)&&!en)/\Qn8 hp kc e k kp ea ab en P h'/\g'=ckG bt bp bu L Pg U):=by
 have hr':=hr.app (r:=[B])
 obtain⟨hkk,p,hkc,hp0⟩:=hr
 refine(Qvv (hp++[B]) _ kc bt bp bu f e L (by simp; omega) ((QA hk).trans hc) (by simp[ckG]) k la ea ab en p (by simp; omega) ((QA hkk).trans hkc) hn).mono ?_
 rintro r h' g' ⟨rfl,⟨x,rfl⟩,rfl⟩
 have hl:(Ql (hp++[B]) k (rnC e.lsn ea ab en p)).length=hp.length+1:=by rw[Qap]; simp
 have hfr:FrH hp (Ql (hp++[B]) k (rnC e.lsn ea ab en p)++[x]) (fun j=>j=k\/j=kp):=((((FrH.refl _ _).app [B])).set (.inl rfl) _).app _
 refine⟨rfl,⟨by simp[hl]; omega,?_,by simp[hl],?_,⟨by simp[hl]; omega,p,?_,?_⟩,hfr⟩,rfl⟩
 ·rw[QA (by omega),Qi6 h2,QA hk]
 ·rw[QA (by omega),Qi6 (by omega),Qkm,hB]<;>rfl
 ·rw[QA (by omega),QaB,QA hkk,hkc]<;>rfl
 ·rcases hp0 with h | ⟨e1,e2,e3⟩
  ·exact .inl h
  ·exact .inr ⟨e1,by simp[hl]; omega,by rw[Jc (by omega),QbQ h1,Jc e2]; exact e3⟩
def Qxv(hp:Qa)(kc bt bp bu:Nat)(hbb:bt≠bp/\bt≠bu/\bp≠bu)(f:Int)(e:E)(L:List (Int×DV))(Pg:List (Int×Int))(U:List Int)(hk:kc<hp.length)(hc:Qc hp kc=some (ckC f bt bp bu))(hn:Qds L e.tx=none)(kp:Nat)(B:Blk)(hB:B=⟨57,true,e.d⟩) :
 VCallsG prog 38 [.ptr kc 0,.agg e.d] (hp++[B]) (ckG bt bp bu L Pg U) (fun r h' g'=>r=.bool (decide (e.ptx<f))/\Qn8 hp kc e (hp.length+2) kp (decide (0<e.ptx)) false false [] h'/\g'=ckG bt bp bu (Qgl L e.tx (.ptr (hp.length+2) 0)) Pg U):=by
 refine(Qmn (hp++[B]) _ kc bt bp bu f e L (by simp; omega) ((QA hk).trans hc) (by simp[ckG]) hn).mono ?_
 rintro r h' g' ⟨rfl,⟨x,rfl⟩,rfl⟩
 have hl:(hp++[B]).length=hp.length+1:=by simp
 refine⟨rfl,⟨by simp<;>omega,?_,by simp<;>omega,?_,⟨by simp,.pv (.slc []),?_,.inl ⟨rfl,rfl⟩⟩,(((FrH.refl _ _).app [B]).app [x]).app _⟩,?_⟩
 ·rw[QA (by simp; omega),QA (by simp; omega),QA hk]
 ·rw[QA (by simp),QA (by simp),Qkm,hB]; rfl
 ·rw[Qkl (by simp)]; simp[Qc]
 ·rw[QGB hbb.1 hbb.2.1,hl]
structure Tr where
 tx:Int
 last:Int
 ea:Bool
 ab:Bool
 en:Bool
 P:List E
structure Ck where
 T:List Tr
 Pg:List (Int×Int)
 U:List Int
def setT:List Tr->Tr->List Tr
 | [],t=>[t]
 | a::r,t=>if a.tx=t.tx then t::r else a::setT r t
def Qio(T:List Tr)(x:Int):Option Tr:=T.find? fun t=>decide (t.tx=x)
def ckB(f:Int)(A:Ck)(e:E):Bool:=if e.tx=0 then true else match Qio A.T e.tx with
 | some t=>(decide (e.ptx=t.last)&&!t.en)&&((!Qfl e||pagedB f A.Pg e)&&Qia f A.U e t.ea t.ab t.P)
 | none=>decide (e.ptx<f)&&((!Qfl e||pagedB f A.Pg e)&&Qia f A.U e (decide (0<e.ptx)) false [])
def ckS(f:Int)(A:Ck)(e:E):Ck:=if e.tx=0 then A else match Qio A.T e.tx with
 | some t=>⟨setT A.T ⟨e.tx,e.lsn,t.ea,nab e t.ab,nen e t.en,Qeg f e t.P⟩,if Qfl e=true then Qrj A.Pg e.c.pg e.lsn else A.Pg,QjB A.U e⟩
 | none=>⟨setT A.T ⟨e.tx,e.lsn,decide (0<e.ptx),nab e false,nen e false,Qeg f e []⟩,if Qfl e=true then Qrj A.Pg e.c.pg e.lsn else A.Pg,QjB A.U e⟩
structure TX where
 t:Tr
 k:Nat
 kp:Option Nat
def TX.pos(x:TX):List Nat:=x.k::x.kp.toList
def Quf(X:List TX):List (Int×DV):=X.map fun x=>(x.t.tx,.ptr x.k 0)
structure RepX(f:Int)(kc bt bp bu:Nat)(hp:Qa)(X:List TX):Prop where
 hk:kc<hp.length
 hc:Qc hp kc=some (ckC f bt bp bu)
 run:∀ x∈X,RunP hp x.k x.kp x.t.last x.t.ea x.t.ab x.t.en x.t.P
 nd:(kc::X.flatMap TX.pos).Nodup
def Rep(f:Int)(kc bt bp bu:Nat)(n:Nat)(hp:Qa)(g:MapsD)(A:Ck):Prop:=∃ X:List TX,X.map (·.t)=A.T/\g=ckG bt bp bu (Quf X) A.Pg A.U/\RepX f kc bt bp bu hp X/\∀ t∈A.T,t.P.length<=n
def QEM (X:List TX) (x:Int):Qds (Quf X) x = (X.find? fun y=>decide (y.t.tx = x)).map fun y=>.ptr y.k 0:=by
 induction X with
 | nil=>rfl
 | cons a r ih =>
   unfold Quf at ih |-
   simp only[JF,Qds,JI]
   by_cases h:a.t.tx=x
   ·simp[h]
   ·simp[h,ih]
def QEV(X:List TX)(x:Int):Qio (X.map (·.t)) x=(X.find? fun y=>decide (y.t.tx=x)).map (·.t):=by
 unfold Qio
 rw[List.find?_map]
 rfl
def Qk8(f:Int)(e:E)(P:List E):(Qeg f e P).length<=P.length+1:=by
 unfold Qeg Qsm QpI nP
 split
 ·split
  ·simp; omega
  ·omega
 ·split<;>simp
def QEj(h:RepX f kc bt bp bu hp X):∀ j∈X.flatMap TX.pos,j<hp.length:=by
 intro j hj
 obtain⟨x,hx,hj⟩:=JR.1 hj
 obtain⟨h1,h2⟩:=h.run x hx
 unfold TX.pos at hj
 rcases Je.1 hj with rfl | hj
 ·exact h1
 ·cases hkp:x.kp with
  | none=>rw[hkp] at hj; simp at hj
  | some kp=>rw[hkp] at hj h2; simp at hj; subst hj; exact h2.2.1
def Qol(T1 T2:List Tr)(t t':Tr)(h:∀ y∈T1,y.tx≠t'.tx)(ht:t.tx=t'.tx):setT (T1++t::T2) t'=T1++t'::T2:=by
 induction T1 with
 | nil=>simp[setT,ht]
 | cons a r ih=>simp only[Jw,setT]; rw[if_neg (h a (by simp)),ih fun y hy=>h y (Jt _ hy)]
def QwZ(T:List Tr)(t':Tr)(h:∀ y∈T,y.tx≠t'.tx):setT T t'=T++[t']:=by
 induction T with
 | nil=>rfl
 | cons a r ih=>simp only[setT]; rw[if_neg (h a (by simp)),ih fun y hy=>h y (Jt _ hy)]; rfl
def RunP.ne(h:RunP hp k (some kp) la ea ab en P):kp≠k:=fun e=>by
 obtain⟨_,h1,_,h2⟩:=h
 rw[e] at h2
 have:=Qd0 h2
 rw[h1] at this
 have:=congrArg List.length (Kg.inj this)
 rw[Qj0] at this
 simp[rnC] at this
 omega
def QtS(h:(kc::(X1++x::X2).flatMap TX.pos).Nodup):x.pos.Nodup/\kc ∉ x.pos/\(∀ j∈X1.flatMap TX.pos,j ∉ x.pos)/\(∀ j∈X2.flatMap TX.pos,j ∉ x.pos)/\(kc::(X1++X2).flatMap TX.pos).Nodup:=by
 simp only[Jl,JQ,J8,J1,Jm,not_or] at h |-
 obtain⟨⟨a1,a2,a3⟩,b1,⟨b2,b3,b4⟩,b5⟩:=h
 exact⟨b2,a2,fun j hj hx=>b5 j hj j (.inl hx) rfl,fun j hj hx=>b4 j hx j hj rfl,⟨a1,a3⟩,b1,b3,fun j hj m hm=>b5 j hj m (.inr hm)⟩
def QxR(h1:x.pos.Nodup)(h2:kc ∉ x.pos)(h3:∀ j∈X1.flatMap TX.pos,j ∉ x.pos)(h4:∀ j∈X2.flatMap TX.pos,j ∉ x.pos)(h5:(kc::(X1++X2).flatMap TX.pos).Nodup):(kc::(X1++x::X2).flatMap TX.pos).Nodup:=by
 simp only[Jl,JQ,J8,J1,Jm,not_or] at h5 |-
 obtain⟨⟨a1,a2⟩,b1,b2,b3⟩:=h5
 exact⟨⟨a1,h2,a2⟩,b1,⟨h1,b2,fun a ha b hb e=>h4 b hb (e▸ha)⟩,fun a ha b hb=>hb.elim (fun hb e=>h3 a ha (e▸hb)) (fun hb=>b3 a ha b hb)⟩
def Qtm{f:Int}{kc bt bp bu:Nat}{hp h':Qa}{X1 X2:List TX}{t':Tr}{k kp kp':Nat}{A:Nat->Prop}(hR:RepX f kc bt bp bu hp (X1++X2))(hfr:FrH hp h' A)(hkc:¬ A kc)(hA:∀ j∈(X1++X2).flatMap TX.pos,¬ A j)(hk:k≠kc/\k ∉ (X1++X2).flatMap TX.pos)(hkp:(kp'≠kc/\kp' ∉ (X1++X2).flatMap TX.pos))
 (hrun:RunOk h' k kp' t'.last t'.ea t'.ab t'.en t'.P):∃ kpo,RepX f kc bt bp bu h' (X1++⟨t',k,kpo⟩::X2):=by
 have old:∀ y∈X1++X2,RunP h' y.k y.kp y.t.last y.t.ea y.t.ab y.t.en y.t.P:=fun y hy=>
  (hR.run y hy).fr hfr (hA _ (JR.2 ⟨y,hy,by simp[TX.pos]⟩)) fun kp h=>hA _ (JR.2 ⟨y,hy,by simp[TX.pos,h]⟩)
 have fin:∀ kpo,RunP h' k kpo t'.last t'.ea t'.ab t'.en t'.P->(∀ j∈kpo.toList,j=kp')->RepX f kc bt bp bu h' (X1++⟨t',k,kpo⟩::X2):=fun kpo hr hj=>by
  refine⟨JL hR.hk hfr.len,by rw[Qi7 (hfr.same kc hR.hk hkc)]; exact hR.hc,fun y hy=>?_,?_⟩
  ·rcases Jm.1 hy with hy | hy
   ·exact old y (Jj _ hy)
   ·rcases Je.1 hy with rfl | hy
    ·exact hr
    ·exact old y (Jg _ hy)
  ·have hin:∀ j,j ∈ (⟨t',k,kpo⟩:TX).pos->j = k\/j = kp':=fun j h=>by
    unfold TX.pos at h
    rcases Je.1 h with h | h
    ·exact .inl h
    ·exact .inr (hj j h)
   have hno:∀ j∈(X1++X2).flatMap TX.pos,j ∉ (⟨t',k,kpo⟩:TX).pos:=fun j h h2=>by
    rcases hin j h2 with rfl | rfl
    ·exact hk.2 h
    ·exact hkp.2 h
   refine QxR ?_ (fun h=>?_) (fun j h=>hno j (by rw[Jl]; exact Jj _ h)) (fun j h=>hno j (by rw[Jl]; exact Jg _ h)) hR.nd
   ·cases kpo with
    | none=>simp[TX.pos]
    | some q=>have:=hr.ne; simp[TX.pos,Ne.symm this]
   ·rcases hin kc h with e | e
    ·exact hk.1 e.symm
    ·exact hkp.1 e.symm
 rcases hrun.toP with h | h
 ·exact⟨none,fin none h (by simp)⟩
 ·exact⟨some kp',fin _ h (by simp)⟩
def Qx8(X1 X2:List TX)(t t':Tr)(k:Nat)(kp kp':Option Nat)(h:t.tx=t'.tx):Quf (X1++⟨t',k,kp'⟩::X2)=Quf (X1++⟨t,k,kp⟩::X2):=by
 simp[Quf,h]
def Qun{n:Nat}{T1 T2:List Tr}{t':Tr}(h:∀ t∈T1++T2,t.P.length<=n)(h':t'.P.length<=n+1):∀ t∈T1++t'::T2,t.P.length<=n+1:=fun t ht=>by
 rcases Jm.1 ht with ht | ht
 ·exact J2 (h t (Jj _ ht))
 ·rcases Je.1 ht with rfl | ht
  ·exact h'
  ·exact J2 (h t (Jg _ ht))
def QCN (f:Int) (kc bt bp bu n:Nat) (hbb:bt ≠ bp/\bt ≠ bu/\bp ≠ bu) (hp:Qa) (g:MapsD) (A:Ck) (e:E) (hn:n<=9000) (htx:e.tx ≠ 0) (h:Rep f kc bt bp bu n hp g A) :
 VCallsG prog 26 [.ptr kc 0,.agg e.d] hp g (fun r h' g'=>∃ b,r=.bool b/\b=ckB f A e/\(b=true->Rep f kc bt bp bu (n+1) h' g' (ckS f A e))):=by
 obtain⟨X,hX,rfl,hR,hlen⟩:=h
 have hget:=QEM X e.tx
 have hfind:=QEV X e.tx
 rw[hX] at hfind
 have hpl:=QEj hR
 cases hf:X.find? (fun y=>decide (y.t.tx=e.tx)) with
 | some x =>
   rw[hf] at hget hfind
   simp only[Option.map_some] at hget hfind
   obtain⟨htx',X1,X2,hXe,hX1⟩:=List.find?_eq_some_iff_append.1 hf
   subst hXe
   have hxm:x∈X1++x::X2:=by simp
   have htx':x.t.tx=e.tx:=by simpa using htx'
   have hrx:=hR.run x hxm
   have hlx:x.t.P.length<=n:=hlen x.t (by rw[<- hX]; exact Jr.2 ⟨x,hxm,rfl⟩)
   obtain⟨n1,n2,n3,n4,n5⟩:=QtS hR.nd
   have hkm:x.k∈x.pos:=by simp[TX.pos]
   have hkc:x.k≠kc:=fun h=>n2 (h▸hkm)
   have hkpm:∀ kp,x.kp=some kp->kp∈x.pos:=fun kp h=>by simp[TX.pos,h]
   have hkp:x.k≠x.kp.getD (hp.length+7):=by
    cases hkp:x.kp with
    | none=>have:=hrx.1; simp; omega
    | some kp=>unfold TX.pos at n1; rw[hkp] at n1; simp at n1 |-; exact n1
   have hkpc:x.kp.getD (hp.length+7)≠kc:=by
    cases hkp:x.kp with
    | none=>have:=hR.hk; simp; omega
    | some kp=>exact fun h=>n2 (h▸hkpm kp hkp)
   have hkpl:x.kp.getD (hp.length+7)≠hp.length:=by
    cases hkp:x.kp with
    | none=>simp
    | some kp=>rw[hkp] at hrx; have:=hrx.2.2.1; simp; omega
   have hkl:x.k≠hp.length:=by have:=hrx.1; omega
   have hsub:∀ j∈(X1++X2).flatMap TX.pos,j<hp.length/\j ∉ x.pos:=fun j hj=>by
    rw[Jl] at hj
    have:j∈(X1++x::X2).flatMap TX.pos:=by
     rw[Jl,JQ]
     rcases Jm.1 hj with h | h
     ·exact Jj _ h
     ·exact Jg _ (Jg _ h)
    exact⟨hpl j this,(Jm.1 hj).elim (n3 j) (n4 j)⟩
   have hnA:∀ j,j<hp.length->j ∉ x.pos->¬ (j=x.k\/j=x.kp.getD (hp.length+7)):=fun j hj hx h=>by
    rcases h with rfl | h
    ·exact hx hkm
    ·cases hkp:x.kp with
     | none=>rw[hkp] at h; simp at h; omega
     | some kp=>rw[hkp] at h; exact hx (by rw[h]; exact hkpm kp hkp)
   refine(QvI hp kc bt bp bu hbb f e _ _ A.Pg A.U hR.hk hR.hc htx x.k (x.kp.getD (hp.length+7)) _ x.t.ea x.t.ab x.t.en x.t.P (by omega) hget hkp hkc hkl hkpc hkpl
    (Qp4 hp kc bt bp bu f e _ A.Pg A.U hR.hk hR.hc x.k (x.kp.getD (hp.length+7)) x.t.last x.t.ea x.t.ab x.t.en x.t.P hrx.ok hget hkp hkc hkpl)).mono ?_
   rintro r h' g' ⟨b,e1,e2,e3⟩
   refine⟨b,e1,by rw[e2,ckB,if_neg htx,hfind],fun hb=>?_⟩
   obtain⟨hfr,⟨kp',hk',hrun⟩,rfl⟩:=e3 hb
   have hR':RepX f kc bt bp bu hp (X1++X2):=⟨hR.hk,hR.hc,fun y hy=>hR.run y (by rcases Jm.1 hy with h | h; exact Jj _ h; exact Jg _ (Jt _ h)),n5⟩
   obtain⟨kpo,hR2⟩:=Qtm (t':=⟨e.tx,e.lsn,x.t.ea,nab e x.t.ab,nen e x.t.en,Qeg f e x.t.P⟩) (k:=x.k) (kp:=0) (kp':=kp') hR' hfr (hnA kc hR.hk n2) (fun j hj=>hnA j (hsub j hj).1 (hsub j hj).2) ⟨hkc,fun h=>(hsub _ h).2 hkm⟩
    ⟨by rcases hk' with rfl | h; exact hkpc; have:=hR.hk; omega,fun h=>by
     have h1:=hsub _ h
     rcases hk' with rfl | h2
     ·exact hnA _ h1.1 h1.2 (.inr rfl)
     ·omega⟩ hrun
   rw[ckS,if_neg htx,hfind]
   refine⟨_,?_,?_,hR2,?_⟩
   ·rw [<- hX]
    simp only[JV,JF]
    exact(Qol _ _ _ _ (fun y hy=>by
     obtain⟨z,hz,rfl⟩:=Jr.1 hy
     have:=hX1 z hz
     simpa using this) htx').symm
   ·obtain ⟨xt,xk,xkp⟩:=x
    rw[Qx8 X1 X2 xt _ xk xkp kpo htx']
   ·rw [<- hX] at hlen |-
    simp only[JV,JF] at hlen |-
    rw[Qol _ _ _ _ (fun y hy=>by
     obtain⟨z,hz,rfl⟩:=Jr.1 hy
     have:=hX1 z hz
     simpa using this) htx']
    exact Qun (fun t ht=>hlen t (by rcases Jm.1 ht with h | h; exact Jj _ h; exact Jg _ (Jt _ h))) (J5 (Qk8 f e _) (by omega))
 | none =>
   rw[hf] at hget hfind
   simp only[Option.map_none] at hget hfind
   have hno:∀ y∈X,y.t.tx≠e.tx:=fun y hy=>by
    have:=List.find?_eq_none.1 hf y hy
    simpa using this
   have hput:Qgl (Quf X) e.tx (.ptr (hp.length+2) 0)=Quf X++[(e.tx,.ptr (hp.length+2) 0)]:=by
    have:((Quf X).map (·.1)).findIdx? (fun x=>decide (x=e.tx))=none:=by
     rw[List.findIdx?_eq_none_iff]
     intro q hq
     obtain⟨p,hp',rfl⟩:=Jr.1 hq
     obtain⟨y,hy,rfl⟩:=Jr.1 hp'
     simpa using hno y hy
    exact(Qlv _ _ _ this).1
   have hget':Qds (Qgl (Quf X) e.tx (.ptr (hp.length+2) 0)) e.tx=some (.ptr (hp.length+2) 0):=by rw[Qo1,if_pos rfl]
   have hkk:=hR.hk
   refine(QvI hp kc bt bp bu hbb f e _ _ A.Pg A.U hR.hk hR.hc htx (hp.length+2) (hp.length+3) _ (decide (0<e.ptx)) false false [] (by simp) hget' (by omega) (by omega) (by omega) (by omega) (by omega)
    (Qxv hp kc bt bp bu hbb f e _ A.Pg A.U hR.hk hR.hc hget (hp.length+3))).mono ?_
   rintro r h' g' ⟨b,e1,e2,e3⟩
   refine⟨b,e1,by rw[e2,ckB,if_neg htx,hfind],fun hb=>?_⟩
   obtain⟨hfr,⟨kp',hk',hrun⟩,rfl⟩:=e3 hb
   have hge:hp.length<=kp':=by rcases hk' with rfl | h; omega; exact h
   obtain⟨kpo,hR2⟩:=Qtm (X1:=X) (X2:=[]) (t':=⟨e.tx,e.lsn,decide (0<e.ptx),nab e false,nen e false,Qeg f e []⟩) (k:=hp.length+2) (kp:=0) (kp':=kp') (by rw[Jn]; exact hR) hfr (by omega) (fun j hj=>by rw[Jn] at hj; have:=hpl j hj; omega) ⟨by omega,fun h=>by rw[Jn] at h; have:=hpl _ h; omega⟩ ⟨by omega,fun h=>by rw[Jn] at h; have:=hpl _ h; omega⟩ hrun
   rw[ckS,if_neg htx,hfind]
   have hset:setT A.T ⟨e.tx,e.lsn,decide (0<e.ptx),nab e false,nen e false,Qeg f e []⟩=A.T++[⟨e.tx,e.lsn,decide (0<e.ptx),nab e false,nen e false,Qeg f e []⟩]:=QwZ _ _ fun y hy=>by
    rw[<- hX] at hy
    obtain⟨z,hz,rfl⟩:=Jr.1 hy
    exact hno z hz
   refine⟨_,?_,?_,hR2,?_⟩
   ·dsimp only
    rw[hset,<- hX]
    simp
   ·rw [hput]
    simp[Quf]
   ·dsimp only
    rw[hset]
    exact Qun (T2:=[]) (by rw[Jn]; exact hlen) (J5 (Qk8 f e _) (by simp))
section
attribute [local go_sem] Ce.d Ch.d E.d Qj0 Qrd Qq8 Qok QpM Qqu Qfn Qwf Qwe Qwd E.q Jf
attribute [local go_sem] Lg.c
theorem QGS:QQ prog 83=some [.pv (.lit (.int .i64 0)),.pv (.lit (.map none)),.pv (.lit (.map none)),.pv (.lit (.map none))]:=by kernel_rfl
attribute [local go_sem] QGS
def Qy1(hp:Qa)(g:MapsD)(kc:Nat)(e:E)(htx:e.tx=0):VCallsG prog 26 [.ptr kc 0,.agg e.d] hp g (fun r h' g'=>r=.bool true/\(∃ x,h'=hp++[x])/\g'=g):=by
 refine Q3 (fn:=Tryz.f26) Tryz.func26 rfl (by kernel_rfl) (by simp[Tryz.f26]) (fun c=>?_)
 refine VWpG.first (Qb c) ?_
 (unfold Tryz.f26; refine rn trivial ?_)
 refine VWpG.seq ?_
 refine VWpG.first (Qb c) ?_
 refine rn @htx ?_
 refine VWpG.cond rfl (fun hZ=>?_) (fun hZ=>?_)
 ·refine VWpG.plain (Qb c) ?_
  refine rn trivial ?_
  exact⟨_,rfl⟩
 ·cases hZ
def Rep.app(h:Rep f kc bt bp bu n hp g A)(r:Qa):Rep f kc bt bp bu n (hp++r) g A:=by
 obtain⟨X,h1,h2,h3,h4⟩:=h
 refine⟨X,h1,h2,⟨by rw[JK]; have:=h3.hk; omega,by rw[QA h3.hk]; exact h3.hc,fun x hx=>(h3.run x hx).fr ((FrH.refl hp (fun _=>False)).app r) id fun _ _=>id,h3.nd⟩,h4⟩
def Rep.le(h:Rep f kc bt bp bu n hp g A)(hm:n<=m):Rep f kc bt bp bu m hp g A:=by
 obtain⟨X,h1,h2,h3,h4⟩:=h
 exact⟨X,h1,h2,h3,fun t ht=>J5 (h4 t ht) hm⟩
def QE4(f:Int)(kc bt bp bu n:Nat)(hbb:bt≠bp/\bt≠bu/\bp≠bu)(hp:Qa)(g:MapsD)(A:Ck)(e:E)(hn:n<=9000)(h:Rep f kc bt bp bu n hp g A) :
 VCallsG prog 26 [.ptr kc 0,.agg e.d] hp g (fun r h' g'=>∃ b,r=.bool b/\b=ckB f A e/\(b=true->Rep f kc bt bp bu (n+1) h' g' (ckS f A e))):=by
 by_cases htx:e.tx=0
 ·refine (Qy1 hp g kc e htx).mono ?_
  rintro r h' g' ⟨rfl,⟨x,rfl⟩,rfl⟩
  refine⟨true,rfl,by rw[ckB,if_pos htx],fun _=>?_⟩
  rw[ckS,if_pos htx]
  exact(h.app _).le (Nat.le_succ n)
 ·exact QCN f kc bt bp bu n hbb hp g A e hn htx h
def ckL(f:Int):Ck->List E->Bool
 | _,[]=>true
 | A,e::r=>ckB f A e&&ckL f (ckS f A e) r
def ckA(f:Int):Ck->List E->Ck
 | A,[]=>A
 | A,e::r=>ckA f (ckS f A e) r
def Ck0:Ck:=⟨[],[],[]⟩
def Qy2(x:Lg):Int:=if lgB x=true then (if ckL x.f Ck0 x.es=true then 0 else 13) else 26
def Qkh(f:Int):∀ (l m:List E) (A:Ck),ckL f A (l++m)=(ckL f A l&&ckL f (ckA f A l) m)
 | [],m,A=>by simp[ckL,ckA]
 | e::r,m,A=>by simp only[Jw,ckL,ckA,Qkh f r m,Bool.and_assoc]
def Qn0(f:Int):∀ (l m:List E) (A:Ck),ckA f A (l++m)=ckA f (ckA f A l) m
 | [],m,A=>rfl
 | e::r,m,A=>by simp only[Jw,ckA,Qn0 f r m]
def maps3{c:Qkt}{w0 w:World}{β:Map}{hp:Qa}{a b d:Nat×QC4}(h:MapsD.At c [a,b,d] w0 w β hp):MapsD.At c [d,b,a] w0 w β hp:=by
 obtain⟨⟨h1,h2⟩,h3⟩:=h
 refine⟨⟨?_,fun p hp=>h2 p (by simp at hp |-; rcases hp with h | h | h<;>simp[h])⟩,h3⟩
 simp at h1 |-
 exact⟨⟨Ne.symm h1.2,Ne.symm h1.1.2⟩,Ne.symm h1.1.1⟩
def WeakG.trans(h:WeakG Γ S g S' g')(h':WeakG Γ S' g' S'' g''):WeakG Γ S g S'' g'':=fun O β a w hs=>by
 obtain⟨β',hs'⟩:=h O β a w hs
 exact h' O β' a w hs'
def WeakG.maps3:WeakG (Qa1 c) S [a,b,d] S [d,b,a]:=fun O β ac w hs=>⟨β,hs.defers,hs.size,hs.tm,hs.heap,hs.evo,Go.Proofs.YtdnbdbgdfocpgaaGreat.maps3 hs.g⟩
def Qka{l:List E}(h:i<l.length):l.take (i+1)=l.take i++[l.getD i E0]:=by
 rw[Qf l i h,List.take_succ_eq_append_getElem h]
def QyN(h:i<l.length):l=l.take i++l.getD i E0::l.drop (i+1):=by
 have:=JC (i+1) l
 rw[Qka h,JP] at this
 exact this.symm
structure CL(x:Lg)(bt bp bu:Nat) where
 i:Nat
 hi:i<=x.es.length
 hp:Qa
 g:MapsD
 rep:Rep x.f 1 bt bp bu i hp g (ckA x.f Ck0 (x.es.take i))
 ok:ckL x.f Ck0 (x.es.take i)=true
def Qkj(x:Lg)(hx:x.es.length<=9223372036854775807):VCalls prog 11 [.agg x.c] [] (Ret (.int .i64 (Qy2 x))):=by
 refine Qec (fn:=Tryz.f11) Tryz.func11 rfl (by kernel_rfl) (by simp[Tryz.f11]) (fun c=>?_)
 have hv:=Qe5 x hx
 unfold Lg.c at hv
 refine VWpG.first (Qb c) ?_
 (unfold Tryz.f11; refine rn trivial ?_)
 refine VWpG.seq ?_
 refine VWpG.first (Qb c) ?_
 refine rn trivial ?_
 refine Qaa hv rfl ?_
 refine rn trivial ?_
 cases hlg:lgB x
 ·refine VWpG.cond rfl (fun hZ=>?_) (fun hZ=>?_)
  ·refine VWpG.plain (Qb c) ?_
   refine rn trivial ?_
   rw[Qy2,hlg]; rfl
  ·cases hZ
 refine VWpG.cond rfl (fun hZ=>?_) (fun hZ=>?_)
 ·cases hZ
 refine VWpG.plain (Qb c) ?_
 refine rn trivial ?_
 refine VWpG.seq ?_
 refine VWpG.cut1 (Qb c) 2 [0,0] ?_
 refine rn trivial ?_
 refine Qbu rfl (fun c=>by simp) (QcL rfl rfl fun bt h1=>QbF ?_)
 refine rn trivial ?_
 refine Qbu rfl (fun c=>by simp) (QcL rfl rfl fun bp h2=>QbF ?_)
 refine rn trivial ?_
 refine Qbu rfl (fun c=>by simp) (QcL rfl rfl fun bu h3=>?_)
 refine rn trivial ?_
 have hbb:bt≠bp/\bt≠bu/\bp≠bu:=⟨h2 (bt,[]) (by simp),h3 (bt,[]) (by simp),h3 (bp,[]) (by simp)⟩
 have hes:x.es.length<=4096:=(Qat hlg).2.2.1
 refine VWpG.seq ?_
 refine VWpG.first (Qb c) ?_
 refine rn trivial ?_
 refine VWpG.block ?_
 have rep0:Rep x.f 1 bt bp bu 0 [⟨28,true,[.int .i64 x.f,.pv (.sl (fz encE x.es)),.int .i64 x.d]⟩,⟨83,true,[.int .i64 x.f,.pv (.lit (.map (some bt))),.pv (.lit (.map (some bp))),.pv (.lit (.map (some bu)))]⟩] [(bt,[]),(bp,[]),(bu,[])] (ckA x.f Ck0 (x.es.take 0)):=
  ⟨[],rfl,rfl,⟨by simp,rfl,by simp,by simp⟩,by simp[ckA,Ck0]⟩
 refine VWpG.loop (fun s:CL x bt bp bu=>⟨28,2,[(19,.int .i64 s.i),(18,.int .i64 x.es.length),(17,.pv (.sl (fz encE x.es))),(3,.ptr 1 0)],s.hp⟩) (fun s=>s.g) (fun s=>x.es.length-s.i) ⟨0,JA _,_,_,rep0,rfl⟩ ?_ ?_
 ·refine WeakG.trans (WeakG.slots (S':=⟨28,2,[(19,.int .i64 (0:Nat)),(18,.int .i64 x.es.length),(17,.pv (.sl (fz encE x.es))),(3,.ptr 1 0)],_⟩) rfl rfl ?_) WeakG.maps3
  intro p hp
  simp only[Je,Ji,or_false] at hp
  rcases hp with rfl | rfl | rfl | rfl<;>exact .inl rfl
 rintro⟨i,hi,hp,g,rep,ok⟩
 dsimp only
 refine VWpG.first (Qb c) ?_
 refine rn trivial ?_
 refine VWpG.seq ?_
 by_cases hlt:i<x.es.length
 ·have hg:=QyB x.es i hlt
  have hd:decide ((i:Int)<x.es.length)=true:=by simp; omega
  have hrk:1<hp.length:=by obtain⟨X,_,_,h,_⟩:=rep; exact h.hk
  refine VWpG.cond (t:=true) (by rw[<- hd]; rfl) (fun _=>?_) (fun h=>by cases h)
  refine VWpG.plain (Qb c) ?_
  refine rn trivial ?_
  refine VWpG.seq ?_
  refine VWpG.block ?_
  refine VWpG.first (Qb c) ?_
  refine rn @hg ?_
  refine VWpG.seq ?_
  refine VWpG.cut1 (Qb c) 2 [] ?_
  refine rn trivial ?_
  refine Qce rfl rfl rfl (QE4 x.f 1 bt bp bu i hbb _ g _ (x.es.getD i E0) (by omega) (rep.app _)) ?_
  rintro r h' g' ⟨b,rfl,hb,hrep⟩
  cases b
  ·(refine rn trivial ?_; try with_reducible exact ⟨⟩)
   refine VWpG.cond rfl (fun hZ=>?_) (fun hZ=>?_)
   ·refine VWpG.plain (Qb c) ?_
    refine rn trivial ?_
    rw[Qy2,if_pos hlg,if_neg]
    rw[QyN hlt,Qkh,ckL,<- hb]
    simp
   ·cases hZ
  ·(refine rn trivial ?_; try with_reducible exact ⟨⟩)
   refine VWpG.cond rfl (fun hZ=>?_) (fun hZ=>?_)
   ·cases hZ
   refine VWpG.plain (Qb c) ?_
   refine rn trivial ?_
   refine VWpG.plain (Qb c) ?_
   refine rn trivial ?_
   have hA:ckA x.f Ck0 (x.es.take (i+1))=ckS x.f (ckA x.f Ck0 (x.es.take i)) (x.es.getD i E0):=by rw[Qka hlt,Qn0]; rfl
   refine⟨⟨i+1,hlt,h',g',by rw[hA]; exact hrep rfl,by rw[Qka hlt,Qkh,ok,ckL,<- hb]; rfl⟩,by dsimp only; omega,WeakG.slots rfl rfl ?_⟩
   intro p hp
   simp only[Je,Ji,or_false] at hp
   rcases hp with rfl | rfl | rfl | rfl<;>exact .inl rfl
 ·have hd:decide ((i:Int) < x.es.length) = false:=by simp; omega
  have hie:i=x.es.length:=by omega
  subst hie
  refine VWpG.cond (t:=false) (by rw[<- hd]; rfl) (fun h=>by cases h) (fun _=>?_)
  refine VWpG.plain (Qb c) ?_
  refine rn trivial ?_
  refine VWpG.plain (Qb c) ?_
  refine rn trivial ?_
  rw[Jv] at ok
  rw[Qy2,if_pos hlg,if_pos ok]
end
section
attribute [local go_sem] Ce.d Ch.d E.d Lg.c QZ QaW
def exE(es:List E)(i:Nat)(p:E->Bool):Bool:=!(JX i).all fun k=>!p (es.getD k E0)
def Qfc(es:List E)(i:Nat)(p:E->Bool):exE es (i+1) p=(exE es i p||p (es.getD i E0)):=by
 unfold exE
 rw[JW,J9]
 simp[Bool.not_and]
def undp(n:Int)(x:E):Bool:=decide (x.kind=2)&&decide (x.ref=n)
def Qjz(es:List E)(i:Nat)(n:Int):Bool:=exE es i (undp n)
def QxU(tx pg sl ab:Int)(x:E):Bool:=decide (x.kind=1)&&(decide (x.tx=tx)&&(decide (ab<x.lsn)&&(decide (sl<0)||decide (x.c.pg=pg)&&decide (x.c.sl=sl))))
def QzC(es:List E)(i:Nat)(tx pg sl ab:Int)(x:E):Bool:=QxU tx pg sl ab x&&!Qjz es i x.lsn
def Qrk(es:List E)(i:Nat)(tx pg sl ab:Int):Bool:=exE es i (QzC es i tx pg sl ab)
def Qcf(es:List E)(pg:Int):Nat->Int
 | 0=>0
 | k+1=>if Qfl (es.getD k E0)=true/\(es.getD k E0).c.pg=pg then (es.getD k E0).lsn else Qcf es pg k
def Qqe(f:Int)(es:List E)(i:Nat):Bool:=if Qcf es (es.getD i E0).c.pg i=0 then decide ((es.getD i E0).ppg<f) else decide ((es.getD i E0).ppg=Qcf es (es.getD i E0).c.pg i)
def QaA(es:List E)(tx:Int):Nat->Int
 | 0=>0
 | k+1=>if (es.getD k E0).tx=tx then (es.getD k E0).lsn else QaA es tx k
def Qks(es:List E)(tx:Int):Nat->Bool
 | 0=>false
 | k+1=>if (es.getD k E0).tx=tx then (Qks es tx k||decide ((es.getD k E0).kind=4)) else Qks es tx k
def Qo6(tx:Int)(x:E):Bool:=decide (x.tx=tx)&&(decide (x.kind=3)||decide (x.kind=5))
def Qn1(f tx:Int)(x:E):Bool:=decide (x.tx=tx)&&(decide (0<x.ptx)&&decide (x.ptx<f))
def QFJ(f:Int)(es:List E)(i:Nat):Bool:=decide (QaA es (es.getD i E0).tx i=0)&&(decide (0<(es.getD i E0).ptx)&&decide ((es.getD i E0).ptx<f))
def txR(f:Int)(es:List E)(i:Nat):Bool:=
 if exE es i (Qo6 (es.getD i E0).tx)=true then false
 else if (es.getD i E0).ptx≠QaA es (es.getD i E0).tx i/\QFJ f es i=false then false
 else if Qks es (es.getD i E0).tx i=true/\(es.getD i E0).kind≠2/\(es.getD i E0).kind≠5 then false
 else if (es.getD i E0).kind≠5 then true
 else (Qks es (es.getD i E0).tx i||(QFJ f es i||exE es i (Qn1 f (es.getD i E0).tx)))&&!Qrk es i (es.getD i E0).tx 0 (-1) 0
attribute [local go_sem] Qev Qdq QcG QaK Qar
end
section
attribute [local go_sem] Ce.d Ch.d E.d Lg.c QZ QaW
attribute [local go_sem] Qev Qdq QcG QaK Qar
end
section
attribute [local go_sem] Ce.d Ch.d E.d Lg.c QZ QaW
attribute [local go_sem] Qev Qdq QcG QaK Qar
end
section
attribute [local go_sem] Ce.d Ch.d E.d Lg.c QZ QaW
def QpH(f:Int)(es:List E)(i:Nat):Bool:=
 if (es.getD i E0).ref<f then !Qrk es i (es.getD i E0).tx (es.getD i E0).c.pg (es.getD i E0).c.sl (es.getD i E0).ref&&!Qjz es i (es.getD i E0).ref
 else decide ((es.getD ((es.getD i E0).ref-f).toNat E0).kind=1)&&(decide ((es.getD ((es.getD i E0).ref-f).toNat E0).tx=(es.getD i E0).tx)&&(eqC (es.getD i E0).c (es.getD ((es.getD i E0).ref-f).toNat E0).c.inv&&(!Qjz es i (es.getD i E0).ref&&!Qrk es i (es.getD i E0).tx (es.getD i E0).c.pg (es.getD i E0).c.sl (es.getD i E0).ref)))
def QDn(f:Int)(es:List E)(i:Nat):Bool:=!(decide (0<(es.getD i E0).tx)&&!txR f es i)&&(!(Qfl (es.getD i E0)&&!Qqe f es i)&&!(decide ((es.getD i E0).kind=2)&&!QpH f es i))
def QxG(x:Lg):Int:=if lgB x=true then (if (JX x.es.length).all (QDn x.f x.es)=true then 0 else 13) else 26
end
structure EOk(f:Int)(k:Nat)(e:E):Prop where
 lsn:e.lsn=f+k
 ptx:0<=e.ptx/\e.ptx<e.lsn
 ref:0<=e.ref/\e.ref<e.lsn
 tx:(1<=e.tx/\(e.kind=1\/e.kind=2\/e.kind=3\/e.kind=4\/e.kind=5))\/(e.tx=0/\e.kind≠1/\e.kind≠2/\e.kind≠3/\e.kind≠4/\e.kind≠5)
 sl:e.kind=2->0<=e.c.sl
structure Wf(f:Int)(es:List E):Prop where
 f1:1<=f
 ok:∀ k,k<es.length->EOk f k (es.getD k E0)
def Wf.of(h:lgB x=true):Wf x.f x.es:=by
 refine⟨(Qat h).1,fun k hk=>?_⟩
 unfold lgB at h
 rw[Jb,JS] at h
 have h2:=h.2 k (JB.2 hk)
 unfold lgC at h2
 rw[Jb] at h2
 have h3:=of_decide_eq_true h2.1
 have h4:=h2.2
 generalize x.es.getD k E0=e at *
 unfold E.okB bef at h4
 simp only[Jb,decide_eq_true_eq] at h4
 obtain⟨⟨⟨⟨_,a1⟩,_⟩,a2⟩,a3⟩:=h4
 refine⟨h3,a1,a2,?_,?_⟩
 ·unfold E.kindB txB at a3
  split at a3
  ·simp at a3; omega
  split at a3
  ·simp at a3; omega
  split at a3
  ·simp at a3; omega
  split at a3
  ·simp at a3; omega
  split at a3
  ·simp at a3; omega
  ·cases a3
 ·intro hk
  unfold E.kindB at a3
  rw[if_neg (by omega),if_pos hk] at a3
  unfold Ch.okB at a3
  simp at a3
  omega
def exE_iff:exE es i p=true ↔ ∃ k,k<i/\p (es.getD k E0)=true:=by
 unfold exE
 rw[Jk,List.all_eq_false]
 simp
def exE_iff':exE es i p=false ↔ ∀ k,k<i->p (es.getD k E0)=false:=by
 rw[Jz,Ne,exE_iff]
 simp
def QeD(es:List E)(i:Nat)(n:Int):Qjz es (i+1) n=(Qjz es i n||undp n (es.getD i E0)):=Qfc _ _ _
def before(es:List E)(i:Nat):List E:=(JX i).map fun k=>es.getD k E0
def Qn2(es:List E)(i:Nat):before es (i+1)=before es i++[es.getD i E0]:=by
 unfold before
 rw[JW,JV]
 rfl
def Qqh:y∈before es i ↔ ∃ k,k<i/\es.getD k E0=y:=by
 unfold before
 simp
def Qko(W:Wf f es)(hi:i<=es.length):(before es i).Pairwise fun a b=>a.lsn<b.lsn:=by
 unfold before
 rw[List.pairwise_map]
 refine List.Pairwise.imp_of_mem ?_ List.pairwise_lt_range
 intro a b ha hb h
 have ha:=JB.1 ha
 have hb:=JB.1 hb
 rw[(W.ok a (by omega)).lsn,(W.ok b (by omega)).lsn]
 omega
def Qc5(es:List E)(i:Nat)(x:Int):List E:=(before es i).filter fun e=>decide (e.kind=1)&&(decide (e.tx=x)&&!Qjz es i e.lsn)
def mem_penL:y∈Qc5 es i x ↔ (∃ k,k<i/\es.getD k E0=y)/\y.kind=1/\y.tx=x/\Qjz es i y.lsn=false:=by
 unfold Qc5
 rw[Jx,Qqh]
 simp
def Qen(W:Wf f es)(hi:i<=es.length)(x:Int):(Qc5 es i x).Pairwise fun a b=>a.lsn<b.lsn:=(Qko W hi).filter _
def QwL(W:Wf f es)(hi:i<es.length):Qjz es i (f+i)=false:=by
 unfold Qjz
 rw[exE_iff']
 intro k hk
 have h:=W.ok k (by omega)
 unfold undp
 have h1:=h.ref.2
 rw[h.lsn] at h1
 rw[Jq]
 exact .inr (decide_eq_false (by omega))
def QfK (W:Wf f es) (x:Int):∀ i,i<=es.length->(QaA es x i = 0/\∀ k,k < i->(es.getD k E0).tx ≠ x)\/(f<=QaA es x i/\∃ k,k < i/\(es.getD k E0).tx = x)
 | 0,_=>.inl ⟨rfl,fun k hk=>by omega⟩
 | i + 1,hi=>by
   rw[QaA]
   have h:=(W.ok i (by omega)).lsn
   by_cases hx:(es.getD i E0).tx=x
   ·rw [if_pos hx]
    exact .inr ⟨by omega,i,by omega,hx⟩
   ·rw [if_neg hx]
    rcases QfK W x i (by omega) with⟨h1,h2⟩ | ⟨h1,k,h2,h3⟩
    ·refine .inl ⟨h1,fun k hk=>?_⟩
     by_cases hki:k=i
     ·rw[hki]; exact hx
     ·exact h2 k (by omega)
    ·exact .inr ⟨h1,k,by omega,h3⟩
def Qyz (L:List (Int × Int)) (a v b:Int):Qmb (Qrj L a v) b = if a = b then some v else Qmb L b:=by
 induction L with
 | nil=>simp[Qrj,Qmb]
 | cons q r ih =>
   obtain⟨k,x⟩:=q
   unfold Qrj
   by_cases h:k=a
   ·subst h
    simp only[if_pos,Qmb]
    split<;>simp
   ·rw [if_neg h]
    simp only[Qmb]
    rw[ih]
    by_cases h2:k=b
    ·subst h2
     rw[if_pos rfl,if_neg (fun e=>h e.symm),if_pos rfl]
    ·rw[if_neg h2,if_neg h2]
def Qx7(U:List Int)(a b:Int):b∈QoH U a ↔ b∈U\/b=a:=by
 unfold QoH
 split
 ·constructor
  ·exact .inl
  ·rintro (h | rfl)
   ·exact h
   ·assumption
 ·simp
def Qmj (T:List Tr) (t:Tr) (x:Int):Qio (setT T t) x = if t.tx = x then some t else Qio T x:=by
 unfold Qio
 induction T with
 | nil=>simp[setT,JI]; split<;>simp_all
 | cons a r ih =>
   unfold setT
   by_cases h:a.tx=t.tx
   ·rw [if_pos h]
    simp only[JI]
    rw[h]
    by_cases h2:t.tx=x
    ·simp[h2]
    ·simp[h2]
   ·rw [if_neg h]
    simp only[JI]
    rw[ih]
    by_cases h2:a.tx=x
    ·subst h2
     simp[Ne.symm h]
    ·simp[h2]
def Qke (e:E):∀ (P:List E),P.Pairwise (fun a b=>a.lsn < b.lsn)->P.drop (P.findIdx (Q9 e)) = P.filter (Q9 e)
 | [],_=>rfl
 | a :: r,h=>by
   rw[JM] at h
   rw[J3,JT]
   cases ha:Q9 e a
   ·simpa using Qke e r h.2
   ·have:r.filter (Q9 e) = r:=Jo.2 fun b hb=>by
     have:=h.1 b hb
     unfold Q9 at ha |-
     simp at ha |-
     omega
    simp[this]
def Qob (e:E):∀ (P:List E),P.Pairwise (fun a b=>a.lsn < b.lsn)->P.any (Q9 e) = true->(P.getD (P.findIdx (Q9 e)) E0).lsn = e.ref->QpI P (P.findIdx (Q9 e)) = P.filter fun y=>!decide (y.lsn = e.ref)
 | [],_,h,_=>by cases h
 | a :: r,h,hq,hl=>by
   rw[JM] at h
   rw[J3] at hl |-
   rw[JT]
   cases ha:Q9 e a
   ·rw [ha] at hl
    have hq:r.any (Q9 e)=true:=by simpa [ha] using hq
    have hl:(r.getD (r.findIdx (Q9 e)) E0).lsn=e.ref:=by simpa using hl
    have:=Qob e r h.2 hq hl
    unfold QpI at this |-
    have hne:a.lsn≠e.ref:=by unfold Q9 at ha; simp at ha; omega
    simp[hne]
    simpa using this
   ·rw [ha] at hl
    have hl:a.lsn=e.ref:=by simpa using hl
    have:r.filter (fun y=>!decide (y.lsn=e.ref))=r:=Jo.2 fun b hb=>by
     have:=h.1 b hb
     simp
     omega
    simp[QpI,hl,this]
structure Inv(f:Int)(es:List E)(i:Nat)(A:Ck):Prop where
 pg:∀ p,Qmb A.Pg p=if Qcf es p i=0 then none else some (Qcf es p i)
 un:∀ n,n∈A.U ↔ Qjz es i n=true
 no:∀ x,1<=x->Qio A.T x=none->∀ k,k<i->(es.getD k E0).tx≠x
 so:∀ x t,1<=x->Qio A.T x=some t->QaA es x i≠0/\t.last=QaA es x i/\t.ab=Qks es x i/\t.en=exE es i (Qo6 x)/\t.ea=exE es i (Qn1 f x)/\t.P=Qc5 es i x
def QjV:∀ {i:Nat},(∀ k,k < i->(es.getD k E0).tx ≠ x)->QaA es x i = 0/\Qks es x i = false
 | 0,_=>⟨rfl,rfl⟩
 | i + 1,h=>by
   rw[QaA,Qks,if_neg (h i (by omega)),if_neg (h i (by omega))]
   exact QjV fun k hk=>h k (by omega)
def Qub(h:∀ k,k<i->(es.getD k E0).tx≠x):exE es i (Qo6 x)=false/\exE es i (Qn1 f x)=false/\Qc5 es i x=[]:=by
 refine⟨exE_iff'.2 fun k hk=>?_,exE_iff'.2 fun k hk=>?_,?_⟩
 ·unfold Qo6; rw[decide_eq_false (h k hk)]; rfl
 ·unfold Qn1; rw[decide_eq_false (h k hk)]; rfl
 ·rw [List.eq_nil_iff_forall_not_mem]
  intro y hy
  obtain⟨⟨k,hk,rfl⟩,_,h2,_⟩:=mem_penL.1 hy
  exact h k hk h2
def QzY (W:Wf f es) (I:Inv f es i A) (e:E) (ht:1<=e.tx):
 ckB f A e=((if QaA es e.tx i=0 then decide (e.ptx<f) else decide (e.ptx=QaA es e.tx i)&&!exE es i (Qo6 e.tx))&&((!Qfl e||pagedB f A.Pg e)&&Qia f A.U e (if QaA es e.tx i=0 then decide (0<e.ptx) else exE es i (Qn1 f e.tx)) (Qks es e.tx i) (Qc5 es i e.tx))) /\
 ckS f A e=⟨setT A.T ⟨e.tx,e.lsn,if QaA es e.tx i=0 then decide (0<e.ptx) else exE es i (Qn1 f e.tx),nab e (Qks es e.tx i),nen e (exE es i (Qo6 e.tx)),Qeg f e (Qc5 es i e.tx)⟩,if Qfl e=true then Qrj A.Pg e.c.pg e.lsn else A.Pg,QjB A.U e⟩:=by
 unfold ckB ckS
 have h0:e.tx≠0:=by omega
 rw[if_neg h0,if_neg h0]
 cases hT:Qio A.T e.tx with
 | none =>
   have hn:=I.no e.tx ht hT
   obtain⟨h1,h2⟩:=QjV hn
   obtain⟨h3,h4,h5⟩:=Qub (f:=f) hn
   rw[h1,h2,h3,h5]
   exact⟨rfl,rfl⟩
 | some t =>
   obtain⟨h0,h1,h2,h3,h4,h5⟩:=I.so e.tx t ht hT
   simp only[h1,h2,h3,h4,h5,if_neg h0]
   exact⟨trivial,trivial⟩
def QxW(W:Wf f es)(hi:i<=es.length)(x:Int):Qrk es i x 0 (-1) 0=!(Qc5 es i x).isEmpty:=by
 unfold Qrk
 rw[Jy,exE_iff,Jk,List.isEmpty_eq_false_iff_exists_mem]
 constructor
 ·rintro ⟨k,hk,h⟩
  unfold QzC QxU at h
  simp only[Jb,decide_eq_true_eq,Jk] at h
  exact⟨_,mem_penL.2 ⟨⟨k,hk,rfl⟩,h.1.1,h.1.2.1,h.2⟩⟩
 ·rintro ⟨y,hy⟩
  obtain⟨⟨k,hk,rfl⟩,h1,h2,h3⟩:=mem_penL.1 hy
  refine⟨k,hk,?_⟩
  have:=(W.ok k (by omega)).lsn
  have:=W.f1
  unfold QzC QxU
  simp only[Jb,decide_eq_true_eq,Jk,Jp]
  exact⟨⟨h1,h2,by omega,.inl (by decide)⟩,h3⟩
def QtW(W:Wf f es)(hi:i<=es.length)(x pg sl ab:Int)(hs:0<=sl):Qrk es i x pg sl ab=true ↔ ∃ y∈Qc5 es i x,ab<y.lsn/\y.c.pg=pg/\y.c.sl=sl:=by
 unfold Qrk
 rw[exE_iff]
 constructor
 ·rintro ⟨k,hk,h⟩
  unfold QzC QxU at h
  simp only[Jb,decide_eq_true_eq,Jk,Jp] at h
  refine⟨_,mem_penL.2 ⟨⟨k,hk,rfl⟩,h.1.1,h.1.2.1,h.2⟩,h.1.2.2.1,?_⟩
  rcases h.1.2.2.2 with h | h
  ·omega
  ·exact h
 ·rintro ⟨y,hy,ha,hc⟩
  obtain⟨⟨k,hk,rfl⟩,h1,h2,h3⟩:=mem_penL.1 hy
  refine⟨k,hk,?_⟩
  unfold QzC QxU
  simp only[Jb,decide_eq_true_eq,Jk,Jp]
  exact⟨⟨h1,h2,ha,.inr hc⟩,h3⟩
def QxY(I:Inv f es i A):Qqe f es i=pagedB f A.Pg (es.getD i E0):=by
 unfold Qqe pagedB
 rw[I.pg]
 by_cases h:Qcf es (es.getD i E0).c.pg i=0
 ·rw[if_pos h,if_pos h]
 ·rw[if_neg h,if_neg h]
def QDN(W:Wf f es)(hi:i<es.length):
 txR f es i=((if QaA es (es.getD i E0).tx i=0 then decide ((es.getD i E0).ptx<f) else decide ((es.getD i E0).ptx=QaA es (es.getD i E0).tx i)&&!exE es i (Qo6 (es.getD i E0).tx)) &&
  (if (es.getD i E0).kind=2 then true else QfH (es.getD i E0) (if QaA es (es.getD i E0).tx i=0 then decide (0<(es.getD i E0).ptx) else exE es i (Qn1 f (es.getD i E0).tx)) (Qks es (es.getD i E0).tx i) (Qc5 es i (es.getD i E0).tx))):=by
 have hp:=QxW W (J6 hi) (es.getD i E0).tx
 have hl:=QfK W (es.getD i E0).tx i (by omega)
 have hb:=(W.ok i hi).ptx
 unfold txR QFJ QfH
 rw[hp]
 have f1:=W.f1
 generalize Qc5 es i (es.getD i E0).tx=P at *
 rcases hl with⟨h1,hn⟩ | ⟨h1,_⟩
 ·obtain ⟨_,h2⟩:=QjV hn
  obtain⟨h3,h4,_⟩:=Qub (f:=f) hn
  rw[h1,h2,h3,h4]
  generalize es.getD i E0=e at *
  by_cases hk2:e.kind=2
  ·by_cases hf:e.ptx<f<;>by_cases h0:e.ptx=0<;>simp[hk2,hf,h0]<;>omega
  ·by_cases hf:e.ptx<f<;>by_cases h0:e.ptx=0<;>by_cases hk5:e.kind=5<;>simp[hk2,hf,h0,hk5]<;>omega
 ·have h0:QaA es (es.getD i E0).tx i ≠ 0:=by omega
  generalize QaA es (es.getD i E0).tx i=la at *
  generalize exE es i (Qo6 (es.getD i E0).tx)=en at *
  generalize exE es i (Qn1 f (es.getD i E0).tx)=ea at *
  generalize Qks es (es.getD i E0).tx i=ab at *
  generalize es.getD i E0=e at *
  by_cases hk2:e.kind=2
  ·by_cases hp:e.ptx=la<;>cases en<;>simp[hk2,h0,hp]
  ·by_cases hp:e.ptx=la<;>by_cases hk5:e.kind=5<;>cases en<;>cases ab<;>cases ea<;>simp[hk2,h0,hp,hk5]
def QyO(x y:Ch):eqC x y=eqC y x:=by
 unfold eqC
 rw[Jy]
 simp only[Jb,beq_iff_eq]
 constructor<;>(rintro⟨h1,h2,h3,h4,h5,h6⟩; exact⟨h1.symm,h2.symm,h3.symm,h4.symm,h5.symm,h6.symm⟩)
def Qem(W:Wf f es)(hi:i<=es.length)(h:y∈Qc5 es i x):∃ k,k<i/\es.getD k E0=y/\y.lsn=f+k:=by
 obtain⟨⟨k,hk,rfl⟩,_⟩:=mem_penL.1 h
 exact⟨k,hk,rfl,(W.ok k (by omega)).lsn⟩
def QxV(W:Wf f es)(hi:i<=es.length)(h:y∈Qc5 es i x)(h':y'∈Qc5 es i x')(e:y.lsn=y'.lsn):y=y':=by
 obtain⟨k,_,rfl,h1⟩:=Qem W hi h
 obtain⟨k',_,rfl,h2⟩:=Qem W hi h'
 obtain rfl:k=k':=by omega
 rfl
def Qj6{P:List E}{e:E}(hs:P.Pairwise fun a b=>a.lsn<b.lsn)(ha:P.any (Q9 e)=true) :
 P.getD (P.findIdx (Q9 e)) E0∈P/\Q9 e (P.getD (P.findIdx (Q9 e)) E0)=true/\P.filter (Q9 e)=P.getD (P.findIdx (Q9 e)) E0::P.drop (P.findIdx (Q9 e)+1)/\∀ y∈P.drop (P.findIdx (Q9 e)+1),(P.getD (P.findIdx (Q9 e)) E0).lsn<y.lsn:=by
 have hj:P.findIdx (Q9 e)<P.length:=Jd (by simpa using ha)
 have hd:=Qke e P hs
 have hc:P.drop (P.findIdx (Q9 e))=P.getD (P.findIdx (Q9 e)) E0::P.drop (P.findIdx (Q9 e)+1):=by
  rw[Qf P _ hj,List.drop_eq_getElem_cons hj]
 rw[hc] at hd
 have hm:P.getD (P.findIdx (Q9 e)) E0∈P.filter (Q9 e):=by rw[<- hd]; exact List.mem_cons_self
 have hsf:=hs.filter (Q9 e)
 rw[<- hd,JM] at hsf
 exact⟨(Jx.1 hm).1,(Jx.1 hm).2,hd.symm,hsf.1⟩
def QAK (W:Wf f es) (hi:i < es.length) (I:Inv f es i A) (e:E) (he:es.getD i E0 = e) (hk:e.kind = 2):QpJ f A.U (Qc5 es i e.tx) e = QpH f es i:=by
 have hok:=W.ok i hi
 have hil:=J6 hi
 have hs:=Qen W hil e.tx
 rw[he] at hok
 have hsl:=QtW W hil e.tx e.c.pg e.c.sl e.ref (hok.sl hk)
 have hun:decide (e.ref∈A.U)=Qjz es i e.ref:=by
  rw[Jy,decide_eq_true_eq]
  exact I.un _
 unfold QpJ QpH
 rw[he,hun]
 by_cases hf:e.ref<f
 ·rw [if_pos hf]
  have hall:∀ y∈Qc5 es i e.tx,Q9 e y=true:=fun y hy=>by
   obtain⟨k,_,_,h⟩:=Qem W hil hy
   unfold Q9
   exact decide_eq_true (by omega)
  have hpen:Qrk es i e.tx e.c.pg e.c.sl e.ref=(Qc5 es i e.tx).any (Qdj e):=by
   rw[Jy,hsl,JU]
   constructor
   ·rintro ⟨y,hy,_,h1,h2⟩
    exact⟨y,hy,by unfold Qdj; rw[decide_eq_true h1,decide_eq_true h2]; rfl⟩
   ·rintro ⟨y,hy,h⟩
    unfold Qdj at h
    simp only[Jb,decide_eq_true_eq] at h
    obtain⟨k,_,_,hl⟩:=Qem W hil hy
    exact⟨y,hy,by omega,h.1,h.2⟩
  rw[hpen,JZ]
  congr 1
  have hfe:¬ f<=e.ref:=by omega
  rw[if_neg hfe,Qke e _ hs,Jo.2 hall]
  split
  ·rfl
  ·rename_i hno
   cases hP:Qc5 es i e.tx with
   | nil=>simp[hf]
   | cons a r =>
     exfalso
     rw[hP] at hno hall
     exact hno (by rw[List.any_cons,hall a (by simp)]; rfl)
 ·rw [if_neg hf]
  have hfe:f<=e.ref:=by omega
  have href:=hok.ref
  have hlsn:=hok.lsn
  have hk0:(e.ref-f).toNat<i:=by omega
  have hx:=(W.ok (e.ref-f).toNat (by omega)).lsn
  obtain⟨x,hxe⟩:∃ x,es.getD (e.ref-f).toNat E0=x:=⟨_,rfl⟩
  rw[hxe] at hx |-
  have hx:x.lsn=e.ref:=by omega
  by_cases hm:x∈Qc5 es i e.tx
  ·obtain ⟨_,h1,h2,h3⟩:=mem_penL.1 hm
   have ha:(Qc5 es i e.tx).any (Q9 e)=true:=JU.2 ⟨x,hm,by unfold Q9; exact decide_eq_true (by omega)⟩
   obtain⟨a1,a2,a3,a4⟩:=Qj6 hs ha
   rw[if_pos ha,if_pos hfe]
   generalize (Qc5 es i e.tx).findIdx (Q9 e)=j at *
   have hy:(Qc5 es i e.tx).getD j E0=x:=by
    have hxf:x∈(Qc5 es i e.tx).filter (Q9 e):=Jx.2 ⟨hm,by unfold Q9; exact decide_eq_true (by omega)⟩
    rw[a3] at hxf
    rcases Je.1 hxf with h | h
    ·exact h.symm
    ·have:=a4 x h
     unfold Q9 at a2
     have:=of_decide_eq_true a2
     omega
   rw[hy] at a2 a3 a4 |-
   have hpen:Qrk es i e.tx e.c.pg e.c.sl e.ref=((Qc5 es i e.tx).drop (j+1)).any (Qdj e):=by
    rw[Jy,hsl,JU]
    constructor
    ·rintro ⟨y,hy,hl,h1,h2⟩
     have hyf:y∈(Qc5 es i e.tx).filter (Q9 e):=Jx.2 ⟨hy,by unfold Q9; exact decide_eq_true (by omega)⟩
     rw[a3] at hyf
     rcases Je.1 hyf with h | h
     ·rw[h] at hl; omega
     ·exact⟨y,h,by unfold Qdj; rw[decide_eq_true h1,decide_eq_true h2]; rfl⟩
    ·rintro ⟨y,hy,h⟩
     unfold Qdj at h
     simp only[Jb,decide_eq_true_eq] at h
     have hl:=a4 y hy
     exact⟨y,List.mem_of_mem_drop hy,by omega,h.1,h.2⟩
   rw[hpen,decide_eq_true h1,decide_eq_true h2,decide_eq_true hx,QyO]
   cases eqC e.c x.c.inv<;>cases Qjz es i e.ref<;>simp
  ·have hL:(decide (x.kind = 1) && (decide (x.tx = e.tx) && (eqC e.c x.c.inv && (!Qjz es i e.ref && !Qrk es i e.tx e.c.pg e.c.sl e.ref)))) = false:=by
    rw[Jz]
    intro h
    simp only[Jb,decide_eq_true_eq,Jk] at h
    exact hm (mem_penL.2 ⟨⟨_,hk0,hxe⟩,h.1,h.2.1,by rw[hx]; exact h.2.2.2.1⟩)
   rw[hL,if_pos hfe]
   split
   ·rename_i ha
    obtain⟨a1,a2,a3,a4⟩:=Qj6 hs ha
    have hne:((Qc5 es i e.tx).getD ((Qc5 es i e.tx).findIdx (Q9 e)) E0).lsn≠e.ref:=fun h=>by
     obtain⟨k,hk,hke,hkl⟩:=Qem W hil a1
     have:k=(e.ref-f).toNat:=by omega
     rw[this,hxe] at hke
     exact hm (hke▸a1)
    rw[decide_eq_false hne]
    simp
   ·rw [decide_eq_false hf]
    simp
def QGz(W:Wf f es)(hi:i<es.length)(I:Inv f es i A):ckB f A (es.getD i E0)=QDn f es i:=by
 have hok:=W.ok i hi
 unfold QDn
 rcases hok.tx with⟨ht,hk⟩ | ⟨ht,hk⟩
 ·rw [(QzY W I _ ht).1,QDN W hi,QxY I,decide_eq_true (show 0 < (es.getD i E0).tx by omega)]
  unfold Qia
  by_cases hk2:(es.getD i E0).kind=2
  ·rw [if_pos hk2,if_pos hk2,QAK W hi I _ rfl hk2,decide_eq_true hk2]
   simp
  ·rw [if_neg hk2,if_neg hk2,decide_eq_false hk2]
   generalize QfH _ _ _ _=b
   generalize pagedB _ _ _=c
   generalize (if QaA es (es.getD i E0).tx i=0 then _ else _:Bool)=a
   cases a<;>cases b<;>cases c<;>cases Qfl (es.getD i E0)<;>rfl
 ·have h1:Qfl (es.getD i E0) = false:=by
   unfold Qfl
   rw[JE]
   exact⟨beq_eq_false_iff_ne.2 hk.1,beq_eq_false_iff_ne.2 hk.2.1⟩
  rw[h1,decide_eq_false hk.2.1,decide_eq_false (show ¬ 0<(es.getD i E0).tx by omega),ckB,if_pos ht]
  rfl
def QlB(W:Wf f es)(hi:i<es.length)(x:Int):Qc5 es (i+1) x=(Qc5 es i x).filter (fun y=>!undp y.lsn (es.getD i E0))++(if (es.getD i E0).kind=1/\(es.getD i E0).tx=x then [es.getD i E0] else []):=by
 unfold Qc5
 rw[Qn2,List.filter_append,List.filter_filter]
 congr 1
 ·refine J4 fun y _=>?_
  rw[QeD]
  cases decide (y.kind=1)<;>cases decide (y.tx=x)<;>cases Qjz es i y.lsn<;>cases undp y.lsn (es.getD i E0)<;>rfl
 ·have hf:=QwL W hi
  have hl:=(W.ok i hi).lsn
  rw[<- hl] at hf
  rw[JT,List.filter_nil,QeD,hf]
  generalize es.getD i E0=e at *
  by_cases h1:e.kind=1
  ·by_cases h2:e.tx = x
   ·simp[h1,h2,undp]
   ·simp[h1,h2]
  ·simp[h1]
def QlC(W:Wf f es)(hi:i<es.length)(x:Int)(h1:¬ ((es.getD i E0).kind=1/\(es.getD i E0).tx=x))(h2:(es.getD i E0).kind=2->∀ y∈Qc5 es i x,y.lsn≠(es.getD i E0).ref):Qc5 es (i+1) x=Qc5 es i x:=by
 rw[QlB W hi,if_neg h1,Jn]
 refine Jo.2 fun y hy=>?_
 unfold undp
 by_cases hk:(es.getD i E0).kind=2
 ·rw [decide_eq_false (show ¬ (es.getD i E0).ref = y.lsn from fun h=>h2 hk y hy h.symm),JN]
  rfl
 ·rw [decide_eq_false hk]
  rfl
def Qoc(h:QpJ f U P e=true)(hf:f<=e.ref):P.any (Q9 e)=true/\(P.getD (P.findIdx (Q9 e)) E0).lsn=e.ref:=by
 unfold QpJ at h
 rw[if_pos hf] at h
 by_cases ha:P.any (Q9 e)=true
 ·rw [if_pos ha] at h
  simp only[Jb,decide_eq_true_eq] at h
  exact⟨ha,h.2.1⟩
 ·rw [if_neg ha,decide_eq_false (show ¬ e.ref < f by omega),JN] at h
  cases h
def QGg{es:List E}(h:(es.getD i E0).kind≠1/\(es.getD i E0).kind≠2):Qfl (es.getD i E0)=false:=by
 unfold Qfl
 rw[JE]
 exact⟨beq_eq_false_iff_ne.2 h.1,beq_eq_false_iff_ne.2 h.2⟩
def QgG(W:Wf f es)(hi:i<es.length)(I:Inv f es i A)(h:ckB f A (es.getD i E0)=true):Inv f es (i+1) (ckS f A (es.getD i E0)):=by
 have hok:=W.ok i hi
 have hil:=J6 hi
 have other:∀ x,(es.getD i E0).tx≠x->QaA es x (i+1)=QaA es x i/\Qks es x (i+1)=Qks es x i/\exE es (i+1) (Qo6 x)=exE es i (Qo6 x)/\exE es (i+1) (Qn1 f x)=exE es i (Qn1 f x):=fun x hx=>by
  refine⟨by rw[QaA,if_neg hx],by rw[Qks,if_neg hx],?_,?_⟩
  ·rw[Qfc]; unfold Qo6; rw[decide_eq_false hx,JO,JG]
  ·rw[Qfc]; unfold Qn1; rw[decide_eq_false hx,JO,JG]
 rcases hok.tx with⟨ht,hk⟩ | ⟨ht,hk⟩
 ·obtain ⟨eB,eS⟩:=QzY W I _ ht
  rw[eB] at h
  rw[eS]
  have hlast:=QfK W (es.getD i E0).tx i hil
  have hund:(es.getD i E0).kind=2->QpJ f A.U (Qc5 es i (es.getD i E0).tx) (es.getD i E0)=true:=fun hk2=>by
   unfold Qia at h
   rw[if_pos hk2] at h
   simp only[Jb] at h
   exact h.2.2
  have hptx:if QaA es (es.getD i E0).tx i=0 then (es.getD i E0).ptx<f else (es.getD i E0).ptx=QaA es (es.getD i E0).tx i:=by
   have:=h
   simp only[Jb] at this
   have:=this.1
   split at this
   ·rename_i h0; rw[if_pos h0]; exact of_decide_eq_true this
   ·rename_i h0; rw[if_neg h0]; simp only[Jb,decide_eq_true_eq] at this; exact this.1
  refine⟨fun p=>?_,fun n=>?_,fun x hx hn k hk'=>?_,fun x t hx hsome=>?_⟩
  ·dsimp only
   rw[Qcf]
   by_cases hc:Qfl (es.getD i E0)=true
   ·rw [if_pos hc,Qyz,I.pg]
    by_cases hp:(es.getD i E0).c.pg=p
    ·rw[if_pos hp,if_pos (show Qfl (es.getD i E0)=true/\(es.getD i E0).c.pg=p from ⟨hc,hp⟩),if_neg (show ¬ (es.getD i E0).lsn=0 by have:=hok.lsn; have:=W.f1; omega)]
    ·rw[if_neg hp,if_neg (show ¬ (Qfl (es.getD i E0)=true/\(es.getD i E0).c.pg=p) from fun h=>hp h.2)]
   ·rw[if_neg hc,if_neg (show ¬ (Qfl (es.getD i E0)=true/\(es.getD i E0).c.pg=p) from fun h=>hc h.1),I.pg]
  ·dsimp only
   rw[QeD]
   unfold QjB undp
   by_cases hk2:(es.getD i E0).kind=2
   ·rw [if_pos hk2,Qx7,I.un,decide_eq_true hk2,JH,Jp,decide_eq_true_eq]
    constructor
    ·rintro (h | h)
     ·exact .inl h
     ·exact .inr h.symm
    ·rintro (h | h)
     ·exact .inl h
     ·exact .inr h.symm
   ·rw[if_neg hk2,I.un,decide_eq_false hk2,JO,JG]
  ·dsimp only at hn
   rw[Qmj] at hn
   dsimp only at hn
   split at hn
   ·cases hn
   ·rename_i hne
    by_cases hki:k=i
    ·rw[hki]; exact hne
    ·exact I.no x hx hn k (by omega)
  ·dsimp only at hsome
   rw[Qmj] at hsome
   dsimp only at hsome
   by_cases hxe:(es.getD i E0).tx=x
   ·rw [if_pos hxe] at hsome
    obtain rfl:=Kg.inj hsome
    subst hxe
    dsimp only
    rw[QaA,if_pos rfl,Qks,if_pos rfl,Qfc,Qfc,QlB W hi]
    refine⟨by have:=hok.lsn; have:=W.f1; omega,rfl,rfl,?_,?_,?_⟩
    ·unfold nen Qo6
     rw[decide_eq_true rfl,JH,Bool.or_assoc]
    ·unfold Qn1
     rw[decide_eq_true rfl,JH]
     rcases hlast with⟨h0,hno⟩ | ⟨h0,_⟩
     ·rw [if_pos h0] at hptx |-
      have:=(Qub (f:=f) hno).2.1
      unfold Qn1 at this
      rw[this,decide_eq_true hptx,Bool.false_or,Kd]
     ·have hne:QaA es (es.getD i E0).tx i ≠ 0:=by have:=W.f1; omega
      rw[if_neg hne] at hptx |-
      rw[decide_eq_false (show ¬ (es.getD i E0).ptx<f by omega),JN,JG]
    ·unfold Qeg
     by_cases hk2:(es.getD i E0).kind=2
     ·rw [if_pos hk2,if_neg (by omega),Jn]
      unfold Qsm
      by_cases hf:f<=(es.getD i E0).ref
      ·obtain ⟨a1,a2⟩:=Qoc (hund hk2) hf
       rw[if_pos hf,Qob _ _ (Qen W hil _) a1 a2]
       refine J4 fun y _=>?_
       unfold undp
       rw[decide_eq_true hk2,JH]
       congr 1
       rw[decide_eq_decide]
       exact eq_comm
      ·rw [if_neg hf]
       refine(Jo.2 fun y hy=>?_).symm
       obtain⟨k,_,_,hl⟩:=Qem W hil hy
       unfold undp
       rw[decide_eq_false (show ¬ (es.getD i E0).ref=y.lsn by omega),JN]
       rfl
     ·rw [if_neg hk2]
      have hid:(Qc5 es i (es.getD i E0).tx).filter (fun y=>!undp y.lsn (es.getD i E0))=Qc5 es i (es.getD i E0).tx:=Jo.2 fun y _=>by
       unfold undp
       rw[decide_eq_false hk2]
       rfl
      rw[hid]
      unfold nP
      by_cases hk1:(es.getD i E0).kind=1
      ·rw[if_pos hk1,if_pos ⟨hk1,rfl⟩]
      ·rw[if_neg hk1,if_neg (fun h=>hk1 h.1),Jn]
   ·rw [if_neg hxe] at hsome
    obtain⟨o1,o2,o3,o4⟩:=other x hxe
    rw[o1,o2,o3,o4,QlC W hi x (fun h=>hxe h.2) ?_]
    ·exact I.so x t hx hsome
    ·intro hk2 y hy hl
     by_cases hf:f<=(es.getD i E0).ref
     ·obtain ⟨a1,a2⟩:=Qoc (hund hk2) hf
      obtain⟨b1,_⟩:=Qj6 (Qen W hil _) a1
      have:=QxV W hil hy b1 (by rw[hl,a2])
      rw[<- this] at b1
      have h1:=(mem_penL.1 hy).2.2.1
      have h2:=(mem_penL.1 b1).2.2.1
      exact hxe (h2.symm.trans h1)
     ·obtain ⟨k,_,_,hl'⟩:=Qem W hil hy
      omega
 ·have hc:=QGg ⟨hk.1,hk.2.1⟩
  rw[ckS,if_pos ht]
  refine⟨fun p=>?_,fun n=>?_,fun x hx hn k hk'=>?_,fun x t hx hsome=>?_⟩
  ·rw[Qcf,if_neg (show ¬ (Qfl (es.getD i E0)=true/\(es.getD i E0).c.pg=p) from fun h=>by rw[hc] at h; cases h.1),I.pg]
  ·rw [QeD,I.un]
   unfold undp
   rw[decide_eq_false hk.2.1,JO,JG]
  ·by_cases hki:k = i
   ·rw[hki]; omega
   ·exact I.no x hx hn k (by omega)
  ·obtain ⟨o1,o2,o3,o4⟩:=other x (by omega)
   rw[o1,o2,o3,o4,QlC W hi x (fun h=>hk.1 h.1) (fun h=>absurd h hk.2.1)]
   exact I.so x t hx hsome
def Qyq(f:Int)(es:List E):Inv f es 0 Ck0:=⟨fun p=>rfl,fun n=>by simp[Ck0,Qjz,exE],fun x hx hn k hk=>by omega,fun x t hx h=>by cases h⟩
def QzX (W:Wf f es):∀ i,i<=es.length->ckL f Ck0 (es.take i) = (JX i).all (QDn f es)/\(ckL f Ck0 (es.take i) = true->Inv f es i (ckA f Ck0 (es.take i)))
 | 0,_=>⟨rfl,fun _=>Qyq f es⟩
 | i + 1,hi=>by
   obtain⟨h1,h2⟩:=QzX W i (by omega)
   rw[Qka hi,Qkh,Qn0,JW,J9,h1]
   cases hb:(JX i).all (QDn f es)
   ·simp
   ·have I:=h2 (h1.trans hb)
    have he:=QGz W hi I
    simp only[ckL,ckA,List.all_cons,List.all_nil,Kd,JH]
    exact⟨he,fun h=>QgG W hi I h⟩
def QzZ(x:Lg):Qy2 x=QxG x:=by
 unfold Qy2 QxG
 by_cases h:lgB x=true
 ·rw [if_pos h,if_pos h]
  have:=(QzX (Wf.of h) x.es.length (Js _)).1
  rw[Jv] at this
  rw[this]
 ·rw[if_neg h,if_neg h]
section
section
variable {x:Lg} (hv:lgB x=true) (hf:x.f=1) (hlog:LogOk x.es) (m:Nat)
include hv hf in
theorem QfJ (a:Int):∀ i,m + i<=x.es.length->Qd3 (x.es.take (m + i)) a = (if QaA (x.es.drop m) a i = 0 then Qd3 (x.es.take m) a else QaA (x.es.drop m) a i)/\(QaA (x.es.drop m) a i = 0 ↔ ∀ k,k < i->(x.es.getD (m + k) E0).tx ≠ a)
 | 0,_=>by simp[QaA]
 | i + 1,hi=>by
   obtain⟨h1,h2⟩:=QfJ a i (by omega)
   have hat:=(Qau hv (i:=m+i) (by omega)).1
   rw[<- Ke,Qdg _ (by omega),QbP]
   unfold QaA
   rw[QJ]
   by_cases ht:(x.es.getD (m+i) E0).tx=a
   ·rw [if_pos ht,if_pos ht]
    refine⟨by rw[if_neg (by omega)],⟨fun h=>by omega,fun h=>absurd ht (h i (by omega))⟩⟩
   ·rw [if_neg ht,if_neg ht]
    refine⟨h1,h2.trans ⟨fun h k hk=>?_,fun h k hk=>h k (by omega)⟩⟩
    by_cases hki:k=i
    ·subst hki; exact ht
    ·exact h k (by omega)
include hv hf in
theorem Qhw (p:Int):∀ i,m + i<=x.es.length->QbI (x.es.take (m + i)) p = (if Qcf (x.es.drop m) p i = 0 then QbI (x.es.take m) p else Qcf (x.es.drop m) p i)
 | 0,_=>by simp[Qcf]
 | i + 1,hi=>by
   have h1:=Qhw p i (by omega)
   have hat:=(Qau hv (i:=m+i) (by omega)).1
   rw[<- Ke,Qdg _ (by omega),QaX]
   have hc:Qfl (x.es.getD (m+i) E0)=true ↔ (x.es.getD (m+i) E0).kind=1\/(x.es.getD (m+i) E0).kind=2:=by
    unfold Qfl; simp only[Jp,beq_iff_eq]
   by_cases ht:((x.es.getD (m+i) E0).kind=1\/(x.es.getD (m+i) E0).kind=2)/\(x.es.getD (m+i) E0).c.pg=p
   ·have e:Qcf (x.es.drop m) p (i + 1) = (x.es.getD (m + i) E0).lsn:=by
     show(if _ then _ else _)=_
     rw[QJ,if_pos ⟨hc.2 ht.1,ht.2⟩]
    rw[if_pos ht,e,if_neg (by omega)]
   ·have e:Qcf (x.es.drop m) p (i + 1) = Qcf (x.es.drop m) p i:=by
     show(if _ then _ else _)=_
     rw[QJ,if_neg fun h=>ht ⟨hc.1 h.1,h.2⟩]
    rw[if_neg ht,e]; exact h1
include hv hf in
theorem Qup (a:Int):0<=Qd3 (x.es.take m) a/\Qd3 (x.es.take m) a<=m:=by
 have:∀ j,j<=x.es.length->0<=Qd3 (x.es.take j) a/\Qd3 (x.es.take j) a<=j:=fun j=>by
  induction j with
  | zero=>intro _; rw[Kc]; exact⟨JY _,JY _⟩
  | succ j ih =>
    intro hj
    have:=ih (by omega)
    have hat:=(Qau hv (i:=j) (by omega)).1
    rw[Qdg _ (by omega),QbP]
    split<;>omega
 rcases Kf m x.es.length with h | h
 ·exact this m h
 ·have:=this x.es.length (Js _)
  rw[Jh (Js _)] at this
  rw[Jh h]
  omega
include hv hf in
theorem Quq (p:Int):0<=QbI (x.es.take m) p/\QbI (x.es.take m) p<=m:=by
 have:∀ j,j<=x.es.length->0<=QbI (x.es.take j) p/\QbI (x.es.take j) p<=j:=fun j=>by
  induction j with
  | zero=>intro _; rw[Kc]; exact⟨JY _,JY _⟩
  | succ j ih =>
    intro hj
    have:=ih (by omega)
    have hat:=(Qau hv (i:=j) (by omega)).1
    rw[Qdg _ (by omega),QaX]
    split<;>omega
 rcases Kf m x.es.length with h | h
 ·exact this m h
 ·have:=this x.es.length (Js _)
  rw[Jh (Js _)] at this
  rw[Jh h]
  omega
theorem QhW (es:List E) (a:Int):∀ i,Qks es a i = true ↔ ∃ k,k < i/\(es.getD k E0).tx = a/\(es.getD k E0).kind = 4
 | 0=>by simp[Qks]
 | i + 1=>by
   have ih:=QhW es a i
   unfold Qks
   constructor
   ·intro h
    split at h
    ·rename_i ht
     rw[Jp,decide_eq_true_eq] at h
     rcases h with h | h
     ·obtain⟨k,k1,k2⟩:=ih.1 h; exact⟨k,by omega,k2⟩
     ·exact⟨i,by omega,ht,h⟩
    ·obtain⟨k,k1,k2⟩:=ih.1 h; exact⟨k,by omega,k2⟩
   ·rintro ⟨k,k1,k2,k3⟩
    by_cases hki:k=i
    ·subst hki; rw[if_pos k2]; simp only[k3,decide_true,Bool.or_true]
    ·have:=ih.2 ⟨k,by omega,k2,k3⟩
     split
     ·rw[this]; rfl
     ·exact this
include hv hf hlog in
theorem QlA{i k:Nat}(hi:m+i<=x.es.length)(hk:k<i)(h1:(x.es.getD (m+k) E0).kind=1)(hu:Qjz (x.es.drop m) i (x.es.getD (m+k) E0).lsn=false):(x.es.getD (m+k) E0).lsn∈Qck (x.es.take (m+i)) (x.es.getD (m+k) E0).tx:=by
 refine(QjM hv hf hlog _ _ (m+i) hi).2 ⟨⟨m+k,by omega,rfl,h1,rfl⟩,fun q hq h2 hr=>?_⟩
 obtain⟨_,y,y1,y2,_⟩:=(hlog q (by omega)).un h2
 obtain⟨k',k1,_,rfl⟩:=QdV y1
 have e1:=(Qau hv (i:=k') (by omega)).1
 have e2:=(Qau hv (i:=m+k) (by omega)).1
 have hqm:m+k<q:=by omega
 have:=exE_iff'.1 hu (q-m) (by omega)
 rw[QJ,show m+(q-m)=q by omega] at this
 unfold undp at this
 rw[decide_eq_true h2,decide_eq_true hr] at this
 cases this
include hv hf hlog in
theorem QDM {i:Nat} (hi:m + i < x.es.length) (ht:0 < (x.es.getD (m + i) E0).tx):txR (m + 1) (x.es.drop m) i = true:=by
 have he:=hlog (m+i) hi
 obtain⟨l1,l2⟩:=QfJ hv hf m (x.es.getD (m+i) E0).tx i (by omega)
 have hrng:=Qup hv hf m (x.es.getD (m+i) E0).tx
 have hptx:=he.ptx ht
 unfold txR QFJ
 rw[QJ]
 have a1:exE (x.es.drop m) i (Qo6 (x.es.getD (m+i) E0).tx)=false:=by
  rw[exE_iff']
  intro k hk
  rw[QJ]
  unfold Qo6
  by_cases hq:(x.es.getD (m+k) E0).tx=(x.es.getD (m+i) E0).tx/\((x.es.getD (m+k) E0).kind=3\/(x.es.getD (m+k) E0).kind=5)
  ·exact absurd (Qvh (by omega) (by omega) hq.1 hq.2) (he.ne ht)
  ·simp only [Jq,JE,decide_eq_false_iff_not]
   by_cases hq2:(x.es.getD (m+k) E0).tx=(x.es.getD (m+i) E0).tx
   ·exact .inr ⟨fun h=>hq ⟨hq2,.inl h⟩,fun h=>hq ⟨hq2,.inr h⟩⟩
   ·exact .inl hq2
 rw[a1,if_neg (by decide)]
 rw[if_neg]
 rotate_left
 ·rintro ⟨q1,q2⟩
  by_cases h0:QaA (x.es.drop m) (x.es.getD (m+i) E0).tx i=0
  ·have hp:=hptx.trans (l1.trans (if_pos h0))
   simp only[Jq,decide_eq_false_iff_not] at q2
   omega
  ·exact q1 (hptx.trans (l1.trans (if_neg h0)))
 rw[if_neg]
 rotate_left
 ·rintro ⟨q1,q2,q3⟩
  obtain⟨k,k1,k2,k3⟩:=(QhW _ _ _).1 q1
  rw[QJ] at k2 k3
  have:=he.ab ht ⟨_,Qgu (k:=m+i) (show m+k<m+i by omega) (by omega),k2,k3⟩
  omega
 by_cases h5:(x.es.getD (m+i) E0).kind=5
 rotate_left
 ·rw[if_pos h5]
 rw[if_neg (by omega)]
 obtain⟨b1,b2⟩:=he.en h5
 rw[Jb]
 constructor
 ·obtain ⟨y,y1,y2,y3⟩:=b1
  obtain⟨q,q1,q2,rfl⟩:=QdV y1
  by_cases hqm:m<=q
  ·have:Qks (x.es.drop m) (x.es.getD (m + i) E0).tx i = true:=(QhW _ _ _).2 ⟨q - m,by omega,by rw [QJ,show m + (q - m) = q by omega]; exact y2,by rw [QJ,show m + (q - m) = q by omega]; exact y3⟩
   rw[this]; rfl
  ·have hpos:1<=Qd3 (x.es.take m) (x.es.getD (m + i) E0).tx:=Qhv _ (fun z hz=>by
    obtain⟨w,_,w2,rfl⟩:=QdV hz
    have:=(Qau hv w2).1
    omega) ⟨_,Qgu (show q<m by omega) (by omega),y2⟩
   by_cases h0:QaA (x.es.drop m) (x.es.getD (m+i) E0).tx i=0
   ·rw [if_pos h0] at l1
    have:(decide (QaA (x.es.drop m) (x.es.getD (m+i) E0).tx i=0)&&(decide (0<(x.es.getD (m+i) E0).ptx)&&decide ((x.es.getD (m+i) E0).ptx<(m:Int)+1)))=true:=by
     simp only[Jb,decide_eq_true_eq]
     omega
    rw[this]; simp
   ·have hex:∃ k,k < i/\(x.es.getD (m + k) E0).tx = (x.es.getD (m + i) E0).tx:=by
     by_cases hc:∃ k,k<i/\(x.es.getD (m+k) E0).tx=(x.es.getD (m+i) E0).tx
     ·exact hc
     ·exact absurd (l2.2 fun k hk q=>hc ⟨k,hk,q⟩) h0
    obtain ⟨k,⟨k1,k2⟩,k3⟩:∃ k,(k < i/\(x.es.getD (m + k) E0).tx = (x.es.getD (m + i) E0).tx)/\∀ j,j < k->(x.es.getD (m + j) E0).tx ≠ (x.es.getD (m + i) E0).tx:=by
     obtain⟨k,hk⟩:=hex
     induction k using Nat.strongRecOn with
     | ind k ih =>
       by_cases hc:∃ j,j<k/\(x.es.getD (m+j) E0).tx=(x.es.getD (m+i) E0).tx
       ·obtain ⟨j,j1,j2⟩:=hc
        exact ih j j1 ⟨by omega,j2⟩
       ·exact⟨k,hk,fun j hj q=>hc ⟨j,hj,q⟩⟩
    have hek:=(hlog (m+k) (by omega)).ptx (by omega)
    obtain⟨r1,r2⟩:=QfJ hv hf m (x.es.getD (m+i) E0).tx k (by omega)
    rw[if_pos (r2.2 k3)] at r1
    rw[k2] at hek
    have:exE (x.es.drop m) i (Qn1 (m+1) (x.es.getD (m+i) E0).tx)=true:=exE_iff.2 ⟨k,k1,by
     rw[QJ]
     unfold Qn1
     simp only[Jb,decide_eq_true_eq]
     exact⟨k2,by omega,by omega⟩⟩
    rw[this]; simp
 ·have:Qrk (x.es.drop m) i (x.es.getD (m + i) E0).tx 0 (-1) 0 = false:=exE_iff'.2 fun k hk=>by
   rw[QJ]
   unfold QzC QxU
   by_cases hq:(x.es.getD (m+k) E0).kind=1/\(x.es.getD (m+k) E0).tx=(x.es.getD (m+i) E0).tx
   ·by_cases hu:Qjz (x.es.drop m) i (x.es.getD (m + k) E0).lsn = true
    ·rw[hu]; simp
    ·have:=QlA hv hf hlog m (by omega) hk hq.1 (by simpa using hu)
     rw[hq.2,b2] at this
     simp at this
   ·simp only [Jq,decide_eq_false_iff_not]
    by_cases h1:(x.es.getD (m+k) E0).kind=1
    ·exact .inl (.inr (.inl fun h=>hq ⟨h1,h⟩))
    ·exact .inl (.inl h1)
  rw[this]; rfl
include hv hf hlog in
theorem QxX{i:Nat}(hi:m+i<x.es.length)(hc:Qfl (x.es.getD (m+i) E0)=true):Qqe (m+1) (x.es.drop m) i=true:=by
 have he:=hlog (m+i) hi
 have hc':(x.es.getD (m+i) E0).kind=1\/(x.es.getD (m+i) E0).kind=2:=by
  unfold Qfl at hc; simpa only[Jp,beq_iff_eq] using hc
 have l1:=Qhw hv hf m (x.es.getD (m+i) E0).c.pg i (by omega)
 have hrng:=Quq hv hf m (x.es.getD (m+i) E0).c.pg
 have hp:=he.ppg hc'
 unfold Qqe
 rw[QJ]
 split
 ·rename_i h0
  rw[if_pos h0] at l1
  exact decide_eq_true (by omega)
 ·rename_i h0
  rw[if_neg h0] at l1
  exact decide_eq_true (by omega)
include hv hf hlog in
theorem QwK{i:Nat}(hi:m+i<x.es.length)(h2:(x.es.getD (m+i) E0).kind=2):QpH (m+1) (x.es.drop m) i=true:=by
 have he:=hlog (m+i) hi
 obtain⟨u1,y,y1,y2,y3,y4,y5,y6⟩:=he.un h2
 obtain⟨q,q1,q2,rfl⟩:=QdV y1
 have eq1:=(Qau hv q2).1
 have hU:Qjz (x.es.drop m) i (x.es.getD (m+i) E0).ref=false:=exE_iff'.2 fun k hk=>by
  rw[QJ]
  have:=((QjM hv hf hlog _ _ (m+i) (by omega)).1 u1).2 (m+k) (by omega)
  unfold undp
  simp only[Jq,decide_eq_false_iff_not]
  by_cases h:(x.es.getD (m+k) E0).kind=2
  ·exact .inr (this h)
  ·exact .inl h
 have hP:Qrk (x.es.drop m) i (x.es.getD (m+i) E0).tx (x.es.getD (m+i) E0).c.pg (x.es.getD (m+i) E0).c.sl (x.es.getD (m+i) E0).ref=false:=exE_iff'.2 fun k hk=>by
  rw[QJ]
  have hsl:0<=(x.es.getD (m+i) E0).c.sl:=(QoL (Qau hv hi).2 (.inr h2)).1
  by_cases hq:QxU (x.es.getD (m+i) E0).tx (x.es.getD (m+i) E0).c.pg (x.es.getD (m+i) E0).c.sl (x.es.getD (m+i) E0).ref (x.es.getD (m+k) E0)=true
  ·unfold QzC
   by_cases hu:Qjz (x.es.drop m) i (x.es.getD (m+k) E0).lsn=true
   ·rw[hu]; simp
   ·unfold QxU at hq
    simp only[Jb,Jp,decide_eq_true_eq] at hq
    obtain⟨g1,g2,g3,g4⟩:=hq
    have hp:=QlA hv hf hlog m (by omega) hk g1 (by simpa using hu)
    rw[g2] at hp
    exact absurd (g4.resolve_left (by omega)) (y6 _ (Qgu (show m+k<m+i by omega) (by omega)) hp g3)
  ·unfold QzC
   rw[show QxU (x.es.getD (m+i) E0).tx (x.es.getD (m+i) E0).c.pg (x.es.getD (m+i) E0).c.sl (x.es.getD (m+i) E0).ref (x.es.getD (m+k) E0)=false by simpa using hq]
   rfl
 unfold QpH
 rw[QJ]
 split
 ·rw[hU,hP]; rfl
 ·rename_i hge
  have hqm:m<=q:=by omega
  rw[QJ,show m+((x.es.getD (m+i) E0).ref-((m:Int)+1)).toNat=q by omega]
  rw[hU,hP,decide_eq_true y3,decide_eq_true y4,y5]
  simp[eqC,Ch.inv]
include hv hf hlog in
theorem Qtj(d:Int)(hx:lgB ⟨m+1,x.es.drop m,d⟩=true):QxG ⟨m+1,x.es.drop m,d⟩=0:=by
 unfold QxG
 rw[if_pos hx,if_pos]
 rw[JS]
 intro i hi
 rw[JB] at hi
 dsimp only at hi |-
 rw[Ju] at hi
 unfold QDn
 rw[QJ]
 have h1:(decide (0<(x.es.getD (m+i) E0).tx)&&!txR (m+1) (x.es.drop m) i)=false:=by
  by_cases h:0<(x.es.getD (m+i) E0).tx
  ·rw[QDM hv hf hlog m (by omega) h]; simp
  ·rw[decide_eq_false h]; rfl
 have h2:(Qfl (x.es.getD (m+i) E0)&&!Qqe (m+1) (x.es.drop m) i)=false:=by
  by_cases h:Qfl (x.es.getD (m+i) E0)=true
  ·rw[QxX hv hf hlog m (by omega) h]; simp
  ·rw[show Qfl (x.es.getD (m+i) E0)=false by simpa using h]; rfl
 have h3:(decide ((x.es.getD (m+i) E0).kind=2)&&!QpH (m+1) (x.es.drop m) i)=false:=by
  by_cases h:(x.es.getD (m+i) E0).kind=2
  ·rw[QwK hv hf hlog m (by omega) h]; simp
  ·rw[decide_eq_false h]; rfl
 rw[h1,h2,h3]
 rfl
end
end
section
def QjZ(hv:lgB x=true)(hf:x.f=1)(m n:Nat)(hm:m<=x.es.length)(hn:n<=x.es.length)(hmn:m<=n)(d:Int)(hd:(m:Int)<=d)(hd2:d<=n):lgB ⟨m+1,(x.es.take n).drop m,d⟩=true:=by
 have h1:=Qat hv
 simp only[Lg.hd] at h1
 have hl:((x.es.take n).drop m).length=n-m:=by rw[Ju,JD]; omega
 unfold lgB
 rw[Jb,JS]
 refine⟨decide_eq_true ?_,fun i hi=>?_⟩
 ·simp only [Lg.hd]
  rw[hl]
  omega
 ·rw [JB] at hi
  dsimp only at hi
  rw[hl] at hi
  obtain⟨h2,h3⟩:=Qau hv (i:=m+i) (by omega)
  unfold lgC
  dsimp only
  rw[QJ,JJ,List.getElem?_take_of_lt (by omega),<- JJ,Jb]
  exact⟨decide_eq_true (by omega),h3⟩
section
variable {x:Lg} (hv:lgB x=true) (hf:x.f=1) (hlog:LogOk x.es)
include hv hf in
theorem Qnd:QfI x=x.es.length/\QW x x.es.length=(⟨1,x.es,x.es.length⟩,0):=by
 have h1:=Qat hv
 simp only[Lg.hd] at h1
 unfold QfI QW Lg.end_
 rw[if_pos hv,if_neg (by rw[hv]; decide),if_neg (by omega),hf]
 refine⟨by omega,?_⟩
 congr 2
 split<;>omega
include hv hf in
theorem Qnc:lgB ⟨1,x.es,x.es.length⟩=true:=by
 have h:=QjZ hv hf 0 x.es.length (JA _) (Js _) (JA _) x.es.length (by omega) (by omega)
 rw[Jv] at h
 exact h
include hv hf hlog in
theorem QiD(m:Nat)(hm:m<=x.es.length):Qy2 ⟨m+1,x.es.drop m,x.es.length⟩=0:=by
 have h:=QjZ hv hf m x.es.length hm (Js _) hm x.es.length (by omega) (by omega)
 rw[Jv] at h
 rw[QzZ]
 exact Qtj hv hf hlog m _ h
include hv hf hlog in
theorem QsE:Qy2 ⟨1,x.es,x.es.length⟩=0:=QiD hv hf hlog 0 (JA _)
include hv hf in
theorem QsD(m:Nat)(hm:m<=x.es.length):QFQ ⟨1,x.es,x.es.length⟩ (1+m)=(⟨m+1,x.es.drop m,x.es.length⟩,0):=by
 have h1:=Qat hv
 simp only[Lg.hd] at h1
 unfold QFQ Lg.end_
 rw[if_neg (by rw[Qnc hv hf]; decide)]
 dsimp only
 rw[if_neg (by omega),if_neg (by omega),show((1:Int)+m-1).toNat=m by omega,show(1:Int)+m=m+1 by omega]
include hv hf hlog in
theorem Qne(m:Nat)(hm:m<=x.es.length):Qy2 ⟨1,x.es.take m,m⟩=0:=by
 have h:=QjZ hv hf 0 m (JA _) hm (JA _) m (by omega) (by omega)
 have h2:=Qtj h rfl (hlog.take m) 0 m h
 rw[QzZ]
 exact h2
end
end
section
attribute [local go_sem] cb cc Ce.d Ch.d
end
section
attribute [local go_sem] cb cc Lg.c
end
section
section
variable {x:Lg} (hv:lgB x=true) (hf:x.f=1) (hlog:LogOk x.es) {m:Nat} (hid:∀ e∈x.es,e.tx<=m)
include hv hf hlog in
include hv hlog in
include hv hlog hid in
end
end
section
attribute [local go_sem] cb cc
structure DLg(x:Lg):Prop where
 ok:lgB x=true
 len:x.es.length<=4096
 end_:x.f+x.es.length<=4097
def DLg.lsn(h:DLg x)(i:Nat)(hi:i<x.es.length):1<=(x.es.getD i E0).lsn/\(x.es.getD i E0).lsn<=1000000000:=by
 have h1:=Qul h.ok i hi
 have h2:=Qat h.ok
 simp only[Lg.hd] at h2
 have h3:=h.end_
 rw[h1.1]
 omega
end
section
attribute [local go_sem] cb cc Lg.c
end
section
attribute [local go_sem] cb cc Lg.c Qj0 Qrd Qq8 Qok QpM Qqu
def QBY:VCalls prog 19 [] [] (Ret (.agg Lg1.c)):=by
 refine dk Tryz.func19 ?_
 (unfold Tryz.f19; refine rn trivial ?_)
 rfl
def e07:E:=⟨0,1,1,0,0,0,Ch0,[]⟩
def QGP:Lg:=⟨1,[⟨1,1,1,0,0,0,Ch0,[]⟩],0⟩
def QFo:Lg:=⟨1,[⟨1,1,1,0,1,0,Ch0,[]⟩],0⟩
end
section
attribute [local go_sem] Ce.d Ch.d E.d Qj0 Qrd Qq8 Qok QpM Qqu Qfn Qwf Qwe Qwd Jf QaK Qar Lg.c QGS
def QDQ(c:Qkt)(hp:Qa)(g:MapsD)(b kb kc bt bp bu:Nat)(f:Int)(e:E)(L:List (Int×DV))(hkb:kb<hp.length)(hb:Qc hp kb=some e.d)(hk:kc<hp.length)(hc:Qc hp kc=some (ckC f bt bp bu))(hg:(bt,Qbg kI L)∈g)
 (k:Nat) (la:Int) (ea en:Bool) (hkk:k<hp.length) (hkc:Qc hp k=some (rnC la ea false en (.pv (.slc [])))) (hn:Qds L e.tx=some (.ptr k 0))
 (h2:k≠kc) (h3:k≠kb) (hq:e.kind=1) :
 VWpG prog (Qa1 c) (QeQ 3 (Qev Tryz.f26)) (Qct prog [.tmp 4] fun r h' g'=>r=.bool true) ⟨97,b,[(3,.ptr kb 0),(0,.ptr kc 0)],hp⟩ g:=by
 unfold ckC at hc
 unfold rnC at hkc
 unfold E.d at hb
 show VWpG prog (Qa1 c) (.seq _ _) _ _ _
 refine VWpG.seq ?_
 refine VWpG.drawn (k:=6) (f:=6) (Qb c) (by kernel_rfl) (by kernel_rfl) (by kernel_rfl) (by kernel_rfl) rfl ?_; refine QY (by kernel_rfl) ?_
 refine rn (Ja @hk (Ja @hc (Ja @hb @hkb))) ?_
 refine Qbc (zv:=.pointer none) (L:=L) (k:=e.tx) rfl rfl um1 Qj2 (Qai z1) (QaQ rfl) rfl hg (Qaf rfl) ?_
 rw[hn]
 refine rn trivial ?_
 refine VWpG.plain (Qb c) ?_
 have F:=(Ja @hk (Ja @hc (Ja @hb (Ja @hkb (Ja @hkk (Ja @hkc (Ja @h2 (Ja @h3 (Ja @h2.symm (Ja @h3.symm ((eq_true hq))))))))))))
 refine rn F ?_
 repeat' (first
  | with_reducible exact⟨⟩
  | (refine Qd (id:=10) [0,1,2,3,4,5] [⟨[6],[6],7,[0,1,2,3,5],[8,9]⟩,⟨[],[],10,[8],[]⟩] (by kernel_rfl) (by kernel_rfl) ?_; refine rn F ?_))
def Qx6(hp:Qa)(g:MapsD)(kc bt bp bu:Nat)(hbb:bt≠bp)(hk:kc<hp.length)(hc:Qc hp kc=some (ckC 1 bt bp bu))(hgt:(bt,Qbg kI [])∈g)(hgp:(bp,Qbg kI (QmK []))∈g)(e:E)(hq:e.kind=1)(htx:e.tx≠0)(hpt:e.ptx<1)(hpp:e.ppg<1) :
 VCallsG prog 26 [.ptr kc 0,.agg e.d] hp g (fun r h' g'=>r=.bool true):=by
 have hr0:=fun(B:Blk)=>Qmn (hp++[B]) g kc bt bp bu 1 e [] (by simp; omega) ((QA hk).trans hc) hgt rfl
 have hcg:VCalls prog 27 [.agg e.d] [] (Ret (.bool (e.kind==1||e.kind==2))):=Qmt e
 rw[show(e.kind==1||e.kind==2)=true by simp[hq]] at hcg
 rw[decide_eq_true hpt] at hr0
 refine Q3 (fn:=Tryz.f26) Tryz.func26 rfl (by kernel_rfl) (by simp[Tryz.f26]) (fun c=>?_)
 have hc0:=hc
 unfold ckC at hc
 unfold E.d at hr0 hcg
 refine VWpG.first (Qb c) ?_
 (unfold Tryz.f26; refine rn trivial ?_)
 refine VWpG.seq ?_
 refine VWpG.first (Qb c) ?_
 refine rn @htx ?_
 refine VWpG.cond rfl (fun hZ=>?_) (fun hZ=>?_)
 ·cases hZ
 refine VWpG.plain (Qb c) ?_
 refine rn trivial ?_
 refine VWpG.seq ?_
 refine VWpG.seq ?_
 refine VWpG.cut1 (Qb c) 2 [7] ?_
 refine rn trivial ?_
 refine Qce rfl rfl rfl (hr0 _) ?_
 rintro r h1' g1 ⟨rfl,⟨x,hh⟩,hg1⟩
 refine QbF ?_
 have hlen:h1'.length=hp.length+3:=by rw[hh]; simp
 have q1:kc<h1'.length:=by omega
 have q2:Qc h1' kc=some (ckC 1 bt bp bu):=by rw[hh,QA (by simp; omega),QA (by simp; omega),QA hk]; exact hc0
 have q4:Qc h1' hp.length=some e.d:=by rw[hh,QA (by simp),QA (by simp),Qkm]; rfl
 have q5:Qc h1' (hp.length+2)=some (rnC e.lsn (decide (0<e.ptx)) false false (.pv (.slc []))):=by rw[hh,Qkl (by simp)]; simp; rfl
 have hn:Qds (Qgl ([]:List (Int×DV)) e.tx (.ptr (hp.length+2) 0)) e.tx=some (.ptr (hp.length+2) 0):=by rw[Qo1,if_pos rfl]
 have hgt1:(bt,Qbg kI (Qgl [] e.tx (.ptr (hp.length+2) 0)))∈g1:=by
  rw[hg1]
  refine Jr.2 ⟨_,hgt,?_⟩
  simp
 have hgp1:(bp,Qbg kI (QmK []))∈g1:=by
  rw[hg1]
  refine Jr.2 ⟨_,hgp,?_⟩
  simp[Ne.symm hbb]
 clear hh hg1
 have q4':=q4
 have q2':=q2
 unfold E.d at q4'
 unfold ckC at q2'
 have hl3:hp.length<h1'.length:=by omega
 refine rn (Ja @q4' @hl3) ?_
 refine Qaa hcg rfl ?_
 refine rn (Ja @q4' @hl3) ?_
 refine Qce rfl rfl rfl (Qpd h1' _ kc bt bp bu 1 e [] q1 q2 hgp1) ?_
 rintro r h2' g2 ⟨rfl,⟨y,rfl⟩,rfl⟩
 rw[show pagedB 1 [] e=true by simp[pagedB,Qmb,hpp]]
 refine rn trivial ?_
 refine VWpG.cond rfl (fun hZ=>?_) (fun hZ=>?_)
 ·cases hZ
 refine VWpG.plain (Qb c) ?_
 refine rn trivial ?_
 refine VWpG.weakG (QDQ c (h1'++[y]) _ (h1'.length+1) hp.length kc bt bp bu 1 e _ (by simp; omega) ((QA hl3).trans q4) (by simp; omega) ((QA q1).trans q2) (Jr.2 ⟨_,hgt1,by simp[hbb]⟩) (hp.length+2) _ _ _ (by simp; omega) ((QA (by omega)).trans q5) hn (by omega) (by omega) hq) (WeakG.slots rfl rfl ?_)
 intro p hp
 simp only[Je,Ji,or_false] at hp
 rcases hp with rfl | rfl<;>exact .inl rfl
structure C07(hp0:Qa)(g0:MapsD) where
 i:Nat
 hi:i<=1
 hp:Qa
 g:MapsD
 h0:i=0->hp=hp0/\g=g0
def QvK(x:Lg)(hl:x.es.length=1)(hv:lgB x=true)(hf:x.f=1)(e:E)(hg:x.es.getD 0 E0=e)(hq:e.kind=1)(htx:e.tx≠0)(hpt:e.ptx<1)(hpp:e.ppg<1):VCalls prog 11 [.agg x.c] [] (Ret (.int .i64 0)):=by
 refine Qec (fn:=Tryz.f11) Tryz.func11 rfl (by kernel_rfl) (by simp[Tryz.f11]) (fun c=>?_)
 have hjv:=Qe5 x (by omega)
 rw[hv] at hjv
 unfold Lg.c at hjv
 refine VWpG.first (Qb c) ?_
 (unfold Tryz.f11; refine rn trivial ?_)
 refine VWpG.seq ?_
 refine VWpG.first (Qb c) ?_
 refine rn trivial ?_
 refine Qaa hjv rfl ?_
 refine rn trivial ?_
 refine VWpG.cond rfl (fun hZ=>?_) (fun hZ=>?_)
 ·cases hZ
 refine VWpG.plain (Qb c) ?_
 refine rn trivial ?_
 refine VWpG.seq ?_
 refine VWpG.cut1 (Qb c) 2 [0,0] ?_
 refine rn trivial ?_
 refine Qbu rfl (fun c=>by simp) (QcL rfl rfl fun bt h1=>QbF ?_)
 refine rn trivial ?_
 refine Qbu rfl (fun c=>by simp) (QcL rfl rfl fun bp h2=>QbF ?_)
 refine rn trivial ?_
 refine Qbu rfl (fun c=>by simp) (QcL rfl rfl fun bu h3=>?_)
 refine rn trivial ?_
 refine VWpG.seq ?_
 refine VWpG.first (Qb c) ?_
 refine rn trivial ?_
 refine VWpG.block ?_
 have hbb:bt≠bp:=h2 (bt,[]) (by simp)
 generalize hG0:([(bu,[]),(bp,[]),(bt,[])]:MapsD)=g0
 generalize hH0:([⟨28,true,[.int .i64 x.f,.pv (.sl (fz encE x.es)),.int .i64 x.d]⟩,⟨83,true,[.int .i64 x.f,.pv (.lit (.map (some bt))),.pv (.lit (.map (some bp))),.pv (.lit (.map (some bu)))]⟩]:Qa)=hp0
 refine VWpG.loop (fun s:C07 hp0 g0=>⟨28,2,[(19,.int .i64 s.i),(18,.int .i64 (1:Nat)),(17,.pv (.sl (fz encE x.es))),(3,.ptr 1 0)],s.hp⟩) (fun s=>s.g) (fun s=>1-s.i) ⟨0,JA _,hp0,g0,fun _=>⟨rfl,rfl⟩⟩ ?_ ?_
 ·refine WeakG.slots rfl rfl ?_
  intro p hp
  simp only[Je,Ji,or_false] at hp
  rcases hp with rfl | rfl | rfl | rfl<;>first | exact .inl rfl | (rw[<- hl]; exact .inl rfl)
 rintro⟨i,hi,hp,g,h0⟩
 dsimp only
 refine VWpG.first (Qb c) ?_
 refine rn trivial ?_
 refine VWpG.seq ?_
 rcases(show i=0\/i=1 by omega) with rfl | rfl
 ·obtain ⟨rfl,rfl⟩:=h0 rfl
  subst hG0 hH0
  have hgz:=QyB x.es 0 (by omega)
  rw[hg] at hgz
  refine VWpG.cond (t:=true) rfl (fun _=>?_) (fun h=>by cases h)
  refine VWpG.plain (Qb c) ?_
  refine rn trivial ?_
  refine VWpG.seq ?_
  refine VWpG.block ?_
  refine VWpG.first (Qb c) ?_
  refine rn @hgz ?_
  refine VWpG.seq ?_
  refine VWpG.cut1 (Qb c) 2 [] ?_
  refine rn trivial ?_
  refine Qce rfl rfl rfl (Qx6 _ _ 1 bt bp bu hbb (by simp) (by rw[hf]; rfl) (by simp[Qbg]) (by simp[Qbg,QmK]) e hq htx hpt hpp) ?_
  rintro r h' g' rfl
  refine rn trivial ?_
  refine VWpG.cond rfl (fun hZ=>?_) (fun hZ=>?_)
  ·cases hZ
  refine VWpG.plain (Qb c) ?_
  refine rn trivial ?_
  refine VWpG.plain (Qb c) ?_
  refine rn trivial ?_
  refine⟨⟨1,Js _,h',g',fun h=>by cases h⟩,by dsimp only; omega,WeakG.slots rfl rfl ?_⟩
  intro p hp
  simp only[Je,Ji,or_false] at hp
  rcases hp with rfl | rfl | rfl | rfl<;>exact .inl rfl
 ·refine VWpG.cond (t:=false) rfl (fun h=>by cases h) (fun _=>?_)
  refine VWpG.plain (Qb c) ?_
  refine rn trivial ?_
  refine VWpG.plain (Qb c) ?_
  (refine rn trivial ?_; try with_reducible exact⟨⟩)
def QqV(x:Lg)(hl:x.es.length<=100)(hv:lgB x=false):VCalls prog 11 [.agg x.c] [] (Ret (.int .i64 26)):=by
 refine Qec (fn:=Tryz.f11) Tryz.func11 rfl (by kernel_rfl) (by simp[Tryz.f11]) (fun c=>?_)
 have hjv:=Qe5 x (by omega)
 rw[hv] at hjv
 unfold Lg.c at hjv
 refine VWpG.first (Qb c) ?_
 (unfold Tryz.f11; refine rn trivial ?_)
 refine VWpG.seq ?_
 refine VWpG.first (Qb c) ?_
 refine rn trivial ?_
 refine Qaa hjv rfl ?_
 refine rn trivial ?_
 refine VWpG.cond rfl (fun hZ=>?_) (fun hZ=>?_)
 ·refine VWpG.plain (Qb c) ?_
  (refine rn trivial ?_; try with_reducible exact⟨⟩)
 ·cases hZ
def QvU:VCalls prog 5 [] [] (Ret (.bool true)):=by
 refine dd Tryz.func5 ?_
 have c1:=Qzf Lg1 (by decide) e07
 rw[show Qew Lg1 e07=(QGP,1,0) from rfl] at c1
 have c2:=QvK QGP rfl (by decide) rfl ⟨1,1,1,0,0,0,Ch0,[]⟩ rfl rfl (by decide) (by decide) (by decide)
 have c3:=QqV QFo (by decide) (by decide)
 have c4:=QBY
 unfold Lg.c QFf at c1
 unfold Lg.c at c2 c3
 dsimp only[QGP,QFo,Lg.c] at c1 c2 c3
 obtain⟨es,hes⟩:∃ es:List E,es=[⟨1,1,1,0,0,0,Ch0,[]⟩]:=⟨_,rfl⟩
 obtain⟨es2,hes2⟩:∃ es2:List E,es2=[⟨1,1,1,0,1,0,Ch0,[]⟩]:=⟨_,rfl⟩
 rw[<- hes] at c1 c2
 rw[<- hes2] at c3
 have hl:es.length=1:=by rw[hes]; rfl
 have hl2:es2.length=1:=by rw[hes2]; rfl
 have hcl:(cells encE es).length=13:=by rw[hes]; rfl
 have hset:(cells encE es).set 4 (.pv (.lit (.int .i64 1)))=cells encE es2:=by rw[hes,hes2]; rfl
 clear hes hes2
 (unfold Tryz.f5; refine rn trivial ?_)
 have F:=(Ja @hl (Ja @hl2 (Ja @hcl @hset)))
 refine rn F ?_
 repeat' (first
  | with_reducible exact⟨⟩
  | refine vp F (c4) ?_
  | refine vp F (c1) ?_
  | refine vp F (c2) ?_
  | refine vl F (c3) ?_)
end
section
set_option pp.deepTerms true
set_option pp.deepTerms.threshold 100000
set_option pp.maxSteps 1000000
set_option pp.proofs false
attribute [local go_sem] cb cc Lg.c lgD
def QqU(l:List UInt8)(hl:l.length<=9223372036854775807)(a b:Int)(ha:0<=a/\a<=255)(hb:0<=b/\b<=255):VCalls prog 3 [.pv (.sl (fz QfT l)),.int .u8 a,.int .u8 b] [] (Ret (.bool true)):=by
 refine dd Tryz.func3 ?_
 have c0:=QvU
 (unfold Tryz.f3; refine rn trivial ?_)
 refine rn F ?_
 repeat' (first
  | with_reducible exact⟨⟩
  | refine vp F (c0) ?_)
 refine QAD (most:=400) (by omega) (by omega) hl fun c=>?_
 refine rn trivial ?_
 refine Qa2 (k:=0) (c:=c) (Quu c 40 (by omega)) rfl rfl ?_
 rintro _ c1 ⟨k,rfl,hk,hK,-⟩
 have hxl:k.lg.es.length<=4096:=hk.1
 have hv:=hK.lg
 have hf:=hK.f
 have hlog:=hK.log
 clear hK
 generalize hkx:k.lg=x at *
 obtain⟨f1,f2⟩:=Qnd hv hf
 have q1:=QeN x (by omega)
 have q2:=Qgw x (by omega) x.es.length
 rw[f1] at q1
 rw[f2] at q2
 obtain⟨m,hm,hml⟩:∃ m:Nat,a.tmod (x.es.length+1)=m/\m<=x.es.length:=by
  have h1:=Ka (a:=a) (b:=(x.es.length:Int)+1) ha.1
  have h2:=J0 a (b:=(x.es.length:Int)+1) (by omega)
  exact⟨(a.tmod (x.es.length+1)).toNat,by omega,by omega⟩
 obtain⟨n,hn,hnl⟩:∃ m:Nat,b.tmod (x.es.length+1)=m/\m<=x.es.length:=by
  have h1:=Ka (a:=b) (b:=(x.es.length:Int)+1) hb.1
  have h2:=J0 b (b:=(x.es.length:Int)+1) (by omega)
  exact⟨(b.tmod (x.es.length+1)).toNat,by omega,by omega⟩
 have q3:=QGw ⟨1,x.es,x.es.length⟩ (by dsimp only; omega) (1+m)
 rw[QsD hv hf m hml] at q3
 have q4:=Qkj ⟨1,x.es,x.es.length⟩ (by dsimp only; omega)
 rw[QsE hv hf hlog] at q4
 have q5:=Qkj ⟨m+1,x.es.drop m,x.es.length⟩ (by dsimp only; rw[Ju]; omega)
 rw[QiD hv hf hlog m hml] at q5
 have q6:=Qkj ⟨1,x.es.take n,n⟩ (by dsimp only; rw[JD]; omega)
 rw[Qne hv hf hlog n hnl] at q6
 have htl:(x.es.take n).length=n:=by rw[JD]; omega
 have hmn:min n x.es.length=n:=by omega
 have F:=(Ja @hkx (Ja @hm (Ja @hn (Ja @htl @hmn))))
 refine rn F ?_
 repeat' (first
  | with_reducible exact⟨⟩
  | refine vp F (q1) ?_
  | refine vp F (q2) ?_
  | refine vp F (q3) ?_
  | refine vp F (q4) ?_
  | refine vp F (q5) ?_
  | refine vp F (q6) ?_
  | (refine Qd (id:=7) [0,1,2,3,4,5,6] [⟨[11],[],7,[1,2,3,4,5],[8,9,10]⟩,⟨[11],[11],12,[10],[]⟩,⟨[],[],13,[],[]⟩] (by kernel_rfl) (by kernel_rfl) ?_; refine rn F ?_)
  | (refine Qd (id:=9) [0,1,2,3,4,5,6,7,8] [⟨[],[],9,[],[]⟩] (by kernel_rfl) (by kernel_rfl) ?_; refine rn F ?_))
end
end Go.Proofs.YtdnbdbgdfocpgaaGreat
