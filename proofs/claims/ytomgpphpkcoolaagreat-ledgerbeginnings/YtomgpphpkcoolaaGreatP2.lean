/-
  Contracts of functions and plain laws. No condition.
-/
import Derived.Test.YtomgpphpkcoolaaGreatP1
import Derived.Test.YtomgpphpkcoolaaGreatV3
set_option linter.unusedSimpArgs false
set_option linter.unusedVariables false
set_option linter.defProp false
set_option maxRecDepth 100000
set_option maxHeartbeats 8000000
set_option autoImplicit true
set_option relaxedAutoImplicit true
open And renaming intro->Ja
open Bool renaming and_eq_true->Jj,beq_eq_decide_eq->Jy,or_eq_true->JP,and_assoc->JU,not_eq_false'->JX,false_eq_true->JY,true_eq_false->JZ,not_eq_true'->J3,eq_iff_iff->Kb,and_comm->Ke,true_and->Kf
open Int renaming toNat_natCast->Jr
open List renaming length_append->Jb,length_nil->Jc,length_cons->Jd,getElem?_append_left->Je,not_mem_nil->Jg,mem_cons->Jh,getD_eq_getElem?_getD->Ji,append_assoc->Jk,range->Jm,length_take->Jn,mem_append_right->Jo,mem_append->Jp,mem_append_left->Jq,flatMap_append->Js,mem_map->Jw,length_drop->Jx,getElem?_append_right->Jz,mem_cons_of_mem->JA,append_nil->JB,take_succ_eq_append_getElem->JC,mem_range->JD,find?_eq_some_iff_getElem->JE,cons_append->JF,all_eq_true->JG,find?_eq_none->JI,flatMap_cons->JJ,map_cons->JK,mem_flatMap->JM,any_eq_true->JN,take_of_length_le->JO,length_set->JQ,length_filter_le->JR,getElem?_eq_none->JS,set_append_right->JT,getElem?_range->JV,mem_singleton->JW,nodup_append->J0,getElem?_map->J2,getElem_map->J5,getElem_mem->J6,nodup_cons->J8,map_append->Ka,prefix_rfl->Kc,replicate->Kd,length->Ki
open Nat renaming le_trans->Jf,zero_le->Jl,le_refl->Jt,mul_le_mul_right->Ju,not_lt_zero->Jv,lt_of_lt_of_le->JH,add_sub_cancel_left->JL,le_succ_of_le->J1,sub_self->J4,le_add_right->J7,lt_or_ge->Kg,zero_add->Kh
open Option renaming map_some->J9
namespace Go.Proofs.YtomgpphpkcoolaaGreat
open Go.V Go
open Tryz (prog)
section
attribute [local go_sem] Ce.d Ch.d E.d Qhr QmP QmM Qlc Qk9 Qmo QdB QrI QrH QrG E.q Jv Qa3 QaB
def QmU(hp:Qb)(kp:Nat)(P:List E)(p:DV):Prop:=(P=[]/\p=.pv (.slc []))\/(p=.own kp 13 0 P.length/\kp<hp.length/\hp[kp]?=some ⟨52,true,cells encE P⟩)
def RunOk(hp:Qb)(k kp:Nat)(la:Int)(ea ab en:Bool)(P:List E):Prop:=k<hp.length/\∃ p,Qc hp k=some (rnC la ea ab en p)/\QmU hp kp P p
def Qgy(e:E)(ea ab:Bool)(P:List E):Bool:=(!ab||decide (e.kind=5))&&(!decide (e.kind=5)||(ab||ea)&&P.isEmpty)
def nP(e:E)(P:List E):List E:=if e.kind=1 then P++[e] else P
def nab(e:E)(ab:Bool):Bool:=ab||decide (e.kind=4)
def nen(e:E)(en:Bool):Bool:=en||decide (e.kind=3)||decide (e.kind=5)
def Left(hp:Qb)(k kp:Nat)(la:Int)(ea ab en:Bool)(P:List E)(h':Qb):Prop:=FrH hp h' (fun j=>j=k\/j=kp)/\∃ kp',(kp'=kp\/hp.length<=kp')/\RunOk h' k kp' la ea ab en P
def Qpe(hkk:k<hp.length)(hkc:Qc hp k=some (rnC la ea ab en p))(hp0:QmU hp kp P p):Left hp k kp la ea ab en P hp:=⟨FrH.refl _ _,kp,.inl rfl,hkk,p,hkc,hp0⟩
def Qj3(hkk:k<hp.length)(hkc:Qc hp k=some (rnC la ea ab en p))(hp0:QmU hp kp P p)(h1:k≠kp):Left hp k kp la ea ab' en' P (Ql hp k (rnC la ea ab' en' p)):=by
 refine⟨(FrH.refl _ _).set (.inl rfl) _,kp,.inl rfl,by rw[Qv]; exact hkk,p,by rw[Qay,hkc]; rfl,?_⟩
 rcases hp0 with h | ⟨e1,e2,e3⟩
 ·exact .inl h
 ·exact .inr ⟨e1,by rw[Qv]; exact e2,by rw[QbN h1]; exact e3⟩
def QCy(hkk:k<hp.length)(hkc:Qc hp k=some (rnC la ea ab en p))(h1:k≠kp)(hkp:kp<hp.length):
 Left hp k kp la ea ab en (P++[e]) (Ql (List.set hp kp B) k (rnC la ea ab en (.own (hp.length+1) 13 0 (P.length+1)))++[x]++[⟨52,true,cells encE (P++[e])⟩]):=by
 have hl:(Ql (List.set hp kp B) k (rnC la ea ab en (.own (hp.length+1) 13 0 (P.length+1)))).length=hp.length:=by rw[Qv,QyJ]
 refine⟨⟨by simp[hl],fun j hj ha=>?_⟩,hp.length+1,.inr (by omega),by simp[hl]; omega,.own (hp.length+1) 13 0 (P.length+1),?_,.inr ⟨by simp,by simp[hl],?_⟩⟩
 ·rw[Je (by simp[hl]; omega),Je (by omega),QbN (fun h=>ha (.inl h.symm)),QuM (fun h=>ha (.inr h.symm))]
 ·rw[Qs (by simp[hl]; omega),Qs (by omega),Qay,Qpb (Ne.symm h1),hkc]; rfl
 ·rw[Qj9 (by simp[hl])]; simp[hl]
def QE5(c:Qfj)(hp:Qb)(g:MapsD)(b kb kc bt bp bu:Nat)(f:Int)(e:E)(L:List (Int×DV))(hkb:kb<hp.length)(hb:Qc hp kb=some e.d)(hk:kc<hp.length)(hc:Qc hp kc=some (ckC f bt bp bu))(hg:(bt,Qah kI L)∈g)
 (k kp:Nat) (la:Int) (ea ab en:Bool) (P:List E) (hPl:P.length<=10000) (hkk:k<hp.length) (hkc:Qc hp k=some (rnC la ea ab en (.own kp 13 0 P.length))) (hkp:kp<hp.length) (hpb:hp[kp]?=some ⟨52,true,cells encE P⟩) (hn:Qcc L e.tx=some (.ptr k 0))
 (h1:k≠kp) (h2:k≠kc) (h3:k≠kb) (h4:kp≠kc) (h5:kp≠kb) (hk2:e.kind≠2) :
 VWpG prog (MapsIn c) (QfA 3 (Qfg Tryz.f26)) (QcZ prog [.tmp 4] fun r h' g'=>∃ b,r=.bool b/\b=Qgy e ea ab P/\(b=true->g'=g/\Left hp k kp la ea (nab e ab) (nen e en) (nP e P) h')) ⟨97,b,[(3,.ptr kb 0),(0,.ptr kc 0)],hp⟩ g:=by
 have hpc:Qc hp kp=some (cells encE P):=QbG hpb
 have hkc0:=hkc
 have hp0:QmU hp kp P (.own kp 13 0 P.length):=.inr ⟨rfl,hkp,hpb⟩
 have m1:(P.length+1)*128<=140737488355328:=by omega
 unfold ckC at hc
 unfold rnC at hkc
 unfold E.d at hb
 have hkind:e.kind=1\/e.kind=3\/e.kind=4\/e.kind=5\/(e.kind≠1/\e.kind≠3/\e.kind≠4/\e.kind≠5):=by omega
 have fl:e.kind=1->Qgy e ea ab P=!ab/\nP e P=P++[e]/\nab e ab=ab/\nen e en=en:=fun h=>by simp[Qgy,nP,nab,nen,h]
 have fl3:e.kind=3->Qgy e ea ab P=!ab/\nP e P=P/\nab e ab=ab/\nen e en=true:=fun h=>by simp[Qgy,nP,nab,nen,h]
 have fl4:e.kind=4->Qgy e ea ab P=!ab/\nP e P=P/\nab e ab=true/\nen e en=en:=fun h=>by simp[Qgy,nP,nab,nen,h]
 have fl5:e.kind=5->Qgy e ea ab P=((ab||ea)&&P.isEmpty)/\nP e P=P/\nab e ab=ab/\nen e en=true:=fun h=>by simp[Qgy,nP,nab,nen,h]
 have fl0:(e.kind≠1/\e.kind≠3/\e.kind≠4/\e.kind≠5)->Qgy e ea ab P=!ab/\nP e P=P/\nab e ab=ab/\nen e en=en:=fun h=>by simp[Qgy,nP,nab,nen,h]
 have hle:((P.length:Int)==0)=P.isEmpty:=by cases P<;>simp; omega
 show VWpG prog (MapsIn c) (.seq _ _) _ _ _
 refine VWpG.seq ?_
 refine VWpG.drawn (k:=6) (f:=6) (Qa c) (by kernel_rfl) (by kernel_rfl) (by kernel_rfl) (by kernel_rfl) rfl ?_; refine Q9 (by kernel_rfl) ?_
 refine rn (Ja @hk (Ja @hc (Ja @hb @hkb))) ?_
 refine Qa9 (zv:=.pointer none) (L:=L) (k:=e.tx) rfl rfl um1 Qik (Q7 z1) (QaZ rfl) rfl hg (Qab rfl) ?_
 rw[hn]
 refine rn trivial ?_
 refine VWpG.plain (Qa c) ?_
 rcases hkind with hq | hq | hq | hq | ⟨q1,q3,q4,q5⟩
 ·obtain ⟨f1,f2,f3,f4⟩:=fl hq
  rw[f1,f2,f3,f4]
  cases ab
  ·skip
   have F:=(Ja @hk (Ja @hc (Ja @hb (Ja @hkb (Ja @hkk (Ja @hkc (Ja @hkp (Ja @hpb (Ja @hpc (Ja @h1 (Ja @h2 (Ja @h3 (Ja @h4 (Ja @h5 (Ja @hk2 (Ja @m1 (Ja @h1.symm (Ja @h2.symm (Ja @h3.symm (Ja @h4.symm (Ja @h5.symm ((eq_true hq)))))))))))))))))))))))
   refine rn F ?_
   repeat' (first
    | with_reducible exact⟨⟩
    | (refine Qd (id:=10) [0,1,2,3,4,5] [⟨[6],[6],7,[0,1,2,3,5],[8,9]⟩,⟨[],[],10,[8],[]⟩] (by kernel_rfl) (by kernel_rfl) ?_; refine rn F ?_))
   exact⟨_,rfl,rfl,fun h=>QCy hkk hkc0 h1 hkp⟩
  ·skip
   have F:=(Ja @hk (Ja @hc (Ja @hb (Ja @hkb (Ja @hkk (Ja @hkc (Ja @hkp (Ja @hpb (Ja @hpc (Ja @h1 (Ja @h2 (Ja @h3 (Ja @h4 (Ja @h5 (Ja @hk2 (Ja @m1 (Ja @h1.symm (Ja @h2.symm (Ja @h3.symm (Ja @h4.symm (Ja @h5.symm ((eq_true hq)))))))))))))))))))))))
   refine rn F ?_
   exact⟨_,rfl,rfl,fun h=>by cases h⟩
 ·obtain ⟨f1,f2,f3,f4⟩:=fl3 hq
  rw[f1,f2,f3,f4]
  cases ab
  ·skip
   have F:=(Ja @hk (Ja @hc (Ja @hb (Ja @hkb (Ja @hkk (Ja @hkc (Ja @hkp (Ja @hpb (Ja @hpc (Ja @h1 (Ja @h2 (Ja @h3 (Ja @h4 (Ja @h5 (Ja @hk2 (Ja @m1 (Ja @h1.symm (Ja @h2.symm (Ja @h3.symm (Ja @h4.symm (Ja @h5.symm (Ja (eq_true hq) @hq))))))))))))))))))))))
   refine rn F ?_
   exact⟨_,rfl,rfl,fun h=>Qj3 hkk hkc0 hp0 h1⟩
  ·skip
   have F:=(Ja @hk (Ja @hc (Ja @hb (Ja @hkb (Ja @hkk (Ja @hkc (Ja @hkp (Ja @hpb (Ja @hpc (Ja @h1 (Ja @h2 (Ja @h3 (Ja @h4 (Ja @h5 (Ja @hk2 (Ja @m1 (Ja @h1.symm (Ja @h2.symm (Ja @h3.symm (Ja @h4.symm (Ja @h5.symm (Ja (eq_true hq) @hq))))))))))))))))))))))
   refine rn F ?_
   exact⟨_,rfl,rfl,fun h=>by cases h⟩
 ·obtain ⟨f1,f2,f3,f4⟩:=fl4 hq
  rw[f1,f2,f3,f4]
  cases ab
  ·skip
   have F:=(Ja @hk (Ja @hc (Ja @hb (Ja @hkb (Ja @hkk (Ja @hkc (Ja @hkp (Ja @hpb (Ja @hpc (Ja @h1 (Ja @h2 (Ja @h3 (Ja @h4 (Ja @h5 (Ja @hk2 (Ja @m1 (Ja @h1.symm (Ja @h2.symm (Ja @h3.symm (Ja @h4.symm (Ja @h5.symm (Ja (eq_true hq) @hq))))))))))))))))))))))
   refine rn F ?_
   exact⟨_,rfl,rfl,fun h=>Qj3 hkk hkc0 hp0 h1⟩
  ·skip
   have F:=(Ja @hk (Ja @hc (Ja @hb (Ja @hkb (Ja @hkk (Ja @hkc (Ja @hkp (Ja @hpb (Ja @hpc (Ja @h1 (Ja @h2 (Ja @h3 (Ja @h4 (Ja @h5 (Ja @hk2 (Ja @m1 (Ja @h1.symm (Ja @h2.symm (Ja @h3.symm (Ja @h4.symm (Ja @h5.symm (Ja (eq_true hq) @hq))))))))))))))))))))))
   refine rn F ?_
   exact⟨_,rfl,rfl,fun h=>by cases h⟩
 ·obtain ⟨f1,f2,f3,f4⟩:=fl5 hq
  rw[f1,f2,f3,f4]
  cases ab
  ·cases ea
   ·skip
    have F:=(Ja @hk (Ja @hc (Ja @hb (Ja @hkb (Ja @hkk (Ja @hkc (Ja @hkp (Ja @hpb (Ja @hpc (Ja @h1 (Ja @h2 (Ja @h3 (Ja @h4 (Ja @h5 (Ja @hk2 (Ja @m1 (Ja @h1.symm (Ja @h2.symm (Ja @h3.symm (Ja @h4.symm (Ja @h5.symm (Ja @hq @hle))))))))))))))))))))))
    refine rn F ?_
    exact⟨_,rfl,rfl,fun h=>by cases h⟩
   ·skip
    have F:=(Ja @hk (Ja @hc (Ja @hb (Ja @hkb (Ja @hkk (Ja @hkc (Ja @hkp (Ja @hpb (Ja @hpc (Ja @h1 (Ja @h2 (Ja @h3 (Ja @h4 (Ja @h5 (Ja @hk2 (Ja @m1 (Ja @h1.symm (Ja @h2.symm (Ja @h3.symm (Ja @h4.symm (Ja @h5.symm (Ja @hq @hle))))))))))))))))))))))
    refine rn F ?_
    exact⟨_,rfl,rfl,fun h=>Qj3 hkk hkc0 hp0 h1⟩
  ·skip
   have F:=(Ja @hk (Ja @hc (Ja @hb (Ja @hkb (Ja @hkk (Ja @hkc (Ja @hkp (Ja @hpb (Ja @hpc (Ja @h1 (Ja @h2 (Ja @h3 (Ja @h4 (Ja @h5 (Ja @hk2 (Ja @m1 (Ja @h1.symm (Ja @h2.symm (Ja @h3.symm (Ja @h4.symm (Ja @h5.symm (Ja @hq @hle))))))))))))))))))))))
   refine rn F ?_
   exact⟨_,rfl,rfl,fun h=>Qj3 hkk hkc0 hp0 h1⟩
 ·obtain ⟨f1,f2,f3,f4⟩:=fl0 ⟨q1,q3,q4,q5⟩
  rw[f1,f2,f3,f4]
  cases ab
  ·skip
   have F:=(Ja @hk (Ja @hc (Ja @hb (Ja @hkb (Ja @hkk (Ja @hkc (Ja @hkp (Ja @hpb (Ja @hpc (Ja @h1 (Ja @h2 (Ja @h3 (Ja @h4 (Ja @h5 (Ja @hk2 (Ja @m1 (Ja @h1.symm (Ja @h2.symm (Ja @h3.symm (Ja @h4.symm (Ja @h5.symm (Ja @q1 (Ja @q3 (Ja @q4 @q5))))))))))))))))))))))))
   refine rn F ?_
   exact⟨_,rfl,rfl,fun h=>Qpe hkk hkc0 hp0⟩
  ·skip
   have F:=(Ja @hk (Ja @hc (Ja @hb (Ja @hkb (Ja @hkk (Ja @hkc (Ja @hkp (Ja @hpb (Ja @hpc (Ja @h1 (Ja @h2 (Ja @h3 (Ja @h4 (Ja @h5 (Ja @hk2 (Ja @m1 (Ja @h1.symm (Ja @h2.symm (Ja @h3.symm (Ja @h4.symm (Ja @h5.symm (Ja @q1 (Ja @q3 (Ja @q4 @q5))))))))))))))))))))))))
   refine rn F ?_
   exact⟨_,rfl,rfl,fun h=>by cases h⟩
end
section
attribute [local go_sem] Ce.d Ch.d E.d Qhr QmP QmM Qlc Qk9 Qmo QdB QrI QrH QrG E.q Jv Qa3 QaB
def Qgz(hkk:k<hp.length)(hkc:Qc hp k=some (rnC la ea ab en (.pv (.slc [])))):Left hp k kp la ea ab' en' [] (Ql hp k (rnC la ea ab' en' (.pv (.slc [])))):=
 ⟨(FrH.refl _ _).set (.inl rfl) _,kp,.inl rfl,by rw[Qv]; exact hkk,.pv (.slc []),by rw[Qay,hkc]; rfl,.inl ⟨rfl,rfl⟩⟩
def QyP(hkk:k<hp.length)(hkc:Qc hp k=some (rnC la ea ab en p)):
 Left hp k kp la ea ab en [e] (Ql hp k (rnC la ea ab en (.own (hp.length+1) 13 0 1))++[x]++[⟨52,true,cells encE [e]⟩]):=by
 have hl:(Ql hp k (rnC la ea ab en (.own (hp.length+1) 13 0 1))).length=hp.length:=by rw[Qv]
 refine⟨⟨by simp[hl],fun j hj ha=>?_⟩,hp.length+1,.inr (by omega),by simp[hl]; omega,.own (hp.length+1) 13 0 1,?_,.inr ⟨rfl,by simp[hl],?_⟩⟩
 ·rw[Je (by simp[hl]; omega),Je (by omega),QbN (fun h=>ha (.inl h.symm))]
 ·rw[Qs (by simp[hl]; omega),Qs (by omega),Qay,hkc]; rfl
 ·rw[Qj9 (by simp[hl])]; simp[hl]
def QE6(c:Qfj)(hp:Qb)(g:MapsD)(b kb kc bt bp bu:Nat)(f:Int)(e:E)(L:List (Int×DV))(hkb:kb<hp.length)(hb:Qc hp kb=some e.d)(hk:kc<hp.length)(hc:Qc hp kc=some (ckC f bt bp bu))(hg:(bt,Qah kI L)∈g)
 (k kp:Nat) (la:Int) (ea ab en:Bool) (hkk:k<hp.length) (hkc:Qc hp k=some (rnC la ea ab en (.pv (.slc [])))) (hn:Qcc L e.tx=some (.ptr k 0))
 (h2:k≠kc) (h3:k≠kb) (hk2:e.kind≠2) :
 VWpG prog (MapsIn c) (QfA 3 (Qfg Tryz.f26)) (QcZ prog [.tmp 4] fun r h' g'=>∃ b,r=.bool b/\b=Qgy e ea ab []/\(b=true->g'=g/\Left hp k kp la ea (nab e ab) (nen e en) (nP e []) h')) ⟨97,b,[(3,.ptr kb 0),(0,.ptr kc 0)],hp⟩ g:=by
 have hkc0:=hkc
 have hp0:QmU hp kp [] (.pv (.slc [])):=.inl ⟨rfl,rfl⟩
 unfold ckC at hc
 unfold rnC at hkc
 unfold E.d at hb
 have hkind:e.kind=1\/e.kind=3\/e.kind=4\/e.kind=5\/(e.kind≠1/\e.kind≠3/\e.kind≠4/\e.kind≠5):=by omega
 have fl:e.kind=1->Qgy e ea ab []=!ab/\nP e []=[e]/\nab e ab=ab/\nen e en=en:=fun h=>by simp[Qgy,nP,nab,nen,h]
 have fl3:e.kind=3->Qgy e ea ab []=!ab/\nP e []=[]/\nab e ab=ab/\nen e en=true:=fun h=>by simp[Qgy,nP,nab,nen,h]
 have fl4:e.kind=4->Qgy e ea ab []=!ab/\nP e []=[]/\nab e ab=true/\nen e en=en:=fun h=>by simp[Qgy,nP,nab,nen,h]
 have fl5:e.kind=5->Qgy e ea ab []=((ab||ea)&&true)/\nP e []=[]/\nab e ab=ab/\nen e en=true:=fun h=>by simp[Qgy,nP,nab,nen,h]
 have fl0:(e.kind≠1/\e.kind≠3/\e.kind≠4/\e.kind≠5)->Qgy e ea ab []=!ab/\nP e []=[]/\nab e ab=ab/\nen e en=en:=fun h=>by simp[Qgy,nP,nab,nen,h]
 have hle:(((0:Nat):Int)==0)=true:=rfl
 show VWpG prog (MapsIn c) (.seq _ _) _ _ _
 refine VWpG.seq ?_
 refine VWpG.drawn (k:=6) (f:=6) (Qa c) (by kernel_rfl) (by kernel_rfl) (by kernel_rfl) (by kernel_rfl) rfl ?_; refine Q9 (by kernel_rfl) ?_
 refine rn (Ja @hk (Ja @hc (Ja @hb @hkb))) ?_
 refine Qa9 (zv:=.pointer none) (L:=L) (k:=e.tx) rfl rfl um1 Qik (Q7 z1) (QaZ rfl) rfl hg (Qab rfl) ?_
 rw[hn]
 refine rn trivial ?_
 refine VWpG.plain (Qa c) ?_
 rcases hkind with hq | hq | hq | hq | ⟨q1,q3,q4,q5⟩
 ·obtain ⟨f1,f2,f3,f4⟩:=fl hq
  rw[f1,f2,f3,f4]
  cases ab
  ·skip
   have F:=(Ja @hk (Ja @hc (Ja @hb (Ja @hkb (Ja @hkk (Ja @hkc (Ja @h2 (Ja @h3 (Ja @hk2 (Ja @h2.symm (Ja @h3.symm ((eq_true hq)))))))))))))
   refine rn F ?_
   repeat' (first
    | with_reducible exact⟨⟩
    | (refine Qd (id:=10) [0,1,2,3,4,5] [⟨[6],[6],7,[0,1,2,3,5],[8,9]⟩,⟨[],[],10,[8],[]⟩] (by kernel_rfl) (by kernel_rfl) ?_; refine rn F ?_))
   exact⟨_,rfl,rfl,fun h=>QyP hkk hkc0⟩
  ·skip
   have F:=(Ja @hk (Ja @hc (Ja @hb (Ja @hkb (Ja @hkk (Ja @hkc (Ja @h2 (Ja @h3 (Ja @hk2 (Ja @h2.symm (Ja @h3.symm ((eq_true hq)))))))))))))
   refine rn F ?_
   exact⟨_,rfl,rfl,fun h=>by cases h⟩
 ·obtain ⟨f1,f2,f3,f4⟩:=fl3 hq
  rw[f1,f2,f3,f4]
  cases ab
  ·skip
   have F:=(Ja @hk (Ja @hc (Ja @hb (Ja @hkb (Ja @hkk (Ja @hkc (Ja @h2 (Ja @h3 (Ja @hk2 (Ja @h2.symm (Ja @h3.symm (Ja (eq_true hq) @hq))))))))))))
   refine rn F ?_
   exact⟨_,rfl,rfl,fun h=>Qgz hkk hkc0⟩
  ·skip
   have F:=(Ja @hk (Ja @hc (Ja @hb (Ja @hkb (Ja @hkk (Ja @hkc (Ja @h2 (Ja @h3 (Ja @hk2 (Ja @h2.symm (Ja @h3.symm (Ja (eq_true hq) @hq))))))))))))
   refine rn F ?_
   exact⟨_,rfl,rfl,fun h=>by cases h⟩
 ·obtain ⟨f1,f2,f3,f4⟩:=fl4 hq
  rw[f1,f2,f3,f4]
  cases ab
  ·skip
   have F:=(Ja @hk (Ja @hc (Ja @hb (Ja @hkb (Ja @hkk (Ja @hkc (Ja @h2 (Ja @h3 (Ja @hk2 (Ja @h2.symm (Ja @h3.symm (Ja (eq_true hq) @hq))))))))))))
   refine rn F ?_
   exact⟨_,rfl,rfl,fun h=>Qgz hkk hkc0⟩
  ·skip
   have F:=(Ja @hk (Ja @hc (Ja @hb (Ja @hkb (Ja @hkk (Ja @hkc (Ja @h2 (Ja @h3 (Ja @hk2 (Ja @h2.symm (Ja @h3.symm (Ja (eq_true hq) @hq))))))))))))
   refine rn F ?_
   exact⟨_,rfl,rfl,fun h=>by cases h⟩
 ·obtain ⟨f1,f2,f3,f4⟩:=fl5 hq
  rw[f1,f2,f3,f4]
  cases ab
  ·cases ea
   ·skip
    have F:=(Ja @hk (Ja @hc (Ja @hb (Ja @hkb (Ja @hkk (Ja @hkc (Ja @h2 (Ja @h3 (Ja @hk2 (Ja @h2.symm (Ja @h3.symm (Ja @hq @hle))))))))))))
    refine rn F ?_
    exact⟨_,rfl,rfl,fun h=>by cases h⟩
   ·skip
    have F:=(Ja @hk (Ja @hc (Ja @hb (Ja @hkb (Ja @hkk (Ja @hkc (Ja @h2 (Ja @h3 (Ja @hk2 (Ja @h2.symm (Ja @h3.symm (Ja @hq @hle))))))))))))
    refine rn F ?_
    exact⟨_,rfl,rfl,fun h=>Qgz hkk hkc0⟩
  ·skip
   have F:=(Ja @hk (Ja @hc (Ja @hb (Ja @hkb (Ja @hkk (Ja @hkc (Ja @h2 (Ja @h3 (Ja @hk2 (Ja @h2.symm (Ja @h3.symm (Ja @hq @hle))))))))))))
   refine rn F ?_
   exact⟨_,rfl,rfl,fun h=>Qgz hkk hkc0⟩
 ·obtain ⟨f1,f2,f3,f4⟩:=fl0 ⟨q1,q3,q4,q5⟩
  rw[f1,f2,f3,f4]
  cases ab
  ·skip
   have F:=(Ja @hk (Ja @hc (Ja @hb (Ja @hkb (Ja @hkk (Ja @hkc (Ja @h2 (Ja @h3 (Ja @hk2 (Ja @h2.symm (Ja @h3.symm (Ja @q1 (Ja @q3 (Ja @q4 @q5))))))))))))))
   refine rn F ?_
   exact⟨_,rfl,rfl,fun h=>Qpe hkk hkc0 hp0⟩
  ·skip
   have F:=(Ja @hk (Ja @hc (Ja @hb (Ja @hkb (Ja @hkk (Ja @hkc (Ja @h2 (Ja @h3 (Ja @hk2 (Ja @h2.symm (Ja @h3.symm (Ja @q1 (Ja @q3 (Ja @q4 @q5))))))))))))))
   refine rn F ?_
   exact⟨_,rfl,rfl,fun h=>by cases h⟩
end
section
attribute [local go_sem] Ce.d Ch.d E.d Qhr QmP QmM Qlc Qk9 Qmo QdB QrI QrH QrG E.q Jv Qa3 QaB
def QsO (f:Int) (U:List Int) (P:List E) (e:E):Bool:=!decide (e.ref ∈ U) && (if P.any (Qat e) = true then
    (if f<=e.ref then decide ((P.getD (P.findIdx (Qat e)) E0).lsn=e.ref)&&(eqC (P.getD (P.findIdx (Qat e)) E0).c.inv e.c&&!(P.drop (P.findIdx (Qat e)+1)).any (Qg6 e)) else !(P.drop (P.findIdx (Qat e))).any (Qg6 e))
 else decide (e.ref<f))
def QsN(f:Int)(P:List E)(e:E):List E:=if f<=e.ref then Qqc P (P.findIdx (Qat e)) else P
def RunOk.app(h:RunOk hp k kp la ea ab en P):RunOk (hp++r) k kp la ea ab en P:=by
 obtain⟨h1,p,h2,h3⟩:=h
 refine⟨by rw[Jb]; omega,p,by rw[Qs h1]; exact h2,?_⟩
 rcases h3 with h | ⟨e1,e2,e3⟩
 ·exact .inl h
 ·exact .inr ⟨e1,by rw[Jb]; omega,by rw[Je e2]; exact e3⟩
def Left.ofRun(h:RunOk hp k kp la ea ab en P):Left hp k kp la ea ab en P (hp++r):=⟨(FrH.refl _ _).app r,kp,.inl rfl,h.app⟩
def QG5(hkk:k<hp.length)(hkc:Qc hp k=some (rnC la ea ab en p))(hn:P.length=n):
 Left hp k kp la ea ab en P (Ql hp k (rnC la ea ab en (.own (hp.length+3) 13 0 n))++[x,y,z,⟨52,true,cells encE P⟩]):=by
 have hl:(Ql hp k (rnC la ea ab en (.own (hp.length+3) 13 0 n))).length=hp.length:=by rw[Qv]
 refine⟨((FrH.refl _ _).set (.inl rfl) _).app _,hp.length+3,.inr (by omega),by simp[hl]; omega,.own (hp.length+3) 13 0 n,?_,.inr ⟨by rw[hn],by simp[hl],?_⟩⟩
 ·rw[Qs (by omega),Qay,hkc]; rfl
 ·rw[Qj9 (by simp[hl])]; simp[hl]
def QvV(hp:Qb)(g:MapsD)(kc bt bp bu:Nat)(f:Int)(e:E)(U:List Int)(hk:kc<hp.length)(hc:Qc hp kc=some (ckC f bt bp bu))(hg:(bu,Qah kI (QdJ U))∈g)(k kp:Nat)(la:Int)(ea ab en:Bool)(P:List E)(hPl:P.length<=10000)(hr:RunOk hp k kp la ea ab en P)(hne:k≠kp) :
 VCallsG prog 35 [.ptr kc 0,.ptr k 0,.agg e.d] hp g (fun r h' g'=>∃ b,r=.bool b/\b=QsO f U P e/\(b=true->Left hp k kp la ea ab en (QsN f P e) h'/\g'=g.map fun p=>if p.1=bu then (bu,Qah kI (QdJ (QoY U e.ref))) else p)):=by
 have hr0:=hr
 obtain⟨hkk,p,hkc,hp0⟩:=hr
 rcases hp0 with⟨rfl,rfl⟩ | ⟨rfl,hkp,hpb⟩
 ·refine (Qrd hp g kc bt bp bu f e U hk hc hg k la ea ab en hkk hkc).mono ?_
  rintro r h' g' ⟨b,e1,e2,e3⟩
  refine⟨b,e1,?_,fun hb=>?_⟩
  ·rw[e2]; simp[QsO,Ke]
  ·obtain ⟨⟨x,rfl⟩,e4⟩:=e3 hb
   refine⟨?_,e4⟩
   rw[show QsN f [] e=[] by unfold QsN Qqc; simp]
   exact Left.ofRun hr0
 by_cases ha:P.any (Qat e)=true
 ·have hj:P.findIdx (Qat e) < P.length:=List.findIdx_lt_length_of_exists (by simpa using ha)
  by_cases hf:f<=e.ref
  ·have hlen:(Qqc P (P.findIdx (Qat e))).length = P.length - 1:=by simp [Qqc]; omega
   have fin:∀ r (h':Qb) (g':MapsD),(∃ b,r=DV.bool b/\b=(decide ((P.getD (P.findIdx (Qat e)) E0).lsn=e.ref)&&(eqC (P.getD (P.findIdx (Qat e)) E0).c.inv e.c&&(!decide (e.ref∈U)&&!(P.drop (P.findIdx (Qat e)+1)).any (Qg6 e))))/\(b=true->(∃ x y z,h'=Ql hp k (rnC la ea ab en (.own (hp.length+3) 13 0 (P.length-1)))++[x,y,z,⟨52,true,cells encE (Qqc P (P.findIdx (Qat e)))⟩])/\g'=g.map fun p=>if p.1=bu then (bu,Qah kI (QdJ (QoY U e.ref))) else p)) ->
    ∃ b,r=.bool b/\b=QsO f U P e/\(b=true->Left hp k kp la ea ab en (QsN f P e) h'/\g'=g.map fun p=>if p.1=bu then (bu,Qah kI (QdJ (QoY U e.ref))) else p):=by
    rintro r h' g' ⟨b,e1,e2,e3⟩
    refine⟨b,e1,?_,fun hb=>?_⟩
    ·rw [e2,QsO,if_pos ha,if_pos hf]
     generalize decide (e.ref∈U)=q1
     generalize decide ((P.getD (P.findIdx (Qat e)) E0).lsn=e.ref)=q2
     generalize eqC _ _=q3
     generalize List.any _ _=q4
     cases q1<;>cases q2<;>cases q3<;>rfl
    ·obtain ⟨⟨x,y,z,rfl⟩,e4⟩:=e3 hb
     refine⟨?_,e4⟩
     rw[QsN,if_pos hf]
     exact QG5 hkk hkc hlen
   by_cases hj1:P.findIdx (Qat e)+1=P.length
   ·exact(Qq9 hp g kc bt bp bu f e U hk hc hg k kp la ea ab en P hPl hkk hkc hkp hpb hne ha hf hj1).mono fin
   ·exact(Qrb hp g kc bt bp bu f e U hk hc hg k kp la ea ab en P hPl hkk hkc hkp hpb hne ha hf (by omega)).mono fin
  ·refine (Qrc hp g kc bt bp bu f e U hk hc hg k kp la ea ab en P hPl hkk hkc hkp hpb hne ha hf).mono ?_
   rintro r h' g' ⟨b,e1,e2,e3⟩
   refine⟨b,e1,?_,fun hb=>?_⟩
   ·rw[e2,QsO,if_pos ha,if_neg hf]
   ·obtain ⟨⟨x,rfl⟩,e4⟩:=e3 hb
    refine⟨?_,e4⟩
    rw[QsN,if_neg hf]
    exact Left.ofRun hr0
 ·have ha':P.any (Qat e) = false:=by simpa using ha
  refine(Qra hp g kc bt bp bu f e U hk hc hg k kp la ea ab en P hPl hkk hkc hkp hpb hne ha').mono ?_
  rintro r h' g' ⟨b,e1,e2,e3⟩
  refine⟨b,e1,?_,fun hb=>?_⟩
  ·rw[e2,QsO,if_neg ha,Ke]
  ·obtain ⟨⟨x,rfl⟩,e4⟩:=e3 hb
   refine⟨?_,e4⟩
   have hf:¬ f<=e.ref:=by
    rw[e2] at hb
    simp at hb
    omega
   rw[QsN,if_neg hf]
   exact Left.ofRun hr0
def QE4(c:Qfj)(hp:Qb)(g:MapsD)(b kb kc bt bp bu:Nat)(f:Int)(e:E)(L:List (Int×DV))(U:List Int)(hkb:kb<hp.length)(hb:Qc hp kb=some e.d)(hk:kc<hp.length)(hc:Qc hp kc=some (ckC f bt bp bu))(hg:(bt,Qah kI L)∈g)(hgu:(bu,Qah kI (QdJ U))∈g)
 (k kp:Nat) (la:Int) (ea ab en:Bool) (P:List E) (hPl:P.length<=10000) (hr:RunOk hp k kp la ea ab en P) (hn:Qcc L e.tx=some (.ptr k 0)) (h1:k≠kp) (hk2:e.kind=2) :
 VWpG prog (MapsIn c) (QfA 3 (Qfg Tryz.f26)) (QcZ prog [.tmp 4] fun r h' g'=>∃ b,r=.bool b/\b=QsO f U P e/\(b=true->Left hp k kp la ea ab en (QsN f P e) h'/\g'=g.map fun p=>if p.1=bu then (bu,Qah kI (QdJ (QoY U e.ref))) else p)) ⟨97,b,[(3,.ptr kb 0),(0,.ptr kc 0)],hp⟩ g:=by
 have hcu:=QvV hp g kc bt bp bu f e U hk hc hgu k kp la ea ab en P hPl hr h1
 obtain⟨hkk,p,hkc,hp0⟩:=hr
 unfold ckC at hc
 unfold rnC at hkc
 unfold E.d at hb hcu
 show VWpG prog (MapsIn c) (.seq _ _) _ _ _
 refine VWpG.seq ?_
 refine VWpG.drawn (k:=6) (f:=6) (Qa c) (by kernel_rfl) (by kernel_rfl) (by kernel_rfl) (by kernel_rfl) rfl ?_; refine Q9 (by kernel_rfl) ?_
 refine rn (Ja @hk (Ja @hc (Ja @hb @hkb))) ?_
 refine Qa9 (zv:=.pointer none) (L:=L) (k:=e.tx) rfl rfl um1 Qik (Q7 z1) (QaZ rfl) rfl hg (Qab rfl) ?_
 rw[hn]
 refine rn trivial ?_
 refine VWpG.seq ?_
 have d2:(e.kind=2)=True:=eq_true hk2
 have d1:¬ e.kind=1:=by omega
 refine VWpG.first (Qa c) ?_
 cases ab
 ·(refine rn (Ja @hk (Ja @hc (Ja @hb (Ja @hkb (Ja @hkk (Ja @hkc @d2)))))) ?_; try with_reducible exact ⟨⟩)
  refine VWpG.cond rfl (fun hZ=>?_) (fun hZ=>?_)
  ·cases hZ
  refine VWpG.plain (Qa c) ?_
  refine rn trivial ?_
  refine VWpG.seq ?_
  refine VWpG.first (Qa c) ?_
  refine rn (Ja @hb @hkb) ?_
  refine VWpG.block ?_
  refine VWpG.first (Qa c) ?_
  refine rn @d1 ?_
  refine VWpG.cond rfl (fun hZ=>?_) (fun hZ=>?_)
  ·cases hZ
  refine VWpG.first (Qa c) ?_
  refine rn @d2 ?_
  refine VWpG.cond rfl (fun hZ=>?_) (fun hZ=>?_)
  ·refine VWpG.seq ?_
   refine VWpG.cut1 (Qa c) 3 [] ?_
   refine rn (Ja @hk (Ja @hc (Ja @hb (Ja @hkb (Ja @hkk @hkc))))) ?_
   refine QcU rfl rfl rfl hcu ?_
   rintro r h' g' ⟨b',rfl,e2,e3⟩
   refine rn trivial ?_
   refine VWpG.plain (Qa c) ?_
   refine rn trivial ?_
   exact⟨b',rfl,e2,e3⟩
  ·cases hZ
 ·(refine rn (Ja @hk (Ja @hc (Ja @hb (Ja @hkb (Ja @hkk (Ja @hkc @d2)))))) ?_; try with_reducible exact ⟨⟩)
  refine VWpG.cond rfl (fun hZ=>?_) (fun hZ=>?_)
  ·cases hZ
  refine VWpG.plain (Qa c) ?_
  refine rn trivial ?_
  refine VWpG.seq ?_
  refine VWpG.first (Qa c) ?_
  refine rn (Ja @hb @hkb) ?_
  refine VWpG.block ?_
  refine VWpG.first (Qa c) ?_
  refine rn @d1 ?_
  refine VWpG.cond rfl (fun hZ=>?_) (fun hZ=>?_)
  ·cases hZ
  refine VWpG.first (Qa c) ?_
  refine rn @d2 ?_
  refine VWpG.cond rfl (fun hZ=>?_) (fun hZ=>?_)
  ·refine VWpG.seq ?_
   refine VWpG.cut1 (Qa c) 3 [] ?_
   refine rn (Ja @hk (Ja @hc (Ja @hb (Ja @hkb (Ja @hkk @hkc))))) ?_
   refine QcU rfl rfl rfl hcu ?_
   rintro r h' g' ⟨b',rfl,e2,e3⟩
   refine rn trivial ?_
   refine VWpG.plain (Qa c) ?_
   refine rn trivial ?_
   exact⟨b',rfl,e2,e3⟩
  ·cases hZ
end
section
attribute [local go_sem] Ce.d Ch.d E.d Qhr QmP QmM Qlc Qk9 Qmo QdB QrI QrH QrG E.q Jv Qa3 QaB
def QdY(x:E):Bool:=x.kind==1||x.kind==2
def ckG(bt bp bu:Nat)(L:List (Int×DV))(Pg:List (Int×Int))(U:List Int):MapsD:=[(bt,Qah kI L),(bp,Qah kI (QqP Pg)),(bu,Qah kI (QdJ U))]
def QjB(f:Int)(U:List Int)(e:E)(ea ab:Bool)(P:List E):Bool:=if e.kind=2 then QsO f U P e else Qgy e ea ab P
def Qeg(f:Int)(e:E)(P:List E):List E:=if e.kind=2 then QsN f P e else nP e P
def QjA(U:List Int)(e:E):List Int:=if e.kind=2 then QoY U e.ref else U
def QHm(h1:bt≠bp)(h3:bp≠bu)(L:List (Int×DV))(Pg Pg':List (Int×Int))(U:List Int):((ckG bt bp bu L Pg U).map fun p=>if p.1=bp then (bp,Qah kI (QqP Pg')) else p)=ckG bt bp bu L Pg' U:=by
 simp[ckG,h1,Ne.symm h3]
def QHk(h1:bt≠bu)(h3:bp≠bu)(L:List (Int×DV))(Pg:List (Int×Int))(U U':List Int):((ckG bt bp bu L Pg U).map fun p=>if p.1=bu then (bu,Qah kI (QdJ U')) else p)=ckG bt bp bu L Pg U':=by
 simp[ckG,h1,h3]
def QHl(h1:bt≠bp)(h3:bt≠bu)(L L':List (Int×DV))(Pg:List (Int×Int))(U:List Int):((ckG bt bp bu L Pg U).map fun p=>if p.1=bt then (bt,Qah kI L') else p)=ckG bt bp bu L' Pg U:=by
 simp[ckG,Ne.symm h1,Ne.symm h3]
def QbT(hh:∀ r h g,R r h g->R' r h g):∀ e S g,QcZ P rs R e S g->QcZ P rs R' e S g:=fun e S g h=>by
 unfold QcZ at h |-
 cases e<;>dsimp only at h |-<;>first | exact h | (split at h<;>first | exact hh _ _ _ h | exact h)
def QE7(c:Qfj)(hp:Qb)(b kb kc bt bp bu:Nat)(hbb:bt≠bp/\bt≠bu/\bp≠bu)(f:Int)(e:E)(L:List (Int×DV))(Pg:List (Int×Int))(U:List Int)(hkb:kb<hp.length)(hb:Qc hp kb=some e.d)(hk:kc<hp.length)(hc:Qc hp kc=some (ckC f bt bp bu))
 (k kp:Nat) (la:Int) (ea ab en:Bool) (P:List E) (hPl:P.length<=10000) (hr:RunOk hp k kp la ea ab en P) (hn:Qcc L e.tx=some (.ptr k 0)) (h1:k≠kp) (h2:k≠kc) (h3:k≠kb) (h4:kp≠kc) (h5:kp≠kb) :
 VWpG prog (MapsIn c) (QfA 3 (Qfg Tryz.f26)) (QcZ prog [.tmp 4] fun r h' g'=>∃ b,r=.bool b/\b=QjB f U e ea ab P/\(b=true->Left hp k kp la ea (nab e ab) (nen e en) (Qeg f e P) h'/\g'=ckG bt bp bu L Pg (QjA U e))) ⟨97,b,[(3,.ptr kb 0),(0,.ptr kc 0)],hp⟩ (ckG bt bp bu L Pg U):=by
 have hgt:(bt,Qah kI L)∈ckG bt bp bu L Pg U:=by simp[ckG]
 have hgu:(bu,Qah kI (QdJ U))∈ckG bt bp bu L Pg U:=by simp[ckG]
 by_cases hk2:e.kind=2
 ·refine (QE4 c hp _ b kb kc bt bp bu f e L U hkb hb hk hc hgt hgu k kp la ea ab en P hPl hr hn h1 hk2).mono (QbT ?_)
  rintro r h' g' ⟨b,e1,e2,e3⟩
  refine⟨b,e1,by rw[e2,QjB,if_pos hk2],fun hb=>?_⟩
  obtain⟨e4,e5⟩:=e3 hb
  rw[QHk hbb.2.1 hbb.2.2] at e5
  rw[Qeg,if_pos hk2,QjA,if_pos hk2,show nab e ab=ab by simp[nab,hk2],show nen e en=en by simp[nen,hk2]]
  exact⟨e4,e5⟩
 ·obtain ⟨hkk,p,hkc,hp0⟩:=hr
  have fin:∀ (r:DV) (h':Qb) (g':MapsD),(∃ b,r=.bool b/\b=Qgy e ea ab P/\(b=true->g'=ckG bt bp bu L Pg U/\Left hp k kp la ea (nab e ab) (nen e en) (nP e P) h'))->∃ b,r=.bool b/\b=QjB f U e ea ab P/\(b=true->Left hp k kp la ea (nab e ab) (nen e en) (Qeg f e P) h'/\g'=ckG bt bp bu L Pg (QjA U e)):=by
   rintro r h' g' ⟨b,e1,e2,e3⟩
   refine⟨b,e1,by rw[e2,QjB,if_neg hk2],fun hb=>?_⟩
   obtain⟨e4,e5⟩:=e3 hb
   rw[Qeg,if_neg hk2,QjA,if_neg hk2]
   exact⟨e5,e4⟩
  rcases hp0 with⟨rfl,rfl⟩ | ⟨rfl,hkp,hpb⟩
  ·exact(QE6 c hp _ b kb kc bt bp bu f e L hkb hb hk hc hgt k kp la ea ab en hkk hkc hn h2 h3 hk2).mono (QbT fin)
  ·exact(QE5 c hp _ b kb kc bt bp bu f e L hkb hb hk hc hgt k kp la ea ab en P hPl hkk hkc hkp hpb hn h1 h2 h3 h4 h5 hk2).mono (QbT fin)
def Qop(hp:Qb)(kc:Nat)(e:E)(k kp:Nat)(ea ab en:Bool)(P:List E)(h':Qb):Prop:=kc<h'.length/\Qc h' kc=Qc hp kc/\hp.length+1<=h'.length/\Qc h' hp.length=some e.d/\RunOk h' k kp e.lsn ea ab en P/\FrH hp h' (fun j=>j=k\/j=kp)
def Qwc(hp:Qb)(kc bt bp bu:Nat)(hbb:bt≠bp/\bt≠bu/\bp≠bu)(f:Int)(e:E)(L L':List (Int×DV))(Pg:List (Int×Int))(U:List Int)(hk:kc<hp.length)(hc:Qc hp kc=some (ckC f bt bp bu))(htx:e.tx≠0)
 (k kp:Nat) (rb ea ab en:Bool) (P:List E) (hPl:P.length<=10000) (hn:Qcc L' e.tx=some (.ptr k 0)) (h1:k≠kp) (h2:k≠kc) (h3:k≠hp.length) (h4:kp≠kc) (h5:kp≠hp.length)
 (hright:∀ B:Blk,B=⟨52,true,e.d⟩->VCallsG prog 33 [.ptr kc 0,.agg e.d] (hp++[B]) (ckG bt bp bu L Pg U) (fun r h' g'=>r=.bool rb/\Qop hp kc e k kp ea ab en P h'/\g'=ckG bt bp bu L' Pg U)) :
 VCallsG prog 26 [.ptr kc 0,.agg e.d] hp (ckG bt bp bu L Pg U) (fun r h' g'=>∃ b,r=.bool b/\b=(rb&&((!QdY e||pagedB f Pg e)&&QjB f U e ea ab P)) /\
  (b=true->FrH hp h' (fun j=>j=k\/j=kp)/\(∃ kp',(kp'=kp\/hp.length<=kp')/\RunOk h' k kp' e.lsn ea (nab e ab) (nen e en) (Qeg f e P))/\g'=ckG bt bp bu L' (if QdY e=true then QrL Pg e.c.pg e.lsn else Pg) (QjA U e))):=by
 have hr0:=hright _ rfl
 refine Q5 (fn:=Tryz.f26) Tryz.func26 rfl (by kernel_rfl) (by simp[Tryz.f26]) (fun c=>?_)
 have hc0:=hc
 unfold ckC at hc
 unfold E.d at hr0
 refine VWpG.first (Qa c) ?_
 (unfold Tryz.f26; refine rn trivial ?_)
 refine VWpG.seq ?_
 refine VWpG.first (Qa c) ?_
 refine rn @htx ?_
 refine VWpG.cond rfl (fun hZ=>?_) (fun hZ=>?_)
 ·cases hZ
 refine VWpG.plain (Qa c) ?_
 refine rn trivial ?_
 refine VWpG.seq ?_
 refine VWpG.seq ?_
 refine VWpG.cut1 (Qa c) 2 [7] ?_
 refine rn trivial ?_
 refine QcU rfl rfl rfl hr0 ?_
 rintro r h1' g1 ⟨rfl,⟨q1,q2,q3,q4,q5,q6⟩,rfl⟩
 have q4':Qc h1' hp.length=some [.int .i64 e.lsn,.int .i64 e.kind,.int .i64 e.tx,.int .i64 e.ptx,.int .i64 e.ppg,.int .i64 e.ref,.int .i64 e.c.pg,.int .i64 e.c.sl,.bool e.c.b.set,.pv (.str e.c.b.data),.bool e.c.a.set,.pv (.str e.c.a.data),.pv (.str e.blob)]:=q4
 have q2':=q2
 rw[hc] at q2'
 have hl3:hp.length<h1'.length:=by omega
 have hcg:VCalls prog 17 [.agg [.int .i64 e.lsn,.int .i64 e.kind,.int .i64 e.tx,.int .i64 e.ptx,.int .i64 e.ppg,.int .i64 e.ref,.int .i64 e.c.pg,.int .i64 e.c.sl,.bool e.c.b.set,.pv (.str e.c.b.data),.bool e.c.a.set,.pv (.str e.c.a.data),.pv (.str e.blob)]] [] (Ret (.bool (QdY e))):=QhL e
 refine QdE ?_
 cases rb
 ·(refine rn trivial ?_; try with_reducible exact ⟨⟩)
  refine Qo2 rfl rfl ?_
  refine rn trivial ?_
  refine VWpG.cond rfl (fun hZ=>?_) (fun hZ=>?_)
  ·refine VWpG.plain (Qa c) ?_
   refine rn trivial ?_
   exact⟨false,rfl,rfl,fun h=>by cases h⟩
  ·cases hZ
 cases hch:QdY e
 ·rw [hch] at hcg
  refine rn (Ja @q4' @hl3) ?_
  refine Qae hcg rfl ?_
  refine rn trivial ?_
  refine Qo2 rfl rfl ?_
  refine rn trivial ?_
  refine VWpG.cond rfl (fun hZ=>?_) (fun hZ=>?_)
  ·cases hZ
  refine VWpG.plain (Qa c) ?_
  refine rn trivial ?_
  refine VWpG.weakG (VWpG.mono (QE7 c h1' h1'.length hp.length kc bt bp bu hbb f e L' Pg U hl3 q4 q1 (q2.trans hc0) k kp e.lsn ea ab en P hPl q5 hn h1 h2 h3 h4 h5) (QbT ?_)) (WeakG.slots rfl rfl ?_)
  ·rintro r h' g' ⟨b,e1,e2,e3⟩
   refine⟨b,e1,e2,fun hb=>?_⟩
   obtain⟨⟨e4,kp',e5,e6⟩,e7⟩:=e3 hb
   exact⟨q6.trans e4 fun _ _ h=>h,⟨kp',e5.imp id fun h=>by omega,e6⟩,e7⟩
  ·intro p hp
   simp only[Jh,Jg,or_false] at hp
   rcases hp with rfl | rfl<;>exact .inl rfl
 ·rw [hch] at hcg
  refine rn (Ja @q4' @hl3) ?_
  refine Qae hcg rfl ?_
  refine rn (Ja @q4' @hl3) ?_
  refine QcU rfl rfl rfl (Qzy h1' _ kc bt bp bu f e Pg q1 (q2.trans hc0) (by simp[ckG])) ?_
  rintro r h2' g2 ⟨rfl,⟨x,rfl⟩,rfl⟩
  refine rn trivial ?_
  rw[QHm hbb.1 hbb.2.2]
  cases hpb:pagedB f Pg e
  ·refine VWpG.cond rfl (fun hZ=>?_) (fun hZ=>?_)
   ·refine VWpG.plain (Qa c) ?_
    refine rn trivial ?_
    exact⟨false,rfl,rfl,fun h=>by cases h⟩
   ·cases hZ
  ·refine VWpG.cond rfl (fun hZ=>?_) (fun hZ=>?_)
   ·cases hZ
   refine VWpG.plain (Qa c) ?_
   refine rn trivial ?_
   refine VWpG.weakG (VWpG.mono (QE7 c (h1'++[x]) (h1'.length+1) hp.length kc bt bp bu hbb f e L' (QrL Pg e.c.pg e.lsn) U (by simp; omega) ((Qs hl3).trans q4) (by simp; omega) ((Qs q1).trans (q2.trans hc0)) k kp e.lsn ea ab en P hPl q5.app hn h1 h2 h3 h4 h5) (QbT ?_)) (WeakG.slots rfl rfl ?_)
   ·rintro r h' g' ⟨b,e1,e2,e3⟩
    refine⟨b,e1,e2,fun hb=>?_⟩
    obtain⟨⟨e4,kp',e5,e6⟩,e7⟩:=e3 hb
    exact⟨(q6.app [x]).trans e4 fun _ _ h=>h,⟨kp',e5.imp id fun h=>by simp at h; omega,e6⟩,e7⟩
   ·intro p hp
    simp only[Jh,Jg,or_false] at hp
    rcases hp with rfl | rfl<;>exact .inl rfl
end
def RunP(hp:Qb)(k:Nat)(kpo:Option Nat)(la:Int)(ea ab en:Bool)(P:List E):Prop:=k<hp.length/\match kpo with
 | none=>P=[]/\Qc hp k=some (rnC la ea ab en (.pv (.slc [])))
 | some kp=>Qc hp k=some (rnC la ea ab en (.own kp 13 0 P.length))/\kp<hp.length/\hp[kp]?=some ⟨52,true,cells encE P⟩
def RunP.ok(h:RunP hp k kpo la ea ab en P):RunOk hp k (kpo.getD (hp.length+7)) la ea ab en P:=by
 obtain⟨h1,h2⟩:=h
 cases kpo with
 | none=>exact⟨h1,_,h2.2,.inl ⟨h2.1,rfl⟩⟩
 | some kp=>exact⟨h1,_,h2.1,.inr ⟨rfl,h2.2.1,h2.2.2⟩⟩
def RunOk.toP(h:RunOk hp k kp la ea ab en P):RunP hp k none la ea ab en P\/(RunP hp k (some kp) la ea ab en P):=by
 obtain⟨h1,p,h2,h3⟩:=h
 rcases h3 with⟨rfl,rfl⟩ | ⟨rfl,h4,h5⟩
 ·exact .inl ⟨h1,rfl,h2⟩
 ·exact .inr ⟨h1,h2,h4,h5⟩
def RunP.fr(h:RunP hp k kpo la ea ab en P)(hf:FrH hp h' A)(hk:¬ A k)(hkp:∀ kp,kpo=some kp->¬ A kp):RunP h' k kpo la ea ab en P:=by
 obtain⟨h1,h2⟩:=h
 have hb:=Qi7 (hf.same k h1 hk)
 refine⟨JH h1 hf.len,?_⟩
 cases kpo with
 | none=>exact⟨h2.1,by rw[hb]; exact h2.2⟩
 | some kp=>exact⟨by rw[hb]; exact h2.1,JH h2.2.1 hf.len,by rw[hf.same kp h2.2.1 (hkp kp rfl)]; exact h2.2.2⟩
def Qqv(hp:Qb)(kc bt bp bu:Nat)(f:Int)(e:E)(L:List (Int×DV))(Pg:List (Int×Int))(U:List Int)(hk:kc<hp.length)(hc:Qc hp kc=some (ckC f bt bp bu))(k kp:Nat)(la:Int)(ea ab en:Bool)(P:List E)(hr:RunOk hp k kp la ea ab en P)(hn:Qcc L e.tx=some (.ptr k 0))(h1:k≠kp)(h2:k≠kc)(h5:kp≠hp.length)(B:Blk)(hB:B=⟨52,true,e.d⟩) :
 VCallsG prog 33 [.ptr kc 0,.agg e.d] (hp++[B]) (ckG bt bp bu L Pg U) (fun r h' g'=>r=.bool (decide (e.ptx=la)&&!en)/\Qop hp kc e k kp ea ab en P h'/\g'=ckG bt bp bu L Pg U):=by
 have hr':=hr.app (r:=[B])
 obtain⟨hkk,p,hkc,hp0⟩:=hr
 refine(QvX (hp++[B]) _ kc bt bp bu f e L (by simp; omega) ((Qs hk).trans hc) (by simp[ckG]) k la ea ab en p (by simp; omega) ((Qs hkk).trans hkc) hn).mono ?_
 rintro r h' g' ⟨rfl,⟨x,rfl⟩,rfl⟩
 have hl:(Ql (hp++[B]) k (rnC e.lsn ea ab en p)).length=hp.length+1:=by rw[Qv]; simp
 have hfr:FrH hp (Ql (hp++[B]) k (rnC e.lsn ea ab en p)++[x]) (fun j=>j=k\/j=kp):=((((FrH.refl _ _).app [B])).set (.inl rfl) _).app _
 refine⟨rfl,⟨by simp[hl]; omega,?_,by simp[hl],?_,⟨by simp[hl]; omega,p,?_,?_⟩,hfr⟩,rfl⟩
 ·rw[Qs (by omega),Qi6 h2,Qs hk]
 ·rw[Qs (by omega),Qi6 (by omega),Qkn,hB]<;>rfl
 ·rw[Qs (by omega),Qay,Qs hkk,hkc]<;>rfl
 ·rcases hp0 with h | ⟨e1,e2,e3⟩
  ·exact .inl h
  ·exact .inr ⟨e1,by simp[hl]; omega,by rw[Je (by omega),QbN h1,Je e2]; exact e3⟩
def Qx3(hp:Qb)(kc bt bp bu:Nat)(hbb:bt≠bp/\bt≠bu/\bp≠bu)(f:Int)(e:E)(L:List (Int×DV))(Pg:List (Int×Int))(U:List Int)(hk:kc<hp.length)(hc:Qc hp kc=some (ckC f bt bp bu))(hn:Qcc L e.tx=none)(kp:Nat)(B:Blk)(hB:B=⟨52,true,e.d⟩) :
 VCallsG prog 33 [.ptr kc 0,.agg e.d] (hp++[B]) (ckG bt bp bu L Pg U) (fun r h' g'=>r=.bool (decide (e.ptx<f))/\Qop hp kc e (hp.length+2) kp (decide (0<e.ptx)) false false [] h'/\g'=ckG bt bp bu (Qen L e.tx (.ptr (hp.length+2) 0)) Pg U):=by
 refine(QvY (hp++[B]) _ kc bt bp bu f e L (by simp; omega) ((Qs hk).trans hc) (by simp[ckG]) hn).mono ?_
 rintro r h' g' ⟨rfl,⟨x,rfl⟩,rfl⟩
 have hl:(hp++[B]).length=hp.length+1:=by simp
 refine⟨rfl,⟨by simp<;>omega,?_,by simp<;>omega,?_,⟨by simp,.pv (.slc []),?_,.inl ⟨rfl,rfl⟩⟩,(((FrH.refl _ _).app [B]).app [x]).app _⟩,?_⟩
 ·rw[Qs (by simp; omega),Qs (by simp; omega),Qs hk]
 ·rw[Qs (by simp),Qs (by simp),Qkn,hB]; rfl
 ·rw[Qoi (by simp)]; simp[Qc]
 ·rw[QHl hbb.1 hbb.2.1,hl]
structure Tr where
 tx:Int
 last:Int
 ea:Bool
 ab:Bool
 en:Bool
 P:List E
structure Ck where
 T:List Tr
 Pg:List (Int×Int)
 U:List Int
def setT:List Tr->Tr->List Tr
 | [],t=>[t]
 | a::r,t=>if a.tx=t.tx then t::r else a::setT r t
def Qio(T:List Tr)(x:Int):Option Tr:=T.find? fun t=>decide (t.tx=x)
def ckB(f:Int)(A:Ck)(e:E):Bool:=if e.tx=0 then true else match Qio A.T e.tx with
 | some t=>(decide (e.ptx=t.last)&&!t.en)&&((!QdY e||pagedB f A.Pg e)&&QjB f A.U e t.ea t.ab t.P)
 | none=>decide (e.ptx<f)&&((!QdY e||pagedB f A.Pg e)&&QjB f A.U e (decide (0<e.ptx)) false [])
def ckS(f:Int)(A:Ck)(e:E):Ck:=if e.tx=0 then A else match Qio A.T e.tx with
 | some t=>⟨setT A.T ⟨e.tx,e.lsn,t.ea,nab e t.ab,nen e t.en,Qeg f e t.P⟩,if QdY e=true then QrL A.Pg e.c.pg e.lsn else A.Pg,QjA A.U e⟩
 | none=>⟨setT A.T ⟨e.tx,e.lsn,decide (0<e.ptx),nab e false,nen e false,Qeg f e []⟩,if QdY e=true then QrL A.Pg e.c.pg e.lsn else A.Pg,QjA A.U e⟩
structure TX where
 t:Tr
 k:Nat
 kp:Option Nat
def TX.pos(x:TX):List Nat:=x.k::x.kp.toList
def QuK(X:List TX):List (Int×DV):=X.map fun x=>(x.t.tx,.ptr x.k 0)
structure RepX(f:Int)(kc bt bp bu:Nat)(hp:Qb)(X:List TX):Prop where
 hk:kc<hp.length
 hc:Qc hp kc=some (ckC f bt bp bu)
 run:∀ x∈X,RunP hp x.k x.kp x.t.last x.t.ea x.t.ab x.t.en x.t.P
 nd:(kc::X.flatMap TX.pos).Nodup
def Rep(f:Int)(kc bt bp bu:Nat)(n:Nat)(hp:Qb)(g:MapsD)(A:Ck):Prop:=∃ X:List TX,X.map (·.t)=A.T/\g=ckG bt bp bu (QuK X) A.Pg A.U/\RepX f kc bt bp bu hp X/\∀ t∈A.T,t.P.length<=n
def QFw (X:List TX) (x:Int):Qcc (QuK X) x = (X.find? fun y=>decide (y.t.tx = x)).map fun y=>.ptr y.k 0:=by
 induction X with
 | nil=>rfl
 | cons a r ih =>
   unfold QuK at ih |-
   simp only[JK,Qcc,List.find?_cons]
   by_cases h:a.t.tx=x
   ·simp[h]
   ·simp[h,ih]
def QFG(X:List TX)(x:Int):Qio (X.map (·.t)) x=(X.find? fun y=>decide (y.t.tx=x)).map (·.t):=by
 unfold Qio
 rw[List.find?_map]
 rfl
def Qk7(f:Int)(e:E)(P:List E):(Qeg f e P).length<=P.length+1:=by
 unfold Qeg QsN Qqc nP
 split
 ·split
  ·simp; omega
  ·omega
 ·split<;>simp
def QEY(h:RepX f kc bt bp bu hp X):∀ j∈X.flatMap TX.pos,j<hp.length:=by
 intro j hj
 obtain⟨x,hx,hj⟩:=JM.1 hj
 obtain⟨h1,h2⟩:=h.run x hx
 unfold TX.pos at hj
 rcases Jh.1 hj with rfl | hj
 ·exact h1
 ·cases hkp:x.kp with
  | none=>rw[hkp] at hj; simp at hj
  | some kp=>rw[hkp] at hj h2; simp at hj; subst hj; exact h2.2.1
def QoB(T1 T2:List Tr)(t t':Tr)(h:∀ y∈T1,y.tx≠t'.tx)(ht:t.tx=t'.tx):setT (T1++t::T2) t'=T1++t'::T2:=by
 induction T1 with
 | nil=>simp[setT,ht]
 | cons a r ih=>simp only[JF,setT]; rw[if_neg (h a (by simp)),ih fun y hy=>h y (JA _ hy)]
def Qxw(T:List Tr)(t':Tr)(h:∀ y∈T,y.tx≠t'.tx):setT T t'=T++[t']:=by
 induction T with
 | nil=>rfl
 | cons a r ih=>simp only[setT]; rw[if_neg (h a (by simp)),ih fun y hy=>h y (JA _ hy)]; rfl
def RunP.ne(h:RunP hp k (some kp) la ea ab en P):kp≠k:=fun e=>by
 obtain⟨_,h1,_,h2⟩:=h
 rw[e] at h2
 have:=QbG h2
 rw[h1] at this
 have:=congrArg Ki (Option.some.inj this)
 rw[Qhr] at this
 simp[rnC] at this
 omega
def Quo(h:(kc::(X1++x::X2).flatMap TX.pos).Nodup):x.pos.Nodup/\kc ∉ x.pos/\(∀ j∈X1.flatMap TX.pos,j ∉ x.pos)/\(∀ j∈X2.flatMap TX.pos,j ∉ x.pos)/\(kc::(X1++X2).flatMap TX.pos).Nodup:=by
 simp only[Js,JJ,J8,J0,Jp,not_or] at h |-
 obtain⟨⟨a1,a2,a3⟩,b1,⟨b2,b3,b4⟩,b5⟩:=h
 exact⟨b2,a2,fun j hj hx=>b5 j hj j (.inl hx) rfl,fun j hj hx=>b4 j hx j hj rfl,⟨a1,a3⟩,b1,b3,fun j hj m hm=>b5 j hj m (.inr hm)⟩
def Qyp(h1:x.pos.Nodup)(h2:kc ∉ x.pos)(h3:∀ j∈X1.flatMap TX.pos,j ∉ x.pos)(h4:∀ j∈X2.flatMap TX.pos,j ∉ x.pos)(h5:(kc::(X1++X2).flatMap TX.pos).Nodup):(kc::(X1++x::X2).flatMap TX.pos).Nodup:=by
 simp only[Js,JJ,J8,J0,Jp,not_or] at h5 |-
 obtain⟨⟨a1,a2⟩,b1,b2,b3⟩:=h5
 exact⟨⟨a1,h2,a2⟩,b1,⟨h1,b2,fun a ha b hb e=>h4 b hb (e▸ha)⟩,fun a ha b hb=>hb.elim (fun hb e=>h3 a ha (e▸hb)) (fun hb=>b3 a ha b hb)⟩
def QtQ{f:Int}{kc bt bp bu:Nat}{hp h':Qb}{X1 X2:List TX}{t':Tr}{k kp kp':Nat}{A:Nat->Prop}(hR:RepX f kc bt bp bu hp (X1++X2))(hfr:FrH hp h' A)(hkc:¬ A kc)(hA:∀ j∈(X1++X2).flatMap TX.pos,¬ A j)(hk:k≠kc/\k ∉ (X1++X2).flatMap TX.pos)(hkp:(kp'≠kc/\kp' ∉ (X1++X2).flatMap TX.pos))
 (hrun:RunOk h' k kp' t'.last t'.ea t'.ab t'.en t'.P):∃ kpo,RepX f kc bt bp bu h' (X1++⟨t',k,kpo⟩::X2):=by
 have old:∀ y∈X1++X2,RunP h' y.k y.kp y.t.last y.t.ea y.t.ab y.t.en y.t.P:=fun y hy=>
  (hR.run y hy).fr hfr (hA _ (JM.2 ⟨y,hy,by simp[TX.pos]⟩)) fun kp h=>hA _ (JM.2 ⟨y,hy,by simp[TX.pos,h]⟩)
 have fin:∀ kpo,RunP h' k kpo t'.last t'.ea t'.ab t'.en t'.P->(∀ j∈kpo.toList,j=kp')->RepX f kc bt bp bu h' (X1++⟨t',k,kpo⟩::X2):=fun kpo hr hj=>by
  refine⟨JH hR.hk hfr.len,by rw[Qi7 (hfr.same kc hR.hk hkc)]; exact hR.hc,fun y hy=>?_,?_⟩
  ·rcases Jp.1 hy with hy | hy
   ·exact old y (Jq _ hy)
   ·rcases Jh.1 hy with rfl | hy
    ·exact hr
    ·exact old y (Jo _ hy)
  ·have hin:∀ j,j ∈ (⟨t',k,kpo⟩:TX).pos->j = k\/j = kp':=fun j h=>by
    unfold TX.pos at h
    rcases Jh.1 h with h | h
    ·exact .inl h
    ·exact .inr (hj j h)
   have hno:∀ j∈(X1++X2).flatMap TX.pos,j ∉ (⟨t',k,kpo⟩:TX).pos:=fun j h h2=>by
    rcases hin j h2 with rfl | rfl
    ·exact hk.2 h
    ·exact hkp.2 h
   refine Qyp ?_ (fun h=>?_) (fun j h=>hno j (by rw[Js]; exact Jq _ h)) (fun j h=>hno j (by rw[Js]; exact Jo _ h)) hR.nd
   ·cases kpo with
    | none=>simp[TX.pos]
    | some q=>have:=hr.ne; simp[TX.pos,Ne.symm this]
   ·rcases hin kc h with e | e
    ·exact hk.1 e.symm
    ·exact hkp.1 e.symm
 rcases hrun.toP with h | h
 ·exact⟨none,fin none h (by simp)⟩
 ·exact⟨some kp',fin _ h (by simp)⟩
def QyH(X1 X2:List TX)(t t':Tr)(k:Nat)(kp kp':Option Nat)(h:t.tx=t'.tx):QuK (X1++⟨t',k,kp'⟩::X2)=QuK (X1++⟨t,k,kp⟩::X2):=by
 simp[QuK,h]
def QuS{n:Nat}{T1 T2:List Tr}{t':Tr}(h:∀ t∈T1++T2,t.P.length<=n)(h':t'.P.length<=n+1):∀ t∈T1++t'::T2,t.P.length<=n+1:=fun t ht=>by
 rcases Jp.1 ht with ht | ht
 ·exact J1 (h t (Jq _ ht))
 ·rcases Jh.1 ht with rfl | ht
  ·exact h'
  ·exact J1 (h t (Jo _ ht))
def QDr (f:Int) (kc bt bp bu n:Nat) (hbb:bt ≠ bp/\bt ≠ bu/\bp ≠ bu) (hp:Qb) (g:MapsD) (A:Ck) (e:E) (hn:n<=9000) (htx:e.tx ≠ 0) (h:Rep f kc bt bp bu n hp g A) :
 VCallsG prog 26 [.ptr kc 0,.agg e.d] hp g (fun r h' g'=>∃ b,r=.bool b/\b=ckB f A e/\(b=true->Rep f kc bt bp bu (n+1) h' g' (ckS f A e))):=by
 obtain⟨X,hX,rfl,hR,hlen⟩:=h
 have hget:=QFw X e.tx
 have hfind:=QFG X e.tx
 rw[hX] at hfind
 have hpl:=QEY hR
 cases hf:X.find? (fun y=>decide (y.t.tx=e.tx)) with
 | some x =>
   rw[hf] at hget hfind
   simp only[J9] at hget hfind
   obtain⟨htx',X1,X2,hXe,hX1⟩:=List.find?_eq_some_iff_append.1 hf
   subst hXe
   have hxm:x∈X1++x::X2:=by simp
   have htx':x.t.tx=e.tx:=by simpa using htx'
   have hrx:=hR.run x hxm
   have hlx:x.t.P.length<=n:=hlen x.t (by rw[<- hX]; exact Jw.2 ⟨x,hxm,rfl⟩)
   obtain⟨n1,n2,n3,n4,n5⟩:=Quo hR.nd
   have hkm:x.k∈x.pos:=by simp[TX.pos]
   have hkc:x.k≠kc:=fun h=>n2 (h▸hkm)
   have hkpm:∀ kp,x.kp=some kp->kp∈x.pos:=fun kp h=>by simp[TX.pos,h]
   have hkp:x.k≠x.kp.getD (hp.length+7):=by
    cases hkp:x.kp with
    | none=>have:=hrx.1; simp; omega
    | some kp=>unfold TX.pos at n1; rw[hkp] at n1; simp at n1 |-; exact n1
   have hkpc:x.kp.getD (hp.length+7)≠kc:=by
    cases hkp:x.kp with
    | none=>have:=hR.hk; simp; omega
    | some kp=>exact fun h=>n2 (h▸hkpm kp hkp)
   have hkpl:x.kp.getD (hp.length+7)≠hp.length:=by
    cases hkp:x.kp with
    | none=>simp
    | some kp=>rw[hkp] at hrx; have:=hrx.2.2.1; simp; omega
   have hkl:x.k≠hp.length:=by have:=hrx.1; omega
   have hsub:∀ j∈(X1++X2).flatMap TX.pos,j<hp.length/\j ∉ x.pos:=fun j hj=>by
    rw[Js] at hj
    have:j∈(X1++x::X2).flatMap TX.pos:=by
     rw[Js,JJ]
     rcases Jp.1 hj with h | h
     ·exact Jq _ h
     ·exact Jo _ (Jo _ h)
    exact⟨hpl j this,(Jp.1 hj).elim (n3 j) (n4 j)⟩
   have hnA:∀ j,j<hp.length->j ∉ x.pos->¬ (j=x.k\/j=x.kp.getD (hp.length+7)):=fun j hj hx h=>by
    rcases h with rfl | h
    ·exact hx hkm
    ·cases hkp:x.kp with
     | none=>rw[hkp] at h; simp at h; omega
     | some kp=>rw[hkp] at h; exact hx (by rw[h]; exact hkpm kp hkp)
   refine(Qwc hp kc bt bp bu hbb f e _ _ A.Pg A.U hR.hk hR.hc htx x.k (x.kp.getD (hp.length+7)) _ x.t.ea x.t.ab x.t.en x.t.P (by omega) hget hkp hkc hkl hkpc hkpl
    (Qqv hp kc bt bp bu f e _ A.Pg A.U hR.hk hR.hc x.k (x.kp.getD (hp.length+7)) x.t.last x.t.ea x.t.ab x.t.en x.t.P hrx.ok hget hkp hkc hkpl)).mono ?_
   rintro r h' g' ⟨b,e1,e2,e3⟩
   refine⟨b,e1,by rw[e2,ckB,if_neg htx,hfind],fun hb=>?_⟩
   obtain⟨hfr,⟨kp',hk',hrun⟩,rfl⟩:=e3 hb
   have hR':RepX f kc bt bp bu hp (X1++X2):=⟨hR.hk,hR.hc,fun y hy=>hR.run y (by rcases Jp.1 hy with h | h; exact Jq _ h; exact Jo _ (JA _ h)),n5⟩
   obtain⟨kpo,hR2⟩:=QtQ (t':=⟨e.tx,e.lsn,x.t.ea,nab e x.t.ab,nen e x.t.en,Qeg f e x.t.P⟩) (k:=x.k) (kp:=0) (kp':=kp') hR' hfr (hnA kc hR.hk n2) (fun j hj=>hnA j (hsub j hj).1 (hsub j hj).2) ⟨hkc,fun h=>(hsub _ h).2 hkm⟩
    ⟨by rcases hk' with rfl | h; exact hkpc; have:=hR.hk; omega,fun h=>by
     have h1:=hsub _ h
     rcases hk' with rfl | h2
     ·exact hnA _ h1.1 h1.2 (.inr rfl)
     ·omega⟩ hrun
   rw[ckS,if_neg htx,hfind]
   refine⟨_,?_,?_,hR2,?_⟩
   ·rw [<- hX]
    simp only[Ka,JK]
    exact(QoB _ _ _ _ (fun y hy=>by
     obtain⟨z,hz,rfl⟩:=Jw.1 hy
     have:=hX1 z hz
     simpa using this) htx').symm
   ·obtain ⟨xt,xk,xkp⟩:=x
    rw[QyH X1 X2 xt _ xk xkp kpo htx']
   ·rw [<- hX] at hlen |-
    simp only[Ka,JK] at hlen |-
    rw[QoB _ _ _ _ (fun y hy=>by
     obtain⟨z,hz,rfl⟩:=Jw.1 hy
     have:=hX1 z hz
     simpa using this) htx']
    exact QuS (fun t ht=>hlen t (by rcases Jp.1 ht with h | h; exact Jq _ h; exact Jo _ (JA _ h))) (Jf (Qk7 f e _) (by omega))
 | none =>
   rw[hf] at hget hfind
   simp only[Option.map_none] at hget hfind
   have hno:∀ y∈X,y.t.tx≠e.tx:=fun y hy=>by
    have:=JI.1 hf y hy
    simpa using this
   have hput:Qen (QuK X) e.tx (.ptr (hp.length+2) 0)=QuK X++[(e.tx,.ptr (hp.length+2) 0)]:=by
    have:((QuK X).map (·.1)).findIdx? (fun x=>decide (x=e.tx))=none:=by
     rw[List.findIdx?_eq_none_iff]
     intro q hq
     obtain⟨p,hp',rfl⟩:=Jw.1 hq
     obtain⟨y,hy,rfl⟩:=Jw.1 hp'
     simpa using hno y hy
    exact(Qly _ _ _ this).1
   have hget':Qcc (Qen (QuK X) e.tx (.ptr (hp.length+2) 0)) e.tx=some (.ptr (hp.length+2) 0):=by rw[Qpq,if_pos rfl]
   have hkk:=hR.hk
   refine(Qwc hp kc bt bp bu hbb f e _ _ A.Pg A.U hR.hk hR.hc htx (hp.length+2) (hp.length+3) _ (decide (0<e.ptx)) false false [] (by simp) hget' (by omega) (by omega) (by omega) (by omega) (by omega)
    (Qx3 hp kc bt bp bu hbb f e _ A.Pg A.U hR.hk hR.hc hget (hp.length+3))).mono ?_
   rintro r h' g' ⟨b,e1,e2,e3⟩
   refine⟨b,e1,by rw[e2,ckB,if_neg htx,hfind],fun hb=>?_⟩
   obtain⟨hfr,⟨kp',hk',hrun⟩,rfl⟩:=e3 hb
   have hge:hp.length<=kp':=by rcases hk' with rfl | h; omega; exact h
   obtain⟨kpo,hR2⟩:=QtQ (X1:=X) (X2:=[]) (t':=⟨e.tx,e.lsn,decide (0<e.ptx),nab e false,nen e false,Qeg f e []⟩) (k:=hp.length+2) (kp:=0) (kp':=kp') (by rw[JB]; exact hR) hfr (by omega) (fun j hj=>by rw[JB] at hj; have:=hpl j hj; omega) ⟨by omega,fun h=>by rw[JB] at h; have:=hpl _ h; omega⟩ ⟨by omega,fun h=>by rw[JB] at h; have:=hpl _ h; omega⟩ hrun
   rw[ckS,if_neg htx,hfind]
   have hset:setT A.T ⟨e.tx,e.lsn,decide (0<e.ptx),nab e false,nen e false,Qeg f e []⟩=A.T++[⟨e.tx,e.lsn,decide (0<e.ptx),nab e false,nen e false,Qeg f e []⟩]:=Qxw _ _ fun y hy=>by
    rw[<- hX] at hy
    obtain⟨z,hz,rfl⟩:=Jw.1 hy
    exact hno z hz
   refine⟨_,?_,?_,hR2,?_⟩
   ·dsimp only
    rw[hset,<- hX]
    simp
   ·rw [hput]
    simp[QuK]
   ·dsimp only
    rw[hset]
    exact QuS (T2:=[]) (by rw[JB]; exact hlen) (Jf (Qk7 f e _) (by simp))
section
attribute [local go_sem] Ce.d Ch.d E.d Qhr QmP QmM Qlc Qk9 Qmo QdB QrI QrH QrG E.q Jv
attribute [local go_sem] Lg.c
theorem QH9:QN prog 98=some [.pv (.lit (.int .i64 0)),.pv (.lit (.map none)),.pv (.lit (.map none)),.pv (.lit (.map none))]:=by kernel_rfl
attribute [local go_sem] QH9
def QzD(hp:Qb)(g:MapsD)(kc:Nat)(e:E)(htx:e.tx=0):VCallsG prog 26 [.ptr kc 0,.agg e.d] hp g (fun r h' g'=>r=.bool true/\(∃ x,h'=hp++[x])/\g'=g):=by
 refine Q5 (fn:=Tryz.f26) Tryz.func26 rfl (by kernel_rfl) (by simp[Tryz.f26]) (fun c=>?_)
 refine VWpG.first (Qa c) ?_
 (unfold Tryz.f26; refine rn trivial ?_)
 refine VWpG.seq ?_
 refine VWpG.first (Qa c) ?_
 refine rn @htx ?_
 refine VWpG.cond rfl (fun hZ=>?_) (fun hZ=>?_)
 ·refine VWpG.plain (Qa c) ?_
  refine rn trivial ?_
  exact⟨_,rfl⟩
 ·cases hZ
def Rep.app(h:Rep f kc bt bp bu n hp g A)(r:Qb):Rep f kc bt bp bu n (hp++r) g A:=by
 obtain⟨X,h1,h2,h3,h4⟩:=h
 refine⟨X,h1,h2,⟨by rw[Jb]; have:=h3.hk; omega,by rw[Qs h3.hk]; exact h3.hc,fun x hx=>(h3.run x hx).fr ((FrH.refl hp (fun _=>False)).app r) id fun _ _=>id,h3.nd⟩,h4⟩
def Rep.le(h:Rep f kc bt bp bu n hp g A)(hm:n<=m):Rep f kc bt bp bu m hp g A:=by
 obtain⟨X,h1,h2,h3,h4⟩:=h
 exact⟨X,h1,h2,h3,fun t ht=>Jf (h4 t ht) hm⟩
def QFQ(f:Int)(kc bt bp bu n:Nat)(hbb:bt≠bp/\bt≠bu/\bp≠bu)(hp:Qb)(g:MapsD)(A:Ck)(e:E)(hn:n<=9000)(h:Rep f kc bt bp bu n hp g A) :
 VCallsG prog 26 [.ptr kc 0,.agg e.d] hp g (fun r h' g'=>∃ b,r=.bool b/\b=ckB f A e/\(b=true->Rep f kc bt bp bu (n+1) h' g' (ckS f A e))):=by
 by_cases htx:e.tx=0
 ·refine (QzD hp g kc e htx).mono ?_
  rintro r h' g' ⟨rfl,⟨x,rfl⟩,rfl⟩
  refine⟨true,rfl,by rw[ckB,if_pos htx],fun _=>?_⟩
  rw[ckS,if_pos htx]
  exact(h.app _).le (Nat.le_succ n)
 ·exact QDr f kc bt bp bu n hbb hp g A e hn htx h
def ckL(f:Int):Ck->List E->Bool
 | _,[]=>true
 | A,e::r=>ckB f A e&&ckL f (ckS f A e) r
def ckA(f:Int):Ck->List E->Ck
 | A,[]=>A
 | A,e::r=>ckA f (ckS f A e) r
def Ck0:Ck:=⟨[],[],[]⟩
def QzE(x:Lg):Int:=if lgB x=true then (if ckL x.f Ck0 x.es=true then 0 else 13) else 26
def Qog(f:Int):∀ (l m:List E) (A:Ck),ckL f A (l++m)=(ckL f A l&&ckL f (ckA f A l) m)
 | [],m,A=>by simp[ckL,ckA]
 | e::r,m,A=>by simp only[JF,ckL,ckA,Qog f r m,JU]
def Qwd(f:Int):∀ (l m:List E) (A:Ck),ckA f A (l++m)=ckA f (ckA f A l) m
 | [],m,A=>rfl
 | e::r,m,A=>by simp only[JF,ckA,Qwd f r m]
def maps3{c:Qfj}{w0 w:World}{β:Map}{hp:Qb}{a b d:Nat×QzY}(h:MapsD.At c [a,b,d] w0 w β hp):MapsD.At c [d,b,a] w0 w β hp:=by
 obtain⟨⟨h1,h2⟩,h3⟩:=h
 refine⟨⟨?_,fun p hp=>h2 p (by simp at hp |-; rcases hp with h | h | h<;>simp[h])⟩,h3⟩
 simp at h1 |-
 exact⟨⟨Ne.symm h1.2,Ne.symm h1.1.2⟩,Ne.symm h1.1.1⟩
def WeakG.trans(h:WeakG Γ S g S' g')(h':WeakG Γ S' g' S'' g''):WeakG Γ S g S'' g'':=fun O β a w hs=>by
 obtain⟨β',hs'⟩:=h O β a w hs
 exact h' O β' a w hs'
def WeakG.maps3:WeakG (MapsIn c) S [a,b,d] S [d,b,a]:=fun O β ac w hs=>⟨β,hs.defers,hs.size,hs.tm,hs.heap,hs.evo,Go.Proofs.YtomgpphpkcoolaaGreat.maps3 hs.g⟩
def Qob{l:List E}(h:i<l.length):l.take (i+1)=l.take i++[l.getD i E0]:=by
 rw[Qf l i h,JC h]
def Qzn(h:i<l.length):l=l.take i++l.getD i E0::l.drop (i+1):=by
 have:=List.take_append_drop (i+1) l
 rw[Qob h,Jk] at this
 exact this.symm
structure CL(x:Lg)(bt bp bu:Nat) where
 i:Nat
 hi:i<=x.es.length
 hp:Qb
 g:MapsD
 rep:Rep x.f 1 bt bp bu i hp g (ckA x.f Ck0 (x.es.take i))
 ok:ckL x.f Ck0 (x.es.take i)=true
def QzI(x:Lg)(hx:x.es.length<=9223372036854775807):VCalls prog 20 [.agg x.c] [] (Ret (.int .i64 (QzE x))):=by
 refine QcP (fn:=Tryz.f20) Tryz.func20 rfl (by kernel_rfl) (by simp[Tryz.f20]) (fun c=>?_)
 have hv:=Qpj x hx
 unfold Lg.c at hv
 refine VWpG.first (Qa c) ?_
 (unfold Tryz.f20; refine rn trivial ?_)
 refine VWpG.seq ?_
 refine VWpG.first (Qa c) ?_
 refine rn trivial ?_
 refine Qae hv rfl ?_
 refine rn trivial ?_
 cases hlg:lgB x
 ·refine VWpG.cond rfl (fun hZ=>?_) (fun hZ=>?_)
  ·refine VWpG.plain (Qa c) ?_
   refine rn trivial ?_
   rw[QzE,hlg]; rfl
  ·cases hZ
 refine VWpG.cond rfl (fun hZ=>?_) (fun hZ=>?_)
 ·cases hZ
 refine VWpG.plain (Qa c) ?_
 refine rn trivial ?_
 refine VWpG.seq ?_
 refine VWpG.cut1 (Qa c) 2 [0,0] ?_
 refine rn trivial ?_
 refine QP rfl (fun c=>by simp) (Qdt rfl rfl fun bt h1=>QdE ?_)
 refine rn trivial ?_
 refine QP rfl (fun c=>by simp) (Qdt rfl rfl fun bp h2=>QdE ?_)
 refine rn trivial ?_
 refine QP rfl (fun c=>by simp) (Qdt rfl rfl fun bu h3=>?_)
 refine rn trivial ?_
 have hbb:bt≠bp/\bt≠bu/\bp≠bu:=⟨h2 (bt,[]) (by simp),h3 (bt,[]) (by simp),h3 (bp,[]) (by simp)⟩
 have hes:x.es.length<=4096:=(QaG hlg).2.2.1
 refine VWpG.seq ?_
 refine VWpG.first (Qa c) ?_
 refine rn trivial ?_
 refine VWpG.block ?_
 have rep0:Rep x.f 1 bt bp bu 0 [⟨26,true,[.int .i64 x.f,.pv (.sl (fz encE x.es)),.int .i64 x.d]⟩,⟨98,true,[.int .i64 x.f,.pv (.lit (.map (some bt))),.pv (.lit (.map (some bp))),.pv (.lit (.map (some bu)))]⟩] [(bt,[]),(bp,[]),(bu,[])] (ckA x.f Ck0 (x.es.take 0)):=
  ⟨[],rfl,rfl,⟨by simp,rfl,by simp,by simp⟩,by simp[ckA,Ck0]⟩
 refine VWpG.loop (fun s:CL x bt bp bu=>⟨28,2,[(19,.int .i64 s.i),(18,.int .i64 x.es.length),(17,.pv (.sl (fz encE x.es))),(3,.ptr 1 0)],s.hp⟩) (fun s=>s.g) (fun s=>x.es.length-s.i) ⟨0,Jl _,_,_,rep0,rfl⟩ ?_ ?_
 ·refine WeakG.trans (WeakG.slots (S':=⟨28,2,[(19,.int .i64 (0:Nat)),(18,.int .i64 x.es.length),(17,.pv (.sl (fz encE x.es))),(3,.ptr 1 0)],_⟩) rfl rfl ?_) WeakG.maps3
  intro p hp
  simp only[Jh,Jg,or_false] at hp
  rcases hp with rfl | rfl | rfl | rfl<;>exact .inl rfl
 rintro⟨i,hi,hp,g,rep,ok⟩
 dsimp only
 refine VWpG.first (Qa c) ?_
 refine rn trivial ?_
 refine VWpG.seq ?_
 by_cases hlt:i<x.es.length
 ·have hg:=Qn4 x.es i hlt
  have hd:decide ((i:Int)<x.es.length)=true:=by simp; omega
  have hrk:1<hp.length:=by obtain⟨X,_,_,h,_⟩:=rep; exact h.hk
  refine VWpG.cond (t:=true) (by rw[<- hd]; rfl) (fun _=>?_) (fun h=>by cases h)
  refine VWpG.plain (Qa c) ?_
  refine rn trivial ?_
  refine VWpG.seq ?_
  refine VWpG.block ?_
  refine VWpG.first (Qa c) ?_
  refine rn @hg ?_
  refine VWpG.seq ?_
  refine VWpG.cut1 (Qa c) 2 [] ?_
  refine rn trivial ?_
  refine QcU rfl rfl rfl (QFQ x.f 1 bt bp bu i hbb _ g _ (x.es.getD i E0) (by omega) (rep.app _)) ?_
  rintro r h' g' ⟨b,rfl,hb,hrep⟩
  cases b
  ·(refine rn trivial ?_; try with_reducible exact ⟨⟩)
   refine VWpG.cond rfl (fun hZ=>?_) (fun hZ=>?_)
   ·refine VWpG.plain (Qa c) ?_
    refine rn trivial ?_
    rw[QzE,if_pos hlg,if_neg]
    rw[Qzn hlt,Qog,ckL,<- hb]
    simp
   ·cases hZ
  ·(refine rn trivial ?_; try with_reducible exact ⟨⟩)
   refine VWpG.cond rfl (fun hZ=>?_) (fun hZ=>?_)
   ·cases hZ
   refine VWpG.plain (Qa c) ?_
   refine rn trivial ?_
   refine VWpG.plain (Qa c) ?_
   refine rn trivial ?_
   have hA:ckA x.f Ck0 (x.es.take (i+1))=ckS x.f (ckA x.f Ck0 (x.es.take i)) (x.es.getD i E0):=by rw[Qob hlt,Qwd]; rfl
   refine⟨⟨i+1,hlt,h',g',by rw[hA]; exact hrep rfl,by rw[Qob hlt,Qog,ok,ckL,<- hb]; rfl⟩,by dsimp only; omega,WeakG.slots rfl rfl ?_⟩
   intro p hp
   simp only[Jh,Jg,or_false] at hp
   rcases hp with rfl | rfl | rfl | rfl<;>exact .inl rfl
 ·have hd:decide ((i:Int) < x.es.length) = false:=by simp; omega
  have hie:i=x.es.length:=by omega
  subst hie
  refine VWpG.cond (t:=false) (by rw[<- hd]; rfl) (fun h=>by cases h) (fun _=>?_)
  refine VWpG.plain (Qa c) ?_
  refine rn trivial ?_
  refine VWpG.plain (Qa c) ?_
  refine rn trivial ?_
  rw[List.take_length] at ok
  rw[QzE,if_pos hlg,if_pos ok]
end
section
attribute [local go_sem] Ce.d Ch.d E.d Lg.c QV Qao
def exE(es:List E)(i:Nat)(p:E->Bool):Bool:=!(Jm i).all fun k=>!p (es.getD k E0)
def QbF(es:List E)(i:Nat)(p:E->Bool):exE es (i+1) p=(exE es i p||p (es.getD i E0)):=by
 unfold exE
 rw[List.range_succ,List.all_append]
 simp[Bool.not_and]
def undp(n:Int)(x:E):Bool:=decide (x.kind=2)&&decide (x.ref=n)
def Qz5(es:List E)(i:Nat)(n:Int):Bool:=exE es i (undp n)
def Ql8(es:List E)(pg:Int):Nat->Int
 | 0=>0
 | k+1=>if QdY (es.getD k E0)=true/\(es.getD k E0).c.pg=pg then (es.getD k E0).lsn else Ql8 es pg k
def QcX(es:List E)(tx:Int):Nat->Int
 | 0=>0
 | k+1=>if (es.getD k E0).tx=tx then (es.getD k E0).lsn else QcX es tx k
def Qwz(es:List E)(tx:Int):Nat->Bool
 | 0=>false
 | k+1=>if (es.getD k E0).tx=tx then (Qwz es tx k||decide ((es.getD k E0).kind=4)) else Qwz es tx k
def Qzp(tx:Int)(x:E):Bool:=decide (x.tx=tx)&&(decide (x.kind=3)||decide (x.kind=5))
def QwK(f tx:Int)(x:E):Bool:=decide (x.tx=tx)&&(decide (0<x.ptx)&&decide (x.ptx<f))
attribute [local go_sem] Qfg Qdp QcE Qa3 QaB
end
section
abbrev Row:=Nat->Ce
def encYr:Enc Row:=⟨32,fun r=>(Jm 16).flatMap fun j=>[.lit (.bool (r j).set),.str (r j).data],by decide,fun _=>rfl⟩
def QG4(l:List Row):(cells encYr l).length=l.length*32:=QJ encYr l
def QHd(h:l.length=len):QgF n hp 0 32 len (some (cells encYr l))=some (.sl (fz encYr l)):=QX encYr h
def Qgf:Row:=fun _=>Ce0
def QIp(n:Nat):mk [.bool false,.pv (.str []),.bool false,.pv (.str []),.bool false,.pv (.str []),.bool false,.pv (.str []),.bool false,.pv (.str []),.bool false,.pv (.str []),.bool false,.pv (.str []),.bool false,.pv (.str []),.bool false,.pv (.str []),.bool false,.pv (.str []),.bool false,.pv (.str []),.bool false,.pv (.str []),.bool false,.pv (.str []),.bool false,.pv (.str []),.bool false,.pv (.str []),.bool false,.pv (.str [])] n=cells encYr (Kd n Qgf):=Qo9 encYr Qgf n
attribute [local go_sem] QIp Ce.d Ch.d E.d Qhr QmP QmM Qlc Qk9 Qmo QdB QG4 QHd QrI QrH QrG Jv Lg.c
def comp(tx:Int)(e:E):Bool:=decide (e.kind=3)&&decide (e.tx=tx)
def Qby(es:List E)(n:Nat)(tx:Int):Bool:=exE es n (comp tx)
def Qki (es:List E) (tx:Int):∀ i,Qcc (QmZ es i) tx = if Qby es i tx = true then some (.agg []) else none
 | 0=>rfl
 | i + 1=>by
   have ih:=Qki es tx i
   unfold Qby at ih |-
   rw[QmZ,QbF]
   generalize es.getD i E0=e at *
   by_cases hk:e.kind=3
   ·rw [if_pos hk,Qpq,ih]
    by_cases hr:e.tx=tx
    ·rw [if_pos hr]
     simp[comp,hk,hr]
    ·rw [if_neg hr]
     simp[comp,hr]
   ·rw [if_neg hk,ih]
    simp[comp,hk]
def Qky(es:List E)(com:Int->Bool)(p:Int)(s:Int):Nat->Ce
 | 0=>Ce0
 | i+1=>if QdY (es.getD i E0)=true/\com (es.getD i E0).tx=true/\(es.getD i E0).c.pg=p/\(es.getD i E0).c.sl=s then (es.getD i E0).c.a else Qky es com p s i
def Qej(es:List E)(com:Int->Bool)(pages:Nat)(i:Nat):List Row:=(Jm pages).map fun p=>fun s=>Qky es com (p:Nat) (s:Nat) i
def QcS(es:List E)(com:Int->Bool)(pages i:Nat):(Qej es com pages i).length=pages:=by simp[Qej]
def Qty(es:List E)(com:Int->Bool)(pages:Nat):Qej es com pages 0=Kd pages Qgf:=by
 unfold Qej
 rw[List.eq_replicate_iff]
 refine⟨by simp,fun b hb=>?_⟩
 obtain⟨p,_,rfl⟩:=Jw.1 hb
 rfl
def QAB(h:lgB x=true)(hi:i<x.es.length)(hc:QdY (x.es.getD i E0)=true):(0<=(x.es.getD i E0).c.pg/\(x.es.getD i E0).c.pg<64)/\(0<=(x.es.getD i E0).c.sl/\(x.es.getD i E0).c.sl<16)/\1<=(x.es.getD i E0).tx:=by
 unfold lgB at h
 rw[Jj,JG] at h
 have h2:=h.2 i (JD.2 hi)
 unfold lgC at h2
 rw[Jj] at h2
 have h4:=h2.2
 generalize x.es.getD i E0=e at *
 unfold E.okB at h4
 rw[Jj] at h4
 have h5:=h4.2
 unfold QdY at hc
 simp only[JP,beq_iff_eq] at hc
 unfold E.kindB Ch.okB txB at h5
 rcases hc with hk | hk
 ·rw[if_pos hk] at h5; simp at h5; omega
 ·rw[if_neg (by omega),if_pos hk] at h5; simp at h5; omega
def Row.put(r:Row)(s:Nat)(c:Ce):Row:=fun j=>if s=j then c else r j
def QxU{es:List E}{com:Int->Bool}{pages i p s:Nat}(hc:QdY (es.getD i E0)=true)(ht:com (es.getD i E0).tx=true)(hp:(es.getD i E0).c.pg=p)(hs:(es.getD i E0).c.sl=s) :
 Qej es com pages (i+1)=(Qej es com pages i).set p (Row.put ((Qej es com pages i).getD p Qgf) s (es.getD i E0).c.a):=by
 refine List.ext_getElem (by simp[Qej]) fun q h1 h2=>?_
 rw[QcS] at h1
 rw[List.getElem_set]
 simp only[Qej,J5,List.getElem_range]
 by_cases hq:p=q
 ·subst hq
  rw[if_pos rfl]
  funext j
  rw[Ji,J2,JV h1]
  simp only[J9,Option.getD_some,Row.put]
  rw[Qky]
  by_cases hj:s=j
  ·rw[if_pos hj,if_pos ⟨hc,ht,hp,by omega⟩]
  ·rw[if_neg hj,if_neg (fun h=>hj (by omega))]
 ·rw [if_neg hq]
  funext j
  rw[Qky,if_neg (fun h=>hq (by omega))]
def QtA{es:List E}{com:Int->Bool}{pages i:Nat}(h:¬ (QdY (es.getD i E0)=true/\com (es.getD i E0).tx=true/\(es.getD i E0).c.pg<pages)):Qej es com pages (i+1)=Qej es com pages i:=by
 unfold Qej
 refine List.map_congr_left fun p hp=>?_
 have:=JD.1 hp
 funext j
 rw[Qky,if_neg (fun q=>h ⟨q.1,q.2.1,by omega⟩)]
def Qs6 (a b:DV):∀ (off:Nat) (L:List DV),off + 2<=L.length->L.take off ++ [a,b] ++ L.drop (off + 2) = (L.set off a).set (off + 1) b
 | 0,x::y::r,_=>by simp
 | 0,[_],h=>by simp at h
 | 0,[],h=>by simp at h
 | off+1,[],h=>by simp at h
 | off + 1,x :: r,h=>by
   have:=Qs6 a b off r (by simp at h; omega)
   simp only[List.take_succ_cons,List.drop_succ_cons,List.set_cons_succ,JF]
   rw[<- this]
def QIk(l:List Row)(p s:Nat)(h:p<l.length)(hs:s<16)(c:Ce):((cells encYr l).set (p*32+s*2) (.bool c.set)).set (p*32+s*2+1) (.pv (.str c.data))=cells encYr (l.set p (Row.put (l.getD p Qgf) s c)):=by
 have hs':s=0\/s=1\/s=2\/s=3\/s=4\/s=5\/s=6\/s=7\/s=8\/s=9\/s=10\/s=11\/s=12\/s=13\/s=14\/s=15:=by omega
 have h1:=QHI encYr l p (s*2) (Row.put l[p] s ⟨c.set,(l[p] s).data⟩) (.lit (.bool c.set)) h (by show s*2<32; omega) (by
  rcases hs' with rfl | rfl | rfl | rfl | rfl | rfl | rfl | rfl | rfl | rfl | rfl | rfl | rfl | rfl | rfl | rfl<;>rfl)
 have h2:=QHI encYr (l.set p (Row.put l[p] s ⟨c.set,(l[p] s).data⟩)) p (s*2+1) (Row.put l[p] s c) (.str c.data) (by rw[JQ]; exact h) (by show s*2+1<32; omega) (by
  rw[List.getElem_set_self]
  rcases hs' with rfl | rfl | rfl | rfl | rfl | rfl | rfl | rfl | rfl | rfl | rfl | rfl | rfl | rfl | rfl | rfl<;>rfl)
 rw[List.set_set] at h2
 rw[Qf l p h,<- h2,<- h1]
 rfl
def QD6(x:Lg)(pages at_:Int):List Row×Int:=if QbS x=false then ([],26) else if pages<1\/64<pages\/QbC x at_=false then ([],1) else (Qej x.es (Qby x.es at_.toNat) pages.toNat at_.toNat,0)
structure CoS(es:List E)(com:Int->Bool)(pg n:Nat) where
 i:Nat
 hi:i<=n
 H:Qb
 h1:1<H.length
 hb:H[1]?=some ⟨53,true,cells encYr (Qej es com pg i)⟩
def Qkj(c:Qfj)(x:Lg)(com:Int->Bool)(pg k i b:Nat)(hlt:i<k)(S:St)(g:MapsD)(h1:1<S.hp.length)(hb:S.hp[1]?=some ⟨53,true,cells encYr (Qej x.es com pg (i+1))⟩)(hn:S.nt=78)
 (ht:∀ q∈[(41,DV.int .i64 ((i+1:Nat):Int)),(40,DV.int .i64 k),(39,DV.pv (.sl (fz encE (x.es.take k)))),(9,DV.pv (.lit (.map (some b)))),(8,DV.own 1 32 0 pg),(1,DV.int .i64 pg)],V.look S.tm q.1=q.2\/q.2=.any) :
 ∃ j:CoS x.es com pg k,k-j.i<k-i/\WeakG (MapsIn c) S g ⟨78,j.H.length,[(41,.int .i64 j.i),(40,.int .i64 k),(39,.pv (.sl (fz encE (x.es.take k)))),(9,.pv (.lit (.map (some b)))),(8,.own 1 32 0 pg),(1,.int .i64 pg)],j.H⟩ g:=
 ⟨⟨i+1,hlt,S.hp,h1,hb⟩,by dsimp only; omega,WeakG.slots hn rfl ht⟩
def Qkl(x:Lg)(hx:x.es.length<=9223372036854775807)(pages at_:Int):VCalls prog 8 [.agg x.c,.int .i64 pages,.int .i64 at_] [] (Ret (.tup [.pv (.sl (fz encYr (QD6 x pages at_).1)),.int .i64 (QD6 x pages at_).2])):=by
 refine VCalls.unwk ?_
 refine QcP (fn:=Tryz.f8) Tryz.func8 rfl (by kernel_rfl) (by simp[Tryz.f8]) (fun c=>?_)
 have hw:=QpG x hx
 have hu:=QpH x at_
 have eS:QD6 x pages at_=if QbS x=false then ([],26) else if pages<1\/64<pages\/QbC x at_=false then ([],1) else (Qej x.es (Qby x.es at_.toNat) pages.toNat at_.toNat,0):=rfl
 unfold Lg.c at hw hu
 generalize QD6 x pages at_=res at *
 refine VWpG.first (Qa c) ?_
 (unfold Tryz.f8; refine rn trivial ?_)
 refine VWpG.seq ?_
 refine VWpG.plain (Qa c) ?_
 refine rn trivial ?_
 cases hwb:QbS x
 ·rw [hwb] at hw
  rw[if_pos hwb] at eS
  subst eS
  refine rn F ?_
  repeat' (first
   | with_reducible exact⟨⟩
   | refine vp F (hw) ?_)
  all_goals rfl
 rw[hwb] at hw
 rw[if_neg (by rw[hwb]; decide)] at eS
 by_cases hp1:pages<1
 ·rw [if_pos (.inl hp1)] at eS
  subst eS
  have F:=@hp1
  refine rn F ?_
  repeat' (first
   | with_reducible exact⟨⟩
   | refine vp F (hw) ?_)
  all_goals rfl
 by_cases hp2:64<pages
 ·rw [if_pos (.inr (.inl hp2))] at eS
  subst eS
  have F:=(Ja @hp1 @hp2)
  refine rn F ?_
  repeat' (first
   | with_reducible exact⟨⟩
   | refine vp F (hw) ?_)
  all_goals rfl
 cases hun:QbC x at_
 ·rw [hun] at hu
  rw[if_pos (.inr (.inr hun))] at eS
  subst eS
  have F:=(Ja @hp1 @hp2)
  refine rn F ?_
  repeat' (first
   | with_reducible exact⟨⟩
   | refine vp F (hw) ?_
   | refine vp F (hu) ?_)
  all_goals rfl
 rw[hun] at hu
 rw[if_neg (by rw[hun]; simp; omega)] at eS
 obtain⟨pg,rfl⟩:∃ n:Nat,pages=n:=⟨pages.toNat,by omega⟩
 obtain⟨k,rfl⟩:∃ n:Nat,at_=n:=⟨at_.toNat,by unfold QbC at hun; simp at hun; omega⟩
 have hk:k<=x.es.length:=by unfold QbC at hun; simp at hun; omega
 have hlg:lgB x=true:=by unfold QbS at hwb; simp at hwb; exact hwb.1
 have hes:x.es.length<=4096:=(QaG hlg).2.2.1
 simp only[Jr] at eS
 have F:=(Ja @hp1 @hp2)
 refine rn F ?_
 repeat' (first
  | with_reducible exact⟨⟩
  | refine vp F (hw) ?_
  | refine vp F (hu) ?_)
 refine VWpG.first (Qa c) ?_
 refine rn trivial ?_
 rw[<- Qty x.es (Qby x.es k) pg]
 refine VWpG.seq ?_
 refine VWpG.cut1 (Qa c) 2 [] ?_
 refine rn trivial ?_
 refine QcU rfl rfl rfl (Qwj _ [] x k hk hes) ?_
 rintro r h' g' ⟨b,rfl,-,⟨ys,rfl⟩,rfl⟩
 refine rn trivial ?_
 have hk':(k:Int)<=x.es.length:=by omega
 refine VWpG.seq ?_
 refine VWpG.first (Qa c) ?_
 refine rn @hk' ?_
 refine VWpG.block ?_
 have hkl:((x.es.take k).length:Int)=k:=by rw[Jn]; omega
 have hfin:∀ i,i<k->(x.es.take k).getD i E0=x.es.getD i E0:=fun i hi=>by
  rw[Ji,Ji,List.getElem?_take,if_pos hi]
 refine VWpG.loop (fun s:CoS x.es (Qby x.es k) pg k=>⟨78,s.H.length,[(41,.int .i64 s.i),(40,.int .i64 k),(39,.pv (.sl (fz encE (x.es.take k)))),(9,.pv (.lit (.map (some b)))),(8,.own 1 32 0 pg),(1,.int .i64 pg)],s.H⟩) (fun s=>[(b,Qah kI (QmZ x.es k))]) (fun s=>k-s.i) ⟨0,Jl _,(⟨26,true,[.int .i64 x.f,.pv (.sl (fz encE x.es)),.int .i64 x.d]⟩::⟨53,true,cells encYr (Qej x.es (Qby x.es k) pg 0)⟩::ys:Qb),by simp,rfl⟩ ?_ ?_
 ·refine WeakG.slots rfl rfl ?_
  intro p hp
  simp only[Jh,Jg,or_false] at hp
  rcases hp with rfl | rfl | rfl | rfl | rfl | rfl
  ·exact .inl rfl
  ·exact .inl (congrArg (DV.int .i64) (by omega))
  ·exact .inl rfl
  ·exact .inl rfl
  ·exact .inl rfl
  ·exact .inl rfl
 rintro⟨i,hi,H,h1,hb⟩
 dsimp only
 refine VWpG.first (Qa c) ?_
 refine rn trivial ?_
 refine VWpG.seq ?_
 by_cases hlt:i<k
 ·have hg := Qn4 (x.es.take k) i (by rw [Jn]; omega)
  rw[hfin i hlt] at hg
  have hd:decide ((i:Int)<k)=true:=by simp; omega
  refine VWpG.cond (t:=true) (by rw[<- hd]; rfl) (fun _=>?_) (fun h=>by cases h)
  refine VWpG.plain (Qa c) ?_
  refine rn trivial ?_
  refine VWpG.seq ?_
  refine VWpG.block ?_
  have hhit:=fun p s=>@QxU x.es (Qby x.es k) pg i p s
  have hmis:=@QtA x.es (Qby x.es k) pg i
  have hok:=QAB hlg (show i<x.es.length by omega)
  generalize x.es.getD i E0=e at *
  have hbc:Qc H 1=some (cells encYr (Qej x.es (Qby x.es k) pg i)):=QbG hb
  refine VWpG.first (Qa c) ?_
  refine rn (Ja @hg @h1) ?_
  refine VWpG.seq ?_
  refine VWpG.cut1 (Qa c) 3 [] ?_
  refine rn @h1 ?_
  refine QP rfl (fun c=>by simp) (Qb7 (zv:=.agg #[]) (L:=QmZ x.es k) (k:=e.tx) rfl rfl umS Qik (Q7 zS) (fun w β hp=>.agg [] #[] rfl (fun i d h=>by cases h)) rfl (JW.2 rfl) (Qab rfl) ?_)
  rw[Qki]
  cases hcm:Qby x.es k e.tx
  ·(refine rn @h1 ?_; try with_reducible exact ⟨⟩)
   refine VWpG.first (Qa c) ?_
   refine rn @h1 ?_
   refine VWpG.cond rfl (fun hZ=>?_) (fun hZ=>?_)
   ·cases hZ
   refine VWpG.plain (Qa c) ?_
   refine rn trivial ?_
   refine VWpG.plain (Qa c) ?_
   refine rn trivial ?_
   refine Qkj c x _ pg k i b hlt _ _ ?_ ?_ rfl ?_
   ·show 1 < (H ++ _ ++ _).length
    simp; try omega
   ·show (H ++ _ ++ _)[1]? = _
    rw[Jk,Je h1,hmis (fun h=>by rw[hcm] at h; cases h.2.1)]
    exact hb
   ·intro q hq
    simp only[Jh,Jg,or_false] at hq
    rcases hq with rfl | rfl | rfl | rfl | rfl | rfl<;>exact .inl rfl
  ·(refine rn @h1 ?_; try with_reducible exact ⟨⟩)
   have hch':VCalls prog 17 [.agg e.d] [] (Ret (.bool (QdY e))):=QhL e
   unfold E.d at hch'
   cases hce:QdY e
   ·rw [hce] at hch'
    refine VWpG.first (Qa c) ?_
    refine rn @h1 ?_
    refine Qae hch' rfl ?_
    refine rn @h1 ?_
    refine VWpG.cond rfl (fun hZ=>?_) (fun hZ=>?_)
    ·cases hZ
    refine VWpG.plain (Qa c) ?_
    refine rn trivial ?_
    refine VWpG.plain (Qa c) ?_
    refine rn trivial ?_
    refine Qkj c x _ pg k i b hlt _ _ ?_ ?_ rfl ?_
    ·show 1 < (H ++ _ ++ _).length
     simp; try omega
    ·show (H ++ _ ++ _)[1]? = _
     rw[Jk,Je h1,hmis (fun h=>by rw[hce] at h; cases h.1)]
     exact hb
    ·intro q hq
     simp only[Jh,Jg,or_false] at hq
     rcases hq with rfl | rfl | rfl | rfl | rfl | rfl<;>exact .inl rfl
   ·rw [hce] at hch'
    refine VWpG.first (Qa c) ?_
    refine rn @h1 ?_
    refine Qae hch' rfl ?_
    refine rn @h1 ?_
    obtain⟨⟨p0,p64⟩,⟨s0,s16⟩,t1⟩:=hok hce
    obtain⟨p,hp⟩:∃ p:Nat,e.c.pg=p:=⟨e.c.pg.toNat,by omega⟩
    obtain⟨sl,hs⟩:∃ s:Nat,e.c.sl=s:=⟨e.c.sl.toNat,by omega⟩
    by_cases hpp:p<pg
    ·have hd3:decide (e.c.pg < (pg:Int)) = true:=by simp; omega
     have hset:=QIk (Qej x.es (Qby x.es k) pg i) p sl (by rw[QcS]; exact hpp) (by omega) e.c.a
     have hrl:=QcS x.es (Qby x.es k) pg i
     have hcl:(cells encYr (Qej x.es (Qby x.es k) pg i)).length=pg*32:=by rw[QJ,hrl]; rfl
     have hb2:p*32+sl*2+2<=pg*32:=by omega
     rw[<- Qs6 _ _ _ _ (by rw[hcl]; exact hb2)] at hset
     have hH1:(H.length==1)=false:=by simp; omega
     have hu2:=hhit p sl hce hcm hp hs
     refine VWpG.cond (t:=true) (by rw[<- hd3]; rfl) (fun hZ=>?_) (fun hZ=>?_)
     rotate_left
     ·cases hZ
     refine VWpG.plain (Qa c) ?_
     refine rn trivial ?_
     refine Qfr (by kernel_rfl) (by kernel_rfl) ?_
     refine rn (Ja @h1 (Ja @hb (Ja @hbc (Ja @hp (Ja @hs (Ja @hrl (Ja @hb2 (Ja @hset @hH1)))))))) ?_
     refine VWpG.plain (Qa c) ?_
     refine rn trivial ?_
     refine Qkj c x _ pg k i b hlt _ _ ?_ ?_ rfl ?_
     ·show 1 < (Ql H 1 _ ++ _ ++ _).length
      simp[Qv]; try omega
     ·show (Ql H 1 _ ++ _ ++ _)[1]? = _
      rw[Jk,Je (by rw[Qv]; exact h1),Qmj hb,hu2]
     ·intro q hq
      simp only[Jh,Jg,or_false] at hq
      rcases hq with rfl | rfl | rfl | rfl | rfl | rfl<;>exact .inl rfl
    ·have hd3:decide (e.c.pg < (pg:Int)) = false:=by simp; omega
     refine VWpG.cond (t:=false) (by rw[<- hd3]; rfl) (fun hZ=>?_) (fun hZ=>?_)
     ·cases hZ
     refine VWpG.plain (Qa c) ?_
     refine rn trivial ?_
     refine VWpG.plain (Qa c) ?_
     refine rn trivial ?_
     refine Qkj c x _ pg k i b hlt _ _ ?_ ?_ rfl ?_
     ·show 1 < (H ++ _ ++ _).length
      simp; try omega
     ·show (H ++ _ ++ _)[1]? = _
      rw[Jk,Je h1,hmis (fun h=>by have:=h.2.2; omega)]
      exact hb
     ·intro q hq
      simp only[Jh,Jg,or_false] at hq
      rcases hq with rfl | rfl | rfl | rfl | rfl | rfl<;>exact .inl rfl
 ·have hd:decide ((i:Int) < k) = false:=by simp; omega
  have hie:i=k:=by omega
  subst hie
  refine VWpG.cond (t:=false) (by rw[<- hd]; rfl) (fun h=>by cases h) (fun _=>?_)
  refine VWpG.plain (Qa c) ?_
  refine rn trivial ?_
  have hbc:Qc H 1=some (cells encYr (Qej x.es (Qby x.es i) pg i)):=QbG hb
  have hrl:=QcS x.es (Qby x.es i) pg i
  refine VWpG.plain (Qa c) ?_
  refine rn (Ja @h1 (Ja @hb (Ja @hbc @hrl))) ?_
  subst eS
  rfl
end
section
attribute [local go_sem] Ce.d Ch.d E.d Qhr QmP QmM Qlc Qk9 Qmo QdB QrI QrH QrG Jv Lg.c
def QoD(com:Int->Bool)(pg sl tx:Int)(e:E):Bool:=QdY e&&(decide (e.c.pg=pg)&&(decide (e.c.sl=sl)&&(com e.tx||decide (e.tx=tx))))
def QwF(es:List E)(com:Int->Bool)(pg sl tx:Int):Nat->Ce×Int
 | 0=>(Ce0,0)
 | i+1=>if QoD com pg sl tx (es.getD i E0)=true then ((es.getD i E0).c.a,(es.getD i E0).lsn) else QwF es com pg sl tx i
def Qtd(x:Lg)(pg sl tx at_:Int):(Ce×Int)×Int:=if QbS x=false then ((Ce0,0),26) else if pg<0\/64<=pg\/sl<0\/16<=sl\/QbC x at_=false then ((Ce0,0),1) else (QwF x.es (Qby x.es at_.toNat) pg sl tx at_.toNat,0)
structure SeS(x:Lg)(n:Nat)(p:Nat->Prop) where
 i:Nat
 hi:i<=n
 H:Qb
 h1:1<H.length
 hb0:Qc H 0=some x.c
 hb1:H[1]?=some ⟨48,true,[.bool false,.pv (.str [])]⟩
 ok:p i
def Qei(c:Qfj)(x:Lg)(k i b:Nat)(p:Nat->Prop)(pg sl tx:Int)(hi:i<k)(S:St)(g:MapsD)(h1:1<S.hp.length)(hb0:Qc S.hp 0=some x.c)(hb1:S.hp[1]?=some ⟨48,true,[.bool false,.pv (.str [])]⟩)(ok:p i)(hn:S.nt=97)
 (ht:∀ q∈[(14,DV.int .i64 ((i:Nat)-1:Int)),(13,DV.pv (.lit (.map (some b)))),(10,DV.ptr 1 0),(5,DV.ptr 0 0),(1,DV.int .i64 pg),(2,DV.int .i64 sl),(3,DV.int .i64 tx)],V.look S.tm q.1=q.2\/q.2=.any) :
 ∃ j:SeS x k p,j.i<i+1/\WeakG (MapsIn c) S g ⟨97,j.H.length,[(14,.int .i64 ((j.i:Nat)-1:Int)),(13,.pv (.lit (.map (some b)))),(10,.ptr 1 0),(5,.ptr 0 0),(1,.int .i64 pg),(2,.int .i64 sl),(3,.int .i64 tx)],j.H⟩ g:=
 ⟨⟨i,by omega,S.hp,h1,hb0,hb1,ok⟩,by dsimp only; omega,WeakG.slots hn rfl ht⟩
def QDn (x:Lg) (hx:x.es.length<=9223372036854775807) (pg sl tx at_:Int):VCalls prog 19 [.agg x.c,.int .i64 pg,.int .i64 sl,.int .i64 tx,.int .i64 at_] [] (Ret (.tup [.agg (Qtd x pg sl tx at_).1.1.d,.int .i64 (Qtd x pg sl tx at_).1.2,.int .i64 (Qtd x pg sl tx at_).2])):=by
 refine QcP (fn:=Tryz.f19) Tryz.func19 rfl (by kernel_rfl) (by simp[Tryz.f19]) (fun c=>?_)
 have hw:=QpG x hx
 have hu:=QpH x at_
 have eS:Qtd x pg sl tx at_=if QbS x=false then ((Ce0,0),26) else if pg<0\/64<=pg\/sl<0\/16<=sl\/QbC x at_=false then ((Ce0,0),1) else (QwF x.es (Qby x.es at_.toNat) pg sl tx at_.toNat,0):=rfl
 unfold Lg.c at hw hu
 generalize Qtd x pg sl tx at_=res at *
 refine VWpG.first (Qa c) ?_
 (unfold Tryz.f19; refine rn trivial ?_)
 refine VWpG.seq ?_
 refine VWpG.plain (Qa c) ?_
 refine rn trivial ?_
 cases hwb:QbS x
 ·rw [hwb] at hw
  rw[if_pos hwb] at eS
  subst eS
  refine rn F ?_
  repeat' (first
   | with_reducible exact⟨⟩
   | refine vp F (hw) ?_)
  all_goals rfl
 rw[hwb] at hw
 rw[if_neg (by rw[hwb]; decide)] at eS
 by_cases hp1:pg<0
 ·rw [if_pos (.inl hp1)] at eS
  subst eS
  have F:=@hp1
  refine rn F ?_
  repeat' (first
   | with_reducible exact⟨⟩
   | refine vp F (hw) ?_)
  all_goals rfl
 by_cases hp2:64<=pg
 ·rw [if_pos (.inr (.inl hp2))] at eS
  subst eS
  have F:=(Ja @hp1 @hp2)
  refine rn F ?_
  repeat' (first
   | with_reducible exact⟨⟩
   | refine vp F (hw) ?_)
  all_goals rfl
 by_cases hp3:sl<0
 ·rw [if_pos (.inr (.inr (.inl hp3)))] at eS
  subst eS
  have F:=(Ja @hp1 (Ja @hp2 @hp3))
  refine rn F ?_
  repeat' (first
   | with_reducible exact⟨⟩
   | refine vp F (hw) ?_)
  all_goals rfl
 by_cases hp4:16<=sl
 ·rw [if_pos (.inr (.inr (.inr (.inl hp4))))] at eS
  subst eS
  have F:=(Ja @hp1 (Ja @hp2 (Ja @hp3 @hp4)))
  refine rn F ?_
  repeat' (first
   | with_reducible exact⟨⟩
   | refine vp F (hw) ?_)
  all_goals rfl
 cases hun:QbC x at_
 ·rw [hun] at hu
  rw[if_pos (.inr (.inr (.inr (.inr hun))))] at eS
  subst eS
  have F:=(Ja @hp1 (Ja @hp2 (Ja @hp3 @hp4)))
  refine rn F ?_
  repeat' (first
   | with_reducible exact⟨⟩
   | refine vp F (hw) ?_
   | refine vp F (hu) ?_)
  all_goals rfl
 rw[hun] at hu
 rw[if_neg (by rw[hun]; simp; omega)] at eS
 obtain⟨k,rfl⟩:∃ n:Nat,at_=n:=⟨at_.toNat,by unfold QbC at hun; simp at hun; omega⟩
 have hk:k<=x.es.length:=by unfold QbC at hun; simp at hun; omega
 have hlg:lgB x=true:=by unfold QbS at hwb; simp at hwb; exact hwb.1
 have hes:x.es.length<=4096:=(QaG hlg).2.2.1
 simp only[Jr] at eS
 have F:=(Ja @hp1 (Ja @hp2 (Ja @hp3 @hp4)))
 refine rn F ?_
 repeat' (first
  | with_reducible exact⟨⟩
  | refine vp F (hw) ?_
  | refine vp F (hu) ?_)
 refine VWpG.seq ?_
 refine VWpG.cut1 (Qa c) 2 [] ?_
 refine rn trivial ?_
 refine QcU rfl rfl rfl (Qwj _ [] x k hk hes) ?_
 rintro r h' g' ⟨b,rfl,-,⟨ys,rfl⟩,rfl⟩
 refine rn trivial ?_
 refine VWpG.seq ?_
 refine VWpG.first (Qa c) ?_
 refine rn trivial ?_
 refine VWpG.block ?_
 refine VWpG.loop (fun s:SeS x k (fun i=>QwF x.es (Qby x.es k) pg sl tx k=QwF x.es (Qby x.es k) pg sl tx i)=>⟨97,s.H.length,[(14,.int .i64 ((s.i:Nat)-1:Int)),(13,.pv (.lit (.map (some b)))),(10,.ptr 1 0),(5,.ptr 0 0),(1,.int .i64 pg),(2,.int .i64 sl),(3,.int .i64 tx)],s.H⟩) (fun s=>[(b,Qah kI (QmZ x.es k))]) (fun s=>s.i) ⟨k,Jt _,(⟨26,true,[.int .i64 x.f,.pv (.sl (fz encE x.es)),.int .i64 x.d]⟩::⟨48,true,[.bool false,.pv (.str [])]⟩::ys:Qb),by simp,rfl,rfl,rfl⟩ ?_ ?_
 ·refine WeakG.slots rfl rfl ?_
  intro p hp
  simp only[Jh,Jg,or_false] at hp
  rcases hp with rfl | rfl | rfl | rfl | rfl | rfl | rfl<;>exact .inl rfl
 rintro⟨i,hi,H,h1,hb0,hb1,ok⟩
 dsimp only
 have h0:0<H.length:=by omega
 unfold Lg.c at hb0
 have hbc1:Qc H 1=some [.bool false,.pv (.str [])]:=QbG hb1
 by_cases hi0:0<i
 ·obtain ⟨i,rfl⟩:∃ j,i = j + 1:=⟨i - 1,by omega⟩
  have e1:(((i+1:Nat))-1:Int)=i:=by omega
  have hil:i<x.es.length:=by omega
  have hg:=Qn4 x.es i hil
  rw[e1]
  have hnx:QwF x.es (Qby x.es k) pg sl tx (i+1)=if QoD (Qby x.es k) pg sl tx (x.es.getD i E0)=true then ((x.es.getD i E0).c.a,(x.es.getD i E0).lsn) else QwF x.es (Qby x.es k) pg sl tx i:=rfl
  generalize x.es.getD i E0=e at *
  refine VWpG.seq ?_
  refine VWpG.first (Qa c) ?_
  refine rn trivial ?_
  refine VWpG.cond rfl (fun hZ=>?_) (fun hZ=>?_)
  rotate_left
  ·cases hZ
  refine VWpG.plain (Qa c) ?_
  refine rn trivial ?_
  refine VWpG.seq ?_
  refine VWpG.block ?_
  refine VWpG.first (Qa c) ?_
  refine rn (Ja @hg (Ja @h0 @hb0)) ?_
  refine VWpG.seq ?_
  refine VWpG.cut1 (Qa c) 3 [] ?_
  refine rn @h1 ?_
  refine QP rfl (fun c=>by simp) (Qb7 (zv:=.agg #[]) (L:=QmZ x.es k) (k:=e.tx) rfl rfl umS Qik (Q7 zS) (fun w β hp=>.agg [] #[] rfl (fun i d h=>by cases h)) rfl (JW.2 rfl) (Qab rfl) ?_)
  rw[Qki]
  have hch':VCalls prog 17 [.agg e.d] [] (Ret (.bool (QdY e))):=QhL e
  unfold E.d at hch'
  cases hcm:Qby x.es k e.tx
  ·(refine rn @h1 ?_; try with_reducible exact ⟨⟩)
   refine VWpG.plain (Qa c) ?_
   cases hce:QdY e
   ·rw [hce] at hch'
    have F:=(Ja @h1 @h0)
    refine rn F ?_
    repeat' (first
     | with_reducible exact⟨⟩
     | refine vp F (hch') ?_)
    refine VWpG.plain (Qa c) ?_
    refine rn trivial ?_
    refine Qei c x k i b _ pg sl tx (by omega) _ _ ?_ ?_ ?_ ?_ rfl ?_
    ·show 1 < (H ++ _ ++ _).length
     simp; try omega
    ·show Qc (H ++ _ ++ _) 0 = _
     rw[Qs (by simp; try omega),Qs h0]; exact hb0
    ·show (H ++ _ ++ _)[1]? = _
     rw[Jk,Je h1]; exact hb1
    ·rw[ok,hnx,if_neg (by unfold QoD; rw[hce]; simp)]
    ·intro q hq
     simp only[Jh,Jg,or_false] at hq
     rcases hq with rfl | rfl | rfl | rfl | rfl | rfl | rfl<;>exact .inl rfl
   ·rw [hce] at hch'
    have F:=(Ja @h1 (Ja @h0 (Ja @hb1 @hbc1)))
    refine rn F ?_
    repeat' (first
     | with_reducible exact⟨⟩
     | (refine sG F ?_ ?_<;>intro hZ)
     | (refine sB F ?_ ?_<;>intro hZ)
     | refine vp F (hch') ?_
     | (refine Qd (id:=12) [0,1,2,3,4] [⟨[],[],5,[3,4],[]⟩,⟨[],[],6,[],[]⟩,⟨[],[],7,[],[]⟩] (by kernel_rfl) (by kernel_rfl) ?_; refine rn F ?_))
    ·skip
     refine⟨?_,?_⟩
     ·rw [Qka (by simp [Qv]),<- Qv (hp:=H) (k:=1),Qpo]
      rfl
     ·have hbS:∀ (X Y:Qb) (CS:List DV),Qc (Ql H 1 CS ++ X ++ Y) 1 = some CS:=fun X Y CS=>by
       rw[Qs (by simp[Qv]; omega),Qs (by rw[Qv]; exact h1),Qf4 hbc1]
      refine rn @hbS ?_
      rw[eS,ok,hnx,if_pos (by unfold QoD; rw[hce,hcm]; simp[*])]
    ·skip
     refine VWpG.plain (Qa c) ?_
     refine rn trivial ?_
     refine Qei c x k i b _ pg sl tx (by omega) _ _ ?_ ?_ ?_ ?_ rfl ?_
     ·show 1 < (H ++ _ ++ _).length
      simp; try omega
     ·show Qc (H ++ _ ++ _) 0 = _
      rw[Qs (by simp; try omega),Qs h0]; exact hb0
     ·show (H ++ _ ++ _)[1]? = _
      rw[Jk,Je h1]; exact hb1
     ·rw[ok,hnx,if_neg (by unfold QoD; rw[hce,hcm]; simp[*])]
     ·intro q hq
      simp only[Jh,Jg,or_false] at hq
      rcases hq with rfl | rfl | rfl | rfl | rfl | rfl | rfl<;>exact .inl rfl
    ·skip
     refine VWpG.plain (Qa c) ?_
     refine rn trivial ?_
     refine Qei c x k i b _ pg sl tx (by omega) _ _ ?_ ?_ ?_ ?_ rfl ?_
     ·show 1 < (H ++ _ ++ _).length
      simp; try omega
     ·show Qc (H ++ _ ++ _) 0 = _
      rw[Qs (by simp; try omega),Qs h0]; exact hb0
     ·show (H ++ _ ++ _)[1]? = _
      rw[Jk,Je h1]; exact hb1
     ·rw[ok,hnx,if_neg (by unfold QoD; rw[hce,hcm]; simp[*])]
     ·intro q hq
      simp only[Jh,Jg,or_false] at hq
      rcases hq with rfl | rfl | rfl | rfl | rfl | rfl | rfl<;>exact .inl rfl
    ·skip
     refine VWpG.plain (Qa c) ?_
     refine rn trivial ?_
     refine Qei c x k i b _ pg sl tx (by omega) _ _ ?_ ?_ ?_ ?_ rfl ?_
     ·show 1 < (H ++ _ ++ _).length
      simp; try omega
     ·show Qc (H ++ _ ++ _) 0 = _
      rw[Qs (by simp; try omega),Qs h0]; exact hb0
     ·show (H ++ _ ++ _)[1]? = _
      rw[Jk,Je h1]; exact hb1
     ·rw[ok,hnx,if_neg (by unfold QoD; rw[hce,hcm]; simp[*])]
     ·intro q hq
      simp only[Jh,Jg,or_false] at hq
      rcases hq with rfl | rfl | rfl | rfl | rfl | rfl | rfl<;>exact .inl rfl
  ·(refine rn @h1 ?_; try with_reducible exact ⟨⟩)
   refine VWpG.plain (Qa c) ?_
   cases hce:QdY e
   ·rw [hce] at hch'
    have F:=(Ja @h1 @h0)
    refine rn F ?_
    repeat' (first
     | with_reducible exact⟨⟩
     | refine vp F (hch') ?_)
    refine VWpG.plain (Qa c) ?_
    refine rn trivial ?_
    refine Qei c x k i b _ pg sl tx (by omega) _ _ ?_ ?_ ?_ ?_ rfl ?_
    ·show 1 < (H ++ _ ++ _).length
     simp; try omega
    ·show Qc (H ++ _ ++ _) 0 = _
     rw[Qs (by simp; try omega),Qs h0]; exact hb0
    ·show (H ++ _ ++ _)[1]? = _
     rw[Jk,Je h1]; exact hb1
    ·rw[ok,hnx,if_neg (by unfold QoD; rw[hce]; simp)]
    ·intro q hq
     simp only[Jh,Jg,or_false] at hq
     rcases hq with rfl | rfl | rfl | rfl | rfl | rfl | rfl<;>exact .inl rfl
   ·rw [hce] at hch'
    have F:=(Ja @h1 (Ja @h0 (Ja @hb1 @hbc1)))
    refine rn F ?_
    repeat' (first
     | with_reducible exact⟨⟩
     | (refine sG F ?_ ?_<;>intro hZ)
     | refine vp F (hch') ?_
     | (refine Qd (id:=12) [0,1,2,3,4] [⟨[],[],5,[3,4],[]⟩,⟨[],[],6,[],[]⟩,⟨[],[],7,[],[]⟩] (by kernel_rfl) (by kernel_rfl) ?_; refine rn F ?_))
    ·skip
     refine⟨?_,?_⟩
     ·rw [Qka (by simp [Qv]),<- Qv (hp:=H) (k:=1),Qpo]
      rfl
     ·have hbS:∀ (X Y:Qb) (CS:List DV),Qc (Ql H 1 CS ++ X ++ Y) 1 = some CS:=fun X Y CS=>by
       rw[Qs (by simp[Qv]; omega),Qs (by rw[Qv]; exact h1),Qf4 hbc1]
      refine rn @hbS ?_
      rw[eS,ok,hnx,if_pos (by unfold QoD; rw[hce,hcm]; simp[*])]
    ·skip
     refine VWpG.plain (Qa c) ?_
     refine rn trivial ?_
     refine Qei c x k i b _ pg sl tx (by omega) _ _ ?_ ?_ ?_ ?_ rfl ?_
     ·show 1 < (H ++ _ ++ _).length
      simp; try omega
     ·show Qc (H ++ _ ++ _) 0 = _
      rw[Qs (by simp; try omega),Qs h0]; exact hb0
     ·show (H ++ _ ++ _)[1]? = _
      rw[Jk,Je h1]; exact hb1
     ·rw[ok,hnx,if_neg (by unfold QoD; rw[hce,hcm]; simp[*])]
     ·intro q hq
      simp only[Jh,Jg,or_false] at hq
      rcases hq with rfl | rfl | rfl | rfl | rfl | rfl | rfl<;>exact .inl rfl
    ·skip
     refine VWpG.plain (Qa c) ?_
     refine rn trivial ?_
     refine Qei c x k i b _ pg sl tx (by omega) _ _ ?_ ?_ ?_ ?_ rfl ?_
     ·show 1 < (H ++ _ ++ _).length
      simp; try omega
     ·show Qc (H ++ _ ++ _) 0 = _
      rw[Qs (by simp; try omega),Qs h0]; exact hb0
     ·show (H ++ _ ++ _)[1]? = _
      rw[Jk,Je h1]; exact hb1
     ·rw[ok,hnx,if_neg (by unfold QoD; rw[hce,hcm]; simp[*])]
     ·intro q hq
      simp only[Jh,Jg,or_false] at hq
      rcases hq with rfl | rfl | rfl | rfl | rfl | rfl | rfl<;>exact .inl rfl
 ·obtain rfl:i = 0:=by omega
  refine VWpG.seq ?_
  refine VWpG.first (Qa c) ?_
  refine rn trivial ?_
  refine VWpG.cond rfl (fun hZ=>?_) (fun hZ=>?_)
  ·cases hZ
  refine VWpG.plain (Qa c) ?_
  refine rn trivial ?_
  refine VWpG.plain (Qa c) ?_
  refine rn (Ja @h1 (Ja @h0 (Ja @hb1 @hbc1))) ?_
  rw[eS,ok]
  rfl
end
def Qf8(a b c d:Int):QV [.pv (.lit (.int .i64 a)),.pv (.lit (.int .i64 b))] [.pv (.lit (.int .i64 c)),.pv (.lit (.int .i64 d))] [(0,1),(1,1)]=some (decide (a=c)&&decide (b=d)):=by simp[QV,Qao,Jy]
def grB(g:Gr):Bool:=decide (1<=g.tx)&&decide (g.tx<=1073741824)&&decide (0<=g.pg)&&decide (g.pg<64)&&decide (0<=g.sl)&&decide (g.sl<16)&&(decide (g.md=1)||decide (g.md=2))
def lessG(a b:Gr):Bool:=if a.pg≠b.pg then decide (a.pg<b.pg) else if a.sl≠b.sl then decide (a.sl<b.sl) else decide (a.tx<b.tx)
def Qv5(a b:Gr):Bool:=!decide (a.tx=b.tx)&&(decide (a.pg=b.pg)&&decide (a.sl=b.sl))&&(decide (a.md=2)||decide (b.md=2))
def QtM(g:Gr):VCalls prog 198 [.agg g.d] [] (Ret (.bool (grB g))):=by
 refine dd Tryz.func198 ?_
 (unfold Tryz.f198; refine rn trivial ?_)
 refine rn F ?_
 repeat' (first
  | with_reducible exact⟨⟩
  | (refine sG F ?_ ?_<;>intro hZ))
 all_goals (first | rfl | (congr 3; rw[Kb]; (try simp only[grB,decide_eq_true_eq,Jj,JP,J3,JX,decide_eq_false_iff_not,beq_iff_eq,bne_iff_ne,ne_eq,JY,JZ,iff_true,true_iff,iff_false,false_iff]); first | done | omega | grind))
def QoK(a b:Gr):VCalls prog 199 [.agg a.d,.agg b.d] [] (Ret (.bool (lessG a b))):=by
 refine dd Tryz.func199 ?_
 have e:lessG a b=if a.pg≠b.pg then decide (a.pg<b.pg) else if a.sl≠b.sl then decide (a.sl<b.sl) else decide (a.tx<b.tx):=rfl
 generalize lessG a b=r at *
 (unfold Tryz.f199; refine rn trivial ?_)
 refine rn F ?_
 repeat' (first
  | with_reducible exact⟨⟩
  | (refine sB F ?_ ?_<;>intro hZ))
 all_goals first | (first | (rw[e]; simp(disch:=first | assumption | omega | exact rfl | exact nf (by assumption) | exact nt (by assumption) | decide | fail) only[if_pos,if_neg]; first | done | rfl) | (rw[e]; simp(disch:=first | assumption | omega | exact rfl | exact nf (by assumption) | exact nt (by assumption) | decide | (simp_all; done) | fail) only[if_pos,if_neg]; first | done | rfl)) | skip
def Qgt(a b:Gr):VCalls prog 177 [.agg a.d,.agg b.d] [] (Ret (.bool (Qv5 a b))):=by
 refine dd Tryz.func177 ?_
 (unfold Tryz.f177; refine rn trivial ?_)
 have F:=@Qf8
 refine rn F ?_
 repeat' (first
  | with_reducible exact⟨⟩
  | (refine sG F ?_ ?_<;>intro hZ))
 all_goals (unfold Qv5; simp_all [Jy])
def QD4(tx pg sl:Int)(g:Gr):Bool:=decide (g.tx=tx)&&(decide (g.pg=pg)&&decide (g.sl=sl))
def QAl(l:List Gr)(tx pg sl:Int):Int:=match l.find? (QD4 tx pg sl) with | some g=>g.md | none=>0
def QnA (t:Lk) (hs:t.held.length<=1000000) (tx pg sl:Int):VCalls prog 200 [.agg t.d,.int .i64 tx,.agg [.int .i64 pg,.int .i64 sl]] [] (Ret (.int .i64 (QAl t.held tx pg sl))):=by
 refine dd Tryz.func200 ?_
 obtain⟨l,w⟩:=t
 dsimp only at hs |-
 (unfold Tryz.f200; refine rn trivial ?_)
 refine Qj (fun s:Pass l (fun x=>QD4 tx pg sl x=true)=>⟨39,0,[(7,.int .i64 s.i),(5,.ptr 1 0),(3,.ptr 0 0),(1,.int .i64 tx)],[⟨32,true,[.pv (.sl (fz Qau l)),.pv (.sl (fz Qau w))]⟩,⟨81,true,[.int .i64 pg,.int .i64 sl]⟩]⟩) (fun s=>l.length-s.i) (Pass.start l _) (gc [0,1]) ?_
 intro s
 have hsi:=s.hi
 have hg:=fun h:s.i<l.length=>QaI l s.i h
 have hkey:s.i<l.length->QD4 tx pg sl (l.getD s.i Gr0)=QD4 tx pg sl (l[s.i]?.getD Gr0):=fun _=>by rw[Ji]
 have hk0:QD4 tx pg sl (l.getD s.i Gr0)=(decide ((l.getD s.i Gr0).tx=tx)&&(decide ((l.getD s.i Gr0).pg=pg)&&decide ((l.getD s.i Gr0).sl=sl))):=rfl
 have F:=(Ja @hg @Qf8)
 refine rn F ?_
 repeat' (first
  | with_reducible exact⟨⟩
  | (refine sG F ?_ ?_<;>intro hZ)
  | (refine sB F ?_ ?_<;>intro hZ)
  | (refine Qd (id:=4) [0,1,2,3,4,5,6,7,8,9,10,11,12,13,14,15,16,17] [] (by kernel_rfl) (by kernel_rfl) ?_; refine rn F ?_))
 all_goals first
  | (have h:=s.all (by omega)
     rw[QAl,JI.2 h])
  | (have hlt:s.i < l.length:=by omega
     have hk:QD4 tx pg sl l[s.i]=true:=by rw[<- Qf l s.i hlt Gr0,hk0]; simp_all
     rw[Qf l s.i hlt,QAl,List.find?_eq_some_iff_getElem.2 ⟨hk,s.i,hlt,rfl,fun j hj=>by simpa using s.no l[j] (List.mem_take_iff_getElem.2 ⟨j,by omega,rfl⟩)⟩])
  | (have hlt:s.i < l.length:=by omega
     exact⟨s.next hlt (by rw[<- Qf l s.i hlt Gr0,hk0]; simp_all),by show l.length-(s.i+1)<l.length-s.i; omega,(gc [0,1])⟩)
  | skip
def QjI(l:List Gr)(hl:l.length<=100000)(tx:Int)(one:Bool)(pg sl:Int):VCalls prog 160 [.pv (.sl (fz Qau l)),.int .i64 tx,.bool one,.agg [.int .i64 pg,.int .i64 sl]] [] (QL (fun m:List Gr=>.pv (.sl (fz Qau m))) fun m=>m.length<=l.length):=by
 refine dd Tryz.func160 ?_
 (unfold Tryz.f160; refine rn trivial ?_)
 refine VLoop.nilOwn 9 201 4 rfl ?_
 refine rn trivial ?_
 refine Qj (fun s:{s:Nat×List Gr // s.1<=l.length/\s.2.length<=s.1}=>⟨44,0,[(10,.int .i64 s.1.1),(9,.own 1 4 0 s.1.2.length),(7,.ptr 0 0),(2,.bool one),(1,.int .i64 tx),(0,.pv (.sl (fz Qau l)))],[⟨81,true,[.int .i64 pg,.int .i64 sl]⟩,⟨201,true,cells Qau s.1.2⟩]⟩) (fun s=>l.length-s.1.1) ⟨(0,[]),by simp⟩ (gc [0,1]) ?_
 rintro⟨⟨i,out⟩,hi,ho⟩
 dsimp only at hi ho |-
 have hg:=fun h:i<l.length=>QaI l i h
 have hb:(out.length+1)*32<=140737488355328:=by omega
 have F:=(Ja @hg (Ja @hb @Qf8))
 refine rn F ?_
 repeat' (first
  | with_reducible exact⟨⟩
  | (refine sG F ?_ ?_<;>intro hZ)
  | (refine sB F ?_ ?_<;>intro hZ)
  | (refine Qd (id:=5) [0,1,2,3,4,5,6,7,8,9,10,11,12,13,14,15,16,17,18] [] (by kernel_rfl) (by kernel_rfl) ?_; refine rn F ?_))
 all_goals first
  | exact⟨rfl,rfl,out,rfl,by omega⟩
  | exact⟨⟨(i+1,out),by dsimp only; omega,by dsimp only; omega⟩,by dsimp only; omega,(gc [0,1])⟩
  | exact⟨⟨(i+1,out++[⟨(l.getD i Gr0).tx,(l.getD i Gr0).pg,(l.getD i Gr0).sl,(l.getD i Gr0).md⟩]),by dsimp only; omega,by simp; omega⟩,by dsimp only; omega,by dsimp only; rw[Jb]; exact(gc [0,3])⟩
  | skip
def QB9(t:Lk)(hs:t.held.length<=100000/\t.wait.length<=100000)(i:Nat)(hi:i<t.wait.length):VCalls prog 208 [.agg t.d,.int .i64 i] [] (QL (fun b:Bool=>.bool b) fun _=>True):=by
 refine dd Tryz.func208 ?_
 obtain⟨l,w⟩:=t
 dsimp only at hs hi |-
 have hw:=QaI w i hi
 have c:=fun a=>Qgt a (w.getD i Gr0)
 (unfold Tryz.f208; refine rn trivial ?_)
 refine Qj (fun s:To l.length=>⟨41,0,[(5,.int .i64 s.i),(2,.ptr 0 0),(1,.int .i64 i)],[⟨32,true,[.pv (.sl (fz Qau l)),.pv (.sl (fz Qau w))]⟩]⟩) (fun s=>l.length-s.i) ⟨0,Jl _⟩ (gc [0]) ?_
 intro s
 have hsi:=s.hi
 have hg:=fun h:s.i<l.length=>QaI l s.i h
 have c1:=c (l.getD s.i Gr0)
 have F:=(Ja @hg @hw)
 refine rn F ?_
 repeat' (first
  | with_reducible exact⟨⟩
  | (refine sB F ?_ ?_<;>intro hZ)
  | refine vp F (c1) ?_
  | (refine Qd (id:=4) [0,1,2,3,4,5,6,7,8,9] [⟨[],[],10,[0,1,2,3,5,6,7,8],[]⟩] (by kernel_rfl) (by kernel_rfl) ?_; refine rn F ?_))
 all_goals first
  | exact⟨rfl,rfl,_,rfl,trivial⟩
  | exact⟨⟨s.i+1,by omega⟩,by dsimp only; omega,(gc [0])⟩
  | skip
 refine Qj (fun s:To i=>⟨41,0,[(6,.int .i64 s.i),(2,.ptr 0 0),(1,.int .i64 i)],[⟨32,true,[.pv (.sl (fz Qau l)),.pv (.sl (fz Qau w))]⟩]⟩) (fun s=>i-s.i) ⟨0,Jl _⟩ (gc [0]) ?_
 intro s
 have hsi:=s.hi
 have hg:=fun h:s.i<w.length=>QaI w s.i h
 have c1:=c (w.getD s.i Gr0)
 have F:=(Ja @hg @hw)
 refine rn F ?_
 repeat' (first
  | with_reducible exact⟨⟩
  | (refine sB F ?_ ?_<;>intro hZ)
  | refine vp F (c1) ?_
  | (refine Qd (id:=9) [0,1,2,3,4,5,6,7,8,9] [⟨[],[],10,[0,1,2,3,5,6,7,8],[]⟩] (by kernel_rfl) (by kernel_rfl) ?_; refine rn F ?_))
 all_goals first
  | exact⟨rfl,rfl,_,rfl,trivial⟩
  | exact⟨⟨s.i+1,by omega⟩,by dsimp only; omega,(gc [0])⟩
  | skip
def QBX(l:List Gr)(hl:l.length<=100000)(g:Gr):VCalls prog 209 [.pv (.sl (fz Qau l)),.agg g.d] [] (QL (fun m:List Gr=>.pv (.sl (fz Qau m))) fun m=>m.length<=l.length+1):=by
 refine dd Tryz.func209 ?_
 (unfold Tryz.f209; refine rn trivial ?_)
 refine VLoop.nilOwn 5 201 4 rfl ?_
 refine rn trivial ?_
 refine Qj (fun s:{s:Nat×List Gr×Bool // s.1<=l.length/\s.2.1.length<=s.1+1/\(s.2.2=false->s.2.1.length<=s.1)}=>⟨61,0,[(7,.int .i64 s.1.1),(6,.bool s.1.2.2),(5,.own 1 4 0 s.1.2.1.length),(3,.ptr 0 0),(0,.pv (.sl (fz Qau l)))],[⟨201,true,g.d⟩,⟨201,true,cells Qau s.1.2.1⟩]⟩) (fun s=>l.length-s.1.1) ⟨(0,[],false),by simp⟩ (gc [0,1]) ?_
 rintro⟨⟨i,out,dn⟩,hi,ho,hd⟩
 dsimp only at hi ho hd |-
 have hg:=fun h:i<l.length=>QaI l i h
 have c:=QoK (l.getD i Gr0) g
 have hb:(out.length+1)*32<=140737488355328:=by omega
 have hb2:(out.length+1+1)*32<=140737488355328:=Jf (Ju 32 (show out.length+1+1<=100003 by omega)) (by decide)
 cases dn
 all_goals
  simp only[forall_const,reduceCtorEq,false_implies] at hd
  have F:=(Ja @hg (Ja @hb (Ja @hb2 @Qf8)))
  refine rn F ?_
  repeat' (first
   | with_reducible exact⟨⟩
   | (refine sG F ?_ ?_<;>intro hZ)
   | (refine sB F ?_ ?_<;>intro hZ)
   | refine vp F (c) ?_
   | (refine Qd (id:=6) [0,1,2,3,4,5,6,7] [⟨[],[],8,[0,1,3,4,5],[9,10]⟩] (by kernel_rfl) (by kernel_rfl) ?_; refine rn F ?_)
   | (refine Qd (id:=9) [0,1,2,3,4,5,6,7,8,9,10,11,12,13,14,15,16,17] [] (by kernel_rfl) (by kernel_rfl) ?_; refine rn F ?_))
 all_goals first
  | exact⟨rfl,rfl,out,rfl,by omega⟩
  | exact⟨rfl,rfl,out++[g],rfl,by simp; omega⟩
  | exact⟨⟨(i+1,out,false),by dsimp only; omega,by dsimp only; (try rw[Jc]); omega,by dsimp only; (try rw[Jc]); first | omega | (intro h; omega) | (intro h; cases h)⟩,by dsimp only; omega,by dsimp only; (try rw[Jc]); exact(gc [0,1])⟩
  | exact⟨⟨(i+1,out++[⟨(l.getD i Gr0).tx,(l.getD i Gr0).pg,(l.getD i Gr0).sl,(l.getD i Gr0).md⟩],false),by dsimp only; omega,by dsimp only; (try rw[Jb,Jd,Jc]); omega,by dsimp only; (try rw[Jb,Jd,Jc]); first | omega | (intro h; omega) | (intro h; cases h)⟩,by dsimp only; omega,by dsimp only; (try rw[Jb,Jd,Jc]); exact(gc [0,3])⟩
  | exact⟨⟨(i+1,out,true),by dsimp only; omega,by dsimp only; (try rw[Jc]); omega,by dsimp only; (try rw[Jc]); first | omega | (intro h; omega) | (intro h; cases h)⟩,by dsimp only; omega,by dsimp only; (try rw[Jc]); exact(gc [0,1])⟩
  | exact⟨⟨(i+1,out++[⟨(l.getD i Gr0).tx,(l.getD i Gr0).pg,(l.getD i Gr0).sl,(l.getD i Gr0).md⟩],true),by dsimp only; omega,by dsimp only; (try rw[Jb,Jd,Jc]); omega,by dsimp only; (try rw[Jb,Jd,Jc]); first | omega | (intro h; omega) | (intro h; cases h)⟩,by dsimp only; omega,by dsimp only; (try rw[Jb,Jd,Jc]); exact(gc [0,3])⟩
  | exact⟨⟨(i+1,out++[g],true),by dsimp only; omega,by dsimp only; (try rw[Jb,Jd,Jc]); omega,by dsimp only; (try rw[Jb,Jd,Jc]); first | omega | (intro h; omega) | (intro h; cases h)⟩,by dsimp only; omega,by dsimp only; (try rw[Jb,Jd,Jc]); exact(gc [0,3])⟩
  | exact⟨⟨(i+1,out++[g]++[⟨(l.getD i Gr0).tx,(l.getD i Gr0).pg,(l.getD i Gr0).sl,(l.getD i Gr0).md⟩],true),by dsimp only; omega,by dsimp only; (try rw[Jb,Jb,Jd,Jc,Jd,Jc]); omega,by dsimp only; (try rw[Jb,Jb,Jd,Jc,Jd,Jc]); first | omega | (intro h; omega) | (intro h; cases h)⟩,by dsimp only; omega,by dsimp only; (try rw[Jb,Jb,Jd,Jc,Jd,Jc]); exact(gc [0,5])⟩
  | skip
section
attribute [local go_sem] QbB
def Lk.sum(t:Lk):Nat:=t.held.length+t.wait.length
def QeJ(t:Lk)(hs:t.sum<=5000):VCalls prog 159 [.agg t.d] [] (QL (fun u:Lk=>.agg u.d) fun u=>u.sum<=t.sum):=by
 refine dk Tryz.func159 ?_
 (unfold Tryz.f159; refine rn trivial ?_)
 refine QEc (fun s:{s:Lk×Nat // s.2<=s.1.wait.length/\s.1.sum<=t.sum}=>⟨36,0,[(3,.int .i64 s.1.2),(2,.ptr 1 0),(1,.ptr 0 0)],[⟨32,true,s.1.1.d⟩,⟨32,true,[.pv (.slc []),.pv (.slc [])]⟩]⟩) (fun s=>s.1.1.wait.length*5001+(s.1.1.wait.length-s.1.2)) ⟨(t,0),Jl _,Jt _⟩ (.inl (by exact(gc [0,1]))) ?_
 rintro⟨⟨⟨l,w⟩,i⟩,hi,hsum⟩
 unfold Lk.sum at *
 dsimp only at hi hsum |-
 have hgx:=fun h:i<w.length=>QaI w i h
 have c1:=fun h:i<w.length=>QB9 ⟨l,w⟩ ⟨by dsimp only; omega,by dsimp only; omega⟩ i h
 have c2:=QBX l (by omega)
 have hb:(i+(w.length-(i+1)))*32<=140737488355328:=by omega
 have hb1:i*32<=140737488355328:=by omega
 have hmin:i<w.length->min i w.length=i:=fun h=>by omega
 have F:=(Ja @hgx (Ja @hb (Ja @hb1 @hmin)))
 refine rn F ?_
 repeat' (first
  | with_reducible exact⟨⟩
  | (refine sB F ?_ ?_<;>intro hZ)
  | (refine Qp (c1 (by omega)) rfl ?_; rintro b -; refine rn F ?_)
  | (refine Qp (c2 ⟨_,_,_,_⟩) rfl ?_; rintro m hm; refine rn F ?_)
  | (refine Qd (id:=5) [0,1,2,3,4,5,6] [⟨[],[],7,[0,2,3,4,5],[8]⟩,⟨[],[],9,[],[]⟩] (by kernel_rfl) (by kernel_rfl) ?_; refine rn F ?_)
  | (refine Qd (id:=6) [0,1,2,3,5,6,7,8,9] [⟨[],[],4,[0,1,2,5,6,7,8,9],[]⟩,⟨[],[],10,[0,1,2,3,5,6,7,8],[11]⟩,⟨[],[],12,[],[]⟩] (by kernel_rfl) (by kernel_rfl) ?_; refine rn F ?_))
 ·have hl:(w.take i ++ w.drop (i + 1)).length = i + (w.length - (i + 1)):=by rw [Jb,Jn,Jx]; omega
  refine⟨⟨(⟨m,w.take i++w.drop (i+1)⟩,0),Jl _,by dsimp only; rw[hl]; omega⟩,by dsimp only; rw[hl]; omega,?_⟩
  dsimp only
  generalize w.take i++w.drop (i+1)=L at *
  generalize i+(w.length-(i+1))=n at *
  refine .inr ⟨2,⟨36,0,[(3,.int .i64 0),(2,.ptr 1 0),(1,.ptr 0 0)],[⟨32,true,[.pv (.sl (fz Qau m)),.own 2 4 0 n]⟩,⟨32,true,[.pv (.slc []),.pv (.slc [])]⟩,⟨201,true,cells Qau L⟩]⟩,(gc [0,1,3]),⟨rfl,rfl,Jl _,by simp,?_,⟨rfl,rfl,rfl,trivial⟩⟩⟩
  (refine rn @hl ?_; try with_reducible exact⟨⟩)
 ·exact⟨⟨(⟨l,w⟩,i+1),by dsimp only; omega,by dsimp only; omega⟩,by dsimp only; omega,.inl (gc [0,1])⟩
 ·exact⟨rfl,rfl,⟨l,w⟩,rfl,hsum⟩
def QxP(t:Lk)(hs:t.sum<=5000)(g:Gr):VCalls prog 216 [.agg t.d,.agg g.d] [] (QL (fun n:Nat=>.int .i64 n) fun n=>n<=t.wait.length):=by
 refine dd Tryz.func216 ?_
 unfold Lk.sum at hs
 have c1:=QnA t (by omega)
 obtain⟨l,w⟩:=t
 dsimp only at hs c1 |-
 generalize hm:QAl l=M at *
 (unfold Tryz.f216; refine rn trivial ?_)
 refine rn F ?_
 repeat' (first
  | with_reducible exact⟨⟩
  | (refine sB F ?_ ?_<;>intro hZ)
  | refine vp F (c1 _ _ _) ?_)
 ·exact⟨rfl,rfl,w.length,rfl,Jt _⟩
 refine Qj (fun s:To w.length=>⟨47,0,[(5,.int .i64 s.i),(3,.ptr 1 0),(2,.ptr 0 0)],[⟨32,true,[.pv (.sl (fz Qau l)),.pv (.sl (fz Qau w))]⟩,⟨201,true,g.d⟩]⟩) (fun s=>w.length-s.i) ⟨0,Jl _⟩ (gc [0,1]) ?_
 intro s
 have hsi:=s.hi
 have hg:=fun h:s.i<w.length=>QaI w s.i h
 have F:=(Ja @hg @Qf8)
 refine rn F ?_
 repeat' (first
  | with_reducible exact⟨⟩
  | (refine sG F ?_ ?_<;>intro hZ)
  | (refine sB F ?_ ?_<;>intro hZ)
  | refine vp F (c1 _ _ _) ?_)
 all_goals first
  | exact⟨rfl,rfl,s.i,rfl,by omega⟩
  | exact⟨⟨s.i+1,by omega⟩,by dsimp only; omega,(gc [0,1])⟩
  | exact⟨rfl,rfl,w.length,rfl,Jt _⟩
  | skip
end
def lkC(l:List Gr)(i:Nat):Nat->Bool
 | 0=>true
 | k+1=>if (l.getD k Gr0).pg=(l.getD i Gr0).pg/\(l.getD k Gr0).sl=(l.getD i Gr0).sl then !Qv5 (l.getD k Gr0) (l.getD i Gr0)&&lkC l i k else true
def lkH(l:List Gr)(i:Nat):Bool:=grB (l.getD i Gr0)&&((decide (i=0)||lessG (l.getD (i-1) Gr0) (l.getD i Gr0))&&lkC l i i)
def lkX(w:List Gr)(j k:Nat):Bool:=!decide ((w.getD k Gr0).tx=(w.getD j Gr0).tx)
def lkW(l w:List Gr)(j:Nat):Bool:=grB (w.getD j Gr0)&&(decide (QAl l (w.getD j Gr0).tx (w.getD j Gr0).pg (w.getD j Gr0).sl<(w.getD j Gr0).md)&&(Jm j).all (lkX w j))
def lkB(t:Lk):Bool:=decide (t.sum<=1024)&&((Jm t.held.length).all (lkH t.held)&&(Jm t.wait.length).all (lkW t.held t.wait))
def QFf{t:Lk}(h:¬ t.sum<=1024):lkB t=false:=by unfold lkB; rw[decide_eq_false h]; rfl
def QG3{t:Lk}{i:Nat}(hi:i<t.held.length)(h:lkH t.held i=false):lkB t=false:=by unfold lkB; rw[QaK hi h]; simp
def QG2{t:Lk}{i:Nat}(hi:i<t.wait.length)(h:lkW t.held t.wait i=false):lkB t=false:=by unfold lkB; rw[QaK hi h]; simp
def QiJ(t:Lk)(hs:t.sum<=100000):VCalls prog 151 [.agg t.d] [] (Ret (.bool (lkB t))):=by
 refine dd Tryz.func151 ?_
 have k0:=@QFf t
 have kh:=@QG3 t
 have kw:=@QG2 t
 have ky:t.sum<=1024->(Jm t.held.length).all (lkH t.held)=true->(Jm t.wait.length).all (lkW t.held t.wait)=true->lkB t=true:=fun a b c=>by unfold lkB; rw[decide_eq_true a,b,c]; rfl
 unfold Lk.sum at *
 have cm:=QnA t (by omega)
 obtain⟨l,w⟩:=t
 dsimp only at hs cm k0 kh kw ky |-
 generalize lkB ⟨l,w⟩=R at *
 (unfold Tryz.f151; refine rn trivial ?_)
 refine rn F ?_
 repeat' (first
  | with_reducible exact⟨⟩
  | (refine sB F ?_ ?_<;>intro hZ))
 ·rw[k0 (by omega)]
 have hsum:l.length+w.length<=1024:=by omega
 refine Qj (fun s:Okay l.length (lkH l)=>⟨121,0,[(3,.int .i64 s.i),(1,.ptr 0 0)],[⟨32,true,[.pv (.sl (fz Qau l)),.pv (.sl (fz Qau w))]⟩]⟩) (fun s=>l.length-s.i) (Okay.start _ _) (gc [0]) ?_
 intro s
 have hi:=s.hi
 by_cases hc:s.i<l.length
 rotate_left
 ·have hc':¬ ((s.i:Nat):Int) < l.length:=by omega
  have F:=@hc'
  refine rn F ?_
  refine Qj (fun r:Okay w.length (lkW l w)=>⟨121,0,[(5,.int .i64 r.i),(1,.ptr 0 0)],[⟨32,true,[.pv (.sl (fz Qau l)),.pv (.sl (fz Qau w))]⟩]⟩) (fun s=>w.length-s.i) (Okay.start _ _) (gc [0]) ?_
  intro r
  have hj:=r.hi
  by_cases hr:r.i<w.length
  rotate_left
  ·have hr':¬ ((r.i:Nat):Int) < w.length:=by omega
   have F:=@hr'
   refine rn F ?_
   rw[ky hsum (s.all hc) (r.all hr)]
  have hr':((r.i:Nat):Int)<w.length:=by omega
  have hw:=QaI w r.i hr
  have d1:=QtM (w.getD r.i Gr0)
  have ew:lkW l w r.i=(grB (w.getD r.i Gr0)&&(decide (QAl l (w.getD r.i Gr0).tx (w.getD r.i Gr0).pg (w.getD r.i Gr0).sl<(w.getD r.i Gr0).md)&&(Jm r.i).all (lkX w r.i))):=rfl
  have kwr:=kw hr
  generalize hM:QAl l (w.getD r.i Gr0).tx (w.getD r.i Gr0).pg (w.getD r.i Gr0).sl=M at *
  have cm':=cm (w.getD r.i Gr0).tx (w.getD r.i Gr0).pg (w.getD r.i Gr0).sl
  rw[hM] at cm'
  generalize hgr:grB (w.getD r.i Gr0)=gb at *
  cases gb
  ·skip
   have F:=(Ja @hr' @hw)
   refine rn F ?_
   repeat' (first
    | with_reducible exact⟨⟩
    | refine vp F (d1) ?_
    | (refine Qbd (id:=17) [[],[0],[0,1],[0,1,2],[0,1,2,3],[0,1,2,3],[0,1,2,3,5],[0,1,2,3],[0,1,2,3,7],[0,1,2,3,4,5,6,7,8],[0,1,2,3],[0,1,2,3,10],[0,1,2,3,4,5,6,7,8,9,10,11],[0,1,2,3,4,5,6,7,8,9,10,11,12]] [0] [⟨[],[],1,[],[2,3,4,5,6,7,8,10,11]⟩,⟨[],[],9,[10,11],[12,13]⟩] (by kernel_rfl) (by kernel_rfl) (by kernel_rfl) ?_; refine rn F ?_))
   rw[kwr (by rw[ew]; rfl)]
  by_cases hmd:M<(w.getD r.i Gr0).md
  rotate_left
  ·skip
   have F:=(Ja @hr' (Ja @hw @hmd))
   refine rn F ?_
   repeat' (first
    | with_reducible exact⟨⟩
    | refine vp F (d1) ?_
    | refine vp F (cm') ?_
    | (refine Qbd (id:=17) [[],[0],[0,1],[0,1,2],[0,1,2,3],[0,1,2,3],[0,1,2,3,5],[0,1,2,3],[0,1,2,3,7],[0,1,2,3,4,5,6,7,8],[0,1,2,3],[0,1,2,3,10],[0,1,2,3,4,5,6,7,8,9,10,11],[0,1,2,3,4,5,6,7,8,9,10,11,12]] [0] [⟨[],[],1,[],[2,3,4,5,6,7,8,10,11]⟩,⟨[],[],9,[10,11],[12,13]⟩] (by kernel_rfl) (by kernel_rfl) (by kernel_rfl) ?_; refine rn F ?_))
   rw[kwr (by rw[ew,decide_eq_false hmd]; rfl)]
  rw[decide_eq_true hmd] at ew
  have F:=(Ja @hr' (Ja @hw @hmd))
  refine rn F ?_
  repeat' (first
   | with_reducible exact⟨⟩
   | refine vp F (d1) ?_
   | refine vp F (cm') ?_
   | (refine Qbd (id:=17) [[],[0],[0,1],[0,1,2],[0,1,2,3],[0,1,2,3],[0,1,2,3,5],[0,1,2,3],[0,1,2,3,7],[0,1,2,3,4,5,6,7,8],[0,1,2,3],[0,1,2,3,10],[0,1,2,3,4,5,6,7,8,9,10,11],[0,1,2,3,4,5,6,7,8,9,10,11,12]] [0] [⟨[],[],1,[],[2,3,4,5,6,7,8,10,11]⟩,⟨[],[],9,[10,11],[12,13]⟩] (by kernel_rfl) (by kernel_rfl) (by kernel_rfl) ?_; refine rn F ?_))
  refine Qj (fun s:Okay r.i (lkX w r.i)=>⟨121,0,[(7,.int .i64 s.i),(6,.ptr 1 0),(5,.int .i64 r.i),(1,.ptr 0 0)],[⟨32,true,[.pv (.sl (fz Qau l)),.pv (.sl (fz Qau w))]⟩,⟨201,true,Gr.d (w.getD r.i Gr0)⟩]⟩) (fun s=>r.i-s.i) (Okay.start _ _) (gc [0,1]) ?_
  intro q
  have hq:=q.hi
  by_cases hqc:q.i<r.i
  ·have hqc':((q.i:Nat):Int) < r.i:=by omega
   have hqw:((q.i:Nat):Int)<w.length:=by omega
   have hx:=QaI w q.i (by omega)
   have F:=(Ja @hqc' (Ja @hqw @hx))
   refine rn F ?_
   repeat' (first
    | with_reducible exact⟨⟩
    | (refine sB F ?_ ?_<;>intro hZ)
    | (refine Qd (id:=22) [0,1,2,3,4,5,6,7,8] [] (by kernel_rfl) (by kernel_rfl) ?_; refine rn F ?_))
   all_goals first
    | exact⟨q.next hqc (by unfold lkX; rw[decide_eq_false (by assumption)]; rfl),q.dec hqc,(gc [0,1])⟩
    | (rw[kwr (by rw[ew,QaK hqc (by unfold lkX; rw[decide_eq_true (by assumption)]; rfl)]; rfl)])
  ·have hqc':¬ ((q.i:Nat):Int) < r.i:=by omega
   have F:=@hqc'
   refine rn F ?_
   exact⟨r.next hr (by rw[ew,q.all hqc]; rfl),r.dec hr,(gc [0])⟩
 have hc':((s.i:Nat):Int)<l.length:=by omega
 have hg:=QaI l s.i hc
 have hgp:=fun h:s.i-1<l.length=>QaI l (s.i-1) h
 have c1:=QtM (l.getD s.i Gr0)
 have c2:=QoK (l.getD (s.i-1) Gr0) (l.getD s.i Gr0)
 have c3:=fun a=>Qgt a (l.getD s.i Gr0)
 have eh:lkH l s.i=(grB (l.getD s.i Gr0)&&((decide (s.i=0)||lessG (l.getD (s.i-1) Gr0) (l.getD s.i Gr0))&&lkC l s.i s.i)):=rfl
 have khs:=kh hc
 generalize hgr:grB (l.getD s.i Gr0)=gb at *
 cases gb
 ·skip
  have F:=(Ja @hc' @hg)
  refine rn F ?_
  repeat' (first
   | with_reducible exact⟨⟩
   | refine vp F (c1) ?_
   | (refine Qbd (id:=6) [[],[0],[],[0,1,2],[0,1,2,3],[0,1,2,3,4],[0,1,2,3,4,5],[0,1,2,3,4,5,6],[0,1,2,3,4,5,6,7],[0,1,2,3,4,5,6,7,8],[0,1,2,3,4,5,6,7,8,9],[0,1,2,3,4,5,6,7,8,9,10],[0,1,2,3,4,5,6,7,8,9,10,11],[0,1,2,3,4,5,6,7,8,9,10],[0,1,2,3,4,5,6,7,8,9,10,13],[0,1,2,3,4,5,6,7,8,9,10,11,12,13,14],[0,1,2,3,4,5,6,7,8,9,10,11,12,13,14,15],[0,1,2,3,4,5,6,7,8,9,10],[0,1,2,3,4,5,6,7,8,9,10,17],[0,1,2,3,4,5,6,7,8,9,10],[0,1,2,3,4,5,6,7,8,9,10,17,18,19],[0,1,2,3,4,5,6,7,8,9,10,17,18,19,20],[0,1,2,3,4,5,6,7,8,9,10,11,12,13,14,15,16,17,18,19,20,21],[0,1,2,3,4,5,6,7,8,9,10,11,12,13,14,15,16,17,18,19,20,21,22],[0,1,2,3,4,5,6,7,8,9,10,11,12,13,14,15,16,17,18,19,20,21,22,23],[0,1,2,3,4,5,6,7,8,9,10,11,12,13,14,15,16,17,18,19,20,21,22,23,24]] [0,1,2,3,4] [⟨[],[],5,[],[6,7,8,9,10,11,12,13,14,15,16,17,18,19,20,21]⟩,⟨[],[],22,[],[23,24,25]⟩] (by kernel_rfl) (by kernel_rfl) (by kernel_rfl) ?_; refine rn F ?_))
  rw[khs (by rw[eh]; rfl)]
 have tail:(decide (s.i=0)||lessG (l.getD (s.i-1) Gr0) (l.getD s.i Gr0))=true->lkH l s.i=lkC l s.i s.i:=fun h=>by rw[eh,h]; rfl
 by_cases hz:s.i=0
 rotate_left
 have hz':(0:Int)<s.i:=by omega
 have hcp:((s.i:Nat):Int)-1<l.length:=by omega
 have hgp':=hgp (by omega)
 generalize hls:lessG (l.getD (s.i-1) Gr0) (l.getD s.i Gr0)=lb at *
 cases lb
 ·skip
  have F:=(Ja @hc' (Ja @hg (Ja @hz' (Ja @hcp @hgp'))))
  refine rn F ?_
  repeat' (first
   | with_reducible exact⟨⟩
   | refine vp F (c1) ?_
   | refine vp F (c2) ?_
   | (refine Qbd (id:=6) [[],[0],[],[0,1,2],[0,1,2,3],[0,1,2,3,4],[0,1,2,3,4,5],[0,1,2,3,4,5,6],[0,1,2,3,4,5,6,7],[0,1,2,3,4,5,6,7,8],[0,1,2,3,4,5,6,7,8,9],[0,1,2,3,4,5,6,7,8,9,10],[0,1,2,3,4,5,6,7,8,9,10,11],[0,1,2,3,4,5,6,7,8,9,10],[0,1,2,3,4,5,6,7,8,9,10,13],[0,1,2,3,4,5,6,7,8,9,10,11,12,13,14],[0,1,2,3,4,5,6,7,8,9,10,11,12,13,14,15],[0,1,2,3,4,5,6,7,8,9,10],[0,1,2,3,4,5,6,7,8,9,10,17],[0,1,2,3,4,5,6,7,8,9,10],[0,1,2,3,4,5,6,7,8,9,10,17,18,19],[0,1,2,3,4,5,6,7,8,9,10,17,18,19,20],[0,1,2,3,4,5,6,7,8,9,10,11,12,13,14,15,16,17,18,19,20,21],[0,1,2,3,4,5,6,7,8,9,10,11,12,13,14,15,16,17,18,19,20,21,22],[0,1,2,3,4,5,6,7,8,9,10,11,12,13,14,15,16,17,18,19,20,21,22,23],[0,1,2,3,4,5,6,7,8,9,10,11,12,13,14,15,16,17,18,19,20,21,22,23,24]] [0,1,2,3,4] [⟨[],[],5,[],[6,7,8,9,10,11,12,13,14,15,16,17,18,19,20,21]⟩,⟨[],[],22,[],[23,24,25]⟩] (by kernel_rfl) (by kernel_rfl) (by kernel_rfl) ?_; refine rn F ?_))
  rw[khs (by rw[eh,decide_eq_false hz]; rfl)]
 have htl:=tail (by simp)
 have F:=(Ja @hc' (Ja @hg (Ja @hz' (Ja @hcp @hgp'))))
 refine rn F ?_
 repeat' (first
  | with_reducible exact⟨⟩
  | refine vp F (c1) ?_
  | refine vp F (c2) ?_
  | (refine Qbd (id:=6) [[],[0],[],[0,1,2],[0,1,2,3],[0,1,2,3,4],[0,1,2,3,4,5],[0,1,2,3,4,5,6],[0,1,2,3,4,5,6,7],[0,1,2,3,4,5,6,7,8],[0,1,2,3,4,5,6,7,8,9],[0,1,2,3,4,5,6,7,8,9,10],[0,1,2,3,4,5,6,7,8,9,10,11],[0,1,2,3,4,5,6,7,8,9,10],[0,1,2,3,4,5,6,7,8,9,10,13],[0,1,2,3,4,5,6,7,8,9,10,11,12,13,14],[0,1,2,3,4,5,6,7,8,9,10,11,12,13,14,15],[0,1,2,3,4,5,6,7,8,9,10],[0,1,2,3,4,5,6,7,8,9,10,17],[0,1,2,3,4,5,6,7,8,9,10],[0,1,2,3,4,5,6,7,8,9,10,17,18,19],[0,1,2,3,4,5,6,7,8,9,10,17,18,19,20],[0,1,2,3,4,5,6,7,8,9,10,11,12,13,14,15,16,17,18,19,20,21],[0,1,2,3,4,5,6,7,8,9,10,11,12,13,14,15,16,17,18,19,20,21,22],[0,1,2,3,4,5,6,7,8,9,10,11,12,13,14,15,16,17,18,19,20,21,22,23],[0,1,2,3,4,5,6,7,8,9,10,11,12,13,14,15,16,17,18,19,20,21,22,23,24]] [0,1,2,3,4] [⟨[],[],5,[],[6,7,8,9,10,11,12,13,14,15,16,17,18,19,20,21]⟩,⟨[],[],22,[],[23,24,25]⟩] (by kernel_rfl) (by kernel_rfl) (by kernel_rfl) ?_; refine rn F ?_))
 rotate_left
 have hz':¬ (0:Int)<s.i:=by omega
 have htl:=tail (by rw[decide_eq_true hz]; rfl)
 have F:=(Ja @hc' (Ja @hg @hz'))
 refine rn F ?_
 repeat' (first
  | with_reducible exact⟨⟩
  | refine vp F (c1) ?_
  | (refine Qbd (id:=6) [[],[0],[],[0,1,2],[0,1,2,3],[0,1,2,3,4],[0,1,2,3,4,5],[0,1,2,3,4,5,6],[0,1,2,3,4,5,6,7],[0,1,2,3,4,5,6,7,8],[0,1,2,3,4,5,6,7,8,9],[0,1,2,3,4,5,6,7,8,9,10],[0,1,2,3,4,5,6,7,8,9,10,11],[0,1,2,3,4,5,6,7,8,9,10],[0,1,2,3,4,5,6,7,8,9,10,13],[0,1,2,3,4,5,6,7,8,9,10,11,12,13,14],[0,1,2,3,4,5,6,7,8,9,10,11,12,13,14,15],[0,1,2,3,4,5,6,7,8,9,10],[0,1,2,3,4,5,6,7,8,9,10,17],[0,1,2,3,4,5,6,7,8,9,10],[0,1,2,3,4,5,6,7,8,9,10,17,18,19],[0,1,2,3,4,5,6,7,8,9,10,17,18,19,20],[0,1,2,3,4,5,6,7,8,9,10,11,12,13,14,15,16,17,18,19,20,21],[0,1,2,3,4,5,6,7,8,9,10,11,12,13,14,15,16,17,18,19,20,21,22],[0,1,2,3,4,5,6,7,8,9,10,11,12,13,14,15,16,17,18,19,20,21,22,23],[0,1,2,3,4,5,6,7,8,9,10,11,12,13,14,15,16,17,18,19,20,21,22,23,24]] [0,1,2,3,4] [⟨[],[],5,[],[6,7,8,9,10,11,12,13,14,15,16,17,18,19,20,21]⟩,⟨[],[],22,[],[23,24,25]⟩] (by kernel_rfl) (by kernel_rfl) (by kernel_rfl) ?_; refine rn F ?_))
 all_goals
  refine Qj (fun r:{r:Nat // r<=s.i/\lkH l s.i=lkC l s.i r}=>⟨121,0,[(4,.int .i64 ((r.1:Int)-1)),(3,.int .i64 s.i),(1,.ptr 0 0)],[⟨32,true,[.pv (.sl (fz Qau l)),.pv (.sl (fz Qau w))]⟩]⟩) (fun r=>r.1) ⟨s.i,Jt _,htl⟩ (gc [0]) ?_
  rintro⟨r,hr,hrl⟩
  dsimp only
  by_cases hr0:r=0
  ·have hr0':¬ (0:Int)<=(r:Int) - 1:=by omega
   subst hr0
   have F:=@hr0'
   refine rn F ?_
   repeat' (first
    | with_reducible exact⟨⟩
    | (refine Qd (id:=9) [0,1,2,3,4,5,6,7,8,9,10,11,12,13,14,15,16] [] (by kernel_rfl) (by kernel_rfl) ?_; refine rn F ?_))
   exact⟨s.next hc hrl,s.dec hc,(gc [0])⟩
  obtain⟨m,rfl⟩:∃ m,r=m+1:=⟨r-1,by omega⟩
  have e1:((m+1:Nat):Int)-1=m:=by omega
  rw[e1]
  have hm0:(0:Int)<=(m:Int):=by omega
  have hml:(m:Int)<l.length:=by omega
  have hx:=QaI l m (by omega)
  have c4:=c3 (l.getD m Gr0)
  have el:lkC l s.i (m+1)=if (l.getD m Gr0).pg=(l.getD s.i Gr0).pg/\(l.getD m Gr0).sl=(l.getD s.i Gr0).sl then !Qv5 (l.getD m Gr0) (l.getD s.i Gr0)&&lkC l s.i m else true:=rfl
  by_cases hsame:(l.getD m Gr0).pg=(l.getD s.i Gr0).pg/\(l.getD m Gr0).sl=(l.getD s.i Gr0).sl
  ·rw [if_pos hsame] at el
   obtain⟨s1,s2⟩:=hsame
   generalize hcf:Qv5 (l.getD m Gr0) (l.getD s.i Gr0)=cf at *
   cases cf
   ·skip
    have F:=(Ja @hc' (Ja @hg (Ja @hm0 (Ja @hml (Ja @hx (Ja @s1 (Ja @s2 @Qf8)))))))
    refine rn F ?_
    repeat' (first
     | with_reducible exact⟨⟩
     | refine vl F (c4) ?_
     | (refine Qd (id:=9) [0,1,2,3,4,5,6,7,8,9,10,11,12,13,14,15,16] [] (by kernel_rfl) (by kernel_rfl) ?_; refine rn F ?_)
     | (refine Qd (id:=11) [0,1,2,3,4,5,6,7,8,9] [⟨[],[],10,[0,1,2,3,5,6,7,8],[]⟩] (by kernel_rfl) (by kernel_rfl) ?_; refine rn F ?_))
    all_goals first
     | exact⟨⟨m,by omega,hrl.trans el⟩,by dsimp only; omega,(gc [0])⟩
     | exact⟨⟨m,by omega,hrl.trans el⟩,(gc [0])⟩
   ·skip
    have F:=(Ja @hc' (Ja @hg (Ja @hm0 (Ja @hml (Ja @hx (Ja @s1 (Ja @s2 @Qf8)))))))
    refine rn F ?_
    repeat' (first
     | with_reducible exact⟨⟩
     | refine vl F (c4) ?_
     | (refine Qd (id:=9) [0,1,2,3,4,5,6,7,8,9,10,11,12,13,14,15,16] [] (by kernel_rfl) (by kernel_rfl) ?_; refine rn F ?_)
     | (refine Qd (id:=11) [0,1,2,3,4,5,6,7,8,9] [⟨[],[],10,[0,1,2,3,5,6,7,8],[]⟩] (by kernel_rfl) (by kernel_rfl) ?_; refine rn F ?_))
    rw[khs (hrl.trans el)]
  ·rw [if_neg hsame] at el
   have F:=(Ja @hc' (Ja @hg (Ja @hm0 (Ja @hml (Ja @hx @Qf8)))))
   refine rn F ?_
   repeat' (first
    | with_reducible exact⟨⟩
    | (refine sB F ?_ ?_<;>intro hZ)
    | refine vp F (c4) ?_
    | (refine Qd (id:=9) [0,1,2,3,4,5,6,7,8,9,10,11,12,13,14,15,16] [] (by kernel_rfl) (by kernel_rfl) ?_; refine rn F ?_)
    | (refine Qd (id:=11) [0,1,2,3,4,5,6,7,8,9] [⟨[],[],10,[0,1,2,3,5,6,7,8],[]⟩] (by kernel_rfl) (by kernel_rfl) ?_; refine rn F ?_))
   all_goals first
    | exact⟨s.next hc (hrl.trans el),s.dec hc,(gc [0])⟩
    | (exfalso; omega)
    | (exfalso; exact hsame ⟨by assumption,by assumption⟩)
    | (exfalso; simp_all; done)
    | skip
def QbL(t:Lk)(hs:t.sum<=100000):VCalls prog 151 [.agg t.d] [] (QL (fun b:Bool=>.bool b) fun b=>b=true->t.sum<=1024):=
 (QiJ t hs).toS (lkB t) rfl fun h=>by
  rcases Kg 1024 t.sum with h1 | h1
  ·rw[QFf (by omega)] at h; cases h
  ·exact h1
def QdL(t:Lk)(hs:t.sum<=5000)(tx:Int):VCalls prog 121 [.agg t.d,.int .i64 tx] [] (QL (fun a:Gr×Bool=>.tup [.agg a.1.d,.bool a.2]) fun _=>True):=by
 refine dd Tryz.func121 ?_
 have c1:=QbL t (by omega)
 unfold Lk.sum at *
 obtain⟨l,w⟩:=t
 dsimp only at hs c1 |-
 (unfold Tryz.f121; refine rn trivial ?_)
 refine rn F ?_
 repeat' (first
  | with_reducible exact⟨⟩
  | (refine sB F ?_ ?_<;>intro hZ)
  | (refine Qp (c1) rfl ?_; rintro b hb; refine rn F ?_))
 all_goals first
  | exact⟨rfl,rfl,(Gr0,false),rfl,trivial⟩
  | skip
 refine Qj (fun s:To w.length=>⟨30,0,[(6,.int .i64 s.i),(4,.ptr 1 0),(2,.ptr 0 0),(1,.int .i64 tx)],[⟨32,true,[.pv (.sl (fz Qau l)),.pv (.sl (fz Qau w))]⟩,⟨201,true,[.int .i64 0,.int .i64 0,.int .i64 0,.int .i64 0]⟩]⟩) (fun s=>w.length-s.i) ⟨0,Jl _⟩ (gc [0,1]) ?_
 rintro⟨i,hi⟩
 dsimp only
 have hg:=fun h:i<w.length=>QaI w i h
 have F:=@hg
 refine rn F ?_
 repeat' (first
  | with_reducible exact⟨⟩
  | (refine sB F ?_ ?_<;>intro hZ))
 all_goals first
  | exact⟨⟨i+1,by omega⟩,by dsimp only; omega,(gc [0,1])⟩
  | exact⟨rfl,rfl,(Gr0,false),rfl,trivial⟩
  | exact⟨rfl,rfl,(w.getD i Gr0,true),rfl,trivial⟩
  | skip
def QdN(t:Lk)(hs:t.sum<=5000)(tx:Int):VCalls prog 111 [.agg t.d,.int .i64 tx] [] (QL (fun u:Lk=>.agg u.d) fun u=>u.sum<=t.sum):=by
 refine dd Tryz.func111 ?_
 have c1:=QbL t (by omega)
 have c4:=QeJ
 unfold Lk.sum at *
 obtain⟨l,w⟩:=t
 dsimp only at hs c1 |-
 have c2:=fun a=>QjI l (by omega) a
 have c3:=fun a=>QjI w (by omega) a
 (unfold Tryz.f111; refine rn trivial ?_)
 refine rn F ?_
 repeat' (first
  | with_reducible exact⟨⟩
  | (refine sB F ?_ ?_<;>intro hZ)
  | (refine Qp (c1) rfl ?_; rintro b hb; refine rn F ?_)
  | (refine Qp (c2 _ _ _ _) rfl ?_; rintro m1 hm1; refine rn F ?_)
  | (refine Qp (c3 _ _ _ _) rfl ?_; rintro m2 hm2; refine rn F ?_)
  | (refine Qp (c4 ⟨_,_⟩ (by dsimp only; omega)) rfl ?_; rintro u hu; refine rn F ?_)
  | (refine Qd (id:=3) [0,1,2,3,5,6,7,8] [⟨[],[],4,[0,5,6,7,8],[]⟩,⟨[],[],9,[0,1,2,3,5],[10]⟩,⟨[],[],11,[0,1,2,3,5,6,7,8],[]⟩,⟨[],[],12,[],[]⟩] (by kernel_rfl) (by kernel_rfl) ?_; refine rn F ?_))
 all_goals first
  | exact⟨rfl,rfl,⟨l,w⟩,rfl,Jt _⟩
  | (exact⟨rfl,rfl,u,rfl,by dsimp only at hu; omega⟩)
  | skip
def Qt7(t:Lk)(hs:t.sum<=5000)(tx:Int):VCalls prog 213 [.agg t.d,.int .i64 tx] [] (QL (fun u:Lk=>.agg u.d) fun u=>u.sum<=t.sum):=by
 refine dd Tryz.func213 ?_
 have c1:=QbL t (by omega)
 have c4:=QeJ
 unfold Lk.sum at *
 obtain⟨l,w⟩:=t
 dsimp only at hs c1 |-
 have c3:=fun a=>QjI w (by omega) a
 (unfold Tryz.f213; refine rn trivial ?_)
 refine rn F ?_
 repeat' (first
  | with_reducible exact⟨⟩
  | (refine sB F ?_ ?_<;>intro hZ)
  | (refine Qp (c1) rfl ?_; rintro b hb; refine rn F ?_)
  | (refine Qp (c3 _ _ _ _) rfl ?_; rintro m2 hm2; refine rn F ?_)
  | (refine Qp (c4 ⟨_,_⟩ (by dsimp only; omega)) rfl ?_; rintro u hu; refine rn F ?_)
  | (refine Qd (id:=3) [0,1,2,3,4,5] [⟨[],[],6,[0,1,2],[7]⟩,⟨[],[],8,[0,1,2,3,4,5],[]⟩,⟨[],[],9,[],[]⟩] (by kernel_rfl) (by kernel_rfl) ?_; refine rn F ?_))
 all_goals first
  | exact⟨rfl,rfl,⟨l,w⟩,rfl,Jt _⟩
  | (exact⟨rfl,rfl,u,rfl,by dsimp only at hu; omega⟩)
  | skip
def QtZ(t:Lk)(hs:t.sum<=5000)(tx pg sl:Int):VCalls prog 165 [.agg t.d,.int .i64 tx,.agg [.int .i64 pg,.int .i64 sl]] [] (QL (fun u:Lk=>.agg u.d) fun u=>u.sum<=t.sum):=by
 refine dd Tryz.func165 ?_
 have c1:=QbL t (by omega)
 have c4:=QeJ
 unfold Lk.sum at *
 obtain⟨l,w⟩:=t
 dsimp only at hs c1 |-
 have c2:=fun a=>QjI l (by omega) a
 (unfold Tryz.f165; refine rn trivial ?_)
 refine rn F ?_
 repeat' (first
  | with_reducible exact⟨⟩
  | (refine sB F ?_ ?_<;>intro hZ)
  | (refine Qp (c1) rfl ?_; rintro b hb; refine rn F ?_)
  | (refine Qp (c2 _ _ _ _) rfl ?_; rintro m1 hm1; refine rn F ?_)
  | (refine Qp (c4 ⟨_,_⟩ (by dsimp only; omega)) rfl ?_; rintro u hu; refine rn F ?_)
  | (refine Qd (id:=3) [0,1,2,3,5,6] [⟨[],[],4,[0,5,6],[7]⟩,⟨[],[],8,[0,1,2,3,5,6],[]⟩,⟨[],[],9,[],[]⟩] (by kernel_rfl) (by kernel_rfl) ?_; refine rn F ?_))
 all_goals first
  | exact⟨rfl,rfl,⟨l,w⟩,rfl,Jt _⟩
  | (exact⟨rfl,rfl,u,rfl,by dsimp only at hu; omega⟩)
  | skip
def QHJ(a:Lk×Bool×Int):DV:=.tup [.agg a.1.d,.bool a.2.1,.int .i64 a.2.2]
def Lk0:Lk:=⟨[],[]⟩
def Qwt(a b c d a' b' c' d':Int):QV [.pv (.lit (.int .i64 a)),.pv (.lit (.int .i64 b)),.pv (.lit (.int .i64 c)),.pv (.lit (.int .i64 d))] [.pv (.lit (.int .i64 a')),.pv (.lit (.int .i64 b')),.pv (.lit (.int .i64 c')),.pv (.lit (.int .i64 d'))] [(0,1),(1,1),(2,1),(3,1)]=some (decide (a=a')&&decide (b=b')&&decide (c=c')&&decide (d=d')):=by simp[QV,Qao,Jy,JU]
def Qqs(t:Lk)(hs:t.sum<=4000)(g:Gr):VCalls prog 173 [.agg t.d,.agg g.d] [] (QL QHJ fun a=>a.1.sum<=1024):=by
 refine dk Tryz.func173 ?_
 have c1:=QbL t (by omega)
 have c2:=QtM g
 have c3:=QdL t (by omega) g.tx
 have c4:=QeJ
 have c5:=QxP t (by omega) g
 have c6:=fun(u:Lk) (h:u.held.length<=1000000)=>QnA u h
 unfold Lk.sum at *
 obtain⟨l,w⟩:=t
 dsimp only at hs c1 c5 |-
 generalize QAl=M at *
 (unfold Tryz.f173; refine rn trivial ?_)
 have F:=@Qwt
 refine rn F ?_
 repeat' (first
  | with_reducible exact⟨⟩
  | (refine sG F ?_ ?_<;>intro hZ)
  | (refine sB F ?_ ?_<;>intro hZ)
  | (refine Qp (c1) rfl ?_; rintro b hb; refine rn F ?_)
  | refine vp F (c2) ?_
  | (refine Qp (c3) rfl ?_; rintro⟨g0,b0⟩ -; refine rn F ?_)
  | (refine vp F (c6 ⟨_,_⟩ (by first | (dsimp only; omega) | (dsimp only at hu |-; simp only[Jb,Jn,Jx,Jd,Jc] at hu; omega)) _ _ _) ?_)
  | (refine Qp (c5) rfl ?_; rintro n hn; refine rn F ?_)
  | (refine Qju [7] _ _ (c4 ⟨l,w.take n++[⟨g.tx,g.pg,g.sl,g.md⟩]++w.drop n⟩ (by dsimp only; simp only[Jb,Jn,Jx,Jd,Jc]; omega)) rfl ⟨⟨by simp,Qw _ _ _⟩,trivial⟩ (by decide) rfl (by simp[DV.nums.go,DV.nums]) ?_ ?_; (focus (refine rd F)); rintro⟨ul,uw⟩ hu; refine rn F ?_)
  | (refine Qd (id:=10) [0,1,2,3,4,6,7] [⟨[],[],5,[1,3,6,7],[8]⟩] (by kernel_rfl) (by kernel_rfl) ?_; refine rn F ?_)
  | (refine Qd (id:=15) [0,1,2,3,5,8,9,10,11] [⟨[6],[],4,[0,1,2,5,8,9,10,11],[]⟩,⟨[6],[6],7,[0,1,2,3,5,8,9,10,11],[]⟩,⟨[],[],12,[0,1,2,3,5,8,9,10],[13]⟩,⟨[],[],14,[],[]⟩] (by kernel_rfl) (by kernel_rfl) ?_; refine rn F ?_)
  | (refine Qd (id:=17) [0,1,2,3,4,5,7,8] [⟨[],[],6,[0,2,4,7,8],[9]⟩,⟨[],[],10,[1,2,3,4,5,7,8,9],[]⟩,⟨[],[],11,[],[]⟩,⟨[],[],12,[],[]⟩] (by kernel_rfl) (by kernel_rfl) ?_; refine rn F ?_))
 all_goals first
  | exact⟨rfl,rfl,(⟨ul,uw⟩,_,_),rfl,by have:=hb (by first | assumption | rfl); dsimp only[Jb] at hu |-; simp only[Jb,Jn,Jx,Jd,Jc] at hu; omega⟩
  | exact⟨rfl,rfl,(Lk0,false,_),rfl,by simp[Lk0]⟩
  | exact⟨rfl,rfl,(⟨l,w⟩,_,_),rfl,hb (by first | assumption | rfl)⟩
  | skip
attribute [go_sem] QF3 QEy QEw Qkq
@[go_sem] def ilD(l:List Int):DV:=.pv (.sl (fz Qad l))
def Qnu(l:List Int)(hl:l.length<=100000)(n:Int):VCalls prog 178 [.pv (.sl (fz Qad l)),.int .i64 n] [] (QL ilD fun m=>m.length<=l.length+1):=by
 refine dd Tryz.func178 ?_
 (unfold Tryz.f178; refine rn trivial ?_)
 refine VLoop.nilOwn 5 3 1 rfl ?_
 refine rn trivial ?_
 refine Qj (fun s:{s:Nat×List Int×Bool // s.1<=l.length/\s.2.1.length<=s.1+1/\(s.2.2=false->s.2.1.length<=s.1)}=>⟨48,0,[(7,.int .i64 s.1.1),(6,.bool s.1.2.2),(5,.own 0 1 0 s.1.2.1.length),(1,.int .i64 n),(0,.pv (.sl (fz Qad l)))],[⟨3,true,cells Qad s.1.2.1⟩]⟩) (fun s=>l.length-s.1.1) ⟨(0,[],false),by simp⟩ (gc [0]) ?_
 rintro⟨⟨i,out,dn⟩,hi,ho,hd⟩
 dsimp only at hi ho hd |-
 have hg:=fun h:i<l.length=>Qac l i h
 have hb:(out.length+1)*8<=140737488355328:=Jf (Ju 8 (show out.length+1<=100003 by omega)) (by decide)
 have hb2:(out.length+1+1)*8<=140737488355328:=Jf (Ju 8 (show out.length+1+1<=100003 by omega)) (by decide)
 cases dn
 all_goals
  simp only[forall_const,reduceCtorEq,false_implies] at hd
  have F:=(Ja @hg (Ja @hb @hb2))
  refine rn F ?_
  repeat' (first
   | with_reducible exact⟨⟩
   | (refine sB F ?_ ?_<;>intro hZ))
 all_goals first
  | exact⟨rfl,rfl,out,rfl,by omega⟩
  | exact⟨rfl,rfl,out++[n],rfl,by simp; omega⟩
  | exact⟨⟨(i+1,out,false),by dsimp only; omega,by dsimp only; (try rw[Jc]); omega,by dsimp only; (try rw[Jc]); first | omega | (intro h; omega) | (intro h; cases h)⟩,by dsimp only; omega,by dsimp only; (try rw[Jc]); exact(gc [0])⟩
  | exact⟨⟨(i+1,out++[l.getD i 0],false),by dsimp only; omega,by dsimp only; (try rw[Jb,Jd,Jc]); omega,by dsimp only; (try rw[Jb,Jd,Jc]); first | omega | (intro h; omega) | (intro h; cases h)⟩,by dsimp only; omega,by dsimp only; (try rw[Jb,Jd,Jc]); exact(gc [2])⟩
  | exact⟨⟨(i+1,out,true),by dsimp only; omega,by dsimp only; (try rw[Jc]); omega,by dsimp only; (try rw[Jc]); first | omega | (intro h; omega) | (intro h; cases h)⟩,by dsimp only; omega,by dsimp only; (try rw[Jc]); exact(gc [0])⟩
  | exact⟨⟨(i+1,out++[l.getD i 0],true),by dsimp only; omega,by dsimp only; (try rw[Jb,Jd,Jc]); omega,by dsimp only; (try rw[Jb,Jd,Jc]); first | omega | (intro h; omega) | (intro h; cases h)⟩,by dsimp only; omega,by dsimp only; (try rw[Jb,Jd,Jc]); exact(gc [2])⟩
  | exact⟨⟨(i+1,out++[n],true),by dsimp only; omega,by dsimp only; (try rw[Jb,Jd,Jc]); omega,by dsimp only; (try rw[Jb,Jd,Jc]); first | omega | (intro h; omega) | (intro h; cases h)⟩,by dsimp only; omega,by dsimp only; (try rw[Jb,Jd,Jc]); exact(gc [2])⟩
  | exact⟨⟨(i+1,out++[n]++[l.getD i 0],true),by dsimp only; omega,by dsimp only; (try rw[Jb,Jb,Jd,Jc,Jd,Jc]); omega,by dsimp only; (try rw[Jb,Jb,Jd,Jc,Jd,Jc]); first | omega | (intro h; omega) | (intro h; cases h)⟩,by dsimp only; omega,by dsimp only; (try rw[Jb,Jb,Jd,Jc,Jd,Jc]); exact(gc [4])⟩
  | skip
def Qqp(t:Lk)(hs:t.sum<=5000):VCalls prog 218 [.agg t.d] [] (QL ilD fun m=>m.length<=t.sum):=by
 refine dk Tryz.func218 ?_
 have c1:=QbL t (by omega)
 unfold Lk.sum at *
 obtain⟨l,w⟩:=t
 dsimp only at hs c1 |-
 (unfold Tryz.f218; refine rn trivial ?_)
 refine rn F ?_
 repeat' (first
  | with_reducible exact⟨⟩
  | (refine sB F ?_ ?_<;>intro hZ)
  | (refine Qp (c1) rfl ?_; rintro b -; refine rn F ?_))
 all_goals first
  | exact⟨rfl,rfl,[],rfl,by simp⟩
  | skip
 refine VLoop.wkS ?_
 refine rn trivial ?_
 refine Qj (fun s:{s:Nat×List Int // s.1<=w.length/\s.2.length<=s.1}=>⟨23,0,[(4,.int .i64 s.1.1),(3,.pv (.sl (fz Qad s.1.2))),(1,.ptr 0 0)],[⟨32,true,[.pv (.sl (fz Qau l)),.pv (.sl (fz Qau w))]⟩]⟩) (fun s=>w.length-s.1.1) ⟨(0,[]),by simp⟩ (gc [0]) ?_
 rintro⟨⟨i,out⟩,hi,ho⟩
 dsimp only at hi ho |-
 have hg:=fun h:i<w.length=>QaI w i h
 have c2:=Qnu out (by omega)
 have F:=@hg
 refine rn F ?_
 repeat' (first
  | with_reducible exact⟨⟩
  | (refine sB F ?_ ?_<;>intro hZ)
  | (refine Qp (c2 _) rfl ?_; rintro m hm; refine rn F ?_))
 all_goals first
  | exact⟨⟨(i+1,m),by dsimp only; omega,by dsimp only; omega⟩,by dsimp only; omega,(gc [0])⟩
  | exact⟨rfl,rfl,out,rfl,by omega⟩
  | skip
def QoO(t:Lk)(hs:t.sum<=5000)(tx:Int):VCalls prog 122 [.agg t.d,.int .i64 tx] [] (QL ilD fun m=>m.length<=t.sum):=by
 refine dk Tryz.func122 ?_
 have c1:=QdL t (by omega) tx
 unfold Lk.sum at *
 obtain⟨l,w⟩:=t
 dsimp only at hs c1 |-
 (unfold Tryz.f122; refine rn trivial ?_)
 refine rn F ?_
 repeat' (first
  | with_reducible exact⟨⟩
  | (refine sB F ?_ ?_<;>intro hZ)
  | (refine Qp (c1) rfl ?_; rintro⟨g,b⟩ -; refine rn F ?_))
 all_goals first
  | exact⟨rfl,rfl,[],rfl,by simp⟩
  | skip
 refine VLoop.wkS ?_
 refine rn trivial ?_
 refine Qj (fun s:{s:Nat×List Int // s.1<=l.length/\s.2.length<=s.1}=>⟨73,0,[(8,.int .i64 s.1.1),(7,.pv (.sl (fz Qad s.1.2))),(5,.ptr 1 0),(2,.ptr 0 0),(1,.int .i64 tx)],[⟨32,true,[.pv (.sl (fz Qau l)),.pv (.sl (fz Qau w))]⟩,⟨201,true,g.d⟩]⟩) (fun s=>l.length-s.1.1) ⟨(0,[]),by simp⟩ (gc [0,1]) ?_
 rintro⟨⟨i,out⟩,hi,ho⟩
 dsimp only at hi ho |-
 have hg:=fun h:i<l.length=>QaI l i h
 have c2:=Qnu out (by omega)
 have c3:=Qgt (l.getD i Gr0) g
 have F:=@hg
 refine rn F ?_
 repeat' (first
  | with_reducible exact⟨⟩
  | (refine sB F ?_ ?_<;>intro hZ)
  | refine vp F (c3) ?_
  | (refine Qp (c2 _) rfl ?_; rintro m hm; refine rn F ?_)
  | (refine Qd (id:=8) [0,1,2,3,4,5] [⟨[],[],6,[0,1,2,3],[]⟩] (by kernel_rfl) (by kernel_rfl) ?_; refine rn F ?_))
 all_goals first
  | exact⟨⟨(i+1,m),by dsimp only; omega,by dsimp only; omega⟩,by dsimp only; omega,(gc [0,1])⟩
  | exact⟨⟨(i+1,out),by dsimp only; omega,by dsimp only; omega⟩,by dsimp only; omega,(gc [0,1])⟩
  | skip
 clear c2 c3 hg
 refine Qj (fun s:{s:Nat×List Int // s.1<=w.length/\s.2.length<=l.length+s.1}=>⟨73,0,[(9,.int .i64 s.1.1),(7,.pv (.sl (fz Qad s.1.2))),(5,.ptr 1 0),(2,.ptr 0 0),(1,.int .i64 tx)],[⟨32,true,[.pv (.sl (fz Qau l)),.pv (.sl (fz Qau w))]⟩,⟨201,true,g.d⟩]⟩) (fun s=>w.length-s.1.1) ⟨(0,out),by dsimp only; omega⟩ (gc [0,1]) ?_
 rintro⟨⟨j,o2⟩,hj,ho2⟩
 dsimp only at hj ho2 |-
 have hg:=fun h:j<w.length=>QaI w j h
 have c2:=Qnu o2 (by omega)
 have c3:=Qgt (w.getD j Gr0) g
 have F:=@hg
 refine rn F ?_
 repeat' (first
  | with_reducible exact⟨⟩
  | (refine sG F ?_ ?_<;>intro hZ)
  | (refine sB F ?_ ?_<;>intro hZ)
  | refine vp F (c3) ?_
  | (refine Qp (c2 _) rfl ?_; rintro m hm; refine rn F ?_)
  | (refine Qd (id:=13) [0,1,2,3,4,5] [⟨[],[],6,[0,1,2,3],[]⟩] (by kernel_rfl) (by kernel_rfl) ?_; refine rn F ?_))
 all_goals first
  | exact⟨⟨(j+1,m),by dsimp only; omega,by dsimp only; omega⟩,by dsimp only; omega,(gc [0,1])⟩
  | exact⟨⟨(j+1,o2),by dsimp only; omega,by dsimp only; omega⟩,by dsimp only; omega,(gc [0,1])⟩
  | exact⟨rfl,rfl,o2,rfl,by omega⟩
  | skip
def Qx8(l:List Int):VCalls prog 220 [.pv (.sl (fz Qad l))] [] (QL (fun n:Int=>.int .i64 n) fun _=>True):=by
 refine dd Tryz.func220 ?_
 have hg:=fun h:0<l.length=>Qac l 0 h
 (unfold Tryz.f220; refine rn trivial ?_)
 have F:=@hg
 refine rn F ?_
 repeat' (first
  | with_reducible exact⟨⟩
  | (refine sB F ?_ ?_<;>intro hZ))
 all_goals first
  | exact⟨rfl,rfl,_,rfl,trivial⟩
  | skip
def Qt5 (t:Lk) (hs:t.sum<=5000) (n:Nat) (hn:n<=5000):∀ (k:Nat) (way:List Int),0 < way.length->way.length + k = n->VCalls prog 219 [.agg t.d,.pv (.sl (fz Qad way)),.int .i64 n] [] (QL ilD fun m=>m.length<=5000):=by
 intro k
 induction k with
 | zero =>
   intro way h0 hk
   refine dk Tryz.func219 ?_
   have c1:=QoO t hs
   have hg:=Qac way (way.length-1) (by omega)
   have hg0:=Qac way 0 h0
   obtain rfl:n=way.length:=by omega
   (unfold Tryz.f219; refine rn trivial ?_)
   have F:=@hg
   refine rn F ?_
   repeat' (first
    | with_reducible exact⟨⟩
    | (refine Qp (c1 _) rfl ?_; rintro m hm; refine rn F ?_)
    | (refine Qd (id:=1) [0,1,2,3,4,5,6] [⟨[],[],7,[1,2,3,4,5],[]⟩,⟨[],[],8,[],[]⟩] (by kernel_rfl) (by kernel_rfl) ?_; refine rn F ?_))
   refine Qj (fun s:To m.length=>⟨74,0,[(30,.int .i64 s.i),(29,.int .i64 m.length),(28,.pv (.sl (fz Qad m))),(1,.pv (.sl (fz Qad way)))],[]⟩) (fun s=>m.length-s.i) ⟨0,Jl _⟩ (gc []) ?_
   rintro⟨i,hi⟩
   dsimp only
   have hx:=fun h:i<m.length=>Qac m i h
   have F:=(Ja @hx @hg0)
   refine rn F ?_
   repeat' (first
    | with_reducible exact⟨⟩
    | (refine sB F ?_ ?_<;>intro hZ))
   all_goals first
    | exact⟨⟨i+1,by omega⟩,by dsimp only; omega,(gc [])⟩
    | exact⟨rfl,rfl,way,rfl,by omega⟩
    | exact⟨rfl,rfl,[],rfl,by simp⟩
    | skip
 | succ k ih =>
   intro way h0 hk
   refine dk Tryz.func219 ?_
   have c1:=QoO t hs
   have hg:=Qac way (way.length-1) (by omega)
   obtain rfl:n=way.length+(k+1):=by omega
   have hne:¬ (way.length:Int)=((way.length+(k+1):Nat):Int):=by omega
   (unfold Tryz.f219; refine rn trivial ?_)
   have F:=(Ja @hg @hne)
   refine rn F ?_
   repeat' (first
    | with_reducible exact⟨⟩
    | (refine Qp (c1 _) rfl ?_; rintro m hm; refine rn F ?_)
    | (refine Qd (id:=1) [0,1,2,3,4,5,6] [⟨[],[],7,[1,2,3,4,5],[]⟩,⟨[],[],8,[],[]⟩] (by kernel_rfl) (by kernel_rfl) ?_; refine rn F ?_))
   refine Qj (fun s:To m.length=>⟨74,0,[(43,.int .i64 s.i),(42,.int .i64 m.length),(41,.pv (.sl (fz Qad m))),(3,.ptr 0 0),(2,.int .i64 (way.length+(k+1):Nat)),(1,.pv (.sl (fz Qad way)))],[⟨32,true,t.d⟩]⟩) (fun s=>m.length-s.i) ⟨0,Jl _⟩ (gc [0]) ?_
   rintro⟨i,hi⟩
   dsimp only
   have hx:=fun h:i<m.length=>Qac m i h
   have F:=@hx
   refine rn F ?_
   repeat' (first
    | with_reducible exact⟨⟩
    | (refine sB F ?_ ?_<;>intro hZ))
   rotate_left
   ·exact⟨rfl,rfl,[],rfl,by simp⟩
   generalize hv:m.getD i 0=v at *
   refine Qj (fun s:{s:Nat×Bool // s.1<=way.length}=>⟨74,0,[(49,.int .i64 s.1.1),(48,.int .i64 way.length),(47,.pv (.sl (fz Qad way))),(43,.int .i64 i),(42,.int .i64 m.length),(41,.pv (.sl (fz Qad m))),(12,.bool s.1.2),(11,.int .i64 v),(3,.ptr 0 0),(2,.int .i64 (way.length+(k+1):Nat)),(1,.pv (.sl (fz Qad way)))],[⟨32,true,t.d⟩]⟩) (fun s=>way.length-s.1.1) ⟨(0,false),Jl _⟩ (gc [0]) ?_
   rintro⟨⟨j,sn⟩,hj⟩
   dsimp only at hj |-
   have hy:=fun h:j<way.length=>Qac way j h
   have hb:(way.length+1)*8<=140737488355328:=Jf (Ju 8 (show way.length+1<=100003 by omega)) (by decide)
   have hb2:way.length*8<=140737488355328:=Jf (Ju 8 (show way.length<=100003 by omega)) (by decide)
   have ih2:=ih (way++[v]) (by simp) (by simp; omega)
   have F:=(Ja @hy (Ja @hb @hb2))
   refine rn F ?_
   repeat' (first
    | with_reducible exact⟨⟩
    | (refine sG F ?_ ?_<;>intro hZ)
    | (refine sB F ?_ ?_<;>intro hZ)
    | (refine Qju [3] _ _ (ih2) rfl ⟨⟨by simp,Qw _ _ _⟩,trivial⟩ (by decide) rfl (by simp[DV.nums.go,DV.nums]) ?_ ?_; (focus (refine rd F)); rintro m2 hm2; refine rn F ?_)
    | (refine Qd (id:=20) [0,1,3,6] [⟨[4],[],2,[0,3,6],[]⟩,⟨[4],[4],5,[0,1,3,6],[]⟩,⟨[],[],7,[1,3],[]⟩,⟨[],[],8,[],[]⟩] (by kernel_rfl) (by kernel_rfl) ?_; refine rn F ?_))
   all_goals first
    | exact⟨⟨(j+1,v==way.getD j 0),by dsimp only; omega⟩,by dsimp only; omega,(gc [0])⟩
    | exact⟨⟨(j+1,true),by dsimp only; omega⟩,by dsimp only; omega,(gc [0])⟩
    | exact⟨⟨i+1,by omega⟩,by dsimp only; omega,(gc [0])⟩
    | exact⟨rfl,rfl,m2,rfl,hm2⟩
    | skip
def Qyb(t:Lk)(hs:t.sum<=5000)(tx:Int):VCalls prog 175 [.agg t.d,.int .i64 tx] [] (QL ilD fun m=>m.length<=5000):=by
 refine dk Tryz.func175 ?_
 have c1:=Qqp t hs
 (unfold Tryz.f175; refine rn trivial ?_)
 refine Qj (fun s:{s:Nat // 1<=s/\s<=t.sum+1}=>⟨23,0,[(5,.int .i64 s.1),(2,.ptr 0 0),(1,.int .i64 tx)],[⟨32,true,t.d⟩]⟩) (fun s=>t.sum+1-s.1) ⟨1,by omega⟩ (gc [0]) ?_
 rintro⟨i,hi⟩
 dsimp only
 have c2:=fun(h:i<=5000)=>Qt5 t hs i h (i-1) [tx] (by simp) (by simp; omega)
 refine rn F ?_
 repeat' (first
  | with_reducible exact⟨⟩
  | (refine sB F ?_ ?_<;>intro hZ)
  | (refine Qp (c1) rfl ?_; rintro m hm; refine rn F ?_))
 ·rw [show ([.pv (.lit (.int .i64 tx))]:List DV) = cells Qad [tx] from rfl]
  refine Qju [1] _ _ (c2 (by omega)) rfl ⟨⟨by simp,Qw _ _ _⟩,trivial⟩ (by decide) rfl (by simp[DV.nums.go,DV.nums]) ?_ ?_
  ·(refine rn trivial ?_; try with_reducible exact⟨⟩)
  intro m2 hm2
  refine rn F ?_
  repeat' (first
   | with_reducible exact⟨⟩
   | (refine sB F ?_ ?_<;>intro hZ))
  ·exact⟨rfl,rfl,m2,rfl,hm2⟩
  ·exact⟨⟨i+1,by omega⟩,by dsimp only; omega,(gc [0])⟩
 ·exact⟨rfl,rfl,[],rfl,by simp⟩
def Qht(x:Lg):Int:=if lgB x=true then x.end_ else 0
def Qgq(x:Lg)(hx:x.es.length<=9223372036854775807):VCalls prog 46 [.agg x.c] [] (Ret (.int .i64 (Qht x))):=by
 refine dd Tryz.func46 ?_
 have c1:=Qax x hx
 have c2:=Qhb x
 have hh:=@QaG x
 simp only[Lg.hd] at hh
 unfold Qht
 generalize lgB x=b at *
 cases b
 ·(unfold Tryz.f46; refine rn trivial ?_; try with_reducible exact ⟨⟩)
  refine rn F ?_
  repeat' (first
   | with_reducible exact⟨⟩
   | refine vp F (c1) ?_)
  all_goals rfl
 ·replace hh:=hh rfl
  (unfold Tryz.f46; refine rn trivial ?_)
  refine rn F ?_
  repeat' (first
   | with_reducible exact⟨⟩
   | refine vp F (c1) ?_
   | refine vp F (c2 (by omega) (by omega)) ?_)
  all_goals rfl
def Qt9(x:Lg)(hx:x.es.length<=9223372036854775807)(e:E):VCalls prog 140 [.agg x.c,.agg e.d] [] (Ret (QHw (QfR x e))):=by
 refine dk Tryz.func140 ?_
 have c1:=Qax x hx
 have c2:=Qhb x
 have c3:=QcQ { e with lsn:=x.end_+1 }
 have hh:=@QaG x
 have he:=@QuR x
 simp only[Lg.hd] at hh
 have e0:QfR x e=if lgB x=false then (Lg0,0,26) else if x.es.length=4096\/1099511627776<x.end_+1 then (Lg0,0,21)
  else if ({ e with lsn:=x.end_+1 }:E).okB=false then (Lg0,0,12) else (⟨x.f,x.es++[{ e with lsn:=x.end_+1 }],x.d⟩,x.end_+1,0):=rfl
 unfold QHw
 generalize QfR x e=r at *
 generalize lgB x=b at *
 obtain⟨lsn,kind,tx,ptx,ppg,ref,c,blob⟩:=e
 dsimp only at c3 e0 |-
 cases b
 ·(unfold Tryz.f140; refine rn trivial ?_; try with_reducible exact ⟨⟩)
  refine rn F ?_
  repeat' (first
   | with_reducible exact⟨⟩
   | refine vp F (c1) ?_)
  all_goals (first | (rw[e0]; simp(disch:=first | assumption | omega | exact rfl | exact nf (by assumption) | exact nt (by assumption) | decide | fail) only[if_pos,if_neg]; first | done | rfl) | (rw[e0]; simp(disch:=first | assumption | omega | exact rfl | exact nf (by assumption) | exact nt (by assumption) | decide | (simp_all; done) | fail) only[if_pos,if_neg]; first | done | rfl))
 ·replace hh:=hh rfl
  replace he:=he rfl
  have hdef:x.end_=x.f+x.es.length-1:=rfl
  have hl:=QdB x.es ⟨x.end_+1,kind,tx,ptx,ppg,ref,c,blob⟩
  dsimp only at hl
  have hb:(x.es.length+1)*128<=140737488355328:=by omega
  generalize (⟨x.end_+1,kind,tx,ptx,ppg,ref,c,blob⟩:E).okB=ok at *
  generalize x.end_=en at *
  (unfold Tryz.f140; refine rn trivial ?_)
  have F:=(Ja @hb @hl)
  refine rn F ?_
  repeat' (first
   | with_reducible exact⟨⟩
   | (refine sG F ?_ ?_<;>intro hZ)
   | (refine sB F ?_ ?_<;>intro hZ)
   | refine vp F (c1) ?_
   | refine vp F (c2 (by omega) (by omega)) ?_
   | refine vp F (c3) ?_
   | (refine Qd (id:=8) [0,1,3] [⟨[4],[],2,[0,3],[]⟩,⟨[4],[4],5,[0,1,3],[6]⟩,⟨[],[],7,[],[]⟩] (by kernel_rfl) (by kernel_rfl) ?_; refine rn F ?_)
   | (refine Qd (id:=9) [0,1,2] [⟨[],[],3,[1,2],[]⟩,⟨[],[],4,[],[]⟩,⟨[],[],5,[],[]⟩] (by kernel_rfl) (by kernel_rfl) ?_; refine rn F ?_))
  all_goals first | (first | (rw[e0]; simp(disch:=first | assumption | omega | exact rfl | exact nf (by assumption) | exact nt (by assumption) | decide | fail) only[if_pos,if_neg]; first | done | rfl) | (rw[e0]; simp(disch:=first | assumption | omega | exact rfl | exact nf (by assumption) | exact nt (by assumption) | decide | (simp_all; done) | fail) only[if_pos,if_neg]; first | done | rfl)) | skip
def QjJ(x:Lg)(hx:x.es.length<=9223372036854775807)(n:Int):VCalls prog 45 [.agg x.c,.int .i64 n] [] (Ret (lgD (Q8 x n))):=by
 refine dk Tryz.func45 ?_
 have c1:=Qax x hx
 have c2:=Qhb x
 have hh:=@QaG x
 simp only[Lg.hd] at hh
 have e0:Q8 x n=if lgB x=false then (Lg0,26) else if x.end_<n then (Lg0,14) else (⟨x.f,x.es,if n > x.d then n else x.d⟩,0):=rfl
 unfold lgD
 generalize Q8 x n=r at *
 generalize lgB x=b at *
 cases b
 ·(unfold Tryz.f45; refine rn trivial ?_; try with_reducible exact ⟨⟩)
  refine rn F ?_
  repeat' (first
   | with_reducible exact⟨⟩
   | refine vp F (c1) ?_)
  all_goals (first | (rw[e0]; simp(disch:=first | assumption | omega | exact rfl | exact nf (by assumption) | exact nt (by assumption) | decide | fail) only[if_pos,if_neg]; first | done | rfl) | (rw[e0]; simp(disch:=first | assumption | omega | exact rfl | exact nf (by assumption) | exact nt (by assumption) | decide | (simp_all; done) | fail) only[if_pos,if_neg]; first | done | rfl))
 ·replace hh:=hh rfl
  (unfold Tryz.f45; refine rn trivial ?_)
  refine rn F ?_
  repeat' (first
   | with_reducible exact⟨⟩
   | (refine sB F ?_ ?_<;>intro hZ)
   | refine vp F (c1) ?_
   | refine vp F (c2 (by omega) (by omega)) ?_)
  all_goals first | (first | (rw[e0]; simp(disch:=first | assumption | omega | exact rfl | exact nf (by assumption) | exact nt (by assumption) | decide | fail) only[if_pos,if_neg]; first | done | rfl) | (rw[e0]; simp(disch:=first | assumption | omega | exact rfl | exact nf (by assumption) | exact nt (by assumption) | decide | (simp_all; done) | fail) only[if_pos,if_neg]; first | done | rfl)) | skip
def QbA(x:Lg)(n:Int):E×Int:=if lgB x=false then (E0,26) else if n<x.f\/x.end_<n then (E0,14) else (x.es.getD (n-x.f).toNat E0,0)
def QiL(x:Lg)(hx:x.es.length<=9223372036854775807)(n:Int):VCalls prog 141 [.agg x.c,.int .i64 n] [] (Ret (.tup [.agg (QbA x n).1.d,.int .i64 (QbA x n).2])):=by
 refine dk Tryz.func141 ?_
 have c1:=Qax x hx
 have c2:=Qhb x
 have hh:=@QaG x
 simp only[Lg.hd] at hh
 have e0:QbA x n=if lgB x=false then (E0,26) else if n<x.f\/x.end_<n then (E0,14) else (x.es.getD (n-x.f).toNat E0,0):=rfl
 generalize QbA x n=r at *
 generalize lgB x=b at *
 cases b
 ·(unfold Tryz.f141; refine rn trivial ?_; try with_reducible exact ⟨⟩)
  refine rn F ?_
  repeat' (first
   | with_reducible exact⟨⟩
   | refine vp F (c1) ?_)
  all_goals (first | (rw[e0]; simp(disch:=first | assumption | omega | exact rfl | exact nf (by assumption) | exact nt (by assumption) | decide | fail) only[if_pos,if_neg]; first | done | rfl) | (rw[e0]; simp(disch:=first | assumption | omega | exact rfl | exact nf (by assumption) | exact nt (by assumption) | decide | (simp_all; done) | fail) only[if_pos,if_neg]; first | done | rfl))
 ·replace hh:=hh rfl
  have hdef:x.end_=x.f+x.es.length-1:=rfl
  generalize x.end_=en at *
  have hg:=fun h:(n-x.f).toNat<x.es.length=>Qmm x.es (n-x.f).toNat h
  (unfold Tryz.f141; refine rn trivial ?_)
  have F:=@hg
  refine rn F ?_
  repeat' (first
   | with_reducible exact⟨⟩
   | (refine sG F ?_ ?_<;>intro hZ)
   | (refine sB F ?_ ?_<;>intro hZ)
   | refine vp F (c1) ?_
   | refine vp F (c2 (by omega) (by omega)) ?_)
  all_goals first | (first | (rw[e0]; simp(disch:=first | assumption | omega | exact rfl | exact nf (by assumption) | exact nt (by assumption) | decide | fail) only[if_pos,if_neg]; first | done | rfl) | (rw[e0]; simp(disch:=first | assumption | omega | exact rfl | exact nf (by assumption) | exact nt (by assumption) | decide | (simp_all; done) | fail) only[if_pos,if_neg]; first | done | rfl)) | skip
def QrN(n:Int):Bool:=decide (0<=n)&&decide (n<=1099511627776)
def QtE(n:Int):VCalls prog 201 [.int .i64 n] [] (Ret (.bool (QrN n))):=by
 refine dd Tryz.func201 ?_
 (unfold Tryz.f201; refine rn trivial ?_)
 refine rn F ?_
 repeat' (first
  | with_reducible exact⟨⟩
  | (refine sG F ?_ ?_<;>intro hZ))
 all_goals (first | rfl | (congr 3; rw[Kb]; (try simp only[QrN,decide_eq_true_eq,Jj,JP,J3,JX,decide_eq_false_iff_not,beq_iff_eq,bne_iff_ne,ne_eq,JY,JZ,iff_true,true_iff,iff_false,false_iff]); first | done | omega | grind))
def QD2(l:List Rw)(i:Nat):Bool:=QrN (l.getD i Rw0).lsn&&QrN (l.getD i Rw0).im&&QrN (l.getD i Rw0).at_&&!(decide ((l.getD i Rw0).im=0)&&!decide ((l.getD i Rw0).at_=0))
def ixB(l:List Rw):Bool:=decide (1<=l.length)&&decide (l.length<=64)&&(Jm l.length).all (QD2 l)
def QuY(h:ixB l=true):1<=l.length/\l.length<=64:=by
 unfold ixB at h; simp only[Jj,decide_eq_true_eq] at h; exact h.1
def QbM(l:List Rw)(hl:l.length<=1000000):VCalls prog 152 [.agg [.pv (.sl (fz Qcr l))]] [] (Ret (.bool (ixB l))):=by
 refine dd Tryz.func152 ?_
 have hB:ixB l=(decide (1<=l.length)&&decide (l.length<=64)&&(Jm l.length).all (QD2 l)):=rfl
 have hB':1<=l.length->l.length<=64->ixB l=(Jm l.length).all (QD2 l):=fun h h2=>by rw[hB,decide_eq_true h,decide_eq_true h2,Kf,Kf]
 have no:¬ (1<=l.length/\l.length<=64)->ixB l=false:=fun h=>by
  rw[hB]
  by_cases h1:1<=l.length
  ·rw[decide_eq_false (show ¬ l.length<=64 from fun h2=>h ⟨h1,h2⟩)]; simp
  ·rw[decide_eq_false h1]; rfl
 generalize ixB l=b at *
 (unfold Tryz.f152; refine rn trivial ?_)
 refine rn F ?_
 repeat' (first
  | with_reducible exact⟨⟩
  | (refine sG F ?_ ?_<;>intro hZ)
  | (refine sB F ?_ ?_<;>intro hZ))
 all_goals first | (rw[no (by omega)]) | skip
 refine Qj (fun s:Okay l.length (QD2 l)=>⟨53,0,[(3,.int .i64 s.i),(1,.ptr 0 0)],[⟨36,true,[.pv (.sl (fz Qcr l))]⟩]⟩) (fun s=>l.length-s.i) (Okay.start _ _) (gc [0]) ?_
 intro s
 have hsi:=s.hi
 have hg:=fun h:s.i<l.length=>Qml l s.i h
 have e:QD2 l s.i=(QrN (l.getD s.i Rw0).lsn&&QrN (l.getD s.i Rw0).im&&QrN (l.getD s.i Rw0).at_&&!(decide ((l.getD s.i Rw0).im=0)&&!decide ((l.getD s.i Rw0).at_=0))):=rfl
 have c1:=QtE (l.getD s.i Rw0).lsn
 have c2:=QtE (l.getD s.i Rw0).im
 have c3:=QtE (l.getD s.i Rw0).at_
 generalize QrN (l.getD s.i Rw0).lsn=b1 at *
 generalize QrN (l.getD s.i Rw0).im=b2 at *
 generalize QrN (l.getD s.i Rw0).at_=b3 at *
 have F:=@hg
 refine rn F ?_
 repeat' (first
  | with_reducible exact⟨⟩
  | (refine sG F ?_ ?_<;>intro hZ)
  | (refine sB F ?_ ?_<;>intro hZ)
  | refine vp F (c1) ?_
  | refine vp F (c2) ?_
  | refine vp F (c3) ?_)
 all_goals first
  | (exact congrArg DV.bool (s.no (by omega) (hB' (by omega) (by omega)) (by rw[e]; simp_all)).symm)
  | (exact congrArg DV.bool (s.yes (by omega) (hB' (by omega) (by omega))).symm)
  | (exact⟨s.next (by omega) (by rw[e]; simp_all),s.dec (by omega),(gc [0])⟩)
  | skip
def QBz(l:List Rw)(i:Nat)(r:Rw)(hi:i<l.length):(cells Qcr l).take (i*3)++[.pv (.lit (.int .i64 r.lsn)),.pv (.lit (.int .i64 r.im)),.pv (.lit (.int .i64 r.at_))]++(cells Qcr l).drop (i*3+3)=cells Qcr (l.set i r):=Qtc Qcr l i r hi
def Qx0(l:List Rw)(hl:l.length<=1000000)(i:Nat)(hi:i<l.length)(r:Rw):VCalls prog 188 [.agg [.pv (.sl (fz Qcr l))],.int .i64 i,.agg r.d] [] (Ret (.agg [.pv (.sl (fz Qcr (l.set i r)))])):=by
 refine dd Tryz.func188 ?_
 have hb:i*3+3<=l.length*3:=by omega
 have hse:=QBz l i r hi
 have hle:(l.set i r).length=l.length:=JQ
 (unfold Tryz.f188; refine rn trivial ?_)
 have F:=(Ja @hb (Ja @hse @hle))
 (refine rn F ?_; try with_reducible exact⟨⟩)
def Qo3{e:E}(h:e.okB=true)(hk:e.kind=1\/e.kind=2\/e.kind=7):0<=e.c.pg/\e.c.pg<64:=by
 unfold E.okB at h
 simp only[Jj] at h
 have h2:=h.2
 unfold E.kindB Ch.okB Ch.ix at h2
 rcases hk with hk | hk | hk<;>rw[hk] at h2<;>simp at h2<;>omega
def Qb2(l:List Rw)(e:E):List Rw×Int:=
 if ixB l=false then ([],28) else if e.okB=false then ([],12) else if e.kind≠7 then (l,0) else if (l.length:Int)<=e.c.pg then ([],1)
 else (l.set e.c.pg.toNat ⟨if e.ref > (l.getD e.c.pg.toNat Rw0).lsn then e.ref else (l.getD e.c.pg.toNat Rw0).lsn,(l.getD e.c.pg.toNat Rw0).im,(l.getD e.c.pg.toNat Rw0).at_⟩,0)
def Qls(l:List Rw)(hl:l.length<=1000000)(e:E):VCalls prog 143 [.agg [.pv (.sl (fz Qcr l))],.agg e.d] [] (Ret (.tup [.agg [.pv (.sl (fz Qcr (Qb2 l e).1))],.int .i64 (Qb2 l e).2])):=by
 refine dk Tryz.func143 ?_
 have c1:=QbM l hl
 have c2:=QcQ e
 have c3:=fun i hi=>Qx0 l hl i hi
 have hp:=@Qo3 e
 have hp1:=hp
 have e0:Qb2 l e=if ixB l=false then ([],28) else if e.okB=false then ([],12) else if e.kind≠7 then (l,0) else if (l.length:Int)<=e.c.pg then ([],1)
  else (l.set e.c.pg.toNat ⟨if e.ref > (l.getD e.c.pg.toNat Rw0).lsn then e.ref else (l.getD e.c.pg.toNat Rw0).lsn,(l.getD e.c.pg.toNat Rw0).im,(l.getD e.c.pg.toNat Rw0).at_⟩,0):=rfl
 generalize Qb2 l e=r at *
 generalize ixB l=b at *
 cases hok:e.okB
 ·rw [hok] at c2 e0
  (unfold Tryz.f143; refine rn trivial ?_)
  refine rn F ?_
  repeat' (first
   | with_reducible exact⟨⟩
   | (refine sB F ?_ ?_<;>intro hZ)
   | refine vp F (c1) ?_
   | refine vp F (c2) ?_)
  all_goals first | (first | (rw[e0]; simp(disch:=first | assumption | omega | exact rfl | exact nf (by assumption) | exact nt (by assumption) | decide | fail) only[if_pos,if_neg]; first | done | rfl) | (rw[e0]; simp(disch:=first | assumption | omega | exact rfl | exact nf (by assumption) | exact nt (by assumption) | decide | (simp_all; done) | fail) only[if_pos,if_neg]; first | done | rfl)) | skip
 rw[hok] at c2 e0
 by_cases hk:e.kind=7
 ·obtain ⟨i,hi⟩:∃ i:Nat,e.c.pg = i:=⟨e.c.pg.toNat,by have:=hp hok (.inr (.inr hk)); omega⟩
  rw[hi,Jr] at e0
  have hg:=fun h:i<l.length=>Qml l i h
  generalize l.getD i Rw0=w at *
  (unfold Tryz.f143; refine rn trivial ?_)
  have F:=(Ja @hi (Ja @hg @hk))
  refine rn F ?_
  repeat' (first
   | with_reducible exact⟨⟩
   | (refine sB F ?_ ?_<;>intro hZ)
   | refine vp F (c1) ?_
   | refine vl F (c2) ?_
   | refine vp F (c3 i (by omega) ⟨_,_,_⟩) ?_)
  all_goals first | (first | (rw[e0]; simp(disch:=first | assumption | omega | exact rfl | exact nf (by assumption) | exact nt (by assumption) | decide | fail) only[if_pos,if_neg]; first | done | rfl) | (rw[e0]; simp(disch:=first | assumption | omega | exact rfl | exact nf (by assumption) | exact nt (by assumption) | decide | (simp_all; done) | fail) only[if_pos,if_neg]; first | done | rfl)) | skip
 ·(unfold Tryz.f143; refine rn trivial ?_; try with_reducible exact ⟨⟩)
  have F:=@hk
  refine rn F ?_
  repeat' (first
   | with_reducible exact⟨⟩
   | (refine sB F ?_ ?_<;>intro hZ)
   | refine vp F (c1) ?_
   | refine vp F (c2) ?_)
  all_goals first | (first | (rw[e0]; simp(disch:=first | assumption | omega | exact rfl | exact nf (by assumption) | exact nt (by assumption) | decide | fail) only[if_pos,if_neg]; first | done | rfl) | (rw[e0]; simp(disch:=first | assumption | omega | exact rfl | exact nf (by assumption) | exact nt (by assumption) | decide | (simp_all; done) | fail) only[if_pos,if_neg]; first | done | rfl)) | skip
def Tx.ss(t:Tx):Prop:=t.l.length<=100000/\t.s.length<=100000
def Tx.ss.sm{t:Tx}(h:t.ss):t.sm:=⟨Jf h.1 (by decide),Jf h.2 (by decide)⟩
def smN(n:Nat)(l:List Tx):Prop:=l.length<=n/\∀ t∈l,t.ss
def smN.smL(h:smN n l)(hn:n<=1000000):smL l:=⟨Jf h.1 hn,fun t ht=>(h.2 t ht).sm⟩
def smN.mono(h:smN n l)(hn:n<=m):smN m l:=⟨Jf h.1 hn,h.2⟩
def Q3(n:Nat):smN n []:=⟨Jl _,fun t h=>by simp at h⟩
def Qgo(h:QbD l=true):smN 64 l:=⟨QeF h,fun t ht=>by
 obtain⟨i,hi,rfl⟩:=List.getElem_of_mem ht
 have:=Qep (Qbz h hi)
 exact⟨by omega,by omega⟩⟩
def smN.set(h:smN n l)(i:Nat)(ht:t.ss):smN n (l.set i t):=
 ⟨by rw [JQ]; exact h.1,fun x hx=>by
  rcases List.mem_or_eq_of_mem_set hx with hx | rfl
  ·exact h.2 x hx
  ·exact ht⟩
def smN.rem(h:smN n l)(a:Int):smN n (Qkw l a):=
 ⟨Jf (QtT l a) h.1,fun x hx=>h.2 x ((List.mem_filter.1 hx).1)⟩
def QmI(a:Int):smN 65 (Qaj l a).1:=by
 unfold Qaj
 split
 ·exact Q3 _
 ·rename_i h1
  have hv:QbD l=true:=by simpa using h1
  have hs:=Qgo hv
  split
  ·exact Q3 _
  split
  ·exact Q3 _
  split
  ·exact Q3 _
  refine⟨?_,fun x hx=>?_⟩
  ·have:=hs.1; unfold QD5; simp only[Jb,Jn,Jd,Jx]; omega
  ·unfold QD5 at hx
   rcases Jp.1 hx with h | h
   ·exact hs.2 x (List.mem_of_mem_take h)
   rcases Jh.1 h with rfl | h
   ·exact⟨Jl _,Jl _⟩
   ·exact hs.2 x (List.mem_of_mem_drop h)
def Qwy(h:(Qu l a).2=0):smN 64 l/\(Qu l a).1.l.length<=4096/\(Qu l a).1.s.length<=8:=by
 obtain⟨hv,i,hi,_,_,h3⟩:=QbR h
 rw[h3]
 exact⟨Qgo hv,Qep (Qbz hv hi)⟩
def QxA(a:Int):smN 65 (Qib l a).1:=by
 unfold Qib
 split
 ·exact Q3 _
 rename_i h
 obtain⟨h1,h2,h3⟩:=Qwy (l:=l) (a:=a) (by simpa using h)
 split
 ·exact Q3 _
 ·exact(h1.set _ ⟨by dsimp only; omega,by dsimp only; simp; omega⟩).mono (by omega)
def QzS(a sv:Int):smN 65 (Qir l a sv).1:=by
 unfold Qir
 split
 ·exact Q3 _
 rename_i h
 obtain⟨h1,h2,h3⟩:=Qwy (l:=l) (a:=a) (by simpa using h)
 have h4:∀ k,((Qu l a).1.s.take k).length<=100000:=fun k=>by rw[Jn]; omega
 split
 ·exact Q3 _
 split
 ·exact(h1.set _ ⟨by dsimp only; omega,h4 _⟩).mono (by omega)
 ·exact(h1.set _ ⟨by dsimp only; omega,h4 _⟩).mono (by omega)
def Qqi(h:t.ss):(QK t).ss:=by unfold QK; split<;>exact h
def QjY(e:E):smN 65 (QZ l e).1:=by
 unfold QZ
 split
 ·exact Q3 _
 rename_i h1
 have hv:QbD l=true:=by simpa using h1
 have hs:=Qgo hv
 split
 ·exact Q3 _
 split
 ·exact hs.mono (by omega)
 split
 ·exact Q3 _
 rename_i h4
 rcases QI l e.tx with h | ⟨i,hi,h,hid⟩
 ·omega
 rw[h,Jr,Qf l i hi]
 have hlen:=Qep (Qbz hv hi)
 unfold QlW
 split
 ·exact Q3 _
 split
 ·exact(hs.rem _).mono (by omega)
 ·refine (hs.set _ (Qqi ?_)).mono (by omega)
  unfold Qcz
  have hfl:(l[i].l.filter fun x=>decide (x≠e.ref)).length<=l[i].l.length:=JR _ _
  split
  ·exact⟨by dsimp only; simp; omega,by dsimp only; omega⟩
  split
  ·exact⟨by dsimp only; omega,by dsimp only; omega⟩
  ·exact⟨by dsimp only; omega,by simp⟩
attribute [go_sem] Tx.d
structure Kn where
 pg:Int
 nx:Int
 lg:Lg
 pl:Pl
 lk:Lk
 tx:List Tx
 ix:List Rw
 la:List Dt
@[go_sem] def Kn.d(k:Kn):List DV:=[.int .i64 k.pg,.int .i64 k.nx,.int .i64 k.lg.f,.pv (.sl (fz encE k.lg.es)),.int .i64 k.lg.d,.int .i64 k.pl.size,.pv (.sl (fz QcM k.pl.fs)),.int .i64 k.pl.hand,.pv (.sl (fz Qau k.lk.held)),.pv (.sl (fz Qau k.lk.wait)),.pv (.sl (fz Qap k.tx)),.pv (.sl (fz Qcr k.ix)),.pv (.sl (fz Qc6 k.la))]
def Kn0:Kn:=⟨0,0,Lg0,Pl0,Lk0,[],[],[]⟩
def Kn.sm(k:Kn):Prop:=k.lg.es.length<=4096/\k.pl.fs.length<=64/\k.lk.sum<=1024/\smN 65 k.tx/\k.ix.length<=64/\k.la.length<=10000
def Qcb:Kn0.sm:=⟨by decide,by decide,by decide,Q3 _,by decide,by decide⟩
def VK(k:Kn):Prop:=(1<=k.pg/\k.pg<=64)/\(1<=k.nx/\k.nx<=1073741825)/\lgB k.lg=true/\plB k.pl=true/\QbD k.tx=true/\ixB k.ix=true/\k.ix.length=k.pg
def boD(b:Bool):DV:=.bool b
attribute [go_sem] boD QHw lgD QD1 QHF QHJ
def laC(l:List Dt)(n:Int)(i:Nat):Bool:=decide (0<=(l.getD i Dt0).pg)&&(decide ((l.getD i Dt0).pg<n)&&(decide (1<=(l.getD i Dt0).rc)&&(decide ((l.getD i Dt0).rc<=(l.getD i Dt0).last)&&(decide ((l.getD i Dt0).last<=1099511627776)&&(decide (i=0)||decide ((l.getD (i-1) Dt0).pg<(l.getD i Dt0).pg))))))
def QnW(l:List Dt)(n:Int)(i:Nat):laC l n i=true ↔ 0<=(l.getD i Dt0).pg/\(l.getD i Dt0).pg<n/\1<=(l.getD i Dt0).rc/\(l.getD i Dt0).rc<=(l.getD i Dt0).last/\(l.getD i Dt0).last<=1099511627776/\(i=0\/(l.getD (i-1) Dt0).pg<(l.getD i Dt0).pg):=by
 unfold laC; simp
def laB(l:List Dt)(n:Int):Bool:=(Jm l.length).all (laC l n)
def Qlo(l:List Dt)(hl:l.length<=1000000)(n:Int):VCalls prog 153 [.pv (.sl (fz Qc6 l)),.int .i64 n] [] (QL boD fun b=>b=laB l n):=by
 refine dd Tryz.func153 ?_
 have kn:∀ i,i<l.length->laC l n i=false->laB l n=false:=fun i hi h=>QaK hi h
 (unfold Tryz.f153; refine rn trivial ?_)
 refine Qj (fun s:Okay l.length (laC l n)=>⟨58,0,[(5,.int .i64 s.i),(1,.int .i64 n),(0,.pv (.sl (fz Qc6 l)))],[]⟩) (fun s=>l.length-s.i) (Okay.start _ _) (gc []) ?_
 intro s
 have hi:=s.hi
 have hx:=QnW l n s.i
 by_cases hc:s.i<l.length
 ·have hc':((s.i:Nat):Int) < l.length:=by omega
  have hg:=Qe5 l s.i hc
  have hgp:=fun h:s.i-1<l.length=>Qe5 l (s.i-1) h
  have kf:=kn s.i hc
  have nx:=fun h:laC l n s.i=true=>(⟨s.next hc h,s.dec hc⟩:∃ t:Okay l.length (laC l n),l.length-t.i<l.length-s.i)
  have F:=(Ja @hc' (Ja @hg @hgp))
  refine rn F ?_
  repeat' (first
   | with_reducible exact⟨⟩
   | (refine sG F ?_ ?_<;>intro hZ)
   | (refine sB F ?_ ?_<;>intro hZ)
   | (refine Qd (id:=5) [0,1,2,3,4,5,6,7,8,9,10,11,12,13,14,15,16,17,18,19,20,21,22,23,24,25,26,27,28,29,30,31,32,33,34,35,36,37,38,39,40] [] (by kernel_rfl) (by kernel_rfl) ?_; refine rn F ?_))
  all_goals first
   | exact⟨rfl,rfl,false,rfl,(kf (by rw[<- Bool.not_eq_true,hx]; omega)).symm⟩
   | exact⟨s.next hc (hx.2 (by omega)),s.dec hc,(gc [])⟩
   | skip
 ·have hc':¬ ((s.i:Nat):Int) < l.length:=by omega
  have F:=@hc'
  refine rn F ?_
  exact⟨rfl,rfl,true,rfl,(s.all hc).symm⟩
@[go_sem] def laD(a:Dt×Bool):DV:=.tup [.agg a.1.d,.bool a.2]
def Qzk{α:Type}(l:List α)(p:α->Bool)(d:α)(i:Nat)(h:i<l.length)(hp:p (l.getD i d)=true)(hn:∀ j,j<i->p (l.getD j d)=false):l.find? p=some (l.getD i d):=by
 rw[JE]
 refine⟨hp,i,h,(Qf l i h d).symm,fun j hj=>?_⟩
 have:=hn j hj
 rw[Qf l j (by omega) d] at this
 simp[this]
def QDc{α:Type}(l:List α)(p:α->Bool)(d:α)(hn:∀ j,j<l.length->p (l.getD j d)=false):l.find? p=none:=by
 rw[JI]
 intro x hx
 obtain⟨j,hj,rfl⟩:=List.mem_iff_getElem.1 hx
 have:=hn j hj
 rw[Qf l j hj d] at this
 simp[this]
def Qbl(l:List Dt)(n:Int):Dt×Bool:=match l.find? fun d=>decide (d.pg=n) with
 | some d=>(d,true)
 | none=>(Dt0,false)
def Qgp(k:Kn)(hl:k.la.length<=1000000)(n:Int):VCalls prog 102 [.agg k.d,.int .i64 n] [] (QL laD fun a=>a=Qbl k.la n):=by
 refine dd Tryz.func102 ?_
 (unfold Tryz.f102; refine rn trivial ?_)
 refine Qj (fun s:Okay k.la.length (fun j=>!decide ((k.la.getD j Dt0).pg=n))=>⟨28,0,[(6,.int .i64 s.i),(4,.ptr 1 0),(2,.ptr 0 0),(1,.int .i64 n)],[⟨39,true,k.d⟩,⟨167,true,[.int .i64 0,.int .i64 0,.int .i64 0]⟩]⟩) (fun s=>k.la.length-s.i) (Okay.start _ _) (gc [0,1]) ?_
 intro s
 have hi:=s.hi
 have hno:∀ j,j<s.i->decide ((k.la.getD j Dt0).pg=n)=false:=fun j hj=>by have:=s.ok j hj; simpa using this
 by_cases hc:s.i<k.la.length
 ·have hc':((s.i:Nat):Int) < k.la.length:=by omega
  have hg:=Qe5 k.la s.i hc
  by_cases hp:(k.la.getD s.i Dt0).pg=n
  ·have hf:Qbl k.la n = (k.la.getD s.i Dt0,true):=by unfold Qbl; rw [Qzk k.la _ Dt0 s.i hc (decide_eq_true hp) hno]
   have hnx:=s.next hc
   generalize k.la.getD s.i Dt0=d at *
   have F:=(Ja @hc' (Ja @hg @hp))
   (refine rn F ?_; try with_reducible exact⟨⟩)
   all_goals exact⟨rfl,rfl,(d,true),by simp[laD,Dt.d,hp],hf.symm⟩
  ·have hnx:=s.next hc (by rw [decide_eq_false hp]; rfl)
   have hs2:(s.next hc (by rw[decide_eq_false hp]; rfl)).i=s.i+1:=rfl
   have hd:=s.dec hc
   have F:=(Ja @hc' (Ja @hg @hp))
   (refine rn F ?_; try with_reducible exact⟨⟩)
   all_goals exact⟨s.next hc (by rw[decide_eq_false hp]; rfl),by first | exact s.dec hc | (rw[hs2]; omega),(gc [0,1])⟩
 ·have hc':¬ ((s.i:Nat):Int) < k.la.length:=by omega
  have hf:Qbl k.la n=(Dt0,false):=by unfold Qbl; rw[QDc k.la _ Dt0 fun j hj=>hno j (by omega)]
  have F:=@hc'
  (refine rn F ?_; try with_reducible exact⟨⟩)
  all_goals exact⟨rfl,rfl,(Dt0,false),rfl,hf.symm⟩
def VP(k:Kn):Prop:=VK k/\lkB k.lk=true/\laB k.la k.pg=true
def QlF(k:Kn):Bool:=decide (1<=k.pg)&&(decide (k.pg<=64)&&(decide (1<=k.nx)&&(decide (k.nx<=1073741825)&&(lgB k.lg&&(plB k.pl&&(lkB k.lk&&(QbD k.tx&&(ixB k.ix&&(decide ((k.ix.length:Int)=k.pg)&&laB k.la k.pg)))))))))
def Quu(k:Kn):QlF k=true ↔ VP k:=by
 unfold QlF VP VK
 simp only[Jj,decide_eq_true_eq]
 constructor
 ·rintro⟨a,b,c,d,e,f,g,h,i,j,l⟩; exact⟨⟨⟨a,b⟩,⟨c,d⟩,e,f,h,i,j⟩,g,l⟩
 ·rintro⟨⟨⟨a,b⟩,⟨c,d⟩,e,f,h,i,j⟩,g,l⟩; exact⟨a,b,c,d,e,f,g,h,i,j,l⟩
def QxT(k:Kn)(h:k.sm):VCalls prog 101 [.agg k.d] [] (QL boD fun b=>b=QlF k):=by
 refine dd Tryz.func101 ?_
 obtain⟨h1,h2,h3,h4,h5,h6⟩:=h
 have c1:=Qax k.lg (by omega)
 have c2:=Qas k.pl (by omega)
 have c3:=QiJ k.lk (by omega)
 have c4:=QbW k.tx (h4.smL (by omega))
 have c5:=QbM k.ix (by omega)
 have c6:=fun n=>Qlo k.la (by omega) n
 have e:QlF k=(decide (1<=k.pg)&&(decide (k.pg<=64)&&(decide (1<=k.nx)&&(decide (k.nx<=1073741825)&&(lgB k.lg&&(plB k.pl&&(lkB k.lk&&(QbD k.tx&&(ixB k.ix&&(decide ((k.ix.length:Int)=k.pg)&&laB k.la k.pg)))))))))):=rfl
 generalize QlF k=R at *
 generalize lgB k.lg=b1 at *
 generalize plB k.pl=b2 at *
 generalize lkB k.lk=b3 at *
 generalize QbD k.tx=b4 at *
 generalize ixB k.ix=b5 at *
 (unfold Tryz.f101; refine rn trivial ?_)
 refine rn F ?_
 repeat' (first
  | with_reducible exact⟨⟩
  | (refine sG F ?_ ?_<;>intro hZ)
  | refine vp F (c1) ?_
  | refine vp F (c2) ?_
  | refine vp F (c3) ?_
  | refine vp F (c4) ?_
  | refine vp F (c5) ?_
  | (refine Qp (c6 _) rfl ?_; rintro b6 hb6; refine rn F ?_))
 all_goals first
  | (refine⟨rfl,rfl,false,rfl,?_⟩; rw[e]; simp_all; done)
  | (refine⟨rfl,rfl,false,rfl,?_⟩; rw[e]; simp_all; omega)
  | (refine⟨rfl,rfl,_,rfl,?_⟩; rw[e]; simp_all; done)
  | (refine⟨rfl,rfl,_,rfl,?_⟩; rw[e]; simp_all; omega)
  | skip
def Qpd(h:lgB ⟨f,es,d⟩=true)(hl:es.length<4096)(he:e.lsn=f+es.length)(ho:e.okB=true):lgB ⟨f,es++[e],d⟩=true:=by
 have hd:=QaG h
 simp only[Lg.hd] at hd
 unfold lgB at h |-
 simp only[Jj,decide_eq_true_eq,JG,JD] at h |-
 refine⟨by simp only[Lg.hd,Jb,Jd,Jc]; omega,fun i hi=>?_⟩
 simp only[Jb,Jd,Jc] at hi
 rcases Kg i es.length with hlt | hge
 ·have:=h.2 i hlt
  unfold lgC at this |-
  dsimp only at this |-
  rw[Ji,Je hlt,<- Ji]
  exact this
 ·obtain rfl:i = es.length:=by omega
  unfold lgC
  dsimp only
  rw[Ji,Jz (Jt _),J4]
  simp[he,ho]
def Qok(h:(QfR x e).2.2=0):lgB x=true/\x.es.length<4096/\({ e with lsn:=x.end_+1 }:E).okB=true/\QfR x e=(⟨x.f,x.es++[{ e with lsn:=x.end_+1 }],x.d⟩,x.end_+1,0):=by
 unfold QfR at h |-
 split at h
 ·simp at h
 rename_i h1
 have hv:lgB x=true:=by simpa using h1
 split at h
 ·simp at h
 rename_i h2
 split at h
 ·simp at h
 rename_i h3
 have hd:=QaG hv
 simp only[Lg.hd] at hd
 exact⟨hv,by omega,by simpa using h3,by rw[if_neg h1,if_neg h2,if_neg h3]⟩
def Qkr(h:(QfR x e).2.2=0):lgB (QfR x e).1=true:=by
 obtain⟨h1,h2,h3,h4⟩:=Qok h
 rw[h4]
 exact Qpd (f:=x.f) (d:=x.d) h1 h2 (by dsimp only; unfold Lg.end_; omega) h3
def QpN(x:Lg)(e:E):(QfR x e).1.es.length<=4096:=by
 by_cases h:(QfR x e).2.2=0
 ·exact(QaG (Qkr h)).2.2.1
 ·unfold QfR at h |-
  split
  ·decide
  split
  ·decide
  split
  ·decide
  ·simp_all
def QzT(h:(QfR x e).2.2=0):QbA (QfR x e).1 (QfR x e).2.1=({ e with lsn:=x.end_+1 },0):=by
 have hl:=Qkr h
 obtain⟨h1,h2,h3,h4⟩:=Qok h
 rw[h4] at hl |-
 unfold QbA
 dsimp only at hl |-
 have hd:=QaG h1
 simp only[Lg.hd] at hd
 rw[if_neg (by rw[hl]; decide),if_neg (by unfold Lg.end_; simp only[Jb,Jd,Jc]; omega)]
 have:(x.end_+1-x.f).toNat=x.es.length:=by unfold Lg.end_; omega
 rw[this,Ji,Jz (Jt _),J4]; rfl
def QlU(l:List Rw)(e:E)(h:l.length<=64):(Qb2 l e).1.length<=64:=by
 unfold Qb2
 split
 ·decide
 split
 ·decide
 split
 ·exact h
 split
 ·decide
 ·simpa using h
def QuF(l:List Tx)(e:E):smN 65 (QZ l e).1:=QjY e
def kT(k:Kn)(i:Nat):Bool:=decide ((k.tx.getD i Tx0).id<k.nx)
def kF(k:Kn)(i:Nat):Bool:=decide ((k.pl.fs.getD i Fm0).pg.id<k.pg)&&!(Qbl k.la (k.pl.fs.getD i Fm0).pg.id).2
def kG(l:List Gr)(n:Int)(i:Nat):Bool:=decide ((l.getD i Gr0).pg<n)
def kB(k:Kn):Bool:=QlF k&&((Jm k.tx.length).all (kT k)&&((Jm k.pl.fs.length).all (kF k)&&((Jm k.lk.held.length).all (kG k.lk.held k.pg)&&(Jm k.lk.wait.length).all (kG k.lk.wait k.pg))))
structure V2(k:Kn):Prop where
 ids:∀ i,i<k.tx.length->(k.tx.getD i Tx0).id<k.nx
 frs:∀ i,i<k.pl.fs.length->(k.pl.fs.getD i Fm0).pg.id<k.pg/\(Qbl k.la (k.pl.fs.getD i Fm0).pg.id).2=false
def QFo(h:kB k=true):VP k:=by
 unfold kB at h; rw[Jj] at h; exact(Quu k).1 h.1
def Qmb{k:Kn}(h:kB k=true):VK k:=(QFo h).1
def QyZ(h:kB k=true):V2 k:=by
 unfold kB at h
 simp only[Jj,JG,JD] at h
 obtain⟨_,h1,h2,_⟩:=h
 refine⟨fun i hi=>by simpa [kT] using h1 i hi,fun i hi=>by simpa [kF] using h2 i hi⟩
def QbX(k:Kn)(h:k.sm):VCalls prog 71 [.agg k.d] [] (Ret (.bool (kB k))):=by
 refine dd Tryz.func71 ?_
 have c1:=QxT k h
 obtain⟨h1,h2,h3,h4,h5,h6⟩:=h
 have c2:=Qgp k (by omega)
 unfold Lk.sum at h3
 have h40:=h4.1
 have k0:QlF k=false->kB k=false:=fun h=>by unfold kB; rw[h]; rfl
 have k1:∀ i,i<k.tx.length->kT k i=false->kB k=false:=fun i hi h=>by unfold kB; rw[QaK hi h]; simp
 have k2:∀ i,i<k.pl.fs.length->kF k i=false->kB k=false:=fun i hi h=>by unfold kB; rw[QaK hi h]; simp
 have k3:∀ i,i<k.lk.held.length->kG k.lk.held k.pg i=false->kB k=false:=fun i hi h=>by unfold kB; rw[QaK hi h]; simp
 have k4:∀ i,i<k.lk.wait.length->kG k.lk.wait k.pg i=false->kB k=false:=fun i hi h=>by unfold kB; rw[QaK hi h]; simp
 have k5:QlF k=true->(Jm k.tx.length).all (kT k)=true->(Jm k.pl.fs.length).all (kF k)=true->(Jm k.lk.held.length).all (kG k.lk.held k.pg)=true->(Jm k.lk.wait.length).all (kG k.lk.wait k.pg)=true->kB k=true:=fun a b c d e=>by unfold kB; rw[a,b,c,d,e]; rfl
 generalize kB k=R at *
 (unfold Tryz.f71; refine rn trivial ?_)
 refine Qp c1 rfl ?_
 rintro b hb
 cases b
 ·skip
  refine rn F ?_
  rw[k0 hb.symm]
 refine rn F ?_
 refine Qj (fun s:Okay k.tx.length (kT k)=>⟨94,0,[(3,.int .i64 s.i),(1,.ptr 0 0)],[⟨39,true,k.d⟩]⟩) (fun s=>k.tx.length-s.i) (Okay.start _ _) (gc [0]) ?_
 intro s
 have hi:=s.hi
 by_cases hc:s.i<k.tx.length
 ·have hc':((s.i:Nat):Int) < k.tx.length:=by omega
  have hg:=Qeq k.tx s.i hc
  have kn:=k1 s.i hc
  have F:=(Ja @hc' @hg)
  refine rn F ?_
  repeat' (first
   | with_reducible exact⟨⟩
   | (refine sB F ?_ ?_<;>intro hZ)
   | (refine Qd (id:=6) [0,1,2,3,4,5,6,7,8] [] (by kernel_rfl) (by kernel_rfl) ?_; refine rn F ?_))
  all_goals first
   | (rw[kn (by unfold kT; exact decide_eq_false (by omega))])
   | exact⟨s.next hc (decide_eq_true (by omega)),s.dec hc,(gc [0])⟩
 have hc':¬ ((s.i:Nat):Int)<k.tx.length:=by omega
 have k6:=k5 hb.symm (s.all hc)
 have F:=@hc'
 refine rn F ?_
 refine Qj (fun s:Okay k.pl.fs.length (kF k)=>⟨94,0,[(4,.int .i64 s.i),(1,.ptr 0 0)],[⟨39,true,k.d⟩]⟩) (fun s=>k.pl.fs.length-s.i) (Okay.start _ _) (gc [0]) ?_
 intro r
 have hr:=r.hi
 by_cases hcr:r.i<k.pl.fs.length
 ·have hcr':((r.i:Nat):Int) < k.pl.fs.length:=by omega
  have hf:=Qcg k.pl.fs r.i hcr
  have kn:=k2 r.i hcr
  have ef:kF k r.i=(decide ((k.pl.fs.getD r.i Fm0).pg.id<k.pg)&&!(Qbl k.la (k.pl.fs.getD r.i Fm0).pg.id).2):=rfl
  have F:=(Ja @hcr' @hf)
  refine rn F ?_
  repeat' (first
   | with_reducible exact⟨⟩
   | (refine sB F ?_ ?_<;>intro hZ))
  all_goals first
   | (rw[kn (by rw[ef,decide_eq_false (by omega)]; rfl)])
   | skip
  refine Qp (c2 _) rfl ?_
  rintro⟨a,b2⟩ hb2
  have hl2:(Qbl k.la (k.pl.fs.getD r.i Fm0).pg.id).2=b2:=by rw[<- hb2]
  cases b2
  ·skip
   have F:=trivial
   refine rn F ?_
   exact⟨r.next hcr (by rw[ef,decide_eq_true (by omega),hl2]; rfl),r.dec hcr,(gc [0])⟩
  ·skip
   have F:=trivial
   refine rn F ?_
   rw[kn (by rw[ef,hl2]; simp)]
 have hcr':¬ ((r.i:Nat):Int)<k.pl.fs.length:=by omega
 have k7:=k6 (r.all hcr)
 have F:=@hcr'
 refine rn F ?_
 refine Qj (fun s:Okay k.lk.held.length (kG k.lk.held k.pg)=>⟨94,0,[(8,.int .i64 s.i),(1,.ptr 0 0)],[⟨39,true,k.d⟩]⟩) (fun s=>k.lk.held.length-s.i) (Okay.start _ _) (gc [0]) ?_
 intro u
 have hu:=u.hi
 by_cases hcu:u.i<k.lk.held.length
 ·have hcu':((u.i:Nat):Int) < k.lk.held.length:=by omega
  have hx:=QaI k.lk.held u.i hcu
  have kn:=k3 u.i hcu
  have F:=(Ja @hcu' @hx)
  refine rn F ?_
  repeat' (first
   | with_reducible exact⟨⟩
   | (refine sB F ?_ ?_<;>intro hZ)
   | (refine Qd (id:=20) [0,1,2,3,4,5,6,7,8,9,10] [] (by kernel_rfl) (by kernel_rfl) ?_; refine rn F ?_))
  all_goals first
   | (rw[kn (by unfold kG; exact decide_eq_false (by omega))])
   | exact⟨u.next hcu (decide_eq_true (by omega)),u.dec hcu,(gc [0])⟩
 have hcu':¬ ((u.i:Nat):Int)<k.lk.held.length:=by omega
 have k8:=k7 (u.all hcu)
 have F:=@hcu'
 refine rn F ?_
 refine Qj (fun s:Okay k.lk.wait.length (kG k.lk.wait k.pg)=>⟨94,0,[(9,.int .i64 s.i),(1,.ptr 0 0)],[⟨39,true,k.d⟩]⟩) (fun s=>k.lk.wait.length-s.i) (Okay.start _ _) (gc [0]) ?_
 intro w
 have hw:=w.hi
 by_cases hcw:w.i<k.lk.wait.length
 ·have hcw':((w.i:Nat):Int) < k.lk.wait.length:=by omega
  have hx:=QaI k.lk.wait w.i hcw
  have kn:=k4 w.i hcw
  have F:=(Ja @hcw' @hx)
  refine rn F ?_
  repeat' (first
   | with_reducible exact⟨⟩
   | (refine sB F ?_ ?_<;>intro hZ)
   | (refine Qd (id:=25) [0,1,2,3,4,5,6,7,8,9,10] [] (by kernel_rfl) (by kernel_rfl) ?_; refine rn F ?_))
  all_goals first
   | (rw[kn (by unfold kG; exact decide_eq_false (by omega))])
   | exact⟨w.next hcw (decide_eq_true (by omega)),w.dec hcw,(gc [0])⟩
 have hcw':¬ ((w.i:Nat):Int)<k.lk.wait.length:=by omega
 have F:=@hcw'
 refine rn F ?_
 rw[k8 (w.all hcw)]
def Qa2(k:Kn)(h:k.sm):VCalls prog 71 [.agg k.d] [] (QL boD fun b=>b=true->VK k):=
 (QbX k h).toS (kB k) rfl Qmb
@[go_sem] def inD(n:Int):DV:=.int .i64 n
def Qy7(k:Kn)(n:Int):Int:=if 0<=idF k.pl.fs n then (k.pl.fs.getD (idF k.pl.fs n).toNat Fm0).pg.lsn else if (Qbl k.la n).2=true then (Qbl k.la n).1.last else (k.ix.getD n.toNat Rw0).lsn
def QfI(k:Kn)(n:Int):Int:=if kB k=true/\0<=n/\n<k.pg then Qy7 k n else 0
def QnB(k:Kn)(h:k.sm)(n:Int):VCalls prog 105 [.agg k.d,.int .i64 n] [] (QL inD fun a=>a=QfI k n):=by
 refine dd Tryz.func105 ?_
 have c1:=QbX k h
 have hvk:=@Qmb k
 have e0:∀ h:¬ (kB k=true/\0<=n/\n<k.pg),QfI k n=0:=fun h=>if_neg h
 have e1:∀ h:kB k=true/\0<=n/\n<k.pg,QfI k n=Qy7 k n:=fun h=>if_pos h
 generalize QfI k n=R at *
 generalize kB k=v at *
 obtain⟨h1,h2,h3,h4,h5,h6⟩:=h
 have c2:=Qgp k (by omega) n
 have c3:=Qha k.pl (by omega) n
 (unfold Tryz.f105; refine rn trivial ?_)
 cases v
 ·skip
  refine rn F ?_
  repeat' (first
   | with_reducible exact⟨⟩
   | refine vp F (c1) ?_)
  all_goals exact⟨rfl,rfl,_,rfl,(e0 (by simp)).symm⟩
 obtain⟨v1,v2,v3,v4,v5,v6,v7⟩:=hvk rfl
 by_cases hn:0<=n/\n<k.pg
 rotate_left
 ·skip
  refine rn F ?_
  repeat' (first
   | with_reducible exact⟨⟩
   | (refine sG F ?_ ?_<;>intro hZ)
   | refine vp F (c1) ?_)
  all_goals first
   | exact⟨rfl,rfl,_,rfl,(e0 (fun h=>hn h.2)).symm⟩
   | (exfalso; omega)
 have hR:=e1 ⟨rfl,hn⟩
 unfold Qy7 at hR
 have hg:=Qml k.ix n.toNat (by omega)
 have hfs:Qbw k.pl n=idF k.pl.fs n:=by unfold Qbw; rw[if_pos v4]
 unfold Qe4 at c3
 rw[hfs] at c3
 by_cases hi:0<=idF k.pl.fs n
 ·rw [if_neg (by omega)] at c3
  rw[if_pos hi] at hR
  refine rn F ?_
  repeat' (first
   | with_reducible exact⟨⟩
   | refine vp F (c1) ?_
   | refine vp F (c3) ?_)
  all_goals first
   | exact⟨rfl,rfl,_,rfl,hR.symm⟩
   | (exfalso; omega)
 rw[if_pos (by omega)] at c3
 rw[if_neg hi] at hR
 have F:=@hg
 refine rn F ?_
 repeat' (first
  | with_reducible exact⟨⟩
  | (refine sB F ?_ ?_<;>intro hZ)
  | refine vp F (c1) ?_
  | refine vp F (c3) ?_
  | (refine Qp (c2) rfl ?_; rintro⟨a,b2⟩ hl; refine rn F ?_))
 all_goals first
  | (exfalso; omega)
  | (rw[<- hl,if_pos (by first | assumption | simp_all)] at hR; exact⟨rfl,rfl,_,rfl,hR.symm⟩)
  | (rw[<- hl,if_neg (by first | assumption | simp_all)] at hR; exact⟨rfl,rfl,_,rfl,hR.symm⟩)
  | skip
def QeM(k:Kn)(h:k.sm)(n:Int):VCalls prog 88 [.agg k.d,.int .i64 n] [] (QL (fun d:Int=>.agg (Kn.d ⟨k.pg,k.nx,⟨k.lg.f,k.lg.es,d⟩,k.pl,k.lk,k.tx,k.ix,k.la⟩)) fun d=>lgB k.lg=true->lgB ⟨k.lg.f,k.lg.es,d⟩=true):=by
 refine dd Tryz.func88 ?_
 obtain⟨h1,h2,h3,h4,h5,h6⟩:=h
 have c1:=Qgq k.lg (by omega)
 have c2:=QjJ k.lg (by omega)
 have e:∀ n,(Q8 k.lg n).2=0->(Q8 k.lg n).1=⟨k.lg.f,k.lg.es,(Q8 k.lg n).1.d⟩/\lgB (Q8 k.lg n).1=true:=fun n h=>by
  unfold Q8 at h |-
  split at h
  ·simp at h
  rename_i q1
  split at h
  ·simp at h
  rename_i q2
  rw[if_neg q1,if_neg q2]
  refine⟨rfl,?_⟩
  have hv:lgB k.lg=true:=by simpa using q1
  have hd:=QaG hv
  unfold lgB at hv |-
  simp only[Jj,decide_eq_true_eq] at hv |-
  refine⟨?_,hv.2⟩
  simp only[Lg.hd,Lg.end_] at hd q2 |-
  split<;>omega
 (unfold Tryz.f88; refine rn trivial ?_)
 refine rn F ?_
 repeat' (first
  | with_reducible exact⟨⟩
  | (refine sB F ?_ ?_<;>intro hZ)
  | refine vp F (c1) ?_
  | refine vp F (c2 _) ?_
  | (refine Qd (id:=1) [0,1,2,3,4] [⟨[11],[],5,[0,1,2,3],[6]⟩,⟨[11],[],7,[0,2,3,4],[8,9,10]⟩,⟨[11],[11],12,[10],[]⟩,⟨[],[],13,[],[]⟩] (by kernel_rfl) (by kernel_rfl) ?_; refine rn F ?_))
 ·obtain ⟨e1,e2⟩:=e _ (by assumption)
  generalize Q8 k.lg _=r at *
  obtain⟨⟨f',es',d'⟩,er⟩:=r
  simp only[Lg.mk.injEq] at e1
  obtain⟨rfl,rfl,_⟩:=e1
  exact⟨rfl,rfl,d',rfl,fun _=>e2⟩
 ·exact⟨rfl,rfl,k.lg.d,rfl,fun h=>h⟩
@[go_sem] def kie(a:Kn×Int×Int):DV:=.tup [.agg a.1.d,.int .i64 a.2.1,.int .i64 a.2.2]
def QAE(k:Kn)(a:Kn×Int×Int):Prop:=a.1.sm/\(a.2.2=0->kB k=true/\(Qaj k.tx k.nx).2=0/\a.1=⟨k.pg,k.nx+1,k.lg,k.pl,k.lk,(Qaj k.tx k.nx).1,k.ix,k.la⟩)
def QtL(k:Kn)(h:k.sm):VCalls prog 61 [.agg k.d] [] (QL kie (QAE k)):=by
 refine dk Tryz.func61 ?_
 have c1:=QbX k h
 have h':=h
 obtain⟨h1,h2,h3,h4,h5,h6⟩:=h
 have c2:=QoT k.tx (h4.smL (by omega)) k.nx
 have hsm:=QmI (l:=k.tx) k.nx
 have e0:∀ er n,er≠0->QAE k (Kn0,n,er):=fun er n h=>⟨Qcb,fun h2=>absurd h2 h⟩
 (unfold Tryz.f61; refine rn trivial ?_)
 cases hv:kB k
 ·rw [hv] at c1
  refine rn F ?_
  repeat' (first
   | with_reducible exact⟨⟩
   | refine vp F (c1) ?_)
  all_goals exact⟨rfl,rfl,(Kn0,0,15),rfl,e0 _ _ (by decide)⟩
 rw[hv] at c1
 obtain⟨v1,v2,v3,v4,v5,v6,v7⟩:=Qmb hv
 refine rn F ?_
 repeat' (first
  | with_reducible exact⟨⟩
  | (refine sB F ?_ ?_<;>intro hZ)
  | refine vp F (c1) ?_
  | refine vp F (c2) ?_
  | (refine Qd (id:=10) [0,1,2,3] [⟨[],[],4,[1,2,3],[]⟩,⟨[],[],5,[],[]⟩,⟨[],[],6,[],[]⟩] (by kernel_rfl) (by kernel_rfl) ?_; refine rn F ?_))
 all_goals first
  | exact⟨rfl,rfl,(Kn0,0,21),rfl,e0 _ _ (by decide)⟩
  | exact⟨rfl,rfl,(Kn0,0,(Qaj k.tx k.nx).2),rfl,e0 _ _ (by assumption)⟩
  | exact⟨rfl,rfl,(⟨k.pg,k.nx+1,k.lg,k.pl,k.lk,(Qaj k.tx k.nx).1,k.ix,k.la⟩,k.nx+1-1,0),rfl,⟨h1,h2,h3,hsm,h5,h6⟩,fun _=>⟨hv,by omega,rfl⟩⟩
  | skip
def Kn.add(k:Kn)(e:E):Kn:=⟨k.pg,k.nx,⟨k.lg.f,k.lg.es++[e],k.lg.d⟩,k.pl,k.lk,(QZ k.tx e).1,(Qb2 k.ix e).1,k.la⟩
def QF9(e e':E):Prop:=e'.kind=e.kind/\e'.tx=e.tx/\e'.ref=e.ref/\e'.c=e.c/\e'.blob=e.blob
def AddOk(k:Kn)(e e':E):Prop:=kB k=true/\QF9 e e'/\e'.okB=true/\e'.lsn=k.lg.end_+1/\k.lg.es.length<4096/\(QZ k.tx e').2=0/\(Qb2 k.ix e').2=0/\(e.tx=0->e'.ptx=0)/\(0<e.tx->∃ i,i<k.tx.length/\idT k.tx e.tx=i/\e'.ptx=(k.tx.getD i Tx0).n)/\((e.kind=1\/e.kind=2)->e'.ppg=QfI k e.c.pg)/\(¬ (e.kind=1\/e.kind=2)->e'.ppg=0)
def QwL(k:Kn)(e:E)(a:Kn×Int×Int):Prop:=a.1.sm/\(a.2.2=0->∃ e',AddOk k e e'/\a.1=k.add e'/\a.2.1=e'.lsn/\lgB a.1.lg=true)
def QDJ(k:Kn)(e:E)(n er:Int)(h:er≠0):QwL k e (Kn0,n,er):=⟨Qcb,fun h2=>absurd h2 h⟩
def Qkt(hs:k.sm)(hv:kB k=true)(h:(QfR k.lg e1).2.2=0)(hn:(QZ k.tx (QbA (QfR k.lg e1).1 (QfR k.lg e1).2.1).1).2=0)(hr:(Qb2 k.ix (QbA (QfR k.lg e1).1 (QfR k.lg e1).2.1).1).2=0)(hse:QF9 e e1)(h0:e.tx=0->e1.ptx=0)(hi:0<e.tx->∃ i,i<k.tx.length/\idT k.tx e.tx=i/\e1.ptx=(k.tx.getD i Tx0).n)(hp1:(e.kind=1\/e.kind=2)->e1.ppg=QfI k e.c.pg)(hp2:¬ (e.kind=1\/e.kind=2)->e1.ppg=0):
 QwL k e (⟨k.pg,k.nx,(QfR k.lg e1).1,k.pl,k.lk,(QZ k.tx (QbA (QfR k.lg e1).1 (QfR k.lg e1).2.1).1).1,(Qb2 k.ix (QbA (QfR k.lg e1).1 (QfR k.lg e1).2.1).1).1,k.la⟩,(QfR k.lg e1).2.1,0):=by
 have hg:=QzT h
 have hl:=Qkr h
 obtain⟨q1,q2,q3,q4⟩:=Qok h
 have hlen:=QpN k.lg e1
 obtain⟨s1,s2,s3,s4,s5,s6⟩:=hs
 rw[hg] at hn hr |-
 rw[q4] at hl hlen |-
 exact⟨⟨hlen,s2,s3,QuF _ _,QlU _ _ s5,s6⟩,fun _=>⟨{ e1 with lsn:=k.lg.end_+1 },⟨hv,hse,q3,rfl,q2,hn,hr,h0,hi,hp1,hp2⟩,rfl,rfl,hl⟩⟩
def Qel (k:Kn) (h:k.sm) (e:E):VCalls prog 96 [.agg k.d,.agg e.d] [] (QL kie (QwL k e)):=by
 refine dk Tryz.func96 ?_
 have c1:=QbX k h
 have ch:=QnB k h e.c.pg
 have h':=h
 obtain⟨h1,h2,h3,h4,h5,h6⟩:=h
 have c2:=Qcj k.tx (Jf h4.1 (by decide)) e.tx
 have hq:=QDJ k e
 obtain⟨lsn,kind,tx,ptx,ppg,ref,c,blob⟩:=e
 dsimp only at c2 ch
 have c3:=fun p=>Qcx ⟨lsn,kind,tx,p,0,ref,c,blob⟩
 have c4:=fun e=>Qt9 k.lg (by omega) e
 have c5:=fun e=>QiL (QfR k.lg e).1 (by have:=QpN k.lg e; omega) (QfR k.lg e).2.1
 have c6:=fun e=>Qnz k.tx (h4.smL (by omega)) e
 have c7:=fun e=>Qls k.ix (by omega) e
 dsimp only at c3
 obtain⟨ch0,hch0⟩:∃ b:Bool,(kind==1||kind==2)=b:=⟨_,rfl⟩
 rw[hch0] at c3
 have hk1:ch0=true->(kind=1\/kind=2):=fun h=>by rw[h] at hch0; simpa using hch0
 have hk2:ch0=false->¬ (kind=1\/kind=2):=fun h=>by rw[h] at hch0; simpa using hch0
 clear hch0
 (unfold Tryz.f96; refine rn trivial ?_)
 cases hv:kB k
 ·rw [hv] at c1
  refine rn F ?_
  repeat' (first
   | with_reducible exact⟨⟩
   | refine vp F (c1) ?_)
  all_goals exact⟨rfl,rfl,(Kn0,0,15),rfl,hq _ _ (by decide)⟩
 rw[hv] at c1
 by_cases ht:0<tx
 ·rcases QI k.tx tx with hi | ⟨i,hi,hid,_⟩
  ·rw [hi] at c2
   have F:=@ht
   refine rn F ?_
   repeat' (first
    | with_reducible exact⟨⟩
    | refine vp F (c1) ?_
    | refine vp F (c2) ?_)
   all_goals exact⟨rfl,rfl,(Kn0,0,16),rfl,hq _ _ (by decide)⟩
  ·rw [hid] at c2
   have hg:=Qeq k.tx i hi
   cases ch0
   ·skip
    have F:=(Ja @ht @hg)
    refine rn F ?_
    repeat' (first
     | with_reducible exact⟨⟩
     | (refine sB F ?_ ?_<;>intro hZ)
     | refine vp F (c1) ?_
     | refine vp F (c2) ?_
     | refine vp F (c3 _) ?_
     | refine vp F (c4 ⟨_,_,_,_,_,_,⟨_,_,⟨_,_⟩,⟨_,_⟩⟩,_⟩) ?_
     | refine vp F (c5 _) ?_
     | refine vp F (c6 _) ?_
     | refine vp F (c7 _) ?_
     | (refine Qd (id:=21) [0,1,2,3] [⟨[],[],4,[1,2],[5]⟩,⟨[],[],6,[2],[7]⟩,⟨[],[],8,[],[]⟩] (by kernel_rfl) (by kernel_rfl) ?_; refine rn F ?_))
    all_goals first
     | exact⟨rfl,rfl,(Kn0,0,_),rfl,hq _ _ (by assumption)⟩
     | (have q:=Qkt (e:=⟨lsn,kind,tx,ptx,ppg,ref,c,blob⟩) (e1:=⟨lsn,kind,tx,(k.tx.getD i Tx0).n,0,ref,c,blob⟩) h' hv (by omega) (by omega) (by omega) ⟨rfl,rfl,rfl,rfl,rfl⟩ (fun h=>by dsimp only at h; omega) (fun _=>⟨i,hi,hid,rfl⟩) (fun h=>absurd h (hk2 rfl)) (fun _=>rfl)
        exact⟨rfl,rfl,_,rfl,q⟩)
     | skip
   ·skip
    have F:=(Ja @ht @hg)
    refine rn F ?_
    repeat' (first
     | with_reducible exact⟨⟩
     | (refine sB F ?_ ?_<;>intro hZ)
     | refine vp F (c1) ?_
     | refine vp F (c2) ?_
     | refine vp F (c3 _) ?_
     | (refine Qp (ch) rfl ?_; rintro hd hhd; refine rn F ?_)
     | refine vp F (c4 ⟨_,_,_,_,_,_,⟨_,_,⟨_,_⟩,⟨_,_⟩⟩,_⟩) ?_
     | refine vp F (c5 _) ?_
     | refine vp F (c6 _) ?_
     | refine vp F (c7 _) ?_
     | (refine Qd (id:=21) [0,1,2,3] [⟨[],[],4,[1,2],[5]⟩,⟨[],[],6,[2],[7]⟩,⟨[],[],8,[],[]⟩] (by kernel_rfl) (by kernel_rfl) ?_; refine rn F ?_))
    all_goals first
     | exact⟨rfl,rfl,(Kn0,0,_),rfl,hq _ _ (by assumption)⟩
     | (have q:=Qkt (e:=⟨lsn,kind,tx,ptx,ppg,ref,c,blob⟩) (e1:=⟨lsn,kind,tx,(k.tx.getD i Tx0).n,hd,ref,c,blob⟩) h' hv (by omega) (by omega) (by omega) ⟨rfl,rfl,rfl,rfl,rfl⟩ (fun h=>by dsimp only at h; omega) (fun _=>⟨i,hi,hid,rfl⟩) (fun _=>hhd) (fun h=>absurd (hk1 rfl) h)
        exact⟨rfl,rfl,_,rfl,q⟩)
     | skip
 ·cases ch0
  ·skip
   have F:=@ht
   refine rn F ?_
   repeat' (first
    | with_reducible exact⟨⟩
    | (refine sB F ?_ ?_<;>intro hZ)
    | refine vp F (c1) ?_
    | refine vp F (c3 _) ?_
    | refine vp F (c4 ⟨_,_,_,_,_,_,⟨_,_,⟨_,_⟩,⟨_,_⟩⟩,_⟩) ?_
    | refine vp F (c5 _) ?_
    | refine vp F (c6 _) ?_
    | refine vp F (c7 _) ?_
    | (refine Qd (id:=21) [0,1,2,3] [⟨[],[],4,[1,2],[5]⟩,⟨[],[],6,[2],[7]⟩,⟨[],[],8,[],[]⟩] (by kernel_rfl) (by kernel_rfl) ?_; refine rn F ?_))
   all_goals first
    | exact⟨rfl,rfl,(Kn0,0,_),rfl,hq _ _ (by assumption)⟩
    | (have q:=Qkt (e:=⟨lsn,kind,tx,ptx,ppg,ref,c,blob⟩) (e1:=⟨lsn,kind,tx,0,0,ref,c,blob⟩) h' hv (by omega) (by omega) (by omega) ⟨rfl,rfl,rfl,rfl,rfl⟩ (fun _=>rfl) (fun h=>absurd h ht) (fun h=>absurd h (hk2 rfl)) (fun _=>rfl)
       exact⟨rfl,rfl,_,rfl,q⟩)
    | skip
  ·skip
   have F:=@ht
   refine rn F ?_
   repeat' (first
    | with_reducible exact⟨⟩
    | (refine sB F ?_ ?_<;>intro hZ)
    | refine vp F (c1) ?_
    | refine vp F (c3 _) ?_
    | (refine Qp (ch) rfl ?_; rintro hd hhd; refine rn F ?_)
    | refine vp F (c4 ⟨_,_,_,_,_,_,⟨_,_,⟨_,_⟩,⟨_,_⟩⟩,_⟩) ?_
    | refine vp F (c5 _) ?_
    | refine vp F (c6 _) ?_
    | refine vp F (c7 _) ?_
    | (refine Qd (id:=21) [0,1,2,3] [⟨[],[],4,[1,2],[5]⟩,⟨[],[],6,[2],[7]⟩,⟨[],[],8,[],[]⟩] (by kernel_rfl) (by kernel_rfl) ?_; refine rn F ?_))
   all_goals first
    | exact⟨rfl,rfl,(Kn0,0,_),rfl,hq _ _ (by assumption)⟩
    | (have q:=Qkt (e:=⟨lsn,kind,tx,ptx,ppg,ref,c,blob⟩) (e1:=⟨lsn,kind,tx,0,hd,ref,c,blob⟩) h' hv (by omega) (by omega) (by omega) ⟨rfl,rfl,rfl,rfl,rfl⟩ (fun _=>rfl) (fun h=>absurd h ht) (fun _=>hhd) (fun h=>absurd (hk1 rfl) h)
       exact⟨rfl,rfl,_,rfl,q⟩)
    | skip
structure Cp where
 pg:Int
 nx:Int
 tx:List Tx
 dl:List Dt
 ix:List Rw
def Qkx(s:List UInt8)(l:List Int):List UInt8:=l.foldl (fun s n=>Qn s n 8) s
def Qe8(s:List UInt8)(t:Tx):List UInt8:=Qkx (Qn (Qkx (Qn (Qn (Qn (Qn (Qn s t.id 4) t.st 1) t.n 8) t.b 8) t.l.length 2) t.l) t.s.length 1) t.s
def Qe7(s:List UInt8)(l:List Tx):List UInt8:=l.foldl Qe8 s
def QaY(l:List Tx):List UInt8:=Qe7 (Qn [] l.length 2) l
def Qkf(s:List UInt8)(r:Rw):List UInt8:=Qn (Qn (Qn s r.lsn 8) r.im 8) r.at_ 8
def Qeu(s:List UInt8)(l:List Rw):List UInt8:=l.foldl Qkf s
def QcI(l:List Rw):List UInt8:=Qeu (Qn [] l.length 2) l
def Qkg(s:List UInt8)(d:Dt):List UInt8:=Qn (Qn (Qn s d.pg 1) d.rc 8) d.last 8
def Qds(s:List UInt8)(l:List Dt):List UInt8:=l.foldl Qkg s
def QHf(c:Cp):List UInt8:=Qn (Qn (Qn (Qn [] c.pg 2) c.nx 4) (QaY c.tx).length 4++QaY c.tx) c.dl.length 1
def QaR(c:Cp):List UInt8:=Qds (QHf c) c.dl++QcI c.ix
def CkV(c:Cp):Prop:=(1<=c.pg/\c.pg<=64)/\(1<=c.nx/\c.nx<=1073741825)/\QbD c.tx=true/\laB c.dl c.pg=true/\ixB c.ix=true/\(c.ix.length:Int)=c.pg
structure CkOf(k:Kn)(c:Cp):Prop where
 pg:c.pg=k.pg
 nx:c.nx=k.nx
 tx:c.tx=k.tx
 ix:c.ix=k.ix
 dl:∀ d∈c.dl,(∃ e∈k.la,e.pg=d.pg/\e.last=d.last)\/∃ f∈k.pl.fs,f.dirty=true/\f.pg.id=d.pg/\f.pg.lsn=d.last
 la:∀ e∈k.la,∃ d∈c.dl,d.pg=e.pg
 fs:∀ f∈k.pl.fs,f.dirty=true->∃ d∈c.dl,d.pg=f.pg.id
def CkP(k:Kn)(s:List UInt8):Prop:=s=[]\/∃ c,CkOf k c/\CkV c/\s=QaR c
def Qbh(l:List Tx)(a:Int):Tx:=l.getD (idT l a).toNat Tx0
def Qjc(k:Kn)(t:Tx)(y:E):Prop:=∃ i,i<t.l.length/\(QbA k.lg (t.l.getD i 0)).2=0/\y=(QbA k.lg (t.l.getD i 0)).1/\∀ j,i<j->j<t.l.length->(QbA k.lg (t.l.getD j 0)).2=0->¬ ((QbA k.lg (t.l.getD j 0)).1.c.pg=y.c.pg/\(QbA k.lg (t.l.getD j 0)).1.c.sl=y.c.sl)
def QGc(k:Kn)(e:E):Prop:=0<=idT k.tx e.tx/\((e.kind=3\/e.kind=4)->(Qbh k.tx e.tx).st≠3)/\(e.kind=5->(Qbh k.tx e.tx).st=3/\(Qbh k.tx e.tx).l=[])
def Qeh(p:Pl)(e:E):Pg:=⟨((Qe4 p e.c.pg).1.setc e.c.sl.toNat e.c.a).id,e.lsn,((Qe4 p e.c.pg).1.setc e.c.sl.toNat e.c.a).cel⟩
def QHz(k:Kn)(e:E):Prop:=0<=idT k.tx e.tx/\(e.kind=1->(Qbh k.tx e.tx).st=1)/\(e.kind=2->(Qbh k.tx e.tx).st≠1/\∃ y,Qjc k (Qbh k.tx e.tx) y/\e.ref=y.lsn/\e.c=⟨y.c.pg,y.c.sl,y.c.a,y.c.b⟩)/\(Qe4 k.pl e.c.pg).2=true/\(Qe4 k.pl e.c.pg).1.cel e.c.sl.toNat=e.c.b
def Kn.set(k:Kn)(e:E):Kn:=⟨k.pg,k.nx,(k.add e).lg,(Qkv k.pl (Qeh k.pl e)).1,k.lk,(k.add e).tx,(k.add e).ix,k.la⟩
def Kn.wrt(k:Kn)(e:E):Kn:=⟨k.pg,k.nx,(k.add e).lg,(QaV k.pl e.c.pg e.ref).1,k.lk,(k.add e).tx,(k.add e).ix,k.la⟩
def QHY(k:Kn)(e:E):Prop:=∃ i:Nat,i<k.pl.fs.length/\idF k.pl.fs e.c.pg=i/\(k.pl.fs.getD i Fm0).pg.lsn=e.ref/\(QaV k.pl e.c.pg e.ref).2=0
inductive Stp:Nat->Kn->Kn->Prop
 | begin {k:Kn}:kB k=true->(Qaj k.tx k.nx).2=0->Stp 1 k ⟨k.pg,k.nx+1,k.lg,k.pl,k.lk,(Qaj k.tx k.nx).1,k.ix,k.la⟩
 | fin {k:Kn} {e e':E}:AddOk k e e'->(e.kind=3\/e.kind=4\/e.kind=5)->QGc k e->Stp 0 k (k.add e')
 | ckpt {k:Kn} {e e':E}:AddOk k e e'->e.kind=6->CkP k e.blob->Stp 1 k (k.add e')
 | change {k:Kn} {e e':E}:AddOk k e e'->e.kind=1->QHz k e->(Qkv k.pl (Qeh k.pl e')).2=0->Stp 1 k (k.set e')
 | undo {k:Kn} {e e':E}:AddOk k e e'->e.kind=2->QHz k e->(Qkv k.pl (Qeh k.pl e')).2=0->Stp 0 k (k.set e')
 | wrt {k:Kn} {e e':E}:AddOk k e e'->e.kind=7->QHY k e->Stp 0 k (k.wrt e')
 | lock {k:Kn} (u:Lk):Stp 0 k ⟨k.pg,k.nx,k.lg,k.pl,u,k.tx,k.ix,k.la⟩
 | save {k:Kn} (a:Int):(Qib k.tx a).2=0->Stp 0 k ⟨k.pg,k.nx,k.lg,k.pl,k.lk,(Qib k.tx a).1,k.ix,k.la⟩
 | back {k:Kn} (a b:Int):(Qir k.tx a b).2=0->Stp 0 k ⟨k.pg,k.nx,k.lg,k.pl,k.lk,(Qir k.tx a b).1,k.ix,k.la⟩
 | rem {k:Kn} (a:Int):0<=idT k.tx a->(Qbh k.tx a).n=0->Stp 0 k ⟨k.pg,k.nx,k.lg,k.pl,k.lk,Qkw k.tx a,k.ix,k.la⟩
 | pool {k:Kn} (p:Pl):SameF k.pl.fs p.fs->Stp 0 k ⟨k.pg,k.nx,k.lg,p,k.lk,k.tx,k.ix,k.la⟩
 | drop {k:Kn} (a:Int):(Qd6 k.pl a).2=0->Stp 0 k ⟨k.pg,k.nx,k.lg,(Qd6 k.pl a).1,k.lk,k.tx,k.ix,k.la⟩
 | put {k:Kn} (x:Pg):kB k=true->0<=x.id/\x.id<k.pg->x.lsn=QfI k x.id->(QoZ k.pl x).2=0->(Qbl k.la x.id).2=false->Stp 0 k ⟨k.pg,k.nx,k.lg,⟨k.pl.size,k.pl.fs++[⟨x,false,0,true⟩],k.pl.hand⟩,k.lk,k.tx,k.ix,k.la⟩
 | putl {k:Kn} (x:Pg):kB k=true->0<=x.id/\x.id<k.pg->x.lsn=QfI k x.id->(QoZ k.pl x).2=0->(Qbl k.la x.id).2=true->Stp 0 k ⟨k.pg,k.nx,k.lg,⟨k.pl.size,k.pl.fs++[⟨x,true,(Qbl k.la x.id).1.rc,true⟩],k.pl.hand⟩,k.lk,k.tx,k.ix,k.la.filter fun d=>decide (d.pg≠x.id)⟩
 | force {k:Kn} (d:Int):(lgB k.lg=true->lgB ⟨k.lg.f,k.lg.es,d⟩=true)->Stp 0 k ⟨k.pg,k.nx,⟨k.lg.f,k.lg.es,d⟩,k.pl,k.lk,k.tx,k.ix,k.la⟩
inductive Str:Nat->Kn->Kn->Prop
 | refl {n:Nat} (k:Kn):Str n k k
 | step {n m:Nat} {k k1 k2:Kn}:Str n k k1->Stp m k1 k2->Str (n+m) k k2
def Str.one(h:Stp m k k'):Str m k k':=by
 have:=Str.step (Str.refl (n:=0) k) h
 rwa [Kh] at this
def Str.mono (h:Str n k k') (hm:n<=m):Str m k k':=by
 induction h generalizing m with
 | refl k=>exact .refl k
 | @step n p k k1 k2 h1 h2 ih =>
   have:=ih (m:=m-p) (by omega)
   have:=Str.step this h2
   rwa [Nat.sub_add_cancel (by omega)] at this
def Str.trans(h:Str n a b)(g:Str m b c):Str (n+m) a c:=by
 induction g with
 | refl k=>exact h.mono (by omega)
 | step h1 h2 ih=>rw[<- Nat.add_assoc]; exact(ih h).step h2
def Str.tr0(h:Str 0 a b)(g:Str n b c):Str n a c:=by have:=h.trans g; rwa [Kh] at this
def Str.tr(h:Str n a b)(g:Str 0 b c):Str n a c:=h.trans g
structure Ev(x y:Lg):Prop where
 f:y.f=x.f
 pre:x.es <+: y.es
 ok:lgB x=true->lgB y=true
def Ev.refl(x:Lg):Ev x x:=⟨rfl,Kc,fun h=>h⟩
def Ev.trans(a:Ev x y)(b:Ev y z):Ev x z:=⟨b.f.trans a.f,a.pre.trans b.pre,fun h=>b.ok (a.ok h)⟩
def Ev.len(a:Ev x y):x.es.length<=y.es.length:=a.pre.length_le
def AddOk.lgB(h:AddOk k e e'):lgB (k.add e').lg=true:=by
 obtain⟨v,s,ho,hl,hn,_⟩:=h
 have hv:=(Qmb v).2.2.1
 exact Qpd (f:=k.lg.f) (d:=k.lg.d) hv hn (by rw[hl]; unfold Lg.end_; omega) ho
def AddOk.ev(h:AddOk k e e'):Ev k.lg (k.add e').lg:=⟨rfl,List.prefix_append _ _,fun _=>h.lgB⟩
def Stp.ev(h:Stp n k k'):Ev k.lg k'.lg:=by
 cases h with
 | fin h _ _=>exact h.ev
 | ckpt h _ _=>exact h.ev
 | change h _ _ _=>exact h.ev
 | undo h _ _ _=>exact h.ev
 | wrt h _ _=>exact h.ev
 | force d h=>exact⟨rfl,Kc,h⟩
 | _=>exact Ev.refl _
def Str.ev(h:Str n k k'):Ev k.lg k'.lg:=by
 induction h with
 | refl k=>exact Ev.refl _
 | step _ h2 ih=>exact ih.trans h2.ev
structure Rs where
 st:Int
 tx:Int
 pg:Int
 cell:Ce
 er:Int
@[go_sem] def Rs.d(r:Rs):List DV:=[.int .i64 r.st,.int .i64 r.tx,.int .i64 r.pg,.bool r.cell.set,.pv (.str r.cell.data),.int .i64 r.er]
def QaF(e:Int):Rs:=⟨5,0,0,Ce0,e⟩
@[go_sem] def krD(a:Kn×Rs):DV:=.tup [.agg a.1.d,.agg a.2.d]
def Qwx(hq:QwL k e (k1,n1,e1))(h:e1=0):Ev k.lg k1.lg/\lgB k1.lg=true/\k1.lg.es.length=k.lg.es.length+1/\k1.pg=k.pg/\k1.pl=k.pl/\k1.lk=k.lk/\k1.la=k.la:=by
 obtain⟨e',ha,hk,_,hl⟩:=hq.2 h
 dsimp only at hk hl
 subst hk
 exact⟨ha.ev,hl,by simp[Kn.add],rfl,rfl,rfl,rfl⟩
def QgI(hq:QwL k e (k1,n1,e1))(h:e1=0)(hk:e.kind=3\/e.kind=4\/e.kind=5)(hf:QGc k e):Str 0 k k1:=by
 obtain⟨e',ha,hk1,_,hl⟩:=hq.2 h
 dsimp only at hk1
 subst hk1
 exact .one (.fin ha hk hf)
def Qee{a:Int}{i:Nat}(h:idT l a=i):Qbh l a=l.getD i Tx0:=by unfold Qbh; rw[h]; rfl
def Qak(e:Int):VCalls prog 50 [.int .i64 e] [] (Ret (.agg (QaF e).d)):=by
 refine dd Tryz.func50 ?_
 (unfold Tryz.f50; refine rn trivial ?_)
 rfl
def Qqx(k:Kn)(h:k.sm)(tx pg sl:Int)(hi:0<=idT k.tx tx):VCalls prog 214 [.agg k.d,.int .i64 tx,.agg [.int .i64 pg,.int .i64 sl]] [] (QL boD fun _=>True):=by
 refine dd Tryz.func214 ?_
 obtain⟨h1,h2,h3,h4,h5,h6⟩:=h
 have c2:=Qcj k.tx (Jf h4.1 (by decide)) tx
 have c5:=fun n=>QiL k.lg (by omega) n
 rcases QI k.tx tx with hn | ⟨i,hil,hid,_⟩
 ·omega
 rw[hid] at c2
 have hg:=Qeq k.tx i hil
 have ht:(k.tx.getD i Tx0).l.length<=100000:=by rw[Qf _ _ hil]; exact(h4.2 _ (J6 hil)).1
 (unfold Tryz.f214; refine rn trivial ?_)
 have F:=@hg
 refine rn F ?_
 repeat' (first
  | with_reducible exact⟨⟩
  | refine vp F (c2) ?_
  | (refine Qd (id:=1) [0,1,2,3,4] [⟨[8],[],5,[0,1,2],[6,7]⟩,⟨[8],[8],9,[],[]⟩] (by kernel_rfl) (by kernel_rfl) ?_; refine rn F ?_))
 generalize k.tx.getD i Tx0=t at *
 refine Qj (fun s:To t.l.length=>⟨55,0,[(8,.int .i64 s.i),(7,.ptr 2 0),(5,.ptr 1 0),(3,.ptr 0 0)],[⟨39,true,k.d⟩,⟨81,true,[.int .i64 pg,.int .i64 sl]⟩,⟨197,true,t.d⟩]⟩) (fun s=>t.l.length-s.i) ⟨0,Jl _⟩ (gc [0,1,2]) ?_
 rintro⟨j,hj⟩
 dsimp only
 have hx:=fun h:j<t.l.length=>Qac t.l j h
 have F:=@hx
 refine rn F ?_
 repeat' (first
  | with_reducible exact⟨⟩
  | (refine sG F ?_ ?_<;>intro hZ)
  | (refine sB F ?_ ?_<;>intro hZ)
  | refine vp F (c5 _) ?_
  | (refine Qd (id:=5) [0,1,2,3,4,5,6] [⟨[11],[],7,[0,2,3,4,5],[8,9,10]⟩,⟨[11],[11],12,[10],[]⟩,⟨[],[],13,[],[]⟩] (by kernel_rfl) (by kernel_rfl) ?_; refine rn F ?_))
 all_goals first
  | exact⟨rfl,rfl,true,rfl,trivial⟩
  | exact⟨rfl,rfl,false,rfl,trivial⟩
  | exact⟨⟨j+1,by omega⟩,by dsimp only; omega,(gc [0,1,2])⟩
  | skip
def QDq(k:Kn)(a:Kn×Rs):Prop:=a.1.sm/\(a.2.st=1\/a.2.st=5)/\(a.2.st≠5->Str 0 k a.1)
def Qt4(k:Kn)(h:k.sm)(tx:Int)(hi:0<=idT k.tx tx)(hst:(Qbh k.tx tx).st≠3):VCalls prog 168 [.agg k.d,.int .i64 tx] [] (QL krD (QDq k)):=by
 refine dk Tryz.func168 ?_
 have h':=h
 obtain⟨h1,h2,h3,h4,h5,h6⟩:=h
 have c2:=Qcj k.tx (Jf h4.1 (by decide)) tx
 have c3:=Qg9 k.tx (Jf h4.1 (by decide)) tx
 have c4:=Qel k h' ⟨0,3,tx,0,0,0,Ch0,[]⟩
 rcases QI k.tx tx with hn | ⟨i,hil,hid,_⟩
 ·omega
 rw[hid] at c2
 have hg:=Qeq k.tx i hil
 (unfold Tryz.f168; refine rn trivial ?_)
 have F:=@hg
 refine rn F ?_
 repeat' (first
  | with_reducible exact⟨⟩
  | (refine sB F ?_ ?_<;>intro hZ)
  | refine vp F (c2) ?_
  | refine vp F (c3) ?_
  | (refine Qp (c4) rfl ?_; rintro⟨k1,n1,e1⟩ hq; refine rn F ?_)
  | refine vp F (Qak _) ?_
  | (refine Qp (QeM k1 hq.1 _) rfl ?_; rintro d hd; refine rn F ?_)
  | (refine Qp (QdN k.lk (by omega) tx) rfl ?_; rintro u hu; refine rn F ?_)
  | (refine Qp (QdN k1.lk (Jf hq.1.2.2.1 (by decide)) tx) rfl ?_; rintro u hu; refine rn F ?_)
  | (refine Qd (id:=2) [0,1,2,3,4] [⟨[],[],5,[0,1,2],[6,7,8,9]⟩] (by kernel_rfl) (by kernel_rfl) ?_; refine rn F ?_)
  | (refine Qd (id:=6) [0,1] [⟨[],[],2,[0],[]⟩,⟨[],[],3,[1],[]⟩,⟨[],[],4,[],[]⟩] (by kernel_rfl) (by kernel_rfl) ?_; refine rn F ?_))
 ·exact⟨rfl,rfl,(⟨k.pg,k.nx,k.lg,k.pl,u,Qkw k.tx tx,k.ix,k.la⟩,⟨1,0,0,Ce0,0⟩),rfl,⟨h1,h2,Jf hu h3,h4.rem _,h5,h6⟩,.inl rfl,fun _=>(Str.one (.rem tx hi (by rw[Qee hid]; omega))).step (.lock u)⟩
 ·exact⟨rfl,rfl,(k,QaF e1),rfl,h',.inr rfl,fun h=>absurd rfl h⟩
 ·have q:=QgI hq (by omega) (.inl rfl) ⟨hi,fun _=>hst,fun h=>by simp at h⟩
  obtain⟨r1,r2,r3,r4,r5,r6⟩:=hq.1
  exact⟨rfl,rfl,(⟨k1.pg,k1.nx,⟨k1.lg.f,k1.lg.es,d⟩,k1.pl,u,k1.tx,k1.ix,k1.la⟩,⟨1,0,0,Ce0,0⟩),rfl,⟨r1,r2,Jf hu r3,r4,r5,r6⟩,.inl rfl,fun _=>(q.step (.force d hd)).step (.lock u)⟩
def Qj7:0<=idT l a ↔ a∈l.map (·.id):=by
 unfold idT QgA
 constructor
 ·intro h
  split at h
  ·rename_i hx
   obtain⟨t,ht,he⟩:=JN.1 hx
   exact Jw.2 ⟨t,ht,by simpa using he⟩
  ·omega
 ·intro h
  obtain⟨t,ht,he⟩:=Jw.1 h
  rw[if_pos (JN.2 ⟨t,ht,by simpa using he⟩)]
  omega
def QiE(t:Tx):(QK t).id=t.id:=by unfold QK; split<;>rfl
def QyE(t:Tx)(e:E):(Qcz t e).id=t.id:=by unfold Qcz; split; rfl; split<;>rfl
def QlT(h:(QZ l e).2=0)(hk:e.kind≠3/\e.kind≠5):(QZ l e).1.map (·.id)=l.map (·.id):=by
 unfold QZ at h |-
 split at h
 ·simp at h
 rename_i q1
 split at h
 ·simp at h
 rename_i q2
 split at h
 ·rename_i q3; rw[if_neg q1,if_neg q2,if_pos q3]
 rename_i q3
 split at h
 ·simp at h
 rename_i q4
 rw[if_neg q1,if_neg q2,if_neg q3,if_neg q4]
 rcases QI l e.tx with hn | ⟨i,hi,hid,_⟩
 ·omega
 rw[hid,Jr] at h |-
 unfold QlW at h |-
 split at h
 ·simp at h
 rename_i q5
 split at h
 ·rename_i q6; omega
 rename_i q6
 rw[if_neg q5,if_neg q6]
 dsimp only
 rw[List.map_set,QiE,QyE,Qf l i hi]
 have:l[i].id=(l.map (·.id))[i]'(by simpa using hi):=by rw[J5]
 rw[this,List.set_getElem_self]
def QqG(h:(QZ l e).2=0)(hk:e.kind≠3/\e.kind≠5)(ha:0<=idT l a):0<=idT (QZ l e).1 a:=by
 rw[Qj7] at ha |-; rw[QlT h hk]; exact ha
def QiQ(h:(QZ l e).2=0)(ht:e.tx=0):(QZ l e).1=l:=by
 unfold QZ at h |-
 split at h
 ·simp at h
 rename_i q1
 split at h
 ·simp at h
 rename_i q2
 rw[if_neg q1,if_neg q2,if_pos ht]
def QmS(hq:QwL k e (k1,n1,e1))(h:e1=0)(hk:e.kind≠3/\e.kind≠5)(ha:0<=idT k.tx a):0<=idT k1.tx a:=by
 obtain⟨e',⟨v,s,_,_,_,hn,_⟩,hk1,_,_⟩:=hq.2 h
 dsimp only at hk1
 subst hk1
 exact QqG hn (by rw[s.1]; exact hk) ha
def Qww(hq:QwL k e (k1,n1,e1))(h:e1=0)(ht:e.tx=0):k1.tx=k.tx:=by
 obtain⟨e',⟨v,s,_,_,_,hn,_⟩,hk1,_,_⟩:=hq.2 h
 dsimp only at hk1
 subst hk1
 exact QiQ hn (by rw[s.2.1]; exact ht)
def QFn(k:Kn)(st:Int)(a:Kn×Rs):Prop:=a.1.sm/\(a.2.st=st\/a.2.st=5)/\(a.2.st≠5->Str 0 k a.1)
def QoL(k:Kn)(h:k.sm)(tx st:Int)(hi:0<=idT k.tx tx)(hst:(Qbh k.tx tx).st≠3):VCalls prog 169 [.agg k.d,.int .i64 tx,.int .i64 st] [] (QL krD (QFn k st)):=by
 refine dk Tryz.func169 ?_
 have h':=h
 obtain⟨h1,h2,h3,h4,h5,h6⟩:=h
 have c1:=Qt7 k.lk (by omega) tx
 have c2:=Qcj k.tx (Jf h4.1 (by decide)) tx
 have c3:=Qg9 k.tx (Jf h4.1 (by decide)) tx
 have c4:=fun(u:Lk) (hu:u.sum<=k.lk.sum)=>Qel ⟨k.pg,k.nx,k.lg,k.pl,u,k.tx,k.ix,k.la⟩ ⟨h1,h2,Jf hu h3,h4,h5,h6⟩ ⟨0,4,tx,0,0,0,Ch0,[]⟩
 rcases QI k.tx tx with hn | ⟨i,hil,hid,_⟩
 ·omega
 rw[hid] at c2
 have hg:=Qeq k.tx i hil
 (unfold Tryz.f169; refine rn trivial ?_)
 have F:=@hg
 refine rn F ?_
 repeat' (first
  | with_reducible exact⟨⟩
  | (refine sB F ?_ ?_<;>intro hZ)
  | (refine Qp (c1) rfl ?_; rintro u hu; refine rn F ?_)
  | refine vp F (c2) ?_
  | refine vp F (c3) ?_
  | (refine Qp (c4 u hu) rfl ?_; rintro⟨k1,n1,e1⟩ hq; refine rn F ?_)
  | refine vp F (Qak _) ?_
  | (refine Qp (QdN u (Jf hu (Jf h3 (by decide))) tx) rfl ?_; rintro u2 hu2; refine rn F ?_)
  | (refine Qd (id:=3) [0,1,2,3,4] [⟨[],[],5,[0,1,2],[6,7,8,9]⟩] (by kernel_rfl) (by kernel_rfl) ?_; refine rn F ?_)
  | (refine Qd (id:=9) [0,1] [⟨[],[],2,[0],[]⟩,⟨[],[],3,[1],[]⟩,⟨[],[],4,[],[]⟩] (by kernel_rfl) (by kernel_rfl) ?_; refine rn F ?_))
 ·exact⟨rfl,rfl,(⟨k.pg,k.nx,k.lg,k.pl,u2,Qkw k.tx tx,k.ix,k.la⟩,⟨st,0,0,Ce0,0⟩),rfl,⟨h1,h2,Jf hu2 (Jf hu h3),h4.rem _,h5,h6⟩,.inl rfl,fun _=>(Str.one (.rem tx hi (by rw[Qee hid]; omega))).step (.lock u2)⟩
 ·exact⟨rfl,rfl,(k,QaF e1),rfl,h',.inr rfl,fun h=>absurd rfl h⟩
 have he1:e1=0:=by omega
 obtain⟨q1,q2,q3,q4,q5,q6,q7⟩:=Qwx hq he1
 have qs:=QgI hq he1 (.inr (.inl rfl)) ⟨hi,fun _=>hst,fun h=>by simp at h⟩
 have hst:=QmS hq he1 ⟨by simp,by simp⟩ hi
 obtain⟨r1,r2,r3,r4,r5,r6⟩:=hq.1
 dsimp only at q1 qs hst r1 r2 r3 r4 r5 r6
 have hkl:k1.lk.held.length<=1024:=by unfold Lk.sum at r3; omega
 refine Qj (fun s:{s:Nat×Lk // s.1<=k1.lk.held.length/\s.2.sum<=1024}=>⟨95,0,[(12,.int .i64 s.1.1),(11,.pv (.sl (fz Qau k1.lk.held))),(8,.ptr 2 0),(7,.ptr 1 0),(6,.ptr 0 0),(2,.int .i64 st),(1,.int .i64 tx)],[⟨39,true,[.int .i64 0,.int .i64 0,.int .i64 0,.pv (.slc []),.int .i64 0,.int .i64 0,.pv (.slc []),.int .i64 0,.pv (.slc []),.pv (.slc []),.pv (.slc []),.pv (.slc []),.pv (.slc [])]⟩,⟨107,true,[.int .i64 0,.int .i64 0,.int .i64 0,.bool false,.pv (.str []),.int .i64 0]⟩,⟨39,true,Kn.d ⟨k1.pg,k1.nx,k1.lg,k1.pl,s.1.2,k1.tx,k1.ix,k1.la⟩⟩]⟩) (fun s=>k1.lk.held.length-s.1.1) ⟨(0,k1.lk),Jl _,r3⟩ (gc [1,2,3]) ?_
 rintro⟨⟨j,u3⟩,hj,hu3⟩
 dsimp only at hj hu3 |-
 have hx:=fun h:j<k1.lk.held.length=>QaI k1.lk.held j h
 have d1:=Qqx ⟨k1.pg,k1.nx,k1.lg,k1.pl,u3,k1.tx,k1.ix,k1.la⟩ ⟨r1,r2,hu3,r4,r5,r6⟩ tx
 have d2:=QtZ u3 (by omega) tx
 have F:=@hx
 refine rn F ?_
 repeat' (first
  | with_reducible exact⟨⟩
  | (refine sG F ?_ ?_<;>intro hZ)
  | (refine sB F ?_ ?_<;>intro hZ)
  | (refine Qp (d1 _ _ hst) rfl ?_; rintro b -; refine rn F ?_)
  | (refine Qp (d2 _ _) rfl ?_; rintro u4 hu4; refine rn F ?_)
  | (refine Qd (id:=14) [0,1,2,3,4,5,6,7,8,9,10,11,12,13,14] [⟨[],[],15,[0,1,2,3,4,5,6,10,11,12,13],[16,17]⟩] (by kernel_rfl) (by kernel_rfl) ?_; refine rn F ?_)
  | (refine Qd (id:=15) [0,1,2,3,4,5,6,7] [⟨[],[],8,[0,3,4,5,6],[9]⟩,⟨[],[],10,[],[]⟩] (by kernel_rfl) (by kernel_rfl) ?_; refine rn F ?_))
 all_goals first
  | exact⟨⟨(j+1,u3),by dsimp only; omega,hu3⟩,by dsimp only; omega,(gc [0,1,2])⟩
  | exact⟨⟨(j+1,u4),by dsimp only; omega,Jf hu4 hu3⟩,by dsimp only; omega,(gc [0,1,2])⟩
  | exact⟨rfl,rfl,(⟨k1.pg,k1.nx,k1.lg,k1.pl,u3,k1.tx,k1.ix,k1.la⟩,⟨st,0,0,Ce0,0⟩),rfl,⟨r1,r2,hu3,r4,r5,r6⟩,.inl rfl,fun _=>((Str.one (.lock u)).trans qs).step (.lock u3)⟩
  | skip
section
attribute [local go_sem] Qbm
def Qkk(x:Pg)(i:Nat)(h:i<16)(c:Ce):x.d.take (2+i*2)++[.pv (.lit (.bool c.set)),.pv (.str c.data)]++x.d.drop (2+i*2+2)=(x.setc i c).d:=QDv x i h c
def QyB{e:E}(h:e.okB=true)(hk:e.kind=1\/e.kind=2):0<=e.c.sl/\e.c.sl<16:=by
 unfold E.okB at h
 simp only[Jj] at h
 have h2:=h.2
 unfold E.kindB Ch.okB at h2
 rcases hk with hk | hk<;>rw[hk] at h2<;>simp at h2<;>omega
def Qwv(hq:QwL k e (k1,n1,e1))(h:e1=0)(hk:e.kind=1\/e.kind=2):0<=e.c.sl/\e.c.sl<16:=by
 obtain⟨e',⟨v,s,ho,_⟩,_⟩:=hq.2 h
 have:=QyB ho (by rw[s.1]; exact hk)
 rw[s.2.2.2.1] at this
 exact this
def Qxe(p:Pl)(x:Pg)(h:p.fs.length<=64):(Qkv p x).1.fs.length<=64:=by
 unfold Qkv
 repeat' split
 all_goals first | exact Jl _ | simpa using h
@[go_sem] def kiD(a:Kn×Int):DV:=.tup [.agg a.1.d,.int .i64 a.2]
def QIl(k:Kn)(e:E)(a:Kn×Int):Prop:=a.1.sm/\(a.2=0->∃ e',AddOk k e e'/\(Qkv k.pl (Qeh k.pl e')).2=0/\a.1=k.set e')/\(a.2≠0->a.1=k)
def Qz9(k:Kn)(h:k.sm)(e:E)(hk:e.kind=1\/e.kind=2):VCalls prog 163 [.agg k.d,.agg e.d] [] (QL kiD (QIl k e)):=by
 refine dk Tryz.func163 ?_
 have h':=h
 obtain⟨h1,h2,h3,h4,h5,h6⟩:=h
 have c1:=Qel k h' e
 have c2:=Qha k.pl (by omega) e.c.pg
 have c3:=fun x=>QBO k.pl (by omega) x
 have hul:=fun x=>Qxe k.pl x h2
 (unfold Tryz.f163; refine rn trivial ?_)
 refine Qp c1 rfl ?_
 rintro⟨k1,n1,e1⟩ hq
 by_cases he1:e1=0
 ·subst he1
  obtain⟨s1,s2⟩:=Qwv hq rfl hk
  obtain⟨i,hi⟩:∃ i:Nat,e.c.sl=i:=⟨e.c.sl.toNat,by omega⟩
  have hce:=fun x=>Qkk x i (by omega) e.c.a
  have hi16:i<16:=by omega
  obtain⟨r1,r2,r3,r4,r5,r6⟩:=hq.1
  obtain⟨e',ha,hk1,hn1,hl1⟩:=hq.2 rfl
  dsimp only at hk1 hn1
  have hsp:Qeh k.pl e'=⟨((Qe4 k.pl e.c.pg).1.setc i e.c.a).id,n1,((Qe4 k.pl e.c.pg).1.setc i e.c.a).cel⟩:=by
   unfold Qeh; rw[ha.2.1.2.2.2.1,hi,Jr,<- hn1]
  have hS:∀ w,Qkv k.pl ⟨((Qe4 k.pl e.c.pg).1.setc i e.c.a).id,n1,((Qe4 k.pl e.c.pg).1.setc i e.c.a).cel⟩=w->w.2=0->(Qkv k.pl (Qeh k.pl e')).2=0/\(⟨k1.pg,k1.nx,k1.lg,w.1,k1.lk,k1.tx,k1.ix,k1.la⟩:Kn)=k.set e':=by
   rintro w rfl h0
   rw[<- hsp] at h0 |-
   subst hk1
   exact⟨h0,rfl⟩
  dsimp only at r1 r2 r3 r4 r5 r6
  have hw:=hul ⟨((Qe4 k.pl e.c.pg).1.setc i e.c.a).id,n1,((Qe4 k.pl e.c.pg).1.setc i e.c.a).cel⟩
  have F:=(Ja @hi @hce)
  refine rn F ?_
  repeat' (first
   | with_reducible exact⟨⟩
   | (refine sB F ?_ ?_<;>intro hZ)
   | refine vp F (c2) ?_
   | refine vp F (c3 _) ?_)
  all_goals generalize hww:Qkv k.pl ⟨((Qe4 k.pl e.c.pg).1.setc i e.c.a).id,n1,((Qe4 k.pl e.c.pg).1.setc i e.c.a).cel⟩=w at *
  ·exact⟨rfl,rfl,(k,w.2),rfl,h',fun h=>absurd h (by assumption),fun _=>rfl⟩
  ·exact⟨rfl,rfl,(⟨k1.pg,k1.nx,k1.lg,w.1,k1.lk,k1.tx,k1.ix,k1.la⟩,0),rfl,⟨r1,hw,r3,r4,r5,r6⟩,fun _=>⟨e',ha,hS w rfl (by omega)⟩,fun h=>absurd rfl h⟩
 ·skip
  have F:=@he1
  refine rn F ?_
  exact⟨rfl,rfl,(k,e1),rfl,h',fun h=>absurd h he1,fun _=>rfl⟩
structure Ac where
 kind:Int
 pg:Int
 sl:Int
 data:List UInt8
@[go_sem] def Ac.d(a:Ac):List DV:=[.int .i64 a.kind,.int .i64 a.pg,.int .i64 a.sl,.pv (.str a.data)]
def Qxd(p:Pl)(a:Int)(h:p.fs.length<=64):(QBk p a).fs.length<=64:=by
 unfold QBk
 split
 ·exact h
 ·simpa using h
def QsL(p:Pl)(a:Int):SameF p.fs (QBk p a).fs:=by
 unfold QBk
 split
 ·exact SameF.refl _
 ·exact SameF.set _ _ _
def Qvd(hp:plB p=true)(h:(Qe4 p a).2=false):idF p.fs a<0:=by
 unfold Qe4 Qbw at h
 rw[hp] at h
 simp only[if_true] at h
 split at h
 ·assumption
 ·simp at h
def QIN(k:Kn)(a:Ac)(r:Kn×Rs):Prop:=r.1.sm/\(r.2.st=3->r.1=k/\r.2.pg=a.pg/\idF k.pl.fs a.pg<0)/\(r.2.st=1\/r.2.st=3\/r.2.st=5)/\(r.2.st=1->Str 1 k r.1)
def Qub(k:Kn)(h:k.sm)(hv:VK k)(tx:Int)(hid:0<=idT k.tx tx)(hst:(Qbh k.tx tx).st=1)(a:Ac)(ha:0<=a.sl/\a.sl<16):VCalls prog 174 [.agg k.d,.int .i64 tx,.agg a.d] [] (QL krD (QIN k a)):=by
 refine dk Tryz.func174 ?_
 have h':=h
 obtain⟨h1,h2,h3,h4,h5,h6⟩:=h
 have c1:=Qha k.pl (by omega) a.pg
 have c2:=QBN k.pl (by omega) a.pg
 have hn:=Qvd (a:=a.pg) hv.2.2.2.1
 have hul:=Qxd k.pl a.pg h2
 have c3:=fun c=>Qz9 k h' ⟨0,1,tx,0,0,0,c,[]⟩ (.inl rfl)
 obtain⟨i,hi⟩:∃ i:Nat,a.sl=i:=⟨a.sl.toNat,by omega⟩
 have hi16:i<16:=by omega
 have hus:=QsL k.pl a.pg
 generalize hgg:Qe4 k.pl a.pg=g at *
 have hce:=QpL g.1 i hi16
 generalize QBk k.pl a.pg=up at *
 (unfold Tryz.f174; refine rn trivial ?_)
 have F:=(Ja @hi @hce)
 refine rn F ?_
 repeat' (first
  | with_reducible exact⟨⟩
  | (refine sB F ?_ ?_<;>intro hZ)
  | refine vp F (c1) ?_
  | refine vp F (c2) ?_
  | (refine Qp (c3 ⟨_,_,⟨_,_⟩,⟨_,_⟩⟩) rfl ?_; rintro⟨k1,e1⟩ hq; refine rn F ?_)
  | refine vp F (Qak _) ?_
  | (refine Qd (id:=3) [0,1,2,3] [⟨[],[],4,[1,2,3],[]⟩,⟨[],[],5,[],[]⟩] (by kernel_rfl) (by kernel_rfl) ?_; refine rn F ?_)
  | (refine Qd (id:=6) [0,1,2,3,4,5,6] [⟨[],[],7,[1,2,3,4,5,6],[]⟩,⟨[],[],8,[],[]⟩] (by kernel_rfl) (by kernel_rfl) ?_; refine rn F ?_)
  | (refine Qd (id:=7) [0,1,2,3,4,5,6,7,8,9] [⟨[10],[10],11,[],[]⟩] (by kernel_rfl) (by kernel_rfl) ?_; refine rn F ?_)
  | (refine Qd (id:=12) [0,1] [⟨[],[],2,[0],[]⟩,⟨[],[],3,[1],[]⟩,⟨[],[],4,[],[]⟩] (by kernel_rfl) (by kernel_rfl) ?_; refine rn F ?_))
 all_goals first
  | exact⟨rfl,rfl,(k,⟨3,0,a.pg,Ce0,0⟩),rfl,h',fun _=>⟨rfl,rfl,hn (by first | assumption | simp_all)⟩,.inr (.inl rfl),fun h=>by simp at h⟩
  | exact⟨rfl,rfl,(⟨k.pg,k.nx,k.lg,up,k.lk,k.tx,k.ix,k.la⟩,⟨1,0,0,g.1.cel i,0⟩),rfl,⟨h1,hul,h3,h4,h5,h6⟩,fun h=>by simp at h,.inl rfl,fun _=>(Str.one (.pool up hus)).mono (by omega)⟩
  | exact⟨rfl,rfl,(k,QaF e1),rfl,h',fun h=>by simp[QaF] at h,.inr (.inr rfl),fun h=>by simp[QaF] at h⟩
  | skip
 all_goals
  obtain⟨e',q1,q2,q3⟩:=hq.2.1 (by dsimp only; omega)
  dsimp only at q3
  exact⟨rfl,rfl,(k1,⟨1,0,0,Ce0,0⟩),rfl,hq.1,fun h=>by simp at h,.inl rfl,fun _=>by
   dsimp only
   rw[q3]
   exact .one (.change q1 rfl ⟨hid,fun _=>hst,fun h=>by simp at h,by dsimp only; rw[hgg]; first | assumption | simp_all,by dsimp only; rw[hgg]; rfl⟩ q2)⟩
end
def QF6(a b c a' b' c':Int)(d d':List UInt8):QV [.pv (.lit (.int .i64 a)),.pv (.lit (.int .i64 b)),.pv (.lit (.int .i64 c)),.pv (.str d)] [.pv (.lit (.int .i64 a')),.pv (.lit (.int .i64 b')),.pv (.lit (.int .i64 c')),.pv (.str d')] [(0,1),(1,1),(2,1),(3,2)]=some (decide (a=a')&&decide (b=b')&&decide (c=c')&&decide (d=d')):=by simp[QV,Qao,Jy,JU]
def QHX(k:Kn)(a:Ac)(e:Int):Prop:=e=0->(1<=a.kind/\a.kind<=7)/\(a.kind<=3->0<=a.sl/\a.sl<16)
def Qua(k:Kn)(a:Ac):VCalls prog 212 [.agg k.d,.agg a.d] [] (QL inD (QHX k a)):=by
 refine dk Tryz.func212 ?_
 unfold QHX
 (unfold Tryz.f212; refine rn trivial ?_)
 have F:=@QF6
 refine rn F ?_
 repeat' (first
  | with_reducible exact⟨⟩
  | (refine sG F ?_ ?_<;>intro hZ)
  | (refine sB F ?_ ?_<;>intro hZ)
  | (refine Qd (id:=9) [0,1,2,3,4] [⟨[],[],5,[2,3],[6]⟩,⟨[],[],7,[],[]⟩] (by kernel_rfl) (by kernel_rfl) ?_; refine rn F ?_))
 all_goals first
  | exact⟨rfl,rfl,_,rfl,fun h=>absurd h (by decide)⟩
  | exact⟨rfl,rfl,0,rfl,fun _=>⟨⟨by omega,by omega⟩,fun _=>⟨by omega,by omega⟩⟩⟩
  | skip
@[go_sem] def gbD(a:Gr×Bool):DV:=.tup [.agg a.1.d,.bool a.2]
def QtF(tx:Int)(a:Ac):VCalls prog 172 [.int .i64 tx,.agg a.d] [] (QL gbD fun _=>True):=by
 refine dd Tryz.func172 ?_
 (unfold Tryz.f172; refine rn trivial ?_)
 refine rn F ?_
 repeat' (first
  | with_reducible exact⟨⟩
  | (refine sB F ?_ ?_<;>intro hZ))
 all_goals first
  | exact⟨rfl,rfl,(⟨_,_,_,_⟩,_),rfl,trivial⟩
  | skip
def QHK(k:Kn)(tx:Int)(a:Ac)(e:Int):Prop:=e=0->VK k/\(0<=idT k.tx tx/\(Qbh k.tx tx).st=1)/\(1<=a.kind/\a.kind<=7)/\(a.kind<=3->0<=a.sl/\a.sl<16)
def Qqt(k:Kn)(h:k.sm)(tx:Int)(a:Ac):VCalls prog 167 [.agg k.d,.int .i64 tx,.agg a.d] [] (QL inD (QHK k tx a)):=by
 refine dk Tryz.func167 ?_
 have c1:=Qa2 k h
 obtain⟨h1,h2,h3,h4,h5,h6⟩:=h
 have c2:=Qcj k.tx (Jf h4.1 (by decide)) tx
 have c3:=Qua k a
 have c4:=QdL k.lk (by omega) tx
 have c5:=QtF tx a
 unfold QHK
 rcases QI k.tx tx with hn | ⟨i,hil,hid,_⟩
 ·rw [hn] at c2
  (unfold Tryz.f167; refine rn trivial ?_)
  refine rn F ?_
  repeat' (first
   | with_reducible exact⟨⟩
   | (refine sB F ?_ ?_<;>intro hZ)
   | (refine Qp (c1) rfl ?_; rintro b hb; refine rn F ?_)
   | refine vp F (c2) ?_)
  all_goals exact⟨rfl,rfl,_,rfl,fun h=>absurd h (by decide)⟩
 rw[hid] at c2
 have hg:=Qeq k.tx i hil
 have hta:=Qee hid
 (unfold Tryz.f167; refine rn trivial ?_)
 have F:=(Ja @hg @Qwt)
 refine rn F ?_
 repeat' (first
  | with_reducible exact⟨⟩
  | (refine sG F ?_ ?_<;>intro hZ)
  | (refine sB F ?_ ?_<;>intro hZ)
  | (refine Qp (c1) rfl ?_; rintro b hb; refine rn F ?_)
  | refine vp F (c2) ?_
  | (refine Qp (c3) rfl ?_; rintro e3 he3; refine rn F ?_)
  | (refine Qp (c4) rfl ?_; rintro⟨w,ws⟩ -; refine rn F ?_)
  | (refine Qp (c5) rfl ?_; rintro⟨g,nd⟩ -; refine rn F ?_))
 all_goals first
  | exact⟨rfl,rfl,_,rfl,fun h=>absurd h (by first | assumption | decide)⟩
  | exact⟨rfl,rfl,0,rfl,fun _=>⟨hb (by assumption),⟨by omega,by rw[hta]; omega⟩,(he3 (by omega)).1,(he3 (by omega)).2⟩⟩
  | skip
def QBW(k:Kn)(h:k.lk.sum<=5000)(tx:Int):VCalls prog 176 [.agg k.d,.int .i64 tx] [] (QL inD fun _=>True):=by
 refine dd Tryz.func176 ?_
 have c1:=QoO k.lk h tx
 (unfold Tryz.f176; refine rn trivial ?_)
 refine rn F ?_
 repeat' (first
  | with_reducible exact⟨⟩
  | (refine Qp (c1) rfl ?_; rintro m -; refine rn F ?_)
  | (refine Qp (Qx8 m) rfl ?_; rintro n -; refine rn F ?_))
 exact⟨rfl,rfl,_,rfl,trivial⟩
def doQ(k:Kn)(a:Ac)(r:Kn×Rs):Prop:=r.1.sm/\(r.2.st=3->r.1.pl=k.pl/\r.2.pg=a.pg/\idF k.pl.fs a.pg<0/\Str 0 k r.1)/\(r.2.st=2->Str 0 k r.1)/\(r.2.st≠3->r.2.st≠2->r.2.st≠5->Str 1 k r.1)
def QpE(k:Kn)(h:k.sm)(a:Ac)(e:Int):doQ k a (k,QaF e):=⟨h,fun h=>by simp[QaF] at h,fun h=>by simp[QaF] at h,fun _ _ h=>absurd rfl h⟩
def QEK(k:Kn)(h:k.sm)(tx:Int)(a:Ac):VCalls prog 118 [.agg k.d,.int .i64 tx,.agg a.d] [] (QL krD (doQ k a)):=by
 refine dk Tryz.func118 ?_
 have h':=h
 have c1:=Qqt k h tx a
 have c2:=Qt4 k h tx
 have c3:=QoL k h tx 1
 obtain⟨h1,h2,h3,h4,h5,h6⟩:=h
 have hsl:=h4.smL (by omega)
 have c4:=QBJ k.tx hsl tx
 have c5:=QB4 k.tx hsl tx a.sl
 have m4:=QxA (l:=k.tx) tx
 have m5:=QzS (l:=k.tx) tx a.sl
 have c6:=QtF tx a
 have c7:=fun g=>Qqs k.lk (by omega) g
 have hK:=fun(u:Lk) (hu:u.sum<=1024)=>(⟨h1,h2,hu,h4,h5,h6⟩:Kn.sm ⟨k.pg,k.nx,k.lg,k.pl,u,k.tx,k.ix,k.la⟩)
 have c8:=fun(u:Lk) (hu:u.sum<=1024) (hv:VK k)=>Qub ⟨k.pg,k.nx,k.lg,k.pl,u,k.tx,k.ix,k.la⟩ (hK u hu) hv tx
 have c9:=fun(u:Lk) (hu:u.sum<=1024)=>Qyb u (by omega) tx
 have c10:=fun(u:Lk) (hu:u.sum<=1024)=>QoL ⟨k.pg,k.nx,k.lg,k.pl,u,k.tx,k.ix,k.la⟩ (hK u hu) tx 4
 (unfold Tryz.f118; refine rn trivial ?_)
 refine Qp c1 rfl ?_
 rintro er her
 by_cases he:er=0
 rotate_left
 ·skip
  have F:=@he
  refine rn F ?_
  repeat' (first
   | with_reducible exact⟨⟩
   | refine vp F (Qak _) ?_
   | (refine Qd (id:=3) [0,1] [⟨[],[],2,[0],[]⟩,⟨[],[],3,[1],[]⟩,⟨[],[],4,[],[]⟩] (by kernel_rfl) (by kernel_rfl) ?_; refine rn F ?_))
  exact⟨rfl,rfl,(k,QaF er),rfl,QpE k h' a er⟩
 obtain⟨hv,⟨hi,hst⟩,hk,hs⟩:=her he
 have hst3:(Qbh k.tx tx).st≠3:=by omega
 subst he
 have F:=trivial
 refine rn F ?_
 repeat' (first
  | with_reducible exact⟨⟩
  | (refine sB F ?_ ?_<;>intro hZ)
  | (refine Qp (c2 hi hst3) rfl ?_; rintro⟨k1,r1⟩ hq; refine rn F ?_)
  | (refine Qp (c3 hi hst3) rfl ?_; rintro⟨k1,r1⟩ hq; refine rn F ?_)
  | refine vp F (c4) ?_
  | refine vp F (c5) ?_
  | refine vp F (Qak _) ?_
  | (refine Qp (c6) rfl ?_; rintro⟨g,nd⟩ -; refine rn F ?_)
  | (refine Qp (c7 ⟨_,_,_,_⟩) rfl ?_; rintro⟨u,hd,e7⟩ hu; refine rn F ?_)
  | (refine Qp (c8 u hu hv hi hst a (hs (by omega))) rfl ?_; rintro⟨k1,r1⟩ hq; refine rn F ?_)
  | (refine Qp (c9 u hu) rfl ?_; rintro cy -; refine rn F ?_)
  | (refine Qp (c10 u hu hi hst3) rfl ?_; rintro⟨k1,r1⟩ hq; refine rn F ?_)
  | (refine Qp (QBW ⟨k.pg,k.nx,k.lg,k.pl,u,k.tx,k.ix,k.la⟩ (Jf hu (by decide)) tx) rfl ?_; rintro n -; refine rn F ?_)
  | (refine Qd (id:=15) [0,1] [⟨[],[],2,[0],[]⟩,⟨[],[],3,[1],[]⟩,⟨[],[],4,[],[]⟩] (by kernel_rfl) (by kernel_rfl) ?_; refine rn F ?_)
  | (refine Qd (id:=21) [0,1] [⟨[],[],2,[0],[]⟩,⟨[],[],3,[1],[]⟩,⟨[],[],4,[],[]⟩] (by kernel_rfl) (by kernel_rfl) ?_; refine rn F ?_)
  | (refine Qd (id:=27) [0,1] [⟨[],[],2,[1],[]⟩,⟨[],[],3,[],[]⟩] (by kernel_rfl) (by kernel_rfl) ?_; refine rn F ?_)
  | (refine Qd (id:=28) [0,1] [⟨[],[],2,[1],[]⟩,⟨[],[],3,[],[]⟩] (by kernel_rfl) (by kernel_rfl) ?_; refine rn F ?_)
  | (refine Qd (id:=32) [0,1] [⟨[],[],2,[1],[]⟩,⟨[],[],3,[],[]⟩] (by kernel_rfl) (by kernel_rfl) ?_; refine rn F ?_)
  | (refine Qd (id:=33) [0,1] [⟨[],[],2,[1],[]⟩,⟨[],[],3,[],[]⟩] (by kernel_rfl) (by kernel_rfl) ?_; refine rn F ?_)
  | (refine Qd (id:=34) [0,1,2] [⟨[],[],3,[0],[4]⟩,⟨[],[],5,[1,2,4],[]⟩,⟨[],[],6,[],[]⟩] (by kernel_rfl) (by kernel_rfl) ?_; refine rn F ?_))
 all_goals first
  | exact⟨rfl,rfl,(k,QaF _),rfl,QpE k h' a _⟩
  | exact⟨rfl,rfl,(⟨k.pg,k.nx,k.lg,k.pl,k.lk,(Qib k.tx tx).1,k.ix,k.la⟩,⟨1,0,0,Ce0,0⟩),rfl,⟨h1,h2,h3,m4,h5,h6⟩,fun h=>by simp at h,fun h=>by simp at h,fun _ _ _=>(Str.one (.save tx (by omega))).mono (by omega)⟩
  | exact⟨rfl,rfl,(⟨k.pg,k.nx,k.lg,k.pl,k.lk,(Qir k.tx tx a.sl).1,k.ix,k.la⟩,⟨1,0,0,Ce0,0⟩),rfl,⟨h1,h2,h3,m5,h5,h6⟩,fun h=>by simp at h,fun h=>by simp at h,fun _ _ _=>(Str.one (.back tx a.sl (by omega))).mono (by omega)⟩
  | exact⟨rfl,rfl,(⟨k.pg,k.nx,k.lg,k.pl,u,k.tx,k.ix,k.la⟩,⟨2,n,0,Ce0,0⟩),rfl,hK u hu,fun h=>by simp at h,fun _=>Str.one (.lock u),fun _ h=>absurd rfl h⟩
  | exact⟨rfl,rfl,(k1,r1),rfl,hq.1,fun h=>by have:=hq.2.1; dsimp only at this h; omega,fun h=>by have:=hq.2.1; dsimp only at this h; omega,fun _ _ h=>(hq.2.2 h).mono (by omega)⟩
  | exact⟨rfl,rfl,(k1,r1),rfl,hq.1,fun h=>by have:=hq.2.1; dsimp only at this h; omega,fun h=>by have:=hq.2.1; dsimp only at this h; omega,fun _ _ h=>(Str.one (.lock u)).tr0 ((hq.2.2 h).mono (by omega))⟩
  | exact⟨rfl,rfl,(k1,r1),rfl,hq.1,fun h=>⟨Eq.trans (congrArg Kn.pl (hq.2.1 h).1) rfl,(hq.2.1 h).2.1,(hq.2.1 h).2.2,by have q:=(hq.2.1 h).1; dsimp only at q; subst q; exact Str.one (.lock u)⟩,fun h=>by have:=hq.2.2.1; dsimp only at this h; omega,fun a1 a2 a3=>(Str.one (.lock u)).tr0 (hq.2.2.2 (by have:=hq.2.2.1; dsimp only at this a1 a3 |-; omega))⟩
  | exact⟨rfl,rfl,(k,r1),rfl,h',fun h=>by dsimp only at h; omega,fun h=>by dsimp only at h; omega,fun _ _ h=>by dsimp only at h; omega⟩
  | skip
section
attribute [local go_sem] Qbm
def Qpl(h:∃ i,i<l.length/\a=(l.getD i Fm0).pg.id):∃ j:Nat,j<l.length/\idF l a=j/\(l.getD j Fm0).pg.id=a:=by
 obtain⟨i,hi,ha⟩:=h
 rcases Qa6 l a with hn | ⟨j,hj,h1,h2⟩
 ·unfold idF QgA at hn
  rw[if_pos (JN.2 ⟨l[i],J6 hi,by rw[ha,Qf l i hi]; simp⟩)] at hn
  omega
 ·exact⟨j,hj,h1,h2⟩
def QvN(p:Pl)(a:Int)(h:p.fs.length<=64):(Qd6 p a).1.fs.length<=64:=by
 unfold Qd6
 repeat' split
 all_goals first
  | exact Jl _
  | (simp only[Jb,Jn,Jx]; omega)
def Qzr(hp:plB p=true)(hi:0<=idF p.fs a)(hd:¬ (p.fs.getD (idF p.fs a).toNat Fm0).dirty=true):(Qd6 p a).2=0:=by
 unfold Qd6
 rw[if_neg (by rw[hp]; decide),if_neg (by omega),if_neg hd]
@[go_sem] def QGW(a:Kn×Pg×Bool×Int):DV:=.tup [.agg a.1.d,.agg a.2.1.d,.bool a.2.2.1,.int .i64 a.2.2.2]
def QGV(k:Kn)(a:Kn×Pg×Bool×Int):Prop:=a.1.sm/\(a.2.2.2=0->Str 0 k a.1/\a.1.tx=k.tx/\(a.2.2.1=true->plB a.1.pl=true/\SameF k.pl.fs a.1.pl.fs/\∃ i,i<a.1.pl.fs.length/\idF a.1.pl.fs a.2.1.id=i/\(a.1.pl.fs.getD i Fm0).pg=a.2.1/\(a.1.pl.fs.getD i Fm0).dirty=true))
def QBK(k:Kn)(h:k.sm):VCalls prog 154 [.agg k.d] [] (QL QGW (QGV k)):=by
 refine dk Tryz.func154 ?_
 have h':=h
 have c1:=Qa2 k h
 obtain⟨h1,h2,h3,h4,h5,h6⟩:=h
 have c2:=QBM k.pl (by omega)
 (unfold Tryz.f154; refine rn trivial ?_)
 refine Qp c1 rfl ?_
 rintro b hb
 cases b
 ·skip
  refine rn F ?_
  exact⟨rfl,rfl,(Kn0,Pg0,false,15),rfl,Qcb,fun h=>by simp at h⟩
 have hv:=hb rfl
 obtain⟨v1,v2,v3,v4,v5,v6,v7⟩:=hb rfl
 have hd:=QlA v4
 simp only[Pl.hd] at hd
 refine rn F ?_
 repeat' (first
  | with_reducible exact⟨⟩
  | (refine sB F ?_ ?_<;>intro hZ))
 ·exact⟨rfl,rfl,(k,Pg0,false,0),rfl,h',fun _=>⟨Str.refl _,rfl,fun h=>by simp at h⟩⟩
 refine Qp c2 rfl ?_
 rintro⟨p,id,e⟩ ⟨w1,w2,w3⟩
 obtain rfl:e=0:=w2 v4 (by omega)
 obtain⟨_,w4,w5,w6,w7⟩:=w1 rfl
 obtain⟨i,hi,hid,hix⟩:=Qpl w7
 dsimp only at w3 w4 w5 w6 hi hid hix
 have c3:=QcR p (by omega) id
 have hf:Qbw p id=i:=by unfold Qbw; rw[if_pos w4]; exact hid
 rw[hf] at c3
 have hg:=Qcg p.fs i hi
 have c4:=QxQ p (by omega) id
 have hdl:=QvN p id (by omega)
 have hdo:=fun hd=>Qzr (p:=p) (a:=id) w4 (by rw[hid]; omega) hd
 rw[hid,Jr] at hdo
 have hsm:∀ q:Pl,q.fs.length<=64->(⟨k.pg,k.nx,k.lg,q,k.lk,k.tx,k.ix,k.la⟩:Kn).sm:=fun q hq=>⟨h1,hq,h3,h4,h5,h6⟩
 have c5:=QeM ⟨k.pg,k.nx,k.lg,p,k.lk,k.tx,k.ix,k.la⟩ (hsm p (by omega))
 generalize hff:p.fs.getD i Fm0=f at *
 have F:=@hg
 refine rn F ?_
 repeat' (first
  | with_reducible exact⟨⟩
  | (refine sB F ?_ ?_<;>intro hZ)
  | refine vp F (c3) ?_
  | refine vp F (c4) ?_
  | (refine Qp (c5 _) rfl ?_; rintro d hd2; refine rn F ?_)
  | (refine Qd (id:=7) [0,1,2,3] [⟨[7],[],4,[0,1],[5,6]⟩,⟨[7],[7],8,[],[]⟩] (by kernel_rfl) (by kernel_rfl) ?_; refine rn F ?_)
  | (refine Qd (id:=11) [0,1,2,3,5,6] [⟨[],[],4,[1,2,5,6],[]⟩,⟨[],[],7,[5,6],[]⟩,⟨[],[],8,[],[]⟩,⟨[],[],9,[],[]⟩,⟨[],[],10,[],[]⟩] (by kernel_rfl) (by kernel_rfl) ?_; refine rn F ?_))
 ·exact⟨rfl,rfl,(⟨k.pg,k.nx,k.lg,(Qd6 p id).1,k.lk,k.tx,k.ix,k.la⟩,Pg0,false,0),rfl,hsm _ hdl,fun _=>⟨(Str.one (.pool p w5)).step (.drop id (hdo (by first | assumption | simp_all))),rfl,fun h=>by simp at h⟩⟩
 ·exact⟨rfl,rfl,(⟨k.pg,k.nx,⟨k.lg.f,k.lg.es,d⟩,p,k.lk,k.tx,k.ix,k.la⟩,f.pg,true,0),rfl,⟨h1,by dsimp only; omega,h3,h4,h5,h6⟩,fun _=>⟨(Str.one (.pool p w5)).step (.force d hd2),rfl,fun _=>⟨w4,w5,i,hi,by dsimp only; rw[hix]; exact hid,by dsimp only; rw[hff],by dsimp only; rw[hff]; first | assumption | simp_all⟩⟩⟩
@[go_sem] def QFF(a:Kn×Pg×Int):DV:=.tup [.agg a.1.d,.agg a.2.1.d,.int .i64 a.2.2]
def QAv(k:Kn)(n:Int)(a:Kn×Pg×Int):Prop:=a.1.sm/\(a.2.2=0->Str 0 k a.1/\0<=Qbw k.pl n/\a.2.1=(Qe4 k.pl n).1/\a.1.pl=k.pl/\a.1.tx=k.tx)
def Qx7(k:Kn)(h:k.sm)(n:Int):VCalls prog 63 [.agg k.d,.int .i64 n] [] (QL QFF (QAv k n)):=by
 refine dk Tryz.func63 ?_
 have c1:=Qa2 k h
 have h':=h
 obtain⟨h1,h2,h3,h4,h5,h6⟩:=h
 have c2:=Qha k.pl (by omega) n
 have c3:=QeM k h'
 have hz:(Qe4 k.pl n).2=true->0<=Qbw k.pl n:=fun h=>by
  unfold Qe4 at h
  split at h
  ·simp at h
  ·omega
 unfold QAv
 generalize Qe4 k.pl n=g at *
 (unfold Tryz.f63; refine rn trivial ?_)
 refine rn F ?_
 repeat' (first
  | with_reducible exact⟨⟩
  | (refine sB F ?_ ?_<;>intro hZ)
  | (refine Qp (c1) rfl ?_; rintro b -; refine rn F ?_)
  | refine vp F (c2) ?_
  | (refine Qp (c3 _) rfl ?_; rintro d hd; refine rn F ?_)
  | (refine Qd (id:=6) [0,1,2,4] [⟨[],[],3,[1,4],[]⟩,⟨[],[],5,[4],[]⟩,⟨[],[],6,[],[]⟩,⟨[],[],7,[],[]⟩] (by kernel_rfl) (by kernel_rfl) ?_; refine rn F ?_))
 all_goals first
  | exact⟨rfl,rfl,(Kn0,Pg0,15),rfl,Qcb,fun h=>by simp at h⟩
  | exact⟨rfl,rfl,(Kn0,Pg0,18),rfl,Qcb,fun h=>by simp at h⟩
  | exact⟨rfl,rfl,(⟨k.pg,k.nx,⟨k.lg.f,k.lg.es,d⟩,k.pl,k.lk,k.tx,k.ix,k.la⟩,g.1,0),rfl,⟨h1,h2,h3,h4,h5,h6⟩,fun _=>⟨Str.one (.force d hd),hz (by first | assumption | simp_all),rfl,rfl,rfl⟩⟩
  | skip
def Qrl(p:Pl)(a n:Int)(h:p.fs.length<=64):(QaV p a n).1.fs.length<=64:=by
 unfold QaV
 repeat' split
 all_goals first | exact Jl _ | exact h | simpa using h
def QHB(id n:Int):E:=⟨0,7,0,0,0,n,⟨id,0,Ce0,Ce0⟩,[]⟩
def QwM(k:Kn)(id n:Int)(a:Kn×Int):Prop:=a.1.sm/\(a.2=0->∃ e',AddOk k (QHB id n) e'/\a.1.tx=k.tx/\(0<=Qbw k.pl id->a.1=k.wrt e'/\(QaV k.pl id n).2=0))
def Qqn (k:Kn) (h:k.sm) (id n:Int):VCalls prog 93 [.agg k.d,.int .i64 id,.int .i64 n] [] (QL kiD (QwM k id n)):=by
 refine dk Tryz.func93 ?_
 have c1:=Qa2 k h
 have h':=h
 obtain⟨h1,h2,h3,h4,h5,h6⟩:=h
 have c2:=Qgq k.lg (by omega)
 have c3:=QcR k.pl (by omega) id
 have c4:=fun(h:n<=1099511627776) (h0:0<=n)=>Qtx k.pl (by omega) id n h h0
 have c5:=Qel k h' ⟨0,7,0,0,0,n,⟨id,0,Ce0,Ce0⟩,[]⟩
 have hcl:=Qrl k.pl id n h2
 (unfold Tryz.f93; refine rn trivial ?_)
 refine Qp c1 rfl ?_
 rintro b hb
 cases b
 ·skip
  refine rn F ?_
  exact⟨rfl,rfl,(Kn0,15),rfl,Qcb,fun h=>by simp at h⟩
 have hv:=hb rfl
 have hls:Qht k.lg<=1099511627776:=by
  unfold Qht; rw[if_pos hv.2.2.1]; exact QuR hv.2.2.1
 refine rn F ?_
 repeat' (first
  | with_reducible exact⟨⟩
  | (refine sG F ?_ ?_<;>intro hZ)
  | (refine sB F ?_ ?_<;>intro hZ)
  | refine vp F (c2) ?_
  | refine vp F (c3) ?_
  | refine vp F (c4 (by omega) (by omega)) ?_
  | (refine Qp (c5) rfl ?_; rintro⟨k1,n1,e1⟩ hq; refine rn F ?_))
 all_goals first
  | exact⟨rfl,rfl,(Kn0,1),rfl,Qcb,fun h=>by simp at h⟩
  | exact⟨rfl,rfl,(Kn0,(QaV k.pl id n).2),rfl,Qcb,fun h=>absurd h (by assumption)⟩
  | exact⟨rfl,rfl,(Kn0,e1),rfl,Qcb,fun h=>absurd h (by assumption)⟩
  | (have he1:e1 = 0:=by omega
     obtain⟨e',ha,hk1,hn1,hl1⟩:=hq.2 he1
     have q8:=Qww hq he1 rfl
     obtain⟨r1,r2,r3,r4,r5,r6⟩:=hq.1
     first
      | exact⟨rfl,rfl,(⟨k1.pg,k1.nx,k1.lg,(QaV k.pl id n).1,k1.lk,k1.tx,k1.ix,k1.la⟩,0),rfl,⟨r1,hcl,r3,r4,r5,r6⟩,fun _=>⟨e',ha,q8,fun _=>⟨by dsimp only at hk1; subst hk1; unfold Kn.wrt; rw[ha.2.1.2.2.2.1,ha.2.1.2.2.1]; rfl,by omega⟩⟩⟩
      | exact⟨rfl,rfl,(⟨k1.pg,k1.nx,k1.lg,k.pl,k1.lk,k1.tx,k1.ix,k1.la⟩,0),rfl,⟨r1,h2,r3,r4,r5,r6⟩,fun _=>⟨e',ha,q8,fun h=>by omega⟩⟩)
  | skip
end
section
attribute [local go_sem] Qbm
def Que(h:(QoZ p x).2=0):plB p=true/\QaW x=0/\idF p.fs x.id<0/\¬ (p.fs.length:Int)=p.size:=by
 unfold QoZ at h
 split at h
 ·simp at h
 rename_i q1
 split at h
 ·rename_i q2; exact absurd h q2
 rename_i q2
 split at h
 ·simp at h
 rename_i q3
 split at h
 ·simp at h
 rename_i q4
 exact⟨by simpa using q1,by simpa using q2,by omega,q4⟩
def QGu(p:Pl)(x:Pg)(o:Nat):Qb:=[⟨29,true,[.int .i64 p.size,.own (o+5) 37 0 (p.fs.length+1),.int .i64 p.hand]⟩,⟨155,true,x.d⟩,⟨29,true,[.int .i64 p.size,.own (o+5) 37 0 (p.fs.length+1),.int .i64 p.hand]⟩,⟨159,false,[]⟩,⟨159,true,Fm.d ⟨x,false,0,true⟩⟩,⟨159,true,cells QcM (p.fs++[⟨x,false,0,true⟩])⟩]
def QBQ(p:Pl)(hl:p.fs.length<=100000)(x:Pg)(h:(QoZ p x).2=0):VCalls prog 158 [.agg p.d,.agg x.d] [] fun r h'=>r=.tup [.agg [.int .i64 p.size,.own 5 37 0 (p.fs.length+1),.int .i64 p.hand],.int .i64 0]/\h'=QGu p x 0:=by
 refine Qbf (fn:=Tryz.f158) Tryz.func158 rfl (by kernel_rfl) (by simp[Tryz.f158]) ?_
 obtain⟨e1,e2,e3,e4⟩:=Que h
 have c1:=Qas p (by omega)
 have c2:=QdP x
 have c3:=QcT p (by omega) x.id
 rw[e1] at c1
 rw[e2] at c2
 have e5:¬ 0<=idF p.fs x.id:=by omega
 generalize idF p.fs x.id=m at *
 (unfold Tryz.f158; refine rn trivial ?_)
 have F:=(Ja @e5 @e4)
 refine rn F ?_
 repeat' (first
  | with_reducible exact⟨⟩
  | refine vp F (c1) ?_
  | refine vp F (c2) ?_
  | refine vp F (c3) ?_
  | (refine Qd (id:=10) [0,1,3,4] [⟨[5],[],2,[0,3,4],[]⟩,⟨[5],[5],6,[0,1,3,4],[7]⟩,⟨[],[],8,[],[]⟩] (by kernel_rfl) (by kernel_rfl) ?_; refine rn F ?_))
 all_goals rfl
def Qi9(hp h':Qb):Q0 hp [] h'=hp++h'.map (Qc5 (back [] hp.length)):=by
 unfold Q0
 congr 1
 apply List.ext_getElem?
 intro k
 rw[J2]
 by_cases hk:k<hp.length
 ·rw [JV hk]
  simp[List.getElem?_eq_getElem hk]
 ·rw [JS (l:=Jm hp.length) (by simpa using hk),JS (l:=hp) (by omega)]
  rfl
def QEk(p:Pl)(hl:p.fs.length<=100000)(x:Pg)(hz:(QoZ p x).2=0)(h:K (.tup [.agg [.int .i64 p.size,.own (hp.length+5) 37 0 (p.fs.length+1),.int .i64 p.hand],.int .i64 0]) (hp++QGu p x hp.length)):VCalls prog 158 [.agg p.d,.agg x.d] hp K:=by
 refine(VCalls.frame [] List.nodup_nil rfl rfl (QBQ p hl x hz) rfl rfl).mono ?_
 rintro r h2 ⟨r0,h',⟨rfl,rfl⟩,-,rfl,rfl⟩
 rw[Qi9]
 have e1:Qc5 (back [] hp.length) ⟨155,true,x.d⟩=⟨155,true,x.d⟩:=QaT rfl
 have e2:Qc5 (back [] hp.length) ⟨159,true,Fm.d ⟨x,false,0,true⟩⟩=⟨159,true,Fm.d ⟨x,false,0,true⟩⟩:=QaT rfl
 have e3:Qc5 (back [] hp.length) ⟨159,true,cells QcM (p.fs++[⟨x,false,0,true⟩])⟩=⟨159,true,cells QcM (p.fs++[⟨x,false,0,true⟩])⟩:=QaT (Qw _ _ _)
 simp only[QGu,JK,List.map_nil,e1,e2,e3] at h |-
 exact h
def QEC(l:List Fm)(f:Fm)(b:Bool):(cells QcM (l++[f])).set (l.length*37+34) (.pv (.lit (.bool b)))=cells QcM (l++[⟨f.pg,b,f.rc,f.used⟩]):=by
 rw[<- Qwq,<- Qwq,<- QGw l,JT _ _ (J7 _ _),JL]; rfl
def QEB(l:List Fm)(f:Fm)(n:Int):(cells QcM (l++[f])).set (l.length*37+35) (.pv (.lit (.int .i64 n)))=cells QcM (l++[⟨f.pg,f.dirty,n,f.used⟩]):=by
 rw[<- Qwq,<- Qwq,<- QGw l,JT _ _ (J7 _ _),JL]; rfl
def QIc(k:Kn)(x:Pg)(a:Kn×Int):Prop:=a.1.sm/\(a.2=0->Str 0 k a.1/\a.1.lg=k.lg/\a.1.tx=k.tx/\0<=idF a.1.pl.fs x.id)
def QGM(c:VCalls P g args hp (QL f Q))(h:∀ a,Q a->f a=d):VCalls P g args hp (Ret d):=
 c.mono fun _ _ ⟨h1,h2,a,e,q⟩=>⟨h1,h2,e.trans (h a q)⟩
def flY(l:List Dt)(n:Int)(i:Nat):List Dt:=(l.take i).filter fun d=>decide (d.pg≠n)
def Qzi(l:List Dt)(n:Int)(i:Nat)(h:i<l.length):flY l n (i+1)=if (l.getD i Dt0).pg=n then flY l n i else flY l n i++[l.getD i Dt0]:=by
 unfold flY
 rw[JC h,List.filter_append,Qf l i h]
 split<;>rename_i hx<;>simp[hx]
def QDb(l:List Dt)(n:Int)(i:Nat):(flY l n i).length<=i:=Jf (JR _ _) (by rw[Jn]; omega)
def Qy1(l:List Fm)(f:Fm):0<=idF (l++[f]) f.pg.id:=by
 obtain⟨j,_,h,_⟩:=Qpl (l:=l++[f]) (a:=f.pg.id) ⟨l.length,by simp,by rw[Ji,Jz (Jt _),J4]; rfl⟩
 omega
def Qto (k:Kn) (h:k.sm) (x:Pg):VCalls prog 108 [.agg k.d,.agg x.d] [] (QL kiD (QIc k x)):=by
 refine dk Tryz.func108 ?_
 have h':=h
 have c1:=QbX k h
 have c2:=QGM (d:=.int .i64 (QfI k x.id)) (QnB k h x.id) fun a q=>by rw[q]; rfl
 obtain⟨h1,h2,h3,h4,h5,h6⟩:=h
 have c3:=QBP k.pl (by omega) x
 have c4:=Qgp k (by omega) x.id
 (unfold Tryz.f108; refine rn trivial ?_)
 cases hv:kB k
 ·rw [hv] at c1
  refine rn F ?_
  repeat' (first
   | with_reducible exact⟨⟩
   | refine vp F (c1) ?_)
  exact⟨rfl,rfl,(Kn0,_),rfl,Qcb,fun h=>by simp at h⟩
 rw[hv] at c1
 refine rn F ?_
 repeat' (first
  | with_reducible exact⟨⟩
  | (refine sG F ?_ ?_<;>intro hZ)
  | (refine sB F ?_ ?_<;>intro hZ)
  | refine vp F (c1) ?_
  | refine vp F (c2) ?_
  | (refine Qd (id:=5) [0,1,2,3,4] [⟨[],[],5,[0,1,3],[6]⟩,⟨[],[],7,[0,1,2,3,4],[]⟩] (by kernel_rfl) (by kernel_rfl) ?_; refine rn F ?_)
  | (refine Qd (id:=7) [0,1,2,3,4] [⟨[],[],5,[0,1,3],[6]⟩,⟨[],[],7,[0,1,2,3,4],[]⟩] (by kernel_rfl) (by kernel_rfl) ?_; refine rn F ?_))
 all_goals first
  | exact⟨rfl,rfl,(Kn0,_),rfl,Qcb,fun h=>by simp at h⟩
  | skip
 have hpe:(QoZ k.pl x).2≠0->(QoZ k.pl x).1=Pl0:=fun h=>by
  unfold QoZ at h |-
  repeat' split
  all_goals first | rfl | simp_all
 by_cases hz:(QoZ k.pl x).2=0
 rotate_left
 ·rw [hpe hz] at c3
  have F:=@hz
  refine rn F ?_
  repeat' (first
   | with_reducible exact⟨⟩
   | refine vp F (c3) ?_)
  exact⟨rfl,rfl,(Kn0,_),rfl,Qcb,fun h=>absurd h hz⟩
 refine QEk k.pl (by omega) x hz ?_
 obtain⟨p1,p2,p3,p4⟩:=Que hz
 have hd:=QlA p1
 simp only[Pl.hd] at hd
 unfold QGu
 have s34:=QEC k.pl.fs
 have s35:=QEB k.pl.fs
 have hi0:=Qy1 k.pl.fs
 have hnn:k.pl.fs.length+1-1=k.pl.fs.length:=by omega
 have h34:(k.pl.fs.length*37+34<(k.pl.fs.length+1)*37)=True:=eq_true (by omega)
 have h35:(k.pl.fs.length*37+35<(k.pl.fs.length+1)*37)=True:=eq_true (by omega)
 have F:=(Ja @s34 (Ja @s35 (Ja @hnn (Ja @h34 @h35))))
 refine rn F ?_
 repeat' (first
  | with_reducible exact⟨⟩
  | (refine sB F ?_ ?_<;>intro hZ)
  | (refine Qp (c4) rfl ?_; rintro⟨d,b2⟩ hdl; refine rn F ?_))
 rotate_left
 ·exact⟨rfl,rfl,(⟨k.pg,k.nx,k.lg,⟨k.pl.size,k.pl.fs++[⟨x,false,0,true⟩],k.pl.hand⟩,k.lk,k.tx,k.ix,k.la⟩,0),rfl,⟨h1,by simp; omega,h3,h4,h5,h6⟩,fun _=>⟨Str.one (.put x hv ⟨by omega,by omega⟩ (by omega) hz (by rw[<- hdl]; first | assumption | simp_all)),rfl,rfl,hi0 ⟨x,false,0,true⟩⟩⟩
 have hd1:(Qbl k.la x.id).1=d:=by rw[<- hdl]
 have hb2:(Qbl k.la x.id).2=true:=by rw[<- hdl]; first | assumption | simp_all
 have hst:=Stp.putl (k:=k) x hv ⟨by omega,by omega⟩ (by omega) hz hb2
 rw[hd1] at hst
 refine VLoop.nilOwn 10 167 3 rfl ?_
 refine rn trivial ?_
 refine Qj (fun s:To k.la.length=>⟨113,0,[(11,.int .i64 s.i),(10,.own 5 3 0 (flY k.la x.id s.i).length),(6,.ptr 4 0),(4,.ptr 2 0),(3,.ptr 1 0),(2,.ptr 0 0)],
  [⟨39,true,k.d⟩,⟨155,true,x.d⟩,⟨39,true,[.int .i64 0,.int .i64 0,.int .i64 0,.pv (.slc []),.int .i64 0,.int .i64 0,.pv (.slc []),.int .i64 0,.pv (.slc []),.pv (.slc []),.pv (.slc []),.pv (.slc []),.pv (.slc [])]⟩,⟨159,true,cells QcM (k.pl.fs++[⟨x,true,d.rc,true⟩])⟩,⟨29,true,[.int .i64 k.pl.size,.own 3 37 0 (k.pl.fs.length+1),.int .i64 k.pl.hand]⟩,⟨167,true,cells Qc6 (flY k.la x.id s.i)⟩]⟩) (fun s=>k.la.length-s.i) ⟨0,Jl _⟩ (gc [0,1,2,8,9,11]) ?_
 rintro⟨i,hi⟩
 dsimp only
 have hsu:=Qzi k.la x.id i
 have ho:=QDb k.la x.id i
 have hfin:k.la.length<=i->flY k.la x.id i=k.la.filter fun d=>decide (d.pg≠x.id):=fun h=>by unfold flY; rw[JO h]
 generalize hout:flY k.la x.id i=out at *
 have hy:=fun h:i<k.la.length=>Qe5 k.la i h
 have hb:(out.length+1)*24<=140737488355328:=by omega
 have F:=(Ja @hy @hb)
 refine rn F ?_
 repeat' (first
  | with_reducible exact⟨⟩
  | (refine sB F ?_ ?_<;>intro hZ)
  | (refine Qd (id:=20) [0,1,2,3,4,5,6,7,8] [] (by kernel_rfl) (by kernel_rfl) ?_; refine rn F ?_))
 all_goals first
  | (have e1:=hsu (by omega)
     rw[if_pos (by first | assumption | omega)] at e1
     refine⟨⟨i+1,by omega⟩,by dsimp only; omega,?_⟩
     dsimp only
     rw[e1]
     exact(gc [0,1,2,3,4,5]))
  | (have e1:=hsu (by omega)
     rw[if_neg (by first | assumption | omega)] at e1
     refine⟨⟨i+1,by omega⟩,by dsimp only; omega,?_⟩
     dsimp only
     rw[e1,Jb]
     exact(gc [0,1,2,3,4,7]))
  | (have e1:=hfin (by omega)
     rw[<- e1] at hst
     exact⟨rfl,rfl,(⟨k.pg,k.nx,k.lg,⟨k.pl.size,k.pl.fs++[⟨x,true,d.rc,true⟩],k.pl.hand⟩,k.lk,k.tx,k.ix,out⟩,0),rfl,⟨h1,by simp; omega,h3,h4,h5,by dsimp only; omega⟩,fun _=>⟨Str.one hst,rfl,rfl,hi0 ⟨x,true,d.rc,true⟩⟩⟩)
  | skip
end
def QHN(l:List (List UInt8)):(cells QdX l).length=l.length*1:=QJ QdX l
def QIH(l:List (List UInt8))(n:Nat)(h:l.length*1<=n):(cells QdX l).take n=cells QdX l:=by rw[JO]; rw[QHN]; exact h
def QId(l:List (List UInt8)):(fz QdX l=[]\/(fz QdX l)[0]?.map Ki=some 1)=True:=Qhz QdX l
def QIt(h:l.length=len):QgF n hp 0 1 len (some (cells QdX l))=some (.sl (fz QdX l)):=QX QdX h
attribute [go_sem] QHN QIH QId QIt
def QAr(l:List (List UInt8))(i:Nat)(h:i<l.length):(fz QdX l)[i]?=some [.str (l.getD i [])]:=Qb5 QdX l [] i h
def QHs(l:List (List UInt8))(x:List UInt8):cells QdX l++[.pv (.str x)]=cells QdX (l++[x]):=by rw[QA]; rfl
def QH3(l:List (List UInt8)):DV.wk.go (cells QdX l)=cells QdX l:=Qbo QdX l fun a p hp=>by
 simp[QdX] at hp; subst hp; rfl
attribute [go_sem] QHs QH3
structure Dv where
 ps:List (List UInt8)
 wr:Int
 dead:Bool
@[go_sem] def Dv.d(v:Dv):List DV:=[.pv (.sl (fz QdX v.ps)),.int .i64 v.wr,.pv (.sl []),.bool v.dead,.pv (.sl [])]
def Dv0:Dv:=⟨[],0,false⟩
def QH0(v:Dv):Prop:=(1<=v.ps.length/\v.ps.length<=64)/\(0<=v.wr/\v.wr<=1099511627776)/\∀ i,i<v.ps.length->(v.ps.getD i []).length=256
def QtY(v:Dv)(hl:v.ps.length<=100000):VCalls prog 181 [.agg v.d] [] (QL boD fun b=>b=true->QH0 v):=by
 refine dd Tryz.func181 ?_
 (unfold Tryz.f181; refine rn trivial ?_)
 refine rn F ?_
 repeat' (first
  | with_reducible exact⟨⟩
  | (refine sG F ?_ ?_<;>intro hZ))
 all_goals first
  | exact⟨rfl,rfl,false,rfl,fun h=>by cases h⟩
  | skip
 refine Qj (fun s:Okay v.ps.length (fun i=>decide ((v.ps.getD i []).length=256))=>⟨99,0,[(4,.int .i64 s.i),(3,.int .i64 v.ps.length),(1,.ptr 0 0)],[⟨66,true,v.d⟩]⟩) (fun s=>v.ps.length-s.i) (Okay.start _ _) (gc [0]) ?_
 intro s
 have hsi:=s.hi
 have hg:=fun h:s.i<v.ps.length=>QAr v.ps s.i h
 have F:=@hg
 refine rn F ?_
 repeat' (first
  | with_reducible exact⟨⟩
  | (refine sB F ?_ ?_<;>intro hZ))
 all_goals first
  | exact⟨rfl,rfl,false,rfl,fun h=>by cases h⟩
  | exact⟨s.next (by omega) (decide_eq_true (by omega)),s.dec (by omega),(gc [0])⟩
  | skip
 have hall:=s.all (by omega)
 simp only[JG,JD,decide_eq_true_eq] at hall
 refine Qj (fun s:Unit=>⟨99,0,[(5,.int .i64 0),(3,.int .i64 v.ps.length),(1,.ptr 0 0)],[⟨66,true,v.d⟩]⟩) (fun s=>0) () (gc [0]) ?_
 intro _
 have F:=trivial
 refine rn F ?_
 refine Qj (fun s:Unit=>⟨99,0,[(6,.int .i64 0),(1,.ptr 0 0)],[⟨66,true,v.d⟩]⟩) (fun s=>0) () (gc [0]) ?_
 intro _
 have F:=trivial
 refine rn F ?_
 exact⟨rfl,rfl,true,rfl,fun _=>⟨⟨by omega,by omega⟩,⟨by omega,by omega⟩,fun i hi=>hall i hi⟩⟩
def usQ(v:Dv)(n e:Int):Prop:=e=0->QH0 v/\0<=n/\n<v.ps.length
def Qg8(v:Dv)(hl:v.ps.length<=100000)(n:Int):VCalls prog 129 [.agg v.d,.int .i64 n] [] (QL inD (usQ v n)):=by
 refine dd Tryz.func129 ?_
 have c1:=QtY v hl
 unfold usQ
 (unfold Tryz.f129; refine rn trivial ?_)
 refine rn F ?_
 repeat' (first
  | with_reducible exact⟨⟩
  | (refine sG F ?_ ?_<;>intro hZ)
  | (refine sB F ?_ ?_<;>intro hZ)
  | (refine Qp (c1) rfl ?_; rintro b hb; refine rn F ?_))
 all_goals first
  | exact⟨rfl,rfl,_,rfl,fun h=>absurd h (by decide)⟩
  | exact⟨rfl,rfl,0,rfl,fun _=>⟨hb (by assumption),by omega,by omega⟩⟩
  | skip
def QEN(n:Int):VCalls prog 155 [.pv (.sl []),.int .i64 n] [] (Ret (.bool false)):=by
 refine dd Tryz.func155 ?_
 (unfold Tryz.f155; refine rn trivial ?_)
 refine Qj (fun s:Unit=>⟨18,0,[(5,.int .i64 0),(1,.int .i64 n),(0,.pv (.sl []))],[]⟩) (fun s=>0) () (gc []) ?_
 intro _
 (refine rn F ?_; try with_reducible exact⟨⟩)
def Qqo(n:Int):VCalls prog 182 [.pv (.sl []),.int .i64 n] [] (Ret (.pv (.sl []))):=by
 refine dk Tryz.func182 ?_
 (unfold Tryz.f182; refine rn trivial ?_)
 refine VLoop.wkS ?_
 refine rn trivial ?_
 refine Qj (fun s:Unit=>⟨27,0,[(6,.int .i64 0),(5,.pv (.sl [])),(1,.int .i64 n),(0,.pv (.sl []))],[]⟩) (fun s=>0) () (gc []) ?_
 intro _
 (refine rn F ?_; try with_reducible exact⟨⟩)
@[go_sem] def siD(a:List UInt8×Int):DV:=.tup [.pv (.str a.1),.int .i64 a.2]
def Qx9(v:Dv)(hl:v.ps.length<=100000)(n:Int):VCalls prog 104 [.agg v.d,.int .i64 n] [] (QL siD fun a=>a.2=0->a.1.length=256):=by
 refine dd Tryz.func104 ?_
 have c1:=Qg8 v hl n
 have c2:=QEN n
 (unfold Tryz.f104; refine rn trivial ?_)
 have hg:=fun h:n.toNat<v.ps.length=>QAr v.ps n.toNat h
 refine Qp c1 rfl ?_
 rintro e he
 by_cases h0:e=0
 ·obtain ⟨q1,q2,q3⟩:=he h0
  subst h0
  have F:=@hg
  refine rn F ?_
  repeat' (first
   | with_reducible exact⟨⟩
   | refine vp F (c2) ?_)
  exact⟨rfl,rfl,(v.ps.getD n.toNat [],0),rfl,fun _=>q1.2.2 _ (by omega)⟩
 ·skip
  have F:=@h0
  refine rn F ?_
  exact⟨rfl,rfl,([],e),rfl,fun h=>absurd h h0⟩
end Go.Proofs.YtomgpphpkcoolaaGreat
