/-
  Contracts of functions and plain laws. No condition.
-/
import Derived.Test.YtdkdbodcffiiaaaGreatP1
import Derived.Test.YtdkdbodcffiiaaaGreatV3
set_option linter.unusedSimpArgs false
set_option linter.unusedVariables false
set_option linter.defProp false
set_option maxRecDepth 100000
set_option maxHeartbeats 8000000
set_option autoImplicit true
set_option relaxedAutoImplicit true
open And renaming intro->Ja
open Bool renaming and_eq_true->Jl,beq_eq_decide_eq->Jn,false_or->JE,true_or->JI,or_eq_true->JR,and_assoc->JU,not_eq_false'->JY,false_eq_true->JZ,true_eq_false->J0,not_eq_true'->J4,eq_iff_iff->Kc,and_comm->Kf,or_assoc->Kg,true_and->Kh
open Int renaming toNat_natCast->Jz
open List renaming length_append->Jb,length_nil->Jc,length_cons->Jd,getElem?_append_left->Je,getD_eq_getElem?_getD->Jh,not_mem_nil->Ji,mem_cons->Jj,append_assoc->Jk,mem_append_right->Jm,length_take->Jo,mem_append->Jp,mem_append_left->Jq,flatMap_append->Jr,mem_map->Jv,length_drop->Jw,append_nil->Jx,map_cons->Jy,getElem?_append_right->JA,mem_cons_of_mem->JB,replicate->JC,cons_append->JD,range->JF,length_set->JG,map_nil->JJ,mem_range->JK,flatMap_cons->JL,mem_flatMap->JN,all_eq_true->JO,any_eq_true->JP,take_of_length_le->JQ,getElem?_eq_none->JS,set_append_right->JT,getElem?_range->JV,find?_eq_none->JW,mem_singleton->JX,nodup_append->J1,getElem?_map->J3,getElem_map->J6,getElem_mem->J7,nodup_cons->J9,map_append->Kb,prefix_rfl->Kd,nodup_nil->Ke,map_set->Ki,length->Kj
open Nat renaming zero_le->Jf,le_trans->Jg,le_refl->Js,mul_le_mul_right->Jt,not_lt_zero->Ju,lt_of_lt_of_le->JH,add_sub_cancel_left->JM,le_succ_of_le->J2,sub_self->J5,le_add_right->J8
open Option renaming map_some->Ka
namespace Go.Proofs.YtdkdbodcffiiaaaGreat
open Go.V Go
open Tryz (prog)
section
attribute [local go_sem] Ce.d Ch.d E.d Qfq Qim Qil Qh2 Qh1 Qie QcA Qq2 Qq1 Qq0 E.q Ju Qa2 QaF
def Qmj (hp:Qb) (kp:Nat) (P:List E) (p:DV):Prop:=(P = []/\p = .pv (.slc []))\/(p = .own kp 13 0 P.length/\kp < hp.length/\hp[kp]? = some ⟨73,true,cells encE P⟩)
def RunOk (hp:Qb) (k kp:Nat) (la:Int) (ea ab en:Bool) (P:List E):Prop:=k < hp.length/\∃ p,Qc hp k = some (rnC la ea ab en p)/\Qmj hp kp P p
def Qfp (e:E) (ea ab:Bool) (P:List E):Bool:=(!ab || decide (e.kind = 5)) && (!decide (e.kind = 5) || (ab || ea) && P.isEmpty)
def nP (e:E) (P:List E):List E:=if e.kind = 1 then P ++ [e] else P
def nab (e:E) (ab:Bool):Bool:=ab || decide (e.kind = 4)
def nen (e:E) (en:Bool):Bool:=en || decide (e.kind = 3) || decide (e.kind = 5)
def Left (hp:Qb) (k kp:Nat) (la:Int) (ea ab en:Bool) (P:List E) (h':Qb):Prop:=FrH hp h' (fun j=>j = k\/j = kp)/\∃ kp',(kp' = kp\/hp.length<=kp')/\RunOk h' k kp' la ea ab en P
def Qoz (hkk:k < hp.length) (hkc:Qc hp k = some (rnC la ea ab en p)) (hp0:Qmj hp kp P p):Left hp k kp la ea ab en P hp:=⟨FrH.refl _ _,kp,.inl rfl,hkk,p,hkc,hp0⟩
def QjP (hkk:k < hp.length) (hkc:Qc hp k = some (rnC la ea ab en p)) (hp0:Qmj hp kp P p) (h1:k ≠ kp):Left hp k kp la ea ab' en' P (Qj hp k (rnC la ea ab' en' p)):=by
 refine ⟨(FrH.refl _ _).set (.inl rfl) _,kp,.inl rfl,by rw [Qs]; exact hkk,p,by rw [QaC,hkc]; rfl,?_⟩
 rcases hp0 with h | ⟨e1,e2,e3⟩
 ·exact .inl h
 ·exact .inr ⟨e1,by rw [Qs]; exact e2,by rw [QbD h1]; exact e3⟩
def QBN (hkk:k < hp.length) (hkc:Qc hp k = some (rnC la ea ab en p)) (h1:k ≠ kp) (hkp:kp < hp.length):
 Left hp k kp la ea ab en (P ++ [e]) (Qj (List.set hp kp B) k (rnC la ea ab en (.own (hp.length + 1) 13 0 (P.length + 1))) ++ [x] ++ [⟨73,true,cells encE (P ++ [e])⟩]):=by
 have hl:(Qj (List.set hp kp B) k (rnC la ea ab en (.own (hp.length + 1) 13 0 (P.length + 1)))).length = hp.length:=by rw [Qs,QxQ]
 refine ⟨⟨by simp [hl],fun j hj ha=>?_⟩,hp.length + 1,.inr (by omega),by simp [hl]; omega,.own (hp.length + 1) 13 0 (P.length + 1),?_,.inr ⟨by simp,by simp [hl],?_⟩⟩
 ·rw [Je (by simp [hl]; omega),Je (by omega),QbD (fun h=>ha (.inl h.symm)),Qt1 (fun h=>ha (.inr h.symm))]
 ·rw [Qq (by simp [hl]; omega),Qq (by omega),QaC,Qow (Ne.symm h1),hkc]; rfl
 ·rw [QjS (by simp [hl])]; simp [hl]
def QEq (c:Qe5) (hp:Qb) (g:MapsD) (b kb kc bt bp bu:Nat) (f:Int) (e:E) (L:List (Int × DV)) (hkb:kb < hp.length) (hb:Qc hp kb = some e.d) (hk:kc < hp.length) (hc:Qc hp kc = some (ckC f bt bp bu)) (hg:(bt,Qam kI L) ∈ g)
 (k kp:Nat) (la:Int) (ea ab en:Bool) (P:List E) (hPl:P.length<=10000) (hkk:k < hp.length) (hkc:Qc hp k = some (rnC la ea ab en (.own kp 13 0 P.length))) (hkp:kp < hp.length) (hpb:hp[kp]? = some ⟨73,true,cells encE P⟩) (hn:QbX L e.tx = some (.ptr k 0))
 (h1:k ≠ kp) (h2:k ≠ kc) (h3:k ≠ kb) (h4:kp ≠ kc) (h5:kp ≠ kb) (hk2:e.kind ≠ 2) :
 VWpG prog (MapsIn c) (QcJ 3 (QcP Tryz.f53)) (QcQ prog [.tmp 4] fun r h' g'=>∃ b,r = .bool b/\b = Qfp e ea ab P/\(b = true->g' = g/\Left hp k kp la ea (nab e ab) (nen e en) (nP e P) h')) ⟨97,b,[(3,.ptr kb 0),(0,.ptr kc 0)],hp⟩ g:=by
 have hpc:Qc hp kp = some (cells encE P):=Qby hpb
 have hkc0:=hkc
 have hp0:Qmj hp kp P (.own kp 13 0 P.length):=.inr ⟨rfl,hkp,hpb⟩
 have m1:(P.length + 1) * 128<=140737488355328:=by omega
 unfold ckC at hc
 unfold rnC at hkc
 unfold E.d at hb
 have hkind:e.kind = 1\/e.kind = 3\/e.kind = 4\/e.kind = 5\/(e.kind ≠ 1/\e.kind ≠ 3/\e.kind ≠ 4/\e.kind ≠ 5):=by omega
 have fl:e.kind = 1->Qfp e ea ab P = !ab/\nP e P = P ++ [e]/\nab e ab = ab/\nen e en = en:=fun h=>by simp [Qfp,nP,nab,nen,h]
 have fl3:e.kind = 3->Qfp e ea ab P = !ab/\nP e P = P/\nab e ab = ab/\nen e en = true:=fun h=>by simp [Qfp,nP,nab,nen,h]
 have fl4:e.kind = 4->Qfp e ea ab P = !ab/\nP e P = P/\nab e ab = true/\nen e en = en:=fun h=>by simp [Qfp,nP,nab,nen,h]
 have fl5:e.kind = 5->Qfp e ea ab P = ((ab || ea) && P.isEmpty)/\nP e P = P/\nab e ab = ab/\nen e en = true:=fun h=>by simp [Qfp,nP,nab,nen,h]
 have fl0:(e.kind ≠ 1/\e.kind ≠ 3/\e.kind ≠ 4/\e.kind ≠ 5)->Qfp e ea ab P = !ab/\nP e P = P/\nab e ab = ab/\nen e en = en:=fun h=>by simp [Qfp,nP,nab,nen,h]
 have hle:((P.length:Int) == 0) = P.isEmpty:=by cases P<;>simp; omega
 show VWpG prog (MapsIn c) (.seq _ _) _ _ _
 refine VWpG.seq ?_
 refine VWpG.drawn (k:=6) (f:=6) (Qa c) (by kernel_rfl) (by kernel_rfl) (by kernel_rfl) (by kernel_rfl) rfl ?_; refine Qab (by kernel_rfl) ?_
 refine rn (Ja @hk (Ja @hc (Ja @hb @hkb))) ?_
 refine Qa7 (zv:=.pointer none) (L:=L) (k:=e.tx) rfl rfl um1 Qic (Q7 z1) (QaZ rfl) rfl hg (Qad rfl) ?_
 rw [hn]
 refine rn trivial ?_
 refine VWpG.plain (Qa c) ?_
 rcases hkind with hq | hq | hq | hq | ⟨q1,q3,q4,q5⟩
 ·obtain ⟨f1,f2,f3,f4⟩:=fl hq
  rw [f1,f2,f3,f4]
  cases ab
  ·skip
   have F:=(Ja @hk (Ja @hc (Ja @hb (Ja @hkb (Ja @hkk (Ja @hkc (Ja @hkp (Ja @hpb (Ja @hpc (Ja @h1 (Ja @h2 (Ja @h3 (Ja @h4 (Ja @h5 (Ja @hk2 (Ja @m1 (Ja @h1.symm (Ja @h2.symm (Ja @h3.symm (Ja @h4.symm (Ja @h5.symm ((eq_true hq)))))))))))))))))))))))
   refine rn F ?_
   repeat' (first
    | with_reducible exact ⟨⟩
    | (refine Qd (id:=10) [0,1,2,3,4,5] [⟨[6],[6],7,[0,1,2,3,5],[8,9]⟩,⟨[],[],10,[8],[]⟩] (by kernel_rfl) (by kernel_rfl) ?_; refine rn F ?_))
   exact ⟨_,rfl,rfl,fun h=>QBN hkk hkc0 h1 hkp⟩
  ·skip
   have F:=(Ja @hk (Ja @hc (Ja @hb (Ja @hkb (Ja @hkk (Ja @hkc (Ja @hkp (Ja @hpb (Ja @hpc (Ja @h1 (Ja @h2 (Ja @h3 (Ja @h4 (Ja @h5 (Ja @hk2 (Ja @m1 (Ja @h1.symm (Ja @h2.symm (Ja @h3.symm (Ja @h4.symm (Ja @h5.symm ((eq_true hq)))))))))))))))))))))))
   refine rn F ?_
   exact ⟨_,rfl,rfl,fun h=>by cases h⟩
 ·obtain ⟨f1,f2,f3,f4⟩:=fl3 hq
  rw [f1,f2,f3,f4]
  cases ab
  ·skip
   have F:=(Ja @hk (Ja @hc (Ja @hb (Ja @hkb (Ja @hkk (Ja @hkc (Ja @hkp (Ja @hpb (Ja @hpc (Ja @h1 (Ja @h2 (Ja @h3 (Ja @h4 (Ja @h5 (Ja @hk2 (Ja @m1 (Ja @h1.symm (Ja @h2.symm (Ja @h3.symm (Ja @h4.symm (Ja @h5.symm (Ja (eq_true hq) @hq))))))))))))))))))))))
   refine rn F ?_
   exact ⟨_,rfl,rfl,fun h=>QjP hkk hkc0 hp0 h1⟩
  ·skip
   have F:=(Ja @hk (Ja @hc (Ja @hb (Ja @hkb (Ja @hkk (Ja @hkc (Ja @hkp (Ja @hpb (Ja @hpc (Ja @h1 (Ja @h2 (Ja @h3 (Ja @h4 (Ja @h5 (Ja @hk2 (Ja @m1 (Ja @h1.symm (Ja @h2.symm (Ja @h3.symm (Ja @h4.symm (Ja @h5.symm (Ja (eq_true hq) @hq))))))))))))))))))))))
   refine rn F ?_
   exact ⟨_,rfl,rfl,fun h=>by cases h⟩
 ·obtain ⟨f1,f2,f3,f4⟩:=fl4 hq
  rw [f1,f2,f3,f4]
  cases ab
  ·skip
   have F:=(Ja @hk (Ja @hc (Ja @hb (Ja @hkb (Ja @hkk (Ja @hkc (Ja @hkp (Ja @hpb (Ja @hpc (Ja @h1 (Ja @h2 (Ja @h3 (Ja @h4 (Ja @h5 (Ja @hk2 (Ja @m1 (Ja @h1.symm (Ja @h2.symm (Ja @h3.symm (Ja @h4.symm (Ja @h5.symm (Ja (eq_true hq) @hq))))))))))))))))))))))
   refine rn F ?_
   exact ⟨_,rfl,rfl,fun h=>QjP hkk hkc0 hp0 h1⟩
  ·skip
   have F:=(Ja @hk (Ja @hc (Ja @hb (Ja @hkb (Ja @hkk (Ja @hkc (Ja @hkp (Ja @hpb (Ja @hpc (Ja @h1 (Ja @h2 (Ja @h3 (Ja @h4 (Ja @h5 (Ja @hk2 (Ja @m1 (Ja @h1.symm (Ja @h2.symm (Ja @h3.symm (Ja @h4.symm (Ja @h5.symm (Ja (eq_true hq) @hq))))))))))))))))))))))
   refine rn F ?_
   exact ⟨_,rfl,rfl,fun h=>by cases h⟩
 ·obtain ⟨f1,f2,f3,f4⟩:=fl5 hq
  rw [f1,f2,f3,f4]
  cases ab
  ·cases ea
   ·skip
    have F:=(Ja @hk (Ja @hc (Ja @hb (Ja @hkb (Ja @hkk (Ja @hkc (Ja @hkp (Ja @hpb (Ja @hpc (Ja @h1 (Ja @h2 (Ja @h3 (Ja @h4 (Ja @h5 (Ja @hk2 (Ja @m1 (Ja @h1.symm (Ja @h2.symm (Ja @h3.symm (Ja @h4.symm (Ja @h5.symm (Ja @hq @hle))))))))))))))))))))))
    refine rn F ?_
    exact ⟨_,rfl,rfl,fun h=>by cases h⟩
   ·skip
    have F:=(Ja @hk (Ja @hc (Ja @hb (Ja @hkb (Ja @hkk (Ja @hkc (Ja @hkp (Ja @hpb (Ja @hpc (Ja @h1 (Ja @h2 (Ja @h3 (Ja @h4 (Ja @h5 (Ja @hk2 (Ja @m1 (Ja @h1.symm (Ja @h2.symm (Ja @h3.symm (Ja @h4.symm (Ja @h5.symm (Ja @hq @hle))))))))))))))))))))))
    refine rn F ?_
    exact ⟨_,rfl,rfl,fun h=>QjP hkk hkc0 hp0 h1⟩
  ·skip
   have F:=(Ja @hk (Ja @hc (Ja @hb (Ja @hkb (Ja @hkk (Ja @hkc (Ja @hkp (Ja @hpb (Ja @hpc (Ja @h1 (Ja @h2 (Ja @h3 (Ja @h4 (Ja @h5 (Ja @hk2 (Ja @m1 (Ja @h1.symm (Ja @h2.symm (Ja @h3.symm (Ja @h4.symm (Ja @h5.symm (Ja @hq @hle))))))))))))))))))))))
   refine rn F ?_
   exact ⟨_,rfl,rfl,fun h=>QjP hkk hkc0 hp0 h1⟩
 ·obtain ⟨f1,f2,f3,f4⟩:=fl0 ⟨q1,q3,q4,q5⟩
  rw [f1,f2,f3,f4]
  cases ab
  ·skip
   have F:=(Ja @hk (Ja @hc (Ja @hb (Ja @hkb (Ja @hkk (Ja @hkc (Ja @hkp (Ja @hpb (Ja @hpc (Ja @h1 (Ja @h2 (Ja @h3 (Ja @h4 (Ja @h5 (Ja @hk2 (Ja @m1 (Ja @h1.symm (Ja @h2.symm (Ja @h3.symm (Ja @h4.symm (Ja @h5.symm (Ja @q1 (Ja @q3 (Ja @q4 @q5))))))))))))))))))))))))
   refine rn F ?_
   exact ⟨_,rfl,rfl,fun h=>Qoz hkk hkc0 hp0⟩
  ·skip
   have F:=(Ja @hk (Ja @hc (Ja @hb (Ja @hkb (Ja @hkk (Ja @hkc (Ja @hkp (Ja @hpb (Ja @hpc (Ja @h1 (Ja @h2 (Ja @h3 (Ja @h4 (Ja @h5 (Ja @hk2 (Ja @m1 (Ja @h1.symm (Ja @h2.symm (Ja @h3.symm (Ja @h4.symm (Ja @h5.symm (Ja @q1 (Ja @q3 (Ja @q4 @q5))))))))))))))))))))))))
   refine rn F ?_
   exact ⟨_,rfl,rfl,fun h=>by cases h⟩
end
section
attribute [local go_sem] Ce.d Ch.d E.d Qfq Qim Qil Qh2 Qh1 Qie QcA Qq2 Qq1 Qq0 E.q Ju Qa2 QaF
def Qgr (hkk:k < hp.length) (hkc:Qc hp k = some (rnC la ea ab en (.pv (.slc [])))):Left hp k kp la ea ab' en' [] (Qj hp k (rnC la ea ab' en' (.pv (.slc [])))):=
 ⟨(FrH.refl _ _).set (.inl rfl) _,kp,.inl rfl,by rw [Qs]; exact hkk,.pv (.slc []),by rw [QaC,hkc]; rfl,.inl ⟨rfl,rfl⟩⟩
def QxW (hkk:k < hp.length) (hkc:Qc hp k = some (rnC la ea ab en p)):
 Left hp k kp la ea ab en [e] (Qj hp k (rnC la ea ab en (.own (hp.length + 1) 13 0 1)) ++ [x] ++ [⟨73,true,cells encE [e]⟩]):=by
 have hl:(Qj hp k (rnC la ea ab en (.own (hp.length + 1) 13 0 1))).length = hp.length:=by rw [Qs]
 refine ⟨⟨by simp [hl],fun j hj ha=>?_⟩,hp.length + 1,.inr (by omega),by simp [hl]; omega,.own (hp.length + 1) 13 0 1,?_,.inr ⟨rfl,by simp [hl],?_⟩⟩
 ·rw [Je (by simp [hl]; omega),Je (by omega),QbD (fun h=>ha (.inl h.symm))]
 ·rw [Qq (by simp [hl]; omega),Qq (by omega),QaC,hkc]; rfl
 ·rw [QjS (by simp [hl])]; simp [hl]
def QEr (c:Qe5) (hp:Qb) (g:MapsD) (b kb kc bt bp bu:Nat) (f:Int) (e:E) (L:List (Int × DV)) (hkb:kb < hp.length) (hb:Qc hp kb = some e.d) (hk:kc < hp.length) (hc:Qc hp kc = some (ckC f bt bp bu)) (hg:(bt,Qam kI L) ∈ g)
 (k kp:Nat) (la:Int) (ea ab en:Bool) (hkk:k < hp.length) (hkc:Qc hp k = some (rnC la ea ab en (.pv (.slc [])))) (hn:QbX L e.tx = some (.ptr k 0))
 (h2:k ≠ kc) (h3:k ≠ kb) (hk2:e.kind ≠ 2) :
 VWpG prog (MapsIn c) (QcJ 3 (QcP Tryz.f53)) (QcQ prog [.tmp 4] fun r h' g'=>∃ b,r = .bool b/\b = Qfp e ea ab []/\(b = true->g' = g/\Left hp k kp la ea (nab e ab) (nen e en) (nP e []) h')) ⟨97,b,[(3,.ptr kb 0),(0,.ptr kc 0)],hp⟩ g:=by
 have hkc0:=hkc
 have hp0:Qmj hp kp [] (.pv (.slc [])):=.inl ⟨rfl,rfl⟩
 unfold ckC at hc
 unfold rnC at hkc
 unfold E.d at hb
 have hkind:e.kind = 1\/e.kind = 3\/e.kind = 4\/e.kind = 5\/(e.kind ≠ 1/\e.kind ≠ 3/\e.kind ≠ 4/\e.kind ≠ 5):=by omega
 have fl:e.kind = 1->Qfp e ea ab [] = !ab/\nP e [] = [e]/\nab e ab = ab/\nen e en = en:=fun h=>by simp [Qfp,nP,nab,nen,h]
 have fl3:e.kind = 3->Qfp e ea ab [] = !ab/\nP e [] = []/\nab e ab = ab/\nen e en = true:=fun h=>by simp [Qfp,nP,nab,nen,h]
 have fl4:e.kind = 4->Qfp e ea ab [] = !ab/\nP e [] = []/\nab e ab = true/\nen e en = en:=fun h=>by simp [Qfp,nP,nab,nen,h]
 have fl5:e.kind = 5->Qfp e ea ab [] = ((ab || ea) && true)/\nP e [] = []/\nab e ab = ab/\nen e en = true:=fun h=>by simp [Qfp,nP,nab,nen,h]
 have fl0:(e.kind ≠ 1/\e.kind ≠ 3/\e.kind ≠ 4/\e.kind ≠ 5)->Qfp e ea ab [] = !ab/\nP e [] = []/\nab e ab = ab/\nen e en = en:=fun h=>by simp [Qfp,nP,nab,nen,h]
 have hle:(((0:Nat):Int) == 0) = true:=rfl
 show VWpG prog (MapsIn c) (.seq _ _) _ _ _
 refine VWpG.seq ?_
 refine VWpG.drawn (k:=6) (f:=6) (Qa c) (by kernel_rfl) (by kernel_rfl) (by kernel_rfl) (by kernel_rfl) rfl ?_; refine Qab (by kernel_rfl) ?_
 refine rn (Ja @hk (Ja @hc (Ja @hb @hkb))) ?_
 refine Qa7 (zv:=.pointer none) (L:=L) (k:=e.tx) rfl rfl um1 Qic (Q7 z1) (QaZ rfl) rfl hg (Qad rfl) ?_
 rw [hn]
 refine rn trivial ?_
 refine VWpG.plain (Qa c) ?_
 rcases hkind with hq | hq | hq | hq | ⟨q1,q3,q4,q5⟩
 ·obtain ⟨f1,f2,f3,f4⟩:=fl hq
  rw [f1,f2,f3,f4]
  cases ab
  ·skip
   have F:=(Ja @hk (Ja @hc (Ja @hb (Ja @hkb (Ja @hkk (Ja @hkc (Ja @h2 (Ja @h3 (Ja @hk2 (Ja @h2.symm (Ja @h3.symm ((eq_true hq)))))))))))))
   refine rn F ?_
   repeat' (first
    | with_reducible exact ⟨⟩
    | (refine Qd (id:=10) [0,1,2,3,4,5] [⟨[6],[6],7,[0,1,2,3,5],[8,9]⟩,⟨[],[],10,[8],[]⟩] (by kernel_rfl) (by kernel_rfl) ?_; refine rn F ?_))
   exact ⟨_,rfl,rfl,fun h=>QxW hkk hkc0⟩
  ·skip
   have F:=(Ja @hk (Ja @hc (Ja @hb (Ja @hkb (Ja @hkk (Ja @hkc (Ja @h2 (Ja @h3 (Ja @hk2 (Ja @h2.symm (Ja @h3.symm ((eq_true hq)))))))))))))
   refine rn F ?_
   exact ⟨_,rfl,rfl,fun h=>by cases h⟩
 ·obtain ⟨f1,f2,f3,f4⟩:=fl3 hq
  rw [f1,f2,f3,f4]
  cases ab
  ·skip
   have F:=(Ja @hk (Ja @hc (Ja @hb (Ja @hkb (Ja @hkk (Ja @hkc (Ja @h2 (Ja @h3 (Ja @hk2 (Ja @h2.symm (Ja @h3.symm (Ja (eq_true hq) @hq))))))))))))
   refine rn F ?_
   exact ⟨_,rfl,rfl,fun h=>Qgr hkk hkc0⟩
  ·skip
   have F:=(Ja @hk (Ja @hc (Ja @hb (Ja @hkb (Ja @hkk (Ja @hkc (Ja @h2 (Ja @h3 (Ja @hk2 (Ja @h2.symm (Ja @h3.symm (Ja (eq_true hq) @hq))))))))))))
   refine rn F ?_
   exact ⟨_,rfl,rfl,fun h=>by cases h⟩
 ·obtain ⟨f1,f2,f3,f4⟩:=fl4 hq
  rw [f1,f2,f3,f4]
  cases ab
  ·skip
   have F:=(Ja @hk (Ja @hc (Ja @hb (Ja @hkb (Ja @hkk (Ja @hkc (Ja @h2 (Ja @h3 (Ja @hk2 (Ja @h2.symm (Ja @h3.symm (Ja (eq_true hq) @hq))))))))))))
   refine rn F ?_
   exact ⟨_,rfl,rfl,fun h=>Qgr hkk hkc0⟩
  ·skip
   have F:=(Ja @hk (Ja @hc (Ja @hb (Ja @hkb (Ja @hkk (Ja @hkc (Ja @h2 (Ja @h3 (Ja @hk2 (Ja @h2.symm (Ja @h3.symm (Ja (eq_true hq) @hq))))))))))))
   refine rn F ?_
   exact ⟨_,rfl,rfl,fun h=>by cases h⟩
 ·obtain ⟨f1,f2,f3,f4⟩:=fl5 hq
  rw [f1,f2,f3,f4]
  cases ab
  ·cases ea
   ·skip
    have F:=(Ja @hk (Ja @hc (Ja @hb (Ja @hkb (Ja @hkk (Ja @hkc (Ja @h2 (Ja @h3 (Ja @hk2 (Ja @h2.symm (Ja @h3.symm (Ja @hq @hle))))))))))))
    refine rn F ?_
    exact ⟨_,rfl,rfl,fun h=>by cases h⟩
   ·skip
    have F:=(Ja @hk (Ja @hc (Ja @hb (Ja @hkb (Ja @hkk (Ja @hkc (Ja @h2 (Ja @h3 (Ja @hk2 (Ja @h2.symm (Ja @h3.symm (Ja @hq @hle))))))))))))
    refine rn F ?_
    exact ⟨_,rfl,rfl,fun h=>Qgr hkk hkc0⟩
  ·skip
   have F:=(Ja @hk (Ja @hc (Ja @hb (Ja @hkb (Ja @hkk (Ja @hkc (Ja @h2 (Ja @h3 (Ja @hk2 (Ja @h2.symm (Ja @h3.symm (Ja @hq @hle))))))))))))
   refine rn F ?_
   exact ⟨_,rfl,rfl,fun h=>Qgr hkk hkc0⟩
 ·obtain ⟨f1,f2,f3,f4⟩:=fl0 ⟨q1,q3,q4,q5⟩
  rw [f1,f2,f3,f4]
  cases ab
  ·skip
   have F:=(Ja @hk (Ja @hc (Ja @hb (Ja @hkb (Ja @hkk (Ja @hkc (Ja @h2 (Ja @h3 (Ja @hk2 (Ja @h2.symm (Ja @h3.symm (Ja @q1 (Ja @q3 (Ja @q4 @q5))))))))))))))
   refine rn F ?_
   exact ⟨_,rfl,rfl,fun h=>Qoz hkk hkc0 hp0⟩
  ·skip
   have F:=(Ja @hk (Ja @hc (Ja @hb (Ja @hkb (Ja @hkk (Ja @hkc (Ja @h2 (Ja @h3 (Ja @hk2 (Ja @h2.symm (Ja @h3.symm (Ja @q1 (Ja @q3 (Ja @q4 @q5))))))))))))))
   refine rn F ?_
   exact ⟨_,rfl,rfl,fun h=>by cases h⟩
end
section
attribute [local go_sem] Ce.d Ch.d E.d Qfq Qim Qil Qh2 Qh1 Qie QcA Qq2 Qq1 Qq0 E.q Ju Qa2 QaF
def Qpo (f:Int) (U:List Int) (P:List E) (e:E):Bool:=!decide (e.ref ∈ U) && (if P.any (Qaf e) = true then
    (if f<=e.ref then decide ((P.getD (P.findIdx (Qaf e)) E0).lsn = e.ref) && (eqC (P.getD (P.findIdx (Qaf e)) E0).c.inv e.c && !(P.drop (P.findIdx (Qaf e) + 1)).any (Qda e)) else !(P.drop (P.findIdx (Qaf e))).any (Qda e))
 else decide (e.ref < f))
def Qr5 (f:Int) (P:List E) (e:E):List E:=if f<=e.ref then Qpn P (P.findIdx (Qaf e)) else P
def RunOk.app (h:RunOk hp k kp la ea ab en P):RunOk (hp ++ r) k kp la ea ab en P:=by
 obtain ⟨h1,p,h2,h3⟩:=h
 refine ⟨by rw [Jb]; omega,p,by rw [Qq h1]; exact h2,?_⟩
 rcases h3 with h | ⟨e1,e2,e3⟩
 ·exact .inl h
 ·exact .inr ⟨e1,by rw [Jb]; omega,by rw [Je e2]; exact e3⟩
def Left.ofRun (h:RunOk hp k kp la ea ab en P):Left hp k kp la ea ab en P (hp ++ r):=⟨(FrH.refl _ _).app r,kp,.inl rfl,h.app⟩
def QF3 (hkk:k < hp.length) (hkc:Qc hp k = some (rnC la ea ab en p)) (hn:P.length = n):
 Left hp k kp la ea ab en P (Qj hp k (rnC la ea ab en (.own (hp.length + 3) 13 0 n)) ++ [x,y,z,⟨73,true,cells encE P⟩]):=by
 have hl:(Qj hp k (rnC la ea ab en (.own (hp.length + 3) 13 0 n))).length = hp.length:=by rw [Qs]
 refine ⟨((FrH.refl _ _).set (.inl rfl) _).app _,hp.length + 3,.inr (by omega),by simp [hl]; omega,.own (hp.length + 3) 13 0 n,?_,.inr ⟨by rw [hn],by simp [hl],?_⟩⟩
 ·rw [Qq (by omega),QaC,hkc]; rfl
 ·rw [QjS (by simp [hl])]; simp [hl]
def Qu4 (hp:Qb) (g:MapsD) (kc bt bp bu:Nat) (f:Int) (e:E) (U:List Int) (hk:kc < hp.length) (hc:Qc hp kc = some (ckC f bt bp bu)) (hg:(bu,Qam kI (QdE U)) ∈ g) (k kp:Nat) (la:Int) (ea ab en:Bool) (P:List E) (hPl:P.length<=10000) (hr:RunOk hp k kp la ea ab en P) (hne:k ≠ kp) :
 VCallsG prog 67 [.ptr kc 0,.ptr k 0,.agg e.d] hp g (fun r h' g'=>∃ b,r = .bool b/\b = Qpo f U P e/\(b = true->Left hp k kp la ea ab en (Qr5 f P e) h'/\g' = g.map fun p=>if p.1 = bu then (bu,Qam kI (QdE (Qon U e.ref))) else p)):=by
 have hr0:=hr
 obtain ⟨hkk,p,hkc,hp0⟩:=hr
 rcases hp0 with ⟨rfl,rfl⟩ | ⟨rfl,hkp,hpb⟩
 ·refine (Qqu hp g kc bt bp bu f e U hk hc hg k la ea ab en hkk hkc).mono ?_
  rintro r h' g' ⟨b,e1,e2,e3⟩
  refine ⟨b,e1,?_,fun hb=>?_⟩
  ·rw [e2]; simp [Qpo,Kf]
  ·obtain ⟨⟨x,rfl⟩,e4⟩:=e3 hb
   refine ⟨?_,e4⟩
   rw [show Qr5 f [] e = [] by unfold Qr5 Qpn; simp]
   exact Left.ofRun hr0
 by_cases ha:P.any (Qaf e) = true
 ·have hj:P.findIdx (Qaf e) < P.length:=List.findIdx_lt_length_of_exists (by simpa using ha)
  by_cases hf:f<=e.ref
  ·have hlen:(Qpn P (P.findIdx (Qaf e))).length = P.length - 1:=by simp [Qpn]; omega
   have fin:∀ r (h':Qb) (g':MapsD),(∃ b,r = DV.bool b/\b = (decide ((P.getD (P.findIdx (Qaf e)) E0).lsn = e.ref) && (eqC (P.getD (P.findIdx (Qaf e)) E0).c.inv e.c && (!decide (e.ref ∈ U) && !(P.drop (P.findIdx (Qaf e) + 1)).any (Qda e))))/\(b = true->(∃ x y z,h' = Qj hp k (rnC la ea ab en (.own (hp.length + 3) 13 0 (P.length - 1))) ++ [x,y,z,⟨73,true,cells encE (Qpn P (P.findIdx (Qaf e)))⟩])/\g' = g.map fun p=>if p.1 = bu then (bu,Qam kI (QdE (Qon U e.ref))) else p)) ->
    ∃ b,r = .bool b/\b = Qpo f U P e/\(b = true->Left hp k kp la ea ab en (Qr5 f P e) h'/\g' = g.map fun p=>if p.1 = bu then (bu,Qam kI (QdE (Qon U e.ref))) else p):=by
    rintro r h' g' ⟨b,e1,e2,e3⟩
    refine ⟨b,e1,?_,fun hb=>?_⟩
    ·rw [e2,Qpo,if_pos ha,if_pos hf]
     generalize decide (e.ref ∈ U) = q1
     generalize decide ((P.getD (P.findIdx (Qaf e)) E0).lsn = e.ref) = q2
     generalize eqC _ _ = q3
     generalize List.any _ _ = q4
     cases q1<;>cases q2<;>cases q3<;>rfl
    ·obtain ⟨⟨x,y,z,rfl⟩,e4⟩:=e3 hb
     refine ⟨?_,e4⟩
     rw [Qr5,if_pos hf]
     exact QF3 hkk hkc hlen
   by_cases hj1:P.findIdx (Qaf e) + 1 = P.length
   ·exact (Qqq hp g kc bt bp bu f e U hk hc hg k kp la ea ab en P hPl hkk hkc hkp hpb hne ha hf hj1).mono fin
   ·exact (Qqs hp g kc bt bp bu f e U hk hc hg k kp la ea ab en P hPl hkk hkc hkp hpb hne ha hf (by omega)).mono fin
  ·refine (Qqt hp g kc bt bp bu f e U hk hc hg k kp la ea ab en P hPl hkk hkc hkp hpb hne ha hf).mono ?_
   rintro r h' g' ⟨b,e1,e2,e3⟩
   refine ⟨b,e1,?_,fun hb=>?_⟩
   ·rw [e2,Qpo,if_pos ha,if_neg hf]
   ·obtain ⟨⟨x,rfl⟩,e4⟩:=e3 hb
    refine ⟨?_,e4⟩
    rw [Qr5,if_neg hf]
    exact Left.ofRun hr0
 ·have ha':P.any (Qaf e) = false:=by simpa using ha
  refine (Qqr hp g kc bt bp bu f e U hk hc hg k kp la ea ab en P hPl hkk hkc hkp hpb hne ha').mono ?_
  rintro r h' g' ⟨b,e1,e2,e3⟩
  refine ⟨b,e1,?_,fun hb=>?_⟩
  ·rw [e2,Qpo,if_neg ha,Kf]
  ·obtain ⟨⟨x,rfl⟩,e4⟩:=e3 hb
   refine ⟨?_,e4⟩
   have hf:¬ f<=e.ref:=by
    rw [e2] at hb
    simp at hb
    omega
   rw [Qr5,if_neg hf]
   exact Left.ofRun hr0
def QEp (c:Qe5) (hp:Qb) (g:MapsD) (b kb kc bt bp bu:Nat) (f:Int) (e:E) (L:List (Int × DV)) (U:List Int) (hkb:kb < hp.length) (hb:Qc hp kb = some e.d) (hk:kc < hp.length) (hc:Qc hp kc = some (ckC f bt bp bu)) (hg:(bt,Qam kI L) ∈ g) (hgu:(bu,Qam kI (QdE U)) ∈ g)
 (k kp:Nat) (la:Int) (ea ab en:Bool) (P:List E) (hPl:P.length<=10000) (hr:RunOk hp k kp la ea ab en P) (hn:QbX L e.tx = some (.ptr k 0)) (h1:k ≠ kp) (hk2:e.kind = 2) :
 VWpG prog (MapsIn c) (QcJ 3 (QcP Tryz.f53)) (QcQ prog [.tmp 4] fun r h' g'=>∃ b,r = .bool b/\b = Qpo f U P e/\(b = true->Left hp k kp la ea ab en (Qr5 f P e) h'/\g' = g.map fun p=>if p.1 = bu then (bu,Qam kI (QdE (Qon U e.ref))) else p)) ⟨97,b,[(3,.ptr kb 0),(0,.ptr kc 0)],hp⟩ g:=by
 have hcu:=Qu4 hp g kc bt bp bu f e U hk hc hgu k kp la ea ab en P hPl hr h1
 obtain ⟨hkk,p,hkc,hp0⟩:=hr
 unfold ckC at hc
 unfold rnC at hkc
 unfold E.d at hb hcu
 show VWpG prog (MapsIn c) (.seq _ _) _ _ _
 refine VWpG.seq ?_
 refine VWpG.drawn (k:=6) (f:=6) (Qa c) (by kernel_rfl) (by kernel_rfl) (by kernel_rfl) (by kernel_rfl) rfl ?_; refine Qab (by kernel_rfl) ?_
 refine rn (Ja @hk (Ja @hc (Ja @hb @hkb))) ?_
 refine Qa7 (zv:=.pointer none) (L:=L) (k:=e.tx) rfl rfl um1 Qic (Q7 z1) (QaZ rfl) rfl hg (Qad rfl) ?_
 rw [hn]
 refine rn trivial ?_
 refine VWpG.seq ?_
 have d2:(e.kind = 2) = True:=eq_true hk2
 have d1:¬ e.kind = 1:=by omega
 refine VWpG.first (Qa c) ?_
 cases ab
 ·(refine rn (Ja @hk (Ja @hc (Ja @hb (Ja @hkb (Ja @hkk (Ja @hkc @d2)))))) ?_; try with_reducible exact ⟨⟩)
  refine VWpG.cond rfl (fun hZ=>?_) (fun hZ=>?_)
  ·cases hZ
  refine VWpG.plain (Qa c) ?_
  refine rn trivial ?_
  refine VWpG.seq ?_
  refine VWpG.first (Qa c) ?_
  refine rn (Ja @hb @hkb) ?_
  refine VWpG.block ?_
  refine VWpG.first (Qa c) ?_
  refine rn @d1 ?_
  refine VWpG.cond rfl (fun hZ=>?_) (fun hZ=>?_)
  ·cases hZ
  refine VWpG.first (Qa c) ?_
  refine rn @d2 ?_
  refine VWpG.cond rfl (fun hZ=>?_) (fun hZ=>?_)
  ·refine VWpG.seq ?_
   refine VWpG.cut1 (Qa c) 3 [] ?_
   refine rn (Ja @hk (Ja @hc (Ja @hb (Ja @hkb (Ja @hkk @hkc))))) ?_
   refine QcK rfl rfl rfl hcu ?_
   rintro r h' g' ⟨b',rfl,e2,e3⟩
   refine rn trivial ?_
   refine VWpG.plain (Qa c) ?_
   refine rn trivial ?_
   exact ⟨b',rfl,e2,e3⟩
  ·cases hZ
 ·(refine rn (Ja @hk (Ja @hc (Ja @hb (Ja @hkb (Ja @hkk (Ja @hkc @d2)))))) ?_; try with_reducible exact ⟨⟩)
  refine VWpG.cond rfl (fun hZ=>?_) (fun hZ=>?_)
  ·cases hZ
  refine VWpG.plain (Qa c) ?_
  refine rn trivial ?_
  refine VWpG.seq ?_
  refine VWpG.first (Qa c) ?_
  refine rn (Ja @hb @hkb) ?_
  refine VWpG.block ?_
  refine VWpG.first (Qa c) ?_
  refine rn @d1 ?_
  refine VWpG.cond rfl (fun hZ=>?_) (fun hZ=>?_)
  ·cases hZ
  refine VWpG.first (Qa c) ?_
  refine rn @d2 ?_
  refine VWpG.cond rfl (fun hZ=>?_) (fun hZ=>?_)
  ·refine VWpG.seq ?_
   refine VWpG.cut1 (Qa c) 3 [] ?_
   refine rn (Ja @hk (Ja @hc (Ja @hb (Ja @hkb (Ja @hkk @hkc))))) ?_
   refine QcK rfl rfl rfl hcu ?_
   rintro r h' g' ⟨b',rfl,e2,e3⟩
   refine rn trivial ?_
   refine VWpG.plain (Qa c) ?_
   refine rn trivial ?_
   exact ⟨b',rfl,e2,e3⟩
  ·cases hZ
end
section
attribute [local go_sem] Ce.d Ch.d E.d Qfq Qim Qil Qh2 Qh1 Qie QcA Qq2 Qq1 Qq0 E.q Ju Qa2 QaF
def Qcd (x:E):Bool:=x.kind == 1 || x.kind == 2
def ckG (bt bp bu:Nat) (L:List (Int × DV)) (Pg:List (Int × Int)) (U:List Int):MapsD:=[(bt,Qam kI L),(bp,Qam kI (Qp8 Pg)),(bu,Qam kI (QdE U))]
def Qh0 (f:Int) (U:List Int) (e:E) (ea ab:Bool) (P:List E):Bool:=if e.kind = 2 then Qpo f U P e else Qfp e ea ab P
def Qd8 (f:Int) (e:E) (P:List E):List E:=if e.kind = 2 then Qr5 f P e else nP e P
def Qjp (U:List Int) (e:E):List Int:=if e.kind = 2 then Qon U e.ref else U
def QGk (h1:bt ≠ bp) (h3:bp ≠ bu) (L:List (Int × DV)) (Pg Pg':List (Int × Int)) (U:List Int):((ckG bt bp bu L Pg U).map fun p=>if p.1 = bp then (bp,Qam kI (Qp8 Pg')) else p) = ckG bt bp bu L Pg' U:=by
 simp [ckG,h1,Ne.symm h3]
def QGi (h1:bt ≠ bu) (h3:bp ≠ bu) (L:List (Int × DV)) (Pg:List (Int × Int)) (U U':List Int):((ckG bt bp bu L Pg U).map fun p=>if p.1 = bu then (bu,Qam kI (QdE U')) else p) = ckG bt bp bu L Pg U':=by
 simp [ckG,h1,h3]
def QGj (h1:bt ≠ bp) (h3:bt ≠ bu) (L L':List (Int × DV)) (Pg:List (Int × Int)) (U:List Int):((ckG bt bp bu L Pg U).map fun p=>if p.1 = bt then (bt,Qam kI L') else p) = ckG bt bp bu L' Pg U:=by
 simp [ckG,Ne.symm h1,Ne.symm h3]
def QbI (hh:∀ r h g,R r h g->R' r h g):∀ e S g,QcQ P rs R e S g->QcQ P rs R' e S g:=fun e S g h=>by
 unfold QcQ at h |-
 cases e<;>dsimp only at h |-<;>first | exact h | (split at h<;>first | exact hh _ _ _ h | exact h)
def QEs (c:Qe5) (hp:Qb) (b kb kc bt bp bu:Nat) (hbb:bt ≠ bp/\bt ≠ bu/\bp ≠ bu) (f:Int) (e:E) (L:List (Int × DV)) (Pg:List (Int × Int)) (U:List Int) (hkb:kb < hp.length) (hb:Qc hp kb = some e.d) (hk:kc < hp.length) (hc:Qc hp kc = some (ckC f bt bp bu))
 (k kp:Nat) (la:Int) (ea ab en:Bool) (P:List E) (hPl:P.length<=10000) (hr:RunOk hp k kp la ea ab en P) (hn:QbX L e.tx = some (.ptr k 0)) (h1:k ≠ kp) (h2:k ≠ kc) (h3:k ≠ kb) (h4:kp ≠ kc) (h5:kp ≠ kb) :
 VWpG prog (MapsIn c) (QcJ 3 (QcP Tryz.f53)) (QcQ prog [.tmp 4] fun r h' g'=>∃ b,r = .bool b/\b = Qh0 f U e ea ab P/\(b = true->Left hp k kp la ea (nab e ab) (nen e en) (Qd8 f e P) h'/\g' = ckG bt bp bu L Pg (Qjp U e))) ⟨97,b,[(3,.ptr kb 0),(0,.ptr kc 0)],hp⟩ (ckG bt bp bu L Pg U):=by
 have hgt:(bt,Qam kI L) ∈ ckG bt bp bu L Pg U:=by simp [ckG]
 have hgu:(bu,Qam kI (QdE U)) ∈ ckG bt bp bu L Pg U:=by simp [ckG]
 by_cases hk2:e.kind = 2
 ·refine (QEp c hp _ b kb kc bt bp bu f e L U hkb hb hk hc hgt hgu k kp la ea ab en P hPl hr hn h1 hk2).mono (QbI ?_)
  rintro r h' g' ⟨b,e1,e2,e3⟩
  refine ⟨b,e1,by rw [e2,Qh0,if_pos hk2],fun hb=>?_⟩
  obtain ⟨e4,e5⟩:=e3 hb
  rw [QGi hbb.2.1 hbb.2.2] at e5
  rw [Qd8,if_pos hk2,Qjp,if_pos hk2,show nab e ab = ab by simp [nab,hk2],show nen e en = en by simp [nen,hk2]]
  exact ⟨e4,e5⟩
 ·obtain ⟨hkk,p,hkc,hp0⟩:=hr
  have fin:∀ (r:DV) (h':Qb) (g':MapsD),(∃ b,r = .bool b/\b = Qfp e ea ab P/\(b = true->g' = ckG bt bp bu L Pg U/\Left hp k kp la ea (nab e ab) (nen e en) (nP e P) h'))->∃ b,r = .bool b/\b = Qh0 f U e ea ab P/\(b = true->Left hp k kp la ea (nab e ab) (nen e en) (Qd8 f e P) h'/\g' = ckG bt bp bu L Pg (Qjp U e)):=by
   rintro r h' g' ⟨b,e1,e2,e3⟩
   refine ⟨b,e1,by rw [e2,Qh0,if_neg hk2],fun hb=>?_⟩
   obtain ⟨e4,e5⟩:=e3 hb
   rw [Qd8,if_neg hk2,Qjp,if_neg hk2]
   exact ⟨e5,e4⟩
  rcases hp0 with ⟨rfl,rfl⟩ | ⟨rfl,hkp,hpb⟩
  ·exact (QEr c hp _ b kb kc bt bp bu f e L hkb hb hk hc hgt k kp la ea ab en hkk hkc hn h2 h3 hk2).mono (QbI fin)
  ·exact (QEq c hp _ b kb kc bt bp bu f e L hkb hb hk hc hgt k kp la ea ab en P hPl hkk hkc hkp hpb hn h1 h2 h3 h4 h5 hk2).mono (QbI fin)
def QnQ (hp:Qb) (kc:Nat) (e:E) (k kp:Nat) (ea ab en:Bool) (P:List E) (h':Qb):Prop:=kc < h'.length/\Qc h' kc = Qc hp kc/\hp.length + 1<=h'.length/\Qc h' hp.length = some e.d/\RunOk h' k kp e.lsn ea ab en P/\FrH hp h' (fun j=>j = k\/j = kp)
def Qvl (hp:Qb) (kc bt bp bu:Nat) (hbb:bt ≠ bp/\bt ≠ bu/\bp ≠ bu) (f:Int) (e:E) (L L':List (Int × DV)) (Pg:List (Int × Int)) (U:List Int) (hk:kc < hp.length) (hc:Qc hp kc = some (ckC f bt bp bu)) (htx:e.tx ≠ 0)
 (k kp:Nat) (rb ea ab en:Bool) (P:List E) (hPl:P.length<=10000) (hn:QbX L' e.tx = some (.ptr k 0)) (h1:k ≠ kp) (h2:k ≠ kc) (h3:k ≠ hp.length) (h4:kp ≠ kc) (h5:kp ≠ hp.length)
 (hright:∀ B:Blk,B = ⟨73,true,e.d⟩->VCallsG prog 65 [.ptr kc 0,.agg e.d] (hp ++ [B]) (ckG bt bp bu L Pg U) (fun r h' g'=>r = .bool rb/\QnQ hp kc e k kp ea ab en P h'/\g' = ckG bt bp bu L' Pg U)) :
 VCallsG prog 53 [.ptr kc 0,.agg e.d] hp (ckG bt bp bu L Pg U) (fun r h' g'=>∃ b,r = .bool b/\b = (rb && ((!Qcd e || pagedB f Pg e) && Qh0 f U e ea ab P)) /\
  (b = true->FrH hp h' (fun j=>j = k\/j = kp)/\(∃ kp',(kp' = kp\/hp.length<=kp')/\RunOk h' k kp' e.lsn ea (nab e ab) (nen e en) (Qd8 f e P))/\g' = ckG bt bp bu L' (if Qcd e = true then Qq9 Pg e.c.pg e.lsn else Pg) (Qjp U e))):=by
 have hr0:=hright _ rfl
 refine Q4 (fn:=Tryz.f53) Tryz.func53 rfl (by kernel_rfl) (by simp [Tryz.f53]) (fun c=>?_)
 have hc0:=hc
 unfold ckC at hc
 unfold E.d at hr0
 refine VWpG.first (Qa c) ?_
 (unfold Tryz.f53; refine rn trivial ?_)
 refine VWpG.seq ?_
 refine VWpG.first (Qa c) ?_
 refine rn @htx ?_
 refine VWpG.cond rfl (fun hZ=>?_) (fun hZ=>?_)
 ·cases hZ
 refine VWpG.plain (Qa c) ?_
 refine rn trivial ?_
 refine VWpG.seq ?_
 refine VWpG.seq ?_
 refine VWpG.cut1 (Qa c) 2 [7] ?_
 refine rn trivial ?_
 refine QcK rfl rfl rfl hr0 ?_
 rintro r h1' g1 ⟨rfl,⟨q1,q2,q3,q4,q5,q6⟩,rfl⟩
 have q4':Qc h1' hp.length = some [.int .i64 e.lsn,.int .i64 e.kind,.int .i64 e.tx,.int .i64 e.ptx,.int .i64 e.ppg,.int .i64 e.ref,.int .i64 e.c.pg,.int .i64 e.c.sl,.bool e.c.b.set,.pv (.str e.c.b.data),.bool e.c.a.set,.pv (.str e.c.a.data),.pv (.str e.blob)]:=q4
 have q2':=q2
 rw [hc] at q2'
 have hl3:hp.length < h1'.length:=by omega
 have hcg:VCalls prog 33 [.agg [.int .i64 e.lsn,.int .i64 e.kind,.int .i64 e.tx,.int .i64 e.ptx,.int .i64 e.ppg,.int .i64 e.ref,.int .i64 e.c.pg,.int .i64 e.c.sl,.bool e.c.b.set,.pv (.str e.c.b.data),.bool e.c.a.set,.pv (.str e.c.a.data),.pv (.str e.blob)]] [] (Ret (.bool (Qcd e))):=Qe1 e
 refine Qdy ?_
 cases rb
 ·(refine rn trivial ?_; try with_reducible exact ⟨⟩)
  refine Qor rfl rfl ?_
  refine rn trivial ?_
  refine VWpG.cond rfl (fun hZ=>?_) (fun hZ=>?_)
  ·refine VWpG.plain (Qa c) ?_
   refine rn trivial ?_
   exact ⟨false,rfl,rfl,fun h=>by cases h⟩
  ·cases hZ
 cases hch:Qcd e
 ·rw [hch] at hcg
  refine rn (Ja @q4' @hl3) ?_
  refine Qag hcg rfl ?_
  refine rn trivial ?_
  refine Qor rfl rfl ?_
  refine rn trivial ?_
  refine VWpG.cond rfl (fun hZ=>?_) (fun hZ=>?_)
  ·cases hZ
  refine VWpG.plain (Qa c) ?_
  refine rn trivial ?_
  refine VWpG.weakG (VWpG.mono (QEs c h1' h1'.length hp.length kc bt bp bu hbb f e L' Pg U hl3 q4 q1 (q2.trans hc0) k kp e.lsn ea ab en P hPl q5 hn h1 h2 h3 h4 h5) (QbI ?_)) (WeakG.slots rfl rfl ?_)
  ·rintro r h' g' ⟨b,e1,e2,e3⟩
   refine ⟨b,e1,e2,fun hb=>?_⟩
   obtain ⟨⟨e4,kp',e5,e6⟩,e7⟩:=e3 hb
   exact ⟨q6.trans e4 fun _ _ h=>h,⟨kp',e5.imp id fun h=>by omega,e6⟩,e7⟩
  ·intro p hp
   simp only [Jj,Ji,or_false] at hp
   rcases hp with rfl | rfl<;>exact .inl rfl
 ·rw [hch] at hcg
  refine rn (Ja @q4' @hl3) ?_
  refine Qag hcg rfl ?_
  refine rn (Ja @q4' @hl3) ?_
  refine QcK rfl rfl rfl (Qyw h1' _ kc bt bp bu f e Pg q1 (q2.trans hc0) (by simp [ckG])) ?_
  rintro r h2' g2 ⟨rfl,⟨x,rfl⟩,rfl⟩
  refine rn trivial ?_
  rw [QGk hbb.1 hbb.2.2]
  cases hpb:pagedB f Pg e
  ·refine VWpG.cond rfl (fun hZ=>?_) (fun hZ=>?_)
   ·refine VWpG.plain (Qa c) ?_
    refine rn trivial ?_
    exact ⟨false,rfl,rfl,fun h=>by cases h⟩
   ·cases hZ
  ·refine VWpG.cond rfl (fun hZ=>?_) (fun hZ=>?_)
   ·cases hZ
   refine VWpG.plain (Qa c) ?_
   refine rn trivial ?_
   refine VWpG.weakG (VWpG.mono (QEs c (h1' ++ [x]) (h1'.length + 1) hp.length kc bt bp bu hbb f e L' (Qq9 Pg e.c.pg e.lsn) U (by simp; omega) ((Qq hl3).trans q4) (by simp; omega) ((Qq q1).trans (q2.trans hc0)) k kp e.lsn ea ab en P hPl q5.app hn h1 h2 h3 h4 h5) (QbI ?_)) (WeakG.slots rfl rfl ?_)
   ·rintro r h' g' ⟨b,e1,e2,e3⟩
    refine ⟨b,e1,e2,fun hb=>?_⟩
    obtain ⟨⟨e4,kp',e5,e6⟩,e7⟩:=e3 hb
    exact ⟨(q6.app [x]).trans e4 fun _ _ h=>h,⟨kp',e5.imp id fun h=>by simp at h; omega,e6⟩,e7⟩
   ·intro p hp
    simp only [Jj,Ji,or_false] at hp
    rcases hp with rfl | rfl<;>exact .inl rfl
end
def RunP (hp:Qb) (k:Nat) (kpo:Option Nat) (la:Int) (ea ab en:Bool) (P:List E):Prop:=k < hp.length/\match kpo with
 | none=>P = []/\Qc hp k = some (rnC la ea ab en (.pv (.slc [])))
 | some kp=>Qc hp k = some (rnC la ea ab en (.own kp 13 0 P.length))/\kp < hp.length/\hp[kp]? = some ⟨73,true,cells encE P⟩
def RunP.ok (h:RunP hp k kpo la ea ab en P):RunOk hp k (kpo.getD (hp.length + 7)) la ea ab en P:=by
 obtain ⟨h1,h2⟩:=h
 cases kpo with
 | none=>exact ⟨h1,_,h2.2,.inl ⟨h2.1,rfl⟩⟩
 | some kp=>exact ⟨h1,_,h2.1,.inr ⟨rfl,h2.2.1,h2.2.2⟩⟩
def RunOk.toP (h:RunOk hp k kp la ea ab en P):RunP hp k none la ea ab en P\/(RunP hp k (some kp) la ea ab en P):=by
 obtain ⟨h1,p,h2,h3⟩:=h
 rcases h3 with ⟨rfl,rfl⟩ | ⟨rfl,h4,h5⟩
 ·exact .inl ⟨h1,rfl,h2⟩
 ·exact .inr ⟨h1,h2,h4,h5⟩
def RunP.fr (h:RunP hp k kpo la ea ab en P) (hf:FrH hp h' A) (hk:¬ A k) (hkp:∀ kp,kpo = some kp->¬ A kp):RunP h' k kpo la ea ab en P:=by
 obtain ⟨h1,h2⟩:=h
 have hb:=QiW (hf.same k h1 hk)
 refine ⟨JH h1 hf.len,?_⟩
 cases kpo with
 | none=>exact ⟨h2.1,by rw [hb]; exact h2.2⟩
 | some kp=>exact ⟨by rw [hb]; exact h2.1,JH h2.2.1 hf.len,by rw [hf.same kp h2.2.1 (hkp kp rfl)]; exact h2.2.2⟩
def QpL (hp:Qb) (kc bt bp bu:Nat) (f:Int) (e:E) (L:List (Int × DV)) (Pg:List (Int × Int)) (U:List Int) (hk:kc < hp.length) (hc:Qc hp kc = some (ckC f bt bp bu)) (k kp:Nat) (la:Int) (ea ab en:Bool) (P:List E) (hr:RunOk hp k kp la ea ab en P) (hn:QbX L e.tx = some (.ptr k 0)) (h1:k ≠ kp) (h2:k ≠ kc) (h5:kp ≠ hp.length) (B:Blk) (hB:B = ⟨73,true,e.d⟩) :
 VCallsG prog 65 [.ptr kc 0,.agg e.d] (hp ++ [B]) (ckG bt bp bu L Pg U) (fun r h' g'=>r = .bool (decide (e.ptx = la) && !en)/\QnQ hp kc e k kp ea ab en P h'/\g' = ckG bt bp bu L Pg U):=by
 have hr':=hr.app (r:=[B])
 obtain ⟨hkk,p,hkc,hp0⟩:=hr
 refine (Qu7 (hp ++ [B]) _ kc bt bp bu f e L (by simp; omega) ((Qq hk).trans hc) (by simp [ckG]) k la ea ab en p (by simp; omega) ((Qq hkk).trans hkc) hn).mono ?_
 rintro r h' g' ⟨rfl,⟨x,rfl⟩,rfl⟩
 have hl:(Qj (hp ++ [B]) k (rnC e.lsn ea ab en p)).length = hp.length + 1:=by rw [Qs]; simp
 have hfr:FrH hp (Qj (hp ++ [B]) k (rnC e.lsn ea ab en p) ++ [x]) (fun j=>j = k\/j = kp):=((((FrH.refl _ _).app [B])).set (.inl rfl) _).app _
 refine ⟨rfl,⟨by simp [hl]; omega,?_,by simp [hl],?_,⟨by simp [hl]; omega,p,?_,?_⟩,hfr⟩,rfl⟩
 ·rw [Qq (by omega),QiV h2,Qq hk]
 ·rw [Qq (by omega),QiV (by omega),Qj5,hB]<;>rfl
 ·rw [Qq (by omega),QaC,Qq hkk,hkc]<;>rfl
 ·rcases hp0 with h | ⟨e1,e2,e3⟩
  ·exact .inl h
  ·exact .inr ⟨e1,by simp [hl]; omega,by rw [Je (by omega),QbD h1,Je e2]; exact e3⟩
def Qw6 (hp:Qb) (kc bt bp bu:Nat) (hbb:bt ≠ bp/\bt ≠ bu/\bp ≠ bu) (f:Int) (e:E) (L:List (Int × DV)) (Pg:List (Int × Int)) (U:List Int) (hk:kc < hp.length) (hc:Qc hp kc = some (ckC f bt bp bu)) (hn:QbX L e.tx = none) (kp:Nat) (B:Blk) (hB:B = ⟨73,true,e.d⟩) :
 VCallsG prog 65 [.ptr kc 0,.agg e.d] (hp ++ [B]) (ckG bt bp bu L Pg U) (fun r h' g'=>r = .bool (decide (e.ptx < f))/\QnQ hp kc e (hp.length + 2) kp (decide (0 < e.ptx)) false false [] h'/\g' = ckG bt bp bu (Qee L e.tx (.ptr (hp.length + 2) 0)) Pg U):=by
 refine (Qu8 (hp ++ [B]) _ kc bt bp bu f e L (by simp; omega) ((Qq hk).trans hc) (by simp [ckG]) hn).mono ?_
 rintro r h' g' ⟨rfl,⟨x,rfl⟩,rfl⟩
 have hl:(hp ++ [B]).length = hp.length + 1:=by simp
 refine ⟨rfl,⟨by simp<;>omega,?_,by simp<;>omega,?_,⟨by simp,.pv (.slc []),?_,.inl ⟨rfl,rfl⟩⟩,(((FrH.refl _ _).app [B]).app [x]).app _⟩,?_⟩
 ·rw [Qq (by simp; omega),Qq (by simp; omega),Qq hk]
 ·rw [Qq (by simp),Qq (by simp),Qj5,hB]; rfl
 ·rw [QnI (by simp)]; simp [Qc]
 ·rw [QGj hbb.1 hbb.2.1,hl]
structure Tr where
 tx:Int
 last:Int
 ea:Bool
 ab:Bool
 en:Bool
 P:List E
structure Ck where
 T:List Tr
 Pg:List (Int × Int)
 U:List Int
def Qpx:List Tr->Tr->List Tr
 | [],t=>[t]
 | a :: r,t=>if a.tx = t.tx then t :: r else a :: Qpx r t
def Qih (T:List Tr) (x:Int):Option Tr:=T.find? fun t=>decide (t.tx = x)
def ckB (f:Int) (A:Ck) (e:E):Bool:=if e.tx = 0 then true else match Qih A.T e.tx with
 | some t=>(decide (e.ptx = t.last) && !t.en) && ((!Qcd e || pagedB f A.Pg e) && Qh0 f A.U e t.ea t.ab t.P)
 | none=>decide (e.ptx < f) && ((!Qcd e || pagedB f A.Pg e) && Qh0 f A.U e (decide (0 < e.ptx)) false [])
def ckS (f:Int) (A:Ck) (e:E):Ck:=if e.tx = 0 then A else match Qih A.T e.tx with
 | some t=>⟨Qpx A.T ⟨e.tx,e.lsn,t.ea,nab e t.ab,nen e t.en,Qd8 f e t.P⟩,if Qcd e = true then Qq9 A.Pg e.c.pg e.lsn else A.Pg,Qjp A.U e⟩
 | none=>⟨Qpx A.T ⟨e.tx,e.lsn,decide (0 < e.ptx),nab e false,nen e false,Qd8 f e []⟩,if Qcd e = true then Qq9 A.Pg e.c.pg e.lsn else A.Pg,Qjp A.U e⟩
structure TX where
 t:Tr
 k:Nat
 kp:Option Nat
def TX.pos (x:TX):List Nat:=x.k :: x.kp.toList
def QtY (X:List TX):List (Int × DV):=X.map fun x=>(x.t.tx,.ptr x.k 0)
structure RepX (f:Int) (kc bt bp bu:Nat) (hp:Qb) (X:List TX):Prop where
 hk:kc < hp.length
 hc:Qc hp kc = some (ckC f bt bp bu)
 run:∀ x ∈ X,RunP hp x.k x.kp x.t.last x.t.ea x.t.ab x.t.en x.t.P
 nd:(kc :: X.flatMap TX.pos).Nodup
def Rep (f:Int) (kc bt bp bu:Nat) (n:Nat) (hp:Qb) (g:MapsD) (A:Ck):Prop:=∃ X:List TX,X.map (·.t) = A.T/\g = ckG bt bp bu (QtY X) A.Pg A.U/\RepX f kc bt bp bu hp X/\∀ t ∈ A.T,t.P.length<=n
def QEI (X:List TX) (x:Int):QbX (QtY X) x = (X.find? fun y=>decide (y.t.tx = x)).map fun y=>.ptr y.k 0:=by
 induction X with
 | nil=>rfl
 | cons a r ih =>
   unfold QtY at ih |-
   simp only [Jy,QbX,List.find?_cons]
   by_cases h:a.t.tx = x
   ·simp [h]
   ·simp [h,ih]
def QES (X:List TX) (x:Int):Qih (X.map (·.t)) x = (X.find? fun y=>decide (y.t.tx = x)).map (·.t):=by
 unfold Qih
 rw [List.find?_map]
 rfl
def QkN (f:Int) (e:E) (P:List E):(Qd8 f e P).length<=P.length + 1:=by
 unfold Qd8 Qr5 Qpn nP
 split
 ·split
  ·simp; omega
  ·omega
 ·split<;>simp
def QEj (h:RepX f kc bt bp bu hp X):∀ j ∈ X.flatMap TX.pos,j < hp.length:=by
 intro j hj
 obtain ⟨x,hx,hj⟩:=JN.1 hj
 obtain ⟨h1,h2⟩:=h.run x hx
 unfold TX.pos at hj
 rcases Jj.1 hj with rfl | hj
 ·exact h1
 ·cases hkp:x.kp with
  | none=>rw [hkp] at hj; simp at hj
  | some kp=>rw [hkp] at hj h2; simp at hj; subst hj; exact h2.2.1
def Qn2 (T1 T2:List Tr) (t t':Tr) (h:∀ y ∈ T1,y.tx ≠ t'.tx) (ht:t.tx = t'.tx):Qpx (T1 ++ t :: T2) t' = T1 ++ t' :: T2:=by
 induction T1 with
 | nil=>simp [Qpx,ht]
 | cons a r ih=>simp only [JD,Qpx]; rw [if_neg (h a (by simp)),ih fun y hy=>h y (JB _ hy)]
def Qwx (T:List Tr) (t':Tr) (h:∀ y ∈ T,y.tx ≠ t'.tx):Qpx T t' = T ++ [t']:=by
 induction T with
 | nil=>rfl
 | cons a r ih=>simp only [Qpx]; rw [if_neg (h a (by simp)),ih fun y hy=>h y (JB _ hy)]; rfl
def RunP.ne (h:RunP hp k (some kp) la ea ab en P):kp ≠ k:=fun e=>by
 obtain ⟨_,h1,_,h2⟩:=h
 rw [e] at h2
 have:=Qby h2
 rw [h1] at this
 have:=congrArg Kj (Option.some.inj this)
 rw [Qfq] at this
 simp [rnC] at this
 omega
def QtD (h:(kc :: (X1 ++ x :: X2).flatMap TX.pos).Nodup):x.pos.Nodup/\kc ∉ x.pos/\(∀ j ∈ X1.flatMap TX.pos,j ∉ x.pos)/\(∀ j ∈ X2.flatMap TX.pos,j ∉ x.pos)/\(kc :: (X1 ++ X2).flatMap TX.pos).Nodup:=by
 simp only [Jr,JL,J9,J1,Jp,not_or] at h |-
 obtain ⟨⟨a1,a2,a3⟩,b1,⟨b2,b3,b4⟩,b5⟩:=h
 exact ⟨b2,a2,fun j hj hx=>b5 j hj j (.inl hx) rfl,fun j hj hx=>b4 j hx j hj rfl,⟨a1,a3⟩,b1,b3,fun j hj m hm=>b5 j hj m (.inr hm)⟩
def Qxr (h1:x.pos.Nodup) (h2:kc ∉ x.pos) (h3:∀ j ∈ X1.flatMap TX.pos,j ∉ x.pos) (h4:∀ j ∈ X2.flatMap TX.pos,j ∉ x.pos) (h5:(kc :: (X1 ++ X2).flatMap TX.pos).Nodup):(kc :: (X1 ++ x :: X2).flatMap TX.pos).Nodup:=by
 simp only [Jr,JL,J9,J1,Jp,not_or] at h5 |-
 obtain ⟨⟨a1,a2⟩,b1,b2,b3⟩:=h5
 exact ⟨⟨a1,h2,a2⟩,b1,⟨h1,b2,fun a ha b hb e=>h4 b hb (e ▸ ha)⟩,fun a ha b hb=>hb.elim (fun hb e=>h3 a ha (e ▸ hb)) (fun hb=>b3 a ha b hb)⟩
def Qs4 {f:Int} {kc bt bp bu:Nat} {hp h':Qb} {X1 X2:List TX} {t':Tr} {k kp kp':Nat} {A:Nat->Prop} (hR:RepX f kc bt bp bu hp (X1 ++ X2)) (hfr:FrH hp h' A) (hkc:¬ A kc) (hA:∀ j ∈ (X1 ++ X2).flatMap TX.pos,¬ A j) (hk:k ≠ kc/\k ∉ (X1 ++ X2).flatMap TX.pos) (hkp:(kp' ≠ kc/\kp' ∉ (X1 ++ X2).flatMap TX.pos))
 (hrun:RunOk h' k kp' t'.last t'.ea t'.ab t'.en t'.P):∃ kpo,RepX f kc bt bp bu h' (X1 ++ ⟨t',k,kpo⟩ :: X2):=by
 have old:∀ y ∈ X1 ++ X2,RunP h' y.k y.kp y.t.last y.t.ea y.t.ab y.t.en y.t.P:=fun y hy=>
  (hR.run y hy).fr hfr (hA _ (JN.2 ⟨y,hy,by simp [TX.pos]⟩)) fun kp h=>hA _ (JN.2 ⟨y,hy,by simp [TX.pos,h]⟩)
 have fin:∀ kpo,RunP h' k kpo t'.last t'.ea t'.ab t'.en t'.P->(∀ j ∈ kpo.toList,j = kp')->RepX f kc bt bp bu h' (X1 ++ ⟨t',k,kpo⟩ :: X2):=fun kpo hr hj=>by
  refine ⟨JH hR.hk hfr.len,by rw [QiW (hfr.same kc hR.hk hkc)]; exact hR.hc,fun y hy=>?_,?_⟩
  ·rcases Jp.1 hy with hy | hy
   ·exact old y (Jq _ hy)
   ·rcases Jj.1 hy with rfl | hy
    ·exact hr
    ·exact old y (Jm _ hy)
  ·have hin:∀ j,j ∈ (⟨t',k,kpo⟩:TX).pos->j = k\/j = kp':=fun j h=>by
    unfold TX.pos at h
    rcases Jj.1 h with h | h
    ·exact .inl h
    ·exact .inr (hj j h)
   have hno:∀ j ∈ (X1 ++ X2).flatMap TX.pos,j ∉ (⟨t',k,kpo⟩:TX).pos:=fun j h h2=>by
    rcases hin j h2 with rfl | rfl
    ·exact hk.2 h
    ·exact hkp.2 h
   refine Qxr ?_ (fun h=>?_) (fun j h=>hno j (by rw [Jr]; exact Jq _ h)) (fun j h=>hno j (by rw [Jr]; exact Jm _ h)) hR.nd
   ·cases kpo with
    | none=>simp [TX.pos]
    | some q=>have:=hr.ne; simp [TX.pos,Ne.symm this]
   ·rcases hin kc h with e | e
    ·exact hk.1 e.symm
    ·exact hkp.1 e.symm
 rcases hrun.toP with h | h
 ·exact ⟨none,fin none h (by simp)⟩
 ·exact ⟨some kp',fin _ h (by simp)⟩
def QxO (X1 X2:List TX) (t t':Tr) (k:Nat) (kp kp':Option Nat) (h:t.tx = t'.tx):QtY (X1 ++ ⟨t',k,kp'⟩ :: X2) = QtY (X1 ++ ⟨t,k,kp⟩ :: X2):=by
 simp [QtY,h]
def Qt6 {n:Nat} {T1 T2:List Tr} {t':Tr} (h:∀ t ∈ T1 ++ T2,t.P.length<=n) (h':t'.P.length<=n + 1):∀ t ∈ T1 ++ t' :: T2,t.P.length<=n + 1:=fun t ht=>by
 rcases Jp.1 ht with ht | ht
 ·exact J2 (h t (Jq _ ht))
 ·rcases Jj.1 ht with rfl | ht
  ·exact h'
  ·exact J2 (h t (Jm _ ht))
def QCA (f:Int) (kc bt bp bu n:Nat) (hbb:bt ≠ bp/\bt ≠ bu/\bp ≠ bu) (hp:Qb) (g:MapsD) (A:Ck) (e:E) (hn:n<=9000) (htx:e.tx ≠ 0) (h:Rep f kc bt bp bu n hp g A) :
 VCallsG prog 53 [.ptr kc 0,.agg e.d] hp g (fun r h' g'=>∃ b,r = .bool b/\b = ckB f A e/\(b = true->Rep f kc bt bp bu (n + 1) h' g' (ckS f A e))):=by
 obtain ⟨X,hX,rfl,hR,hlen⟩:=h
 have hget:=QEI X e.tx
 have hfind:=QES X e.tx
 rw [hX] at hfind
 have hpl:=QEj hR
 cases hf:X.find? (fun y=>decide (y.t.tx = e.tx)) with
 | some x =>
   rw [hf] at hget hfind
   simp only [Ka] at hget hfind
   obtain ⟨htx',X1,X2,hXe,hX1⟩:=List.find?_eq_some_iff_append.1 hf
   subst hXe
   have hxm:x ∈ X1 ++ x :: X2:=by simp
   have htx':x.t.tx = e.tx:=by simpa using htx'
   have hrx:=hR.run x hxm
   have hlx:x.t.P.length<=n:=hlen x.t (by rw [<- hX]; exact Jv.2 ⟨x,hxm,rfl⟩)
   obtain ⟨n1,n2,n3,n4,n5⟩:=QtD hR.nd
   have hkm:x.k ∈ x.pos:=by simp [TX.pos]
   have hkc:x.k ≠ kc:=fun h=>n2 (h ▸ hkm)
   have hkpm:∀ kp,x.kp = some kp->kp ∈ x.pos:=fun kp h=>by simp [TX.pos,h]
   have hkp:x.k ≠ x.kp.getD (hp.length + 7):=by
    cases hkp:x.kp with
    | none=>have:=hrx.1; simp; omega
    | some kp=>unfold TX.pos at n1; rw [hkp] at n1; simp at n1 |-; exact n1
   have hkpc:x.kp.getD (hp.length + 7) ≠ kc:=by
    cases hkp:x.kp with
    | none=>have:=hR.hk; simp; omega
    | some kp=>exact fun h=>n2 (h ▸ hkpm kp hkp)
   have hkpl:x.kp.getD (hp.length + 7) ≠ hp.length:=by
    cases hkp:x.kp with
    | none=>simp
    | some kp=>rw [hkp] at hrx; have:=hrx.2.2.1; simp; omega
   have hkl:x.k ≠ hp.length:=by have:=hrx.1; omega
   have hsub:∀ j ∈ (X1 ++ X2).flatMap TX.pos,j < hp.length/\j ∉ x.pos:=fun j hj=>by
    rw [Jr] at hj
    have:j ∈ (X1 ++ x :: X2).flatMap TX.pos:=by
     rw [Jr,JL]
     rcases Jp.1 hj with h | h
     ·exact Jq _ h
     ·exact Jm _ (Jm _ h)
    exact ⟨hpl j this,(Jp.1 hj).elim (n3 j) (n4 j)⟩
   have hnA:∀ j,j < hp.length->j ∉ x.pos->¬ (j = x.k\/j = x.kp.getD (hp.length + 7)):=fun j hj hx h=>by
    rcases h with rfl | h
    ·exact hx hkm
    ·cases hkp:x.kp with
     | none=>rw [hkp] at h; simp at h; omega
     | some kp=>rw [hkp] at h; exact hx (by rw [h]; exact hkpm kp hkp)
   refine (Qvl hp kc bt bp bu hbb f e _ _ A.Pg A.U hR.hk hR.hc htx x.k (x.kp.getD (hp.length + 7)) _ x.t.ea x.t.ab x.t.en x.t.P (by omega) hget hkp hkc hkl hkpc hkpl
    (QpL hp kc bt bp bu f e _ A.Pg A.U hR.hk hR.hc x.k (x.kp.getD (hp.length + 7)) x.t.last x.t.ea x.t.ab x.t.en x.t.P hrx.ok hget hkp hkc hkpl)).mono ?_
   rintro r h' g' ⟨b,e1,e2,e3⟩
   refine ⟨b,e1,by rw [e2,ckB,if_neg htx,hfind],fun hb=>?_⟩
   obtain ⟨hfr,⟨kp',hk',hrun⟩,rfl⟩:=e3 hb
   have hR':RepX f kc bt bp bu hp (X1 ++ X2):=⟨hR.hk,hR.hc,fun y hy=>hR.run y (by rcases Jp.1 hy with h | h; exact Jq _ h; exact Jm _ (JB _ h)),n5⟩
   obtain ⟨kpo,hR2⟩:=Qs4 (t':=⟨e.tx,e.lsn,x.t.ea,nab e x.t.ab,nen e x.t.en,Qd8 f e x.t.P⟩) (k:=x.k) (kp:=0) (kp':=kp') hR' hfr (hnA kc hR.hk n2) (fun j hj=>hnA j (hsub j hj).1 (hsub j hj).2) ⟨hkc,fun h=>(hsub _ h).2 hkm⟩
    ⟨by rcases hk' with rfl | h; exact hkpc; have:=hR.hk; omega,fun h=>by
     have h1:=hsub _ h
     rcases hk' with rfl | h2
     ·exact hnA _ h1.1 h1.2 (.inr rfl)
     ·omega⟩ hrun
   rw [ckS,if_neg htx,hfind]
   refine ⟨_,?_,?_,hR2,?_⟩
   ·rw [<- hX]
    simp only [Kb,Jy]
    exact (Qn2 _ _ _ _ (fun y hy=>by
     obtain ⟨z,hz,rfl⟩:=Jv.1 hy
     have:=hX1 z hz
     simpa using this) htx').symm
   ·obtain ⟨xt,xk,xkp⟩:=x
    rw [QxO X1 X2 xt _ xk xkp kpo htx']
   ·rw [<- hX] at hlen |-
    simp only [Kb,Jy] at hlen |-
    rw [Qn2 _ _ _ _ (fun y hy=>by
     obtain ⟨z,hz,rfl⟩:=Jv.1 hy
     have:=hX1 z hz
     simpa using this) htx']
    exact Qt6 (fun t ht=>hlen t (by rcases Jp.1 ht with h | h; exact Jq _ h; exact Jm _ (JB _ h))) (Jg (QkN f e _) (by omega))
 | none =>
   rw [hf] at hget hfind
   simp only [Option.map_none] at hget hfind
   have hno:∀ y ∈ X,y.t.tx ≠ e.tx:=fun y hy=>by
    have:=JW.1 hf y hy
    simpa using this
   have hput:Qee (QtY X) e.tx (.ptr (hp.length + 2) 0) = QtY X ++ [(e.tx,.ptr (hp.length + 2) 0)]:=by
    have:((QtY X).map (·.1)).findIdx? (fun x=>decide (x = e.tx)) = none:=by
     rw [List.findIdx?_eq_none_iff]
     intro q hq
     obtain ⟨p,hp',rfl⟩:=Jv.1 hq
     obtain ⟨y,hy,rfl⟩:=Jv.1 hp'
     simpa using hno y hy
    exact (Qld _ _ _ this).1
   have hget':QbX (Qee (QtY X) e.tx (.ptr (hp.length + 2) 0)) e.tx = some (.ptr (hp.length + 2) 0):=by rw [QoK,if_pos rfl]
   have hkk:=hR.hk
   refine (Qvl hp kc bt bp bu hbb f e _ _ A.Pg A.U hR.hk hR.hc htx (hp.length + 2) (hp.length + 3) _ (decide (0 < e.ptx)) false false [] (by simp) hget' (by omega) (by omega) (by omega) (by omega) (by omega)
    (Qw6 hp kc bt bp bu hbb f e _ A.Pg A.U hR.hk hR.hc hget (hp.length + 3))).mono ?_
   rintro r h' g' ⟨b,e1,e2,e3⟩
   refine ⟨b,e1,by rw [e2,ckB,if_neg htx,hfind],fun hb=>?_⟩
   obtain ⟨hfr,⟨kp',hk',hrun⟩,rfl⟩:=e3 hb
   have hge:hp.length<=kp':=by rcases hk' with rfl | h; omega; exact h
   obtain ⟨kpo,hR2⟩:=Qs4 (X1:=X) (X2:=[]) (t':=⟨e.tx,e.lsn,decide (0 < e.ptx),nab e false,nen e false,Qd8 f e []⟩) (k:=hp.length + 2) (kp:=0) (kp':=kp') (by rw [Jx]; exact hR) hfr (by omega) (fun j hj=>by rw [Jx] at hj; have:=hpl j hj; omega) ⟨by omega,fun h=>by rw [Jx] at h; have:=hpl _ h; omega⟩ ⟨by omega,fun h=>by rw [Jx] at h; have:=hpl _ h; omega⟩ hrun
   rw [ckS,if_neg htx,hfind]
   have hset:Qpx A.T ⟨e.tx,e.lsn,decide (0 < e.ptx),nab e false,nen e false,Qd8 f e []⟩ = A.T ++ [⟨e.tx,e.lsn,decide (0 < e.ptx),nab e false,nen e false,Qd8 f e []⟩]:=Qwx _ _ fun y hy=>by
    rw [<- hX] at hy
    obtain ⟨z,hz,rfl⟩:=Jv.1 hy
    exact hno z hz
   refine ⟨_,?_,?_,hR2,?_⟩
   ·dsimp only
    rw [hset,<- hX]
    simp
   ·rw [hput]
    simp [QtY]
   ·dsimp only
    rw [hset]
    exact Qt6 (T2:=[]) (by rw [Jx]; exact hlen) (Jg (QkN f e _) (by simp))
section
attribute [local go_sem] Ce.d Ch.d E.d Qfq Qim Qil Qh2 Qh1 Qie QcA Qq2 Qq1 Qq0 E.q Ju
attribute [local go_sem] Lg.c
theorem QG0:QK prog 120 = some [.pv (.lit (.int .i64 0)),.pv (.lit (.map none)),.pv (.lit (.map none)),.pv (.lit (.map none))]:=by kernel_rfl
attribute [local go_sem] QG0
def QyB (hp:Qb) (g:MapsD) (kc:Nat) (e:E) (htx:e.tx = 0):VCallsG prog 53 [.ptr kc 0,.agg e.d] hp g (fun r h' g'=>r = .bool true/\(∃ x,h' = hp ++ [x])/\g' = g):=by
 refine Q4 (fn:=Tryz.f53) Tryz.func53 rfl (by kernel_rfl) (by simp [Tryz.f53]) (fun c=>?_)
 refine VWpG.first (Qa c) ?_
 (unfold Tryz.f53; refine rn trivial ?_)
 refine VWpG.seq ?_
 refine VWpG.first (Qa c) ?_
 refine rn @htx ?_
 refine VWpG.cond rfl (fun hZ=>?_) (fun hZ=>?_)
 ·refine VWpG.plain (Qa c) ?_
  refine rn trivial ?_
  exact ⟨_,rfl⟩
 ·cases hZ
def Rep.app (h:Rep f kc bt bp bu n hp g A) (r:Qb):Rep f kc bt bp bu n (hp ++ r) g A:=by
 obtain ⟨X,h1,h2,h3,h4⟩:=h
 refine ⟨X,h1,h2,⟨by rw [Jb]; have:=h3.hk; omega,by rw [Qq h3.hk]; exact h3.hc,fun x hx=>(h3.run x hx).fr ((FrH.refl hp (fun _=>False)).app r) id fun _ _=>id,h3.nd⟩,h4⟩
def Rep.le (h:Rep f kc bt bp bu n hp g A) (hm:n<=m):Rep f kc bt bp bu m hp g A:=by
 obtain ⟨X,h1,h2,h3,h4⟩:=h
 exact ⟨X,h1,h2,h3,fun t ht=>Jg (h4 t ht) hm⟩
def QE2 (f:Int) (kc bt bp bu n:Nat) (hbb:bt ≠ bp/\bt ≠ bu/\bp ≠ bu) (hp:Qb) (g:MapsD) (A:Ck) (e:E) (hn:n<=9000) (h:Rep f kc bt bp bu n hp g A) :
 VCallsG prog 53 [.ptr kc 0,.agg e.d] hp g (fun r h' g'=>∃ b,r = .bool b/\b = ckB f A e/\(b = true->Rep f kc bt bp bu (n + 1) h' g' (ckS f A e))):=by
 by_cases htx:e.tx = 0
 ·refine (QyB hp g kc e htx).mono ?_
  rintro r h' g' ⟨rfl,⟨x,rfl⟩,rfl⟩
  refine ⟨true,rfl,by rw [ckB,if_pos htx],fun _=>?_⟩
  rw [ckS,if_pos htx]
  exact (h.app _).le (Nat.le_succ n)
 ·exact QCA f kc bt bp bu n hbb hp g A e hn htx h
def ckL (f:Int):Ck->List E->Bool
 | _,[]=>true
 | A,e :: r=>ckB f A e && ckL f (ckS f A e) r
def ckA (f:Int):Ck->List E->Ck
 | A,[]=>A
 | A,e :: r=>ckA f (ckS f A e) r
def Ck0:Ck:=⟨[],[],[]⟩
def QqE (x:Lg):Int:=if lgB x = true then (if ckL x.f Ck0 x.es = true then 0 else 13) else 26
def Qj2 (f:Int):∀ (l m:List E) (A:Ck),ckL f A (l ++ m) = (ckL f A l && ckL f (ckA f A l) m)
 | [],m,A=>by simp [ckL,ckA]
 | e :: r,m,A=>by simp only [JD,ckL,ckA,Qj2 f r m,JU]
def QnG (f:Int):∀ (l m:List E) (A:Ck),ckA f A (l ++ m) = ckA f (ckA f A l) m
 | [],m,A=>rfl
 | e :: r,m,A=>by simp only [JD,ckA,QnG f r m]
def maps3 {c:Qe5} {w0 w:World} {β:Map} {hp:Qb} {a b d:Nat × QyW} (h:MapsD.At c [a,b,d] w0 w β hp):MapsD.At c [d,b,a] w0 w β hp:=by
 obtain ⟨⟨h1,h2⟩,h3⟩:=h
 refine ⟨⟨?_,fun p hp=>h2 p (by simp at hp |-; rcases hp with h | h | h<;>simp [h])⟩,h3⟩
 simp at h1 |-
 exact ⟨⟨Ne.symm h1.2,Ne.symm h1.1.2⟩,Ne.symm h1.1.1⟩
def WeakG.trans (h:WeakG Γ S g S' g') (h':WeakG Γ S' g' S'' g''):WeakG Γ S g S'' g'':=fun O β a w hs=>by
 obtain ⟨β',hs'⟩:=h O β a w hs
 exact h' O β' a w hs'
def WeakG.maps3:WeakG (MapsIn c) S [a,b,d] S [d,b,a]:=fun O β ac w hs=>⟨β,hs.defers,hs.size,hs.tm,hs.heap,hs.evo,Go.Proofs.YtdkdbodcffiiaaaGreat.maps3 hs.g⟩
def QjW {l:List E} (h:i < l.length):l.take (i + 1) = l.take i ++ [l.getD i E0]:=by
 rw [Qm l i h,List.take_succ_eq_append_getElem h]
def Qyn (h:i < l.length):l = l.take i ++ l.getD i E0 :: l.drop (i + 1):=by
 have:=List.take_append_drop (i + 1) l
 rw [QjW h,Jk] at this
 exact this.symm
structure CL (x:Lg) (bt bp bu:Nat) where
 i:Nat
 hi:i<=x.es.length
 hp:Qb
 g:MapsD
 rep:Rep x.f 1 bt bp bu i hp g (ckA x.f Ck0 (x.es.take i))
 ok:ckL x.f Ck0 (x.es.take i) = true
def QyE (x:Lg) (hx:x.es.length<=9223372036854775807):VCalls prog 41 [.agg x.c] [] (Ret (.int .i64 (QqE x))):=by
 refine QcF (fn:=Tryz.f41) Tryz.func41 rfl (by kernel_rfl) (by simp [Tryz.f41]) (fun c=>?_)
 have hv:=QoD x hx
 unfold Lg.c at hv
 refine VWpG.first (Qa c) ?_
 (unfold Tryz.f41; refine rn trivial ?_)
 refine VWpG.seq ?_
 refine VWpG.first (Qa c) ?_
 refine rn trivial ?_
 refine Qag hv rfl ?_
 refine rn trivial ?_
 cases hlg:lgB x
 ·refine VWpG.cond rfl (fun hZ=>?_) (fun hZ=>?_)
  ·refine VWpG.plain (Qa c) ?_
   refine rn trivial ?_
   rw [QqE,hlg]; rfl
  ·cases hZ
 refine VWpG.cond rfl (fun hZ=>?_) (fun hZ=>?_)
 ·cases hZ
 refine VWpG.plain (Qa c) ?_
 refine rn trivial ?_
 refine VWpG.seq ?_
 refine VWpG.cut1 (Qa c) 2 [0,0] ?_
 refine rn trivial ?_
 refine QO rfl (fun c=>by simp) (Qdn rfl rfl fun bt h1=>Qdy ?_)
 refine rn trivial ?_
 refine QO rfl (fun c=>by simp) (Qdn rfl rfl fun bp h2=>Qdy ?_)
 refine rn trivial ?_
 refine QO rfl (fun c=>by simp) (Qdn rfl rfl fun bu h3=>?_)
 refine rn trivial ?_
 have hbb:bt ≠ bp/\bt ≠ bu/\bp ≠ bu:=⟨h2 (bt,[]) (by simp),h3 (bt,[]) (by simp),h3 (bp,[]) (by simp)⟩
 have hes:x.es.length<=4096:=(QT hlg).2.2.1
 refine VWpG.seq ?_
 refine VWpG.first (Qa c) ?_
 refine rn trivial ?_
 refine VWpG.block ?_
 have rep0:Rep x.f 1 bt bp bu 0 [⟨32,true,[.int .i64 x.f,.pv (.sl (fz encE x.es)),.int .i64 x.d]⟩,⟨120,true,[.int .i64 x.f,.pv (.lit (.map (some bt))),.pv (.lit (.map (some bp))),.pv (.lit (.map (some bu)))]⟩] [(bt,[]),(bp,[]),(bu,[])] (ckA x.f Ck0 (x.es.take 0)):=
  ⟨[],rfl,rfl,⟨by simp,rfl,by simp,by simp⟩,by simp [ckA,Ck0]⟩
 refine VWpG.loop (fun s:CL x bt bp bu=>⟨28,2,[(19,.int .i64 s.i),(18,.int .i64 x.es.length),(17,.pv (.sl (fz encE x.es))),(3,.ptr 1 0)],s.hp⟩) (fun s=>s.g) (fun s=>x.es.length - s.i) ⟨0,Jf _,_,_,rep0,rfl⟩ ?_ ?_
 ·refine WeakG.trans (WeakG.slots (S':=⟨28,2,[(19,.int .i64 (0:Nat)),(18,.int .i64 x.es.length),(17,.pv (.sl (fz encE x.es))),(3,.ptr 1 0)],_⟩) rfl rfl ?_) WeakG.maps3
  intro p hp
  simp only [Jj,Ji,or_false] at hp
  rcases hp with rfl | rfl | rfl | rfl<;>exact .inl rfl
 rintro ⟨i,hi,hp,g,rep,ok⟩
 dsimp only
 refine VWpG.first (Qa c) ?_
 refine rn trivial ?_
 refine VWpG.seq ?_
 by_cases hlt:i < x.es.length
 ·have hg:=Qnu x.es i hlt
  have hd:decide ((i:Int) < x.es.length) = true:=by simp; omega
  have hrk:1 < hp.length:=by obtain ⟨X,_,_,h,_⟩:=rep; exact h.hk
  refine VWpG.cond (t:=true) (by rw [<- hd]; rfl) (fun _=>?_) (fun h=>by cases h)
  refine VWpG.plain (Qa c) ?_
  refine rn trivial ?_
  refine VWpG.seq ?_
  refine VWpG.block ?_
  refine VWpG.first (Qa c) ?_
  refine rn @hg ?_
  refine VWpG.seq ?_
  refine VWpG.cut1 (Qa c) 2 [] ?_
  refine rn trivial ?_
  refine QcK rfl rfl rfl (QE2 x.f 1 bt bp bu i hbb _ g _ (x.es.getD i E0) (by omega) (rep.app _)) ?_
  rintro r h' g' ⟨b,rfl,hb,hrep⟩
  cases b
  ·(refine rn trivial ?_; try with_reducible exact ⟨⟩)
   refine VWpG.cond rfl (fun hZ=>?_) (fun hZ=>?_)
   ·refine VWpG.plain (Qa c) ?_
    refine rn trivial ?_
    rw [QqE,if_pos hlg,if_neg]
    rw [Qyn hlt,Qj2,ckL,<- hb]
    simp
   ·cases hZ
  ·(refine rn trivial ?_; try with_reducible exact ⟨⟩)
   refine VWpG.cond rfl (fun hZ=>?_) (fun hZ=>?_)
   ·cases hZ
   refine VWpG.plain (Qa c) ?_
   refine rn trivial ?_
   refine VWpG.plain (Qa c) ?_
   refine rn trivial ?_
   have hA:ckA x.f Ck0 (x.es.take (i + 1)) = ckS x.f (ckA x.f Ck0 (x.es.take i)) (x.es.getD i E0):=by rw [QjW hlt,QnG]; rfl
   refine ⟨⟨i + 1,hlt,h',g',by rw [hA]; exact hrep rfl,by rw [QjW hlt,Qj2,ok,ckL,<- hb]; rfl⟩,by dsimp only; omega,WeakG.slots rfl rfl ?_⟩
   intro p hp
   simp only [Jj,Ji,or_false] at hp
   rcases hp with rfl | rfl | rfl | rfl<;>exact .inl rfl
 ·have hd:decide ((i:Int) < x.es.length) = false:=by simp; omega
  have hie:i = x.es.length:=by omega
  subst hie
  refine VWpG.cond (t:=false) (by rw [<- hd]; rfl) (fun h=>by cases h) (fun _=>?_)
  refine VWpG.plain (Qa c) ?_
  refine rn trivial ?_
  refine VWpG.plain (Qa c) ?_
  refine rn trivial ?_
  rw [List.take_length] at ok
  rw [QqE,if_pos hlg,if_pos ok]
end
section
attribute [local go_sem] Ce.d Ch.d E.d Lg.c QM Q9
def exE (es:List E) (i:Nat) (p:E->Bool):Bool:=!(JF i).all fun k=>!p (es.getD k E0)
def QlY (s:Okay n fun k=>!p (es.getD k E0)) (h:¬ s.i < n):exE es n p = false:=by unfold exE; rw [s.all h]; rfl
def Qhw (s:Okay n fun k=>!p (es.getD k E0)) (h:s.i < n) (hp:p (es.getD s.i E0) = true):exE es n p = true:=by unfold exE; rw [QaM h (by rw [hp]; rfl)]; rfl
def QcN (es:List E) (i:Nat) (p:E->Bool):exE es (i + 1) p = (exE es i p || p (es.getD i E0)):=by
 unfold exE
 rw [List.range_succ,List.all_append]
 simp [Bool.not_and]
def undp (n:Int) (x:E):Bool:=decide (x.kind = 2) && decide (x.ref = n)
def QkH (es:List E) (i:Nat) (n:Int):Bool:=exE es i (undp n)
def QBu (tx pg sl ab:Int) (x:E):Bool:=decide (x.kind = 1) && (decide (x.tx = tx) && (decide (ab < x.lsn) && (decide (sl < 0) || decide (x.c.pg = pg) && decide (x.c.sl = sl))))
def QvM (es:List E) (i:Nat) (tx pg sl ab:Int) (x:E):Bool:=QBu tx pg sl ab x && !QkH es i x.lsn
def Qkd (es:List E) (i:Nat) (tx pg sl ab:Int):Bool:=exE es i (QvM es i tx pg sl ab)
def Qk2 (x:Lg) (i:Nat) (n:Int) (hi:i<=x.es.length) (hl:x.es.length<=1000000):VCalls prog 97 [.agg x.c,.int .i64 i,.int .i64 n] [] (Ret (.bool (QkH x.es i n))):=by
 refine dd Tryz.func97 ?_
 (unfold Tryz.f97; refine rn trivial ?_)
 refine Qg (fun s:Okay i (fun k=>!undp n (x.es.getD k E0))=>⟨30,0,[(7,.int .i64 s.i),(3,.ptr 0 0),(2,.int .i64 n),(1,.int .i64 i)],[⟨32,true,x.c⟩]⟩) (fun s=>i - s.i) (Okay.start _ _) (gc [0]) ?_
 intro s
 have hs:=s.hi
 by_cases hc:s.i < i
 ·have hc':((s.i:Nat):Int) < i:=by omega
  have hg:=Qbu x.es s.i (by omega)
  obtain ⟨e,he⟩:∃ e,x.es.getD s.i E0 = e:=⟨_,rfl⟩
  rw [he] at hg
  have F:=(Ja @hc' @hg)
  refine rn F ?_
  repeat' (first
   | with_reducible exact ⟨⟩
   | (refine sG F ?_ ?_<;>intro hZ)
   | (refine sB F ?_ ?_<;>intro hZ))
  all_goals first
   | exact congrArg DV.bool (Qhw (p:=undp n) s hc (by rw [he]; simp [undp, *])).symm
   | exact ⟨s.next hc (by rw [he]; simp [undp, *]),s.dec hc,(gc [0])⟩
 ·have hc':¬ ((s.i:Nat):Int) < i:=by omega
  refine rn @hc' ?_
  exact congrArg DV.bool (QlY (p:=undp n) s hc).symm
def QiC (x:Lg) (i:Nat) (tx pg sl ab:Int) (hi:i<=x.es.length) (hl:x.es.length<=1000000):VCalls prog 96 [.agg x.c,.int .i64 i,.int .i64 tx,.int .i64 pg,.int .i64 sl,.int .i64 ab] [] (Ret (.bool (Qkd x.es i tx pg sl ab))):=by
 refine dd Tryz.func96 ?_
 (unfold Tryz.f96; refine rn trivial ?_)
 refine Qg (fun s:Okay i (fun k=>!QvM x.es i tx pg sl ab (x.es.getD k E0))=>⟨66,0,[(13,.int .i64 s.i),(6,.ptr 0 0),(5,.int .i64 ab),(4,.int .i64 sl),(3,.int .i64 pg),(2,.int .i64 tx),(1,.int .i64 i)],[⟨32,true,x.c⟩]⟩) (fun s=>i - s.i) (Okay.start _ _) (gc [0]) ?_
 intro s
 have hs:=s.hi
 by_cases hc:s.i < i
 ·have hc':((s.i:Nat):Int) < i:=by omega
  have hg:=Qbu x.es s.i (by omega)
  have hu:=Qk2 x i (x.es.getD s.i E0).lsn hi hl
  unfold Lg.c at hu
  obtain ⟨e,he⟩:∃ e,x.es.getD s.i E0 = e:=⟨_,rfl⟩
  rw [he] at hg hu
  have F:=(Ja @hc' @hg)
  refine rn F ?_
  repeat' (first
   | with_reducible exact ⟨⟩
   | (refine sG F ?_ ?_<;>intro hZ)
   | (refine sB F ?_ ?_<;>intro hZ)
   | refine vp F (hu) ?_)
  all_goals first
   | exact congrArg DV.bool (Qhw (p:=QvM x.es i tx pg sl ab) s hc (by rw [he]; simp [QvM,QBu, *])).symm
   | exact ⟨s.next hc (by rw [he]; simp [QvM,QBu, *]),s.dec hc,(gc [0])⟩
 ·have hc':¬ ((s.i:Nat):Int) < i:=by omega
  refine rn @hc' ?_
  exact congrArg DV.bool (QlY (p:=QvM x.es i tx pg sl ab) s hc).symm
def Qco (es:List E) (pg:Int):Nat->Int
 | 0=>0
 | k + 1=>if Qcd (es.getD k E0) = true/\(es.getD k E0).c.pg = pg then (es.getD k E0).lsn else Qco es pg k
def Qlk (f:Int) (es:List E) (i:Nat):Bool:=if Qco es (es.getD i E0).c.pg i = 0 then decide ((es.getD i E0).ppg < f) else decide ((es.getD i E0).ppg = Qco es (es.getD i E0).c.pg i)
def QA5 (x:Lg) (i:Nat) (hi:i < x.es.length) (hl:x.es.length<=1000000):VCalls prog 69 [.agg x.c,.int .i64 i] [] (Ret (.bool (Qlk x.f x.es i))):=by
 refine dd Tryz.func69 ?_
 have hgi:=Qbu x.es i hi
 obtain ⟨y,hy⟩:∃ y,x.es.getD i E0 = y:=⟨_,rfl⟩
 rw [hy] at hgi
 (unfold Tryz.f69; refine rn @hgi ?_)
 refine Qg (fun s:To i=>⟨54,0,[(7,.int .i64 s.i),(6,.int .i64 (Qco x.es y.c.pg s.i)),(5,.ptr 1 0),(2,.ptr 0 0),(1,.int .i64 i)],[⟨32,true,x.c⟩,⟨73,true,y.d⟩]⟩) (fun s=>i - s.i) ⟨0,Jf _⟩ (gc [0,1]) ?_
 rintro ⟨k,hk⟩
 dsimp only
 by_cases hc:k < i
 ·have hc':((k:Nat):Int) < i:=by omega
  have hg:=Qbu x.es k (by omega)
  have hch:=Qe1 (x.es.getD k E0)
  have hlast:Qco x.es y.c.pg (k + 1) = if Qcd (x.es.getD k E0) = true/\(x.es.getD k E0).c.pg = y.c.pg then (x.es.getD k E0).lsn else Qco x.es y.c.pg k:=rfl
  obtain ⟨e,he⟩:∃ e,x.es.getD k E0 = e:=⟨_,rfl⟩
  rw [he] at hg hch hlast
  have hch':VCalls prog 63 [.agg e.d] [] (Ret (.bool (Qcd e))):=QaW e
  unfold E.d at hch'
  cases hce:Qcd e
  ·rw [hce,if_neg (by simp)] at hlast
   rw [hce] at hch'
   have F:=(Ja @hc' @hg)
   refine rn F ?_
   repeat' (first
    | with_reducible exact ⟨⟩
    | refine vp F (hch') ?_
    | (refine Qd (id:=6) [0,1,2,3,4] [⟨[],[],5,[0,1,2,3],[6,7,8,9,10,11,12,13,14,15,16,17,18]⟩] (by kernel_rfl) (by kernel_rfl) ?_; refine rn F ?_))
   refine ⟨⟨k + 1,hc⟩,by dsimp only; omega,?_⟩
   dsimp only
   rw [hlast]
   exact (gc [0,1])
  ·rw [hce] at hch' hlast
   have F:=(Ja @hc' @hg)
   refine rn F ?_
   repeat' (first
    | with_reducible exact ⟨⟩
    | (refine sB F ?_ ?_<;>intro hZ)
    | refine vp F (hch') ?_
    | (refine Qd (id:=6) [0,1,2,3,4] [⟨[],[],5,[0,1,2,3],[6,7,8,9,10,11,12,13,14,15,16,17,18]⟩] (by kernel_rfl) (by kernel_rfl) ?_; refine rn F ?_))
   ·rw [if_pos ⟨rfl,hZ⟩] at hlast
    refine ⟨⟨k + 1,hc⟩,by dsimp only; omega,?_⟩
    dsimp only
    rw [hlast]
    exact (gc [0,1])
   ·rw [if_neg (fun h=>hZ h.2)] at hlast
    refine ⟨⟨k + 1,hc⟩,by dsimp only; omega,?_⟩
    dsimp only
    rw [hlast]
    exact (gc [0,1])
 ·have hc':¬ ((k:Nat):Int) < i:=by omega
  have hki:k = i:=by omega
  subst hki
  have hpr:Qlk x.f x.es k = if Qco x.es y.c.pg k = 0 then decide (y.ppg < x.f) else decide (y.ppg = Qco x.es y.c.pg k):=by rw [Qlk,hy]
  have F:=@hc'
  refine rn F ?_
  repeat' (first
   | with_reducible exact ⟨⟩
   | (refine sB F ?_ ?_<;>intro hZ))
  ·rw [hpr,if_pos hZ]
  ·rw [hpr,if_neg hZ]
   exact congrArg DV.bool (Jn _ _)
def Qas (es:List E) (tx:Int):Nat->Int
 | 0=>0
 | k + 1=>if (es.getD k E0).tx = tx then (es.getD k E0).lsn else Qas es tx k
def QfW (es:List E) (tx:Int):Nat->Bool
 | 0=>false
 | k + 1=>if (es.getD k E0).tx = tx then (QfW es tx k || decide ((es.getD k E0).kind = 4)) else QfW es tx k
def Qhx (tx:Int) (x:E):Bool:=decide (x.tx = tx) && (decide (x.kind = 3) || decide (x.kind = 5))
def Qe2 (f tx:Int) (x:E):Bool:=decide (x.tx = tx) && (decide (0 < x.ptx) && decide (x.ptx < f))
def QtO (f:Int) (es:List E) (i:Nat):Bool:=decide (Qas es (es.getD i E0).tx i = 0) && (decide (0 < (es.getD i E0).ptx) && decide ((es.getD i E0).ptx < f))
def txR (f:Int) (es:List E) (i:Nat):Bool:=
 if exE es i (Qhx (es.getD i E0).tx) = true then false
 else if (es.getD i E0).ptx ≠ Qas es (es.getD i E0).tx i/\QtO f es i = false then false
 else if QfW es (es.getD i E0).tx i = true/\(es.getD i E0).kind ≠ 2/\(es.getD i E0).kind ≠ 5 then false
 else if (es.getD i E0).kind ≠ 5 then true
 else (QfW es (es.getD i E0).tx i || (QtO f es i || exE es i (Qe2 f (es.getD i E0).tx))) && !Qkd es i (es.getD i E0).tx 0 (-1) 0
attribute [local go_sem] QcP Qdk Qct Qa2 QaF
def QAO (x:Lg) (i:Nat) (hi:i < x.es.length) (hl:x.es.length<=1000000) (y:E) (hy:x.es.getD i E0 = y) (ab ob:Bool) (rest:Code) (hr:QcJ 8 (QcP Tryz.f68) = rest) :
 VWp prog rest (Qd1 prog [.tmp 4] 0 (Ret (.bool ((ab || (ob || exE x.es i (Qe2 x.f y.tx))) && !Qkd x.es i y.tx 0 (-1) 0)))) ⟨135,0,[(10,.bool ob),(7,.bool ab),(5,.ptr 1 0),(2,.ptr 0 0),(1,.int .i64 i)],[⟨32,true,x.c⟩,⟨73,true,y.d⟩]⟩:=by
 subst hr
 refine Qv _ _ _ ?_
 (unfold Tryz.f68; refine rn trivial ?_)
 refine Qg (fun s:To i=>⟨135,0,[(12,.int .i64 s.i),(11,.bool (ob || exE x.es s.i (Qe2 x.f y.tx))),(7,.bool ab),(5,.ptr 1 0),(2,.ptr 0 0),(1,.int .i64 i)],[⟨32,true,x.c⟩,⟨73,true,y.d⟩]⟩) (fun s=>i - s.i) ⟨0,Jf _⟩ ?_ ?_
 ·rw [show (ob || exE x.es 0 (Qe2 x.f y.tx)) = ob by simp [exE]]
  exact (gc [0,1])
 rintro ⟨k,hk⟩
 dsimp only
 have hs:=QcN x.es k (Qe2 x.f y.tx)
 have hpe:=QiC x i y.tx 0 (-1) 0 (by omega) hl
 unfold Lg.c at hpe
 by_cases hc:k < i
 ·have hc':((k:Nat):Int) < i:=by omega
  have hg:=Qbu x.es k (by omega)
  obtain ⟨e,he⟩:∃ e,x.es.getD k E0 = e:=⟨_,rfl⟩
  rw [he] at hg hs
  generalize exE x.es k (Qe2 x.f y.tx) = q at *
  cases hoq:(ob || q)
  ·skip
   have F:=(Ja @hc' @hg)
   refine rn F ?_
   repeat' (first
    | with_reducible exact ⟨⟩
    | (refine sG F ?_ ?_<;>intro hZ)
    | (refine Qd (id:=23) [0,1,2,3,4,5,6,7,8,9,10,11,12,13,14,15,16,17,18,19,20,21,22,23,24,25,26,27,28,29,30,31] [⟨[],[],32,[],[]⟩] (by kernel_rfl) (by kernel_rfl) ?_; refine rn F ?_))
   all_goals (refine ⟨⟨k + 1,hc⟩,by dsimp only; omega,?_⟩; dsimp only; rw [hs,<- Kg,hoq,JE]; first | (rw [show Qe2 x.f y.tx e = decide (e.ptx < x.f) by simp [Qe2, *]; done]; exact (gc [0,1])) | (rw [show Qe2 x.f y.tx e = false by first | (simp [Qe2, *]; done) | (simp [Qe2, *]; omega)]; exact (gc [0,1])))
  ·skip
   have F:=(Ja @hc' @hg)
   refine rn F ?_
   repeat' (first
    | with_reducible exact ⟨⟩
    | (refine Qd (id:=23) [0,1,2,3,4,5,6,7,8,9,10,11,12,13,14,15,16,17,18,19,20,21,22,23,24,25,26,27,28,29,30,31] [⟨[],[],32,[],[]⟩] (by kernel_rfl) (by kernel_rfl) ?_; refine rn F ?_))
   all_goals (refine ⟨⟨k + 1,hc⟩,by dsimp only; omega,?_⟩; dsimp only; rw [hs,<- Kg,hoq,JI]; exact (gc [0,1]))
 ·have hc':¬ ((k:Nat):Int) < i:=by omega
  have hki:k = i:=by omega
  subst hki
  generalize exE x.es k (Qe2 x.f y.tx) = q at *
  cases ab<;>cases ob<;>cases q
  ·skip
   have F:=@hc'
   (refine rn F ?_; try with_reducible exact ⟨⟩)
  ·skip
   have F:=@hc'
   refine rn F ?_
   repeat' (first
    | with_reducible exact ⟨⟩
    | refine vp F (hpe) ?_)
  ·skip
   have F:=@hc'
   refine rn F ?_
   repeat' (first
    | with_reducible exact ⟨⟩
    | refine vp F (hpe) ?_)
  ·skip
   have F:=@hc'
   refine rn F ?_
   repeat' (first
    | with_reducible exact ⟨⟩
    | refine vp F (hpe) ?_)
  ·skip
   have F:=@hc'
   refine rn F ?_
   repeat' (first
    | with_reducible exact ⟨⟩
    | refine vp F (hpe) ?_)
  ·skip
   have F:=@hc'
   refine rn F ?_
   repeat' (first
    | with_reducible exact ⟨⟩
    | refine vp F (hpe) ?_)
  ·skip
   have F:=@hc'
   refine rn F ?_
   repeat' (first
    | with_reducible exact ⟨⟩
    | refine vp F (hpe) ?_)
  ·skip
   have F:=@hc'
   refine rn F ?_
   repeat' (first
    | with_reducible exact ⟨⟩
    | refine vp F (hpe) ?_)
end
section
abbrev Row:=Nat->Ce
def Qaa:Enc Row:=⟨32,fun r=>(JF 16).flatMap fun j=>[.lit (.bool (r j).set),.str (r j).data],by decide,fun _=>rfl⟩
def QxV (l:List Row):(cells Qaa l).length = l.length * 32:=Qy Qaa l
def QCT (l:List Row) (n:Nat) (h:l.length * 32<=n):(cells Qaa l).take n = cells Qaa l:=by rw [JQ]; rw [QxV]; exact h
def QCO (l m:List Row):cells Qaa l ++ cells Qaa m = cells Qaa (l ++ m):=(Qz Qaa l m).symm
def QCe (h:l.length = len):Qgy n hp 0 32 len (some (cells Qaa l)) = some (.sl (fz Qaa l)):=QZ Qaa h
def QvL:Row:=fun _=>Ce0
def QF1 (n:Nat):mk [.bool false,.pv (.str []),.bool false,.pv (.str []),.bool false,.pv (.str []),.bool false,.pv (.str []),.bool false,.pv (.str []),.bool false,.pv (.str []),.bool false,.pv (.str []),.bool false,.pv (.str []),.bool false,.pv (.str []),.bool false,.pv (.str []),.bool false,.pv (.str []),.bool false,.pv (.str []),.bool false,.pv (.str []),.bool false,.pv (.str []),.bool false,.pv (.str []),.bool false,.pv (.str [])] n = cells Qaa (JC n QvL):=Qov Qaa QvL n
attribute [local go_sem] QF1 Ce.d Ch.d E.d Qfq Qim Qil Qh2 Qh1 Qie QcA QxV QCT QCO QCe Qq2 Qq1 Qq0 Ju Lg.c
def comp (tx:Int) (e:E):Bool:=decide (e.kind = 3) && decide (e.tx = tx)
def Qbb (es:List E) (n:Nat) (tx:Int):Bool:=exE es n (comp tx)
def Qj0 (es:List E) (tx:Int):∀ i,QbX (Qmp es i) tx = if Qbb es i tx = true then some (.agg []) else none
 | 0=>rfl
 | i + 1=>by
   have ih:=Qj0 es tx i
   unfold Qbb at ih |-
   rw [Qmp,QcN]
   generalize es.getD i E0 = e at *
   by_cases hk:e.kind = 3
   ·rw [if_pos hk,QoK,ih]
    by_cases hr:e.tx = tx
    ·rw [if_pos hr]
     simp [comp,hk,hr]
    ·rw [if_neg hr]
     simp [comp,hr]
   ·rw [if_neg hk,ih]
    simp [comp,hk]
def Qrd (es:List E) (com:Int->Bool) (p:Int) (s:Int):Nat->Ce
 | 0=>Ce0
 | i + 1=>if Qcd (es.getD i E0) = true/\com (es.getD i E0).tx = true/\(es.getD i E0).c.pg = p/\(es.getD i E0).c.sl = s then (es.getD i E0).c.a else Qrd es com p s i
def Qgh (es:List E) (com:Int->Bool) (pages:Nat) (i:Nat):List Row:=(JF pages).map fun p=>fun s=>Qrd es com (p:Nat) (s:Nat) i
def QdJ (es:List E) (com:Int->Bool) (pages i:Nat):(Qgh es com pages i).length = pages:=by simp [Qgh]
def QsN (es:List E) (com:Int->Bool) (pages:Nat):Qgh es com pages 0 = JC pages QvL:=by
 unfold Qgh
 rw [List.eq_replicate_iff]
 refine ⟨by simp,fun b hb=>?_⟩
 obtain ⟨p,_,rfl⟩:=Jv.1 hb
 rfl
def QzA (h:lgB x = true) (hi:i < x.es.length) (hc:Qcd (x.es.getD i E0) = true):(0<=(x.es.getD i E0).c.pg/\(x.es.getD i E0).c.pg < 64)/\(0<=(x.es.getD i E0).c.sl/\(x.es.getD i E0).c.sl < 16)/\1<=(x.es.getD i E0).tx:=by
 unfold lgB at h
 rw [Jl,JO] at h
 have h2:=h.2 i (JK.2 hi)
 unfold lgC at h2
 rw [Jl] at h2
 have h4:=h2.2
 generalize x.es.getD i E0 = e at *
 unfold E.okB at h4
 rw [Jl] at h4
 have h5:=h4.2
 unfold Qcd at hc
 simp only [JR,beq_iff_eq] at hc
 unfold E.kindB Ch.okB txB at h5
 rcases hc with hk | hk
 ·rw [if_pos hk] at h5; simp at h5; omega
 ·rw [if_neg (by omega),if_pos hk] at h5; simp at h5; omega
def Row.put (r:Row) (s:Nat) (c:Ce):Row:=fun j=>if s = j then c else r j
def QwX {es:List E} {com:Int->Bool} {pages i p s:Nat} (hc:Qcd (es.getD i E0) = true) (ht:com (es.getD i E0).tx = true) (hp:(es.getD i E0).c.pg = p) (hs:(es.getD i E0).c.sl = s) :
 Qgh es com pages (i + 1) = (Qgh es com pages i).set p (Row.put ((Qgh es com pages i).getD p QvL) s (es.getD i E0).c.a):=by
 refine List.ext_getElem (by simp [Qgh]) fun q h1 h2=>?_
 rw [QdJ] at h1
 rw [List.getElem_set]
 simp only [Qgh,J6,List.getElem_range]
 by_cases hq:p = q
 ·subst hq
  rw [if_pos rfl]
  funext j
  rw [Jh,J3,JV h1]
  simp only [Ka,Option.getD_some,Row.put]
  rw [Qrd]
  by_cases hj:s = j
  ·rw [if_pos hj,if_pos ⟨hc,ht,hp,by omega⟩]
  ·rw [if_neg hj,if_neg (fun h=>hj (by omega))]
 ·rw [if_neg hq]
  funext j
  rw [Qrd,if_neg (fun h=>hq (by omega))]
def QsO {es:List E} {com:Int->Bool} {pages i:Nat} (h:¬ (Qcd (es.getD i E0) = true/\com (es.getD i E0).tx = true/\(es.getD i E0).c.pg < pages)):Qgh es com pages (i + 1) = Qgh es com pages i:=by
 unfold Qgh
 refine List.map_congr_left fun p hp=>?_
 have:=JK.1 hp
 funext j
 rw [Qrd,if_neg (fun q=>h ⟨q.1,q.2.1,by omega⟩)]
def QmS (a b:DV):∀ (off:Nat) (L:List DV),off + 2<=L.length->L.take off ++ [a,b] ++ L.drop (off + 2) = (L.set off a).set (off + 1) b
 | 0,x :: y :: r,_=>by simp
 | 0,[_],h=>by simp at h
 | 0,[],h=>by simp at h
 | off + 1,[],h=>by simp at h
 | off + 1,x :: r,h=>by
   have:=QmS a b off r (by simp at h; omega)
   simp only [List.take_succ_cons,List.drop_succ_cons,List.set_cons_succ,JD]
   rw [<- this]
def QGB (l:List Row) (p s:Nat) (h:p < l.length) (hs:s < 16) (c:Ce):((cells Qaa l).set (p * 32 + s * 2) (.bool c.set)).set (p * 32 + s * 2 + 1) (.pv (.str c.data)) = cells Qaa (l.set p (Row.put (l.getD p QvL) s c)):=by
 have hs':s = 0\/s = 1\/s = 2\/s = 3\/s = 4\/s = 5\/s = 6\/s = 7\/s = 8\/s = 9\/s = 10\/s = 11\/s = 12\/s = 13\/s = 14\/s = 15:=by omega
 have h1:=QFx Qaa l p (s * 2) (Row.put l[p] s ⟨c.set,(l[p] s).data⟩) (.lit (.bool c.set)) h (by show s * 2 < 32; omega) (by
  rcases hs' with rfl | rfl | rfl | rfl | rfl | rfl | rfl | rfl | rfl | rfl | rfl | rfl | rfl | rfl | rfl | rfl<;>rfl)
 have h2:=QFx Qaa (l.set p (Row.put l[p] s ⟨c.set,(l[p] s).data⟩)) p (s * 2 + 1) (Row.put l[p] s c) (.str c.data) (by rw [JG]; exact h) (by show s * 2 + 1 < 32; omega) (by
  rw [List.getElem_set_self]
  rcases hs' with rfl | rfl | rfl | rfl | rfl | rfl | rfl | rfl | rfl | rfl | rfl | rfl | rfl | rfl | rfl | rfl<;>rfl)
 rw [List.set_set] at h2
 rw [Qm l p h,<- h2,<- h1]
 rfl
def QnE (x:Lg) (pages at_:Int):List Row × Int:=if QS x = false then ([],26) else if pages < 1\/64 < pages\/QaO x at_ = false then ([],1) else (Qgh x.es (Qbb x.es at_.toNat) pages.toNat at_.toNat,0)
structure CoS (es:List E) (com:Int->Bool) (pg n:Nat) where
 i:Nat
 hi:i<=n
 H:Qb
 h1:1 < H.length
 hb:H[1]? = some ⟨95,true,cells Qaa (Qgh es com pg i)⟩
def Qj1 (c:Qe5) (x:Lg) (com:Int->Bool) (pg k i b:Nat) (hlt:i < k) (S:St) (g:MapsD) (h1:1 < S.hp.length) (hb:S.hp[1]? = some ⟨95,true,cells Qaa (Qgh x.es com pg (i + 1))⟩) (hn:S.nt = 78)
 (ht:∀ q ∈ [(41,DV.int .i64 ((i + 1:Nat):Int)),(40,DV.int .i64 k),(39,DV.pv (.sl (fz encE (x.es.take k)))),(9,DV.pv (.lit (.map (some b)))),(8,DV.own 1 32 0 pg),(1,DV.int .i64 pg)],V.look S.tm q.1 = q.2\/q.2 = .any) :
 ∃ j:CoS x.es com pg k,k - j.i < k - i/\WeakG (MapsIn c) S g ⟨78,j.H.length,[(41,.int .i64 j.i),(40,.int .i64 k),(39,.pv (.sl (fz encE (x.es.take k)))),(9,.pv (.lit (.map (some b)))),(8,.own 1 32 0 pg),(1,.int .i64 pg)],j.H⟩ g:=
 ⟨⟨i + 1,hlt,S.hp,h1,hb⟩,by dsimp only; omega,WeakG.slots hn rfl ht⟩
def QCG (x:Lg) (hx:x.es.length<=9223372036854775807) (pages at_:Int):VCalls prog 10 [.agg x.c,.int .i64 pages,.int .i64 at_] [] (Ret (.tup [.pv (.sl (fz Qaa (QnE x pages at_).1)),.int .i64 (QnE x pages at_).2])):=by
 refine VCalls.unwk ?_
 refine QcF (fn:=Tryz.f10) Tryz.func10 rfl (by kernel_rfl) (by simp [Tryz.f10]) (fun c=>?_)
 have hw:=QjZ x hx
 have hu:=QoV x at_
 have eS:QnE x pages at_ = if QS x = false then ([],26) else if pages < 1\/64 < pages\/QaO x at_ = false then ([],1) else (Qgh x.es (Qbb x.es at_.toNat) pages.toNat at_.toNat,0):=rfl
 unfold Lg.c at hw hu
 generalize QnE x pages at_ = res at *
 refine VWpG.first (Qa c) ?_
 (unfold Tryz.f10; refine rn trivial ?_)
 refine VWpG.seq ?_
 refine VWpG.plain (Qa c) ?_
 refine rn trivial ?_
 cases hwb:QS x
 ·rw [hwb] at hw
  rw [if_pos hwb] at eS
  subst eS
  refine rn F ?_
  repeat' (first
   | with_reducible exact ⟨⟩
   | refine vp F (hw) ?_)
  all_goals rfl
 rw [hwb] at hw
 rw [if_neg (by rw [hwb]; decide)] at eS
 by_cases hp1:pages < 1
 ·rw [if_pos (.inl hp1)] at eS
  subst eS
  have F:=@hp1
  refine rn F ?_
  repeat' (first
   | with_reducible exact ⟨⟩
   | refine vp F (hw) ?_)
  all_goals rfl
 by_cases hp2:64 < pages
 ·rw [if_pos (.inr (.inl hp2))] at eS
  subst eS
  have F:=(Ja @hp1 @hp2)
  refine rn F ?_
  repeat' (first
   | with_reducible exact ⟨⟩
   | refine vp F (hw) ?_)
  all_goals rfl
 cases hun:QaO x at_
 ·rw [hun] at hu
  rw [if_pos (.inr (.inr hun))] at eS
  subst eS
  have F:=(Ja @hp1 @hp2)
  refine rn F ?_
  repeat' (first
   | with_reducible exact ⟨⟩
   | refine vp F (hw) ?_
   | refine vp F (hu) ?_)
  all_goals rfl
 rw [hun] at hu
 rw [if_neg (by rw [hun]; simp; omega)] at eS
 obtain ⟨pg,rfl⟩:∃ n:Nat,pages = n:=⟨pages.toNat,by omega⟩
 obtain ⟨k,rfl⟩:∃ n:Nat,at_ = n:=⟨at_.toNat,by unfold QaO at hun; simp at hun; omega⟩
 have hk:k<=x.es.length:=by unfold QaO at hun; simp at hun; omega
 have hlg:lgB x = true:=by unfold QS at hwb; simp at hwb; exact hwb.1
 have hes:x.es.length<=4096:=(QT hlg).2.2.1
 simp only [Jz] at eS
 have F:=(Ja @hp1 @hp2)
 refine rn F ?_
 repeat' (first
  | with_reducible exact ⟨⟩
  | refine vp F (hw) ?_
  | refine vp F (hu) ?_)
 refine VWpG.first (Qa c) ?_
 refine rn trivial ?_
 rw [<- QsN x.es (Qbb x.es k) pg]
 refine VWpG.seq ?_
 refine VWpG.cut1 (Qa c) 2 [] ?_
 refine rn trivial ?_
 refine QcK rfl rfl rfl (Qvs _ [] x k hk hes) ?_
 rintro r h' g' ⟨b,rfl,-,⟨ys,rfl⟩,rfl⟩
 refine rn trivial ?_
 have hk':(k:Int)<=x.es.length:=by omega
 refine VWpG.seq ?_
 refine VWpG.first (Qa c) ?_
 refine rn @hk' ?_
 refine VWpG.block ?_
 have hkl:((x.es.take k).length:Int) = k:=by rw [Jo]; omega
 have hfin:∀ i,i < k->(x.es.take k).getD i E0 = x.es.getD i E0:=fun i hi=>by
  rw [Jh,Jh,List.getElem?_take,if_pos hi]
 refine VWpG.loop (fun s:CoS x.es (Qbb x.es k) pg k=>⟨78,s.H.length,[(41,.int .i64 s.i),(40,.int .i64 k),(39,.pv (.sl (fz encE (x.es.take k)))),(9,.pv (.lit (.map (some b)))),(8,.own 1 32 0 pg),(1,.int .i64 pg)],s.H⟩) (fun s=>[(b,Qam kI (Qmp x.es k))]) (fun s=>k - s.i) ⟨0,Jf _,(⟨32,true,[.int .i64 x.f,.pv (.sl (fz encE x.es)),.int .i64 x.d]⟩ :: ⟨95,true,cells Qaa (Qgh x.es (Qbb x.es k) pg 0)⟩ :: ys:Qb),by simp,rfl⟩ ?_ ?_
 ·refine WeakG.slots rfl rfl ?_
  intro p hp
  simp only [Jj,Ji,or_false] at hp
  rcases hp with rfl | rfl | rfl | rfl | rfl | rfl
  ·exact .inl rfl
  ·exact .inl (congrArg (DV.int .i64) (by omega))
  ·exact .inl rfl
  ·exact .inl rfl
  ·exact .inl rfl
  ·exact .inl rfl
 rintro ⟨i,hi,H,h1,hb⟩
 dsimp only
 refine VWpG.first (Qa c) ?_
 refine rn trivial ?_
 refine VWpG.seq ?_
 by_cases hlt:i < k
 ·have hg := Qnu (x.es.take k) i (by rw [Jo]; omega)
  rw [hfin i hlt] at hg
  have hd:decide ((i:Int) < k) = true:=by simp; omega
  refine VWpG.cond (t:=true) (by rw [<- hd]; rfl) (fun _=>?_) (fun h=>by cases h)
  refine VWpG.plain (Qa c) ?_
  refine rn trivial ?_
  refine VWpG.seq ?_
  refine VWpG.block ?_
  have hhit:=fun p s=>@QwX x.es (Qbb x.es k) pg i p s
  have hmis:=@QsO x.es (Qbb x.es k) pg i
  have hok:=QzA hlg (show i < x.es.length by omega)
  generalize x.es.getD i E0 = e at *
  have hbc:Qc H 1 = some (cells Qaa (Qgh x.es (Qbb x.es k) pg i)):=Qby hb
  refine VWpG.first (Qa c) ?_
  refine rn (Ja @hg @h1) ?_
  refine VWpG.seq ?_
  refine VWpG.cut1 (Qa c) 3 [] ?_
  refine rn @h1 ?_
  refine QO rfl (fun c=>by simp) (QbS (zv:=.agg #[]) (L:=Qmp x.es k) (k:=e.tx) rfl rfl umS Qic (Q7 zS) (fun w β hp=>.agg [] #[] rfl (fun i d h=>by cases h)) rfl (JX.2 rfl) (Qad rfl) ?_)
  rw [Qj0]
  cases hcm:Qbb x.es k e.tx
  ·(refine rn @h1 ?_; try with_reducible exact ⟨⟩)
   refine VWpG.first (Qa c) ?_
   refine rn @h1 ?_
   refine VWpG.cond rfl (fun hZ=>?_) (fun hZ=>?_)
   ·cases hZ
   refine VWpG.plain (Qa c) ?_
   refine rn trivial ?_
   refine VWpG.plain (Qa c) ?_
   refine rn trivial ?_
   refine Qj1 c x _ pg k i b hlt _ _ ?_ ?_ rfl ?_
   ·show 1 < (H ++ _ ++ _).length
    simp; try omega
   ·show (H ++ _ ++ _)[1]? = _
    rw [Jk,Je h1,hmis (fun h=>by rw [hcm] at h; cases h.2.1)]
    exact hb
   ·intro q hq
    simp only [Jj,Ji,or_false] at hq
    rcases hq with rfl | rfl | rfl | rfl | rfl | rfl<;>exact .inl rfl
  ·(refine rn @h1 ?_; try with_reducible exact ⟨⟩)
   have hch':VCalls prog 33 [.agg e.d] [] (Ret (.bool (Qcd e))):=Qe1 e
   unfold E.d at hch'
   cases hce:Qcd e
   ·rw [hce] at hch'
    refine VWpG.first (Qa c) ?_
    refine rn @h1 ?_
    refine Qag hch' rfl ?_
    refine rn @h1 ?_
    refine VWpG.cond rfl (fun hZ=>?_) (fun hZ=>?_)
    ·cases hZ
    refine VWpG.plain (Qa c) ?_
    refine rn trivial ?_
    refine VWpG.plain (Qa c) ?_
    refine rn trivial ?_
    refine Qj1 c x _ pg k i b hlt _ _ ?_ ?_ rfl ?_
    ·show 1 < (H ++ _ ++ _).length
     simp; try omega
    ·show (H ++ _ ++ _)[1]? = _
     rw [Jk,Je h1,hmis (fun h=>by rw [hce] at h; cases h.1)]
     exact hb
    ·intro q hq
     simp only [Jj,Ji,or_false] at hq
     rcases hq with rfl | rfl | rfl | rfl | rfl | rfl<;>exact .inl rfl
   ·rw [hce] at hch'
    refine VWpG.first (Qa c) ?_
    refine rn @h1 ?_
    refine Qag hch' rfl ?_
    refine rn @h1 ?_
    obtain ⟨⟨p0,p64⟩,⟨s0,s16⟩,t1⟩:=hok hce
    obtain ⟨p,hp⟩:∃ p:Nat,e.c.pg = p:=⟨e.c.pg.toNat,by omega⟩
    obtain ⟨sl,hs⟩:∃ s:Nat,e.c.sl = s:=⟨e.c.sl.toNat,by omega⟩
    by_cases hpp:p < pg
    ·have hd3:decide (e.c.pg < (pg:Int)) = true:=by simp; omega
     have hset:=QGB (Qgh x.es (Qbb x.es k) pg i) p sl (by rw [QdJ]; exact hpp) (by omega) e.c.a
     have hrl:=QdJ x.es (Qbb x.es k) pg i
     have hcl:(cells Qaa (Qgh x.es (Qbb x.es k) pg i)).length = pg * 32:=by rw [Qy,hrl]; rfl
     have hb2:p * 32 + sl * 2 + 2<=pg * 32:=by omega
     rw [<- QmS _ _ _ _ (by rw [hcl]; exact hb2)] at hset
     have hH1:(H.length == 1) = false:=by simp; omega
     have hu2:=hhit p sl hce hcm hp hs
     refine VWpG.cond (t:=true) (by rw [<- hd3]; rfl) (fun hZ=>?_) (fun hZ=>?_)
     rotate_left
     ·cases hZ
     refine VWpG.plain (Qa c) ?_
     refine rn trivial ?_
     refine QdX (by kernel_rfl) (by kernel_rfl) ?_
     refine rn (Ja @h1 (Ja @hb (Ja @hbc (Ja @hp (Ja @hs (Ja @hrl (Ja @hb2 (Ja @hset @hH1)))))))) ?_
     refine VWpG.plain (Qa c) ?_
     refine rn trivial ?_
     refine Qj1 c x _ pg k i b hlt _ _ ?_ ?_ rfl ?_
     ·show 1 < (Qj H 1 _ ++ _ ++ _).length
      simp [Qs]; try omega
     ·show (Qj H 1 _ ++ _ ++ _)[1]? = _
      rw [Jk,Je (by rw [Qs]; exact h1),QlQ hb,hu2]
     ·intro q hq
      simp only [Jj,Ji,or_false] at hq
      rcases hq with rfl | rfl | rfl | rfl | rfl | rfl<;>exact .inl rfl
    ·have hd3:decide (e.c.pg < (pg:Int)) = false:=by simp; omega
     refine VWpG.cond (t:=false) (by rw [<- hd3]; rfl) (fun hZ=>?_) (fun hZ=>?_)
     ·cases hZ
     refine VWpG.plain (Qa c) ?_
     refine rn trivial ?_
     refine VWpG.plain (Qa c) ?_
     refine rn trivial ?_
     refine Qj1 c x _ pg k i b hlt _ _ ?_ ?_ rfl ?_
     ·show 1 < (H ++ _ ++ _).length
      simp; try omega
     ·show (H ++ _ ++ _)[1]? = _
      rw [Jk,Je h1,hmis (fun h=>by have:=h.2.2; omega)]
      exact hb
     ·intro q hq
      simp only [Jj,Ji,or_false] at hq
      rcases hq with rfl | rfl | rfl | rfl | rfl | rfl<;>exact .inl rfl
 ·have hd:decide ((i:Int) < k) = false:=by simp; omega
  have hie:i = k:=by omega
  subst hie
  refine VWpG.cond (t:=false) (by rw [<- hd]; rfl) (fun h=>by cases h) (fun _=>?_)
  refine VWpG.plain (Qa c) ?_
  refine rn trivial ?_
  have hbc:Qc H 1 = some (cells Qaa (Qgh x.es (Qbb x.es i) pg i)):=Qby hb
  have hrl:=QdJ x.es (Qbb x.es i) pg i
  refine VWpG.plain (Qa c) ?_
  refine rn (Ja @h1 (Ja @hb (Ja @hbc @hrl))) ?_
  subst eS
  rfl
end
section
attribute [local go_sem] Ce.d Ch.d E.d Qfq Qim Qil Qh2 Qh1 Qie QcA Qq2 Qq1 Qq0 Ju Lg.c
def Qmk (com:Int->Bool) (pg sl tx:Int) (e:E):Bool:=Qcd e && (decide (e.c.pg = pg) && (decide (e.c.sl = sl) && (com e.tx || decide (e.tx = tx))))
def Qiz (es:List E) (com:Int->Bool) (pg sl tx:Int):Nat->Ce × Int
 | 0=>(Ce0,0)
 | i + 1=>if Qmk com pg sl tx (es.getD i E0) = true then ((es.getD i E0).c.a,(es.getD i E0).lsn) else Qiz es com pg sl tx i
def QcW (x:Lg) (pg sl tx at_:Int):(Ce × Int) × Int:=if QS x = false then ((Ce0,0),26) else if pg < 0\/64<=pg\/sl < 0\/16<=sl\/QaO x at_ = false then ((Ce0,0),1) else (Qiz x.es (Qbb x.es at_.toNat) pg sl tx at_.toNat,0)
structure SeS (x:Lg) (n:Nat) (p:Nat->Prop) where
 i:Nat
 hi:i<=n
 H:Qb
 h1:1 < H.length
 hb0:Qc H 0 = some x.c
 hb1:H[1]? = some ⟨24,true,[.bool false,.pv (.str [])]⟩
 ok:p i
def Qd9 (c:Qe5) (x:Lg) (k i b:Nat) (p:Nat->Prop) (pg sl tx:Int) (hi:i < k) (S:St) (g:MapsD) (h1:1 < S.hp.length) (hb0:Qc S.hp 0 = some x.c) (hb1:S.hp[1]? = some ⟨24,true,[.bool false,.pv (.str [])]⟩) (ok:p i) (hn:S.nt = 97)
 (ht:∀ q ∈ [(14,DV.int .i64 ((i:Nat) - 1:Int)),(13,DV.pv (.lit (.map (some b)))),(10,DV.ptr 1 0),(5,DV.ptr 0 0),(1,DV.int .i64 pg),(2,DV.int .i64 sl),(3,DV.int .i64 tx)],V.look S.tm q.1 = q.2\/q.2 = .any) :
 ∃ j:SeS x k p,j.i < i + 1/\WeakG (MapsIn c) S g ⟨97,j.H.length,[(14,.int .i64 ((j.i:Nat) - 1:Int)),(13,.pv (.lit (.map (some b)))),(10,.ptr 1 0),(5,.ptr 0 0),(1,.int .i64 pg),(2,.int .i64 sl),(3,.int .i64 tx)],j.H⟩ g:=
 ⟨⟨i,by omega,S.hp,h1,hb0,hb1,ok⟩,by dsimp only; omega,WeakG.slots hn rfl ht⟩
def Qu6 (x:Lg) (hx:x.es.length<=9223372036854775807) (pg sl tx at_:Int):VCalls prog 38 [.agg x.c,.int .i64 pg,.int .i64 sl,.int .i64 tx,.int .i64 at_] [] (Ret (.tup [.agg (QcW x pg sl tx at_).1.1.d,.int .i64 (QcW x pg sl tx at_).1.2,.int .i64 (QcW x pg sl tx at_).2])):=by
 refine QcF (fn:=Tryz.f38) Tryz.func38 rfl (by kernel_rfl) (by simp [Tryz.f38]) (fun c=>?_)
 have hw:=QjZ x hx
 have hu:=QoV x at_
 have eS:QcW x pg sl tx at_ = if QS x = false then ((Ce0,0),26) else if pg < 0\/64<=pg\/sl < 0\/16<=sl\/QaO x at_ = false then ((Ce0,0),1) else (Qiz x.es (Qbb x.es at_.toNat) pg sl tx at_.toNat,0):=rfl
 unfold Lg.c at hw hu
 generalize QcW x pg sl tx at_ = res at *
 refine VWpG.first (Qa c) ?_
 (unfold Tryz.f38; refine rn trivial ?_)
 refine VWpG.seq ?_
 refine VWpG.plain (Qa c) ?_
 refine rn trivial ?_
 cases hwb:QS x
 ·rw [hwb] at hw
  rw [if_pos hwb] at eS
  subst eS
  refine rn F ?_
  repeat' (first
   | with_reducible exact ⟨⟩
   | refine vp F (hw) ?_)
  all_goals rfl
 rw [hwb] at hw
 rw [if_neg (by rw [hwb]; decide)] at eS
 by_cases hp1:pg < 0
 ·rw [if_pos (.inl hp1)] at eS
  subst eS
  have F:=@hp1
  refine rn F ?_
  repeat' (first
   | with_reducible exact ⟨⟩
   | refine vp F (hw) ?_)
  all_goals rfl
 by_cases hp2:64<=pg
 ·rw [if_pos (.inr (.inl hp2))] at eS
  subst eS
  have F:=(Ja @hp1 @hp2)
  refine rn F ?_
  repeat' (first
   | with_reducible exact ⟨⟩
   | refine vp F (hw) ?_)
  all_goals rfl
 by_cases hp3:sl < 0
 ·rw [if_pos (.inr (.inr (.inl hp3)))] at eS
  subst eS
  have F:=(Ja @hp1 (Ja @hp2 @hp3))
  refine rn F ?_
  repeat' (first
   | with_reducible exact ⟨⟩
   | refine vp F (hw) ?_)
  all_goals rfl
 by_cases hp4:16<=sl
 ·rw [if_pos (.inr (.inr (.inr (.inl hp4))))] at eS
  subst eS
  have F:=(Ja @hp1 (Ja @hp2 (Ja @hp3 @hp4)))
  refine rn F ?_
  repeat' (first
   | with_reducible exact ⟨⟩
   | refine vp F (hw) ?_)
  all_goals rfl
 cases hun:QaO x at_
 ·rw [hun] at hu
  rw [if_pos (.inr (.inr (.inr (.inr hun))))] at eS
  subst eS
  have F:=(Ja @hp1 (Ja @hp2 (Ja @hp3 @hp4)))
  refine rn F ?_
  repeat' (first
   | with_reducible exact ⟨⟩
   | refine vp F (hw) ?_
   | refine vp F (hu) ?_)
  all_goals rfl
 rw [hun] at hu
 rw [if_neg (by rw [hun]; simp; omega)] at eS
 obtain ⟨k,rfl⟩:∃ n:Nat,at_ = n:=⟨at_.toNat,by unfold QaO at hun; simp at hun; omega⟩
 have hk:k<=x.es.length:=by unfold QaO at hun; simp at hun; omega
 have hlg:lgB x = true:=by unfold QS at hwb; simp at hwb; exact hwb.1
 have hes:x.es.length<=4096:=(QT hlg).2.2.1
 simp only [Jz] at eS
 have F:=(Ja @hp1 (Ja @hp2 (Ja @hp3 @hp4)))
 refine rn F ?_
 repeat' (first
  | with_reducible exact ⟨⟩
  | refine vp F (hw) ?_
  | refine vp F (hu) ?_)
 refine VWpG.seq ?_
 refine VWpG.cut1 (Qa c) 2 [] ?_
 refine rn trivial ?_
 refine QcK rfl rfl rfl (Qvs _ [] x k hk hes) ?_
 rintro r h' g' ⟨b,rfl,-,⟨ys,rfl⟩,rfl⟩
 refine rn trivial ?_
 refine VWpG.seq ?_
 refine VWpG.first (Qa c) ?_
 refine rn trivial ?_
 refine VWpG.block ?_
 refine VWpG.loop (fun s:SeS x k (fun i=>Qiz x.es (Qbb x.es k) pg sl tx k = Qiz x.es (Qbb x.es k) pg sl tx i)=>⟨97,s.H.length,[(14,.int .i64 ((s.i:Nat) - 1:Int)),(13,.pv (.lit (.map (some b)))),(10,.ptr 1 0),(5,.ptr 0 0),(1,.int .i64 pg),(2,.int .i64 sl),(3,.int .i64 tx)],s.H⟩) (fun s=>[(b,Qam kI (Qmp x.es k))]) (fun s=>s.i) ⟨k,Js _,(⟨32,true,[.int .i64 x.f,.pv (.sl (fz encE x.es)),.int .i64 x.d]⟩ :: ⟨24,true,[.bool false,.pv (.str [])]⟩ :: ys:Qb),by simp,rfl,rfl,rfl⟩ ?_ ?_
 ·refine WeakG.slots rfl rfl ?_
  intro p hp
  simp only [Jj,Ji,or_false] at hp
  rcases hp with rfl | rfl | rfl | rfl | rfl | rfl | rfl<;>exact .inl rfl
 rintro ⟨i,hi,H,h1,hb0,hb1,ok⟩
 dsimp only
 have h0:0 < H.length:=by omega
 unfold Lg.c at hb0
 have hbc1:Qc H 1 = some [.bool false,.pv (.str [])]:=Qby hb1
 by_cases hi0:0 < i
 ·obtain ⟨i,rfl⟩:∃ j,i = j + 1:=⟨i - 1,by omega⟩
  have e1:(((i + 1:Nat)) - 1:Int) = i:=by omega
  have hil:i < x.es.length:=by omega
  have hg:=Qnu x.es i hil
  rw [e1]
  have hnx:Qiz x.es (Qbb x.es k) pg sl tx (i + 1) = if Qmk (Qbb x.es k) pg sl tx (x.es.getD i E0) = true then ((x.es.getD i E0).c.a,(x.es.getD i E0).lsn) else Qiz x.es (Qbb x.es k) pg sl tx i:=rfl
  generalize x.es.getD i E0 = e at *
  refine VWpG.seq ?_
  refine VWpG.first (Qa c) ?_
  refine rn trivial ?_
  refine VWpG.cond rfl (fun hZ=>?_) (fun hZ=>?_)
  rotate_left
  ·cases hZ
  refine VWpG.plain (Qa c) ?_
  refine rn trivial ?_
  refine VWpG.seq ?_
  refine VWpG.block ?_
  refine VWpG.first (Qa c) ?_
  refine rn (Ja @hg (Ja @h0 @hb0)) ?_
  refine VWpG.seq ?_
  refine VWpG.cut1 (Qa c) 3 [] ?_
  refine rn @h1 ?_
  refine QO rfl (fun c=>by simp) (QbS (zv:=.agg #[]) (L:=Qmp x.es k) (k:=e.tx) rfl rfl umS Qic (Q7 zS) (fun w β hp=>.agg [] #[] rfl (fun i d h=>by cases h)) rfl (JX.2 rfl) (Qad rfl) ?_)
  rw [Qj0]
  have hch':VCalls prog 33 [.agg e.d] [] (Ret (.bool (Qcd e))):=Qe1 e
  unfold E.d at hch'
  cases hcm:Qbb x.es k e.tx
  ·(refine rn @h1 ?_; try with_reducible exact ⟨⟩)
   refine VWpG.plain (Qa c) ?_
   cases hce:Qcd e
   ·rw [hce] at hch'
    have F:=(Ja @h1 @h0)
    refine rn F ?_
    repeat' (first
     | with_reducible exact ⟨⟩
     | refine vp F (hch') ?_)
    refine VWpG.plain (Qa c) ?_
    refine rn trivial ?_
    refine Qd9 c x k i b _ pg sl tx (by omega) _ _ ?_ ?_ ?_ ?_ rfl ?_
    ·show 1 < (H ++ _ ++ _).length
     simp; try omega
    ·show Qc (H ++ _ ++ _) 0 = _
     rw [Qq (by simp; try omega),Qq h0]; exact hb0
    ·show (H ++ _ ++ _)[1]? = _
     rw [Jk,Je h1]; exact hb1
    ·rw [ok,hnx,if_neg (by unfold Qmk; rw [hce]; simp)]
    ·intro q hq
     simp only [Jj,Ji,or_false] at hq
     rcases hq with rfl | rfl | rfl | rfl | rfl | rfl | rfl<;>exact .inl rfl
   ·rw [hce] at hch'
    have F:=(Ja @h1 (Ja @h0 (Ja @hb1 @hbc1)))
    refine rn F ?_
    repeat' (first
     | with_reducible exact ⟨⟩
     | (refine sG F ?_ ?_<;>intro hZ)
     | (refine sB F ?_ ?_<;>intro hZ)
     | refine vp F (hch') ?_
     | (refine Qd (id:=12) [0,1,2,3,4] [⟨[],[],5,[3,4],[]⟩,⟨[],[],6,[],[]⟩,⟨[],[],7,[],[]⟩] (by kernel_rfl) (by kernel_rfl) ?_; refine rn F ?_))
    ·skip
     refine ⟨?_,?_⟩
     ·rw [QjT (by simp [Qs]),<- Qs (hp:=H) (k:=1),QoH]
      rfl
     ·have hbS:∀ (X Y:Qb) (CS:List DV),Qc (Qj H 1 CS ++ X ++ Y) 1 = some CS:=fun X Y CS=>by
       rw [Qq (by simp [Qs]; omega),Qq (by rw [Qs]; exact h1),QfS hbc1]
      refine rn @hbS ?_
      rw [eS,ok,hnx,if_pos (by unfold Qmk; rw [hce,hcm]; simp [*])]
    ·skip
     refine VWpG.plain (Qa c) ?_
     refine rn trivial ?_
     refine Qd9 c x k i b _ pg sl tx (by omega) _ _ ?_ ?_ ?_ ?_ rfl ?_
     ·show 1 < (H ++ _ ++ _).length
      simp; try omega
     ·show Qc (H ++ _ ++ _) 0 = _
      rw [Qq (by simp; try omega),Qq h0]; exact hb0
     ·show (H ++ _ ++ _)[1]? = _
      rw [Jk,Je h1]; exact hb1
     ·rw [ok,hnx,if_neg (by unfold Qmk; rw [hce,hcm]; simp [*])]
     ·intro q hq
      simp only [Jj,Ji,or_false] at hq
      rcases hq with rfl | rfl | rfl | rfl | rfl | rfl | rfl<;>exact .inl rfl
    ·skip
     refine VWpG.plain (Qa c) ?_
     refine rn trivial ?_
     refine Qd9 c x k i b _ pg sl tx (by omega) _ _ ?_ ?_ ?_ ?_ rfl ?_
     ·show 1 < (H ++ _ ++ _).length
      simp; try omega
     ·show Qc (H ++ _ ++ _) 0 = _
      rw [Qq (by simp; try omega),Qq h0]; exact hb0
     ·show (H ++ _ ++ _)[1]? = _
      rw [Jk,Je h1]; exact hb1
     ·rw [ok,hnx,if_neg (by unfold Qmk; rw [hce,hcm]; simp [*])]
     ·intro q hq
      simp only [Jj,Ji,or_false] at hq
      rcases hq with rfl | rfl | rfl | rfl | rfl | rfl | rfl<;>exact .inl rfl
    ·skip
     refine VWpG.plain (Qa c) ?_
     refine rn trivial ?_
     refine Qd9 c x k i b _ pg sl tx (by omega) _ _ ?_ ?_ ?_ ?_ rfl ?_
     ·show 1 < (H ++ _ ++ _).length
      simp; try omega
     ·show Qc (H ++ _ ++ _) 0 = _
      rw [Qq (by simp; try omega),Qq h0]; exact hb0
     ·show (H ++ _ ++ _)[1]? = _
      rw [Jk,Je h1]; exact hb1
     ·rw [ok,hnx,if_neg (by unfold Qmk; rw [hce,hcm]; simp [*])]
     ·intro q hq
      simp only [Jj,Ji,or_false] at hq
      rcases hq with rfl | rfl | rfl | rfl | rfl | rfl | rfl<;>exact .inl rfl
  ·(refine rn @h1 ?_; try with_reducible exact ⟨⟩)
   refine VWpG.plain (Qa c) ?_
   cases hce:Qcd e
   ·rw [hce] at hch'
    have F:=(Ja @h1 @h0)
    refine rn F ?_
    repeat' (first
     | with_reducible exact ⟨⟩
     | refine vp F (hch') ?_)
    refine VWpG.plain (Qa c) ?_
    refine rn trivial ?_
    refine Qd9 c x k i b _ pg sl tx (by omega) _ _ ?_ ?_ ?_ ?_ rfl ?_
    ·show 1 < (H ++ _ ++ _).length
     simp; try omega
    ·show Qc (H ++ _ ++ _) 0 = _
     rw [Qq (by simp; try omega),Qq h0]; exact hb0
    ·show (H ++ _ ++ _)[1]? = _
     rw [Jk,Je h1]; exact hb1
    ·rw [ok,hnx,if_neg (by unfold Qmk; rw [hce]; simp)]
    ·intro q hq
     simp only [Jj,Ji,or_false] at hq
     rcases hq with rfl | rfl | rfl | rfl | rfl | rfl | rfl<;>exact .inl rfl
   ·rw [hce] at hch'
    have F:=(Ja @h1 (Ja @h0 (Ja @hb1 @hbc1)))
    refine rn F ?_
    repeat' (first
     | with_reducible exact ⟨⟩
     | (refine sG F ?_ ?_<;>intro hZ)
     | refine vp F (hch') ?_
     | (refine Qd (id:=12) [0,1,2,3,4] [⟨[],[],5,[3,4],[]⟩,⟨[],[],6,[],[]⟩,⟨[],[],7,[],[]⟩] (by kernel_rfl) (by kernel_rfl) ?_; refine rn F ?_))
    ·skip
     refine ⟨?_,?_⟩
     ·rw [QjT (by simp [Qs]),<- Qs (hp:=H) (k:=1),QoH]
      rfl
     ·have hbS:∀ (X Y:Qb) (CS:List DV),Qc (Qj H 1 CS ++ X ++ Y) 1 = some CS:=fun X Y CS=>by
       rw [Qq (by simp [Qs]; omega),Qq (by rw [Qs]; exact h1),QfS hbc1]
      refine rn @hbS ?_
      rw [eS,ok,hnx,if_pos (by unfold Qmk; rw [hce,hcm]; simp [*])]
    ·skip
     refine VWpG.plain (Qa c) ?_
     refine rn trivial ?_
     refine Qd9 c x k i b _ pg sl tx (by omega) _ _ ?_ ?_ ?_ ?_ rfl ?_
     ·show 1 < (H ++ _ ++ _).length
      simp; try omega
     ·show Qc (H ++ _ ++ _) 0 = _
      rw [Qq (by simp; try omega),Qq h0]; exact hb0
     ·show (H ++ _ ++ _)[1]? = _
      rw [Jk,Je h1]; exact hb1
     ·rw [ok,hnx,if_neg (by unfold Qmk; rw [hce,hcm]; simp [*])]
     ·intro q hq
      simp only [Jj,Ji,or_false] at hq
      rcases hq with rfl | rfl | rfl | rfl | rfl | rfl | rfl<;>exact .inl rfl
    ·skip
     refine VWpG.plain (Qa c) ?_
     refine rn trivial ?_
     refine Qd9 c x k i b _ pg sl tx (by omega) _ _ ?_ ?_ ?_ ?_ rfl ?_
     ·show 1 < (H ++ _ ++ _).length
      simp; try omega
     ·show Qc (H ++ _ ++ _) 0 = _
      rw [Qq (by simp; try omega),Qq h0]; exact hb0
     ·show (H ++ _ ++ _)[1]? = _
      rw [Jk,Je h1]; exact hb1
     ·rw [ok,hnx,if_neg (by unfold Qmk; rw [hce,hcm]; simp [*])]
     ·intro q hq
      simp only [Jj,Ji,or_false] at hq
      rcases hq with rfl | rfl | rfl | rfl | rfl | rfl | rfl<;>exact .inl rfl
 ·obtain rfl:i = 0:=by omega
  refine VWpG.seq ?_
  refine VWpG.first (Qa c) ?_
  refine rn trivial ?_
  refine VWpG.cond rfl (fun hZ=>?_) (fun hZ=>?_)
  ·cases hZ
  refine VWpG.plain (Qa c) ?_
  refine rn trivial ?_
  refine VWpG.plain (Qa c) ?_
  refine rn (Ja @h1 (Ja @h0 (Ja @hb1 @hbc1))) ?_
  rw [eS,ok]
  rfl
end
section
attribute [local go_sem] Ce.d Ch.d E.d QM Q9 Qfq Qim Qil Qh2 Qh1 Qie QcA Qzk QzE Qy7 Qy6 Qgb Lg.c
def QnH (x:Lg) (hx:x.es.length<=9223372036854775807) (pg sl tx at_:Int):VCalls prog 15 [.agg x.c,.int .i64 pg,.int .i64 sl,.int .i64 tx,.int .i64 at_] [] (Ret (.tup [.agg (QcW x pg sl tx at_).1.1.d,.int .i64 (QcW x pg sl tx at_).2])):=by
 refine dd Tryz.func15 ?_
 have c1:=Qu6 x hx pg sl tx at_
 generalize QcW x pg sl tx at_ = r at *
 unfold Lg.c Ce.d at c1
 (unfold Tryz.f15; refine rn trivial ?_)
 refine rn F ?_
 repeat' (first
  | with_reducible exact ⟨⟩
  | refine vp F (c1) ?_)
structure Rg where
 tx:Int
 pg:Int
 sl:Int
 at_:Int
 c:Ce
def Rg.d (r:Rg):List DV:=[.int .i64 r.tx,.int .i64 r.pg,.int .i64 r.sl,.int .i64 r.at_,.bool r.c.set,.pv (.str r.c.data)]
attribute [local go_sem] Rg.d
def QvO (x:Lg) (r:Rg):Int × Bool:=((QcW x r.pg r.sl r.tx r.at_).1.2,decide ((QcW x r.pg r.sl r.tx r.at_).2 = 0) && QGd (QcW x r.pg r.sl r.tx r.at_).1.1 r.c)
def QCB (x:Lg) (hx:x.es.length<=9223372036854775807) (r:Rg):VCalls prog 16 [.agg x.c,.agg r.d] [] (Ret (.tup [.int .i64 (QvO x r).1,.bool (QvO x r).2])):=by
 refine dd Tryz.func16 ?_
 have c1:=Qu6 x hx r.pg r.sl r.tx r.at_
 have e0:QvO x r = ((QcW x r.pg r.sl r.tx r.at_).1.2,decide ((QcW x r.pg r.sl r.tx r.at_).2 = 0) && QGd (QcW x r.pg r.sl r.tx r.at_).1.1 r.c):=rfl
 generalize QcW x r.pg r.sl r.tx r.at_ = s at *
 rw [e0]
 unfold Lg.c Ce.d at c1
 (unfold Tryz.f16; refine rn trivial ?_)
 refine rn F ?_
 repeat' (first
  | with_reducible exact ⟨⟩
  | (refine sG F ?_ ?_<;>intro hZ)
  | refine vp F (c1) ?_
  | (refine Qd (id:=2) [0,1,2,3,4,5,6,7,8] [⟨[],[],9,[1,2,4,5,6,7,8],[]⟩,⟨[],[],10,[],[]⟩] (by kernel_rfl) (by kernel_rfl) ?_; refine rn F ?_))
 all_goals rfl
def QgY (es:List E):Nat->List Int
 | 0=>[]
 | i + 1=>if (es.getD i E0).kind = 3 then QgY es i ++ [(es.getD i E0).tx] else QgY es i
def Qgg (es:List E):∀ i,(QgY es i).length<=i
 | 0=>Js _
 | i + 1=>by
   rw [QgY]
   have:=Qgg es i
   split
   ·rw [Jb]; simp; omega
   ·omega
def Qq6 (x:Lg):List Int × Int:=if QS x = false then ([],26) else (QgY x.es x.es.length,0)
def Qu5 (x:Lg) (hx:x.es.length<=9223372036854775807):VCalls prog 18 [.agg x.c] [] (Ret (.tup [.pv (.sl (fz QW (Qq6 x).1)),.int .i64 (Qq6 x).2])):=by
 refine VCalls.unwk ?_
 refine dd Tryz.func18 ?_
 have hw:=QjZ x hx
 have eS:Qq6 x = if QS x = false then ([],26) else (QgY x.es x.es.length,0):=rfl
 unfold Lg.c at hw
 (unfold Tryz.f18; refine rn trivial ?_)
 cases hwb:QS x
 ·rw [hwb] at hw
  rw [if_pos hwb] at eS
  refine rn F ?_
  repeat' (first
   | with_reducible exact ⟨⟩
   | refine vp F (hw) ?_)
  rw [eS]
  rfl
 rw [hwb] at hw
 rw [if_neg (by rw [hwb]; decide)] at eS
 rw [eS]
 have hlg:lgB x = true:=by unfold QS at hwb; simp at hwb; exact hwb.1
 have hes:x.es.length<=4096:=(QT hlg).2.2.1
 refine rn F ?_
 repeat' (first
  | with_reducible exact ⟨⟩
  | refine vp F (hw) ?_)
 refine VLoop.nilOwn 4 3 1 rfl ?_
 refine Qg (fun s:To x.es.length=>⟨27,0,[(13,.int .i64 s.i),(12,.int .i64 x.es.length),(11,.pv (.sl (fz encE x.es))),(4,.own 0 1 0 (QgY x.es s.i).length)],[⟨3,true,cells QW (QgY x.es s.i)⟩]⟩) (fun s=>x.es.length - s.i) ⟨0,Jf _⟩ (gc [1]) ?_
 rintro ⟨k,hk⟩
 dsimp only
 have hpl:=Qgg x.es k
 have hcl:(cells QW (QgY x.es k)).length = (QgY x.es k).length:=QfA _
 have hpn:QgY x.es (k + 1) = if (x.es.getD k E0).kind = 3 then QgY x.es k ++ [(x.es.getD k E0).tx] else QgY x.es k:=rfl
 have hlb:((QgY x.es k).length + 1) * 8<=140737488355328:=by omega
 by_cases hc:k < x.es.length
 ·have hc':(k:Int) < x.es.length:=by omega
  have hg:=Qbu x.es k hc
  generalize x.es.getD k E0 = e at *
  have F:=(Ja @hc' @hg)
  refine rn F ?_
  repeat' (first
   | with_reducible exact ⟨⟩
   | (refine sB F ?_ ?_<;>intro hZ))
  ·rw [if_pos hZ] at hpn
   refine ⟨⟨k + 1,hc⟩,by dsimp only; omega,?_⟩
   dsimp only
   rw [hpn,Jb]
   exact (gc [3])
  ·rw [if_neg hZ] at hpn
   refine ⟨⟨k + 1,hc⟩,by dsimp only; omega,?_⟩
   dsimp only
   rw [hpn]
   exact (gc [0])
 ·have hc':¬ (k:Int) < x.es.length:=by omega
  obtain rfl:k = x.es.length:=by omega
  have F:=@hc'
  (refine rn F ?_; try with_reducible exact ⟨⟩)
end
section
attribute [local go_sem] Ce.d Ch.d E.d Lg.c QM Q9
attribute [local go_sem] QcP Qdk Qct Qa2 QaF
def txT (f:Int) (es:List E) (i:Nat) (y:E) (la:Int) (ab ob:Bool):Bool:=
 if y.ptx ≠ la/\ob = false then false
 else if ab = true/\y.kind ≠ 2/\y.kind ≠ 5 then false
 else if y.kind ≠ 5 then true
 else (ab || (ob || exE es i (Qe2 f y.tx))) && !Qkd es i y.tx 0 (-1) 0
def QAP (x:Lg) (i:Nat) (hi:i < x.es.length) (hl:x.es.length<=1000000) (y:E) (hy:x.es.getD i E0 = y) (la:Int) (ab ob:Bool) (rest:Code) (hr:QcJ 5 (QcP Tryz.f68) = rest) :
 VWp prog rest (Qd1 prog [.tmp 4] 0 (Ret (.bool (txT x.f x.es i y la ab ob)))) ⟨135,0,[(10,.bool ob),(7,.bool ab),(6,.int .i64 la),(5,.ptr 1 0),(2,.ptr 0 0),(1,.int .i64 i)],[⟨32,true,x.c⟩,⟨73,true,y.d⟩]⟩:=by
 have hrest:QcJ 3 rest = QcJ 8 (QcP Tryz.f68):=by subst hr; rfl
 have hC:=QAO x i hi hl y hy ab ob _ hrest.symm
 refine QDx 3 ?_
 generalize hq:QcJ 3 rest = rest3 at hC |-
 subst hr
 cases ab
 ·cases ob
  ·(unfold Tryz.f68; refine rn trivial ?_; try with_reducible exact ⟨⟩)
   refine rn F ?_
   repeat' (first
    | with_reducible exact ⟨⟩
    | (refine sG F ?_ ?_<;>intro hZ)
    | (refine sB F ?_ ?_<;>intro hZ))
   all_goals first
    | exact congrArg DV.bool (by rw [txT]; simp [*])
    | (refine ⟨⟨135,0,[(10,.bool false),(7,.bool false),(5,.ptr 1 0),(2,.ptr 0 0),(1,.int .i64 i)],[⟨32,true,x.c⟩,⟨73,true,y.d⟩]⟩,.weak (gc [0,1]),?_⟩
       rw [show txT x.f x.es i y la false false = ((false || (false || exE x.es i (Qe2 x.f y.tx))) && !Qkd x.es i y.tx 0 (-1) 0) by rw [txT]; simp [*]]
       exact hC)
  ·(unfold Tryz.f68; refine rn trivial ?_; try with_reducible exact ⟨⟩)
   refine rn F ?_
   repeat' (first
    | with_reducible exact ⟨⟩
    | (refine sG F ?_ ?_<;>intro hZ)
    | (refine sB F ?_ ?_<;>intro hZ))
   all_goals first
    | exact congrArg DV.bool (by rw [txT]; simp [*])
    | (refine ⟨⟨135,0,[(10,.bool true),(7,.bool false),(5,.ptr 1 0),(2,.ptr 0 0),(1,.int .i64 i)],[⟨32,true,x.c⟩,⟨73,true,y.d⟩]⟩,.weak (gc [0,1]),?_⟩
       rw [show txT x.f x.es i y la false true = ((false || (true || exE x.es i (Qe2 x.f y.tx))) && !Qkd x.es i y.tx 0 (-1) 0) by rw [txT]; simp [*]]
       exact hC)
 ·cases ob
  ·(unfold Tryz.f68; refine rn trivial ?_; try with_reducible exact ⟨⟩)
   refine rn F ?_
   repeat' (first
    | with_reducible exact ⟨⟩
    | (refine sG F ?_ ?_<;>intro hZ)
    | (refine sB F ?_ ?_<;>intro hZ))
   all_goals first
    | exact congrArg DV.bool (by rw [txT]; simp [*])
    | (refine ⟨⟨135,0,[(10,.bool false),(7,.bool true),(5,.ptr 1 0),(2,.ptr 0 0),(1,.int .i64 i)],[⟨32,true,x.c⟩,⟨73,true,y.d⟩]⟩,.weak (gc [0,1]),?_⟩
       rw [show txT x.f x.es i y la true false = ((true || (false || exE x.es i (Qe2 x.f y.tx))) && !Qkd x.es i y.tx 0 (-1) 0) by rw [txT]; simp [*]]
       exact hC)
  ·(unfold Tryz.f68; refine rn trivial ?_; try with_reducible exact ⟨⟩)
   refine rn F ?_
   repeat' (first
    | with_reducible exact ⟨⟩
    | (refine sG F ?_ ?_<;>intro hZ)
    | (refine sB F ?_ ?_<;>intro hZ))
   all_goals first
    | exact congrArg DV.bool (by rw [txT]; simp [*])
    | (refine ⟨⟨135,0,[(10,.bool true),(7,.bool true),(5,.ptr 1 0),(2,.ptr 0 0),(1,.int .i64 i)],[⟨32,true,x.c⟩,⟨73,true,y.d⟩]⟩,.weak (gc [0,1]),?_⟩
       rw [show txT x.f x.es i y la true true = ((true || (true || exE x.es i (Qe2 x.f y.tx))) && !Qkd x.es i y.tx 0 (-1) 0) by rw [txT]; simp [*]]
       exact hC)
end
section
attribute [local go_sem] Ce.d Ch.d E.d Lg.c QM Q9
attribute [local go_sem] QcP Qdk Qct Qa2 QaF
def QwB (x:Lg) (i:Nat) (hi:i < x.es.length) (hl:x.es.length<=1000000):VCalls prog 68 [.agg x.c,.int .i64 i] [] (Ret (.bool (txR x.f x.es i))):=by
 refine QbY (fn:=Tryz.f68) (c:=QcP Tryz.f68) Tryz.func68 rfl (by kernel_rfl) (by simp [Tryz.f68]) ?_
 have hgi:=Qbu x.es i hi
 obtain ⟨y,hy⟩:∃ y,x.es.getD i E0 = y:=⟨_,rfl⟩
 rw [hy] at hgi
 refine QDx 5 ?_
 have hB:=fun la ab ob=>QAP x i hi hl y hy la ab ob _ rfl
 have htx:txR x.f x.es i = if exE x.es i (Qhx y.tx) = true then false else txT x.f x.es i y (Qas x.es y.tx i) (QfW x.es y.tx i) (QtO x.f x.es i):=by unfold txR txT; rw [hy]
 have hold:QtO x.f x.es i = (decide (Qas x.es y.tx i = 0) && (decide (0 < y.ptx) && decide (y.ptx < x.f))):=by unfold QtO; rw [hy]
 generalize hq:QcJ 5 (QcP Tryz.f68) = rest5 at hB |-
 clear hq
 (unfold Tryz.f68; refine rn @hgi ?_)
 refine Qg (fun s:Okay i (fun k=>!Qhx y.tx (x.es.getD k E0))=>⟨135,0,[(8,.int .i64 s.i),(7,.bool (QfW x.es y.tx s.i)),(6,.int .i64 (Qas x.es y.tx s.i)),(5,.ptr 1 0),(2,.ptr 0 0),(1,.int .i64 i)],[⟨32,true,x.c⟩,⟨73,true,y.d⟩]⟩) (fun s=>i - s.i) (Okay.start _ _) (gc [0,1]) ?_
 intro s
 have hs:=s.hi
 by_cases hc:s.i < i
 ·have hc' : ((s.i:Nat):Int) < i:=by omega
  have hg:=Qbu x.es s.i (by omega)
  obtain ⟨e,he⟩:∃ e,x.es.getD s.i E0 = e:=⟨_,rfl⟩
  rw [he] at hg
  have hla:Qas x.es y.tx (s.i + 1) = if e.tx = y.tx then e.lsn else Qas x.es y.tx s.i:=by rw [Qas,he]
  have hab:QfW x.es y.tx (s.i + 1) = if e.tx = y.tx then (QfW x.es y.tx s.i || decide (e.kind = 4)) else QfW x.es y.tx s.i:=by rw [QfW,he]
  generalize habq:QfW x.es y.tx s.i = abq at *
  generalize hlaq:Qas x.es y.tx s.i = laq at *
  cases abq
  ·skip
   have F:=(Ja @hc' @hg)
   refine rn F ?_
   repeat' (first
    | with_reducible exact ⟨⟩
    | (refine sG F ?_ ?_<;>intro hZ)
    | (refine sB F ?_ ?_<;>intro hZ))
   all_goals first
    | exact congrArg DV.bool (by rw [htx,if_pos (Qhw (p:=Qhx y.tx) s hc (by rw [he]; simp [Qhx, *]))])
    | (refine ⟨s.next hc (by rw [he]; simp [Qhx, *]),s.dec hc,?_⟩
       change QqX _ ⟨135,0,[(8,.int .i64 ((s.i + 1:Nat):Int)),(7,.bool (QfW x.es y.tx (s.i + 1))),(6,.int .i64 (Qas x.es y.tx (s.i + 1))),(5,.ptr 1 0),(2,.ptr 0 0),(1,.int .i64 i)],[⟨32,true,x.c⟩,⟨73,true,y.d⟩]⟩
       rw [hla,hab]
       first
        | (rw [if_pos (by assumption),if_pos (by assumption)]; simp only [JE,JI]; exact (gc [0,1]))
        | (rw [if_pos (by assumption),if_pos (by assumption)]; simp only [JE,JI,<- Jn]; exact (gc [0,1]))
        | (rw [if_neg (by assumption),if_neg (by assumption)]; exact (gc [0,1])))
  ·skip
   have F:=(Ja @hc' @hg)
   refine rn F ?_
   repeat' (first
    | with_reducible exact ⟨⟩
    | (refine sG F ?_ ?_<;>intro hZ)
    | (refine sB F ?_ ?_<;>intro hZ))
   all_goals first
    | exact congrArg DV.bool (by rw [htx,if_pos (Qhw (p:=Qhx y.tx) s hc (by rw [he]; simp [Qhx, *]))])
    | (refine ⟨s.next hc (by rw [he]; simp [Qhx, *]),s.dec hc,?_⟩
       change QqX _ ⟨135,0,[(8,.int .i64 ((s.i + 1:Nat):Int)),(7,.bool (QfW x.es y.tx (s.i + 1))),(6,.int .i64 (Qas x.es y.tx (s.i + 1))),(5,.ptr 1 0),(2,.ptr 0 0),(1,.int .i64 i)],[⟨32,true,x.c⟩,⟨73,true,y.d⟩]⟩
       rw [hla,hab]
       first
        | (rw [if_pos (by assumption),if_pos (by assumption)]; simp only [JE,JI]; exact (gc [0,1]))
        | (rw [if_pos (by assumption),if_pos (by assumption)]; simp only [JE,JI,<- Jn]; exact (gc [0,1]))
        | (rw [if_neg (by assumption),if_neg (by assumption)]; exact (gc [0,1])))
 ·have hc':¬ ((s.i:Nat):Int) < i:=by omega
  have hki:s.i = i:=by omega
  rw [htx,if_neg (by rw [QlY (p:=Qhx y.tx) s hc]; simp),hki]
  have hB:=hB (Qas x.es y.tx i) (QfW x.es y.tx i) (QtO x.f x.es i)
  generalize QfW x.es y.tx i = ab at *
  generalize Qas x.es y.tx i = la at *
  have F:=trivial
  refine rn F ?_
  repeat' (first
   | with_reducible exact ⟨⟩
   | (refine sG F ?_ ?_<;>intro hZ))
  all_goals first
   | (refine ⟨⟨135,0,[(10,.bool (QtO x.f x.es i)),(7,.bool ab),(6,.int .i64 la),(5,.ptr 1 0),(2,.ptr 0 0),(1,.int .i64 i)],[⟨32,true,x.c⟩,⟨73,true,y.d⟩]⟩,.weak ?_,hB⟩
      first
       | (have hh:QtO x.f x.es i = decide (y.ptx < x.f):=by rw [hold]; simp [*]; done
          rw [hh]; exact (gc [0,1]))
       | (have hh:QtO x.f x.es i = false:=by rw [hold]; simp [*]; done
          rw [hh]; exact (gc [0,1]))
       | (have hh:QtO x.f x.es i = false:=by rw [hold]; simp [*]; intros; omega
          rw [hh]; exact (gc [0,1])))
end
def QhJ (a b c d:Int):QM [.pv (.lit (.int .i64 a)),.pv (.lit (.int .i64 b))] [.pv (.lit (.int .i64 c)),.pv (.lit (.int .i64 d))] [(0,1),(1,1)] = some (decide (a = c) && decide (b = d)):=by simp [QM,Q9,Jn]
def grB (g:Gr):Bool:=decide (1<=g.tx) && decide (g.tx<=1073741824) && decide (0<=g.pg) && decide (g.pg < 64) && decide (0<=g.sl) && decide (g.sl < 16) && (decide (g.md = 1) || decide (g.md = 2))
def QBH (a b:Gr):Bool:=if a.pg ≠ b.pg then decide (a.pg < b.pg) else if a.sl ≠ b.sl then decide (a.sl < b.sl) else decide (a.tx < b.tx)
def QE1 (a b:Gr):Bool:=!decide (a.tx = b.tx) && (decide (a.pg = b.pg) && decide (a.sl = b.sl)) && (decide (a.md = 2) || decide (b.md = 2))
def Qs0 (g:Gr):VCalls prog 228 [.agg g.d] [] (Ret (.bool (grB g))):=by
 refine dd Tryz.func228 ?_
 (unfold Tryz.f228; refine rn trivial ?_)
 refine rn F ?_
 repeat' (first
  | with_reducible exact ⟨⟩
  | (refine sG F ?_ ?_<;>intro hZ))
 all_goals (first | rfl | (congr 3; rw [Kc]; (try simp only [grB,decide_eq_true_eq,Jl,JR,J4,JY,decide_eq_false_iff_not,beq_iff_eq,bne_iff_ne,ne_eq,JZ,J0,iff_true,true_iff,iff_false,false_iff]); first | done | omega | grind))
def Qn9 (a b:Gr):VCalls prog 229 [.agg a.d,.agg b.d] [] (Ret (.bool (QBH a b))):=by
 refine dd Tryz.func229 ?_
 have e:QBH a b = if a.pg ≠ b.pg then decide (a.pg < b.pg) else if a.sl ≠ b.sl then decide (a.sl < b.sl) else decide (a.tx < b.tx):=rfl
 generalize QBH a b = r at *
 (unfold Tryz.f229; refine rn trivial ?_)
 refine rn F ?_
 repeat' (first
  | with_reducible exact ⟨⟩
  | (refine sB F ?_ ?_<;>intro hZ))
 all_goals first | (first | (rw [e]; simp (disch:=first | assumption | omega | exact rfl | exact nf (by assumption) | exact nt (by assumption) | decide | fail) only [if_pos,if_neg]; first | done | rfl) | (rw [e]; simp (disch:=first | assumption | omega | exact rfl | exact nf (by assumption) | exact nt (by assumption) | decide | (simp_all; done) | fail) only [if_pos,if_neg]; first | done | rfl)) | skip
def Qgm (a b:Gr):VCalls prog 208 [.agg a.d,.agg b.d] [] (Ret (.bool (QE1 a b))):=by
 refine dd Tryz.func208 ?_
 (unfold Tryz.f208; refine rn trivial ?_)
 have F:=@QhJ
 refine rn F ?_
 repeat' (first
  | with_reducible exact ⟨⟩
  | (refine sG F ?_ ?_<;>intro hZ))
 all_goals (unfold QE1; simp_all [Jn])
def QDh (tx pg sl:Int) (g:Gr):Bool:=decide (g.tx = tx) && (decide (g.pg = pg) && decide (g.sl = sl))
def QDg (l:List Gr) (tx pg sl:Int):Int:=match l.find? (QDh tx pg sl) with | some g=>g.md | none=>0
def Qm2 (t:Lk) (hs:t.held.length<=1000000) (tx pg sl:Int):VCalls prog 230 [.agg t.d,.int .i64 tx,.agg [.int .i64 pg,.int .i64 sl]] [] (Ret (.int .i64 (QDg t.held tx pg sl))):=by
 refine dd Tryz.func230 ?_
 obtain ⟨l,w⟩:=t
 dsimp only at hs |-
 (unfold Tryz.f230; refine rn trivial ?_)
 refine Qg (fun s:Pass l (fun x=>QDh tx pg sl x = true)=>⟨39,0,[(7,.int .i64 s.i),(5,.ptr 1 0),(3,.ptr 0 0),(1,.int .i64 tx)],[⟨38,true,[.pv (.sl (fz Qaz l)),.pv (.sl (fz Qaz w))]⟩,⟨102,true,[.int .i64 pg,.int .i64 sl]⟩]⟩) (fun s=>l.length - s.i) (Pass.start l _) (gc [0,1]) ?_
 intro s
 have hsi:=s.hi
 have hg:=fun h:s.i < l.length=>QaK l s.i h
 have hkey:s.i < l.length->QDh tx pg sl (l.getD s.i Gr0) = QDh tx pg sl (l[s.i]?.getD Gr0):=fun _=>by rw [Jh]
 have hk0:QDh tx pg sl (l.getD s.i Gr0) = (decide ((l.getD s.i Gr0).tx = tx) && (decide ((l.getD s.i Gr0).pg = pg) && decide ((l.getD s.i Gr0).sl = sl))):=rfl
 have F:=(Ja @hg @QhJ)
 refine rn F ?_
 repeat' (first
  | with_reducible exact ⟨⟩
  | (refine sG F ?_ ?_<;>intro hZ)
  | (refine sB F ?_ ?_<;>intro hZ)
  | (refine Qd (id:=4) [0,1,2,3,4,5,6,7,8,9,10,11,12,13,14,15,16,17] [] (by kernel_rfl) (by kernel_rfl) ?_; refine rn F ?_))
 all_goals first
  | (have h:=s.all (by omega)
     rw [QDg,JW.2 h])
  | (have hlt:s.i < l.length:=by omega
     have hk:QDh tx pg sl l[s.i] = true:=by rw [<- Qm l s.i hlt Gr0,hk0]; simp_all
     rw [Qm l s.i hlt,QDg,List.find?_eq_some_iff_getElem.2 ⟨hk,s.i,hlt,rfl,fun j hj=>by simpa using s.no l[j] (List.mem_take_iff_getElem.2 ⟨j,by omega,rfl⟩)⟩])
  | (have hlt:s.i < l.length:=by omega
     exact ⟨s.next hlt (by rw [<- Qm l s.i hlt Gr0,hk0]; simp_all),by show l.length - (s.i + 1) < l.length - s.i; omega,(gc [0,1])⟩)
  | skip
def Qjx (l:List Gr) (hl:l.length<=100000) (tx:Int) (one:Bool) (pg sl:Int):VCalls prog 192 [.pv (.sl (fz Qaz l)),.int .i64 tx,.bool one,.agg [.int .i64 pg,.int .i64 sl]] [] (QI (fun m:List Gr=>.pv (.sl (fz Qaz m))) fun m=>m.length<=l.length):=by
 refine dd Tryz.func192 ?_
 (unfold Tryz.f192; refine rn trivial ?_)
 refine VLoop.nilOwn 9 219 4 rfl ?_
 refine rn trivial ?_
 refine Qg (fun s:{s:Nat × List Gr // s.1<=l.length/\s.2.length<=s.1}=>⟨44,0,[(10,.int .i64 s.1.1),(9,.own 1 4 0 s.1.2.length),(7,.ptr 0 0),(2,.bool one),(1,.int .i64 tx),(0,.pv (.sl (fz Qaz l)))],[⟨102,true,[.int .i64 pg,.int .i64 sl]⟩,⟨219,true,cells Qaz s.1.2⟩]⟩) (fun s=>l.length - s.1.1) ⟨(0,[]),by simp⟩ (gc [0,1]) ?_
 rintro ⟨⟨i,out⟩,hi,ho⟩
 dsimp only at hi ho |-
 have hg:=fun h:i < l.length=>QaK l i h
 have hb:(out.length + 1) * 32<=140737488355328:=by omega
 have F:=(Ja @hg (Ja @hb @QhJ))
 refine rn F ?_
 repeat' (first
  | with_reducible exact ⟨⟩
  | (refine sG F ?_ ?_<;>intro hZ)
  | (refine sB F ?_ ?_<;>intro hZ)
  | (refine Qd (id:=5) [0,1,2,3,4,5,6,7,8,9,10,11,12,13,14,15,16,17,18] [] (by kernel_rfl) (by kernel_rfl) ?_; refine rn F ?_))
 all_goals first
  | exact ⟨rfl,rfl,out,rfl,by omega⟩
  | exact ⟨⟨(i + 1,out),by dsimp only; omega,by dsimp only; omega⟩,by dsimp only; omega,(gc [0,1])⟩
  | exact ⟨⟨(i + 1,out ++ [⟨(l.getD i Gr0).tx,(l.getD i Gr0).pg,(l.getD i Gr0).sl,(l.getD i Gr0).md⟩]),by dsimp only; omega,by simp; omega⟩,by dsimp only; omega,by dsimp only; rw [Jb]; exact (gc [0,3])⟩
  | skip
def QBo (t:Lk) (hs:t.held.length<=100000/\t.wait.length<=100000) (i:Nat) (hi:i < t.wait.length):VCalls prog 238 [.agg t.d,.int .i64 i] [] (QI (fun b:Bool=>.bool b) fun _=>True):=by
 refine dd Tryz.func238 ?_
 obtain ⟨l,w⟩:=t
 dsimp only at hs hi |-
 have hw:=QaK w i hi
 have c:=fun a=>Qgm a (w.getD i Gr0)
 (unfold Tryz.f238; refine rn trivial ?_)
 refine Qg (fun s:To l.length=>⟨41,0,[(5,.int .i64 s.i),(2,.ptr 0 0),(1,.int .i64 i)],[⟨38,true,[.pv (.sl (fz Qaz l)),.pv (.sl (fz Qaz w))]⟩]⟩) (fun s=>l.length - s.i) ⟨0,Jf _⟩ (gc [0]) ?_
 intro s
 have hsi:=s.hi
 have hg:=fun h:s.i < l.length=>QaK l s.i h
 have c1:=c (l.getD s.i Gr0)
 have F:=(Ja @hg @hw)
 refine rn F ?_
 repeat' (first
  | with_reducible exact ⟨⟩
  | (refine sB F ?_ ?_<;>intro hZ)
  | refine vp F (c1) ?_
  | (refine Qd (id:=4) [0,1,2,3,4,5,6,7,8,9] [⟨[],[],10,[0,1,2,3,5,6,7,8],[]⟩] (by kernel_rfl) (by kernel_rfl) ?_; refine rn F ?_))
 all_goals first
  | exact ⟨rfl,rfl,_,rfl,trivial⟩
  | exact ⟨⟨s.i + 1,by omega⟩,by dsimp only; omega,(gc [0])⟩
  | skip
 refine Qg (fun s:To i=>⟨41,0,[(6,.int .i64 s.i),(2,.ptr 0 0),(1,.int .i64 i)],[⟨38,true,[.pv (.sl (fz Qaz l)),.pv (.sl (fz Qaz w))]⟩]⟩) (fun s=>i - s.i) ⟨0,Jf _⟩ (gc [0]) ?_
 intro s
 have hsi:=s.hi
 have hg:=fun h:s.i < w.length=>QaK w s.i h
 have c1:=c (w.getD s.i Gr0)
 have F:=(Ja @hg @hw)
 refine rn F ?_
 repeat' (first
  | with_reducible exact ⟨⟩
  | (refine sB F ?_ ?_<;>intro hZ)
  | refine vp F (c1) ?_
  | (refine Qd (id:=9) [0,1,2,3,4,5,6,7,8,9] [⟨[],[],10,[0,1,2,3,5,6,7,8],[]⟩] (by kernel_rfl) (by kernel_rfl) ?_; refine rn F ?_))
 all_goals first
  | exact ⟨rfl,rfl,_,rfl,trivial⟩
  | exact ⟨⟨s.i + 1,by omega⟩,by dsimp only; omega,(gc [0])⟩
  | skip
def QBb (l:List Gr) (hl:l.length<=100000) (g:Gr):VCalls prog 239 [.pv (.sl (fz Qaz l)),.agg g.d] [] (QI (fun m:List Gr=>.pv (.sl (fz Qaz m))) fun m=>m.length<=l.length + 1):=by
 refine dd Tryz.func239 ?_
 (unfold Tryz.f239; refine rn trivial ?_)
 refine VLoop.nilOwn 5 219 4 rfl ?_
 refine rn trivial ?_
 refine Qg (fun s:{s:Nat × List Gr × Bool // s.1<=l.length/\s.2.1.length<=s.1 + 1/\(s.2.2 = false->s.2.1.length<=s.1)}=>⟨61,0,[(7,.int .i64 s.1.1),(6,.bool s.1.2.2),(5,.own 1 4 0 s.1.2.1.length),(3,.ptr 0 0),(0,.pv (.sl (fz Qaz l)))],[⟨219,true,g.d⟩,⟨219,true,cells Qaz s.1.2.1⟩]⟩) (fun s=>l.length - s.1.1) ⟨(0,[],false),by simp⟩ (gc [0,1]) ?_
 rintro ⟨⟨i,out,dn⟩,hi,ho,hd⟩
 dsimp only at hi ho hd |-
 have hg:=fun h:i < l.length=>QaK l i h
 have c:=Qn9 (l.getD i Gr0) g
 have hb:(out.length + 1) * 32<=140737488355328:=by omega
 have hb2:(out.length + 1 + 1) * 32<=140737488355328:=Jg (Jt 32 (show out.length + 1 + 1<=100003 by omega)) (by decide)
 cases dn
 all_goals
  simp only [forall_const,reduceCtorEq,false_implies] at hd
  have F:=(Ja @hg (Ja @hb (Ja @hb2 @QhJ)))
  refine rn F ?_
  repeat' (first
   | with_reducible exact ⟨⟩
   | (refine sG F ?_ ?_<;>intro hZ)
   | (refine sB F ?_ ?_<;>intro hZ)
   | refine vp F (c) ?_
   | (refine Qd (id:=6) [0,1,2,3,4,5,6,7] [⟨[],[],8,[0,1,3,4,5],[9,10]⟩] (by kernel_rfl) (by kernel_rfl) ?_; refine rn F ?_)
   | (refine Qd (id:=9) [0,1,2,3,4,5,6,7,8,9,10,11,12,13,14,15,16,17] [] (by kernel_rfl) (by kernel_rfl) ?_; refine rn F ?_))
 all_goals first
  | exact ⟨rfl,rfl,out,rfl,by omega⟩
  | exact ⟨rfl,rfl,out ++ [g],rfl,by simp; omega⟩
  | exact ⟨⟨(i + 1,out,false),by dsimp only; omega,by dsimp only; (try rw [Jc]); omega,by dsimp only; (try rw [Jc]); first | omega | (intro h; omega) | (intro h; cases h)⟩,by dsimp only; omega,by dsimp only; (try rw [Jc]); exact (gc [0,1])⟩
  | exact ⟨⟨(i + 1,out ++ [⟨(l.getD i Gr0).tx,(l.getD i Gr0).pg,(l.getD i Gr0).sl,(l.getD i Gr0).md⟩],false),by dsimp only; omega,by dsimp only; (try rw [Jb,Jd,Jc]); omega,by dsimp only; (try rw [Jb,Jd,Jc]); first | omega | (intro h; omega) | (intro h; cases h)⟩,by dsimp only; omega,by dsimp only; (try rw [Jb,Jd,Jc]); exact (gc [0,3])⟩
  | exact ⟨⟨(i + 1,out,true),by dsimp only; omega,by dsimp only; (try rw [Jc]); omega,by dsimp only; (try rw [Jc]); first | omega | (intro h; omega) | (intro h; cases h)⟩,by dsimp only; omega,by dsimp only; (try rw [Jc]); exact (gc [0,1])⟩
  | exact ⟨⟨(i + 1,out ++ [⟨(l.getD i Gr0).tx,(l.getD i Gr0).pg,(l.getD i Gr0).sl,(l.getD i Gr0).md⟩],true),by dsimp only; omega,by dsimp only; (try rw [Jb,Jd,Jc]); omega,by dsimp only; (try rw [Jb,Jd,Jc]); first | omega | (intro h; omega) | (intro h; cases h)⟩,by dsimp only; omega,by dsimp only; (try rw [Jb,Jd,Jc]); exact (gc [0,3])⟩
  | exact ⟨⟨(i + 1,out ++ [g],true),by dsimp only; omega,by dsimp only; (try rw [Jb,Jd,Jc]); omega,by dsimp only; (try rw [Jb,Jd,Jc]); first | omega | (intro h; omega) | (intro h; cases h)⟩,by dsimp only; omega,by dsimp only; (try rw [Jb,Jd,Jc]); exact (gc [0,3])⟩
  | exact ⟨⟨(i + 1,out ++ [g] ++ [⟨(l.getD i Gr0).tx,(l.getD i Gr0).pg,(l.getD i Gr0).sl,(l.getD i Gr0).md⟩],true),by dsimp only; omega,by dsimp only; (try rw [Jb,Jb,Jd,Jc,Jd,Jc]); omega,by dsimp only; (try rw [Jb,Jb,Jd,Jc,Jd,Jc]); first | omega | (intro h; omega) | (intro h; cases h)⟩,by dsimp only; omega,by dsimp only; (try rw [Jb,Jb,Jd,Jc,Jd,Jc]); exact (gc [0,5])⟩
  | skip
section
attribute [local go_sem] Qbv
def Lk.sum (t:Lk):Nat:=t.held.length + t.wait.length
def QeB (t:Lk) (hs:t.sum<=5000):VCalls prog 191 [.agg t.d] [] (QI (fun u:Lk=>.agg u.d) fun u=>u.sum<=t.sum):=by
 refine dk Tryz.func191 ?_
 (unfold Tryz.f191; refine rn trivial ?_)
 refine QDp (fun s:{s:Lk × Nat // s.2<=s.1.wait.length/\s.1.sum<=t.sum}=>⟨36,0,[(3,.int .i64 s.1.2),(2,.ptr 1 0),(1,.ptr 0 0)],[⟨38,true,s.1.1.d⟩,⟨38,true,[.pv (.slc []),.pv (.slc [])]⟩]⟩) (fun s=>s.1.1.wait.length * 5001 + (s.1.1.wait.length - s.1.2)) ⟨(t,0),Jf _,Js _⟩ (.inl (by exact (gc [0,1]))) ?_
 rintro ⟨⟨⟨l,w⟩,i⟩,hi,hsum⟩
 unfold Lk.sum at *
 dsimp only at hi hsum |-
 have hgx:=fun h:i < w.length=>QaK w i h
 have c1:=fun h:i < w.length=>QBo ⟨l,w⟩ ⟨by dsimp only; omega,by dsimp only; omega⟩ i h
 have c2:=QBb l (by omega)
 have hb:(i + (w.length - (i + 1))) * 32<=140737488355328:=by omega
 have hb1:i * 32<=140737488355328:=by omega
 have hmin:i < w.length->min i w.length = i:=fun h=>by omega
 have F:=(Ja @hgx (Ja @hb (Ja @hb1 @hmin)))
 refine rn F ?_
 repeat' (first
  | with_reducible exact ⟨⟩
  | (refine sB F ?_ ?_<;>intro hZ)
  | (refine Ql (c1 (by omega)) rfl ?_; rintro b -; refine rn F ?_)
  | (refine Ql (c2 ⟨_,_,_,_⟩) rfl ?_; rintro m hm; refine rn F ?_)
  | (refine Qd (id:=5) [0,1,2,3,4,5,6] [⟨[],[],7,[0,2,3,4,5],[8]⟩,⟨[],[],9,[],[]⟩] (by kernel_rfl) (by kernel_rfl) ?_; refine rn F ?_)
  | (refine Qd (id:=6) [0,1,2,3,5,6,7,8,9] [⟨[],[],4,[0,1,2,5,6,7,8,9],[]⟩,⟨[],[],10,[0,1,2,3,5,6,7,8],[11]⟩,⟨[],[],12,[],[]⟩] (by kernel_rfl) (by kernel_rfl) ?_; refine rn F ?_))
 ·have hl:(w.take i ++ w.drop (i + 1)).length = i + (w.length - (i + 1)):=by rw [Jb,Jo,Jw]; omega
  refine ⟨⟨(⟨m,w.take i ++ w.drop (i + 1)⟩,0),Jf _,by dsimp only; rw [hl]; omega⟩,by dsimp only; rw [hl]; omega,?_⟩
  dsimp only
  generalize w.take i ++ w.drop (i + 1) = L at *
  generalize i + (w.length - (i + 1)) = n at *
  refine .inr ⟨2,⟨36,0,[(3,.int .i64 0),(2,.ptr 1 0),(1,.ptr 0 0)],[⟨38,true,[.pv (.sl (fz Qaz m)),.own 2 4 0 n]⟩,⟨38,true,[.pv (.slc []),.pv (.slc [])]⟩,⟨219,true,cells Qaz L⟩]⟩,(gc [0,1,3]),⟨rfl,rfl,Jf _,by simp,?_,⟨rfl,rfl,rfl,trivial⟩⟩⟩
  (refine rn @hl ?_; try with_reducible exact ⟨⟩)
 ·exact ⟨⟨(⟨l,w⟩,i + 1),by dsimp only; omega,by dsimp only; omega⟩,by dsimp only; omega,.inl (gc [0,1])⟩
 ·exact ⟨rfl,rfl,⟨l,w⟩,rfl,hsum⟩
def QwS (t:Lk) (hs:t.sum<=5000) (g:Gr):VCalls prog 246 [.agg t.d,.agg g.d] [] (QI (fun n:Nat=>.int .i64 n) fun n=>n<=t.wait.length):=by
 refine dd Tryz.func246 ?_
 unfold Lk.sum at hs
 have c1:=Qm2 t (by omega)
 obtain ⟨l,w⟩:=t
 dsimp only at hs c1 |-
 generalize hm:QDg l = M at *
 (unfold Tryz.f246; refine rn trivial ?_)
 refine rn F ?_
 repeat' (first
  | with_reducible exact ⟨⟩
  | (refine sB F ?_ ?_<;>intro hZ)
  | refine vp F (c1 _ _ _) ?_)
 ·exact ⟨rfl,rfl,w.length,rfl,Js _⟩
 refine Qg (fun s:To w.length=>⟨47,0,[(5,.int .i64 s.i),(3,.ptr 1 0),(2,.ptr 0 0)],[⟨38,true,[.pv (.sl (fz Qaz l)),.pv (.sl (fz Qaz w))]⟩,⟨219,true,g.d⟩]⟩) (fun s=>w.length - s.i) ⟨0,Jf _⟩ (gc [0,1]) ?_
 intro s
 have hsi:=s.hi
 have hg:=fun h:s.i < w.length=>QaK w s.i h
 have F:=(Ja @hg @QhJ)
 refine rn F ?_
 repeat' (first
  | with_reducible exact ⟨⟩
  | (refine sG F ?_ ?_<;>intro hZ)
  | (refine sB F ?_ ?_<;>intro hZ)
  | refine vp F (c1 _ _ _) ?_)
 all_goals first
  | exact ⟨rfl,rfl,s.i,rfl,by omega⟩
  | exact ⟨⟨s.i + 1,by omega⟩,by dsimp only; omega,(gc [0,1])⟩
  | exact ⟨rfl,rfl,w.length,rfl,Js _⟩
  | skip
end
def Qbf (t:Lk) (hs:t.sum<=100000):VCalls prog 183 [.agg t.d] [] (QI (fun b:Bool=>.bool b) fun b=>b = true->t.sum<=1024):=by
 refine dd Tryz.func183 ?_
 unfold Lk.sum at *
 have cm:=Qm2 t (by omega)
 obtain ⟨l,w⟩:=t
 dsimp only at hs cm |-
 generalize hM:QDg l = M at *
 (unfold Tryz.f183; refine rn trivial ?_)
 refine rn F ?_
 repeat' (first
  | with_reducible exact ⟨⟩
  | (refine sB F ?_ ?_<;>intro hZ))
 ·exact ⟨rfl,rfl,false,rfl,fun h=>by cases h⟩
 refine Qg (fun s:To l.length=>⟨121,0,[(3,.int .i64 s.i),(1,.ptr 0 0)],[⟨38,true,[.pv (.sl (fz Qaz l)),.pv (.sl (fz Qaz w))]⟩]⟩) (fun s=>l.length - s.i) ⟨0,Jf _⟩ (gc [0]) ?_
 rintro ⟨i,hi⟩
 dsimp only
 have hg:=fun h:i < l.length=>QaK l i h
 have hgp:=fun h:i - 1 < l.length=>QaK l (i - 1) h
 have c1:=Qs0 (l.getD i Gr0)
 have c2:=Qn9 (l.getD (i - 1) Gr0) (l.getD i Gr0)
 have c3:=fun a=>Qgm a (l.getD i Gr0)
 have F:=(Ja @hg @hgp)
 refine rn F ?_
 repeat' (first
  | with_reducible exact ⟨⟩
  | (refine sG F ?_ ?_<;>intro hZ)
  | (refine sB F ?_ ?_<;>intro hZ)
  | refine vp F (c1) ?_
  | refine vp F (c2) ?_
  | (refine QbH (id:=6) [[],[0],[],[0,1,2],[0,1,2,3],[0,1,2,3,4],[0,1,2,3,4,5],[0,1,2,3,4,5,6],[0,1,2,3,4,5,6,7],[0,1,2,3,4,5,6,7,8],[0,1,2,3,4,5,6,7,8,9],[0,1,2,3,4,5,6,7,8,9,10],[0,1,2,3,4,5,6,7,8,9,10,11],[0,1,2,3,4,5,6,7,8,9,10],[0,1,2,3,4,5,6,7,8,9,10,13],[0,1,2,3,4,5,6,7,8,9,10,11,12,13,14],[0,1,2,3,4,5,6,7,8,9,10,11,12,13,14,15],[0,1,2,3,4,5,6,7,8,9,10],[0,1,2,3,4,5,6,7,8,9,10,17],[0,1,2,3,4,5,6,7,8,9,10],[0,1,2,3,4,5,6,7,8,9,10,17,18,19],[0,1,2,3,4,5,6,7,8,9,10,17,18,19,20],[0,1,2,3,4,5,6,7,8,9,10,11,12,13,14,15,16,17,18,19,20,21],[0,1,2,3,4,5,6,7,8,9,10,11,12,13,14,15,16,17,18,19,20,21,22],[0,1,2,3,4,5,6,7,8,9,10,11,12,13,14,15,16,17,18,19,20,21,22,23],[0,1,2,3,4,5,6,7,8,9,10,11,12,13,14,15,16,17,18,19,20,21,22,23,24]] [0,1,2,3,4] [⟨[],[],5,[],[6,7,8,9,10,11,12,13,14,15,16,17,18,19,20,21]⟩,⟨[],[],22,[],[23,24,25]⟩] (by kernel_rfl) (by kernel_rfl) (by kernel_rfl) ?_; refine rn F ?_))
 all_goals first
  | exact ⟨rfl,rfl,false,rfl,fun h=>by cases h⟩
  | skip
 rotate_left 2
 ·refine Qg (fun s:To w.length=>⟨121,0,[(5,.int .i64 s.i),(1,.ptr 0 0)],[⟨38,true,[.pv (.sl (fz Qaz l)),.pv (.sl (fz Qaz w))]⟩]⟩) (fun s=>w.length - s.i) ⟨0,Jf _⟩ (gc [0]) ?_
  rintro ⟨j,hj⟩
  dsimp only
  have hw:=fun h:j < w.length=>QaK w j h
  have d1:=Qs0 (w.getD j Gr0)
  have F:=(Ja @hw @QhJ)
  refine rn F ?_
  repeat' (first
   | with_reducible exact ⟨⟩
   | (refine sG F ?_ ?_<;>intro hZ)
   | (refine sB F ?_ ?_<;>intro hZ)
   | refine vp F (d1) ?_
   | refine vp F (cm _ _ _) ?_
   | (refine QbH (id:=17) [[],[0],[0,1],[0,1,2],[0,1,2,3],[0,1,2,3],[0,1,2,3,5],[0,1,2,3],[0,1,2,3,7],[0,1,2,3,4,5,6,7,8],[0,1,2,3],[0,1,2,3,10],[0,1,2,3,4,5,6,7,8,9,10,11],[0,1,2,3,4,5,6,7,8,9,10,11,12]] [0] [⟨[],[],1,[],[2,3,4,5,6,7,8,10,11]⟩,⟨[],[],9,[10,11],[12,13]⟩] (by kernel_rfl) (by kernel_rfl) (by kernel_rfl) ?_; refine rn F ?_))
  all_goals first
   | exact ⟨rfl,rfl,false,rfl,fun h=>by cases h⟩
   | exact ⟨rfl,rfl,true,rfl,fun _=>by omega⟩
   | skip
  all_goals
   refine Qg (fun s:To j=>⟨121,0,[(7,.int .i64 s.i),(6,.ptr 1 0),(5,.int .i64 j),(1,.ptr 0 0)],[⟨38,true,[.pv (.sl (fz Qaz l)),.pv (.sl (fz Qaz w))]⟩,⟨219,true,Gr.d ⟨(w.getD j Gr0).tx,(w.getD j Gr0).pg,(w.getD j Gr0).sl,(w.getD j Gr0).md⟩⟩]⟩) (fun s=>j - s.i) ⟨0,Jf _⟩ (gc [0,1]) ?_
   rintro ⟨k,hk⟩
   dsimp only
   have hx:=fun h:k < w.length=>QaK w k h
   have F:=@hx
   refine rn F ?_
   repeat' (first
    | with_reducible exact ⟨⟩
    | (refine sB F ?_ ?_<;>intro hZ)
    | (refine Qd (id:=22) [0,1,2,3,4,5,6,7,8] [] (by kernel_rfl) (by kernel_rfl) ?_; refine rn F ?_))
  all_goals first
   | exact ⟨rfl,rfl,false,rfl,fun h=>by cases h⟩
   | exact ⟨⟨k + 1,by omega⟩,by dsimp only; omega,(gc [0,1])⟩
   | exact ⟨⟨j + 1,by omega⟩,by dsimp only; omega,(gc [0])⟩
   | skip
 all_goals
  refine Qg (fun s:To i=>⟨121,0,[(4,.int .i64 ((s.i:Int) - 1)),(3,.int .i64 i),(1,.ptr 0 0)],[⟨38,true,[.pv (.sl (fz Qaz l)),.pv (.sl (fz Qaz w))]⟩]⟩) (fun s=>s.i) ⟨i,Js _⟩ (gc [0]) ?_
  rintro ⟨r,hr⟩
  dsimp only
  have hx:=fun h:r - 1 < l.length=>QaK l (r - 1) h
  have c4:=c3 (l.getD (r - 1) Gr0)
  have F:=(Ja @hg (Ja @hx @QhJ))
  refine rn F ?_
  repeat' (first
   | with_reducible exact ⟨⟩
   | (refine sG F ?_ ?_<;>intro hZ)
   | (refine sB F ?_ ?_<;>intro hZ)
   | refine vp F (c4) ?_
   | (refine Qd (id:=9) [0,1,2,3,4,5,6,7,8,9,10,11,12,13,14,15,16] [] (by kernel_rfl) (by kernel_rfl) ?_; refine rn F ?_)
   | (refine Qd (id:=11) [0,1,2,3,4,5,6,7,8,9] [⟨[],[],10,[0,1,2,3,5,6,7,8],[]⟩] (by kernel_rfl) (by kernel_rfl) ?_; refine rn F ?_))
 all_goals first
  | exact ⟨rfl,rfl,false,rfl,fun h=>by cases h⟩
  | exact ⟨⟨i + 1,by omega⟩,by dsimp only; omega,(gc [0])⟩
  | (refine ⟨⟨r - 1,by omega⟩,by dsimp only; omega,?_⟩
     dsimp only
     rw [show ((r - 1:Nat):Int) - 1 = (r:Int) - 1 - 1 by omega]
     exact (gc [0]))
  | skip
def QdG (t:Lk) (hs:t.sum<=5000) (tx:Int):VCalls prog 156 [.agg t.d,.int .i64 tx] [] (QI (fun a:Gr × Bool=>.tup [.agg a.1.d,.bool a.2]) fun _=>True):=by
 refine dd Tryz.func156 ?_
 have c1:=Qbf t (by omega)
 unfold Lk.sum at *
 obtain ⟨l,w⟩:=t
 dsimp only at hs c1 |-
 (unfold Tryz.f156; refine rn trivial ?_)
 refine rn F ?_
 repeat' (first
  | with_reducible exact ⟨⟩
  | (refine sB F ?_ ?_<;>intro hZ)
  | (refine Ql (c1) rfl ?_; rintro b hb; refine rn F ?_))
 all_goals first
  | exact ⟨rfl,rfl,(Gr0,false),rfl,trivial⟩
  | skip
 refine Qg (fun s:To w.length=>⟨30,0,[(6,.int .i64 s.i),(4,.ptr 1 0),(2,.ptr 0 0),(1,.int .i64 tx)],[⟨38,true,[.pv (.sl (fz Qaz l)),.pv (.sl (fz Qaz w))]⟩,⟨219,true,[.int .i64 0,.int .i64 0,.int .i64 0,.int .i64 0]⟩]⟩) (fun s=>w.length - s.i) ⟨0,Jf _⟩ (gc [0,1]) ?_
 rintro ⟨i,hi⟩
 dsimp only
 have hg:=fun h:i < w.length=>QaK w i h
 have F:=@hg
 refine rn F ?_
 repeat' (first
  | with_reducible exact ⟨⟩
  | (refine sB F ?_ ?_<;>intro hZ))
 all_goals first
  | exact ⟨⟨i + 1,by omega⟩,by dsimp only; omega,(gc [0,1])⟩
  | exact ⟨rfl,rfl,(Gr0,false),rfl,trivial⟩
  | exact ⟨rfl,rfl,(w.getD i Gr0,true),rfl,trivial⟩
  | skip
def QdI (t:Lk) (hs:t.sum<=5000) (tx:Int):VCalls prog 145 [.agg t.d,.int .i64 tx] [] (QI (fun u:Lk=>.agg u.d) fun u=>u.sum<=t.sum):=by
 refine dd Tryz.func145 ?_
 have c1:=Qbf t (by omega)
 have c4:=QeB
 unfold Lk.sum at *
 obtain ⟨l,w⟩:=t
 dsimp only at hs c1 |-
 have c2:=fun a=>Qjx l (by omega) a
 have c3:=fun a=>Qjx w (by omega) a
 (unfold Tryz.f145; refine rn trivial ?_)
 refine rn F ?_
 repeat' (first
  | with_reducible exact ⟨⟩
  | (refine sB F ?_ ?_<;>intro hZ)
  | (refine Ql (c1) rfl ?_; rintro b hb; refine rn F ?_)
  | (refine Ql (c2 _ _ _ _) rfl ?_; rintro m1 hm1; refine rn F ?_)
  | (refine Ql (c3 _ _ _ _) rfl ?_; rintro m2 hm2; refine rn F ?_)
  | (refine Ql (c4 ⟨_,_⟩ (by dsimp only; omega)) rfl ?_; rintro u hu; refine rn F ?_)
  | (refine Qd (id:=3) [0,1,2,3,5,6,7,8] [⟨[],[],4,[0,5,6,7,8],[]⟩,⟨[],[],9,[0,1,2,3,5],[10]⟩,⟨[],[],11,[0,1,2,3,5,6,7,8],[]⟩,⟨[],[],12,[],[]⟩] (by kernel_rfl) (by kernel_rfl) ?_; refine rn F ?_))
 all_goals first
  | exact ⟨rfl,rfl,⟨l,w⟩,rfl,Js _⟩
  | (exact ⟨rfl,rfl,u,rfl,by dsimp only at hu; omega⟩)
  | skip
def Qtl (t:Lk) (hs:t.sum<=5000) (tx:Int):VCalls prog 243 [.agg t.d,.int .i64 tx] [] (QI (fun u:Lk=>.agg u.d) fun u=>u.sum<=t.sum):=by
 refine dd Tryz.func243 ?_
 have c1:=Qbf t (by omega)
 have c4:=QeB
 unfold Lk.sum at *
 obtain ⟨l,w⟩:=t
 dsimp only at hs c1 |-
 have c3:=fun a=>Qjx w (by omega) a
 (unfold Tryz.f243; refine rn trivial ?_)
 refine rn F ?_
 repeat' (first
  | with_reducible exact ⟨⟩
  | (refine sB F ?_ ?_<;>intro hZ)
  | (refine Ql (c1) rfl ?_; rintro b hb; refine rn F ?_)
  | (refine Ql (c3 _ _ _ _) rfl ?_; rintro m2 hm2; refine rn F ?_)
  | (refine Ql (c4 ⟨_,_⟩ (by dsimp only; omega)) rfl ?_; rintro u hu; refine rn F ?_)
  | (refine Qd (id:=3) [0,1,2,3,4,5] [⟨[],[],6,[0,1,2],[7]⟩,⟨[],[],8,[0,1,2,3,4,5],[]⟩,⟨[],[],9,[],[]⟩] (by kernel_rfl) (by kernel_rfl) ?_; refine rn F ?_))
 all_goals first
  | exact ⟨rfl,rfl,⟨l,w⟩,rfl,Js _⟩
  | (exact ⟨rfl,rfl,u,rfl,by dsimp only at hu; omega⟩)
  | skip
def Qte (t:Lk) (hs:t.sum<=5000) (tx pg sl:Int):VCalls prog 196 [.agg t.d,.int .i64 tx,.agg [.int .i64 pg,.int .i64 sl]] [] (QI (fun u:Lk=>.agg u.d) fun u=>u.sum<=t.sum):=by
 refine dd Tryz.func196 ?_
 have c1:=Qbf t (by omega)
 have c4:=QeB
 unfold Lk.sum at *
 obtain ⟨l,w⟩:=t
 dsimp only at hs c1 |-
 have c2:=fun a=>Qjx l (by omega) a
 (unfold Tryz.f196; refine rn trivial ?_)
 refine rn F ?_
 repeat' (first
  | with_reducible exact ⟨⟩
  | (refine sB F ?_ ?_<;>intro hZ)
  | (refine Ql (c1) rfl ?_; rintro b hb; refine rn F ?_)
  | (refine Ql (c2 _ _ _ _) rfl ?_; rintro m1 hm1; refine rn F ?_)
  | (refine Ql (c4 ⟨_,_⟩ (by dsimp only; omega)) rfl ?_; rintro u hu; refine rn F ?_)
  | (refine Qd (id:=3) [0,1,2,3,5,6] [⟨[],[],4,[0,5,6],[7]⟩,⟨[],[],8,[0,1,2,3,5,6],[]⟩,⟨[],[],9,[],[]⟩] (by kernel_rfl) (by kernel_rfl) ?_; refine rn F ?_))
 all_goals first
  | exact ⟨rfl,rfl,⟨l,w⟩,rfl,Js _⟩
  | (exact ⟨rfl,rfl,u,rfl,by dsimp only at hu; omega⟩)
  | skip
def QGD (a:Lk × Bool × Int):DV:=.tup [.agg a.1.d,.bool a.2.1,.int .i64 a.2.2]
def Lk0:Lk:=⟨[],[]⟩
def QvD (a b c d a' b' c' d':Int):QM [.pv (.lit (.int .i64 a)),.pv (.lit (.int .i64 b)),.pv (.lit (.int .i64 c)),.pv (.lit (.int .i64 d))] [.pv (.lit (.int .i64 a')),.pv (.lit (.int .i64 b')),.pv (.lit (.int .i64 c')),.pv (.lit (.int .i64 d'))] [(0,1),(1,1),(2,1),(3,1)] = some (decide (a = a') && decide (b = b') && decide (c = c') && decide (d = d')):=by simp [QM,Q9,Jn,JU]
def QpH (t:Lk) (hs:t.sum<=4000) (g:Gr):VCalls prog 204 [.agg t.d,.agg g.d] [] (QI QGD fun a=>a.1.sum<=1024):=by
 refine dk Tryz.func204 ?_
 have c1:=Qbf t (by omega)
 have c2:=Qs0 g
 have c3:=QdG t (by omega) g.tx
 have c4:=QeB
 have c5:=QwS t (by omega) g
 have c6:=fun (u:Lk) (h:u.held.length<=1000000)=>Qm2 u h
 unfold Lk.sum at *
 obtain ⟨l,w⟩:=t
 dsimp only at hs c1 c5 |-
 generalize QDg = M at *
 (unfold Tryz.f204; refine rn trivial ?_)
 have F:=@QvD
 refine rn F ?_
 repeat' (first
  | with_reducible exact ⟨⟩
  | (refine sG F ?_ ?_<;>intro hZ)
  | (refine sB F ?_ ?_<;>intro hZ)
  | (refine Ql (c1) rfl ?_; rintro b hb; refine rn F ?_)
  | refine vp F (c2) ?_
  | (refine Ql (c3) rfl ?_; rintro ⟨g0,b0⟩ -; refine rn F ?_)
  | (refine vp F (c6 ⟨_,_⟩ (by first | (dsimp only; omega) | (dsimp only at hu |-; simp only [Jb,Jo,Jw,Jd,Jc] at hu; omega)) _ _ _) ?_)
  | (refine Ql (c5) rfl ?_; rintro n hn; refine rn F ?_)
  | (refine Qjh [7] _ _ (c4 ⟨l,w.take n ++ [⟨g.tx,g.pg,g.sl,g.md⟩] ++ w.drop n⟩ (by dsimp only; simp only [Jb,Jo,Jw,Jd,Jc]; omega)) rfl ⟨⟨by simp,Qu _ _ _⟩,trivial⟩ (by decide) rfl (by simp [DV.nums.go,DV.nums]) ?_ ?_; (focus (refine rd F)); rintro ⟨ul,uw⟩ hu; refine rn F ?_)
  | (refine Qd (id:=10) [0,1,2,3,4,6,7] [⟨[],[],5,[1,3,6,7],[8]⟩] (by kernel_rfl) (by kernel_rfl) ?_; refine rn F ?_)
  | (refine Qd (id:=15) [0,1,2,3,5,8,9,10,11] [⟨[6],[],4,[0,1,2,5,8,9,10,11],[]⟩,⟨[6],[6],7,[0,1,2,3,5,8,9,10,11],[]⟩,⟨[],[],12,[0,1,2,3,5,8,9,10],[13]⟩,⟨[],[],14,[],[]⟩] (by kernel_rfl) (by kernel_rfl) ?_; refine rn F ?_)
  | (refine Qd (id:=17) [0,1,2,3,4,5,7,8] [⟨[],[],6,[0,2,4,7,8],[9]⟩,⟨[],[],10,[1,2,3,4,5,7,8,9],[]⟩,⟨[],[],11,[],[]⟩,⟨[],[],12,[],[]⟩] (by kernel_rfl) (by kernel_rfl) ?_; refine rn F ?_))
 all_goals first
  | exact ⟨rfl,rfl,(⟨ul,uw⟩,_,_),rfl,by have:=hb (by first | assumption | rfl); dsimp only [Jb] at hu |-; simp only [Jb,Jo,Jw,Jd,Jc] at hu; omega⟩
  | exact ⟨rfl,rfl,(Lk0,false,_),rfl,by simp [Lk0]⟩
  | exact ⟨rfl,rfl,(⟨l,w⟩,_,_),rfl,hb (by first | assumption | rfl)⟩
  | skip
attribute [go_sem] QzE Qy7 Qy6 Qgb
@[go_sem] def ilD (l:List Int):DV:=.pv (.sl (fz QW l))
def QmX (l:List Int) (hl:l.length<=100000) (n:Int):VCalls prog 209 [.pv (.sl (fz QW l)),.int .i64 n] [] (QI ilD fun m=>m.length<=l.length + 1):=by
 refine dd Tryz.func209 ?_
 (unfold Tryz.f209; refine rn trivial ?_)
 refine VLoop.nilOwn 5 3 1 rfl ?_
 refine rn trivial ?_
 refine Qg (fun s:{s:Nat × List Int × Bool // s.1<=l.length/\s.2.1.length<=s.1 + 1/\(s.2.2 = false->s.2.1.length<=s.1)}=>⟨48,0,[(7,.int .i64 s.1.1),(6,.bool s.1.2.2),(5,.own 0 1 0 s.1.2.1.length),(1,.int .i64 n),(0,.pv (.sl (fz QW l)))],[⟨3,true,cells QW s.1.2.1⟩]⟩) (fun s=>l.length - s.1.1) ⟨(0,[],false),by simp⟩ (gc [0]) ?_
 rintro ⟨⟨i,out,dn⟩,hi,ho,hd⟩
 dsimp only at hi ho hd |-
 have hg:=fun h:i < l.length=>Qae l i h
 have hb:(out.length + 1) * 8<=140737488355328:=Jg (Jt 8 (show out.length + 1<=100003 by omega)) (by decide)
 have hb2:(out.length + 1 + 1) * 8<=140737488355328:=Jg (Jt 8 (show out.length + 1 + 1<=100003 by omega)) (by decide)
 cases dn
 all_goals
  simp only [forall_const,reduceCtorEq,false_implies] at hd
  have F:=(Ja @hg (Ja @hb @hb2))
  refine rn F ?_
  repeat' (first
   | with_reducible exact ⟨⟩
   | (refine sB F ?_ ?_<;>intro hZ))
 all_goals first
  | exact ⟨rfl,rfl,out,rfl,by omega⟩
  | exact ⟨rfl,rfl,out ++ [n],rfl,by simp; omega⟩
  | exact ⟨⟨(i + 1,out,false),by dsimp only; omega,by dsimp only; (try rw [Jc]); omega,by dsimp only; (try rw [Jc]); first | omega | (intro h; omega) | (intro h; cases h)⟩,by dsimp only; omega,by dsimp only; (try rw [Jc]); exact (gc [0])⟩
  | exact ⟨⟨(i + 1,out ++ [l.getD i 0],false),by dsimp only; omega,by dsimp only; (try rw [Jb,Jd,Jc]); omega,by dsimp only; (try rw [Jb,Jd,Jc]); first | omega | (intro h; omega) | (intro h; cases h)⟩,by dsimp only; omega,by dsimp only; (try rw [Jb,Jd,Jc]); exact (gc [2])⟩
  | exact ⟨⟨(i + 1,out,true),by dsimp only; omega,by dsimp only; (try rw [Jc]); omega,by dsimp only; (try rw [Jc]); first | omega | (intro h; omega) | (intro h; cases h)⟩,by dsimp only; omega,by dsimp only; (try rw [Jc]); exact (gc [0])⟩
  | exact ⟨⟨(i + 1,out ++ [l.getD i 0],true),by dsimp only; omega,by dsimp only; (try rw [Jb,Jd,Jc]); omega,by dsimp only; (try rw [Jb,Jd,Jc]); first | omega | (intro h; omega) | (intro h; cases h)⟩,by dsimp only; omega,by dsimp only; (try rw [Jb,Jd,Jc]); exact (gc [2])⟩
  | exact ⟨⟨(i + 1,out ++ [n],true),by dsimp only; omega,by dsimp only; (try rw [Jb,Jd,Jc]); omega,by dsimp only; (try rw [Jb,Jd,Jc]); first | omega | (intro h; omega) | (intro h; cases h)⟩,by dsimp only; omega,by dsimp only; (try rw [Jb,Jd,Jc]); exact (gc [2])⟩
  | exact ⟨⟨(i + 1,out ++ [n] ++ [l.getD i 0],true),by dsimp only; omega,by dsimp only; (try rw [Jb,Jb,Jd,Jc,Jd,Jc]); omega,by dsimp only; (try rw [Jb,Jb,Jd,Jc,Jd,Jc]); first | omega | (intro h; omega) | (intro h; cases h)⟩,by dsimp only; omega,by dsimp only; (try rw [Jb,Jb,Jd,Jc,Jd,Jc]); exact (gc [4])⟩
  | skip
def QpE (t:Lk) (hs:t.sum<=5000):VCalls prog 248 [.agg t.d] [] (QI ilD fun m=>m.length<=t.sum):=by
 refine dk Tryz.func248 ?_
 have c1:=Qbf t (by omega)
 unfold Lk.sum at *
 obtain ⟨l,w⟩:=t
 dsimp only at hs c1 |-
 (unfold Tryz.f248; refine rn trivial ?_)
 refine rn F ?_
 repeat' (first
  | with_reducible exact ⟨⟩
  | (refine sB F ?_ ?_<;>intro hZ)
  | (refine Ql (c1) rfl ?_; rintro b -; refine rn F ?_))
 all_goals first
  | exact ⟨rfl,rfl,[],rfl,by simp⟩
  | skip
 refine VLoop.wkS ?_
 refine rn trivial ?_
 refine Qg (fun s:{s:Nat × List Int // s.1<=w.length/\s.2.length<=s.1}=>⟨23,0,[(4,.int .i64 s.1.1),(3,.pv (.sl (fz QW s.1.2))),(1,.ptr 0 0)],[⟨38,true,[.pv (.sl (fz Qaz l)),.pv (.sl (fz Qaz w))]⟩]⟩) (fun s=>w.length - s.1.1) ⟨(0,[]),by simp⟩ (gc [0]) ?_
 rintro ⟨⟨i,out⟩,hi,ho⟩
 dsimp only at hi ho |-
 have hg:=fun h:i < w.length=>QaK w i h
 have c2:=QmX out (by omega)
 have F:=@hg
 refine rn F ?_
 repeat' (first
  | with_reducible exact ⟨⟩
  | (refine sB F ?_ ?_<;>intro hZ)
  | (refine Ql (c2 _) rfl ?_; rintro m hm; refine rn F ?_))
 all_goals first
  | exact ⟨⟨(i + 1,m),by dsimp only; omega,by dsimp only; omega⟩,by dsimp only; omega,(gc [0])⟩
  | exact ⟨rfl,rfl,out,rfl,by omega⟩
  | skip
def Qod (t:Lk) (hs:t.sum<=5000) (tx:Int):VCalls prog 157 [.agg t.d,.int .i64 tx] [] (QI ilD fun m=>m.length<=t.sum):=by
 refine dk Tryz.func157 ?_
 have c1:=QdG t (by omega) tx
 unfold Lk.sum at *
 obtain ⟨l,w⟩:=t
 dsimp only at hs c1 |-
 (unfold Tryz.f157; refine rn trivial ?_)
 refine rn F ?_
 repeat' (first
  | with_reducible exact ⟨⟩
  | (refine sB F ?_ ?_<;>intro hZ)
  | (refine Ql (c1) rfl ?_; rintro ⟨g,b⟩ -; refine rn F ?_))
 all_goals first
  | exact ⟨rfl,rfl,[],rfl,by simp⟩
  | skip
 refine VLoop.wkS ?_
 refine rn trivial ?_
 refine Qg (fun s:{s:Nat × List Int // s.1<=l.length/\s.2.length<=s.1}=>⟨73,0,[(8,.int .i64 s.1.1),(7,.pv (.sl (fz QW s.1.2))),(5,.ptr 1 0),(2,.ptr 0 0),(1,.int .i64 tx)],[⟨38,true,[.pv (.sl (fz Qaz l)),.pv (.sl (fz Qaz w))]⟩,⟨219,true,g.d⟩]⟩) (fun s=>l.length - s.1.1) ⟨(0,[]),by simp⟩ (gc [0,1]) ?_
 rintro ⟨⟨i,out⟩,hi,ho⟩
 dsimp only at hi ho |-
 have hg:=fun h:i < l.length=>QaK l i h
 have c2:=QmX out (by omega)
 have c3:=Qgm (l.getD i Gr0) g
 have F:=@hg
 refine rn F ?_
 repeat' (first
  | with_reducible exact ⟨⟩
  | (refine sB F ?_ ?_<;>intro hZ)
  | refine vp F (c3) ?_
  | (refine Ql (c2 _) rfl ?_; rintro m hm; refine rn F ?_)
  | (refine Qd (id:=8) [0,1,2,3,4,5] [⟨[],[],6,[0,1,2,3],[]⟩] (by kernel_rfl) (by kernel_rfl) ?_; refine rn F ?_))
 all_goals first
  | exact ⟨⟨(i + 1,m),by dsimp only; omega,by dsimp only; omega⟩,by dsimp only; omega,(gc [0,1])⟩
  | exact ⟨⟨(i + 1,out),by dsimp only; omega,by dsimp only; omega⟩,by dsimp only; omega,(gc [0,1])⟩
  | skip
 clear c2 c3 hg
 refine Qg (fun s:{s:Nat × List Int // s.1<=w.length/\s.2.length<=l.length + s.1}=>⟨73,0,[(9,.int .i64 s.1.1),(7,.pv (.sl (fz QW s.1.2))),(5,.ptr 1 0),(2,.ptr 0 0),(1,.int .i64 tx)],[⟨38,true,[.pv (.sl (fz Qaz l)),.pv (.sl (fz Qaz w))]⟩,⟨219,true,g.d⟩]⟩) (fun s=>w.length - s.1.1) ⟨(0,out),by dsimp only; omega⟩ (gc [0,1]) ?_
 rintro ⟨⟨j,o2⟩,hj,ho2⟩
 dsimp only at hj ho2 |-
 have hg:=fun h:j < w.length=>QaK w j h
 have c2:=QmX o2 (by omega)
 have c3:=Qgm (w.getD j Gr0) g
 have F:=@hg
 refine rn F ?_
 repeat' (first
  | with_reducible exact ⟨⟩
  | (refine sG F ?_ ?_<;>intro hZ)
  | (refine sB F ?_ ?_<;>intro hZ)
  | refine vp F (c3) ?_
  | (refine Ql (c2 _) rfl ?_; rintro m hm; refine rn F ?_)
  | (refine Qd (id:=13) [0,1,2,3,4,5] [⟨[],[],6,[0,1,2,3],[]⟩] (by kernel_rfl) (by kernel_rfl) ?_; refine rn F ?_))
 all_goals first
  | exact ⟨⟨(j + 1,m),by dsimp only; omega,by dsimp only; omega⟩,by dsimp only; omega,(gc [0,1])⟩
  | exact ⟨⟨(j + 1,o2),by dsimp only; omega,by dsimp only; omega⟩,by dsimp only; omega,(gc [0,1])⟩
  | exact ⟨rfl,rfl,o2,rfl,by omega⟩
  | skip
def Qxb (l:List Int):VCalls prog 250 [.pv (.sl (fz QW l))] [] (QI (fun n:Int=>.int .i64 n) fun _=>True):=by
 refine dd Tryz.func250 ?_
 have hg:=fun h:0 < l.length=>Qae l 0 h
 (unfold Tryz.f250; refine rn trivial ?_)
 have F:=@hg
 refine rn F ?_
 repeat' (first
  | with_reducible exact ⟨⟩
  | (refine sB F ?_ ?_<;>intro hZ))
 all_goals first
  | exact ⟨rfl,rfl,_,rfl,trivial⟩
  | skip
def Qti (t:Lk) (hs:t.sum<=5000) (n:Nat) (hn:n<=5000):∀ (k:Nat) (way:List Int),0 < way.length->way.length + k = n->VCalls prog 249 [.agg t.d,.pv (.sl (fz QW way)),.int .i64 n] [] (QI ilD fun m=>m.length<=5000):=by
 intro k
 induction k with
 | zero =>
   intro way h0 hk
   refine dk Tryz.func249 ?_
   have c1:=Qod t hs
   have hg:=Qae way (way.length - 1) (by omega)
   have hg0:=Qae way 0 h0
   obtain rfl:n = way.length:=by omega
   (unfold Tryz.f249; refine rn trivial ?_)
   have F:=@hg
   refine rn F ?_
   repeat' (first
    | with_reducible exact ⟨⟩
    | (refine Ql (c1 _) rfl ?_; rintro m hm; refine rn F ?_)
    | (refine Qd (id:=1) [0,1,2,3,4,5,6] [⟨[],[],7,[1,2,3,4,5],[]⟩,⟨[],[],8,[],[]⟩] (by kernel_rfl) (by kernel_rfl) ?_; refine rn F ?_))
   refine Qg (fun s:To m.length=>⟨74,0,[(30,.int .i64 s.i),(29,.int .i64 m.length),(28,.pv (.sl (fz QW m))),(1,.pv (.sl (fz QW way)))],[]⟩) (fun s=>m.length - s.i) ⟨0,Jf _⟩ (gc []) ?_
   rintro ⟨i,hi⟩
   dsimp only
   have hx:=fun h:i < m.length=>Qae m i h
   have F:=(Ja @hx @hg0)
   refine rn F ?_
   repeat' (first
    | with_reducible exact ⟨⟩
    | (refine sB F ?_ ?_<;>intro hZ))
   all_goals first
    | exact ⟨⟨i + 1,by omega⟩,by dsimp only; omega,(gc [])⟩
    | exact ⟨rfl,rfl,way,rfl,by omega⟩
    | exact ⟨rfl,rfl,[],rfl,by simp⟩
    | skip
 | succ k ih =>
   intro way h0 hk
   refine dk Tryz.func249 ?_
   have c1:=Qod t hs
   have hg:=Qae way (way.length - 1) (by omega)
   obtain rfl:n = way.length + (k + 1):=by omega
   have hne:¬ (way.length:Int) = ((way.length + (k + 1):Nat):Int):=by omega
   (unfold Tryz.f249; refine rn trivial ?_)
   have F:=(Ja @hg @hne)
   refine rn F ?_
   repeat' (first
    | with_reducible exact ⟨⟩
    | (refine Ql (c1 _) rfl ?_; rintro m hm; refine rn F ?_)
    | (refine Qd (id:=1) [0,1,2,3,4,5,6] [⟨[],[],7,[1,2,3,4,5],[]⟩,⟨[],[],8,[],[]⟩] (by kernel_rfl) (by kernel_rfl) ?_; refine rn F ?_))
   refine Qg (fun s:To m.length=>⟨74,0,[(43,.int .i64 s.i),(42,.int .i64 m.length),(41,.pv (.sl (fz QW m))),(3,.ptr 0 0),(2,.int .i64 (way.length + (k + 1):Nat)),(1,.pv (.sl (fz QW way)))],[⟨38,true,t.d⟩]⟩) (fun s=>m.length - s.i) ⟨0,Jf _⟩ (gc [0]) ?_
   rintro ⟨i,hi⟩
   dsimp only
   have hx:=fun h:i < m.length=>Qae m i h
   have F:=@hx
   refine rn F ?_
   repeat' (first
    | with_reducible exact ⟨⟩
    | (refine sB F ?_ ?_<;>intro hZ))
   rotate_left
   ·exact ⟨rfl,rfl,[],rfl,by simp⟩
   generalize hv:m.getD i 0 = v at *
   refine Qg (fun s:{s:Nat × Bool // s.1<=way.length}=>⟨74,0,[(49,.int .i64 s.1.1),(48,.int .i64 way.length),(47,.pv (.sl (fz QW way))),(43,.int .i64 i),(42,.int .i64 m.length),(41,.pv (.sl (fz QW m))),(12,.bool s.1.2),(11,.int .i64 v),(3,.ptr 0 0),(2,.int .i64 (way.length + (k + 1):Nat)),(1,.pv (.sl (fz QW way)))],[⟨38,true,t.d⟩]⟩) (fun s=>way.length - s.1.1) ⟨(0,false),Jf _⟩ (gc [0]) ?_
   rintro ⟨⟨j,sn⟩,hj⟩
   dsimp only at hj |-
   have hy:=fun h:j < way.length=>Qae way j h
   have hb:(way.length + 1) * 8<=140737488355328:=Jg (Jt 8 (show way.length + 1<=100003 by omega)) (by decide)
   have hb2:way.length * 8<=140737488355328:=Jg (Jt 8 (show way.length<=100003 by omega)) (by decide)
   have ih2:=ih (way ++ [v]) (by simp) (by simp; omega)
   have F:=(Ja @hy (Ja @hb @hb2))
   refine rn F ?_
   repeat' (first
    | with_reducible exact ⟨⟩
    | (refine sG F ?_ ?_<;>intro hZ)
    | (refine sB F ?_ ?_<;>intro hZ)
    | (refine Qjh [3] _ _ (ih2) rfl ⟨⟨by simp,Qu _ _ _⟩,trivial⟩ (by decide) rfl (by simp [DV.nums.go,DV.nums]) ?_ ?_; (focus (refine rd F)); rintro m2 hm2; refine rn F ?_)
    | (refine Qd (id:=20) [0,1,3,6] [⟨[4],[],2,[0,3,6],[]⟩,⟨[4],[4],5,[0,1,3,6],[]⟩,⟨[],[],7,[1,3],[]⟩,⟨[],[],8,[],[]⟩] (by kernel_rfl) (by kernel_rfl) ?_; refine rn F ?_))
   all_goals first
    | exact ⟨⟨(j + 1,v == way.getD j 0),by dsimp only; omega⟩,by dsimp only; omega,(gc [0])⟩
    | exact ⟨⟨(j + 1,true),by dsimp only; omega⟩,by dsimp only; omega,(gc [0])⟩
    | exact ⟨⟨i + 1,by omega⟩,by dsimp only; omega,(gc [0])⟩
    | exact ⟨rfl,rfl,m2,rfl,hm2⟩
    | skip
def Qxe (t:Lk) (hs:t.sum<=5000) (tx:Int):VCalls prog 206 [.agg t.d,.int .i64 tx] [] (QI ilD fun m=>m.length<=5000):=by
 refine dk Tryz.func206 ?_
 have c1:=QpE t hs
 (unfold Tryz.f206; refine rn trivial ?_)
 refine Qg (fun s:{s:Nat // 1<=s/\s<=t.sum + 1}=>⟨23,0,[(5,.int .i64 s.1),(2,.ptr 0 0),(1,.int .i64 tx)],[⟨38,true,t.d⟩]⟩) (fun s=>t.sum + 1 - s.1) ⟨1,by omega⟩ (gc [0]) ?_
 rintro ⟨i,hi⟩
 dsimp only
 have c2:=fun (h:i<=5000)=>Qti t hs i h (i - 1) [tx] (by simp) (by simp; omega)
 refine rn F ?_
 repeat' (first
  | with_reducible exact ⟨⟩
  | (refine sB F ?_ ?_<;>intro hZ)
  | (refine Ql (c1) rfl ?_; rintro m hm; refine rn F ?_))
 ·rw [show ([.pv (.lit (.int .i64 tx))]:List DV) = cells QW [tx] from rfl]
  refine Qjh [1] _ _ (c2 (by omega)) rfl ⟨⟨by simp,Qu _ _ _⟩,trivial⟩ (by decide) rfl (by simp [DV.nums.go,DV.nums]) ?_ ?_
  ·(refine rn trivial ?_; try with_reducible exact ⟨⟩)
  intro m2 hm2
  refine rn F ?_
  repeat' (first
   | with_reducible exact ⟨⟩
   | (refine sB F ?_ ?_<;>intro hZ))
  ·exact ⟨rfl,rfl,m2,rfl,hm2⟩
  ·exact ⟨⟨i + 1,by omega⟩,by dsimp only; omega,(gc [0])⟩
 ·exact ⟨rfl,rfl,[],rfl,by simp⟩
def Qdi (x:Lg):Int:=if lgB x = true then x.end_ else 0
def QeE (x:Lg) (hx:x.es.length<=9223372036854775807):VCalls prog 28 [.agg x.c] [] (Ret (.int .i64 (Qdi x))):=by
 refine dd Tryz.func28 ?_
 have c1:=Q8 x hx
 have c2:=Qfi x
 have hh:=@QT x
 simp only [Lg.hd] at hh
 unfold Qdi
 generalize lgB x = b at *
 cases b
 ·(unfold Tryz.f28; refine rn trivial ?_; try with_reducible exact ⟨⟩)
  refine rn F ?_
  repeat' (first
   | with_reducible exact ⟨⟩
   | refine vp F (c1) ?_)
  all_goals rfl
 ·replace hh:=hh rfl
  (unfold Tryz.f28; refine rn trivial ?_)
  refine rn F ?_
  repeat' (first
   | with_reducible exact ⟨⟩
   | refine vp F (c1) ?_
   | refine vp F (c2 (by omega) (by omega)) ?_)
  all_goals rfl
def Qtn (x:Lg) (hx:x.es.length<=9223372036854775807) (e:E):VCalls prog 174 [.agg x.c,.agg e.d] [] (Ret (QGt (QfD x e))):=by
 refine dk Tryz.func174 ?_
 have c1:=Q8 x hx
 have c2:=Qfi x
 have c3:=QcG { e with lsn:=x.end_ + 1 }
 have hh:=@QT x
 have he:=@Qt5 x
 simp only [Lg.hd] at hh
 have e0:QfD x e = if lgB x = false then (Lg0,0,26) else if x.es.length = 4096\/1099511627776 < x.end_ + 1 then (Lg0,0,21)
  else if ({ e with lsn:=x.end_ + 1 }:E).okB = false then (Lg0,0,12) else (⟨x.f,x.es ++ [{ e with lsn:=x.end_ + 1 }],x.d⟩,x.end_ + 1,0):=rfl
 unfold QGt
 generalize QfD x e = r at *
 generalize lgB x = b at *
 obtain ⟨lsn,kind,tx,ptx,ppg,ref,c,blob⟩:=e
 dsimp only at c3 e0 |-
 cases b
 ·(unfold Tryz.f174; refine rn trivial ?_; try with_reducible exact ⟨⟩)
  refine rn F ?_
  repeat' (first
   | with_reducible exact ⟨⟩
   | refine vp F (c1) ?_)
  all_goals (first | (rw [e0]; simp (disch:=first | assumption | omega | exact rfl | exact nf (by assumption) | exact nt (by assumption) | decide | fail) only [if_pos,if_neg]; first | done | rfl) | (rw [e0]; simp (disch:=first | assumption | omega | exact rfl | exact nf (by assumption) | exact nt (by assumption) | decide | (simp_all; done) | fail) only [if_pos,if_neg]; first | done | rfl))
 ·replace hh:=hh rfl
  replace he:=he rfl
  have hdef:x.end_ = x.f + x.es.length - 1:=rfl
  have hl:=QcA x.es ⟨x.end_ + 1,kind,tx,ptx,ppg,ref,c,blob⟩
  dsimp only at hl
  have hb:(x.es.length + 1) * 128<=140737488355328:=by omega
  generalize (⟨x.end_ + 1,kind,tx,ptx,ppg,ref,c,blob⟩:E).okB = ok at *
  generalize x.end_ = en at *
  (unfold Tryz.f174; refine rn trivial ?_)
  have F:=(Ja @hb @hl)
  refine rn F ?_
  repeat' (first
   | with_reducible exact ⟨⟩
   | (refine sG F ?_ ?_<;>intro hZ)
   | (refine sB F ?_ ?_<;>intro hZ)
   | refine vp F (c1) ?_
   | refine vp F (c2 (by omega) (by omega)) ?_
   | refine vp F (c3) ?_
   | (refine Qd (id:=8) [0,1,3] [⟨[4],[],2,[0,3],[]⟩,⟨[4],[4],5,[0,1,3],[6]⟩,⟨[],[],7,[],[]⟩] (by kernel_rfl) (by kernel_rfl) ?_; refine rn F ?_)
   | (refine Qd (id:=9) [0,1,2] [⟨[],[],3,[1,2],[]⟩,⟨[],[],4,[],[]⟩,⟨[],[],5,[],[]⟩] (by kernel_rfl) (by kernel_rfl) ?_; refine rn F ?_))
  all_goals first | (first | (rw [e0]; simp (disch:=first | assumption | omega | exact rfl | exact nf (by assumption) | exact nt (by assumption) | decide | fail) only [if_pos,if_neg]; first | done | rfl) | (rw [e0]; simp (disch:=first | assumption | omega | exact rfl | exact nf (by assumption) | exact nt (by assumption) | decide | (simp_all; done) | fail) only [if_pos,if_neg]; first | done | rfl)) | skip
def Qgj (x:Lg) (hx:x.es.length<=9223372036854775807) (n:Int):VCalls prog 27 [.agg x.c,.int .i64 n] [] (Ret (lgD (Qao x n))):=by
 refine dk Tryz.func27 ?_
 have c1:=Q8 x hx
 have c2:=Qfi x
 have hh:=@QT x
 simp only [Lg.hd] at hh
 have e0:Qao x n = if lgB x = false then (Lg0,26) else if x.end_ < n then (Lg0,14) else (⟨x.f,x.es,if n > x.d then n else x.d⟩,0):=rfl
 unfold lgD
 generalize Qao x n = r at *
 generalize lgB x = b at *
 cases b
 ·(unfold Tryz.f27; refine rn trivial ?_; try with_reducible exact ⟨⟩)
  refine rn F ?_
  repeat' (first
   | with_reducible exact ⟨⟩
   | refine vp F (c1) ?_)
  all_goals (first | (rw [e0]; simp (disch:=first | assumption | omega | exact rfl | exact nf (by assumption) | exact nt (by assumption) | decide | fail) only [if_pos,if_neg]; first | done | rfl) | (rw [e0]; simp (disch:=first | assumption | omega | exact rfl | exact nf (by assumption) | exact nt (by assumption) | decide | (simp_all; done) | fail) only [if_pos,if_neg]; first | done | rfl))
 ·replace hh:=hh rfl
  (unfold Tryz.f27; refine rn trivial ?_)
  refine rn F ?_
  repeat' (first
   | with_reducible exact ⟨⟩
   | (refine sB F ?_ ?_<;>intro hZ)
   | refine vp F (c1) ?_
   | refine vp F (c2 (by omega) (by omega)) ?_)
  all_goals first | (first | (rw [e0]; simp (disch:=first | assumption | omega | exact rfl | exact nf (by assumption) | exact nt (by assumption) | decide | fail) only [if_pos,if_neg]; first | done | rfl) | (rw [e0]; simp (disch:=first | assumption | omega | exact rfl | exact nf (by assumption) | exact nt (by assumption) | decide | (simp_all; done) | fail) only [if_pos,if_neg]; first | done | rfl)) | skip
def QfN (x:Lg) (n:Int):E × Int:=if lgB x = false then (E0,26) else if n < x.f\/x.end_ < n then (E0,14) else (x.es.getD (n - x.f).toNat E0,0)
def QiF (x:Lg) (hx:x.es.length<=9223372036854775807) (n:Int):VCalls prog 175 [.agg x.c,.int .i64 n] [] (Ret (.tup [.agg (QfN x n).1.d,.int .i64 (QfN x n).2])):=by
 refine dk Tryz.func175 ?_
 have c1:=Q8 x hx
 have c2:=Qfi x
 have hh:=@QT x
 simp only [Lg.hd] at hh
 have e0:QfN x n = if lgB x = false then (E0,26) else if n < x.f\/x.end_ < n then (E0,14) else (x.es.getD (n - x.f).toNat E0,0):=rfl
 generalize QfN x n = r at *
 generalize lgB x = b at *
 cases b
 ·(unfold Tryz.f175; refine rn trivial ?_; try with_reducible exact ⟨⟩)
  refine rn F ?_
  repeat' (first
   | with_reducible exact ⟨⟩
   | refine vp F (c1) ?_)
  all_goals (first | (rw [e0]; simp (disch:=first | assumption | omega | exact rfl | exact nf (by assumption) | exact nt (by assumption) | decide | fail) only [if_pos,if_neg]; first | done | rfl) | (rw [e0]; simp (disch:=first | assumption | omega | exact rfl | exact nf (by assumption) | exact nt (by assumption) | decide | (simp_all; done) | fail) only [if_pos,if_neg]; first | done | rfl))
 ·replace hh:=hh rfl
  have hdef:x.end_ = x.f + x.es.length - 1:=rfl
  generalize x.end_ = en at *
  have hg:=fun h:(n - x.f).toNat < x.es.length=>Qbu x.es (n - x.f).toNat h
  (unfold Tryz.f175; refine rn trivial ?_)
  have F:=@hg
  refine rn F ?_
  repeat' (first
   | with_reducible exact ⟨⟩
   | (refine sG F ?_ ?_<;>intro hZ)
   | (refine sB F ?_ ?_<;>intro hZ)
   | refine vp F (c1) ?_
   | refine vp F (c2 (by omega) (by omega)) ?_)
  all_goals first | (first | (rw [e0]; simp (disch:=first | assumption | omega | exact rfl | exact nf (by assumption) | exact nt (by assumption) | decide | fail) only [if_pos,if_neg]; first | done | rfl) | (rw [e0]; simp (disch:=first | assumption | omega | exact rfl | exact nf (by assumption) | exact nt (by assumption) | decide | (simp_all; done) | fail) only [if_pos,if_neg]; first | done | rfl)) | skip
def QEc (x:Lg) (hx:x.es.length<=9223372036854775807) (n:Int):VCalls prog 29 [.agg x.c,.int .i64 n] [] (Ret (lgD (QDi x n))):=by
 refine dk Tryz.func29 ?_
 have c1:=Q8 x hx
 have c2:=Qfi x
 have hh:=@QT x
 simp only [Lg.hd] at hh
 have e0:QDi x n = if lgB x = false then (Lg0,26) else if n < x.f\/x.end_ + 1 < n\/1099511627776 < n then (Lg0,1) else if x.d < n - 1 then (Lg0,15) else (⟨n,x.es.drop (n - x.f).toNat,x.d⟩,0):=rfl
 unfold lgD
 generalize QDi x n = r at *
 generalize lgB x = b at *
 cases b
 ·(unfold Tryz.f29; refine rn trivial ?_; try with_reducible exact ⟨⟩)
  refine rn F ?_
  repeat' (first
   | with_reducible exact ⟨⟩
   | refine vp F (c1) ?_)
  all_goals (first | (rw [e0]; simp (disch:=first | assumption | omega | exact rfl | exact nf (by assumption) | exact nt (by assumption) | decide | fail) only [if_pos,if_neg]; first | done | rfl) | (rw [e0]; simp (disch:=first | assumption | omega | exact rfl | exact nf (by assumption) | exact nt (by assumption) | decide | (simp_all; done) | fail) only [if_pos,if_neg]; first | done | rfl))
 ·replace hh:=hh rfl
  have hdef:x.end_ = x.f + x.es.length - 1:=rfl
  generalize x.end_ = en at *
  have hb:(x.es.length - (n - x.f).toNat) * 128<=140737488355328:=by omega
  (unfold Tryz.f29; refine rn trivial ?_)
  have F:=@hb
  refine rn F ?_
  repeat' (first
   | with_reducible exact ⟨⟩
   | (refine sG F ?_ ?_<;>intro hZ)
   | (refine sB F ?_ ?_<;>intro hZ)
   | refine vp F (c1) ?_
   | refine vp F (c2 (by omega) (by omega)) ?_)
  all_goals first | (first | (rw [e0]; simp (disch:=first | assumption | omega | exact rfl | exact nf (by assumption) | exact nt (by assumption) | decide | fail) only [if_pos,if_neg]; first | done | rfl) | (rw [e0]; simp (disch:=first | assumption | omega | exact rfl | exact nf (by assumption) | exact nt (by assumption) | decide | (simp_all; done) | fail) only [if_pos,if_neg]; first | done | rfl)) | skip
def Qt0 (n:Int):Bool:=decide (0<=n) && decide (n<=1099511627776)
def QsS (n:Int):VCalls prog 231 [.int .i64 n] [] (Ret (.bool (Qt0 n))):=by
 refine dd Tryz.func231 ?_
 (unfold Tryz.f231; refine rn trivial ?_)
 refine rn F ?_
 repeat' (first
  | with_reducible exact ⟨⟩
  | (refine sG F ?_ ?_<;>intro hZ))
 all_goals (first | rfl | (congr 3; rw [Kc]; (try simp only [Qt0,decide_eq_true_eq,Jl,JR,J4,JY,decide_eq_false_iff_not,beq_iff_eq,bne_iff_ne,ne_eq,JZ,J0,iff_true,true_iff,iff_false,false_iff]); first | done | omega | grind))
def QDY (l:List Rw) (i:Nat):Bool:=Qt0 (l.getD i Rw0).lsn && Qt0 (l.getD i Rw0).im && Qt0 (l.getD i Rw0).at_ && !(decide ((l.getD i Rw0).im = 0) && !decide ((l.getD i Rw0).at_ = 0))
def ixB (l:List Rw):Bool:=decide (1<=l.length) && decide (l.length<=64) && (JF l.length).all (QDY l)
def Quc (h:ixB l = true):1<=l.length/\l.length<=64:=by
 unfold ixB at h; simp only [Jl,decide_eq_true_eq] at h; exact h.1
def Qbg (l:List Rw) (hl:l.length<=1000000):VCalls prog 184 [.agg [.pv (.sl (fz Qce l))]] [] (Ret (.bool (ixB l))):=by
 refine dd Tryz.func184 ?_
 have hB:ixB l = (decide (1<=l.length) && decide (l.length<=64) && (JF l.length).all (QDY l)):=rfl
 have hB':1<=l.length->l.length<=64->ixB l = (JF l.length).all (QDY l):=fun h h2=>by rw [hB,decide_eq_true h,decide_eq_true h2,Kh,Kh]
 have no:¬ (1<=l.length/\l.length<=64)->ixB l = false:=fun h=>by
  rw [hB]
  by_cases h1:1<=l.length
  ·rw [decide_eq_false (show ¬ l.length<=64 from fun h2=>h ⟨h1,h2⟩)]; simp
  ·rw [decide_eq_false h1]; rfl
 generalize ixB l = b at *
 (unfold Tryz.f184; refine rn trivial ?_)
 refine rn F ?_
 repeat' (first
  | with_reducible exact ⟨⟩
  | (refine sG F ?_ ?_<;>intro hZ)
  | (refine sB F ?_ ?_<;>intro hZ))
 all_goals first | (rw [no (by omega)]) | skip
 refine Qg (fun s:Okay l.length (QDY l)=>⟨53,0,[(3,.int .i64 s.i),(1,.ptr 0 0)],[⟨42,true,[.pv (.sl (fz Qce l))]⟩]⟩) (fun s=>l.length - s.i) (Okay.start _ _) (gc [0]) ?_
 intro s
 have hsi:=s.hi
 have hg:=fun h:s.i < l.length=>QlS l s.i h
 have e:QDY l s.i = (Qt0 (l.getD s.i Rw0).lsn && Qt0 (l.getD s.i Rw0).im && Qt0 (l.getD s.i Rw0).at_ && !(decide ((l.getD s.i Rw0).im = 0) && !decide ((l.getD s.i Rw0).at_ = 0))):=rfl
 have c1:=QsS (l.getD s.i Rw0).lsn
 have c2:=QsS (l.getD s.i Rw0).im
 have c3:=QsS (l.getD s.i Rw0).at_
 generalize Qt0 (l.getD s.i Rw0).lsn = b1 at *
 generalize Qt0 (l.getD s.i Rw0).im = b2 at *
 generalize Qt0 (l.getD s.i Rw0).at_ = b3 at *
 have F:=@hg
 refine rn F ?_
 repeat' (first
  | with_reducible exact ⟨⟩
  | (refine sG F ?_ ?_<;>intro hZ)
  | (refine sB F ?_ ?_<;>intro hZ)
  | refine vp F (c1) ?_
  | refine vp F (c2) ?_
  | refine vp F (c3) ?_)
 all_goals first
  | (exact congrArg DV.bool (s.no (by omega) (hB' (by omega) (by omega)) (by rw [e]; simp_all)).symm)
  | (exact congrArg DV.bool (s.yes (by omega) (hB' (by omega) (by omega))).symm)
  | (exact ⟨s.next (by omega) (by rw [e]; simp_all),s.dec (by omega),(gc [0])⟩)
  | skip
def QAG (l:List Rw) (i:Nat) (r:Rw) (hi:i < l.length):(cells Qce l).take (i * 3) ++ [.pv (.lit (.int .i64 r.lsn)),.pv (.lit (.int .i64 r.im)),.pv (.lit (.int .i64 r.at_))] ++ (cells Qce l).drop (i * 3 + 3) = cells Qce (l.set i r):=Qn1 Qce l i r hi
def Qw3 (l:List Rw) (hl:l.length<=1000000) (i:Nat) (hi:i < l.length) (r:Rw):VCalls prog 219 [.agg [.pv (.sl (fz Qce l))],.int .i64 i,.agg r.d] [] (Ret (.agg [.pv (.sl (fz Qce (l.set i r)))])):=by
 refine dd Tryz.func219 ?_
 have hb:i * 3 + 3<=l.length * 3:=by omega
 have hse:=QAG l i r hi
 have hle:(l.set i r).length = l.length:=JG
 (unfold Tryz.f219; refine rn trivial ?_)
 have F:=(Ja @hb (Ja @hse @hle))
 (refine rn F ?_; try with_reducible exact ⟨⟩)
def QxH {e:E} (h:e.okB = true) (hk:e.kind = 1\/e.kind = 2\/e.kind = 7):0<=e.c.pg/\e.c.pg < 64:=by
 unfold E.okB at h
 simp only [Jl] at h
 have h2:=h.2
 unfold E.kindB Ch.okB Ch.ix at h2
 rcases hk with hk | hk | hk<;>rw [hk] at h2<;>simp at h2<;>omega
def Qhi (l:List Rw) (e:E):List Rw × Int:=
 if ixB l = false then ([],28) else if e.okB = false then ([],12) else if e.kind ≠ 7 then (l,0) else if (l.length:Int)<=e.c.pg then ([],1)
 else (l.set e.c.pg.toNat ⟨if e.ref > (l.getD e.c.pg.toNat Rw0).lsn then e.ref else (l.getD e.c.pg.toNat Rw0).lsn,(l.getD e.c.pg.toNat Rw0).im,(l.getD e.c.pg.toNat Rw0).at_⟩,0)
def Qk7 (l:List Rw) (hl:l.length<=1000000) (e:E):VCalls prog 177 [.agg [.pv (.sl (fz Qce l))],.agg e.d] [] (Ret (.tup [.agg [.pv (.sl (fz Qce (Qhi l e).1))],.int .i64 (Qhi l e).2])):=by
 refine dk Tryz.func177 ?_
 have c1:=Qbg l hl
 have c2:=QcG e
 have c3:=fun i hi=>Qw3 l hl i hi
 have hp:=@QxH e
 have hp1:=hp
 have e0:Qhi l e = if ixB l = false then ([],28) else if e.okB = false then ([],12) else if e.kind ≠ 7 then (l,0) else if (l.length:Int)<=e.c.pg then ([],1)
  else (l.set e.c.pg.toNat ⟨if e.ref > (l.getD e.c.pg.toNat Rw0).lsn then e.ref else (l.getD e.c.pg.toNat Rw0).lsn,(l.getD e.c.pg.toNat Rw0).im,(l.getD e.c.pg.toNat Rw0).at_⟩,0):=rfl
 generalize Qhi l e = r at *
 generalize ixB l = b at *
 cases hok:e.okB
 ·rw [hok] at c2 e0
  (unfold Tryz.f177; refine rn trivial ?_)
  refine rn F ?_
  repeat' (first
   | with_reducible exact ⟨⟩
   | (refine sB F ?_ ?_<;>intro hZ)
   | refine vp F (c1) ?_
   | refine vp F (c2) ?_)
  all_goals first | (first | (rw [e0]; simp (disch:=first | assumption | omega | exact rfl | exact nf (by assumption) | exact nt (by assumption) | decide | fail) only [if_pos,if_neg]; first | done | rfl) | (rw [e0]; simp (disch:=first | assumption | omega | exact rfl | exact nf (by assumption) | exact nt (by assumption) | decide | (simp_all; done) | fail) only [if_pos,if_neg]; first | done | rfl)) | skip
 rw [hok] at c2 e0
 by_cases hk:e.kind = 7
 ·obtain ⟨i,hi⟩:∃ i:Nat,e.c.pg = i:=⟨e.c.pg.toNat,by have:=hp hok (.inr (.inr hk)); omega⟩
  rw [hi,Jz] at e0
  have hg:=fun h:i < l.length=>QlS l i h
  generalize l.getD i Rw0 = w at *
  (unfold Tryz.f177; refine rn trivial ?_)
  have F:=(Ja @hi (Ja @hg @hk))
  refine rn F ?_
  repeat' (first
   | with_reducible exact ⟨⟩
   | (refine sB F ?_ ?_<;>intro hZ)
   | refine vp F (c1) ?_
   | refine vl F (c2) ?_
   | refine vp F (c3 i (by omega) ⟨_,_,_⟩) ?_)
  all_goals first | (first | (rw [e0]; simp (disch:=first | assumption | omega | exact rfl | exact nf (by assumption) | exact nt (by assumption) | decide | fail) only [if_pos,if_neg]; first | done | rfl) | (rw [e0]; simp (disch:=first | assumption | omega | exact rfl | exact nf (by assumption) | exact nt (by assumption) | decide | (simp_all; done) | fail) only [if_pos,if_neg]; first | done | rfl)) | skip
 ·(unfold Tryz.f177; refine rn trivial ?_; try with_reducible exact ⟨⟩)
  have F:=@hk
  refine rn F ?_
  repeat' (first
   | with_reducible exact ⟨⟩
   | (refine sB F ?_ ?_<;>intro hZ)
   | refine vp F (c1) ?_
   | refine vp F (c2) ?_)
  all_goals first | (first | (rw [e0]; simp (disch:=first | assumption | omega | exact rfl | exact nf (by assumption) | exact nt (by assumption) | decide | fail) only [if_pos,if_neg]; first | done | rfl) | (rw [e0]; simp (disch:=first | assumption | omega | exact rfl | exact nf (by assumption) | exact nt (by assumption) | decide | (simp_all; done) | fail) only [if_pos,if_neg]; first | done | rfl)) | skip
def Tx.ss (t:Tx):Prop:=t.l.length<=100000/\t.s.length<=100000
def Tx.ss.sm {t:Tx} (h:t.ss):t.sm:=⟨Jg h.1 (by decide),Jg h.2 (by decide)⟩
def smN (n:Nat) (l:List Tx):Prop:=l.length<=n/\∀ t ∈ l,t.ss
def smN.smL (h:smN n l) (hn:n<=1000000):smL l:=⟨Jg h.1 hn,fun t ht=>(h.2 t ht).sm⟩
def smN.mono (h:smN n l) (hn:n<=m):smN m l:=⟨Jg h.1 hn,h.2⟩
def QU (n:Nat):smN n []:=⟨Jf _,fun t h=>by simp at h⟩
def Qgf (h:Qd7 l = true):smN 64 l:=⟨QnZ h,fun t ht=>by
 obtain ⟨i,hi,rfl⟩:=List.getElem_of_mem ht
 have:=Qfn (Qd6 h hi)
 exact ⟨by omega,by omega⟩⟩
def smN.set (h:smN n l) (i:Nat) (ht:t.ss):smN n (l.set i t):=
 ⟨by rw [JG]; exact h.1,fun x hx=>by
  rcases List.mem_or_eq_of_mem_set hx with hx | rfl
  ·exact h.2 x hx
  ·exact ht⟩
def smN.rem (h:smN n l) (a:Int):smN n (QpN l a):=
 ⟨Jg (Qs7 l a) h.1,fun x hx=>h.2 x ((List.mem_filter.1 hx).1)⟩
def Qmb (a:Int):smN 65 (Qcz l a).1:=by
 unfold Qcz
 split
 ·exact QU _
 ·rename_i h1
  have hv:Qd7 l = true:=by simpa using h1
  have hs:=Qgf hv
  split
  ·exact QU _
  split
  ·exact QU _
  split
  ·exact QU _
  refine ⟨?_,fun x hx=>?_⟩
  ·have:=hs.1; unfold QF8; simp only [Jb,Jo,Jd,Jw]; omega
  ·unfold QF8 at hx
   rcases Jp.1 hx with h | h
   ·exact hs.2 x (List.mem_of_mem_take h)
   rcases Jj.1 h with rfl | h
   ·exact ⟨Jf _,Jf _⟩
   ·exact hs.2 x (List.mem_of_mem_drop h)
def QvI (h:(Qw l a).2 = 0):smN 64 l/\(Qw l a).1.l.length<=4096/\(Qw l a).1.s.length<=8:=by
 obtain ⟨hv,i,hi,_,_,h3⟩:=QdW h
 rw [h3]
 exact ⟨Qgf hv,Qfn (Qd6 hv hi)⟩
def QwA (a:Int):smN 65 (Qsr l a).1:=by
 unfold Qsr
 split
 ·exact QU _
 rename_i h
 obtain ⟨h1,h2,h3⟩:=QvI (l:=l) (a:=a) (by simpa using h)
 split
 ·exact QU _
 ·exact (h1.set _ ⟨by dsimp only; omega,by dsimp only; simp; omega⟩).mono (by omega)
def QyP (a sv:Int):smN 65 (Qvw l a sv).1:=by
 unfold Qvw
 split
 ·exact QU _
 rename_i h
 obtain ⟨h1,h2,h3⟩:=QvI (l:=l) (a:=a) (by simpa using h)
 have h4:∀ k,((Qw l a).1.s.take k).length<=100000:=fun k=>by rw [Jo]; omega
 split
 ·exact QU _
 split
 ·exact (h1.set _ ⟨by dsimp only; omega,h4 _⟩).mono (by omega)
 ·exact (h1.set _ ⟨by dsimp only; omega,h4 _⟩).mono (by omega)
def Qpv (h:t.ss):(Qah t).ss:=by unfold Qah; split<;>exact h
def QjI (e:E):smN 65 (Qb9 l e).1:=by
 unfold Qb9
 split
 ·exact QU _
 rename_i h1
 have hv:Qd7 l = true:=by simpa using h1
 have hs:=Qgf hv
 split
 ·exact QU _
 split
 ·exact hs.mono (by omega)
 split
 ·exact QU _
 rename_i h4
 rcases Qak l e.tx with h | ⟨i,hi,h,hid⟩
 ·omega
 rw [h,Jz,Qm l i hi]
 have hlen:=Qfn (Qd6 hv hi)
 unfold QpZ
 split
 ·exact QU _
 split
 ·exact (hs.rem _).mono (by omega)
 ·refine (hs.set _ (Qpv ?_)).mono (by omega)
  unfold Qfo
  have hfl:(l[i].l.filter fun x=>decide (x ≠ e.ref)).length<=l[i].l.length:=List.length_filter_le _ _
  split
  ·exact ⟨by dsimp only; simp; omega,by dsimp only; omega⟩
  split
  ·exact ⟨by dsimp only; omega,by dsimp only; omega⟩
  ·exact ⟨by dsimp only; omega,by simp⟩
attribute [go_sem] Tx.d
structure Kn where
 pg:Int
 nx:Int
 lg:Lg
 pl:Pl
 lk:Lk
 tx:List Tx
 ix:List Rw
 la:List Dt
@[go_sem] def Kn.d (k:Kn):List DV:=[.int .i64 k.pg,.int .i64 k.nx,.int .i64 k.lg.f,.pv (.sl (fz encE k.lg.es)),.int .i64 k.lg.d,.int .i64 k.pl.size,.pv (.sl (fz QcC k.pl.fs)),.int .i64 k.pl.hand,.pv (.sl (fz Qaz k.lk.held)),.pv (.sl (fz Qaz k.lk.wait)),.pv (.sl (fz Qat k.tx)),.pv (.sl (fz Qce k.ix)),.pv (.sl (fz QdQ k.la))]
def Kn0:Kn:=⟨0,0,Lg0,Pl0,Lk0,[],[],[]⟩
def Kn.sm (k:Kn):Prop:=k.lg.es.length<=4096/\k.pl.fs.length<=64/\k.lk.sum<=1024/\smN 65 k.tx/\k.ix.length<=64/\k.la.length<=10000
def Qb3:Kn0.sm:=⟨by decide,by decide,by decide,QU _,by decide,by decide⟩
def VK (k:Kn):Prop:=(1<=k.pg/\k.pg<=64)/\(1<=k.nx/\k.nx<=1073741825)/\lgB k.lg = true/\plB k.pl = true/\Qd7 k.tx = true/\ixB k.ix = true/\k.ix.length = k.pg
def boD (b:Bool):DV:=.bool b
attribute [go_sem] boD QGt lgD QDd QGy QGD
def Qk1 (l:List Dt) (hl:l.length<=1000000) (n:Int):VCalls prog 185 [.pv (.sl (fz QdQ l)),.int .i64 n] [] (QI boD fun _=>True):=by
 refine dd Tryz.func185 ?_
 (unfold Tryz.f185; refine rn trivial ?_)
 refine Qg (fun s:To l.length=>⟨58,0,[(5,.int .i64 s.i),(1,.int .i64 n),(0,.pv (.sl (fz QdQ l)))],[]⟩) (fun s=>l.length - s.i) ⟨0,Jf _⟩ (gc []) ?_
 rintro ⟨i,hi⟩
 dsimp only
 have hg:=fun h:i < l.length=>QfO l i h
 have hgp:=fun h:i - 1 < l.length=>QfO l (i - 1) h
 have F:=(Ja @hg @hgp)
 refine rn F ?_
 repeat' (first
  | with_reducible exact ⟨⟩
  | (refine sG F ?_ ?_<;>intro hZ)
  | (refine sB F ?_ ?_<;>intro hZ)
  | (refine Qd (id:=5) [0,1,2,3,4,5,6,7,8,9,10,11,12,13,14,15,16,17,18,19,20,21,22,23,24,25,26,27,28,29,30,31,32,33,34,35,36,37,38,39,40] [] (by kernel_rfl) (by kernel_rfl) ?_; refine rn F ?_))
 all_goals first
  | exact ⟨rfl,rfl,false,rfl,trivial⟩
  | exact ⟨rfl,rfl,true,rfl,trivial⟩
  | exact ⟨⟨i + 1,by omega⟩,by dsimp only; omega,(gc [])⟩
  | skip
@[go_sem] def laD (a:Dt × Bool):DV:=.tup [.agg a.1.d,.bool a.2]
def Qgi (k:Kn) (hl:k.la.length<=1000000) (n:Int):VCalls prog 136 [.agg k.d,.int .i64 n] [] (QI laD fun _=>True):=by
 refine dd Tryz.func136 ?_
 (unfold Tryz.f136; refine rn trivial ?_)
 refine Qg (fun s:To k.la.length=>⟨28,0,[(6,.int .i64 s.i),(4,.ptr 1 0),(2,.ptr 0 0),(1,.int .i64 n)],[⟨45,true,k.d⟩,⟨187,true,[.int .i64 0,.int .i64 0,.int .i64 0]⟩]⟩) (fun s=>k.la.length - s.i) ⟨0,Jf _⟩ (gc [0,1]) ?_
 rintro ⟨i,hi⟩
 dsimp only
 have hg:=fun h:i < k.la.length=>QfO k.la i h
 have F:=@hg
 refine rn F ?_
 repeat' (first
  | with_reducible exact ⟨⟩
  | (refine sB F ?_ ?_<;>intro hZ))
 all_goals first
  | exact ⟨rfl,rfl,(k.la.getD i Dt0,true),rfl,trivial⟩
  | exact ⟨rfl,rfl,(Dt0,false),rfl,trivial⟩
  | exact ⟨⟨i + 1,by omega⟩,by dsimp only; omega,(gc [0,1])⟩
  | skip
def QwV (k:Kn) (h:k.sm):VCalls prog 135 [.agg k.d] [] (QI boD fun b=>b = true->VK k):=by
 refine dd Tryz.func135 ?_
 obtain ⟨h1,h2,h3,h4,h5,h6⟩:=h
 have c1:=Q8 k.lg (by omega)
 have c2:=Qax k.pl (by omega)
 have c3:=Qbf k.lk (by omega)
 have c4:=QbL k.tx (h4.smL (by omega))
 have c5:=Qbg k.ix (by omega)
 have c6:=fun n=>Qk1 k.la (by omega) n
 have e:VK k = ((1<=k.pg/\k.pg<=64)/\(1<=k.nx/\k.nx<=1073741825)/\lgB k.lg = true/\plB k.pl = true/\Qd7 k.tx = true/\ixB k.ix = true/\k.ix.length = k.pg):=rfl
 generalize lgB k.lg = b1 at *
 generalize plB k.pl = b2 at *
 generalize Qd7 k.tx = b4 at *
 generalize ixB k.ix = b5 at *
 (unfold Tryz.f135; refine rn trivial ?_)
 refine rn F ?_
 repeat' (first
  | with_reducible exact ⟨⟩
  | (refine sG F ?_ ?_<;>intro hZ)
  | refine vp F (c1) ?_
  | refine vp F (c2) ?_
  | (refine Ql (c3) rfl ?_; rintro b3 -; refine rn F ?_)
  | refine vp F (c4) ?_
  | refine vp F (c5) ?_
  | (refine Ql (c6 _) rfl ?_; rintro b6 -; refine rn F ?_))
 all_goals first
  | exact ⟨rfl,rfl,false,rfl,fun h=>by cases h⟩
  | (exact ⟨rfl,rfl,_,rfl,fun _=>by rw [e]; refine ⟨⟨by omega,by omega⟩,⟨by omega,by omega⟩,?_,?_,?_,?_,?_⟩<;>first | assumption | omega | (simp_all; done)⟩)
  | skip
def QxU (h:lgB ⟨f,es,d⟩ = true) (hl:es.length < 4096) (he:e.lsn = f + es.length) (ho:e.okB = true):lgB ⟨f,es ++ [e],d⟩ = true:=by
 have hd:=QT h
 simp only [Lg.hd] at hd
 unfold lgB at h |-
 simp only [Jl,decide_eq_true_eq,JO,JK] at h |-
 refine ⟨by simp only [Lg.hd,Jb,Jd,Jc]; omega,fun i hi=>?_⟩
 simp only [Jb,Jd,Jc] at hi
 rcases Nat.lt_or_ge i es.length with hlt | hge
 ·have:=h.2 i hlt
  unfold lgC at this |-
  dsimp only at this |-
  rw [Jh,Je hlt,<- Jh]
  exact this
 ·obtain rfl:i = es.length:=by omega
  unfold lgC
  dsimp only
  rw [Jh,JA (Js _),J5]
  simp [he,ho]
def QnK (h:(QfD x e).2.2 = 0):lgB x = true/\x.es.length < 4096/\({ e with lsn:=x.end_ + 1 }:E).okB = true/\QfD x e = (⟨x.f,x.es ++ [{ e with lsn:=x.end_ + 1 }],x.d⟩,x.end_ + 1,0):=by
 unfold QfD at h |-
 split at h
 ·simp at h
 rename_i h1
 have hv:lgB x = true:=by simpa using h1
 split at h
 ·simp at h
 rename_i h2
 split at h
 ·simp at h
 rename_i h3
 have hd:=QT hv
 simp only [Lg.hd] at hd
 exact ⟨hv,by omega,by simpa using h3,by rw [if_neg h1,if_neg h2,if_neg h3]⟩
def Qj8 (h:(QfD x e).2.2 = 0):lgB (QfD x e).1 = true:=by
 obtain ⟨h1,h2,h3,h4⟩:=QnK h
 rw [h4]
 exact QxU (f:=x.f) (d:=x.d) h1 h2 (by dsimp only; unfold Lg.end_; omega) h3
def Qo0 (x:Lg) (e:E):(QfD x e).1.es.length<=4096:=by
 by_cases h:(QfD x e).2.2 = 0
 ·exact (QT (Qj8 h)).2.2.1
 ·unfold QfD at h |-
  split
  ·decide
  split
  ·decide
  split
  ·decide
  ·simp_all
def QyR (h:(QfD x e).2.2 = 0):QfN (QfD x e).1 (QfD x e).2.1 = ({ e with lsn:=x.end_ + 1 },0):=by
 have hl:=Qj8 h
 obtain ⟨h1,h2,h3,h4⟩:=QnK h
 rw [h4] at hl |-
 unfold QfN
 dsimp only at hl |-
 have hd:=QT h1
 simp only [Lg.hd] at hd
 rw [if_neg (by rw [hl]; decide),if_neg (by unfold Lg.end_; simp only [Jb,Jd,Jc]; omega)]
 have:(x.end_ + 1 - x.f).toNat = x.es.length:=by unfold Lg.end_; omega
 rw [this,Jh,JA (Js _),J5]; rfl
def Qly (l:List Rw) (e:E) (h:l.length<=64):(Qhi l e).1.length<=64:=by
 unfold Qhi
 split
 ·decide
 split
 ·decide
 split
 ·exact h
 split
 ·decide
 ·simpa using h
def QtR (l:List Tx) (e:E):smN 65 (Qb9 l e).1:=QjI e
def Q0 (k:Kn) (h:k.sm):VCalls prog 107 [.agg k.d] [] (QI boD fun b=>b = true->VK k):=by
 refine dd Tryz.func107 ?_
 have c1:=QwV k h
 obtain ⟨h1,h2,h3,h4,h5,h6⟩:=h
 have c2:=Qgi k (by omega)
 unfold Lk.sum at h3
 have h40:=h4.1
 (unfold Tryz.f107; refine rn trivial ?_)
 refine rn F ?_
 repeat' (first
  | with_reducible exact ⟨⟩
  | (refine sB F ?_ ?_<;>intro hZ)
  | (refine Ql (c1) rfl ?_; rintro b hb; refine rn F ?_))
 all_goals first
  | exact ⟨rfl,rfl,false,rfl,fun h=>by cases h⟩
  | skip
 refine Qg (fun s:To k.tx.length=>⟨94,0,[(3,.int .i64 s.i),(1,.ptr 0 0)],[⟨45,true,k.d⟩]⟩) (fun s=>k.tx.length - s.i) ⟨0,Jf _⟩ (gc [0]) ?_
 rintro ⟨i,hi⟩
 dsimp only
 have hg:=fun h:i < k.tx.length=>Qej k.tx i h
 have F:=@hg
 refine rn F ?_
 repeat' (first
  | with_reducible exact ⟨⟩
  | (refine sB F ?_ ?_<;>intro hZ)
  | (refine Qd (id:=6) [0,1,2,3,4,5,6,7,8] [] (by kernel_rfl) (by kernel_rfl) ?_; refine rn F ?_))
 all_goals first
  | exact ⟨rfl,rfl,false,rfl,fun h=>by cases h⟩
  | exact ⟨⟨i + 1,by omega⟩,by dsimp only; omega,(gc [0])⟩
  | skip
 refine Qg (fun s:To k.pl.fs.length=>⟨94,0,[(4,.int .i64 s.i),(1,.ptr 0 0)],[⟨45,true,k.d⟩]⟩) (fun s=>k.pl.fs.length - s.i) ⟨0,Jf _⟩ (gc [0]) ?_
 rintro ⟨j,hj⟩
 dsimp only
 have hf:=fun h:j < k.pl.fs.length=>Qb1 k.pl.fs j h
 have F:=@hf
 refine rn F ?_
 repeat' (first
  | with_reducible exact ⟨⟩
  | (refine sB F ?_ ?_<;>intro hZ)
  | (refine Ql (c2 _) rfl ?_; rintro ⟨a,b2⟩ -; refine rn F ?_))
 all_goals first
  | exact ⟨rfl,rfl,false,rfl,fun h=>by cases h⟩
  | exact ⟨⟨j + 1,by omega⟩,by dsimp only; omega,(gc [0])⟩
  | skip
 refine Qg (fun s:To k.lk.held.length=>⟨94,0,[(8,.int .i64 s.i),(1,.ptr 0 0)],[⟨45,true,k.d⟩]⟩) (fun s=>k.lk.held.length - s.i) ⟨0,Jf _⟩ (gc [0]) ?_
 rintro ⟨m,hm⟩
 dsimp only
 have hx:=fun h:m < k.lk.held.length=>QaK k.lk.held m h
 have F:=@hx
 refine rn F ?_
 repeat' (first
  | with_reducible exact ⟨⟩
  | (refine sB F ?_ ?_<;>intro hZ)
  | (refine Qd (id:=20) [0,1,2,3,4,5,6,7,8,9,10] [] (by kernel_rfl) (by kernel_rfl) ?_; refine rn F ?_))
 all_goals first
  | exact ⟨rfl,rfl,false,rfl,fun h=>by cases h⟩
  | exact ⟨⟨m + 1,by omega⟩,by dsimp only; omega,(gc [0])⟩
  | skip
 refine Qg (fun s:To k.lk.wait.length=>⟨94,0,[(9,.int .i64 s.i),(1,.ptr 0 0)],[⟨45,true,k.d⟩]⟩) (fun s=>k.lk.wait.length - s.i) ⟨0,Jf _⟩ (gc [0]) ?_
 rintro ⟨n,hn⟩
 dsimp only
 have hy:=fun h:n < k.lk.wait.length=>QaK k.lk.wait n h
 have F:=@hy
 refine rn F ?_
 repeat' (first
  | with_reducible exact ⟨⟩
  | (refine sB F ?_ ?_<;>intro hZ)
  | (refine Qd (id:=25) [0,1,2,3,4,5,6,7,8,9,10] [] (by kernel_rfl) (by kernel_rfl) ?_; refine rn F ?_))
 all_goals first
  | exact ⟨rfl,rfl,false,rfl,fun h=>by cases h⟩
  | exact ⟨⟨n + 1,by omega⟩,by dsimp only; omega,(gc [0])⟩
  | exact ⟨rfl,rfl,true,rfl,fun _=>hb (by assumption)⟩
  | skip
@[go_sem] def inD (n:Int):DV:=.int .i64 n
def Qm3 (k:Kn) (h:k.sm) (n:Int):VCalls prog 139 [.agg k.d,.int .i64 n] [] (QI inD fun _=>True):=by
 refine dd Tryz.func139 ?_
 have c1:=Q0 k h
 obtain ⟨h1,h2,h3,h4,h5,h6⟩:=h
 have c2:=Qgi k (by omega) n
 have c3:=Qg2 k.pl (by omega) n
 have hg:=fun h:n.toNat < k.ix.length=>QlS k.ix n.toNat h
 (unfold Tryz.f139; refine rn trivial ?_)
 refine Ql c1 rfl ?_
 rintro b hb
 cases b
 ·skip
  (refine rn F ?_; try with_reducible exact ⟨⟩)
  all_goals exact ⟨rfl,rfl,_,rfl,trivial⟩
 obtain ⟨v1,v2,v3,v4,v5,v6,v7⟩:=hb rfl
 have F:=@hg
 refine rn F ?_
 repeat' (first
  | with_reducible exact ⟨⟩
  | (refine sG F ?_ ?_<;>intro hZ)
  | (refine sB F ?_ ?_<;>intro hZ)
  | refine vp F (c3) ?_
  | (refine Ql (c2) rfl ?_; rintro ⟨a,b2⟩ -; refine rn F ?_))
 all_goals first
  | exact ⟨rfl,rfl,_,rfl,trivial⟩
  | skip
def QeF (k:Kn) (h:k.sm) (n:Int):VCalls prog 123 [.agg k.d,.int .i64 n] [] (QI (fun d:Int=>.agg (Kn.d ⟨k.pg,k.nx,⟨k.lg.f,k.lg.es,d⟩,k.pl,k.lk,k.tx,k.ix,k.la⟩)) fun d=>lgB k.lg = true->lgB ⟨k.lg.f,k.lg.es,d⟩ = true):=by
 refine dd Tryz.func123 ?_
 obtain ⟨h1,h2,h3,h4,h5,h6⟩:=h
 have c1:=QeE k.lg (by omega)
 have c2:=Qgj k.lg (by omega)
 have e:∀ n,(Qao k.lg n).2 = 0->(Qao k.lg n).1 = ⟨k.lg.f,k.lg.es,(Qao k.lg n).1.d⟩/\lgB (Qao k.lg n).1 = true:=fun n h=>by
  unfold Qao at h |-
  split at h
  ·simp at h
  rename_i q1
  split at h
  ·simp at h
  rename_i q2
  rw [if_neg q1,if_neg q2]
  refine ⟨rfl,?_⟩
  have hv:lgB k.lg = true:=by simpa using q1
  have hd:=QT hv
  unfold lgB at hv |-
  simp only [Jl,decide_eq_true_eq] at hv |-
  refine ⟨?_,hv.2⟩
  simp only [Lg.hd,Lg.end_] at hd q2 |-
  split<;>omega
 (unfold Tryz.f123; refine rn trivial ?_)
 refine rn F ?_
 repeat' (first
  | with_reducible exact ⟨⟩
  | (refine sB F ?_ ?_<;>intro hZ)
  | refine vp F (c1) ?_
  | refine vp F (c2 _) ?_
  | (refine Qd (id:=1) [0,1,2,3,4] [⟨[11],[],5,[0,1,2,3],[6]⟩,⟨[11],[],7,[0,2,3,4],[8,9,10]⟩,⟨[11],[11],12,[10],[]⟩,⟨[],[],13,[],[]⟩] (by kernel_rfl) (by kernel_rfl) ?_; refine rn F ?_))
 ·obtain ⟨e1,e2⟩:=e _ (by assumption)
  generalize Qao k.lg _ = r at *
  obtain ⟨⟨f',es',d'⟩,er⟩:=r
  simp only [Lg.mk.injEq] at e1
  obtain ⟨rfl,rfl,_⟩:=e1
  exact ⟨rfl,rfl,d',rfl,fun _=>e2⟩
 ·exact ⟨rfl,rfl,k.lg.d,rfl,fun h=>h⟩
@[go_sem] def kie (a:Kn × Int × Int):DV:=.tup [.agg a.1.d,.int .i64 a.2.1,.int .i64 a.2.2]
def QzD (k:Kn) (a:Kn × Int × Int):Prop:=a.1.sm/\(a.2.2 = 0->VK k/\(Qcz k.tx k.nx).2 = 0/\a.1 = ⟨k.pg,k.nx + 1,k.lg,k.pl,k.lk,(Qcz k.tx k.nx).1,k.ix,k.la⟩)
def QsZ (k:Kn) (h:k.sm):VCalls prog 99 [.agg k.d] [] (QI kie (QzD k)):=by
 refine dk Tryz.func99 ?_
 have c1:=Q0 k h
 have h':=h
 obtain ⟨h1,h2,h3,h4,h5,h6⟩:=h
 have c2:=Qoi k.tx (h4.smL (by omega)) k.nx
 have hsm:=Qmb (l:=k.tx) k.nx
 have e0:∀ er n,er ≠ 0->QzD k (Kn0,n,er):=fun er n h=>⟨Qb3,fun h2=>absurd h2 h⟩
 (unfold Tryz.f99; refine rn trivial ?_)
 refine Ql c1 rfl ?_
 rintro b hb
 cases b
 ·skip
  (refine rn F ?_; try with_reducible exact ⟨⟩)
  all_goals exact ⟨rfl,rfl,(Kn0,0,15),rfl,e0 _ _ (by decide)⟩
 have hv:=hb rfl
 obtain ⟨v1,v2,v3,v4,v5,v6,v7⟩:=hb rfl
 refine rn F ?_
 repeat' (first
  | with_reducible exact ⟨⟩
  | (refine sB F ?_ ?_<;>intro hZ)
  | refine vp F (c2) ?_
  | (refine Qd (id:=10) [0,1,2,3] [⟨[],[],4,[1,2,3],[]⟩,⟨[],[],5,[],[]⟩,⟨[],[],6,[],[]⟩] (by kernel_rfl) (by kernel_rfl) ?_; refine rn F ?_))
 all_goals first
  | exact ⟨rfl,rfl,(Kn0,0,21),rfl,e0 _ _ (by decide)⟩
  | exact ⟨rfl,rfl,(Kn0,0,(Qcz k.tx k.nx).2),rfl,e0 _ _ (by assumption)⟩
  | exact ⟨rfl,rfl,(⟨k.pg,k.nx + 1,k.lg,k.pl,k.lk,(Qcz k.tx k.nx).1,k.ix,k.la⟩,k.nx + 1 - 1,0),rfl,⟨h1,h2,h3,hsm,h5,h6⟩,fun _=>⟨hv,by omega,rfl⟩⟩
  | skip
def Kn.add (k:Kn) (e:E):Kn:=⟨k.pg,k.nx,⟨k.lg.f,k.lg.es ++ [e],k.lg.d⟩,k.pl,k.lk,(Qb9 k.tx e).1,(Qhi k.ix e).1,k.la⟩
def QFh (e e':E):Prop:=e'.kind = e.kind/\e'.tx = e.tx/\e'.ref = e.ref/\e'.c = e.c/\e'.blob = e.blob
def AddOk (k:Kn) (e e':E):Prop:=VK k/\QFh e e'/\e'.okB = true/\e'.lsn = k.lg.end_ + 1/\k.lg.es.length < 4096/\(Qb9 k.tx e').2 = 0/\(Qhi k.ix e').2 = 0/\(e.tx = 0->e'.ptx = 0)/\(0 < e.tx->∃ i,i < k.tx.length/\idT k.tx e.tx = i/\e'.ptx = (k.tx.getD i Tx0).n)
def QzF (k:Kn) (e:E) (a:Kn × Int × Int):Prop:=a.1.sm/\(a.2.2 = 0->∃ e',AddOk k e e'/\a.1 = k.add e'/\a.2.1 = e'.lsn/\lgB a.1.lg = true)
def QCU (k:Kn) (e:E) (n er:Int) (h:er ≠ 0):QzF k e (Kn0,n,er):=⟨Qb3,fun h2=>absurd h2 h⟩
def Qka (hs:k.sm) (hv:VK k) (h:(QfD k.lg e1).2.2 = 0) (hn:(Qb9 k.tx (QfN (QfD k.lg e1).1 (QfD k.lg e1).2.1).1).2 = 0) (hr:(Qhi k.ix (QfN (QfD k.lg e1).1 (QfD k.lg e1).2.1).1).2 = 0) (hse:QFh e e1) (h0:e.tx = 0->e1.ptx = 0) (hi:0 < e.tx->∃ i,i < k.tx.length/\idT k.tx e.tx = i/\e1.ptx = (k.tx.getD i Tx0).n):
 QzF k e (⟨k.pg,k.nx,(QfD k.lg e1).1,k.pl,k.lk,(Qb9 k.tx (QfN (QfD k.lg e1).1 (QfD k.lg e1).2.1).1).1,(Qhi k.ix (QfN (QfD k.lg e1).1 (QfD k.lg e1).2.1).1).1,k.la⟩,(QfD k.lg e1).2.1,0):=by
 have hg:=QyR h
 have hl:=Qj8 h
 obtain ⟨q1,q2,q3,q4⟩:=QnK h
 have hlen:=Qo0 k.lg e1
 obtain ⟨s1,s2,s3,s4,s5,s6⟩:=hs
 rw [hg] at hn hr |-
 rw [q4] at hl hlen |-
 exact ⟨⟨hlen,s2,s3,QtR _ _,Qly _ _ s5,s6⟩,fun _=>⟨{ e1 with lsn:=k.lg.end_ + 1 },⟨hv,hse,q3,rfl,q2,hn,hr,h0,hi⟩,rfl,rfl,hl⟩⟩
def Qec (k:Kn) (h:k.sm) (e:E):VCalls prog 131 [.agg k.d,.agg e.d] [] (QI kie (QzF k e)):=by
 refine dk Tryz.func131 ?_
 have c1:=Q0 k h
 have ch:=fun n=>Qm3 k h n
 have h':=h
 obtain ⟨h1,h2,h3,h4,h5,h6⟩:=h
 have c2:=Qb6 k.tx (Jg h4.1 (by decide)) e.tx
 have hq:=QCU k e
 obtain ⟨lsn,kind,tx,ptx,ppg,ref,c,blob⟩:=e
 dsimp only at c2
 have c3:=fun p=>QaW ⟨lsn,kind,tx,p,0,ref,c,blob⟩
 have c4:=fun e=>Qtn k.lg (by omega) e
 have c5:=fun e=>QiF (QfD k.lg e).1 (by have:=Qo0 k.lg e; omega) (QfD k.lg e).2.1
 have c6:=fun e=>Qm1 k.tx (h4.smL (by omega)) e
 have c7:=fun e=>Qk7 k.ix (by omega) e
 (unfold Tryz.f131; refine rn trivial ?_)
 refine Ql c1 rfl ?_
 rintro b hb
 cases b
 ·skip
  (refine rn F ?_; try with_reducible exact ⟨⟩)
  all_goals exact ⟨rfl,rfl,(Kn0,0,15),rfl,hq _ _ (by decide)⟩
 have hv:=hb rfl
 by_cases ht:0 < tx
 ·rcases Qak k.tx tx with hi | ⟨i,hi,hid,_⟩
  ·rw [hi] at c2
   have F:=@ht
   refine rn F ?_
   repeat' (first
    | with_reducible exact ⟨⟩
    | refine vp F (c2) ?_)
   all_goals exact ⟨rfl,rfl,(Kn0,0,16),rfl,hq _ _ (by decide)⟩
  ·rw [hid] at c2
   have hg:=Qej k.tx i hi
   have F:=(Ja @ht @hg)
   refine rn F ?_
   repeat' (first
    | with_reducible exact ⟨⟩
    | (refine sB F ?_ ?_<;>intro hZ)
    | refine vp F (c2) ?_
    | refine vp F (c3 _) ?_
    | refine vp F (c4 ⟨_,_,_,_,_,_,⟨_,_,⟨_,_⟩,⟨_,_⟩⟩,_⟩) ?_
    | refine vp F (c5 _) ?_
    | refine vp F (c6 _) ?_
    | refine vp F (c7 _) ?_
    | (refine Ql (ch _) rfl ?_; rintro hd -; refine rn F ?_)
    | (refine Qd (id:=21) [0,1,2,3] [⟨[],[],4,[1,2],[5]⟩,⟨[],[],6,[2],[7]⟩,⟨[],[],8,[],[]⟩] (by kernel_rfl) (by kernel_rfl) ?_; refine rn F ?_))
   all_goals first
    | exact ⟨rfl,rfl,(Kn0,0,_),rfl,hq _ _ (by assumption)⟩
    | (have q:=Qka (e:=⟨lsn,kind,tx,ptx,ppg,ref,c,blob⟩) (e1:=⟨lsn,kind,tx,(k.tx.getD i Tx0).n,0,ref,c,blob⟩) h' hv (by omega) (by omega) (by omega) ⟨rfl,rfl,rfl,rfl,rfl⟩ (fun h=>by dsimp only at h; omega) (fun _=>⟨i,hi,hid,rfl⟩)
       exact ⟨rfl,rfl,_,rfl,q⟩)
    | (have q:=Qka (e:=⟨lsn,kind,tx,ptx,ppg,ref,c,blob⟩) (e1:=⟨lsn,kind,tx,(k.tx.getD i Tx0).n,hd,ref,c,blob⟩) h' hv (by omega) (by omega) (by omega) ⟨rfl,rfl,rfl,rfl,rfl⟩ (fun h=>by dsimp only at h; omega) (fun _=>⟨i,hi,hid,rfl⟩)
       exact ⟨rfl,rfl,_,rfl,q⟩)
    | skip
 ·skip
  have F:=@ht
  refine rn F ?_
  repeat' (first
   | with_reducible exact ⟨⟩
   | (refine sB F ?_ ?_<;>intro hZ)
   | refine vp F (c3 _) ?_
   | refine vp F (c4 ⟨_,_,_,_,_,_,⟨_,_,⟨_,_⟩,⟨_,_⟩⟩,_⟩) ?_
   | refine vp F (c5 _) ?_
   | refine vp F (c6 _) ?_
   | refine vp F (c7 _) ?_
   | (refine Ql (ch _) rfl ?_; rintro hd -; refine rn F ?_)
   | (refine Qd (id:=21) [0,1,2,3] [⟨[],[],4,[1,2],[5]⟩,⟨[],[],6,[2],[7]⟩,⟨[],[],8,[],[]⟩] (by kernel_rfl) (by kernel_rfl) ?_; refine rn F ?_))
  all_goals first
   | exact ⟨rfl,rfl,(Kn0,0,_),rfl,hq _ _ (by assumption)⟩
   | (have q:=Qka (e:=⟨lsn,kind,tx,ptx,ppg,ref,c,blob⟩) (e1:=⟨lsn,kind,tx,0,0,ref,c,blob⟩) h' hv (by omega) (by omega) (by omega) ⟨rfl,rfl,rfl,rfl,rfl⟩ (fun _=>rfl) (fun h=>absurd h ht)
      exact ⟨rfl,rfl,_,rfl,q⟩)
   | (have q:=Qka (e:=⟨lsn,kind,tx,ptx,ppg,ref,c,blob⟩) (e1:=⟨lsn,kind,tx,0,hd,ref,c,blob⟩) h' hv (by omega) (by omega) (by omega) ⟨rfl,rfl,rfl,rfl,rfl⟩ (fun _=>rfl) (fun h=>absurd h ht)
      exact ⟨rfl,rfl,_,rfl,q⟩)
   | skip
structure Rs where
 st:Int
 tx:Int
 pg:Int
 cell:Ce
 er:Int
@[go_sem] def Rs.d (r:Rs):List DV:=[.int .i64 r.st,.int .i64 r.tx,.int .i64 r.pg,.bool r.cell.set,.pv (.str r.cell.data),.int .i64 r.er]
def QaR (e:Int):Rs:=⟨5,0,0,Ce0,e⟩
@[go_sem] def krD (a:Kn × Rs):DV:=.tup [.agg a.1.d,.agg a.2.d]
structure Ev (x y:Lg):Prop where
 f:y.f = x.f
 pre:x.es <+: y.es
 ok:lgB x = true->lgB y = true
def Ev.refl (x:Lg):Ev x x:=⟨rfl,Kd,fun h=>h⟩
def Ev.trans (a:Ev x y) (b:Ev y z):Ev x z:=⟨b.f.trans a.f,a.pre.trans b.pre,fun h=>b.ok (a.ok h)⟩
def Ev.len (a:Ev x y):x.es.length<=y.es.length:=a.pre.length_le
def AddOk.le {k:Kn} {e e':E} (_:AddOk k e e') (hl:lgB (k.add e').lg = true):Ev k.lg (k.add e').lg:=⟨rfl,List.prefix_append _ _,fun _=>hl⟩
def Ev.force (h:lgB x = true->lgB ⟨x.f,x.es,d⟩ = true):Ev x ⟨x.f,x.es,d⟩:=⟨rfl,Kd,h⟩
def Qeo (hq:QzF k e (k1,n1,e1)) (h:e1 = 0):Ev k.lg k1.lg/\lgB k1.lg = true/\k1.lg.es.length = k.lg.es.length + 1/\k1.pg = k.pg/\k1.pl = k.pl/\k1.lk = k.lk/\k1.la = k.la:=by
 obtain ⟨e',ha,hk,_,hl⟩:=hq.2 h
 dsimp only at hk hl
 subst hk
 exact ⟨ha.le hl,hl,by simp [Kn.add],rfl,rfl,rfl,rfl⟩
def Qap (e:Int):VCalls prog 83 [.int .i64 e] [] (Ret (.agg (QaR e).d)):=by
 refine dd Tryz.func83 ?_
 (unfold Tryz.f83; refine rn trivial ?_)
 rfl
def QpO (k:Kn) (h:k.sm) (tx pg sl:Int) (hi:0<=idT k.tx tx):VCalls prog 244 [.agg k.d,.int .i64 tx,.agg [.int .i64 pg,.int .i64 sl]] [] (QI boD fun _=>True):=by
 refine dd Tryz.func244 ?_
 obtain ⟨h1,h2,h3,h4,h5,h6⟩:=h
 have c2:=Qb6 k.tx (Jg h4.1 (by decide)) tx
 have c5:=fun n=>QiF k.lg (by omega) n
 rcases Qak k.tx tx with hn | ⟨i,hil,hid,_⟩
 ·omega
 rw [hid] at c2
 have hg:=Qej k.tx i hil
 have ht:(k.tx.getD i Tx0).l.length<=100000:=by rw [Qm _ _ hil]; exact (h4.2 _ (J7 hil)).1
 (unfold Tryz.f244; refine rn trivial ?_)
 have F:=@hg
 refine rn F ?_
 repeat' (first
  | with_reducible exact ⟨⟩
  | refine vp F (c2) ?_
  | (refine Qd (id:=1) [0,1,2,3,4] [⟨[8],[],5,[0,1,2],[6,7]⟩,⟨[8],[8],9,[],[]⟩] (by kernel_rfl) (by kernel_rfl) ?_; refine rn F ?_))
 generalize k.tx.getD i Tx0 = t at *
 refine Qg (fun s:To t.l.length=>⟨55,0,[(8,.int .i64 s.i),(7,.ptr 2 0),(5,.ptr 1 0),(3,.ptr 0 0)],[⟨45,true,k.d⟩,⟨102,true,[.int .i64 pg,.int .i64 sl]⟩,⟨215,true,t.d⟩]⟩) (fun s=>t.l.length - s.i) ⟨0,Jf _⟩ (gc [0,1,2]) ?_
 rintro ⟨j,hj⟩
 dsimp only
 have hx:=fun h:j < t.l.length=>Qae t.l j h
 have F:=@hx
 refine rn F ?_
 repeat' (first
  | with_reducible exact ⟨⟩
  | (refine sG F ?_ ?_<;>intro hZ)
  | (refine sB F ?_ ?_<;>intro hZ)
  | refine vp F (c5 _) ?_
  | (refine Qd (id:=5) [0,1,2,3,4,5,6] [⟨[11],[],7,[0,2,3,4,5],[8,9,10]⟩,⟨[11],[11],12,[10],[]⟩,⟨[],[],13,[],[]⟩] (by kernel_rfl) (by kernel_rfl) ?_; refine rn F ?_))
 all_goals first
  | exact ⟨rfl,rfl,true,rfl,trivial⟩
  | exact ⟨rfl,rfl,false,rfl,trivial⟩
  | exact ⟨⟨j + 1,by omega⟩,by dsimp only; omega,(gc [0,1,2])⟩
  | skip
def QCz (k:Kn) (a:Kn × Rs):Prop:=a.1.sm/\Ev k.lg a.1.lg/\a.2.st ≠ 3
def Qth (k:Kn) (h:k.sm) (tx:Int) (hi:0<=idT k.tx tx):VCalls prog 199 [.agg k.d,.int .i64 tx] [] (QI krD (QCz k)):=by
 refine dk Tryz.func199 ?_
 have h':=h
 obtain ⟨h1,h2,h3,h4,h5,h6⟩:=h
 have c2:=Qb6 k.tx (Jg h4.1 (by decide)) tx
 have c3:=Qg1 k.tx (Jg h4.1 (by decide)) tx
 have c4:=Qec k h' ⟨0,3,tx,0,0,0,Ch0,[]⟩
 rcases Qak k.tx tx with hn | ⟨i,hil,hid,_⟩
 ·omega
 rw [hid] at c2
 have hg:=Qej k.tx i hil
 (unfold Tryz.f199; refine rn trivial ?_)
 have F:=@hg
 refine rn F ?_
 repeat' (first
  | with_reducible exact ⟨⟩
  | (refine sB F ?_ ?_<;>intro hZ)
  | refine vp F (c2) ?_
  | refine vp F (c3) ?_
  | (refine Ql (c4) rfl ?_; rintro ⟨k1,n1,e1⟩ hq; refine rn F ?_)
  | refine vp F (Qap _) ?_
  | (refine Ql (QeF k1 hq.1 _) rfl ?_; rintro d hd; refine rn F ?_)
  | (refine Ql (QdI k.lk (by omega) tx) rfl ?_; rintro u hu; refine rn F ?_)
  | (refine Ql (QdI k1.lk (Jg hq.1.2.2.1 (by decide)) tx) rfl ?_; rintro u hu; refine rn F ?_)
  | (refine Qd (id:=2) [0,1,2,3,4] [⟨[],[],5,[0,1,2],[6,7,8,9]⟩] (by kernel_rfl) (by kernel_rfl) ?_; refine rn F ?_)
  | (refine Qd (id:=6) [0,1] [⟨[],[],2,[0],[]⟩,⟨[],[],3,[1],[]⟩,⟨[],[],4,[],[]⟩] (by kernel_rfl) (by kernel_rfl) ?_; refine rn F ?_))
 ·exact ⟨rfl,rfl,(⟨k.pg,k.nx,k.lg,k.pl,u,QpN k.tx tx,k.ix,k.la⟩,⟨1,0,0,Ce0,0⟩),rfl,⟨h1,h2,Jg hu h3,h4.rem _,h5,h6⟩,Ev.refl _,by simp [QaR]⟩
 ·exact ⟨rfl,rfl,(k,QaR e1),rfl,h',Ev.refl _,by simp [QaR]⟩
 ·obtain ⟨q1,q2,q3,q4,q5,q6,q7⟩:=Qeo hq (by omega)
  obtain ⟨r1,r2,r3,r4,r5,r6⟩:=hq.1
  exact ⟨rfl,rfl,(⟨k1.pg,k1.nx,⟨k1.lg.f,k1.lg.es,d⟩,k1.pl,u,k1.tx,k1.ix,k1.la⟩,⟨1,0,0,Ce0,0⟩),rfl,⟨r1,r2,Jg hu r3,r4,r5,r6⟩,q1.trans (Ev.force hd),by simp [QaR]⟩
def QB6:0<=idT l a ↔ a ∈ l.map (·.id):=by
 unfold idT QhO
 constructor
 ·intro h
  split at h
  ·rename_i hx
   obtain ⟨t,ht,he⟩:=JP.1 hx
   exact Jv.2 ⟨t,ht,by simpa using he⟩
  ·omega
 ·intro h
  obtain ⟨t,ht,he⟩:=Jv.1 h
  rw [if_pos (JP.2 ⟨t,ht,by simpa using he⟩)]
  omega
def Qpw (t:Tx):(Qah t).id = t.id:=by unfold Qah; split<;>rfl
def QxL (t:Tx) (e:E):(Qfo t e).id = t.id:=by unfold Qfo; split; rfl; split<;>rfl
def QtS (h:(Qb9 l e).2 = 0) (hk:e.kind ≠ 3/\e.kind ≠ 5):(Qb9 l e).1.map (·.id) = l.map (·.id):=by
 unfold Qb9 at h |-
 split at h
 ·simp at h
 rename_i q1
 split at h
 ·simp at h
 rename_i q2
 split at h
 ·rename_i q3; rw [if_neg q1,if_neg q2,if_pos q3]
 rename_i q3
 split at h
 ·simp at h
 rename_i q4
 rw [if_neg q1,if_neg q2,if_neg q3,if_neg q4]
 rcases Qak l e.tx with hn | ⟨i,hi,hid,_⟩
 ·omega
 rw [hid,Jz] at h |-
 unfold QpZ at h |-
 split at h
 ·simp at h
 rename_i q5
 split at h
 ·rename_i q6; omega
 rename_i q6
 rw [if_neg q5,if_neg q6]
 dsimp only
 rw [Ki,Qpw,QxL,Qm l i hi]
 have:l[i].id = (l.map (·.id))[i]'(by simpa using hi):=by rw [J6]
 rw [this,List.set_getElem_self]
def QpX (h:(Qb9 l e).2 = 0) (hk:e.kind ≠ 3/\e.kind ≠ 5) (ha:0<=idT l a):0<=idT (Qb9 l e).1 a:=by
 rw [QB6] at ha |-; rw [QtS h hk]; exact ha
def QpY (h:(Qb9 l e).2 = 0) (ht:e.tx = 0):(Qb9 l e).1 = l:=by
 unfold Qb9 at h |-
 split at h
 ·simp at h
 rename_i q1
 split at h
 ·simp at h
 rename_i q2
 rw [if_neg q1,if_neg q2,if_pos ht]
def QvF (hq:QzF k e (k1,n1,e1)) (h:e1 = 0) (hk:e.kind ≠ 3/\e.kind ≠ 5) (ha:0<=idT k.tx a):0<=idT k1.tx a:=by
 obtain ⟨e',⟨v,s,_,_,_,hn,_⟩,hk1,_,_⟩:=hq.2 h
 dsimp only at hk1
 subst hk1
 exact QpX hn (by rw [s.1]; exact hk) ha
def QvH (hq:QzF k e (k1,n1,e1)) (h:e1 = 0) (ht:e.tx = 0):k1.tx = k.tx:=by
 obtain ⟨e',⟨v,s,_,_,_,hn,_⟩,hk1,_,_⟩:=hq.2 h
 dsimp only at hk1
 subst hk1
 exact QpY hn (by rw [s.2.1]; exact ht)
def QED (k:Kn) (st:Int) (a:Kn × Rs):Prop:=a.1.sm/\Ev k.lg a.1.lg/\(a.2.st = st\/a.2.st = 5)
def Qoa (k:Kn) (h:k.sm) (tx st:Int) (hi:0<=idT k.tx tx):VCalls prog 200 [.agg k.d,.int .i64 tx,.int .i64 st] [] (QI krD (QED k st)):=by
 refine dk Tryz.func200 ?_
 have h':=h
 obtain ⟨h1,h2,h3,h4,h5,h6⟩:=h
 have c1:=Qtl k.lk (by omega) tx
 have c2:=Qb6 k.tx (Jg h4.1 (by decide)) tx
 have c3:=Qg1 k.tx (Jg h4.1 (by decide)) tx
 have c4:=fun (u:Lk) (hu:u.sum<=k.lk.sum)=>Qec ⟨k.pg,k.nx,k.lg,k.pl,u,k.tx,k.ix,k.la⟩ ⟨h1,h2,Jg hu h3,h4,h5,h6⟩ ⟨0,4,tx,0,0,0,Ch0,[]⟩
 rcases Qak k.tx tx with hn | ⟨i,hil,hid,_⟩
 ·omega
 rw [hid] at c2
 have hg:=Qej k.tx i hil
 (unfold Tryz.f200; refine rn trivial ?_)
 have F:=@hg
 refine rn F ?_
 repeat' (first
  | with_reducible exact ⟨⟩
  | (refine sB F ?_ ?_<;>intro hZ)
  | (refine Ql (c1) rfl ?_; rintro u hu; refine rn F ?_)
  | refine vp F (c2) ?_
  | refine vp F (c3) ?_
  | (refine Ql (c4 u hu) rfl ?_; rintro ⟨k1,n1,e1⟩ hq; refine rn F ?_)
  | refine vp F (Qap _) ?_
  | (refine Ql (QdI u (Jg hu (Jg h3 (by decide))) tx) rfl ?_; rintro u2 hu2; refine rn F ?_)
  | (refine Qd (id:=3) [0,1,2,3,4] [⟨[],[],5,[0,1,2],[6,7,8,9]⟩] (by kernel_rfl) (by kernel_rfl) ?_; refine rn F ?_)
  | (refine Qd (id:=9) [0,1] [⟨[],[],2,[0],[]⟩,⟨[],[],3,[1],[]⟩,⟨[],[],4,[],[]⟩] (by kernel_rfl) (by kernel_rfl) ?_; refine rn F ?_))
 ·exact ⟨rfl,rfl,(⟨k.pg,k.nx,k.lg,k.pl,u2,QpN k.tx tx,k.ix,k.la⟩,⟨st,0,0,Ce0,0⟩),rfl,⟨h1,h2,Jg hu2 (Jg hu h3),h4.rem _,h5,h6⟩,Ev.refl _,.inl rfl⟩
 ·exact ⟨rfl,rfl,(k,QaR e1),rfl,h',Ev.refl _,.inr rfl⟩
 have he1:e1 = 0:=by omega
 obtain ⟨q1,q2,q3,q4,q5,q6,q7⟩:=Qeo hq he1
 have hst:=QvF hq he1 ⟨by simp,by simp⟩ hi
 obtain ⟨r1,r2,r3,r4,r5,r6⟩:=hq.1
 dsimp only at q1 hst r1 r2 r3 r4 r5 r6
 have hkl:k1.lk.held.length<=1024:=by unfold Lk.sum at r3; omega
 refine Qg (fun s:{s:Nat × Lk // s.1<=k1.lk.held.length/\s.2.sum<=1024}=>⟨95,0,[(12,.int .i64 s.1.1),(11,.pv (.sl (fz Qaz k1.lk.held))),(8,.ptr 2 0),(7,.ptr 1 0),(6,.ptr 0 0),(2,.int .i64 st),(1,.int .i64 tx)],[⟨45,true,[.int .i64 0,.int .i64 0,.int .i64 0,.pv (.slc []),.int .i64 0,.int .i64 0,.pv (.slc []),.int .i64 0,.pv (.slc []),.pv (.slc []),.pv (.slc []),.pv (.slc []),.pv (.slc [])]⟩,⟨130,true,[.int .i64 0,.int .i64 0,.int .i64 0,.bool false,.pv (.str []),.int .i64 0]⟩,⟨45,true,Kn.d ⟨k1.pg,k1.nx,k1.lg,k1.pl,s.1.2,k1.tx,k1.ix,k1.la⟩⟩]⟩) (fun s=>k1.lk.held.length - s.1.1) ⟨(0,k1.lk),Jf _,r3⟩ (gc [1,2,3]) ?_
 rintro ⟨⟨j,u3⟩,hj,hu3⟩
 dsimp only at hj hu3 |-
 have hx:=fun h:j < k1.lk.held.length=>QaK k1.lk.held j h
 have d1:=QpO ⟨k1.pg,k1.nx,k1.lg,k1.pl,u3,k1.tx,k1.ix,k1.la⟩ ⟨r1,r2,hu3,r4,r5,r6⟩ tx
 have d2:=Qte u3 (by omega) tx
 have F:=@hx
 refine rn F ?_
 repeat' (first
  | with_reducible exact ⟨⟩
  | (refine sG F ?_ ?_<;>intro hZ)
  | (refine sB F ?_ ?_<;>intro hZ)
  | (refine Ql (d1 _ _ hst) rfl ?_; rintro b -; refine rn F ?_)
  | (refine Ql (d2 _ _) rfl ?_; rintro u4 hu4; refine rn F ?_)
  | (refine Qd (id:=14) [0,1,2,3,4,5,6,7,8,9,10,11,12,13,14] [⟨[],[],15,[0,1,2,3,4,5,6,10,11,12,13],[16,17]⟩] (by kernel_rfl) (by kernel_rfl) ?_; refine rn F ?_)
  | (refine Qd (id:=15) [0,1,2,3,4,5,6,7] [⟨[],[],8,[0,3,4,5,6],[9]⟩,⟨[],[],10,[],[]⟩] (by kernel_rfl) (by kernel_rfl) ?_; refine rn F ?_))
 all_goals first
  | exact ⟨⟨(j + 1,u3),by dsimp only; omega,hu3⟩,by dsimp only; omega,(gc [0,1,2])⟩
  | exact ⟨⟨(j + 1,u4),by dsimp only; omega,Jg hu4 hu3⟩,by dsimp only; omega,(gc [0,1,2])⟩
  | exact ⟨rfl,rfl,(⟨k1.pg,k1.nx,k1.lg,k1.pl,u3,k1.tx,k1.ix,k1.la⟩,⟨st,0,0,Ce0,0⟩),rfl,⟨r1,r2,hu3,r4,r5,r6⟩,q1,.inl rfl⟩
  | skip
section
attribute [local go_sem] Qbj
def Qj3 (x:Pg) (i:Nat) (h:i < 16) (c:Ce):x.d.take (2 + i * 2) ++ [.pv (.lit (.bool c.set)),.pv (.str c.data)] ++ x.d.drop (2 + i * 2 + 2) = (x.setc i c).d:=QCE x i h c
def QxG {e:E} (h:e.okB = true) (hk:e.kind = 1\/e.kind = 2):0<=e.c.sl/\e.c.sl < 16:=by
 unfold E.okB at h
 simp only [Jl] at h
 have h2:=h.2
 unfold E.kindB Ch.okB at h2
 rcases hk with hk | hk<;>rw [hk] at h2<;>simp at h2<;>omega
def QvG (hq:QzF k e (k1,n1,e1)) (h:e1 = 0) (hk:e.kind = 1\/e.kind = 2):0<=e.c.sl/\e.c.sl < 16:=by
 obtain ⟨e',⟨v,s,ho,_⟩,_⟩:=hq.2 h
 have:=QxG ho (by rw [s.1]; exact hk)
 rw [s.2.2.2.1] at this
 exact this
def Qwi (p:Pl) (x:Pg) (h:p.fs.length<=64):(QAn p x).1.fs.length<=64:=by
 unfold QAn
 repeat' split
 all_goals first | exact Jf _ | simpa using h
@[go_sem] def kiD (a:Kn × Int):DV:=.tup [.agg a.1.d,.int .i64 a.2]
def QHb (k:Kn) (a:Kn × Int):Prop:=a.1.sm/\(a.2 = 0->Ev k.lg a.1.lg/\lgB a.1.lg = true/\a.1.lg.es.length = k.lg.es.length + 1/\VK k)/\(a.2 ≠ 0->a.1 = k)
def Qy8 (k:Kn) (h:k.sm) (e:E) (hk:e.kind = 1\/e.kind = 2):VCalls prog 194 [.agg k.d,.agg e.d] [] (QI kiD (QHb k)):=by
 refine dk Tryz.func194 ?_
 have h':=h
 obtain ⟨h1,h2,h3,h4,h5,h6⟩:=h
 have c1:=Qec k h' e
 have c2:=Qg2 k.pl (by omega) e.c.pg
 have c3:=fun x=>QA0 k.pl (by omega) x
 have hul:=fun x=>Qwi k.pl x h2
 (unfold Tryz.f194; refine rn trivial ?_)
 refine Ql c1 rfl ?_
 rintro ⟨k1,n1,e1⟩ hq
 by_cases he1:e1 = 0
 ·subst he1
  obtain ⟨s1,s2⟩:=QvG hq rfl hk
  obtain ⟨i,hi⟩:∃ i:Nat,e.c.sl = i:=⟨e.c.sl.toNat,by omega⟩
  have hce:=fun x=>Qj3 x i (by omega) e.c.a
  have hi16:i < 16:=by omega
  obtain ⟨q1,q2,q3,q4,q5,q6,q7⟩:=Qeo hq rfl
  obtain ⟨r1,r2,r3,r4,r5,r6⟩:=hq.1
  have hv:VK k:=by obtain ⟨e',⟨v,_⟩,_⟩:=hq.2 rfl; exact v
  dsimp only at r1 r2 r3 r4 r5 r6
  have hw:=hul ⟨((QoI k.pl e.c.pg).1.setc i e.c.a).id,n1,((QoI k.pl e.c.pg).1.setc i e.c.a).cel⟩
  have F:=(Ja @hi @hce)
  refine rn F ?_
  repeat' (first
   | with_reducible exact ⟨⟩
   | (refine sB F ?_ ?_<;>intro hZ)
   | refine vp F (c2) ?_
   | refine vp F (c3 _) ?_)
  all_goals generalize QAn k.pl ⟨((QoI k.pl e.c.pg).1.setc i e.c.a).id,n1,((QoI k.pl e.c.pg).1.setc i e.c.a).cel⟩ = w at *
  ·exact ⟨rfl,rfl,(k,w.2),rfl,h',fun h=>absurd h (by assumption),fun _=>rfl⟩
  ·exact ⟨rfl,rfl,(⟨k1.pg,k1.nx,k1.lg,w.1,k1.lk,k1.tx,k1.ix,k1.la⟩,0),rfl,⟨r1,hw,r3,r4,r5,r6⟩,fun _=>⟨q1,q2,q3,hv⟩,fun h=>absurd rfl h⟩
 ·skip
  have F:=@he1
  refine rn F ?_
  exact ⟨rfl,rfl,(k,e1),rfl,h',fun h=>absurd h he1,fun _=>rfl⟩
structure Ac where
 kind:Int
 pg:Int
 sl:Int
 data:List UInt8
@[go_sem] def Ac.d (a:Ac):List DV:=[.int .i64 a.kind,.int .i64 a.pg,.int .i64 a.sl,.pv (.str a.data)]
def Qwh (p:Pl) (a:Int) (h:p.fs.length<=64):(QDB p a).fs.length<=64:=by
 unfold QDB
 split
 ·exact h
 ·simpa using h
def Qus (hp:plB p = true) (h:(QoI p a).2 = false):idF p.fs a < 0:=by
 unfold QoI Qbw at h
 rw [hp] at h
 simp only [if_true] at h
 split at h
 ·assumption
 ·simp at h
def QHB (k:Kn) (a:Ac) (r:Kn × Rs):Prop:=r.1.sm/\Ev k.lg r.1.lg/\(r.2.st = 3->r.1 = k/\r.2.pg = a.pg/\idF k.pl.fs a.pg < 0)
def Qtp (k:Kn) (h:k.sm) (hv:VK k) (tx:Int) (a:Ac) (ha:0<=a.sl/\a.sl < 16):VCalls prog 205 [.agg k.d,.int .i64 tx,.agg a.d] [] (QI krD (QHB k a)):=by
 refine dk Tryz.func205 ?_
 have h':=h
 obtain ⟨h1,h2,h3,h4,h5,h6⟩:=h
 have c1:=Qg2 k.pl (by omega) a.pg
 have c2:=QAZ k.pl (by omega) a.pg
 have hn:=Qus (a:=a.pg) hv.2.2.2.1
 have hul:=Qwh k.pl a.pg h2
 have c3:=fun c=>Qy8 k h' ⟨0,1,tx,0,0,0,c,[]⟩ (.inl rfl)
 obtain ⟨i,hi⟩:∃ i:Nat,a.sl = i:=⟨a.sl.toNat,by omega⟩
 have hi16:i < 16:=by omega
 generalize QoI k.pl a.pg = g at *
 have hce:=QoZ g.1 i hi16
 generalize QDB k.pl a.pg = up at *
 (unfold Tryz.f205; refine rn trivial ?_)
 have F:=(Ja @hi @hce)
 refine rn F ?_
 repeat' (first
  | with_reducible exact ⟨⟩
  | (refine sB F ?_ ?_<;>intro hZ)
  | refine vp F (c1) ?_
  | refine vp F (c2) ?_
  | (refine Ql (c3 ⟨_,_,⟨_,_⟩,⟨_,_⟩⟩) rfl ?_; rintro ⟨k1,e1⟩ hq; refine rn F ?_)
  | refine vp F (Qap _) ?_
  | (refine Qd (id:=3) [0,1,2,3] [⟨[],[],4,[1,2,3],[]⟩,⟨[],[],5,[],[]⟩] (by kernel_rfl) (by kernel_rfl) ?_; refine rn F ?_)
  | (refine Qd (id:=6) [0,1,2,3,4,5,6] [⟨[],[],7,[1,2,3,4,5,6],[]⟩,⟨[],[],8,[],[]⟩] (by kernel_rfl) (by kernel_rfl) ?_; refine rn F ?_)
  | (refine Qd (id:=7) [0,1,2,3,4,5,6,7,8,9] [⟨[10],[10],11,[],[]⟩] (by kernel_rfl) (by kernel_rfl) ?_; refine rn F ?_)
  | (refine Qd (id:=12) [0,1] [⟨[],[],2,[0],[]⟩,⟨[],[],3,[1],[]⟩,⟨[],[],4,[],[]⟩] (by kernel_rfl) (by kernel_rfl) ?_; refine rn F ?_))
 all_goals first
  | exact ⟨rfl,rfl,(k,⟨3,0,a.pg,Ce0,0⟩),rfl,h',Ev.refl _,fun _=>⟨rfl,rfl,hn (by first | assumption | simp_all)⟩⟩
  | exact ⟨rfl,rfl,(⟨k.pg,k.nx,k.lg,up,k.lk,k.tx,k.ix,k.la⟩,⟨1,0,0,g.1.cel i,0⟩),rfl,⟨h1,hul,h3,h4,h5,h6⟩,Ev.refl _,fun h=>by simp at h⟩
  | exact ⟨rfl,rfl,(k,QaR e1),rfl,h',Ev.refl _,fun h=>by simp [QaR] at h⟩
  | exact ⟨rfl,rfl,(k1,⟨1,0,0,Ce0,0⟩),rfl,hq.1,(hq.2.1 (by dsimp only; omega)).1,fun h=>by simp at h⟩
  | skip
end
def QFf (a b c a' b' c':Int) (d d':List UInt8):QM [.pv (.lit (.int .i64 a)),.pv (.lit (.int .i64 b)),.pv (.lit (.int .i64 c)),.pv (.str d)] [.pv (.lit (.int .i64 a')),.pv (.lit (.int .i64 b')),.pv (.lit (.int .i64 c')),.pv (.str d')] [(0,1),(1,1),(2,1),(3,2)] = some (decide (a = a') && decide (b = b') && decide (c = c') && decide (d = d')):=by simp [QM,Q9,Jn,JU]
def QGQ (k:Kn) (a:Ac) (e:Int):Prop:=e = 0->(1<=a.kind/\a.kind<=7)/\(a.kind<=3->0<=a.sl/\a.sl < 16)
def Qto (k:Kn) (a:Ac):VCalls prog 242 [.agg k.d,.agg a.d] [] (QI inD (QGQ k a)):=by
 refine dk Tryz.func242 ?_
 unfold QGQ
 (unfold Tryz.f242; refine rn trivial ?_)
 have F:=@QFf
 refine rn F ?_
 repeat' (first
  | with_reducible exact ⟨⟩
  | (refine sG F ?_ ?_<;>intro hZ)
  | (refine sB F ?_ ?_<;>intro hZ)
  | (refine Qd (id:=9) [0,1,2,3,4] [⟨[],[],5,[2,3],[6]⟩,⟨[],[],7,[],[]⟩] (by kernel_rfl) (by kernel_rfl) ?_; refine rn F ?_))
 all_goals first
  | exact ⟨rfl,rfl,_,rfl,fun h=>absurd h (by decide)⟩
  | exact ⟨rfl,rfl,0,rfl,fun _=>⟨⟨by omega,by omega⟩,fun _=>⟨by omega,by omega⟩⟩⟩
  | skip
@[go_sem] def gbD (a:Gr × Bool):DV:=.tup [.agg a.1.d,.bool a.2]
def QsT (tx:Int) (a:Ac):VCalls prog 203 [.int .i64 tx,.agg a.d] [] (QI gbD fun _=>True):=by
 refine dd Tryz.func203 ?_
 (unfold Tryz.f203; refine rn trivial ?_)
 refine rn F ?_
 repeat' (first
  | with_reducible exact ⟨⟩
  | (refine sB F ?_ ?_<;>intro hZ))
 all_goals first
  | exact ⟨rfl,rfl,(⟨_,_,_,_⟩,_),rfl,trivial⟩
  | skip
def QGE (k:Kn) (tx:Int) (a:Ac) (e:Int):Prop:=e = 0->VK k/\0<=idT k.tx tx/\(1<=a.kind/\a.kind<=7)/\(a.kind<=3->0<=a.sl/\a.sl < 16)
def QpI (k:Kn) (h:k.sm) (tx:Int) (a:Ac):VCalls prog 198 [.agg k.d,.int .i64 tx,.agg a.d] [] (QI inD (QGE k tx a)):=by
 refine dk Tryz.func198 ?_
 have c1:=Q0 k h
 obtain ⟨h1,h2,h3,h4,h5,h6⟩:=h
 have c2:=Qb6 k.tx (Jg h4.1 (by decide)) tx
 have c3:=Qto k a
 have c4:=QdG k.lk (by omega) tx
 have c5:=QsT tx a
 unfold QGE
 rcases Qak k.tx tx with hn | ⟨i,hil,hid,_⟩
 ·rw [hn] at c2
  (unfold Tryz.f198; refine rn trivial ?_)
  refine rn F ?_
  repeat' (first
   | with_reducible exact ⟨⟩
   | (refine sB F ?_ ?_<;>intro hZ)
   | (refine Ql (c1) rfl ?_; rintro b hb; refine rn F ?_)
   | refine vp F (c2) ?_)
  all_goals exact ⟨rfl,rfl,_,rfl,fun h=>absurd h (by decide)⟩
 rw [hid] at c2
 have hg:=Qej k.tx i hil
 (unfold Tryz.f198; refine rn trivial ?_)
 have F:=(Ja @hg @QvD)
 refine rn F ?_
 repeat' (first
  | with_reducible exact ⟨⟩
  | (refine sG F ?_ ?_<;>intro hZ)
  | (refine sB F ?_ ?_<;>intro hZ)
  | (refine Ql (c1) rfl ?_; rintro b hb; refine rn F ?_)
  | refine vp F (c2) ?_
  | (refine Ql (c3) rfl ?_; rintro e3 he3; refine rn F ?_)
  | (refine Ql (c4) rfl ?_; rintro ⟨w,ws⟩ -; refine rn F ?_)
  | (refine Ql (c5) rfl ?_; rintro ⟨g,nd⟩ -; refine rn F ?_))
 all_goals first
  | exact ⟨rfl,rfl,_,rfl,fun h=>absurd h (by first | assumption | decide)⟩
  | exact ⟨rfl,rfl,0,rfl,fun _=>⟨hb (by assumption),by omega,(he3 (by omega)).1,(he3 (by omega)).2⟩⟩
  | skip
def QA9 (k:Kn) (h:k.lk.sum<=5000) (tx:Int):VCalls prog 207 [.agg k.d,.int .i64 tx] [] (QI inD fun _=>True):=by
 refine dd Tryz.func207 ?_
 have c1:=Qod k.lk h tx
 (unfold Tryz.f207; refine rn trivial ?_)
 refine rn F ?_
 repeat' (first
  | with_reducible exact ⟨⟩
  | (refine Ql (c1) rfl ?_; rintro m -; refine rn F ?_)
  | (refine Ql (Qxb m) rfl ?_; rintro n -; refine rn F ?_))
 exact ⟨rfl,rfl,_,rfl,trivial⟩
def doQ (k:Kn) (a:Ac) (r:Kn × Rs):Prop:=r.1.sm/\Ev k.lg r.1.lg/\(r.2.st = 3->r.1.pl = k.pl/\r.2.pg = a.pg/\idF k.pl.fs a.pg < 0)
def QD2 (k:Kn) (h:k.sm) (tx:Int) (a:Ac):VCalls prog 153 [.agg k.d,.int .i64 tx,.agg a.d] [] (QI krD (doQ k a)):=by
 refine dk Tryz.func153 ?_
 have h':=h
 have c1:=QpI k h tx a
 have c2:=Qth k h tx
 have c3:=Qoa k h tx 1
 obtain ⟨h1,h2,h3,h4,h5,h6⟩:=h
 have hsl:=h4.smL (by omega)
 have c4:=QAU k.tx hsl tx
 have c5:=QBj k.tx hsl tx a.sl
 have m4:=QwA (l:=k.tx) tx
 have m5:=QyP (l:=k.tx) tx a.sl
 have c6:=QsT tx a
 have c7:=fun g=>QpH k.lk (by omega) g
 have hK:=fun (u:Lk) (hu:u.sum<=1024)=>(⟨h1,h2,hu,h4,h5,h6⟩:Kn.sm ⟨k.pg,k.nx,k.lg,k.pl,u,k.tx,k.ix,k.la⟩)
 have c8:=fun (u:Lk) (hu:u.sum<=1024) (hv:VK k)=>Qtp ⟨k.pg,k.nx,k.lg,k.pl,u,k.tx,k.ix,k.la⟩ (hK u hu) hv tx a
 have c9:=fun (u:Lk) (hu:u.sum<=1024)=>Qxe u (by omega) tx
 have c10:=fun (u:Lk) (hu:u.sum<=1024)=>Qoa ⟨k.pg,k.nx,k.lg,k.pl,u,k.tx,k.ix,k.la⟩ (hK u hu) tx 4
 (unfold Tryz.f153; refine rn trivial ?_)
 refine Ql c1 rfl ?_
 rintro er her
 by_cases he:er = 0
 rotate_left
 ·skip
  have F:=@he
  refine rn F ?_
  repeat' (first
   | with_reducible exact ⟨⟩
   | refine vp F (Qap _) ?_
   | (refine Qd (id:=3) [0,1] [⟨[],[],2,[0],[]⟩,⟨[],[],3,[1],[]⟩,⟨[],[],4,[],[]⟩] (by kernel_rfl) (by kernel_rfl) ?_; refine rn F ?_))
  exact ⟨rfl,rfl,(k,QaR er),rfl,h',Ev.refl _,fun h=>by simp [QaR] at h⟩
 obtain ⟨hv,hi,hk,hs⟩:=her he
 subst he
 have F:=trivial
 refine rn F ?_
 repeat' (first
  | with_reducible exact ⟨⟩
  | (refine sB F ?_ ?_<;>intro hZ)
  | (refine Ql (c2 hi) rfl ?_; rintro ⟨k1,r1⟩ hq; refine rn F ?_)
  | (refine Ql (c3 hi) rfl ?_; rintro ⟨k1,r1⟩ hq; refine rn F ?_)
  | refine vp F (c4) ?_
  | refine vp F (c5) ?_
  | refine vp F (Qap _) ?_
  | (refine Ql (c6) rfl ?_; rintro ⟨g,nd⟩ -; refine rn F ?_)
  | (refine Ql (c7 ⟨_,_,_,_⟩) rfl ?_; rintro ⟨u,hd,e7⟩ hu; refine rn F ?_)
  | (refine Ql (c8 u hu hv (hs (by omega))) rfl ?_; rintro ⟨k1,r1⟩ hq; refine rn F ?_)
  | (refine Ql (c9 u hu) rfl ?_; rintro cy -; refine rn F ?_)
  | (refine Ql (c10 u hu hi) rfl ?_; rintro ⟨k1,r1⟩ hq; refine rn F ?_)
  | (refine Ql (QA9 ⟨k.pg,k.nx,k.lg,k.pl,u,k.tx,k.ix,k.la⟩ (Jg hu (by decide)) tx) rfl ?_; rintro n -; refine rn F ?_)
  | (refine Qd (id:=15) [0,1] [⟨[],[],2,[0],[]⟩,⟨[],[],3,[1],[]⟩,⟨[],[],4,[],[]⟩] (by kernel_rfl) (by kernel_rfl) ?_; refine rn F ?_)
  | (refine Qd (id:=21) [0,1] [⟨[],[],2,[0],[]⟩,⟨[],[],3,[1],[]⟩,⟨[],[],4,[],[]⟩] (by kernel_rfl) (by kernel_rfl) ?_; refine rn F ?_)
  | (refine Qd (id:=27) [0,1] [⟨[],[],2,[1],[]⟩,⟨[],[],3,[],[]⟩] (by kernel_rfl) (by kernel_rfl) ?_; refine rn F ?_)
  | (refine Qd (id:=28) [0,1] [⟨[],[],2,[1],[]⟩,⟨[],[],3,[],[]⟩] (by kernel_rfl) (by kernel_rfl) ?_; refine rn F ?_)
  | (refine Qd (id:=32) [0,1] [⟨[],[],2,[1],[]⟩,⟨[],[],3,[],[]⟩] (by kernel_rfl) (by kernel_rfl) ?_; refine rn F ?_)
  | (refine Qd (id:=33) [0,1] [⟨[],[],2,[1],[]⟩,⟨[],[],3,[],[]⟩] (by kernel_rfl) (by kernel_rfl) ?_; refine rn F ?_)
  | (refine Qd (id:=34) [0,1,2] [⟨[],[],3,[0],[4]⟩,⟨[],[],5,[1,2,4],[]⟩,⟨[],[],6,[],[]⟩] (by kernel_rfl) (by kernel_rfl) ?_; refine rn F ?_))
 all_goals first
  | exact ⟨rfl,rfl,(k,QaR _),rfl,h',Ev.refl _,fun h=>by simp [QaR] at h⟩
  | exact ⟨rfl,rfl,(⟨k.pg,k.nx,k.lg,k.pl,k.lk,(Qsr k.tx tx).1,k.ix,k.la⟩,⟨1,0,0,Ce0,0⟩),rfl,⟨h1,h2,h3,m4,h5,h6⟩,Ev.refl _,fun h=>by simp at h⟩
  | exact ⟨rfl,rfl,(⟨k.pg,k.nx,k.lg,k.pl,k.lk,(Qvw k.tx tx a.sl).1,k.ix,k.la⟩,⟨1,0,0,Ce0,0⟩),rfl,⟨h1,h2,h3,m5,h5,h6⟩,Ev.refl _,fun h=>by simp at h⟩
  | exact ⟨rfl,rfl,(⟨k.pg,k.nx,k.lg,k.pl,u,k.tx,k.ix,k.la⟩,⟨2,n,0,Ce0,0⟩),rfl,hK u hu,Ev.refl _,fun h=>by simp at h⟩
  | exact ⟨rfl,rfl,(k1,r1),rfl,hq.1,hq.2.1,fun h=>absurd h hq.2.2⟩
  | exact ⟨rfl,rfl,(k1,r1),rfl,hq.1,hq.2.1,fun h=>⟨Eq.trans (congrArg Kn.pl (hq.2.2 h).1) rfl,(hq.2.2 h).2.1,(hq.2.2 h).2.2⟩⟩
  | exact ⟨rfl,rfl,(k1,r1),rfl,hq.1,hq.2.1,fun h=>by have:=hq.2.2; dsimp only at this h; omega⟩
  | exact ⟨rfl,rfl,(k,r1),rfl,h',Ev.refl _,fun h=>by dsimp only at h; omega⟩
  | skip
section
attribute [local go_sem] Qbj
def Qzm (h:∃ i,i < l.length/\a = (l.getD i Fm0).pg.id):∃ j:Nat,j < l.length/\idF l a = j/\(l.getD j Fm0).pg.id = a:=by
 obtain ⟨i,hi,ha⟩:=h
 rcases Qcs l a with hn | ⟨j,hj,h1,h2⟩
 ·unfold idF QhO at hn
  rw [if_pos (JP.2 ⟨l[i],J7 hi,by rw [ha,Qm l i hi]; simp⟩)] at hn
  omega
 ·exact ⟨j,hj,h1,h2⟩
def QuX (p:Pl) (a:Int) (h:p.fs.length<=64):(QnC p a).1.fs.length<=64:=by
 unfold QnC
 repeat' split
 all_goals first
  | exact Jf _
  | (simp only [Jb,Jo,Jw]; omega)
@[go_sem] def QFW (a:Kn × Pg × Bool × Int):DV:=.tup [.agg a.1.d,.agg a.2.1.d,.bool a.2.2.1,.int .i64 a.2.2.2]
def QFV (k:Kn) (a:Kn × Pg × Bool × Int):Prop:=a.1.sm/\(a.2.2.2 = 0->Ev k.lg a.1.lg/\a.1.tx = k.tx/\(a.2.2.1 = true->plB a.1.pl = true/\SameF k.pl.fs a.1.pl.fs/\∃ i,i < a.1.pl.fs.length/\idF a.1.pl.fs a.2.1.id = i/\(a.1.pl.fs.getD i Fm0).pg = a.2.1/\(a.1.pl.fs.getD i Fm0).dirty = true))
def QAV (k:Kn) (h:k.sm):VCalls prog 186 [.agg k.d] [] (QI QFW (QFV k)):=by
 refine dk Tryz.func186 ?_
 have h':=h
 have c1:=Q0 k h
 obtain ⟨h1,h2,h3,h4,h5,h6⟩:=h
 have c2:=QAX k.pl (by omega)
 (unfold Tryz.f186; refine rn trivial ?_)
 refine Ql c1 rfl ?_
 rintro b hb
 cases b
 ·skip
  refine rn F ?_
  exact ⟨rfl,rfl,(Kn0,Pg0,false,15),rfl,Qb3,fun h=>by simp at h⟩
 have hv:=hb rfl
 obtain ⟨v1,v2,v3,v4,v5,v6,v7⟩:=hb rfl
 have hd:=Qlg v4
 simp only [Pl.hd] at hd
 refine rn F ?_
 repeat' (first
  | with_reducible exact ⟨⟩
  | (refine sB F ?_ ?_<;>intro hZ))
 ·exact ⟨rfl,rfl,(k,Pg0,false,0),rfl,h',fun _=>⟨Ev.refl _,rfl,fun h=>by simp at h⟩⟩
 refine Ql c2 rfl ?_
 rintro ⟨p,id,e⟩ ⟨w1,w2,w3⟩
 obtain rfl:e = 0:=w2 v4 (by omega)
 obtain ⟨_,w4,w5,w6,w7⟩:=w1 rfl
 obtain ⟨i,hi,hid,hix⟩:=Qzm w7
 dsimp only at w3 w4 w5 w6 hi hid hix
 have c3:=QcH p (by omega) id
 have hf:Qbw p id = i:=by unfold Qbw; rw [if_pos w4]; exact hid
 rw [hf] at c3
 have hg:=Qb1 p.fs i hi
 have c4:=QwT p (by omega) id
 have hdl:=QuX p id (by omega)
 have hsm:∀ q:Pl,q.fs.length<=64->(⟨k.pg,k.nx,k.lg,q,k.lk,k.tx,k.ix,k.la⟩:Kn).sm:=fun q hq=>⟨h1,hq,h3,h4,h5,h6⟩
 have c5:=QeF ⟨k.pg,k.nx,k.lg,p,k.lk,k.tx,k.ix,k.la⟩ (hsm p (by omega))
 generalize hff:p.fs.getD i Fm0 = f at *
 have F:=@hg
 refine rn F ?_
 repeat' (first
  | with_reducible exact ⟨⟩
  | (refine sB F ?_ ?_<;>intro hZ)
  | refine vp F (c3) ?_
  | refine vp F (c4) ?_
  | (refine Ql (c5 _) rfl ?_; rintro d hd2; refine rn F ?_)
  | (refine Qd (id:=7) [0,1,2,3] [⟨[7],[],4,[0,1],[5,6]⟩,⟨[7],[7],8,[],[]⟩] (by kernel_rfl) (by kernel_rfl) ?_; refine rn F ?_)
  | (refine Qd (id:=11) [0,1,2,3,5,6] [⟨[],[],4,[1,2,5,6],[]⟩,⟨[],[],7,[5,6],[]⟩,⟨[],[],8,[],[]⟩,⟨[],[],9,[],[]⟩,⟨[],[],10,[],[]⟩] (by kernel_rfl) (by kernel_rfl) ?_; refine rn F ?_))
 ·exact ⟨rfl,rfl,(⟨k.pg,k.nx,k.lg,(QnC p id).1,k.lk,k.tx,k.ix,k.la⟩,Pg0,false,0),rfl,hsm _ hdl,fun _=>⟨Ev.refl _,rfl,fun h=>by simp at h⟩⟩
 ·exact ⟨rfl,rfl,(⟨k.pg,k.nx,⟨k.lg.f,k.lg.es,d⟩,p,k.lk,k.tx,k.ix,k.la⟩,f.pg,true,0),rfl,⟨h1,by dsimp only; omega,h3,h4,h5,h6⟩,fun _=>⟨Ev.force hd2,rfl,fun _=>⟨w4,w5,i,hi,by dsimp only; rw [hix]; exact hid,by dsimp only; rw [hff],by dsimp only; rw [hff]; first | assumption | simp_all⟩⟩⟩
@[go_sem] def QER (a:Kn × Pg × Int):DV:=.tup [.agg a.1.d,.agg a.2.1.d,.int .i64 a.2.2]
def QEQ (k:Kn) (n:Int) (a:Kn × Pg × Int):Prop:=a.1.sm/\(a.2.2 = 0->Ev k.lg a.1.lg/\0<=Qbw k.pl n)
def Qxa (k:Kn) (h:k.sm) (n:Int):VCalls prog 101 [.agg k.d,.int .i64 n] [] (QI QER (QEQ k n)):=by
 refine dk Tryz.func101 ?_
 have c1:=Q0 k h
 have h':=h
 obtain ⟨h1,h2,h3,h4,h5,h6⟩:=h
 have c2:=Qg2 k.pl (by omega) n
 have c3:=QeF k h'
 have hz:(QoI k.pl n).2 = true->0<=Qbw k.pl n:=fun h=>by
  unfold QoI at h
  split at h
  ·simp at h
  ·omega
 generalize QoI k.pl n = g at *
 (unfold Tryz.f101; refine rn trivial ?_)
 refine rn F ?_
 repeat' (first
  | with_reducible exact ⟨⟩
  | (refine sB F ?_ ?_<;>intro hZ)
  | (refine Ql (c1) rfl ?_; rintro b -; refine rn F ?_)
  | refine vp F (c2) ?_
  | (refine Ql (c3 _) rfl ?_; rintro d hd; refine rn F ?_)
  | (refine Qd (id:=6) [0,1,2,4] [⟨[],[],3,[1,4],[]⟩,⟨[],[],5,[4],[]⟩,⟨[],[],6,[],[]⟩,⟨[],[],7,[],[]⟩] (by kernel_rfl) (by kernel_rfl) ?_; refine rn F ?_))
 all_goals first
  | exact ⟨rfl,rfl,(Kn0,Pg0,15),rfl,Qb3,fun h=>by simp at h⟩
  | exact ⟨rfl,rfl,(Kn0,Pg0,18),rfl,Qb3,fun h=>by simp at h⟩
  | exact ⟨rfl,rfl,(⟨k.pg,k.nx,⟨k.lg.f,k.lg.es,d⟩,k.pl,k.lk,k.tx,k.ix,k.la⟩,g.1,0),rfl,⟨h1,h2,h3,h4,h5,h6⟩,fun _=>⟨Ev.force hd,hz (by first | assumption | simp_all)⟩⟩
  | skip
def QqD (p:Pl) (a n:Int) (h:p.fs.length<=64):(Qb2 p a n).1.fs.length<=64:=by
 unfold Qb2
 repeat' split
 all_goals first | exact Jf _ | exact h | simpa using h
def QvQ (k:Kn) (id n:Int) (a:Kn × Int):Prop:=a.1.sm/\(a.2 = 0->VK k/\Ev k.lg a.1.lg/\a.1.tx = k.tx/\(0<=Qbw k.pl id->a.1.pl = (Qb2 k.pl id n).1/\(Qb2 k.pl id n).2 = 0)/\(Qbw k.pl id < 0->a.1.pl = k.pl))
def QpC (k:Kn) (h:k.sm) (id n:Int):VCalls prog 128 [.agg k.d,.int .i64 id,.int .i64 n] [] (QI kiD (QvQ k id n)):=by
 refine dk Tryz.func128 ?_
 have c1:=Q0 k h
 have h':=h
 obtain ⟨h1,h2,h3,h4,h5,h6⟩:=h
 have c2:=QeE k.lg (by omega)
 have c3:=QcH k.pl (by omega) id
 have c4:=fun (h:n<=1099511627776) (h0:0<=n)=>QsK k.pl (by omega) id n h h0
 have c5:=Qec k h' ⟨0,7,0,0,0,n,⟨id,0,Ce0,Ce0⟩,[]⟩
 have hcl:=QqD k.pl id n h2
 (unfold Tryz.f128; refine rn trivial ?_)
 refine Ql c1 rfl ?_
 rintro b hb
 cases b
 ·skip
  refine rn F ?_
  exact ⟨rfl,rfl,(Kn0,15),rfl,Qb3,fun h=>by simp at h⟩
 have hv:=hb rfl
 have hls:Qdi k.lg<=1099511627776:=by
  unfold Qdi; rw [if_pos hv.2.2.1]; exact Qt5 hv.2.2.1
 refine rn F ?_
 repeat' (first
  | with_reducible exact ⟨⟩
  | (refine sG F ?_ ?_<;>intro hZ)
  | (refine sB F ?_ ?_<;>intro hZ)
  | refine vp F (c2) ?_
  | refine vp F (c3) ?_
  | refine vp F (c4 (by omega) (by omega)) ?_
  | (refine Ql (c5) rfl ?_; rintro ⟨k1,n1,e1⟩ hq; refine rn F ?_))
 all_goals first
  | exact ⟨rfl,rfl,(Kn0,1),rfl,Qb3,fun h=>by simp at h⟩
  | exact ⟨rfl,rfl,(Kn0,(Qb2 k.pl id n).2),rfl,Qb3,fun h=>absurd h (by assumption)⟩
  | exact ⟨rfl,rfl,(Kn0,e1),rfl,Qb3,fun h=>absurd h (by assumption)⟩
  | (have he1:e1 = 0:=by omega
     obtain ⟨q1,q2,q3,q4,q5,q6,q7⟩:=Qeo hq he1
     have q8:=QvH hq he1 rfl
     obtain ⟨r1,r2,r3,r4,r5,r6⟩:=hq.1
     first
      | exact ⟨rfl,rfl,(⟨k1.pg,k1.nx,k1.lg,(Qb2 k.pl id n).1,k1.lk,k1.tx,k1.ix,k1.la⟩,0),rfl,⟨r1,hcl,r3,r4,r5,r6⟩,fun _=>⟨hv,q1,q8,fun _=>⟨rfl,by omega⟩,fun h=>by omega⟩⟩
      | exact ⟨rfl,rfl,(⟨k1.pg,k1.nx,k1.lg,k.pl,k1.lk,k1.tx,k1.ix,k1.la⟩,0),rfl,⟨r1,h2,r3,r4,r5,r6⟩,fun _=>⟨hv,q1,q8,fun h=>by omega,fun _=>rfl⟩⟩)
  | skip
end
section
attribute [local go_sem] Qbj
def Qtv (h:(Qq8 p x).2 = 0):plB p = true/\QaX x = 0/\idF p.fs x.id < 0/\¬ (p.fs.length:Int) = p.size:=by
 unfold Qq8 at h
 split at h
 ·simp at h
 rename_i q1
 split at h
 ·rename_i q2; exact absurd h q2
 rename_i q2
 split at h
 ·simp at h
 rename_i q3
 split at h
 ·simp at h
 rename_i q4
 exact ⟨by simpa using q1,by simpa using q2,by omega,q4⟩
def QFy (p:Pl) (x:Pg) (o:Nat):Qb:=[⟨35,true,[.int .i64 p.size,.own (o + 5) 37 0 (p.fs.length + 1),.int .i64 p.hand]⟩,⟨175,true,x.d⟩,⟨35,true,[.int .i64 p.size,.own (o + 5) 37 0 (p.fs.length + 1),.int .i64 p.hand]⟩,⟨179,false,[]⟩,⟨179,true,Fm.d ⟨x,false,0,true⟩⟩,⟨179,true,cells QcC (p.fs ++ [⟨x,false,0,true⟩])⟩]
def QA2 (p:Pl) (hl:p.fs.length<=100000) (x:Pg) (h:(Qq8 p x).2 = 0):VCalls prog 190 [.agg p.d,.agg x.d] [] fun r h'=>r = .tup [.agg [.int .i64 p.size,.own 5 37 0 (p.fs.length + 1),.int .i64 p.hand],.int .i64 0]/\h' = QFy p x 0:=by
 refine Qbd (fn:=Tryz.f190) Tryz.func190 rfl (by kernel_rfl) (by simp [Tryz.f190]) ?_
 obtain ⟨e1,e2,e3,e4⟩:=Qtv h
 have c1:=Qax p (by omega)
 have c2:=QdL x
 have c3:=QcI p (by omega) x.id
 rw [e1] at c1
 rw [e2] at c2
 have e5:¬ 0<=idF p.fs x.id:=by omega
 generalize idF p.fs x.id = m at *
 (unfold Tryz.f190; refine rn trivial ?_)
 have F:=(Ja @e5 @e4)
 refine rn F ?_
 repeat' (first
  | with_reducible exact ⟨⟩
  | refine vp F (c1) ?_
  | refine vp F (c2) ?_
  | refine vp F (c3) ?_
  | (refine Qd (id:=10) [0,1,3,4] [⟨[5],[],2,[0,3,4],[]⟩,⟨[5],[5],6,[0,1,3,4],[7]⟩,⟨[],[],8,[],[]⟩] (by kernel_rfl) (by kernel_rfl) ?_; refine rn F ?_))
 all_goals rfl
def QiY (hp h':Qb):Q3 hp [] h' = hp ++ h'.map (QcX (back [] hp.length)):=by
 unfold Q3
 congr 1
 apply List.ext_getElem?
 intro k
 rw [J3]
 by_cases hk:k < hp.length
 ·rw [JV hk]
  simp [List.getElem?_eq_getElem hk]
 ·rw [JS (l:=JF hp.length) (by simpa using hk),JS (l:=hp) (by omega)]
  rfl
def QDy (p:Pl) (hl:p.fs.length<=100000) (x:Pg) (hz:(Qq8 p x).2 = 0) (h:K (.tup [.agg [.int .i64 p.size,.own (hp.length + 5) 37 0 (p.fs.length + 1),.int .i64 p.hand],.int .i64 0]) (hp ++ QFy p x hp.length)):VCalls prog 190 [.agg p.d,.agg x.d] hp K:=by
 refine (VCalls.frame [] Ke rfl rfl (QA2 p hl x hz) rfl rfl).mono ?_
 rintro r h2 ⟨r0,h',⟨rfl,rfl⟩,-,rfl,rfl⟩
 rw [QiY]
 have e1:QcX (back [] hp.length) ⟨175,true,x.d⟩ = ⟨175,true,x.d⟩:=QaV rfl
 have e2:QcX (back [] hp.length) ⟨179,true,Fm.d ⟨x,false,0,true⟩⟩ = ⟨179,true,Fm.d ⟨x,false,0,true⟩⟩:=QaV rfl
 have e3:QcX (back [] hp.length) ⟨179,true,cells QcC (p.fs ++ [⟨x,false,0,true⟩])⟩ = ⟨179,true,cells QcC (p.fs ++ [⟨x,false,0,true⟩])⟩:=QaV (Qu _ _ _)
 simp only [QFy,Jy,JJ,e1,e2,e3] at h |-
 exact h
def QDS (l:List Fm) (f:Fm) (b:Bool):(cells QcC (l ++ [f])).set (l.length * 37 + 34) (.pv (.lit (.bool b))) = cells QcC (l ++ [⟨f.pg,b,f.rc,f.used⟩]):=by
 rw [<- QvA,<- QvA,<- QFz l,JT _ _ (J8 _ _),JM]; rfl
def QDR (l:List Fm) (f:Fm) (n:Int):(cells QcC (l ++ [f])).set (l.length * 37 + 35) (.pv (.lit (.int .i64 n))) = cells QcC (l ++ [⟨f.pg,f.dirty,n,f.used⟩]):=by
 rw [<- QvA,<- QvA,<- QFz l,JT _ _ (J8 _ _),JM]; rfl
def QG3 (k:Kn) (x:Pg) (a:Kn × Int):Prop:=a.1.sm/\(a.2 = 0->a.1.lg = k.lg/\a.1.tx = k.tx/\0<=idF a.1.pl.fs x.id)
def Qx7 (l:List Fm) (f:Fm):0<=idF (l ++ [f]) f.pg.id:=by
 obtain ⟨j,_,h,_⟩:=Qzm (l:=l ++ [f]) (a:=f.pg.id) ⟨l.length,by simp,by rw [Jh,JA (Js _),J5]; rfl⟩
 omega
def QsA (k:Kn) (h:k.sm) (x:Pg):VCalls prog 142 [.agg k.d,.agg x.d] [] (QI kiD (QG3 k x)):=by
 refine dk Tryz.func142 ?_
 have h':=h
 have c1:=Q0 k h
 have c2:=Qm3 k h x.id
 obtain ⟨h1,h2,h3,h4,h5,h6⟩:=h
 have c3:=QA1 k.pl (by omega) x
 have c4:=Qgi k (by omega) x.id
 (unfold Tryz.f142; refine rn trivial ?_)
 refine rn F ?_
 repeat' (first
  | with_reducible exact ⟨⟩
  | (refine sG F ?_ ?_<;>intro hZ)
  | (refine sB F ?_ ?_<;>intro hZ)
  | (refine Ql (c1) rfl ?_; rintro b hb; refine rn F ?_)
  | (refine Ql (c2) rfl ?_; rintro n -; refine rn F ?_)
  | (refine Qd (id:=5) [0,1,2,3,4] [⟨[],[],5,[0,1,3],[6]⟩,⟨[],[],7,[0,1,2,3,4],[]⟩] (by kernel_rfl) (by kernel_rfl) ?_; refine rn F ?_)
  | (refine Qd (id:=7) [0,1,2,3,4] [⟨[],[],5,[0,1,3],[6]⟩,⟨[],[],7,[0,1,2,3,4],[]⟩] (by kernel_rfl) (by kernel_rfl) ?_; refine rn F ?_))
 all_goals first
  | exact ⟨rfl,rfl,(Kn0,_),rfl,Qb3,fun h=>by simp at h⟩
  | skip
 have hpe:(Qq8 k.pl x).2 ≠ 0->(Qq8 k.pl x).1 = Pl0:=fun h=>by
  unfold Qq8 at h |-
  repeat' split
  all_goals first | rfl | simp_all
 by_cases hz:(Qq8 k.pl x).2 = 0
 rotate_left
 ·rw [hpe hz] at c3
  have F:=@hz
  refine rn F ?_
  repeat' (first
   | with_reducible exact ⟨⟩
   | refine vp F (c3) ?_)
  exact ⟨rfl,rfl,(Kn0,_),rfl,Qb3,fun h=>absurd h hz⟩
 refine QDy k.pl (by omega) x hz ?_
 obtain ⟨p1,p2,p3,p4⟩:=Qtv hz
 have hd:=Qlg p1
 simp only [Pl.hd] at hd
 unfold QFy
 have s34:=QDS k.pl.fs
 have s35:=QDR k.pl.fs
 have hi0:=Qx7 k.pl.fs
 have hnn:k.pl.fs.length + 1 - 1 = k.pl.fs.length:=by omega
 have h34:(k.pl.fs.length * 37 + 34 < (k.pl.fs.length + 1) * 37) = True:=eq_true (by omega)
 have h35:(k.pl.fs.length * 37 + 35 < (k.pl.fs.length + 1) * 37) = True:=eq_true (by omega)
 have F:=(Ja @s34 (Ja @s35 (Ja @hnn (Ja @h34 @h35))))
 refine rn F ?_
 repeat' (first
  | with_reducible exact ⟨⟩
  | (refine sB F ?_ ?_<;>intro hZ)
  | (refine Ql (c4) rfl ?_; rintro ⟨d,b2⟩ -; refine rn F ?_))
 rotate_left
 ·exact ⟨rfl,rfl,(⟨k.pg,k.nx,k.lg,⟨k.pl.size,k.pl.fs ++ [⟨x,false,0,true⟩],k.pl.hand⟩,k.lk,k.tx,k.ix,k.la⟩,0),rfl,⟨h1,by simp; omega,h3,h4,h5,h6⟩,fun _=>⟨rfl,rfl,hi0 ⟨x,false,0,true⟩⟩⟩
 refine VLoop.nilOwn 10 187 3 rfl ?_
 refine rn trivial ?_
 refine Qg (fun s:{s:Nat × List Dt // s.1<=k.la.length/\s.2.length<=s.1}=>⟨113,0,[(11,.int .i64 s.1.1),(10,.own 5 3 0 s.1.2.length),(6,.ptr 4 0),(4,.ptr 2 0),(3,.ptr 1 0),(2,.ptr 0 0)],
  [⟨45,true,k.d⟩,⟨175,true,x.d⟩,⟨45,true,[.int .i64 0,.int .i64 0,.int .i64 0,.pv (.slc []),.int .i64 0,.int .i64 0,.pv (.slc []),.int .i64 0,.pv (.slc []),.pv (.slc []),.pv (.slc []),.pv (.slc []),.pv (.slc [])]⟩,⟨179,true,cells QcC (k.pl.fs ++ [⟨x,true,d.rc,true⟩])⟩,⟨35,true,[.int .i64 k.pl.size,.own 3 37 0 (k.pl.fs.length + 1),.int .i64 k.pl.hand]⟩,⟨187,true,cells QdQ s.1.2⟩]⟩) (fun s=>k.la.length - s.1.1) ⟨(0,[]),by simp⟩ (gc [0,1,2,8,9,11]) ?_
 rintro ⟨⟨i,out⟩,hi,ho⟩
 dsimp only at hi ho |-
 have hy:=fun h:i < k.la.length=>QfO k.la i h
 have hb:(out.length + 1) * 24<=140737488355328:=by omega
 have F:=(Ja @hy @hb)
 refine rn F ?_
 repeat' (first
  | with_reducible exact ⟨⟩
  | (refine sB F ?_ ?_<;>intro hZ)
  | (refine Qd (id:=20) [0,1,2,3,4,5,6,7,8] [] (by kernel_rfl) (by kernel_rfl) ?_; refine rn F ?_))
 all_goals first
  | exact ⟨⟨(i + 1,out),by dsimp only; omega,by dsimp only; omega⟩,by dsimp only; omega,(gc [0,1,2,3,4,5])⟩
  | exact ⟨⟨(i + 1,out ++ [⟨(k.la.getD i Dt0).pg,(k.la.getD i Dt0).rc,(k.la.getD i Dt0).last⟩]),by dsimp only; omega,by simp; omega⟩,by dsimp only; omega,by dsimp only; rw [Jb]; exact (gc [0,1,2,3,4,7])⟩
  | exact ⟨rfl,rfl,(⟨k.pg,k.nx,k.lg,⟨k.pl.size,k.pl.fs ++ [⟨x,true,d.rc,true⟩],k.pl.hand⟩,k.lk,k.tx,k.ix,out⟩,0),rfl,⟨h1,by simp; omega,h3,h4,h5,by dsimp only; omega⟩,fun _=>⟨rfl,rfl,hi0 ⟨x,true,d.rc,true⟩⟩⟩
  | skip
end
def QGG (l:List (List UInt8)):(cells QdR l).length = l.length * 1:=Qy QdR l
def QHv (l:List (List UInt8)) (n:Nat) (h:l.length * 1<=n):(cells QdR l).take n = cells QdR l:=by rw [JQ]; rw [QGG]; exact h
def QG4 (l:List (List UInt8)):(fz QdR l = []\/(fz QdR l)[0]?.map Kj = some 1) = True:=Qhq QdR l
def QHg (h:l.length = len):Qgy n hp 0 1 len (some (cells QdR l)) = some (.sl (fz QdR l)):=QZ QdR h
attribute [go_sem] QGG QHv QG4 QHg
def Qzq (l:List (List UInt8)) (i:Nat) (h:i < l.length):(fz QdR l)[i]? = some [.str (l.getD i [])]:=Qdm QdR l [] i h
def QGp (l:List (List UInt8)) (x:List UInt8):cells QdR l ++ [.pv (.str x)] = cells QdR (l ++ [x]):=by rw [Qz]; rfl
def QGU (l:List (List UInt8)):DV.wk.go (cells QdR l) = cells QdR l:=Qbl QdR l fun a p hp=>by
 simp [QdR] at hp; subst hp; rfl
attribute [go_sem] QGp QGU
structure Dv where
 ps:List (List UInt8)
 wr:Int
 dead:Bool
@[go_sem] def Dv.d (v:Dv):List DV:=[.pv (.sl (fz QdR v.ps)),.int .i64 v.wr,.pv (.sl []),.bool v.dead,.pv (.sl [])]
def Dv0:Dv:=⟨[],0,false⟩
def QGS (v:Dv):Prop:=(1<=v.ps.length/\v.ps.length<=64)/\(0<=v.wr/\v.wr<=1099511627776)/\∀ i,i < v.ps.length->(v.ps.getD i []).length = 256
def Qtd (v:Dv) (hl:v.ps.length<=100000):VCalls prog 212 [.agg v.d] [] (QI boD fun b=>b = true->QGS v):=by
 refine dd Tryz.func212 ?_
 (unfold Tryz.f212; refine rn trivial ?_)
 refine rn F ?_
 repeat' (first
  | with_reducible exact ⟨⟩
  | (refine sG F ?_ ?_<;>intro hZ))
 all_goals first
  | exact ⟨rfl,rfl,false,rfl,fun h=>by cases h⟩
  | skip
 refine Qg (fun s:Okay v.ps.length (fun i=>decide ((v.ps.getD i []).length = 256))=>⟨99,0,[(4,.int .i64 s.i),(3,.int .i64 v.ps.length),(1,.ptr 0 0)],[⟨80,true,v.d⟩]⟩) (fun s=>v.ps.length - s.i) (Okay.start _ _) (gc [0]) ?_
 intro s
 have hsi:=s.hi
 have hg:=fun h:s.i < v.ps.length=>Qzq v.ps s.i h
 have F:=@hg
 refine rn F ?_
 repeat' (first
  | with_reducible exact ⟨⟩
  | (refine sB F ?_ ?_<;>intro hZ))
 all_goals first
  | exact ⟨rfl,rfl,false,rfl,fun h=>by cases h⟩
  | exact ⟨s.next (by omega) (decide_eq_true (by omega)),s.dec (by omega),(gc [0])⟩
  | skip
 have hall:=s.all (by omega)
 simp only [JO,JK,decide_eq_true_eq] at hall
 refine Qg (fun s:Unit=>⟨99,0,[(5,.int .i64 0),(3,.int .i64 v.ps.length),(1,.ptr 0 0)],[⟨80,true,v.d⟩]⟩) (fun s=>0) () (gc [0]) ?_
 intro _
 have F:=trivial
 refine rn F ?_
 refine Qg (fun s:Unit=>⟨99,0,[(6,.int .i64 0),(1,.ptr 0 0)],[⟨80,true,v.d⟩]⟩) (fun s=>0) () (gc [0]) ?_
 intro _
 have F:=trivial
 refine rn F ?_
 exact ⟨rfl,rfl,true,rfl,fun _=>⟨⟨by omega,by omega⟩,⟨by omega,by omega⟩,fun i hi=>hall i hi⟩⟩
def usQ (v:Dv) (n e:Int):Prop:=e = 0->QGS v/\0<=n/\n < v.ps.length
def Qg0 (v:Dv) (hl:v.ps.length<=100000) (n:Int):VCalls prog 164 [.agg v.d,.int .i64 n] [] (QI inD (usQ v n)):=by
 refine dd Tryz.func164 ?_
 have c1:=Qtd v hl
 unfold usQ
 (unfold Tryz.f164; refine rn trivial ?_)
 refine rn F ?_
 repeat' (first
  | with_reducible exact ⟨⟩
  | (refine sG F ?_ ?_<;>intro hZ)
  | (refine sB F ?_ ?_<;>intro hZ)
  | (refine Ql (c1) rfl ?_; rintro b hb; refine rn F ?_))
 all_goals first
  | exact ⟨rfl,rfl,_,rfl,fun h=>absurd h (by decide)⟩
  | exact ⟨rfl,rfl,0,rfl,fun _=>⟨hb (by assumption),by omega,by omega⟩⟩
  | skip
def QD4 (n:Int):VCalls prog 187 [.pv (.sl []),.int .i64 n] [] (Ret (.bool false)):=by
 refine dd Tryz.func187 ?_
 (unfold Tryz.f187; refine rn trivial ?_)
 refine Qg (fun s:Unit=>⟨18,0,[(5,.int .i64 0),(1,.int .i64 n),(0,.pv (.sl []))],[]⟩) (fun s=>0) () (gc []) ?_
 intro _
 (refine rn F ?_; try with_reducible exact ⟨⟩)
def QpD (n:Int):VCalls prog 213 [.pv (.sl []),.int .i64 n] [] (Ret (.pv (.sl []))):=by
 refine dk Tryz.func213 ?_
 (unfold Tryz.f213; refine rn trivial ?_)
 refine VLoop.wkS ?_
 refine rn trivial ?_
 refine Qg (fun s:Unit=>⟨27,0,[(6,.int .i64 0),(5,.pv (.sl [])),(1,.int .i64 n),(0,.pv (.sl []))],[]⟩) (fun s=>0) () (gc []) ?_
 intro _
 (refine rn F ?_; try with_reducible exact ⟨⟩)
@[go_sem] def siD (a:List UInt8 × Int):DV:=.tup [.pv (.str a.1),.int .i64 a.2]
def Qxc (v:Dv) (hl:v.ps.length<=100000) (n:Int):VCalls prog 138 [.agg v.d,.int .i64 n] [] (QI siD fun a=>a.2 = 0->a.1.length = 256):=by
 refine dd Tryz.func138 ?_
 have c1:=Qg0 v hl n
 have c2:=QD4 n
 (unfold Tryz.f138; refine rn trivial ?_)
 have hg:=fun h:n.toNat < v.ps.length=>Qzq v.ps n.toNat h
 refine Ql c1 rfl ?_
 rintro e he
 by_cases h0:e = 0
 ·obtain ⟨q1,q2,q3⟩:=he h0
  subst h0
  have F:=@hg
  refine rn F ?_
  repeat' (first
   | with_reducible exact ⟨⟩
   | refine vp F (c2) ?_)
  exact ⟨rfl,rfl,(v.ps.getD n.toNat [],0),rfl,fun _=>q1.2.2 _ (by omega)⟩
 ·skip
  have F:=@h0
  refine rn F ?_
  exact ⟨rfl,rfl,([],e),rfl,fun h=>absurd h h0⟩
section
attribute [local go_sem] Qbj
def QrY (k:Nat) (c:VCalls P g args0 [B] fun r h'=>r = r0/\h' = [B']) (hk:hp[k]? = some B) (hB:B.live = true/\DV.nums.go (fun _=>false) B.cells = true) (hB':DV.nums.go (fun _=>false) B'.cells = true) (ha0:args0 = args.map (DV.ren fun j=>[k].idxOf j)) (ha:DV.nums.go [k].contains args = true) (hr:r0.ren (back [k] hp.length) = r2) (h:K r2 (hp.set k B')):VCalls P g args hp K:=by
 subst hr
 have hlt:k < hp.length:=(List.getElem?_eq_some_iff.1 hk).1
 have hg:hp.getD k default = B:=by rw [Jh,hk]; rfl
 have hpl:Qhb hp [k]:=⟨⟨hlt,by rw [hg]; exact hB.2⟩,trivial⟩
 refine (VCalls.frame [k] (by simp) (by rw [Qdf hpl]; simp only [Jy,JJ,hg]) (Qdg hpl) c ha0 ha).mono ?_
 rintro r h2 ⟨r1,h',⟨rfl,rfl⟩,-,rfl,rfl⟩
 rw [QqN hlt,JJ,Jx,QaV hB']
 exact h
def dvO (k n:Nat) (wr:Int) (dead:Bool):DV:=.agg [.own k 1 0 n,.int .i64 wr,.pv (.sl []),.bool dead,.pv (.sl [])]
def QAF (l:List (List UInt8)) (i:Nat) (s:List UInt8) (h:i < l.length):(cells QdR l).set i (.pv (.str s)) = cells QdR (l.set i s):=by
 rw [Qvp,Qvp,Ki]
def Qn8 (ps:List (List UInt8)) (wr:Int) (dead:Bool) (i:Nat) (hi:i < ps.length) (h6:(ps.getD i []).length = 256) (s:List UInt8) (n:Nat) (hn:n<=256) (hs:s.length = 256) :
 VCalls prog 166 [dvO 0 ps.length wr dead,.int .i64 i,.pv (.str s),.int .i64 n] [⟨9,true,cells QdR ps⟩] (fun r h'=>r = dvO 0 ps.length wr dead/\h' = [⟨9,true,cells QdR (ps.set i (s.take n ++ (ps.getD i []).drop n))⟩]):=by
 unfold dvO
 refine dd Tryz.func166 ?_
 have c1:=QpD i
 have hg:=QqK ps i hi
 have hse:=fun s=>QAF ps i s hi
 generalize ps.getD i [] = q at *
 (unfold Tryz.f166; refine rn trivial ?_)
 have hlt:(i < ps.length) = True:=eq_true hi
 have F:=(Ja @hg (Ja @hse @hlt))
 refine rn F ?_
 repeat' (first
  | with_reducible exact ⟨⟩
  | refine vp F (c1) ?_
  | (refine Qd (id:=1) [0,1,2,3,4,5,6,7,8,9,10,11,12,13,14] [⟨[],[],15,[],[]⟩] (by kernel_rfl) (by kernel_rfl) ?_; refine rn F ?_))
 all_goals exact ⟨rfl,rfl⟩
def cpD (o:Nat) (v:Dv):List DV:=[.own (o + 2) 1 0 v.ps.length,.int .i64 v.wr,.own (o + 3) 1 0 0,.bool v.dead,.own (o + 4) 6 0 0]
def QqA (v:Dv) (o:Nat):Qb:=[⟨80,true,cpD o v⟩,⟨80,true,cpD o v⟩,⟨9,true,cells QdR v.ps⟩,⟨3,true,[]⟩,⟨253,true,[]⟩]
def QBh (v:Dv) (hl:v.ps.length<=100000):VCalls prog 165 [.agg v.d] [] fun r h'=>r = .agg (cpD 0 v)/\h' = QqA v 0:=by
 refine Qbd (fn:=Tryz.f165) Tryz.func165 rfl (by kernel_rfl) (by simp [Tryz.f165]) ?_
 unfold cpD QqA
 have hb:v.ps.length * 16<=140737488355328:=by omega
 (unfold Tryz.f165; refine rn trivial ?_)
 have F:=@hb
 (refine rn F ?_; try with_reducible exact ⟨⟩)
 all_goals first | rfl | exact ⟨rfl,rfl⟩
def Qr0 (v:Dv) (hl:v.ps.length<=100000) (h:K (.agg (cpD hp.length v)) (hp ++ QqA v hp.length)):VCalls prog 165 [.agg v.d] hp K:=by
 refine (VCalls.frame [] Ke rfl rfl (QBh v hl) rfl rfl).mono ?_
 rintro r h2 ⟨r0,h',⟨rfl,rfl⟩,-,rfl,rfl⟩
 rw [QiY]
 have e3:QcX (back [] hp.length) ⟨9,true,cells QdR v.ps⟩ = ⟨9,true,cells QdR v.ps⟩:=QaV (Qu _ _ _)
 simp only [QqA,Jy,JJ,e3] at h |-
 exact h
@[go_sem] def dvD (a:Dv × Int):DV:=.tup [.agg a.1.d,.int .i64 a.2]
def dvQ (a:Dv × Int):Prop:=a.1.ps.length<=64
def QAR (v:Dv) (hl:v.ps.length<=100000) (pg:Int) (s:List UInt8) (hs0:s.length<=1000000) (n:Int):VCalls prog 132 [.agg v.d,.int .i64 pg,.pv (.str s),.int .i64 n] [] (QI dvD dvQ):=by
 refine dk Tryz.func132 ?_
 have c1:=Qg0 v hl pg
 (unfold Tryz.f132; refine rn trivial ?_)
 refine Ql c1 rfl ?_
 rintro e he
 by_cases h0:e = 0
 rotate_left
 ·skip
  have F:=@h0
  refine rn F ?_
  exact ⟨rfl,rfl,(Dv0,e),rfl,Jf _⟩
 obtain ⟨q1,q2,q3⟩:=he h0
 subst h0
 have F:=trivial
 refine rn F ?_
 repeat' (first
  | with_reducible exact ⟨⟩
  | (refine sG F ?_ ?_<;>intro hZ)
  | (refine sB F ?_ ?_<;>intro hZ))
 all_goals first
  | exact ⟨rfl,rfl,(Dv0,_),rfl,Jf _⟩
  | skip
 obtain ⟨i,rfl⟩:∃ i:Nat,pg = i:=⟨pg.toNat,by omega⟩
 obtain ⟨m,rfl⟩:∃ m:Nat,n = m:=⟨n.toNat,by omega⟩
 have hi:i < v.ps.length:=by omega
 refine Qr0 v hl ?_
 unfold QqA cpD
 refine rn trivial ?_
 refine VCalls.neA ?_
 have hpos:0 < v.ps.length:=by omega
 simp only [Jy,JJ,DV.ne,QtW hpos,Qou,Qzh]
 refine QrY 4 (Qn8 v.ps v.wr v.dead i hi (q1.2.2 i hi) s m (by omega) (by omega)) rfl ⟨rfl,Qu _ _ _⟩ (Qu _ _ _) rfl rfl (r2:=dvO 4 v.ps.length v.wr v.dead) rfl ?_
 unfold dvO
 have hle:∀ x,(v.ps.set i x).length = v.ps.length:=fun x=>JG
 have F:=@hle
 refine rn F ?_
 exact ⟨rfl,rfl,(⟨v.ps.set i (s.take m ++ (v.ps.getD i []).drop m),v.wr,v.dead⟩,0),rfl,by unfold dvQ; dsimp only; rw [hle]; exact q1.1.2⟩
def Qtm (n:Int) (hn:n<=64):VCalls prog 74 [.int .i64 n] [] (QI (fun l:List (List UInt8)=>.pv (.sl (fz QdR l))) fun l=>l.length<=64):=by
 refine dk Tryz.func74 ?_
 (unfold Tryz.f74; refine rn trivial ?_)
 refine VLoop.nilOwn 3 9 1 rfl ?_
 refine rn trivial ?_
 refine Qg (fun s:{s:Nat × List (List UInt8) // s.1<=64/\s.2.length = s.1}=>⟨16,0,[(4,.int .i64 s.1.1),(3,.own 0 1 0 s.1.2.length),(0,.int .i64 n)],[⟨9,true,cells QdR s.1.2⟩]⟩) (fun s=>64 - s.1.1) ⟨(0,[]),by simp⟩ (gc [0]) ?_
 rintro ⟨⟨i,out⟩,hi,ho⟩
 dsimp only at hi ho |-
 have hb:(out.length + 1) * 16<=140737488355328:=by omega
 have hm:(((1:Nat):Int) * 256<=281474976710656) = True:=eq_true (by decide)
 have hcw:=fun (hp:Qb) (k o n:Nat)=>Qe0 (hp:=hp) (k:=k) (off:=o) (len:=n) QFE
 have hcv:∀ hp:Qb,QAb hp 0 256 (some (cells Qfy (JC 256 0))) = some (.pv (.str (JC 256 0)),hp):=fun hp=>QdB (by simp)
 have F:=(Ja @hb (Ja @hm (Ja @hcw @hcv)))
 refine rn F ?_
 repeat' (first
  | with_reducible exact ⟨⟩
  | (refine sB F ?_ ?_<;>intro hZ))
 all_goals first
  | exact ⟨⟨(i + 1,out ++ [JC 256 0]),by dsimp only; omega,by simp; omega⟩,by dsimp only; omega,by dsimp only; rw [Jb]; exact (gc [3])⟩
  | exact ⟨rfl,rfl,out,rfl,by omega⟩
  | skip
end
end Go.Proofs.YtdkdbodcffiiaaaGreat
