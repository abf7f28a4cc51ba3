/-
  Contracts of functions and plain laws. No condition.
-/
import Derived.Test.YtepdccfgnafgcaaGreatP1
import Derived.Test.YtepdccfgnafgcaaGreatV3
set_option linter.unusedSimpArgs false
set_option linter.unusedVariables false
set_option linter.defProp false
set_option maxRecDepth 100000
set_option maxHeartbeats 8000000
set_option autoImplicit true
set_option relaxedAutoImplicit true
open And renaming intro->Ja
open Bool renaming and_eq_true->Jf,true_and->JA,beq_eq_decide_eq->JF,not_eq_false'->JL,false_eq_true->JM,true_eq_false->JN,not_eq_true'->JO,eq_iff_iff->JU,or_eq_true->JV,and_assoc->JY
open Int renaming toNat_natCast->Jk
open List renaming length_append->Jb,length_nil->Jd,length_cons->Je,getD_eq_getElem?_getD->Jg,range->Ji,replicate->Jj,length_take->Jl,length_replicate->Jm,all_eq_true->Jn,length_set->Jo,getElem?_append_right->Jp,mem_range->Jr,length_drop->Js,getElem_mem->Jt,map_nil->Jv,map_cons->Jw,getElem?_append_left->Jy,getElem?_eq_getElem->Jz,any_eq_true->JC,take_of_length_le->JD,set_getElem_self->JG,length_filter_le->JH,getElem?_eq_none->JI,set_append_right->JJ,countP_pos_iff->JK,getElem?_map->JP,map_set->JQ,getElem_map->JS,countP_set->JW,prefix_rfl->JX,nodup_nil->JZ,mem_map->J1,length->J2
open Nat renaming le_trans->Jc,zero_le->Jh,mul_le_mul_right->Jq,le_refl->Ju,add_sub_cancel_left->JB,lt_or_ge->JE,sub_self->JR,le_add_right->JT,zero_add->J0
namespace Go.Proofs.YtepdccfgnafgcaaGreat
open Go.V Go
open Tryz (prog)
def lkC(l:List Gr)(i:Nat):Nat->Bool
 | 0=>true
 | k+1=>if (l.getD k Gr0).pg=(l.getD i Gr0).pg/\(l.getD k Gr0).sl=(l.getD i Gr0).sl then !QvA (l.getD k Gr0) (l.getD i Gr0)&&lkC l i k else true
def lkH(l:List Gr)(i:Nat):Bool:=grB (l.getD i Gr0)&&((decide (i=0)||lessG (l.getD (i-1) Gr0) (l.getD i Gr0))&&lkC l i i)
def lkX(w:List Gr)(j k:Nat):Bool:=!decide ((w.getD k Gr0).tx=(w.getD j Gr0).tx)
def lkW(l w:List Gr)(j:Nat):Bool:=grB (w.getD j Gr0)&&(decide (Qz3 l (w.getD j Gr0).tx (w.getD j Gr0).pg (w.getD j Gr0).sl<(w.getD j Gr0).md)&&(Ji j).all (lkX w j))
def lkB(t:Lk):Bool:=decide (t.sum<=1024)&&((Ji t.held.length).all (lkH t.held)&&(Ji t.wait.length).all (lkW t.held t.wait))
def QE5{t:Lk}(h:¬ t.sum<=1024):lkB t=false:=by unfold lkB; rw[decide_eq_false h]; rfl
def QG2{t:Lk}{i:Nat}(hi:i<t.held.length)(h:lkH t.held i=false):lkB t=false:=by unfold lkB; rw[Qai hi h]; simp
def QG1{t:Lk}{i:Nat}(hi:i<t.wait.length)(h:lkW t.held t.wait i=false):lkB t=false:=by unfold lkB; rw[Qai hi h]; simp
def QiK(t:Lk)(hs:t.sum<=100000):VCalls prog 199 [.agg t.d] [] (Ret (.bool (lkB t))):=by
 refine dd Tryz.func199 ?_
 have k0:=@QE5 t
 have kh:=@QG2 t
 have kw:=@QG1 t
 have ky:t.sum<=1024->(Ji t.held.length).all (lkH t.held)=true->(Ji t.wait.length).all (lkW t.held t.wait)=true->lkB t=true:=fun a b c=>by unfold lkB; rw[decide_eq_true a,b,c]; rfl
 unfold Lk.sum at *
 have cm:=Qnr t (by omega)
 obtain⟨l,w⟩:=t
 dsimp only at hs cm k0 kh kw ky |-
 generalize lkB ⟨l,w⟩=R at *
 (unfold Tryz.f199; refine rn trivial ?_)
 refine rn F ?_
 repeat' (first
  | with_reducible exact⟨⟩
  | (refine sB F ?_ ?_<;>intro hZ))
 ·rw[k0 (by omega)]
 have hsum:l.length+w.length<=1024:=by omega
 refine Qj (fun s:Okay l.length (lkH l)=>⟨121,0,[(3,.int .i64 s.i),(1,.ptr 0 0)],[⟨55,true,[.pv (.sl (fz Qau l)),.pv (.sl (fz Qau w))]⟩]⟩) (fun s=>l.length-s.i) (Okay.start _ _) (gc [0]) ?_
 intro s
 have hi:=s.hi
 by_cases hc:s.i<l.length
 rotate_left
 ·have hc':¬ ((s.i:Nat):Int) < l.length:=by omega
  have F:=@hc'
  refine rn F ?_
  refine Qj (fun r:Okay w.length (lkW l w)=>⟨121,0,[(5,.int .i64 r.i),(1,.ptr 0 0)],[⟨55,true,[.pv (.sl (fz Qau l)),.pv (.sl (fz Qau w))]⟩]⟩) (fun s=>w.length-s.i) (Okay.start _ _) (gc [0]) ?_
  intro r
  have hj:=r.hi
  by_cases hr:r.i<w.length
  rotate_left
  ·have hr':¬ ((r.i:Nat):Int) < w.length:=by omega
   have F:=@hr'
   refine rn F ?_
   rw[ky hsum (s.all hc) (r.all hr)]
  have hr':((r.i:Nat):Int)<w.length:=by omega
  have hw:=QaD w r.i hr
  have d1:=Qth (w.getD r.i Gr0)
  have ew:lkW l w r.i=(grB (w.getD r.i Gr0)&&(decide (Qz3 l (w.getD r.i Gr0).tx (w.getD r.i Gr0).pg (w.getD r.i Gr0).sl<(w.getD r.i Gr0).md)&&(Ji r.i).all (lkX w r.i))):=rfl
  have kwr:=kw hr
  generalize hM:Qz3 l (w.getD r.i Gr0).tx (w.getD r.i Gr0).pg (w.getD r.i Gr0).sl=M at *
  have cm':=cm (w.getD r.i Gr0).tx (w.getD r.i Gr0).pg (w.getD r.i Gr0).sl
  rw[hM] at cm'
  generalize hgr:grB (w.getD r.i Gr0)=gb at *
  cases gb
  ·skip
   have F:=(Ja @hr' @hw)
   refine rn F ?_
   repeat' (first
    | with_reducible exact⟨⟩
    | refine vp F (d1) ?_
    | (refine Qbh (id:=17) [[],[0],[0,1],[0,1,2],[0,1,2,3],[0,1,2,3],[0,1,2,3,5],[0,1,2,3],[0,1,2,3,7],[0,1,2,3,4,5,6,7,8],[0,1,2,3],[0,1,2,3,10],[0,1,2,3,4,5,6,7,8,9,10,11],[0,1,2,3,4,5,6,7,8,9,10,11,12]] [0] [⟨[],[],1,[],[2,3,4,5,6,7,8,10,11]⟩,⟨[],[],9,[10,11],[12,13]⟩] (by kernel_rfl) (by kernel_rfl) (by kernel_rfl) ?_; refine rn F ?_))
   rw[kwr (by rw[ew]; rfl)]
  by_cases hmd:M<(w.getD r.i Gr0).md
  rotate_left
  ·skip
   have F:=(Ja @hr' (Ja @hw @hmd))
   refine rn F ?_
   repeat' (first
    | with_reducible exact⟨⟩
    | refine vp F (d1) ?_
    | refine vp F (cm') ?_
    | (refine Qbh (id:=17) [[],[0],[0,1],[0,1,2],[0,1,2,3],[0,1,2,3],[0,1,2,3,5],[0,1,2,3],[0,1,2,3,7],[0,1,2,3,4,5,6,7,8],[0,1,2,3],[0,1,2,3,10],[0,1,2,3,4,5,6,7,8,9,10,11],[0,1,2,3,4,5,6,7,8,9,10,11,12]] [0] [⟨[],[],1,[],[2,3,4,5,6,7,8,10,11]⟩,⟨[],[],9,[10,11],[12,13]⟩] (by kernel_rfl) (by kernel_rfl) (by kernel_rfl) ?_; refine rn F ?_))
   rw[kwr (by rw[ew,decide_eq_false hmd]; rfl)]
  rw[decide_eq_true hmd] at ew
  have F:=(Ja @hr' (Ja @hw @hmd))
  refine rn F ?_
  repeat' (first
   | with_reducible exact⟨⟩
   | refine vp F (d1) ?_
   | refine vp F (cm') ?_
   | (refine Qbh (id:=17) [[],[0],[0,1],[0,1,2],[0,1,2,3],[0,1,2,3],[0,1,2,3,5],[0,1,2,3],[0,1,2,3,7],[0,1,2,3,4,5,6,7,8],[0,1,2,3],[0,1,2,3,10],[0,1,2,3,4,5,6,7,8,9,10,11],[0,1,2,3,4,5,6,7,8,9,10,11,12]] [0] [⟨[],[],1,[],[2,3,4,5,6,7,8,10,11]⟩,⟨[],[],9,[10,11],[12,13]⟩] (by kernel_rfl) (by kernel_rfl) (by kernel_rfl) ?_; refine rn F ?_))
  refine Qj (fun s:Okay r.i (lkX w r.i)=>⟨121,0,[(7,.int .i64 s.i),(6,.ptr 1 0),(5,.int .i64 r.i),(1,.ptr 0 0)],[⟨55,true,[.pv (.sl (fz Qau l)),.pv (.sl (fz Qau w))]⟩,⟨248,true,Gr.d (w.getD r.i Gr0)⟩]⟩) (fun s=>r.i-s.i) (Okay.start _ _) (gc [0,1]) ?_
  intro q
  have hq:=q.hi
  by_cases hqc:q.i<r.i
  ·have hqc':((q.i:Nat):Int) < r.i:=by omega
   have hqw:((q.i:Nat):Int)<w.length:=by omega
   have hx:=QaD w q.i (by omega)
   have F:=(Ja @hqc' (Ja @hqw @hx))
   refine rn F ?_
   repeat' (first
    | with_reducible exact⟨⟩
    | (refine sB F ?_ ?_<;>intro hZ)
    | (refine Qb (id:=22) [0,1,2,3,4,5,6,7,8] [] (by kernel_rfl) (by kernel_rfl) ?_; refine rn F ?_))
   all_goals first
    | exact⟨q.next hqc (by unfold lkX; rw[decide_eq_false (by assumption)]; rfl),q.dec hqc,(gc [0,1])⟩
    | (rw[kwr (by rw[ew,Qai hqc (by unfold lkX; rw[decide_eq_true (by assumption)]; rfl)]; rfl)])
  ·have hqc':¬ ((q.i:Nat):Int) < r.i:=by omega
   have F:=@hqc'
   refine rn F ?_
   exact⟨r.next hr (by rw[ew,q.all hqc]; rfl),r.dec hr,(gc [0])⟩
 have hc':((s.i:Nat):Int)<l.length:=by omega
 have hg:=QaD l s.i hc
 have hgp:=fun h:s.i-1<l.length=>QaD l (s.i-1) h
 have c1:=Qth (l.getD s.i Gr0)
 have c2:=QoG (l.getD (s.i-1) Gr0) (l.getD s.i Gr0)
 have c3:=fun a=>Qgo a (l.getD s.i Gr0)
 have eh:lkH l s.i=(grB (l.getD s.i Gr0)&&((decide (s.i=0)||lessG (l.getD (s.i-1) Gr0) (l.getD s.i Gr0))&&lkC l s.i s.i)):=rfl
 have khs:=kh hc
 generalize hgr:grB (l.getD s.i Gr0)=gb at *
 cases gb
 ·skip
  have F:=(Ja @hc' @hg)
  refine rn F ?_
  repeat' (first
   | with_reducible exact⟨⟩
   | refine vp F (c1) ?_
   | (refine Qbh (id:=6) [[],[0],[],[0,1,2],[0,1,2,3],[0,1,2,3,4],[0,1,2,3,4,5],[0,1,2,3,4,5,6],[0,1,2,3,4,5,6,7],[0,1,2,3,4,5,6,7,8],[0,1,2,3,4,5,6,7,8,9],[0,1,2,3,4,5,6,7,8,9,10],[0,1,2,3,4,5,6,7,8,9,10,11],[0,1,2,3,4,5,6,7,8,9,10],[0,1,2,3,4,5,6,7,8,9,10,13],[0,1,2,3,4,5,6,7,8,9,10,11,12,13,14],[0,1,2,3,4,5,6,7,8,9,10,11,12,13,14,15],[0,1,2,3,4,5,6,7,8,9,10],[0,1,2,3,4,5,6,7,8,9,10,17],[0,1,2,3,4,5,6,7,8,9,10],[0,1,2,3,4,5,6,7,8,9,10,17,18,19],[0,1,2,3,4,5,6,7,8,9,10,17,18,19,20],[0,1,2,3,4,5,6,7,8,9,10,11,12,13,14,15,16,17,18,19,20,21],[0,1,2,3,4,5,6,7,8,9,10,11,12,13,14,15,16,17,18,19,20,21,22],[0,1,2,3,4,5,6,7,8,9,10,11,12,13,14,15,16,17,18,19,20,21,22,23],[0,1,2,3,4,5,6,7,8,9,10,11,12,13,14,15,16,17,18,19,20,21,22,23,24]] [0,1,2,3,4] [⟨[],[],5,[],[6,7,8,9,10,11,12,13,14,15,16,17,18,19,20,21]⟩,⟨[],[],22,[],[23,24,25]⟩] (by kernel_rfl) (by kernel_rfl) (by kernel_rfl) ?_; refine rn F ?_))
  rw[khs (by rw[eh]; rfl)]
 have tail:(decide (s.i=0)||lessG (l.getD (s.i-1) Gr0) (l.getD s.i Gr0))=true->lkH l s.i=lkC l s.i s.i:=fun h=>by rw[eh,h]; rfl
 by_cases hz:s.i=0
 rotate_left
 have hz':(0:Int)<s.i:=by omega
 have hcp:((s.i:Nat):Int)-1<l.length:=by omega
 have hgp':=hgp (by omega)
 generalize hls:lessG (l.getD (s.i-1) Gr0) (l.getD s.i Gr0)=lb at *
 cases lb
 ·skip
  have F:=(Ja @hc' (Ja @hg (Ja @hz' (Ja @hcp @hgp'))))
  refine rn F ?_
  repeat' (first
   | with_reducible exact⟨⟩
   | refine vp F (c1) ?_
   | refine vp F (c2) ?_
   | (refine Qbh (id:=6) [[],[0],[],[0,1,2],[0,1,2,3],[0,1,2,3,4],[0,1,2,3,4,5],[0,1,2,3,4,5,6],[0,1,2,3,4,5,6,7],[0,1,2,3,4,5,6,7,8],[0,1,2,3,4,5,6,7,8,9],[0,1,2,3,4,5,6,7,8,9,10],[0,1,2,3,4,5,6,7,8,9,10,11],[0,1,2,3,4,5,6,7,8,9,10],[0,1,2,3,4,5,6,7,8,9,10,13],[0,1,2,3,4,5,6,7,8,9,10,11,12,13,14],[0,1,2,3,4,5,6,7,8,9,10,11,12,13,14,15],[0,1,2,3,4,5,6,7,8,9,10],[0,1,2,3,4,5,6,7,8,9,10,17],[0,1,2,3,4,5,6,7,8,9,10],[0,1,2,3,4,5,6,7,8,9,10,17,18,19],[0,1,2,3,4,5,6,7,8,9,10,17,18,19,20],[0,1,2,3,4,5,6,7,8,9,10,11,12,13,14,15,16,17,18,19,20,21],[0,1,2,3,4,5,6,7,8,9,10,11,12,13,14,15,16,17,18,19,20,21,22],[0,1,2,3,4,5,6,7,8,9,10,11,12,13,14,15,16,17,18,19,20,21,22,23],[0,1,2,3,4,5,6,7,8,9,10,11,12,13,14,15,16,17,18,19,20,21,22,23,24]] [0,1,2,3,4] [⟨[],[],5,[],[6,7,8,9,10,11,12,13,14,15,16,17,18,19,20,21]⟩,⟨[],[],22,[],[23,24,25]⟩] (by kernel_rfl) (by kernel_rfl) (by kernel_rfl) ?_; refine rn F ?_))
  rw[khs (by rw[eh,decide_eq_false hz]; rfl)]
 have htl:=tail (by simp)
 have F:=(Ja @hc' (Ja @hg (Ja @hz' (Ja @hcp @hgp'))))
 refine rn F ?_
 repeat' (first
  | with_reducible exact⟨⟩
  | refine vp F (c1) ?_
  | refine vp F (c2) ?_
  | (refine Qbh (id:=6) [[],[0],[],[0,1,2],[0,1,2,3],[0,1,2,3,4],[0,1,2,3,4,5],[0,1,2,3,4,5,6],[0,1,2,3,4,5,6,7],[0,1,2,3,4,5,6,7,8],[0,1,2,3,4,5,6,7,8,9],[0,1,2,3,4,5,6,7,8,9,10],[0,1,2,3,4,5,6,7,8,9,10,11],[0,1,2,3,4,5,6,7,8,9,10],[0,1,2,3,4,5,6,7,8,9,10,13],[0,1,2,3,4,5,6,7,8,9,10,11,12,13,14],[0,1,2,3,4,5,6,7,8,9,10,11,12,13,14,15],[0,1,2,3,4,5,6,7,8,9,10],[0,1,2,3,4,5,6,7,8,9,10,17],[0,1,2,3,4,5,6,7,8,9,10],[0,1,2,3,4,5,6,7,8,9,10,17,18,19],[0,1,2,3,4,5,6,7,8,9,10,17,18,19,20],[0,1,2,3,4,5,6,7,8,9,10,11,12,13,14,15,16,17,18,19,20,21],[0,1,2,3,4,5,6,7,8,9,10,11,12,13,14,15,16,17,18,19,20,21,22],[0,1,2,3,4,5,6,7,8,9,10,11,12,13,14,15,16,17,18,19,20,21,22,23],[0,1,2,3,4,5,6,7,8,9,10,11,12,13,14,15,16,17,18,19,20,21,22,23,24]] [0,1,2,3,4] [⟨[],[],5,[],[6,7,8,9,10,11,12,13,14,15,16,17,18,19,20,21]⟩,⟨[],[],22,[],[23,24,25]⟩] (by kernel_rfl) (by kernel_rfl) (by kernel_rfl) ?_; refine rn F ?_))
 rotate_left
 have hz':¬ (0:Int)<s.i:=by omega
 have htl:=tail (by rw[decide_eq_true hz]; rfl)
 have F:=(Ja @hc' (Ja @hg @hz'))
 refine rn F ?_
 repeat' (first
  | with_reducible exact⟨⟩
  | refine vp F (c1) ?_
  | (refine Qbh (id:=6) [[],[0],[],[0,1,2],[0,1,2,3],[0,1,2,3,4],[0,1,2,3,4,5],[0,1,2,3,4,5,6],[0,1,2,3,4,5,6,7],[0,1,2,3,4,5,6,7,8],[0,1,2,3,4,5,6,7,8,9],[0,1,2,3,4,5,6,7,8,9,10],[0,1,2,3,4,5,6,7,8,9,10,11],[0,1,2,3,4,5,6,7,8,9,10],[0,1,2,3,4,5,6,7,8,9,10,13],[0,1,2,3,4,5,6,7,8,9,10,11,12,13,14],[0,1,2,3,4,5,6,7,8,9,10,11,12,13,14,15],[0,1,2,3,4,5,6,7,8,9,10],[0,1,2,3,4,5,6,7,8,9,10,17],[0,1,2,3,4,5,6,7,8,9,10],[0,1,2,3,4,5,6,7,8,9,10,17,18,19],[0,1,2,3,4,5,6,7,8,9,10,17,18,19,20],[0,1,2,3,4,5,6,7,8,9,10,11,12,13,14,15,16,17,18,19,20,21],[0,1,2,3,4,5,6,7,8,9,10,11,12,13,14,15,16,17,18,19,20,21,22],[0,1,2,3,4,5,6,7,8,9,10,11,12,13,14,15,16,17,18,19,20,21,22,23],[0,1,2,3,4,5,6,7,8,9,10,11,12,13,14,15,16,17,18,19,20,21,22,23,24]] [0,1,2,3,4] [⟨[],[],5,[],[6,7,8,9,10,11,12,13,14,15,16,17,18,19,20,21]⟩,⟨[],[],22,[],[23,24,25]⟩] (by kernel_rfl) (by kernel_rfl) (by kernel_rfl) ?_; refine rn F ?_))
 all_goals
  refine Qj (fun r:{r:Nat // r<=s.i/\lkH l s.i=lkC l s.i r}=>⟨121,0,[(4,.int .i64 ((r.1:Int)-1)),(3,.int .i64 s.i),(1,.ptr 0 0)],[⟨55,true,[.pv (.sl (fz Qau l)),.pv (.sl (fz Qau w))]⟩]⟩) (fun r=>r.1) ⟨s.i,Ju _,htl⟩ (gc [0]) ?_
  rintro⟨r,hr,hrl⟩
  dsimp only
  by_cases hr0:r=0
  ·have hr0':¬ (0:Int)<=(r:Int) - 1:=by omega
   subst hr0
   have F:=@hr0'
   refine rn F ?_
   repeat' (first
    | with_reducible exact⟨⟩
    | (refine Qb (id:=9) [0,1,2,3,4,5,6,7,8,9,10,11,12,13,14,15,16] [] (by kernel_rfl) (by kernel_rfl) ?_; refine rn F ?_))
   exact⟨s.next hc hrl,s.dec hc,(gc [0])⟩
  obtain⟨m,rfl⟩:∃ m,r=m+1:=⟨r-1,by omega⟩
  have e1:((m+1:Nat):Int)-1=m:=by omega
  rw[e1]
  have hm0:(0:Int)<=(m:Int):=by omega
  have hml:(m:Int)<l.length:=by omega
  have hx:=QaD l m (by omega)
  have c4:=c3 (l.getD m Gr0)
  have el:lkC l s.i (m+1)=if (l.getD m Gr0).pg=(l.getD s.i Gr0).pg/\(l.getD m Gr0).sl=(l.getD s.i Gr0).sl then !QvA (l.getD m Gr0) (l.getD s.i Gr0)&&lkC l s.i m else true:=rfl
  by_cases hsame:(l.getD m Gr0).pg=(l.getD s.i Gr0).pg/\(l.getD m Gr0).sl=(l.getD s.i Gr0).sl
  ·rw [if_pos hsame] at el
   obtain⟨s1,s2⟩:=hsame
   generalize hcf:QvA (l.getD m Gr0) (l.getD s.i Gr0)=cf at *
   cases cf
   ·skip
    have F:=(Ja @hc' (Ja @hg (Ja @hm0 (Ja @hml (Ja @hx (Ja @s1 (Ja @s2 @Qf1)))))))
    refine rn F ?_
    repeat' (first
     | with_reducible exact⟨⟩
     | refine vl F (c4) ?_
     | (refine Qb (id:=9) [0,1,2,3,4,5,6,7,8,9,10,11,12,13,14,15,16] [] (by kernel_rfl) (by kernel_rfl) ?_; refine rn F ?_)
     | (refine Qb (id:=11) [0,1,2,3,4,5,6,7,8,9] [⟨[],[],10,[0,1,2,3,5,6,7,8],[]⟩] (by kernel_rfl) (by kernel_rfl) ?_; refine rn F ?_))
    all_goals first
     | exact⟨⟨m,by omega,hrl.trans el⟩,by dsimp only; omega,(gc [0])⟩
     | exact⟨⟨m,by omega,hrl.trans el⟩,(gc [0])⟩
   ·skip
    have F:=(Ja @hc' (Ja @hg (Ja @hm0 (Ja @hml (Ja @hx (Ja @s1 (Ja @s2 @Qf1)))))))
    refine rn F ?_
    repeat' (first
     | with_reducible exact⟨⟩
     | refine vl F (c4) ?_
     | (refine Qb (id:=9) [0,1,2,3,4,5,6,7,8,9,10,11,12,13,14,15,16] [] (by kernel_rfl) (by kernel_rfl) ?_; refine rn F ?_)
     | (refine Qb (id:=11) [0,1,2,3,4,5,6,7,8,9] [⟨[],[],10,[0,1,2,3,5,6,7,8],[]⟩] (by kernel_rfl) (by kernel_rfl) ?_; refine rn F ?_))
    rw[khs (hrl.trans el)]
  ·rw [if_neg hsame] at el
   have F:=(Ja @hc' (Ja @hg (Ja @hm0 (Ja @hml (Ja @hx @Qf1)))))
   refine rn F ?_
   repeat' (first
    | with_reducible exact⟨⟩
    | (refine sB F ?_ ?_<;>intro hZ)
    | refine vp F (c4) ?_
    | (refine Qb (id:=9) [0,1,2,3,4,5,6,7,8,9,10,11,12,13,14,15,16] [] (by kernel_rfl) (by kernel_rfl) ?_; refine rn F ?_)
    | (refine Qb (id:=11) [0,1,2,3,4,5,6,7,8,9] [⟨[],[],10,[0,1,2,3,5,6,7,8],[]⟩] (by kernel_rfl) (by kernel_rfl) ?_; refine rn F ?_))
   all_goals first
    | exact⟨s.next hc (hrl.trans el),s.dec hc,(gc [0])⟩
    | (exfalso; omega)
    | (exfalso; exact hsame ⟨by assumption,by assumption⟩)
    | (exfalso; simp_all; done)
    | skip
def QbJ(t:Lk)(hs:t.sum<=100000):VCalls prog 199 [.agg t.d] [] (QL (fun b:Bool=>.bool b) fun b=>b=true->t.sum<=1024):=
 (QiK t hs).toS (lkB t) rfl fun h=>by
  rcases JE 1024 t.sum with h1 | h1
  ·rw[QE5 (by omega)] at h; cases h
  ·exact h1
def QdE(t:Lk)(hs:t.sum<=5000)(tx:Int):VCalls prog 172 [.agg t.d,.int .i64 tx] [] (QL (fun a:Gr×Bool=>.tup [.agg a.1.d,.bool a.2]) fun _=>True):=by
 refine dd Tryz.func172 ?_
 have c1:=QbJ t (by omega)
 unfold Lk.sum at *
 obtain⟨l,w⟩:=t
 dsimp only at hs c1 |-
 (unfold Tryz.f172; refine rn trivial ?_)
 refine rn F ?_
 repeat' (first
  | with_reducible exact⟨⟩
  | (refine sB F ?_ ?_<;>intro hZ)
  | (refine Qr (c1) rfl ?_; rintro b hb; refine rn F ?_))
 all_goals first
  | exact⟨rfl,rfl,(Gr0,false),rfl,trivial⟩
  | skip
 refine Qj (fun s:To w.length=>⟨30,0,[(6,.int .i64 s.i),(4,.ptr 1 0),(2,.ptr 0 0),(1,.int .i64 tx)],[⟨55,true,[.pv (.sl (fz Qau l)),.pv (.sl (fz Qau w))]⟩,⟨248,true,[.int .i64 0,.int .i64 0,.int .i64 0,.int .i64 0]⟩]⟩) (fun s=>w.length-s.i) ⟨0,Jh _⟩ (gc [0,1]) ?_
 rintro⟨i,hi⟩
 dsimp only
 have hg:=fun h:i<w.length=>QaD w i h
 have F:=@hg
 refine rn F ?_
 repeat' (first
  | with_reducible exact⟨⟩
  | (refine sB F ?_ ?_<;>intro hZ))
 all_goals first
  | exact⟨⟨i+1,by omega⟩,by dsimp only; omega,(gc [0,1])⟩
  | exact⟨rfl,rfl,(Gr0,false),rfl,trivial⟩
  | exact⟨rfl,rfl,(w.getD i Gr0,true),rfl,trivial⟩
  | skip
def QdG(t:Lk)(hs:t.sum<=5000)(tx:Int):VCalls prog 164 [.agg t.d,.int .i64 tx] [] (QL (fun u:Lk=>.agg u.d) fun u=>u.sum<=t.sum):=by
 refine dd Tryz.func164 ?_
 have c1:=QbJ t (by omega)
 have c4:=QeB
 unfold Lk.sum at *
 obtain⟨l,w⟩:=t
 dsimp only at hs c1 |-
 have c2:=fun a=>QjP l (by omega) a
 have c3:=fun a=>QjP w (by omega) a
 (unfold Tryz.f164; refine rn trivial ?_)
 refine rn F ?_
 repeat' (first
  | with_reducible exact⟨⟩
  | (refine sB F ?_ ?_<;>intro hZ)
  | (refine Qr (c1) rfl ?_; rintro b hb; refine rn F ?_)
  | (refine Qr (c2 _ _ _ _) rfl ?_; rintro m1 hm1; refine rn F ?_)
  | (refine Qr (c3 _ _ _ _) rfl ?_; rintro m2 hm2; refine rn F ?_)
  | (refine Qr (c4 ⟨_,_⟩ (by dsimp only; omega)) rfl ?_; rintro u hu; refine rn F ?_)
  | (refine Qb (id:=3) [0,1,2,3,5,6,7,8] [⟨[],[],4,[0,5,6,7,8],[]⟩,⟨[],[],9,[0,1,2,3,5],[10]⟩,⟨[],[],11,[0,1,2,3,5,6,7,8],[]⟩,⟨[],[],12,[],[]⟩] (by kernel_rfl) (by kernel_rfl) ?_; refine rn F ?_))
 all_goals first
  | exact⟨rfl,rfl,⟨l,w⟩,rfl,Ju _⟩
  | (exact⟨rfl,rfl,u,rfl,by dsimp only at hu; omega⟩)
  | skip
def QtC(t:Lk)(hs:t.sum<=5000)(tx:Int):VCalls prog 260 [.agg t.d,.int .i64 tx] [] (QL (fun u:Lk=>.agg u.d) fun u=>u.sum<=t.sum):=by
 refine dd Tryz.func260 ?_
 have c1:=QbJ t (by omega)
 have c4:=QeB
 unfold Lk.sum at *
 obtain⟨l,w⟩:=t
 dsimp only at hs c1 |-
 have c3:=fun a=>QjP w (by omega) a
 (unfold Tryz.f260; refine rn trivial ?_)
 refine rn F ?_
 repeat' (first
  | with_reducible exact⟨⟩
  | (refine sB F ?_ ?_<;>intro hZ)
  | (refine Qr (c1) rfl ?_; rintro b hb; refine rn F ?_)
  | (refine Qr (c3 _ _ _ _) rfl ?_; rintro m2 hm2; refine rn F ?_)
  | (refine Qr (c4 ⟨_,_⟩ (by dsimp only; omega)) rfl ?_; rintro u hu; refine rn F ?_)
  | (refine Qb (id:=3) [0,1,2,3,4,5] [⟨[],[],6,[0,1,2],[7]⟩,⟨[],[],8,[0,1,2,3,4,5],[]⟩,⟨[],[],9,[],[]⟩] (by kernel_rfl) (by kernel_rfl) ?_; refine rn F ?_))
 all_goals first
  | exact⟨rfl,rfl,⟨l,w⟩,rfl,Ju _⟩
  | (exact⟨rfl,rfl,u,rfl,by dsimp only at hu; omega⟩)
  | skip
def Qtu(t:Lk)(hs:t.sum<=5000)(tx pg sl:Int):VCalls prog 213 [.agg t.d,.int .i64 tx,.agg [.int .i64 pg,.int .i64 sl]] [] (QL (fun u:Lk=>.agg u.d) fun u=>u.sum<=t.sum):=by
 refine dd Tryz.func213 ?_
 have c1:=QbJ t (by omega)
 have c4:=QeB
 unfold Lk.sum at *
 obtain⟨l,w⟩:=t
 dsimp only at hs c1 |-
 have c2:=fun a=>QjP l (by omega) a
 (unfold Tryz.f213; refine rn trivial ?_)
 refine rn F ?_
 repeat' (first
  | with_reducible exact⟨⟩
  | (refine sB F ?_ ?_<;>intro hZ)
  | (refine Qr (c1) rfl ?_; rintro b hb; refine rn F ?_)
  | (refine Qr (c2 _ _ _ _) rfl ?_; rintro m1 hm1; refine rn F ?_)
  | (refine Qr (c4 ⟨_,_⟩ (by dsimp only; omega)) rfl ?_; rintro u hu; refine rn F ?_)
  | (refine Qb (id:=3) [0,1,2,3,5,6] [⟨[],[],4,[0,5,6],[7]⟩,⟨[],[],8,[0,1,2,3,5,6],[]⟩,⟨[],[],9,[],[]⟩] (by kernel_rfl) (by kernel_rfl) ?_; refine rn F ?_))
 all_goals first
  | exact⟨rfl,rfl,⟨l,w⟩,rfl,Ju _⟩
  | (exact⟨rfl,rfl,u,rfl,by dsimp only at hu; omega⟩)
  | skip
def QHH(a:Lk×Bool×Int):DV:=.tup [.agg a.1.d,.bool a.2.1,.int .i64 a.2.2]
def Lk0:Lk:=⟨[],[]⟩
def Qv2(a b c d a' b' c' d':Int):QQ [.pv (.lit (.int .i64 a)),.pv (.lit (.int .i64 b)),.pv (.lit (.int .i64 c)),.pv (.lit (.int .i64 d))] [.pv (.lit (.int .i64 a')),.pv (.lit (.int .i64 b')),.pv (.lit (.int .i64 c')),.pv (.lit (.int .i64 d'))] [(0,1),(1,1),(2,1),(3,1)]=some (decide (a=a')&&decide (b=b')&&decide (c=c')&&decide (d=d')):=by simp[QQ,Q9,JF,JY]
def Qqi(t:Lk)(hs:t.sum<=4000)(g:Gr):VCalls prog 221 [.agg t.d,.agg g.d] [] (QL QHH fun a=>a.1.sum<=1024):=by
 refine dk Tryz.func221 ?_
 have c1:=QbJ t (by omega)
 have c2:=Qth g
 have c3:=QdE t (by omega) g.tx
 have c4:=QeB
 have c5:=Qxv t (by omega) g
 have c6:=fun(u:Lk) (h:u.held.length<=1000000)=>Qnr u h
 unfold Lk.sum at *
 obtain⟨l,w⟩:=t
 dsimp only at hs c1 c5 |-
 generalize Qz3=M at *
 (unfold Tryz.f221; refine rn trivial ?_)
 have F:=@Qv2
 refine rn F ?_
 repeat' (first
  | with_reducible exact⟨⟩
  | (refine sG F ?_ ?_<;>intro hZ)
  | (refine sB F ?_ ?_<;>intro hZ)
  | (refine Qr (c1) rfl ?_; rintro b hb; refine rn F ?_)
  | refine vp F (c2) ?_
  | (refine Qr (c3) rfl ?_; rintro⟨g0,b0⟩ -; refine rn F ?_)
  | (refine vp F (c6 ⟨_,_⟩ (by first | (dsimp only; omega) | (dsimp only at hu |-; simp only[Jb,Jl,Js,Je,Jd] at hu; omega)) _ _ _) ?_)
  | (refine Qr (c5) rfl ?_; rintro n hn; refine rn F ?_)
  | (refine Qjz [7] _ _ (c4 ⟨l,w.take n++[⟨g.tx,g.pg,g.sl,g.md⟩]++w.drop n⟩ (by dsimp only; simp only[Jb,Jl,Js,Je,Jd]; omega)) rfl ⟨⟨by simp,Qg _ _ _⟩,trivial⟩ (by decide) rfl (by simp[DV.nums.go,DV.nums]) ?_ ?_; (focus (refine rd F)); rintro⟨ul,uw⟩ hu; refine rn F ?_)
  | (refine Qb (id:=10) [0,1,2,3,4,6,7] [⟨[],[],5,[1,3,6,7],[8]⟩] (by kernel_rfl) (by kernel_rfl) ?_; refine rn F ?_)
  | (refine Qb (id:=15) [0,1,2,3,5,8,9,10,11] [⟨[6],[],4,[0,1,2,5,8,9,10,11],[]⟩,⟨[6],[6],7,[0,1,2,3,5,8,9,10,11],[]⟩,⟨[],[],12,[0,1,2,3,5,8,9,10],[13]⟩,⟨[],[],14,[],[]⟩] (by kernel_rfl) (by kernel_rfl) ?_; refine rn F ?_)
  | (refine Qb (id:=17) [0,1,2,3,4,5,7,8] [⟨[],[],6,[0,2,4,7,8],[9]⟩,⟨[],[],10,[1,2,3,4,5,7,8,9],[]⟩,⟨[],[],11,[],[]⟩,⟨[],[],12,[],[]⟩] (by kernel_rfl) (by kernel_rfl) ?_; refine rn F ?_))
 all_goals first
  | exact⟨rfl,rfl,(⟨ul,uw⟩,_,_),rfl,by have:=hb (by first | assumption | rfl); dsimp only[Jb] at hu |-; simp only[Jb,Jl,Js,Je,Jd] at hu; omega⟩
  | exact⟨rfl,rfl,(Lk0,false,_),rfl,by simp[Lk0]⟩
  | exact⟨rfl,rfl,(⟨l,w⟩,_,_),rfl,hb (by first | assumption | rfl)⟩
  | skip
attribute [go_sem] Qwi Qwd Qwc Qgg
@[go_sem] def ilD(l:List Int):DV:=.pv (.sl (fz Qx l))
def Qnm(l:List Int)(hl:l.length<=100000)(n:Int):VCalls prog 226 [.pv (.sl (fz Qx l)),.int .i64 n] [] (QL ilD fun m=>m.length<=l.length+1):=by
 refine dd Tryz.func226 ?_
 (unfold Tryz.f226; refine rn trivial ?_)
 refine VLoop.nilOwn 5 3 1 rfl ?_
 refine rn trivial ?_
 refine Qj (fun s:{s:Nat×List Int×Bool // s.1<=l.length/\s.2.1.length<=s.1+1/\(s.2.2=false->s.2.1.length<=s.1)}=>⟨48,0,[(7,.int .i64 s.1.1),(6,.bool s.1.2.2),(5,.own 0 1 0 s.1.2.1.length),(1,.int .i64 n),(0,.pv (.sl (fz Qx l)))],[⟨3,true,cells Qx s.1.2.1⟩]⟩) (fun s=>l.length-s.1.1) ⟨(0,[],false),by simp⟩ (gc [0]) ?_
 rintro⟨⟨i,out,dn⟩,hi,ho,hd⟩
 dsimp only at hi ho hd |-
 have hg:=fun h:i<l.length=>QV l i h
 have hb:(out.length+1)*8<=140737488355328:=Jc (Jq 8 (show out.length+1<=100003 by omega)) (by decide)
 have hb2:(out.length+1+1)*8<=140737488355328:=Jc (Jq 8 (show out.length+1+1<=100003 by omega)) (by decide)
 cases dn
 all_goals
  simp only[forall_const,reduceCtorEq,false_implies] at hd
  have F:=(Ja @hg (Ja @hb @hb2))
  refine rn F ?_
  repeat' (first
   | with_reducible exact⟨⟩
   | (refine sB F ?_ ?_<;>intro hZ))
 all_goals first
  | exact⟨rfl,rfl,out,rfl,by omega⟩
  | exact⟨rfl,rfl,out++[n],rfl,by simp; omega⟩
  | exact⟨⟨(i+1,out,false),by dsimp only; omega,by dsimp only; (try rw[Jd]); omega,by dsimp only; (try rw[Jd]); first | omega | (intro h; omega) | (intro h; cases h)⟩,by dsimp only; omega,by dsimp only; (try rw[Jd]); exact(gc [0])⟩
  | exact⟨⟨(i+1,out++[l.getD i 0],false),by dsimp only; omega,by dsimp only; (try rw[Jb,Je,Jd]); omega,by dsimp only; (try rw[Jb,Je,Jd]); first | omega | (intro h; omega) | (intro h; cases h)⟩,by dsimp only; omega,by dsimp only; (try rw[Jb,Je,Jd]); exact(gc [2])⟩
  | exact⟨⟨(i+1,out,true),by dsimp only; omega,by dsimp only; (try rw[Jd]); omega,by dsimp only; (try rw[Jd]); first | omega | (intro h; omega) | (intro h; cases h)⟩,by dsimp only; omega,by dsimp only; (try rw[Jd]); exact(gc [0])⟩
  | exact⟨⟨(i+1,out++[l.getD i 0],true),by dsimp only; omega,by dsimp only; (try rw[Jb,Je,Jd]); omega,by dsimp only; (try rw[Jb,Je,Jd]); first | omega | (intro h; omega) | (intro h; cases h)⟩,by dsimp only; omega,by dsimp only; (try rw[Jb,Je,Jd]); exact(gc [2])⟩
  | exact⟨⟨(i+1,out++[n],true),by dsimp only; omega,by dsimp only; (try rw[Jb,Je,Jd]); omega,by dsimp only; (try rw[Jb,Je,Jd]); first | omega | (intro h; omega) | (intro h; cases h)⟩,by dsimp only; omega,by dsimp only; (try rw[Jb,Je,Jd]); exact(gc [2])⟩
  | exact⟨⟨(i+1,out++[n]++[l.getD i 0],true),by dsimp only; omega,by dsimp only; (try rw[Jb,Jb,Je,Jd,Je,Jd]); omega,by dsimp only; (try rw[Jb,Jb,Je,Jd,Je,Jd]); first | omega | (intro h; omega) | (intro h; cases h)⟩,by dsimp only; omega,by dsimp only; (try rw[Jb,Jb,Je,Jd,Je,Jd]); exact(gc [4])⟩
  | skip
def Qqf(t:Lk)(hs:t.sum<=5000):VCalls prog 265 [.agg t.d] [] (QL ilD fun m=>m.length<=t.sum):=by
 refine dk Tryz.func265 ?_
 have c1:=QbJ t (by omega)
 unfold Lk.sum at *
 obtain⟨l,w⟩:=t
 dsimp only at hs c1 |-
 (unfold Tryz.f265; refine rn trivial ?_)
 refine rn F ?_
 repeat' (first
  | with_reducible exact⟨⟩
  | (refine sB F ?_ ?_<;>intro hZ)
  | (refine Qr (c1) rfl ?_; rintro b -; refine rn F ?_))
 all_goals first
  | exact⟨rfl,rfl,[],rfl,by simp⟩
  | skip
 refine VLoop.wkS ?_
 refine rn trivial ?_
 refine Qj (fun s:{s:Nat×List Int // s.1<=w.length/\s.2.length<=s.1}=>⟨23,0,[(4,.int .i64 s.1.1),(3,.pv (.sl (fz Qx s.1.2))),(1,.ptr 0 0)],[⟨55,true,[.pv (.sl (fz Qau l)),.pv (.sl (fz Qau w))]⟩]⟩) (fun s=>w.length-s.1.1) ⟨(0,[]),by simp⟩ (gc [0]) ?_
 rintro⟨⟨i,out⟩,hi,ho⟩
 dsimp only at hi ho |-
 have hg:=fun h:i<w.length=>QaD w i h
 have c2:=Qnm out (by omega)
 have F:=@hg
 refine rn F ?_
 repeat' (first
  | with_reducible exact⟨⟩
  | (refine sB F ?_ ?_<;>intro hZ)
  | (refine Qr (c2 _) rfl ?_; rintro m hm; refine rn F ?_))
 all_goals first
  | exact⟨⟨(i+1,m),by dsimp only; omega,by dsimp only; omega⟩,by dsimp only; omega,(gc [0])⟩
  | exact⟨rfl,rfl,out,rfl,by omega⟩
  | skip
def QoK(t:Lk)(hs:t.sum<=5000)(tx:Int):VCalls prog 173 [.agg t.d,.int .i64 tx] [] (QL ilD fun m=>m.length<=t.sum):=by
 refine dk Tryz.func173 ?_
 have c1:=QdE t (by omega) tx
 unfold Lk.sum at *
 obtain⟨l,w⟩:=t
 dsimp only at hs c1 |-
 (unfold Tryz.f173; refine rn trivial ?_)
 refine rn F ?_
 repeat' (first
  | with_reducible exact⟨⟩
  | (refine sB F ?_ ?_<;>intro hZ)
  | (refine Qr (c1) rfl ?_; rintro⟨g,b⟩ -; refine rn F ?_))
 all_goals first
  | exact⟨rfl,rfl,[],rfl,by simp⟩
  | skip
 refine VLoop.wkS ?_
 refine rn trivial ?_
 refine Qj (fun s:{s:Nat×List Int // s.1<=l.length/\s.2.length<=s.1}=>⟨73,0,[(8,.int .i64 s.1.1),(7,.pv (.sl (fz Qx s.1.2))),(5,.ptr 1 0),(2,.ptr 0 0),(1,.int .i64 tx)],[⟨55,true,[.pv (.sl (fz Qau l)),.pv (.sl (fz Qau w))]⟩,⟨248,true,g.d⟩]⟩) (fun s=>l.length-s.1.1) ⟨(0,[]),by simp⟩ (gc [0,1]) ?_
 rintro⟨⟨i,out⟩,hi,ho⟩
 dsimp only at hi ho |-
 have hg:=fun h:i<l.length=>QaD l i h
 have c2:=Qnm out (by omega)
 have c3:=Qgo (l.getD i Gr0) g
 have F:=@hg
 refine rn F ?_
 repeat' (first
  | with_reducible exact⟨⟩
  | (refine sB F ?_ ?_<;>intro hZ)
  | refine vp F (c3) ?_
  | (refine Qr (c2 _) rfl ?_; rintro m hm; refine rn F ?_)
  | (refine Qb (id:=8) [0,1,2,3,4,5] [⟨[],[],6,[0,1,2,3],[]⟩] (by kernel_rfl) (by kernel_rfl) ?_; refine rn F ?_))
 all_goals first
  | exact⟨⟨(i+1,m),by dsimp only; omega,by dsimp only; omega⟩,by dsimp only; omega,(gc [0,1])⟩
  | exact⟨⟨(i+1,out),by dsimp only; omega,by dsimp only; omega⟩,by dsimp only; omega,(gc [0,1])⟩
  | skip
 clear c2 c3 hg
 refine Qj (fun s:{s:Nat×List Int // s.1<=w.length/\s.2.length<=l.length+s.1}=>⟨73,0,[(9,.int .i64 s.1.1),(7,.pv (.sl (fz Qx s.1.2))),(5,.ptr 1 0),(2,.ptr 0 0),(1,.int .i64 tx)],[⟨55,true,[.pv (.sl (fz Qau l)),.pv (.sl (fz Qau w))]⟩,⟨248,true,g.d⟩]⟩) (fun s=>w.length-s.1.1) ⟨(0,out),by dsimp only; omega⟩ (gc [0,1]) ?_
 rintro⟨⟨j,o2⟩,hj,ho2⟩
 dsimp only at hj ho2 |-
 have hg:=fun h:j<w.length=>QaD w j h
 have c2:=Qnm o2 (by omega)
 have c3:=Qgo (w.getD j Gr0) g
 have F:=@hg
 refine rn F ?_
 repeat' (first
  | with_reducible exact⟨⟩
  | (refine sG F ?_ ?_<;>intro hZ)
  | (refine sB F ?_ ?_<;>intro hZ)
  | refine vp F (c3) ?_
  | (refine Qr (c2 _) rfl ?_; rintro m hm; refine rn F ?_)
  | (refine Qb (id:=13) [0,1,2,3,4,5] [⟨[],[],6,[0,1,2,3],[]⟩] (by kernel_rfl) (by kernel_rfl) ?_; refine rn F ?_))
 all_goals first
  | exact⟨⟨(j+1,m),by dsimp only; omega,by dsimp only; omega⟩,by dsimp only; omega,(gc [0,1])⟩
  | exact⟨⟨(j+1,o2),by dsimp only; omega,by dsimp only; omega⟩,by dsimp only; omega,(gc [0,1])⟩
  | exact⟨rfl,rfl,o2,rfl,by omega⟩
  | skip
def QxN(l:List Int):VCalls prog 267 [.pv (.sl (fz Qx l))] [] (QL (fun n:Int=>.int .i64 n) fun _=>True):=by
 refine dd Tryz.func267 ?_
 have hg:=fun h:0<l.length=>QV l 0 h
 (unfold Tryz.f267; refine rn trivial ?_)
 have F:=@hg
 refine rn F ?_
 repeat' (first
  | with_reducible exact⟨⟩
  | (refine sB F ?_ ?_<;>intro hZ))
 all_goals first
  | exact⟨rfl,rfl,_,rfl,trivial⟩
  | skip
def QtA (t:Lk) (hs:t.sum<=5000) (n:Nat) (hn:n<=5000):∀ (k:Nat) (way:List Int),0 < way.length->way.length + k = n->VCalls prog 266 [.agg t.d,.pv (.sl (fz Qx way)),.int .i64 n] [] (QL ilD fun m=>m.length<=5000):=by
 intro k
 induction k with
 | zero =>
   intro way h0 hk
   refine dk Tryz.func266 ?_
   have c1:=QoK t hs
   have hg:=QV way (way.length-1) (by omega)
   have hg0:=QV way 0 h0
   obtain rfl:n=way.length:=by omega
   (unfold Tryz.f266; refine rn trivial ?_)
   have F:=@hg
   refine rn F ?_
   repeat' (first
    | with_reducible exact⟨⟩
    | (refine Qr (c1 _) rfl ?_; rintro m hm; refine rn F ?_)
    | (refine Qb (id:=1) [0,1,2,3,4,5,6] [⟨[],[],7,[1,2,3,4,5],[]⟩,⟨[],[],8,[],[]⟩] (by kernel_rfl) (by kernel_rfl) ?_; refine rn F ?_))
   refine Qj (fun s:To m.length=>⟨74,0,[(30,.int .i64 s.i),(29,.int .i64 m.length),(28,.pv (.sl (fz Qx m))),(1,.pv (.sl (fz Qx way)))],[]⟩) (fun s=>m.length-s.i) ⟨0,Jh _⟩ (gc []) ?_
   rintro⟨i,hi⟩
   dsimp only
   have hx:=fun h:i<m.length=>QV m i h
   have F:=(Ja @hx @hg0)
   refine rn F ?_
   repeat' (first
    | with_reducible exact⟨⟩
    | (refine sB F ?_ ?_<;>intro hZ))
   all_goals first
    | exact⟨⟨i+1,by omega⟩,by dsimp only; omega,(gc [])⟩
    | exact⟨rfl,rfl,way,rfl,by omega⟩
    | exact⟨rfl,rfl,[],rfl,by simp⟩
    | skip
 | succ k ih =>
   intro way h0 hk
   refine dk Tryz.func266 ?_
   have c1:=QoK t hs
   have hg:=QV way (way.length-1) (by omega)
   obtain rfl:n=way.length+(k+1):=by omega
   have hne:¬ (way.length:Int)=((way.length+(k+1):Nat):Int):=by omega
   (unfold Tryz.f266; refine rn trivial ?_)
   have F:=(Ja @hg @hne)
   refine rn F ?_
   repeat' (first
    | with_reducible exact⟨⟩
    | (refine Qr (c1 _) rfl ?_; rintro m hm; refine rn F ?_)
    | (refine Qb (id:=1) [0,1,2,3,4,5,6] [⟨[],[],7,[1,2,3,4,5],[]⟩,⟨[],[],8,[],[]⟩] (by kernel_rfl) (by kernel_rfl) ?_; refine rn F ?_))
   refine Qj (fun s:To m.length=>⟨74,0,[(43,.int .i64 s.i),(42,.int .i64 m.length),(41,.pv (.sl (fz Qx m))),(3,.ptr 0 0),(2,.int .i64 (way.length+(k+1):Nat)),(1,.pv (.sl (fz Qx way)))],[⟨55,true,t.d⟩]⟩) (fun s=>m.length-s.i) ⟨0,Jh _⟩ (gc [0]) ?_
   rintro⟨i,hi⟩
   dsimp only
   have hx:=fun h:i<m.length=>QV m i h
   have F:=@hx
   refine rn F ?_
   repeat' (first
    | with_reducible exact⟨⟩
    | (refine sB F ?_ ?_<;>intro hZ))
   rotate_left
   ·exact⟨rfl,rfl,[],rfl,by simp⟩
   generalize hv:m.getD i 0=v at *
   refine Qj (fun s:{s:Nat×Bool // s.1<=way.length}=>⟨74,0,[(49,.int .i64 s.1.1),(48,.int .i64 way.length),(47,.pv (.sl (fz Qx way))),(43,.int .i64 i),(42,.int .i64 m.length),(41,.pv (.sl (fz Qx m))),(12,.bool s.1.2),(11,.int .i64 v),(3,.ptr 0 0),(2,.int .i64 (way.length+(k+1):Nat)),(1,.pv (.sl (fz Qx way)))],[⟨55,true,t.d⟩]⟩) (fun s=>way.length-s.1.1) ⟨(0,false),Jh _⟩ (gc [0]) ?_
   rintro⟨⟨j,sn⟩,hj⟩
   dsimp only at hj |-
   have hy:=fun h:j<way.length=>QV way j h
   have hb:(way.length+1)*8<=140737488355328:=Jc (Jq 8 (show way.length+1<=100003 by omega)) (by decide)
   have hb2:way.length*8<=140737488355328:=Jc (Jq 8 (show way.length<=100003 by omega)) (by decide)
   have ih2:=ih (way++[v]) (by simp) (by simp; omega)
   have F:=(Ja @hy (Ja @hb @hb2))
   refine rn F ?_
   repeat' (first
    | with_reducible exact⟨⟩
    | (refine sG F ?_ ?_<;>intro hZ)
    | (refine sB F ?_ ?_<;>intro hZ)
    | (refine Qjz [3] _ _ (ih2) rfl ⟨⟨by simp,Qg _ _ _⟩,trivial⟩ (by decide) rfl (by simp[DV.nums.go,DV.nums]) ?_ ?_; (focus (refine rd F)); rintro m2 hm2; refine rn F ?_)
    | (refine Qb (id:=20) [0,1,3,6] [⟨[4],[],2,[0,3,6],[]⟩,⟨[4],[4],5,[0,1,3,6],[]⟩,⟨[],[],7,[1,3],[]⟩,⟨[],[],8,[],[]⟩] (by kernel_rfl) (by kernel_rfl) ?_; refine rn F ?_))
   all_goals first
    | exact⟨⟨(j+1,v==way.getD j 0),by dsimp only; omega⟩,by dsimp only; omega,(gc [0])⟩
    | exact⟨⟨(j+1,true),by dsimp only; omega⟩,by dsimp only; omega,(gc [0])⟩
    | exact⟨⟨i+1,by omega⟩,by dsimp only; omega,(gc [0])⟩
    | exact⟨rfl,rfl,m2,rfl,hm2⟩
    | skip
def QxT(t:Lk)(hs:t.sum<=5000)(tx:Int):VCalls prog 223 [.agg t.d,.int .i64 tx] [] (QL ilD fun m=>m.length<=5000):=by
 refine dk Tryz.func223 ?_
 have c1:=Qqf t hs
 (unfold Tryz.f223; refine rn trivial ?_)
 refine Qj (fun s:{s:Nat // 1<=s/\s<=t.sum+1}=>⟨23,0,[(5,.int .i64 s.1),(2,.ptr 0 0),(1,.int .i64 tx)],[⟨55,true,t.d⟩]⟩) (fun s=>t.sum+1-s.1) ⟨1,by omega⟩ (gc [0]) ?_
 rintro⟨i,hi⟩
 dsimp only
 have c2:=fun(h:i<=5000)=>QtA t hs i h (i-1) [tx] (by simp) (by simp; omega)
 refine rn F ?_
 repeat' (first
  | with_reducible exact⟨⟩
  | (refine sB F ?_ ?_<;>intro hZ)
  | (refine Qr (c1) rfl ?_; rintro m hm; refine rn F ?_))
 ·rw [show ([.pv (.lit (.int .i64 tx))]:List DV) = cells Qx [tx] from rfl]
  refine Qjz [1] _ _ (c2 (by omega)) rfl ⟨⟨by simp,Qg _ _ _⟩,trivial⟩ (by decide) rfl (by simp[DV.nums.go,DV.nums]) ?_ ?_
  ·(refine rn trivial ?_; try with_reducible exact⟨⟩)
  intro m2 hm2
  refine rn F ?_
  repeat' (first
   | with_reducible exact⟨⟩
   | (refine sB F ?_ ?_<;>intro hZ))
  ·exact⟨rfl,rfl,m2,rfl,hm2⟩
  ·exact⟨⟨i+1,by omega⟩,by dsimp only; omega,(gc [0])⟩
 ·exact⟨rfl,rfl,[],rfl,by simp⟩
section
attribute [local go_sem] Qbo
def Pg.numB(p:Pg):Bool:=decide (0<=p.id)&&decide (p.id<64)&&decide (0<=p.lsn)&&decide (p.lsn<=1099511627776)
def Pg.celC(p:Pg)(i:Nat):Bool:=(p.cel i).okB&&!(decide (p.lsn=0)&&(p.cel i).set)
def Pg.celB(p:Pg):Bool:=(Ji 16).all p.celC
def Pg.okB(p:Pg):Bool:=p.numB&&p.celB
def Qa0(p:Pg):Int:=if p.numB=false then 1 else if p.celB=false then 22 else 0
def QzQ(p:Pg):VCalls prog 227 [.agg p.d] [] (Ret (.bool p.numB)):=by
 refine dd Tryz.func227 ?_
 (unfold Tryz.f227; refine rn trivial ?_)
 refine rn F ?_
 repeat' (first
  | with_reducible exact⟨⟩
  | (refine sG F ?_ ?_<;>intro hZ))
 all_goals (first | rfl | (congr 3; rw[JU]; (try simp only[Pg.numB,decide_eq_true_eq,Jf,JV,JO,JL,decide_eq_false_iff_not,beq_iff_eq,bne_iff_ne,ne_eq,JM,JN,iff_true,true_iff,iff_false,false_iff]); first | done | omega | grind))
def QoP(p:Pg):VCalls prog 228 [.agg p.d] [] (Ret (.bool p.celB)):=by
 refine dd Tryz.func228 ?_
 (unfold Tryz.f228; refine rn trivial ?_)
 refine Qj (fun s:Okay 16 p.celC=>⟨26,0,[(3,.int .i64 s.i),(1,.ptr 0 0)],[⟨207,true,p.d⟩]⟩) (fun s=>16-s.i) (Okay.start _ _) (gc [0]) ?_
 intro s
 have hsi:=s.hi
 have hg:=fun h:s.i<16=>Qpy p s.i h
 have hg0:=fun h:s.i<16=>QvM p s.i h
 have e:p.celC s.i=((p.cel s.i).okB&&!(decide (p.lsn=0)&&(p.cel s.i).set)):=rfl
 have c:=Qg4 (p.cel s.i)
 generalize (p.cel s.i).okB=ok at *
 have F:=(Ja @hg @hg0)
 refine rn F ?_
 repeat' (first
  | with_reducible exact⟨⟩
  | (refine sG F ?_ ?_<;>intro hZ)
  | (refine sB F ?_ ?_<;>intro hZ)
  | refine vp F (c) ?_)
 all_goals first | (exact congrArg DV.bool (s.no (by omega) rfl (by rw[e]; simp_all )).symm) | (exact congrArg DV.bool (s.yes (by omega) rfl).symm) | (exact⟨s.next (by omega) (by rw[e]; simp_all ),s.dec (by omega),(gc [ 0])⟩) | skip
def Qs3(p:Pg):VCalls prog 175 [.agg p.d] [] (Ret (.bool p.okB)):=by
 refine dd Tryz.func175 ?_
 have c1:=QzQ p
 have c2:=QoP p
 have e:p.okB=(p.numB&&p.celB):=rfl
 generalize p.numB=a at *
 generalize p.celB=b at *
 (unfold Tryz.f175; refine rn trivial ?_)
 refine rn F ?_
 repeat' (first
  | with_reducible exact⟨⟩
  | (refine sG F ?_ ?_<;>intro hZ)
  | refine vp F (c1) ?_
  | refine vp F (c2) ?_)
 all_goals (rw[e]; simp_all)
def QdJ(p:Pg):VCalls prog 176 [.agg p.d] [] (Ret (.int .i64 (Qa0 p))):=by
 refine dd Tryz.func176 ?_
 have c1:=QzQ p
 have c2:=QoP p
 have e:Qa0 p=if p.numB=false then 1 else if p.celB=false then 22 else 0:=rfl
 generalize p.numB=a at *
 generalize p.celB=b at *
 (unfold Tryz.f176; refine rn trivial ?_)
 refine rn F ?_
 repeat' (first
  | with_reducible exact⟨⟩
  | (refine sB F ?_ ?_<;>intro hZ)
  | refine vp F (c1) ?_
  | refine vp F (c2) ?_)
 all_goals (rw[e]; simp_all)
def QvI(h:Qa0 p=0):p.okB=true:=by
 unfold Qa0 at h
 unfold Pg.okB
 split at h
 ·simp at h
 split at h
 ·simp at h
 ·simp_all
end
section
attribute [local go_sem] Qbo
def idF(l:List Fm)(a:Int):Int:=Qhr l fun f=>f.pg.id==a
def QcL(p:Pl)(hl:p.fs.length<=1000000)(a:Int):VCalls prog 144 [.agg p.d,.int .i64 a] [] (Ret (.int .i64 (idF p.fs a))):=by
 refine dd Tryz.func144 ?_
 obtain⟨z,l,h⟩:=p
 (unfold Tryz.f144; refine rn trivial ?_)
 refine Qj (fun i:Pass l (fun x=>(x.pg.id==a)=true)=>⟨23,0,[(5,.int .i64 i.i),(2,.ptr 0 0),(1,.int .i64 a)],[⟨52,true,Pl.d ⟨z,l,h⟩⟩]⟩) (fun i=>l.length-i.i) (Pass.start l _) (gc [0]) ?_
 intro i
 have hi:=i.hi
 dsimp only at hl
 have hg:=fun h:i.i<l.length=>Qb9 l i.i h
 have F:=@hg
 refine rn F ?_
 repeat' (first
  | with_reducible exact⟨⟩
  | (refine sB F ?_ ?_<;>intro hZ))
 ·have hq:(l.getD i.i Fm0).pg.id = a:=by assumption
  rw[Qc l i.i (by omega)] at hq
  have:=QnP l (fun x=>x.pg.id==a) i.i (by omega) (by simpa using hq) i.no
  rw[idF,this]
 ·have hq:¬ (l.getD i.i Fm0).pg.id = a:=by assumption
  rw[Qc l i.i (by omega)] at hq
  exact⟨i.next (by omega) (by simpa using hq),by show l.length-(i.i+1)<l.length-i.i; omega,(gc [0])⟩
 ·have:=i.all (by omega)
  rw[idF,Qhr,if_neg (by simpa using this)]
def QAh(l:List Fm)(i k:Nat):Bool:=!decide ((l.getD k Fm0).pg.id=(l.getD i Fm0).pg.id)
def frC(l:List Fm)(i:Nat):Bool:=(l.getD i Fm0).pg.okB&&!((l.getD i Fm0).dirty&&(decide ((l.getD i Fm0).rc<1)||decide ((l.getD i Fm0).pg.lsn<(l.getD i Fm0).rc)))&&!(!(l.getD i Fm0).dirty&&!decide ((l.getD i Fm0).rc=0))&&(Ji i).all (QAh l i)
def Pl.hd(p:Pl):Prop:=1<=p.size/\p.size<=64/\p.fs.length<=p.size/\0<=p.hand/\p.hand<=max 0 ((p.fs.length:Int)-1)
instance (p:Pl):Decidable p.hd:=by unfold Pl.hd; infer_instance
def plB(p:Pl):Bool:=decide p.hd&&(Ji p.fs.length).all (frC p.fs)
def QlF{p:Pl}(h:plB p=true):p.hd:=by unfold plB at h; simp at h; exact h.1
def Qap(p:Pl)(hl:p.fs.length<=1000000):VCalls prog 143 [.agg p.d] [] (Ret (.bool (plB p))):=by
 refine dd Tryz.func143 ?_
 obtain⟨z,l,hn⟩:=p
 dsimp only at hl
 have hB:plB ⟨z,l,hn⟩=(decide (Pl.hd ⟨z,l,hn⟩)&&(Ji l.length).all (frC l)):=rfl
 have hH:Pl.hd ⟨z,l,hn⟩=(1<=z/\z<=64/\l.length<=z/\0<=hn/\hn<=max 0 ((l.length:Int)-1)):=rfl
 have hB':Pl.hd ⟨z,l,hn⟩->plB ⟨z,l,hn⟩=(Ji l.length).all (frC l):=fun h=>by rw[hB,decide_eq_true h,JA]
 have no:¬ Pl.hd ⟨z,l,hn⟩->plB ⟨z,l,hn⟩=false:=fun h=>by rw[hB,decide_eq_false h]; rfl
 generalize plB ⟨z,l,hn⟩=b at *
 (unfold Tryz.f143; refine rn trivial ?_)
 refine rn F ?_
 repeat' (first
  | with_reducible exact⟨⟩
  | (refine sG F ?_ ?_<;>intro hZ)
  | (refine sB F ?_ ?_<;>intro hZ))
 all_goals first | (rw[no (by rw[hH]; omega)]) | skip
 refine Qj (fun s:Okay l.length (frC l)=>⟨94,0,[(4,.int .i64 s.i),(3,.int .i64 l.length),(1,.ptr 0 0)],[⟨52,true,Pl.d ⟨z,l,hn⟩⟩]⟩) (fun s=>l.length-s.i) (Okay.start _ _) (gc [0]) ?_
 intro s
 have hsi:=s.hi
 have hg:=fun h:s.i<l.length=>Qb9 l s.i h
 have c1:=Qs3 (l.getD s.i Fm0).pg
 have e:frC l s.i=((l.getD s.i Fm0).pg.okB&&!((l.getD s.i Fm0).dirty&&(decide ((l.getD s.i Fm0).rc<1)||decide ((l.getD s.i Fm0).pg.lsn<(l.getD s.i Fm0).rc)))&&!(!(l.getD s.i Fm0).dirty&&!decide ((l.getD s.i Fm0).rc=0))&&(Ji s.i).all (QAh l s.i)):=rfl
 generalize (l.getD s.i Fm0).pg.okB=ok at *
 have F:=@hg
 refine rn F ?_
 repeat' (first
  | with_reducible exact⟨⟩
  | (refine sG F ?_ ?_<;>intro hZ)
  | (refine sB F ?_ ?_<;>intro hZ)
  | refine vp F (c1) ?_)
 all_goals first
  | (exact congrArg DV.bool (s.no (by omega) (hB' (by rw[hH]; omega)) (by rw[e]; simp_all)).symm)
  | (exact congrArg DV.bool (s.yes (by omega) (hB' (by rw[hH]; omega))).symm)
  | skip
 all_goals
  refine Qj (fun r:Okay s.i (QAh l s.i)=>⟨94,0,[(6,.int .i64 r.i),(5,.ptr 1 0),(4,.int .i64 s.i),(3,.int .i64 l.length),(1,.ptr 0 0)],[⟨52,true,Pl.d ⟨z,l,hn⟩⟩,⟨211,true,(l.getD s.i Fm0).d⟩]⟩) (fun r=>s.i-r.i) (Okay.start _ _) (gc [0,1]) ?_
  intro r
  have hri:=r.hi
  have hk:=fun h:r.i<l.length=>Qb9 l r.i h
  have e2:QAh l s.i r.i=!decide ((l.getD r.i Fm0).pg.id=(l.getD s.i Fm0).pg.id):=rfl
  have F:=@hk
  refine rn F ?_
  repeat' (first
   | with_reducible exact⟨⟩
   | (refine sB F ?_ ?_<;>intro hZ)
   | (refine Qb (id:=13) [0,1,2,3,4,5,6,7,8,9,10] [] (by kernel_rfl) (by kernel_rfl) ?_; refine rn F ?_))
 all_goals first
  | (exact congrArg DV.bool (s.no (by omega) (hB' (by rw[hH]; omega)) (by rw[e,Qai (i:=r.i) (by omega) (by rw[e2]; simp_all),Bool.and_false])).symm)
  | (exact⟨r.next (by omega) (by rw[e2]; simp_all),r.dec (by omega),(gc [0,1])⟩)
  | (exact⟨s.next (by omega) (by rw[e,r.all (by omega)]; simp_all),s.dec (by omega),(gc [0])⟩)
  | skip
end
section
attribute [local go_sem] Qbo
def Qbx(p:Pl)(a:Int):Int:=if plB p=true then idF p.fs a else -1
def Qbc(l:List Fm)(a:Int):idF l a=-1\/∃ i:Nat,∃ _:i<l.length,idF l a=i/\(l.getD i Fm0).pg.id=a:=by
 rcases QuB l (fun f=>f.pg.id==a) with⟨h,_⟩ | ⟨i,hi,h,hf⟩
 ·exact .inl h
 ·refine .inr ⟨i,hi,h,?_⟩
  have:=List.find?_some hf
  rw[Qc l i hi]; simpa using this
def QbY(p:Pl)(a:Int):Qbx p a=-1\/(plB p=true/\∃ i:Nat,∃ _:i<p.fs.length,Qbx p a=i/\idF p.fs a=i/\(p.fs.getD i Fm0).pg.id=a):=by
 unfold Qbx
 split
 ·rename_i hv
  rcases Qbc p.fs a with h | ⟨i,hi,h,hx⟩
  ·exact .inl h
  ·exact .inr ⟨hv,i,hi,h,h,hx⟩
 ·exact .inl rfl
def QeT(p:Pl)(a:Int):Pg×Bool:=if Qbx p a<0 then (Pg0,false) else ((p.fs.getD (Qbx p a).toNat Fm0).pg,true)
def QcK(p:Pl)(hl:p.fs.length<=1000000)(a:Int):VCalls prog 126 [.agg p.d,.int .i64 a] [] (Ret (.int .i64 (Qbx p a))):=by
 refine dd Tryz.func126 ?_
 have c1:=Qap p hl
 have c2:=QcL p hl a
 unfold Qbx
 generalize plB p=b at *
 (unfold Tryz.f126; refine rn trivial ?_)
 refine rn F ?_
 repeat' (first
  | with_reducible exact⟨⟩
  | (refine sB F ?_ ?_<;>intro hZ)
  | refine vp F (c1) ?_
  | refine vp F (c2) ?_)
 all_goals (simp_all)
def QgZ(p:Pl)(hl:p.fs.length<=1000000)(a:Int):VCalls prog 141 [.agg p.d,.int .i64 a] [] (Ret (.tup [.agg (QeT p a).1.d,.bool (QeT p a).2])):=by
 refine dd Tryz.func141 ?_
 have c1:=QcK p hl a
 unfold QeT
 rcases QbY p a with h | ⟨_,i,hi,h,_⟩
 ·rw [h] at c1 |-
  (unfold Tryz.f141; refine rn trivial ?_)
  refine rn F ?_
  repeat' (first
   | with_reducible exact⟨⟩
   | refine vp F (c1) ?_)
  all_goals rfl
 ·rw [h] at c1 |-
  rw[if_neg (by omega),Jk]
  have hg:=Qb9 p.fs i hi
  generalize p.fs.getD i Fm0=f at *
  (unfold Tryz.f141; refine rn trivial ?_)
  have F:=@hg
  refine rn F ?_
  repeat' (first
   | with_reducible exact⟨⟩
   | refine vp F (c1) ?_)
def QBn(l:List Fm)(i:Nat)(f:Fm)(hi:i<l.length):(cells QcH l).take (i*37)++f.d++(cells QcH l).drop (i*37+37)=cells QcH (l.set i f):=QiF QcH l i f hi
def QjN(p:Pl)(hl:p.fs.length<=1000000)(i:Nat)(hi:i<p.fs.length)(f:Fm):VCalls prog 231 [.agg p.d,.int .i64 i,.agg f.d] [] (Ret (.agg (Pl.d ⟨p.size,p.fs.set i f,p.hand⟩))):=by
 refine dd Tryz.func231 ?_
 obtain⟨z,l,hn⟩:=p
 dsimp only at hl hi
 have hb:i*37+37<=l.length*37:=by omega
 have hse:=QBn l i f hi
 have hle:(l.set i f).length=l.length:=Jo
 (unfold Tryz.f231; refine rn trivial ?_)
 have F:=(Ja @hb (Ja @hse @hle))
 (refine rn F ?_; try with_reducible exact⟨⟩)
def QA4(p:Pl)(a:Int):Pl:=if Qbx p a<0 then p else ⟨p.size,p.fs.set (Qbx p a).toNat ⟨(p.fs.getD (Qbx p a).toNat Fm0).pg,(p.fs.getD (Qbx p a).toNat Fm0).dirty,(p.fs.getD (Qbx p a).toNat Fm0).rc,true⟩,p.hand⟩
def QBA(p:Pl)(hl:p.fs.length<=1000000)(a:Int):VCalls prog 264 [.agg p.d,.int .i64 a] [] (Ret (.agg (QA4 p a).d)):=by
 refine dd Tryz.func264 ?_
 have c1:=QcK p hl a
 unfold QA4
 rcases QbY p a with h | ⟨_,i,hi,h,_⟩
 ·rw [h] at c1 |-
  (unfold Tryz.f264; refine rn trivial ?_)
  refine rn F ?_
  repeat' (first
   | with_reducible exact⟨⟩
   | refine vp F (c1) ?_)
  all_goals rfl
 ·rw [h] at c1 |-
  rw[if_neg (by omega),Jk]
  have hg:=Qb9 p.fs i hi
  have c2:=QjN p hl i hi ⟨(p.fs.getD i Fm0).pg,(p.fs.getD i Fm0).dirty,(p.fs.getD i Fm0).rc,true⟩
  generalize p.fs.getD i Fm0=f at *
  (unfold Tryz.f264; refine rn trivial ?_)
  have F:=@hg
  refine rn F ?_
  repeat' (first
   | with_reducible exact⟨⟩
   | refine vp F (c1) ?_
   | refine vp F (c2) ?_)
def Qh7(n:Int):Pl×Int:=if n<1\/64<n then (Pl0,1) else (⟨n,[],0⟩,0)
def Qs4(n:Int):VCalls prog 106 [.int .i64 n] [] (Ret (.tup [.agg (Qh7 n).1.d,.int .i64 (Qh7 n).2])):=by
 refine dk Tryz.func106 ?_
 unfold Qh7
 (unfold Tryz.f106; refine rn trivial ?_)
 refine rn F ?_
 repeat' (first
  | with_reducible exact⟨⟩
  | (refine sG F ?_ ?_<;>intro hZ)
  | (refine sB F ?_ ?_<;>intro hZ))
 all_goals first | (rw[if_pos (by omega)]; rfl) | (rw[if_neg (by omega)]; rfl)
def QoV(p:Pl)(x:Pg):Pl×Int:=
 if plB p=false then (Pl0,15) else if Qa0 x≠0 then (Pl0,Qa0 x) else if 0<=idF p.fs x.id then (Pl0,25) else if (p.fs.length:Int)=p.size then (Pl0,21)
 else (⟨p.size,p.fs++[⟨x,false,0,true⟩],p.hand⟩,0)
def QBC(p:Pl)(hl:p.fs.length<=100000)(x:Pg):VCalls prog 206 [.agg p.d,.agg x.d] [] (Ret (.tup [.agg (QoV p x).1.d,.int .i64 (QoV p x).2])):=by
 refine dk Tryz.func206 ?_
 have c1:=Qap p (by omega)
 have c2:=QdJ x
 have c3:=QcL p (by omega) x.id
 have e:QoV p x=if plB p=false then (Pl0,15) else if Qa0 x≠0 then (Pl0,Qa0 x) else if 0<=idF p.fs x.id then (Pl0,25) else if (p.fs.length:Int)=p.size then (Pl0,21)
  else (⟨p.size,p.fs++[⟨x,false,0,true⟩],p.hand⟩,0):=rfl
 generalize QoV p x=r at *
 generalize plB p=b at *
 generalize Qa0 x=k at *
 generalize idF p.fs x.id=m at *
 have hb:(p.fs.length+1)*304<=140737488355328:=by omega
 (unfold Tryz.f206; refine rn trivial ?_)
 have F:=@hb
 refine rn F ?_
 repeat' (first
  | with_reducible exact⟨⟩
  | (refine sB F ?_ ?_<;>intro hZ)
  | refine vp F (c1) ?_
  | refine vp F (c2) ?_
  | refine vp F (c3) ?_
  | (refine Qb (id:=10) [0,1,3,4] [⟨[5],[],2,[0,3,4],[]⟩,⟨[5],[5],6,[0,1,3,4],[7]⟩,⟨[],[],8,[],[]⟩] (by kernel_rfl) (by kernel_rfl) ?_; refine rn F ?_))
 all_goals first | (first | (rw[e]; simp(disch:=first | assumption | omega | exact rfl | exact nf (by assumption) | exact nt (by assumption) | decide | fail) only[if_pos,if_neg]; first | done | rfl) | (rw[e]; simp(disch:=first | assumption | omega | exact rfl | exact nf (by assumption) | exact nt (by assumption) | decide | (simp_all; done) | fail) only[if_pos,if_neg]; first | done | rfl)) | skip
end
section
attribute [local go_sem] Qbo
def Qrj(f:Fm)(x:Pg):Fm:=⟨x,true,if f.dirty=true then f.rc else x.lsn,true⟩
def QkC(p:Pl)(x:Pg):Pl×Int:=
 if plB p=false then (Pl0,15) else if Qa0 x≠0 then (Pl0,Qa0 x) else if idF p.fs x.id<0 then (Pl0,18)
 else if x.lsn<=(p.fs.getD (idF p.fs x.id).toNat Fm0).pg.lsn then (Pl0,8)
 else (⟨p.size,p.fs.set (idF p.fs x.id).toNat (Qrj (p.fs.getD (idF p.fs x.id).toNat Fm0) x),p.hand⟩,0)
def QBB(p:Pl)(hl:p.fs.length<=100000)(x:Pg):VCalls prog 257 [.agg p.d,.agg x.d] [] (Ret (.tup [.agg (QkC p x).1.d,.int .i64 (QkC p x).2])):=by
 refine dk Tryz.func257 ?_
 have c1:=Qap p (by omega)
 have c2:=QdJ x
 have c3:=QcL p (by omega) x.id
 have c4:=QjN p (by omega)
 have e:QkC p x=if plB p=false then (Pl0,15) else if Qa0 x≠0 then (Pl0,Qa0 x) else if idF p.fs x.id<0 then (Pl0,18)
  else if x.lsn<=(p.fs.getD (idF p.fs x.id).toNat Fm0).pg.lsn then (Pl0,8)
  else (⟨p.size,p.fs.set (idF p.fs x.id).toNat (Qrj (p.fs.getD (idF p.fs x.id).toNat Fm0) x),p.hand⟩,0):=rfl
 have hi:=Qbc p.fs x.id
 generalize QkC p x=r at *
 generalize plB p=b at *
 generalize Qa0 x=k at *
 rcases hi with h | ⟨i,hi,h,_⟩
 ·rw [h] at c3 e
  (unfold Tryz.f257; refine rn trivial ?_)
  refine rn F ?_
  repeat' (first
   | with_reducible exact⟨⟩
   | (refine sB F ?_ ?_<;>intro hZ)
   | refine vp F (c1) ?_
   | refine vp F (c2) ?_
   | refine vp F (c3) ?_)
  all_goals first | (first | (rw[e]; simp(disch:=first | assumption | omega | exact rfl | exact nf (by assumption) | exact nt (by assumption) | decide | fail) only[if_pos,if_neg]; first | done | rfl) | (rw[e]; simp(disch:=first | assumption | omega | exact rfl | exact nf (by assumption) | exact nt (by assumption) | decide | (simp_all; done) | fail) only[if_pos,if_neg]; first | done | rfl)) | skip
 ·rw [h] at c3 e
  rw[Jk] at e
  have hg:=Qb9 p.fs i hi
  have e2:∀ f:Fm,f.dirty=true->Qrj f x=⟨x,true,f.rc,true⟩:=fun f h=>by unfold Qrj; rw[if_pos h]
  have e3:∀ f:Fm,¬ f.dirty=true->Qrj f x=⟨x,true,x.lsn,true⟩:=fun f h=>by unfold Qrj; rw[if_neg h]
  have c4:=fun f=>c4 i hi f
  generalize p.fs.getD i Fm0=f at *
  (unfold Tryz.f257; refine rn trivial ?_)
  have F:=@hg
  refine rn F ?_
  repeat' (first
   | with_reducible exact⟨⟩
   | (refine sB F ?_ ?_<;>intro hZ)
   | refine vp F (c1) ?_
   | refine vp F (c2) ?_
   | refine vp F (c3) ?_
   | refine vp F (c4 ⟨_,_,_,_⟩) ?_)
  all_goals first | (first | (rw[e]; simp(disch:=first | assumption | omega | exact rfl | exact nf (by assumption) | exact nt (by assumption) | decide | fail) only[if_pos,if_neg]; first | done | rfl) | (rw[e]; simp(disch:=first | assumption | omega | exact rfl | exact nf (by assumption) | exact nt (by assumption) | decide | (simp_all; done) | fail) only[if_pos,if_neg]; first | done | rfl)) | (first | (rw[e,e2 f (by assumption)]; simp(disch:=first | assumption | omega | exact rfl | exact nf (by assumption) | exact nt (by assumption) | decide | fail) only[if_pos,if_neg]; first | done | rfl) | (rw[e,e2 f (by assumption)]; simp(disch:=first | assumption | omega | exact rfl | exact nf (by assumption) | exact nt (by assumption) | decide | (simp_all; done) | fail) only[if_pos,if_neg]; first | done | rfl)) | (first | (rw[e,e3 f (by simp_all)]; simp(disch:=first | assumption | omega | exact rfl | exact nf (by assumption) | exact nt (by assumption) | decide | fail) only[if_pos,if_neg]; first | done | rfl) | (rw[e,e3 f (by simp_all)]; simp(disch:=first | assumption | omega | exact rfl | exact nf (by assumption) | exact nt (by assumption) | decide | (simp_all; done) | fail) only[if_pos,if_neg]; first | done | rfl)) | skip
def Qe5(f:Fm)(n:Int):Fm:=if f.pg.lsn=n then ⟨f.pg,false,0,f.used⟩ else if f.rc<=n then ⟨f.pg,f.dirty,n+1,f.used⟩ else f
def QaZ(p:Pl)(a n:Int):Pl×Int:=
 if plB p=false then (Pl0,15) else if idF p.fs a<0 then (Pl0,18)
 else if (p.fs.getD (idF p.fs a).toNat Fm0).pg.lsn<n then (Pl0,9)
 else if (p.fs.getD (idF p.fs a).toNat Fm0).dirty=false then (p,0)
 else (⟨p.size,p.fs.set (idF p.fs a).toNat (Qe5 (p.fs.getD (idF p.fs a).toNat Fm0) n),p.hand⟩,0)
def Qs5(p:Pl)(hl:p.fs.length<=100000)(a n:Int)(hn:n<=1099511627776)(hn0:0<=n):VCalls prog 184 [.agg p.d,.int .i64 a,.int .i64 n] [] (Ret (.tup [.agg (QaZ p a n).1.d,.int .i64 (QaZ p a n).2])):=by
 refine dk Tryz.func184 ?_
 have c1:=Qap p (by omega)
 have c3:=QcL p (by omega) a
 have c4:=QjN p (by omega)
 have e:QaZ p a n=if plB p=false then (Pl0,15) else if idF p.fs a<0 then (Pl0,18)
  else if (p.fs.getD (idF p.fs a).toNat Fm0).pg.lsn<n then (Pl0,9)
  else if (p.fs.getD (idF p.fs a).toNat Fm0).dirty=false then (p,0)
  else (⟨p.size,p.fs.set (idF p.fs a).toNat (Qe5 (p.fs.getD (idF p.fs a).toNat Fm0) n),p.hand⟩,0):=rfl
 have hi:=Qbc p.fs a
 generalize QaZ p a n=r at *
 generalize plB p=b at *
 rcases hi with h | ⟨i,hi,h,_⟩
 ·rw [h] at c3 e
  (unfold Tryz.f184; refine rn trivial ?_)
  refine rn F ?_
  repeat' (first
   | with_reducible exact⟨⟩
   | (refine sB F ?_ ?_<;>intro hZ)
   | refine vp F (c1) ?_
   | refine vp F (c3) ?_)
  all_goals first | (first | (rw[e]; simp(disch:=first | assumption | omega | exact rfl | exact nf (by assumption) | exact nt (by assumption) | decide | fail) only[if_pos,if_neg]; first | done | rfl) | (rw[e]; simp(disch:=first | assumption | omega | exact rfl | exact nf (by assumption) | exact nt (by assumption) | decide | (simp_all; done) | fail) only[if_pos,if_neg]; first | done | rfl)) | skip
 ·rw [h] at c3 e
  rw[Jk] at e
  have hg:=Qb9 p.fs i hi
  have c4:=fun f=>c4 i hi f
  generalize p.fs.getD i Fm0=f at *
  obtain⟨pg,dirty,rc,used⟩:=f
  have e1:pg.lsn=n->Qe5 ⟨pg,dirty,rc,used⟩ n=⟨pg,false,0,used⟩:=fun h=>if_pos h
  have e2:¬ pg.lsn=n->rc<=n->Qe5 ⟨pg,dirty,rc,used⟩ n=⟨pg,dirty,n+1,used⟩:=fun h h2=>by unfold Qe5; rw[if_neg h,if_pos h2]
  have e3:¬ pg.lsn=n->¬ rc<=n->Qe5 ⟨pg,dirty,rc,used⟩ n=⟨pg,dirty,rc,used⟩:=fun h h2=>by unfold Qe5; rw[if_neg h,if_neg h2]
  cases dirty
  all_goals
   (unfold Tryz.f184; refine rn trivial ?_)
   have F:=@hg
   refine rn F ?_
   repeat' (first
    | with_reducible exact⟨⟩
    | (refine sB F ?_ ?_<;>intro hZ)
    | refine vp F (c1) ?_
    | refine vp F (c3) ?_
    | refine vp F (c4 ⟨_,_,_,_⟩) ?_)
  all_goals first | (first | (rw[e]; simp(disch:=first | assumption | omega | exact rfl | exact nf (by assumption) | exact nt (by assumption) | decide | fail) only[if_pos,if_neg]; first | done | rfl) | (rw[e]; simp(disch:=first | assumption | omega | exact rfl | exact nf (by assumption) | exact nt (by assumption) | decide | (simp_all; done) | fail) only[if_pos,if_neg]; first | done | rfl)) | (first | (rw[e,e1 (by omega)]; simp(disch:=first | assumption | omega | exact rfl | exact nf (by assumption) | exact nt (by assumption) | decide | fail) only[if_pos,if_neg]; first | done | rfl) | (rw[e,e1 (by omega)]; simp(disch:=first | assumption | omega | exact rfl | exact nf (by assumption) | exact nt (by assumption) | decide | (simp_all; done) | fail) only[if_pos,if_neg]; first | done | rfl)) | (first | (rw[e,e2 (by omega) (by omega)]; simp(disch:=first | assumption | omega | exact rfl | exact nf (by assumption) | exact nt (by assumption) | decide | fail) only[if_pos,if_neg]; first | done | rfl) | (rw[e,e2 (by omega) (by omega)]; simp(disch:=first | assumption | omega | exact rfl | exact nf (by assumption) | exact nt (by assumption) | decide | (simp_all; done) | fail) only[if_pos,if_neg]; first | done | rfl)) | (first | (rw[e,e3 (by omega) (by omega)]; simp(disch:=first | assumption | omega | exact rfl | exact nf (by assumption) | exact nt (by assumption) | decide | fail) only[if_pos,if_neg]; first | done | rfl) | (rw[e,e3 (by omega) (by omega)]; simp(disch:=first | assumption | omega | exact rfl | exact nf (by assumption) | exact nt (by assumption) | decide | (simp_all; done) | fail) only[if_pos,if_neg]; first | done | rfl)) | skip
def Qig(n:Nat)(i h:Int):Int:=if (n:Int)<=(if i<h then h-1 else h) then 0 else (if i<h then h-1 else h)
def Qd1(p:Pl)(a:Int):Pl×Int:=
 if plB p=false then (Pl0,15) else if idF p.fs a<0 then (Pl0,18)
 else if (p.fs.getD (idF p.fs a).toNat Fm0).dirty=true then (Pl0,23)
 else (⟨p.size,p.fs.take (idF p.fs a).toNat++p.fs.drop ((idF p.fs a).toNat+1),Qig (p.fs.length-1) (idF p.fs a) p.hand⟩,0)
def Qxw(p:Pl)(hl:p.fs.length<=100000)(a:Int):VCalls prog 250 [.agg p.d,.int .i64 a] [] (Ret (.tup [.agg (Qd1 p a).1.d,.int .i64 (Qd1 p a).2])):=by
 refine dk Tryz.func250 ?_
 have c1:=Qap p (by omega)
 have c3:=QcL p (by omega) a
 have e:Qd1 p a=if plB p=false then (Pl0,15) else if idF p.fs a<0 then (Pl0,18)
  else if (p.fs.getD (idF p.fs a).toNat Fm0).dirty=true then (Pl0,23)
  else (⟨p.size,p.fs.take (idF p.fs a).toNat++p.fs.drop ((idF p.fs a).toNat+1),Qig (p.fs.length-1) (idF p.fs a) p.hand⟩,0):=rfl
 have hi:=Qbc p.fs a
 have hh:=@QlF p
 generalize Qd1 p a=r at *
 generalize plB p=b at *
 rcases hi with h | ⟨i,hi,h,_⟩
 ·rw [h] at c3 e
  (unfold Tryz.f250; refine rn trivial ?_)
  refine rn F ?_
  repeat' (first
   | with_reducible exact⟨⟩
   | (refine sB F ?_ ?_<;>intro hZ)
   | refine vp F (c1) ?_
   | refine vp F (c3) ?_)
  all_goals first | (first | (rw[e]; simp(disch:=first | assumption | omega | exact rfl | exact nf (by assumption) | exact nt (by assumption) | decide | fail) only[if_pos,if_neg]; first | done | rfl) | (rw[e]; simp(disch:=first | assumption | omega | exact rfl | exact nf (by assumption) | exact nt (by assumption) | decide | (simp_all; done) | fail) only[if_pos,if_neg]; first | done | rfl)) | skip
 ·rw [h] at c3 e
  rw[Jk] at e
  cases b
  ·(unfold Tryz.f250; refine rn trivial ?_; try with_reducible exact ⟨⟩)
   refine rn F ?_
   repeat' (first
    | with_reducible exact⟨⟩
    | refine vp F (c1) ?_)
   all_goals (first | (rw[e]; simp(disch:=first | assumption | omega | exact rfl | exact nf (by assumption) | exact nt (by assumption) | decide | fail) only[if_pos,if_neg]; first | done | rfl) | (rw[e]; simp(disch:=first | assumption | omega | exact rfl | exact nf (by assumption) | exact nt (by assumption) | decide | (simp_all; done) | fail) only[if_pos,if_neg]; first | done | rfl))
  have hh:=hh rfl
  obtain⟨z,l,hn⟩:=p
  dsimp only at hl e hi
  simp only[Pl.hd] at hh
  have hg:=Qb9 l i hi
  have hb:(i+(l.length-(i+1)))*304<=140737488355328:=by omega
  have hb1:i*304<=140737488355328:=by omega
  have hmin:min i l.length=i:=by omega
  have e1:(i:Int)<hn->¬ ((l.length-1:Nat):Int)<=hn-1->Qig (l.length-1) i hn=hn-1:=fun h h2=>by unfold Qig; rw[if_pos h,if_neg h2]
  have e2:¬ (i:Int)<hn->¬ ((l.length-1:Nat):Int)<=hn->Qig (l.length-1) i hn=hn:=fun h h2=>by unfold Qig; rw[if_neg h,if_neg h2]
  have e3:(i:Int)<hn->((l.length-1:Nat):Int)<=hn-1->Qig (l.length-1) i hn=0:=fun h h2=>by unfold Qig; rw[if_pos h,if_pos h2]
  have e4:¬ (i:Int)<hn->((l.length-1:Nat):Int)<=hn->Qig (l.length-1) i hn=0:=fun h h2=>by unfold Qig; rw[if_neg h,if_pos h2]
  generalize l.getD i Fm0=f at *
  (unfold Tryz.f250; refine rn trivial ?_)
  have F:=(Ja @hg (Ja @hb (Ja @hb1 @hmin)))
  refine rn F ?_
  repeat' (first
   | with_reducible exact⟨⟩
   | (refine sB F ?_ ?_<;>intro hZ)
   | refine vp F (c1) ?_
   | refine vp F (c3) ?_
   | (refine Qb (id:=8) [0,1,2,3,5,6,7,8,9] [⟨[],[],4,[0,1,2,5,6,7,8,9],[]⟩,⟨[],[],10,[0,1,2,3,5,6,7,8],[11]⟩,⟨[],[],12,[],[]⟩] (by kernel_rfl) (by kernel_rfl) ?_; refine rn F ?_))
  all_goals first | (first | (rw[e]; simp(disch:=first | assumption | omega | exact rfl | exact nf (by assumption) | exact nt (by assumption) | decide | fail) only[if_pos,if_neg]; first | done | rfl) | (rw[e]; simp(disch:=first | assumption | omega | exact rfl | exact nf (by assumption) | exact nt (by assumption) | decide | (simp_all; done) | fail) only[if_pos,if_neg]; first | done | rfl)) | (first | (rw[e,e1 (by omega) (by omega)]; simp(disch:=first | assumption | omega | exact rfl | exact nf (by assumption) | exact nt (by assumption) | decide | fail) only[if_pos,if_neg]; first | done | rfl) | (rw[e,e1 (by omega) (by omega)]; simp(disch:=first | assumption | omega | exact rfl | exact nf (by assumption) | exact nt (by assumption) | decide | (simp_all; done) | fail) only[if_pos,if_neg]; first | done | rfl)) | (first | (rw[e,e2 (by omega) (by omega)]; simp(disch:=first | assumption | omega | exact rfl | exact nf (by assumption) | exact nt (by assumption) | decide | fail) only[if_pos,if_neg]; first | done | rfl) | (rw[e,e2 (by omega) (by omega)]; simp(disch:=first | assumption | omega | exact rfl | exact nf (by assumption) | exact nt (by assumption) | decide | (simp_all; done) | fail) only[if_pos,if_neg]; first | done | rfl)) | (first | (rw[e,e3 (by omega) (by omega)]; simp(disch:=first | assumption | omega | exact rfl | exact nf (by assumption) | exact nt (by assumption) | decide | fail) only[if_pos,if_neg]; first | done | rfl) | (rw[e,e3 (by omega) (by omega)]; simp(disch:=first | assumption | omega | exact rfl | exact nf (by assumption) | exact nt (by assumption) | decide | (simp_all; done) | fail) only[if_pos,if_neg]; first | done | rfl)) | (first | (rw[e,e4 (by omega) (by omega)]; simp(disch:=first | assumption | omega | exact rfl | exact nf (by assumption) | exact nt (by assumption) | decide | fail) only[if_pos,if_neg]; first | done | rfl) | (rw[e,e4 (by omega) (by omega)]; simp(disch:=first | assumption | omega | exact rfl | exact nf (by assumption) | exact nt (by assumption) | decide | (simp_all; done) | fail) only[if_pos,if_neg]; first | done | rfl)) | skip
end
section
attribute [local go_sem] Qbo
def Fm.clr(f:Fm):Fm:=⟨f.pg,f.dirty,f.rc,false⟩
def SameF(l m:List Fm):Prop:=m.map Fm.clr=l.map Fm.clr
def Qgv(l:List Fm)(i:Nat):(l.map Fm.clr).getD i Fm0=(l.getD i Fm0).clr:=by
 rw[Jg,Jg,JP]; cases l[i]?<;>rfl
def Qu2(l:List Fm)(i:Nat):frC (l.map Fm.clr) i=frC l i:=by
 have h:QAh (l.map Fm.clr) i=QAh l i:=by funext k; simp only[QAh,Qgv]; rfl
 simp only[frC,h,Qgv]; rfl
def SameF.len(h:SameF l m):m.length=l.length:=by have:=congrArg J2 h; simpa using this
theorem SameF.refl(l:List Fm):SameF l l:=rfl
def SameF.trans(h:SameF a b)(g:SameF b c):SameF a c:=Eq.trans (b:=b.map Fm.clr) g h
def SameF.at_(h:SameF l m)(i:Nat):(m.getD i Fm0).clr=(l.getD i Fm0).clr:=by
 rw[<- Qgv,<- Qgv,show m.map Fm.clr=l.map Fm.clr from h]
def SameF.frC{l m:List Fm}(h:SameF l m):frC m=frC l:=by
 funext i; rw[<- Qu2 m,<- Qu2 l,show m.map Fm.clr=l.map Fm.clr from h]
def SameF.plB{p q:Pl}(h:SameF p.fs q.fs)(hs:q.size=p.size)(hh:0<=q.hand/\q.hand<=max 0 ((p.fs.length:Int)-1))(hp:plB p=true):plB q=true:=by
 have h1:=QlF hp
 simp only[Pl.hd] at h1
 have hl:=h.len
 unfold Proofs.YtepdccfgnafgcaaGreat.plB at hp |-
 rw[h.frC,hl,decide_eq_true (by simp only[Pl.hd]; omega)]
 simp only[Jf] at hp
 simpa using hp.2
def QuC(l:List Fm)(a:Int):idF (l.map Fm.clr) a=idF l a:=by
 unfold idF Qhr
 rw[List.any_map,List.findIdx_map]; rfl
def SameF.idF{l m:List Fm}(h:SameF l m)(a:Int):idF m a=idF l a:=by
 rw[<- QuC m,<- QuC l,show m.map Fm.clr=l.map Fm.clr from h]
def SameF.set (l:List Fm) (i:Nat) (b:Bool):SameF l (l.set i ⟨(l.getD i Fm0).pg,(l.getD i Fm0).dirty,(l.getD i Fm0).rc,b⟩):=by
 unfold SameF
 rw[JQ]
 rcases JE i l.length with h | h
 ·have:(⟨(l.getD i Fm0).pg,(l.getD i Fm0).dirty,(l.getD i Fm0).rc,b⟩:Fm).clr = (l.map Fm.clr)[i]'(by simpa using h):=by
   rw[Qc l i h,JS]; rfl
  rw[this,JG]
 ·rw[List.set_eq_of_length_le (by simpa using h)]
def QwO(l:List Fm):Nat:=l.countP (·.used)
def Qsk(l:List Fm)(i:Nat)(h:i<l.length)(hu:(l.getD i Fm0).used=true):QwO (l.set i ⟨(l.getD i Fm0).pg,(l.getD i Fm0).dirty,(l.getD i Fm0).rc,false⟩)<QwO l:=by
 unfold QwO
 rw[JW h]
 rw[Qc l i h] at *
 have:0<l.countP (·.used):=JK.2 ⟨l[i],Jt h,hu⟩
 simp only[hu,if_true]
 simp
 omega
structure Vic(p:Pl) where
 q:Pl
 ok:plB q=true
 sm:SameF p.fs q.fs
 sz:q.size=p.size
 ne:0<q.fs.length
def QHC(p:Pl)(a:Pl×Int×Int):Prop:=(a.2.2=0->plB p=true/\plB a.1=true/\SameF p.fs a.1.fs/\a.1.size=p.size/\∃ i,i<a.1.fs.length/\a.2.1=(a.1.fs.getD i Fm0).pg.id)/\(plB p=true->0<p.fs.length->a.2.2=0)/\a.1.fs.length<=p.fs.length
def QHD(a:Pl×Int×Int):DV:=.tup [.agg a.1.d,.int .i64 a.2.1,.int .i64 a.2.2]
def QBz(p:Pl)(hl:p.fs.length<=100000):VCalls prog 249 [.agg p.d] [] (QL QHD (QHC p)):=by
 refine dk Tryz.func249 ?_
 have c1:=Qap p (by omega)
 cases hb:plB p
 ·rw [hb] at c1
  (unfold Tryz.f249; refine rn trivial ?_)
  refine rn F ?_
  repeat' (first
   | with_reducible exact⟨⟩
   | refine vp F (c1) ?_)
  all_goals exact⟨rfl,rfl,(Pl0,0,15),rfl,by simp[QHC,hb,Pl0]⟩
 ·rw [hb] at c1
  (unfold Tryz.f249; refine rn trivial ?_)
  refine rn F ?_
  repeat' (first
   | with_reducible exact⟨⟩
   | (refine sB F ?_ ?_<;>intro hZ)
   | refine vp F (c1) ?_)
  ·exact⟨rfl,rfl,(Pl0,0,18),rfl,fun h=>absurd h (by decide),fun _ h=>by omega,Jh _⟩
  refine Qj (fun s:Vic p=>⟨51,0,[(2,.ptr 1 0),(1,.ptr 0 0)],[⟨52,true,s.q.d⟩,⟨52,true,[.int .i64 0,.pv (.slc []),.int .i64 0]⟩]⟩) (fun s=>QwO s.q.fs) ⟨p,hb,SameF.refl _,rfl,by omega⟩ (gc [0,1]) ?_
  intro s
  obtain⟨q,ok,sm,sz,ne⟩:=s
  obtain⟨qz,l,hn⟩:=q
  dsimp only at ok sm sz ne |-
  have hh:=QlF ok
  have hlen:=sm.len
  simp only[Pl.hd] at hh
  obtain⟨i,rfl⟩:∃ i:Nat,hn=i:=⟨hn.toNat,by omega⟩
  have hi:i<l.length:=by omega
  have hg:=Qb9 l i hi
  have c2:=fun f=>QjN ⟨qz,l,i⟩ (by dsimp only; omega) i hi f
  have hst:=SameF.set l i false
  have hus:=Qsk l i hi
  have hmod:((i:Int)+1).tmod (l.length:Int)=((i+1) % l.length:Nat):=Int.ofNat_tmod (i+1) l.length
  have hml:(i+1) % l.length<l.length:=Nat.mod_lt _ ne
  have hle:∀ f,(l.set i f).length=l.length:=fun f=>Jo
  generalize hf:l.getD i Fm0=f at *
  have F:=(Ja @hg @hle)
  refine rn F ?_
  repeat' (first
   | with_reducible exact⟨⟩
   | (refine sB F ?_ ?_<;>intro hZ)
   | refine vp F (c2 ⟨_,_,_,_⟩) ?_
   | (refine Qb (id:=10) [0,1,2,3,4,5,6,7,8] [⟨[],[],9,[1,2,3,4,5,6,7,8],[]⟩,⟨[],[],10,[],[]⟩,⟨[],[],11,[],[]⟩] (by kernel_rfl) (by kernel_rfl) ?_; refine rn F ?_))
  ·rw [hmod]
   refine⟨⟨⟨qz,l.set i ⟨f.pg,f.dirty,f.rc,false⟩,((i+1) % l.length:Nat)⟩,(sm.trans hst).plB sz ?_ hb,sm.trans hst,sz,?_⟩,hus (by assumption),(gc [0,1])⟩
   ·dsimp only at hlen |-; omega
   ·rw[hle]; exact ne
  ·exact⟨rfl,rfl,(⟨qz,l,i⟩,f.pg.id,0),rfl,fun _=>⟨hb,ok,sm,sz,i,hi,by rw[hf]⟩,fun _ _=>rfl,by dsimp only at hlen |-; omega⟩
end
def Qg0(x:Lg)(h1 : -1099511627776<=x.f/\x.f<=1099511627776)(h2:x.es.length<=1000000):VCalls prog 30 [.agg x.c] [] (Ret (.int .i64 x.end_)):=by
 refine dd Tryz.func30 ?_
 unfold Lg.end_
 (unfold Tryz.f30; refine rn trivial ?_; try with_reducible exact⟨⟩)
def Que{x:Lg}(h:lgB x=true):x.end_<=1099511627776:=by
 have hd:=Qat h
 unfold Lg.hd at hd
 unfold Lg.end_
 unfold lgB at h
 simp only[Jf,Jn] at h
 by_cases h0:x.es.length=0
 ·omega
 ·have:=h.2 (x.es.length - 1) (Jr.2 (by omega))
  unfold lgC at this
  simp only[Jf,decide_eq_true_eq] at this
  obtain⟨h3,h4⟩:=this
  generalize x.es.getD (x.es.length-1) E0=e at *
  unfold E.okB at h4
  simp only[Jf,decide_eq_true_eq] at h4
  omega
def Qaj(x:Lg)(hx:x.es.length<=9223372036854775807):VCalls prog 22 [.agg x.c] [] (Ret (.bool (lgB x))):=by
 refine dd Tryz.func22 ?_
 obtain⟨f,es,d⟩:=x
 dsimp only at hx
 have c1:=Qg0 ⟨f,es,d⟩
 unfold Lg.end_ at c1
 dsimp only at c1
 have hB:lgB ⟨f,es,d⟩=(decide (Lg.hd ⟨f,es,d⟩)&&(Ji es.length).all (lgC ⟨f,es,d⟩)):=rfl
 have hH:Lg.hd ⟨f,es,d⟩=(1<=f/\f<=1099511627776/\es.length<=4096/\f-1<=d/\d<=f+es.length-1):=rfl
 have hB':Lg.hd ⟨f,es,d⟩->lgB ⟨f,es,d⟩=(Ji es.length).all (lgC ⟨f,es,d⟩):=fun h=>by rw[hB,decide_eq_true h,JA]
 have no:¬ Lg.hd ⟨f,es,d⟩->lgB ⟨f,es,d⟩=false:=fun h=>by rw[hB,decide_eq_false h]; rfl
 have hlc:∀ i,lgC ⟨f,es,d⟩ i=(decide ((es.getD i E0).lsn=f+i)&&(es.getD i E0).okB):=fun _=>rfl
 generalize lgB ⟨f,es,d⟩=b at *
 generalize lgC ⟨f,es,d⟩=lc at *
 (unfold Tryz.f22; refine rn trivial ?_)
 refine rn F ?_
 repeat' (first
  | with_reducible exact⟨⟩
  | (refine sG F ?_ ?_<;>intro hZ)
  | (refine sB F ?_ ?_<;>intro hZ)
  | refine vp F (c1 (by omega) (by omega)) ?_
  | (refine Qb (id:=1) [0,1,2,3,4,5,6,7,8,9,10,11,12,13,14,15,16,17,18,19,20,21,22,23,24,25] [⟨[],[],26,[0,1,2,3,4,5,6,7,8,9,10,11,12,13,14,15,16,17,18,19,20,21,23,24],[27,28]⟩] (by kernel_rfl) (by kernel_rfl) ?_; refine rn F ?_))
 all_goals first | (rw[no (by rw[hH]; omega)]) | skip
 refine Qj (fun s:Okay es.length lc=>⟨60,0,[(3,.int .i64 s.i),(1,.ptr 0 0)],[⟨34,true,Lg.c ⟨f,es,d⟩⟩]⟩) (fun s=>es.length-s.i) (Okay.start _ _) (gc [0]) ?_
 intro s
 have hsi:=s.hi
 have hg:=fun h:s.i<es.length=>Qkm es s.i h
 have c2:=QcJ (es.getD s.i E0)
 have e:=hlc s.i
 generalize (es.getD s.i E0).okB=ok at *
 have F:=@hg
 refine rn F ?_
 repeat' (first
  | with_reducible exact⟨⟩
  | (refine sG F ?_ ?_<;>intro hZ)
  | (refine sB F ?_ ?_<;>intro hZ)
  | refine vp F (c2) ?_
  | (refine Qb (id:=6) [0,1,2,3,4,5,6,7,8,9,10,11,12,13,14,15,16] [⟨[],[],17,[0,1,2,3,4,5,6,7,8,9,10,12,13,14,15],[18,19]⟩] (by kernel_rfl) (by kernel_rfl) ?_; refine rn F ?_))
 all_goals first
  | (exact congrArg DV.bool (s.no (by omega) (hB' (by rw[hH]; omega)) (by rw[e]; first | (rw[decide_eq_false (by omega)]; rfl) | simp_all)).symm)
  | (exact congrArg DV.bool (s.yes (by omega) (hB' (by rw[hH]; omega))).symm)
  | (exact⟨s.next (by omega) (by rw[e]; simp_all),s.dec (by omega),(gc [0])⟩)
  | skip
def Qho(x:Lg):Int:=if lgB x=true then x.end_ else 0
def Qgk(x:Lg)(hx:x.es.length<=9223372036854775807):VCalls prog 33 [.agg x.c] [] (Ret (.int .i64 (Qho x))):=by
 refine dd Tryz.func33 ?_
 have c1:=Qaj x hx
 have c2:=Qg0 x
 have hh:=@Qat x
 simp only[Lg.hd] at hh
 unfold Qho
 generalize lgB x=b at *
 cases b
 ·(unfold Tryz.f33; refine rn trivial ?_; try with_reducible exact ⟨⟩)
  refine rn F ?_
  repeat' (first
   | with_reducible exact⟨⟩
   | refine vp F (c1) ?_)
  all_goals rfl
 ·replace hh:=hh rfl
  (unfold Tryz.f33; refine rn trivial ?_)
  refine rn F ?_
  repeat' (first
   | with_reducible exact⟨⟩
   | refine vp F (c1) ?_
   | refine vp F (c2 (by omega) (by omega)) ?_)
  all_goals rfl
def QtE(x:Lg)(hx:x.es.length<=9223372036854775807)(e:E):VCalls prog 9 [.agg x.c,.agg e.d] [] (Ret (QHu (QfG x e))):=by
 refine dk Tryz.func9 ?_
 have c1:=Qaj x hx
 have c2:=Qg0 x
 have c3:=QcJ { e with lsn:=x.end_+1 }
 have hh:=@Qat x
 have he:=@Que x
 simp only[Lg.hd] at hh
 have e0:QfG x e=if lgB x=false then (Lg0,0,26) else if x.es.length=4096\/1099511627776<x.end_+1 then (Lg0,0,21)
  else if ({ e with lsn:=x.end_+1 }:E).okB=false then (Lg0,0,12) else (⟨x.f,x.es++[{ e with lsn:=x.end_+1 }],x.d⟩,x.end_+1,0):=rfl
 unfold QHu
 generalize QfG x e=r at *
 generalize lgB x=b at *
 obtain⟨lsn,kind,tx,ptx,ppg,ref,c,blob⟩:=e
 dsimp only at c3 e0 |-
 cases b
 ·(unfold Tryz.f9; refine rn trivial ?_; try with_reducible exact ⟨⟩)
  refine rn F ?_
  repeat' (first
   | with_reducible exact⟨⟩
   | refine vp F (c1) ?_)
  all_goals (first | (rw[e0]; simp(disch:=first | assumption | omega | exact rfl | exact nf (by assumption) | exact nt (by assumption) | decide | fail) only[if_pos,if_neg]; first | done | rfl) | (rw[e0]; simp(disch:=first | assumption | omega | exact rfl | exact nf (by assumption) | exact nt (by assumption) | decide | (simp_all; done) | fail) only[if_pos,if_neg]; first | done | rfl))
 ·replace hh:=hh rfl
  replace he:=he rfl
  have hdef:x.end_=x.f+x.es.length-1:=rfl
  have hl:=Qep x.es ⟨x.end_+1,kind,tx,ptx,ppg,ref,c,blob⟩
  dsimp only at hl
  have hb:(x.es.length+1)*128<=140737488355328:=by omega
  generalize (⟨x.end_+1,kind,tx,ptx,ppg,ref,c,blob⟩:E).okB=ok at *
  generalize x.end_=en at *
  (unfold Tryz.f9; refine rn trivial ?_)
  have F:=(Ja @hb @hl)
  refine rn F ?_
  repeat' (first
   | with_reducible exact⟨⟩
   | (refine sG F ?_ ?_<;>intro hZ)
   | (refine sB F ?_ ?_<;>intro hZ)
   | refine vp F (c1) ?_
   | refine vp F (c2 (by omega) (by omega)) ?_
   | refine vp F (c3) ?_
   | (refine Qb (id:=8) [0,1,3] [⟨[4],[],2,[0,3],[]⟩,⟨[4],[4],5,[0,1,3],[6]⟩,⟨[],[],7,[],[]⟩] (by kernel_rfl) (by kernel_rfl) ?_; refine rn F ?_)
   | (refine Qb (id:=9) [0,1,2] [⟨[],[],3,[1,2],[]⟩,⟨[],[],4,[],[]⟩,⟨[],[],5,[],[]⟩] (by kernel_rfl) (by kernel_rfl) ?_; refine rn F ?_))
  all_goals first | (first | (rw[e0]; simp(disch:=first | assumption | omega | exact rfl | exact nf (by assumption) | exact nt (by assumption) | decide | fail) only[if_pos,if_neg]; first | done | rfl) | (rw[e0]; simp(disch:=first | assumption | omega | exact rfl | exact nf (by assumption) | exact nt (by assumption) | decide | (simp_all; done) | fail) only[if_pos,if_neg]; first | done | rfl)) | skip
def QjQ(x:Lg)(hx:x.es.length<=9223372036854775807)(n:Int):VCalls prog 32 [.agg x.c,.int .i64 n] [] (Ret (lgD (Qaa x n))):=by
 refine dk Tryz.func32 ?_
 have c1:=Qaj x hx
 have c2:=Qg0 x
 have hh:=@Qat x
 simp only[Lg.hd] at hh
 have e0:Qaa x n=if lgB x=false then (Lg0,26) else if x.end_<n then (Lg0,14) else (⟨x.f,x.es,if n > x.d then n else x.d⟩,0):=rfl
 unfold lgD
 generalize Qaa x n=r at *
 generalize lgB x=b at *
 cases b
 ·(unfold Tryz.f32; refine rn trivial ?_; try with_reducible exact ⟨⟩)
  refine rn F ?_
  repeat' (first
   | with_reducible exact⟨⟩
   | refine vp F (c1) ?_)
  all_goals (first | (rw[e0]; simp(disch:=first | assumption | omega | exact rfl | exact nf (by assumption) | exact nt (by assumption) | decide | fail) only[if_pos,if_neg]; first | done | rfl) | (rw[e0]; simp(disch:=first | assumption | omega | exact rfl | exact nf (by assumption) | exact nt (by assumption) | decide | (simp_all; done) | fail) only[if_pos,if_neg]; first | done | rfl))
 ·replace hh:=hh rfl
  (unfold Tryz.f32; refine rn trivial ?_)
  refine rn F ?_
  repeat' (first
   | with_reducible exact⟨⟩
   | (refine sB F ?_ ?_<;>intro hZ)
   | refine vp F (c1) ?_
   | refine vp F (c2 (by omega) (by omega)) ?_)
  all_goals first | (first | (rw[e0]; simp(disch:=first | assumption | omega | exact rfl | exact nf (by assumption) | exact nt (by assumption) | decide | fail) only[if_pos,if_neg]; first | done | rfl) | (rw[e0]; simp(disch:=first | assumption | omega | exact rfl | exact nf (by assumption) | exact nt (by assumption) | decide | (simp_all; done) | fail) only[if_pos,if_neg]; first | done | rfl)) | skip
def QbA(x:Lg)(n:Int):E×Int:=if lgB x=false then (E0,26) else if n<x.f\/x.end_<n then (E0,14) else (x.es.getD (n-x.f).toNat E0,0)
def QiM(x:Lg)(hx:x.es.length<=9223372036854775807)(n:Int):VCalls prog 191 [.agg x.c,.int .i64 n] [] (Ret (.tup [.agg (QbA x n).1.d,.int .i64 (QbA x n).2])):=by
 refine dk Tryz.func191 ?_
 have c1:=Qaj x hx
 have c2:=Qg0 x
 have hh:=@Qat x
 simp only[Lg.hd] at hh
 have e0:QbA x n=if lgB x=false then (E0,26) else if n<x.f\/x.end_<n then (E0,14) else (x.es.getD (n-x.f).toNat E0,0):=rfl
 generalize QbA x n=r at *
 generalize lgB x=b at *
 cases b
 ·(unfold Tryz.f191; refine rn trivial ?_; try with_reducible exact ⟨⟩)
  refine rn F ?_
  repeat' (first
   | with_reducible exact⟨⟩
   | refine vp F (c1) ?_)
  all_goals (first | (rw[e0]; simp(disch:=first | assumption | omega | exact rfl | exact nf (by assumption) | exact nt (by assumption) | decide | fail) only[if_pos,if_neg]; first | done | rfl) | (rw[e0]; simp(disch:=first | assumption | omega | exact rfl | exact nf (by assumption) | exact nt (by assumption) | decide | (simp_all; done) | fail) only[if_pos,if_neg]; first | done | rfl))
 ·replace hh:=hh rfl
  have hdef:x.end_=x.f+x.es.length-1:=rfl
  generalize x.end_=en at *
  have hg:=fun h:(n-x.f).toNat<x.es.length=>Qkm x.es (n-x.f).toNat h
  (unfold Tryz.f191; refine rn trivial ?_)
  have F:=@hg
  refine rn F ?_
  repeat' (first
   | with_reducible exact⟨⟩
   | (refine sG F ?_ ?_<;>intro hZ)
   | (refine sB F ?_ ?_<;>intro hZ)
   | refine vp F (c1) ?_
   | refine vp F (c2 (by omega) (by omega)) ?_)
  all_goals first | (first | (rw[e0]; simp(disch:=first | assumption | omega | exact rfl | exact nf (by assumption) | exact nt (by assumption) | decide | fail) only[if_pos,if_neg]; first | done | rfl) | (rw[e0]; simp(disch:=first | assumption | omega | exact rfl | exact nf (by assumption) | exact nt (by assumption) | decide | (simp_all; done) | fail) only[if_pos,if_neg]; first | done | rfl)) | skip
def Qqy(n:Int):Bool:=decide (0<=n)&&decide (n<=1099511627776)
def Qs9(n:Int):VCalls prog 248 [.int .i64 n] [] (Ret (.bool (Qqy n))):=by
 refine dd Tryz.func248 ?_
 (unfold Tryz.f248; refine rn trivial ?_)
 refine rn F ?_
 repeat' (first
  | with_reducible exact⟨⟩
  | (refine sG F ?_ ?_<;>intro hZ))
 all_goals (first | rfl | (congr 3; rw[JU]; (try simp only[Qqy,decide_eq_true_eq,Jf,JV,JO,JL,decide_eq_false_iff_not,beq_iff_eq,bne_iff_ne,ne_eq,JM,JN,iff_true,true_iff,iff_false,false_iff]); first | done | omega | grind))
def QBG(l:List Rw)(i:Nat):Bool:=Qqy (l.getD i Rw0).lsn&&Qqy (l.getD i Rw0).im&&Qqy (l.getD i Rw0).at_&&!(decide ((l.getD i Rw0).im=0)&&!decide ((l.getD i Rw0).at_=0))
def ixB(l:List Rw):Bool:=decide (1<=l.length)&&decide (l.length<=64)&&(Ji l.length).all (QBG l)
def Quq(h:ixB l=true):1<=l.length/\l.length<=64:=by
 unfold ixB at h; simp only[Jf,decide_eq_true_eq] at h; exact h.1
def QbK(l:List Rw)(hl:l.length<=1000000):VCalls prog 200 [.agg [.pv (.sl (fz Qcl l))]] [] (Ret (.bool (ixB l))):=by
 refine dd Tryz.func200 ?_
 have hB:ixB l=(decide (1<=l.length)&&decide (l.length<=64)&&(Ji l.length).all (QBG l)):=rfl
 have hB':1<=l.length->l.length<=64->ixB l=(Ji l.length).all (QBG l):=fun h h2=>by rw[hB,decide_eq_true h,decide_eq_true h2,JA,JA]
 have no:¬ (1<=l.length/\l.length<=64)->ixB l=false:=fun h=>by
  rw[hB]
  by_cases h1:1<=l.length
  ·rw[decide_eq_false (show ¬ l.length<=64 from fun h2=>h ⟨h1,h2⟩)]; simp
  ·rw[decide_eq_false h1]; rfl
 generalize ixB l=b at *
 (unfold Tryz.f200; refine rn trivial ?_)
 refine rn F ?_
 repeat' (first
  | with_reducible exact⟨⟩
  | (refine sG F ?_ ?_<;>intro hZ)
  | (refine sB F ?_ ?_<;>intro hZ))
 all_goals first | (rw[no (by omega)]) | skip
 refine Qj (fun s:Okay l.length (QBG l)=>⟨53,0,[(3,.int .i64 s.i),(1,.ptr 0 0)],[⟨59,true,[.pv (.sl (fz Qcl l))]⟩]⟩) (fun s=>l.length-s.i) (Okay.start _ _) (gc [0]) ?_
 intro s
 have hsi:=s.hi
 have hg:=fun h:s.i<l.length=>Qmj l s.i h
 have e:QBG l s.i=(Qqy (l.getD s.i Rw0).lsn&&Qqy (l.getD s.i Rw0).im&&Qqy (l.getD s.i Rw0).at_&&!(decide ((l.getD s.i Rw0).im=0)&&!decide ((l.getD s.i Rw0).at_=0))):=rfl
 have c1:=Qs9 (l.getD s.i Rw0).lsn
 have c2:=Qs9 (l.getD s.i Rw0).im
 have c3:=Qs9 (l.getD s.i Rw0).at_
 generalize Qqy (l.getD s.i Rw0).lsn=b1 at *
 generalize Qqy (l.getD s.i Rw0).im=b2 at *
 generalize Qqy (l.getD s.i Rw0).at_=b3 at *
 have F:=@hg
 refine rn F ?_
 repeat' (first
  | with_reducible exact⟨⟩
  | (refine sG F ?_ ?_<;>intro hZ)
  | (refine sB F ?_ ?_<;>intro hZ)
  | refine vp F (c1) ?_
  | refine vp F (c2) ?_
  | refine vp F (c3) ?_)
 all_goals first
  | (exact congrArg DV.bool (s.no (by omega) (hB' (by omega) (by omega)) (by rw[e]; simp_all)).symm)
  | (exact congrArg DV.bool (s.yes (by omega) (hB' (by omega) (by omega))).symm)
  | (exact⟨s.next (by omega) (by rw[e]; simp_all),s.dec (by omega),(gc [0])⟩)
  | skip
def QBm(l:List Rw)(i:Nat)(r:Rw)(hi:i<l.length):(cells Qcl l).take (i*3)++[.pv (.lit (.int .i64 r.lsn)),.pv (.lit (.int .i64 r.im)),.pv (.lit (.int .i64 r.at_))]++(cells Qcl l).drop (i*3+3)=cells Qcl (l.set i r):=QiF Qcl l i r hi
def QxF(l:List Rw)(hl:l.length<=1000000)(i:Nat)(hi:i<l.length)(r:Rw):VCalls prog 236 [.agg [.pv (.sl (fz Qcl l))],.int .i64 i,.agg r.d] [] (Ret (.agg [.pv (.sl (fz Qcl (l.set i r)))])):=by
 refine dd Tryz.func236 ?_
 have hb:i*3+3<=l.length*3:=by omega
 have hse:=QBm l i r hi
 have hle:(l.set i r).length=l.length:=Jo
 (unfold Tryz.f236; refine rn trivial ?_)
 have F:=(Ja @hb (Ja @hse @hle))
 (refine rn F ?_; try with_reducible exact⟨⟩)
def QeK{e:E}(h:e.okB=true)(hk:e.kind=1\/e.kind=2\/e.kind=7):0<=e.c.pg/\e.c.pg<64:=by
 unfold E.okB at h
 simp only[Jf] at h
 have h2:=h.2
 unfold E.kindB Ch.okB Ch.ix at h2
 rcases hk with hk | hk | hk<;>rw[hk] at h2<;>simp at h2<;>omega
def Qbz(l:List Rw)(e:E):List Rw×Int:=
 if ixB l=false then ([],28) else if e.okB=false then ([],12) else if e.kind≠7 then (l,0) else if (l.length:Int)<=e.c.pg then ([],1)
 else (l.set e.c.pg.toNat ⟨if e.ref > (l.getD e.c.pg.toNat Rw0).lsn then e.ref else (l.getD e.c.pg.toNat Rw0).lsn,(l.getD e.c.pg.toNat Rw0).im,(l.getD e.c.pg.toNat Rw0).at_⟩,0)
def Qlx(l:List Rw)(hl:l.length<=1000000)(e:E):VCalls prog 193 [.agg [.pv (.sl (fz Qcl l))],.agg e.d] [] (Ret (.tup [.agg [.pv (.sl (fz Qcl (Qbz l e).1))],.int .i64 (Qbz l e).2])):=by
 refine dk Tryz.func193 ?_
 have c1:=QbK l hl
 have c2:=QcJ e
 have c3:=fun i hi=>QxF l hl i hi
 have hp:=@QeK e
 have hp1:=hp
 have e0:Qbz l e=if ixB l=false then ([],28) else if e.okB=false then ([],12) else if e.kind≠7 then (l,0) else if (l.length:Int)<=e.c.pg then ([],1)
  else (l.set e.c.pg.toNat ⟨if e.ref > (l.getD e.c.pg.toNat Rw0).lsn then e.ref else (l.getD e.c.pg.toNat Rw0).lsn,(l.getD e.c.pg.toNat Rw0).im,(l.getD e.c.pg.toNat Rw0).at_⟩,0):=rfl
 generalize Qbz l e=r at *
 generalize ixB l=b at *
 cases hok:e.okB
 ·rw [hok] at c2 e0
  (unfold Tryz.f193; refine rn trivial ?_)
  refine rn F ?_
  repeat' (first
   | with_reducible exact⟨⟩
   | (refine sB F ?_ ?_<;>intro hZ)
   | refine vp F (c1) ?_
   | refine vp F (c2) ?_)
  all_goals first | (first | (rw[e0]; simp(disch:=first | assumption | omega | exact rfl | exact nf (by assumption) | exact nt (by assumption) | decide | fail) only[if_pos,if_neg]; first | done | rfl) | (rw[e0]; simp(disch:=first | assumption | omega | exact rfl | exact nf (by assumption) | exact nt (by assumption) | decide | (simp_all; done) | fail) only[if_pos,if_neg]; first | done | rfl)) | skip
 rw[hok] at c2 e0
 by_cases hk:e.kind=7
 ·obtain ⟨i,hi⟩:∃ i:Nat,e.c.pg = i:=⟨e.c.pg.toNat,by have:=hp hok (.inr (.inr hk)); omega⟩
  rw[hi,Jk] at e0
  have hg:=fun h:i<l.length=>Qmj l i h
  generalize l.getD i Rw0=w at *
  (unfold Tryz.f193; refine rn trivial ?_)
  have F:=(Ja @hi (Ja @hg @hk))
  refine rn F ?_
  repeat' (first
   | with_reducible exact⟨⟩
   | (refine sB F ?_ ?_<;>intro hZ)
   | refine vp F (c1) ?_
   | refine vl F (c2) ?_
   | refine vp F (c3 i (by omega) ⟨_,_,_⟩) ?_)
  all_goals first | (first | (rw[e0]; simp(disch:=first | assumption | omega | exact rfl | exact nf (by assumption) | exact nt (by assumption) | decide | fail) only[if_pos,if_neg]; first | done | rfl) | (rw[e0]; simp(disch:=first | assumption | omega | exact rfl | exact nf (by assumption) | exact nt (by assumption) | decide | (simp_all; done) | fail) only[if_pos,if_neg]; first | done | rfl)) | skip
 ·(unfold Tryz.f193; refine rn trivial ?_; try with_reducible exact ⟨⟩)
  have F:=@hk
  refine rn F ?_
  repeat' (first
   | with_reducible exact⟨⟩
   | (refine sB F ?_ ?_<;>intro hZ)
   | refine vp F (c1) ?_
   | refine vp F (c2) ?_)
  all_goals first | (first | (rw[e0]; simp(disch:=first | assumption | omega | exact rfl | exact nf (by assumption) | exact nt (by assumption) | decide | fail) only[if_pos,if_neg]; first | done | rfl) | (rw[e0]; simp(disch:=first | assumption | omega | exact rfl | exact nf (by assumption) | exact nt (by assumption) | decide | (simp_all; done) | fail) only[if_pos,if_neg]; first | done | rfl)) | skip
def Tx.ss(t:Tx):Prop:=t.l.length<=100000/\t.s.length<=100000
def Tx.ss.sm{t:Tx}(h:t.ss):t.sm:=⟨Jc h.1 (by decide),Jc h.2 (by decide)⟩
def smN(n:Nat)(l:List Tx):Prop:=l.length<=n/\∀ t∈l,t.ss
def smN.smL{n:Nat}{l:List Tx}(h:smN n l)(hn:n<=1000000):smL l:=⟨Jc h.1 hn,fun t ht=>(h.2 t ht).sm⟩
def smN.mono(h:smN n l)(hn:n<=m):smN m l:=⟨Jc h.1 hn,h.2⟩
def Q6(n:Nat):smN n []:=⟨Jh _,fun t h=>by simp at h⟩
def Qgi(h:QaF l=true):smN 64 l:=⟨QdC h,fun t ht=>by
 obtain⟨i,hi,rfl⟩:=List.getElem_of_mem ht
 have:=Qdf (QaE h hi)
 exact⟨by omega,by omega⟩⟩
def smN.set(h:smN n l)(i:Nat)(ht:t.ss):smN n (l.set i t):=
 ⟨by rw [Jo]; exact h.1,fun x hx=>by
  rcases List.mem_or_eq_of_mem_set hx with hx | rfl
  ·exact h.2 x hx
  ·exact ht⟩
def smN.rem(h:smN n l)(a:Int):smN n (QhR l a):=
 ⟨Jc (Qtp l a) h.1,fun x hx=>h.2 x ((List.mem_filter.1 hx).1)⟩
def QmC(a:Int):smN 65 (QN l a).1:=by
 unfold QN
 split
 ·exact Q6 _
 ·rename_i h1
  have hv:QaF l=true:=by simpa using h1
  have hs:=Qgi hv
  split
  ·exact Q6 _
  split
  ·exact Q6 _
  split
  ·exact Q6 _
  refine⟨?_,fun x hx=>?_⟩
  ·have:=hs.1; unfold Qpe; simp only[Jb,Jl,Je,Js]; omega
  ·unfold Qpe at hx
   rcases List.mem_append.1 hx with h | h
   ·exact hs.2 x (List.mem_of_mem_take h)
   rcases List.mem_cons.1 h with rfl | h
   ·exact⟨Jh _,Jh _⟩
   ·exact hs.2 x (List.mem_of_mem_drop h)
def Qv7(h:(Qn l a).2=0):smN 64 l/\(Qn l a).1.l.length<=4096/\(Qn l a).1.s.length<=8:=by
 obtain⟨hv,i,hi,_,_,h3⟩:=Qa1 h
 rw[h3]
 exact⟨Qgi hv,Qdf (QaE hv hi)⟩
def Qxg(a:Int):smN 65 (Qfk l a).1:=by
 unfold Qfk
 split
 ·exact Q6 _
 rename_i h
 obtain⟨h1,h2,h3⟩:=Qv7 (l:=l) (a:=a) (by simpa using h)
 split
 ·exact Q6 _
 ·exact(h1.set _ ⟨by dsimp only; omega,by dsimp only; simp; omega⟩).mono (by omega)
def Qzu(a sv:Int):smN 65 (QfF l a sv).1:=by
 unfold QfF
 split
 ·exact Q6 _
 rename_i h
 obtain⟨h1,h2,h3⟩:=Qv7 (l:=l) (a:=a) (by simpa using h)
 have h4:∀ k,((Qn l a).1.s.take k).length<=100000:=fun k=>by rw[Jl]; omega
 split
 ·exact Q6 _
 split
 ·exact(h1.set _ ⟨by dsimp only; omega,h4 _⟩).mono (by omega)
 ·exact(h1.set _ ⟨by dsimp only; omega,h4 _⟩).mono (by omega)
def Qp8(h:t.ss):(QF t).ss:=by unfold QF; split<;>exact h
def Qj8(e:E):smN 65 (QJ l e).1:=by
 unfold QJ
 split
 ·exact Q6 _
 rename_i h1
 have hv:QaF l=true:=by simpa using h1
 have hs:=Qgi hv
 split
 ·exact Q6 _
 split
 ·exact hs.mono (by omega)
 split
 ·exact Q6 _
 rename_i h4
 rcases Qy l e.tx with h | ⟨i,hi,h,hid⟩
 ·omega
 rw[h,Jk,Qc l i hi]
 have hlen:=Qdf (QaE hv hi)
 unfold Qhl
 split
 ·exact Q6 _
 split
 ·exact(hs.rem _).mono (by omega)
 ·refine (hs.set _ (Qp8 ?_)).mono (by omega)
  unfold QaU
  have hfl:(l[i].l.filter fun x=>decide (x≠e.ref)).length<=l[i].l.length:=JH _ _
  split
  ·exact⟨by dsimp only; simp; omega,by dsimp only; omega⟩
  split
  ·exact⟨by dsimp only; omega,by dsimp only; omega⟩
  ·exact⟨by dsimp only; omega,by simp⟩
attribute [go_sem] Tx.d
structure Kn where
 pg:Int
 nx:Int
 lg:Lg
 pl:Pl
 lk:Lk
 tx:List Tx
 ix:List Rw
 la:List Dt
@[go_sem] def Kn.d(k:Kn):List DV:=[.int .i64 k.pg,.int .i64 k.nx,.int .i64 k.lg.f,.pv (.sl (fz QaR k.lg.es)),.int .i64 k.lg.d,.int .i64 k.pl.size,.pv (.sl (fz QcH k.pl.fs)),.int .i64 k.pl.hand,.pv (.sl (fz Qau k.lk.held)),.pv (.sl (fz Qau k.lk.wait)),.pv (.sl (fz Qu k.tx)),.pv (.sl (fz Qcl k.ix)),.pv (.sl (fz QcZ k.la))]
def Kn0:Kn:=⟨0,0,Lg0,Pl0,Lk0,[],[],[]⟩
def Kn.sm(k:Kn):Prop:=k.lg.es.length<=4096/\k.pl.fs.length<=64/\k.lk.sum<=1024/\smN 65 k.tx/\k.ix.length<=64/\k.la.length<=10000
def Qb1:Kn0.sm:=⟨by decide,by decide,by decide,Q6 _,by decide,by decide⟩
def VK(k:Kn):Prop:=(1<=k.pg/\k.pg<=64)/\(1<=k.nx/\k.nx<=1073741825)/\lgB k.lg=true/\plB k.pl=true/\QaF k.tx=true/\ixB k.ix=true/\k.ix.length=k.pg
def boD(b:Bool):DV:=.bool b
attribute [go_sem] boD QHu lgD Qou QHD QHH
def laC(l:List Dt)(n:Int)(i:Nat):Bool:=decide (0<=(l.getD i Dt0).pg)&&(decide ((l.getD i Dt0).pg<n)&&(decide (1<=(l.getD i Dt0).rc)&&(decide ((l.getD i Dt0).rc<=(l.getD i Dt0).last)&&(decide ((l.getD i Dt0).last<=1099511627776)&&(decide (i=0)||decide ((l.getD (i-1) Dt0).pg<(l.getD i Dt0).pg))))))
def QnO(l:List Dt)(n:Int)(i:Nat):laC l n i=true ↔ 0<=(l.getD i Dt0).pg/\(l.getD i Dt0).pg<n/\1<=(l.getD i Dt0).rc/\(l.getD i Dt0).rc<=(l.getD i Dt0).last/\(l.getD i Dt0).last<=1099511627776/\(i=0\/(l.getD (i-1) Dt0).pg<(l.getD i Dt0).pg):=by
 unfold laC; simp
def laB(l:List Dt)(n:Int):Bool:=(Ji l.length).all (laC l n)
def Qlu(l:List Dt)(hl:l.length<=1000000)(n:Int):VCalls prog 201 [.pv (.sl (fz QcZ l)),.int .i64 n] [] (QL boD fun b=>b=laB l n):=by
 refine dd Tryz.func201 ?_
 have kn:∀ i,i<l.length->laC l n i=false->laB l n=false:=fun i hi h=>Qai hi h
 (unfold Tryz.f201; refine rn trivial ?_)
 refine Qj (fun s:Okay l.length (laC l n)=>⟨58,0,[(5,.int .i64 s.i),(1,.int .i64 n),(0,.pv (.sl (fz QcZ l)))],[]⟩) (fun s=>l.length-s.i) (Okay.start _ _) (gc []) ?_
 intro s
 have hi:=s.hi
 have hx:=QnO l n s.i
 by_cases hc:s.i<l.length
 ·have hc':((s.i:Nat):Int) < l.length:=by omega
  have hg:=QeU l s.i hc
  have hgp:=fun h:s.i-1<l.length=>QeU l (s.i-1) h
  have kf:=kn s.i hc
  have nx:=fun h:laC l n s.i=true=>(⟨s.next hc h,s.dec hc⟩:∃ t:Okay l.length (laC l n),l.length-t.i<l.length-s.i)
  have F:=(Ja @hc' (Ja @hg @hgp))
  refine rn F ?_
  repeat' (first
   | with_reducible exact⟨⟩
   | (refine sG F ?_ ?_<;>intro hZ)
   | (refine sB F ?_ ?_<;>intro hZ)
   | (refine Qb (id:=5) [0,1,2,3,4,5,6,7,8,9,10,11,12,13,14,15,16,17,18,19,20,21,22,23,24,25,26,27,28,29,30,31,32,33,34,35,36,37,38,39,40] [] (by kernel_rfl) (by kernel_rfl) ?_; refine rn F ?_))
  all_goals first
   | exact⟨rfl,rfl,false,rfl,(kf (by rw[<- Bool.not_eq_true,hx]; omega)).symm⟩
   | exact⟨s.next hc (hx.2 (by omega)),s.dec hc,(gc [])⟩
   | skip
 ·have hc':¬ ((s.i:Nat):Int) < l.length:=by omega
  have F:=@hc'
  refine rn F ?_
  exact⟨rfl,rfl,true,rfl,(s.all hc).symm⟩
@[go_sem] def laD(a:Dt×Bool):DV:=.tup [.agg a.1.d,.bool a.2]
def QyX{α:Type}(l:List α)(p:α->Bool)(d:α)(i:Nat)(h:i<l.length)(hp:p (l.getD i d)=true)(hn:∀ j,j<i->p (l.getD j d)=false):l.find? p=some (l.getD i d):=by
 rw[List.find?_eq_some_iff_getElem]
 refine⟨hp,i,h,(Qc l i h d).symm,fun j hj=>?_⟩
 have:=hn j hj
 rw[Qc l j (by omega) d] at this
 simp[this]
def QC3{α:Type}(l:List α)(p:α->Bool)(d:α)(hn:∀ j,j<l.length->p (l.getD j d)=false):l.find? p=none:=by
 rw[List.find?_eq_none]
 intro x hx
 obtain⟨j,hj,rfl⟩:=List.mem_iff_getElem.1 hx
 have:=hn j hj
 rw[Qc l j hj d] at this
 simp[this]
def QaN(l:List Dt)(n:Int):Dt×Bool:=match l.find? fun d=>decide (d.pg=n) with
 | some d=>(d,true)
 | none=>(Dt0,false)
def Qgj(k:Kn)(hl:k.la.length<=1000000)(n:Int):VCalls prog 155 [.agg k.d,.int .i64 n] [] (QL laD fun a=>a=QaN k.la n):=by
 refine dd Tryz.func155 ?_
 (unfold Tryz.f155; refine rn trivial ?_)
 refine Qj (fun s:Okay k.la.length (fun j=>!decide ((k.la.getD j Dt0).pg=n))=>⟨28,0,[(6,.int .i64 s.i),(4,.ptr 1 0),(2,.ptr 0 0),(1,.int .i64 n)],[⟨62,true,k.d⟩,⟨219,true,[.int .i64 0,.int .i64 0,.int .i64 0]⟩]⟩) (fun s=>k.la.length-s.i) (Okay.start _ _) (gc [0,1]) ?_
 intro s
 have hi:=s.hi
 have hno:∀ j,j<s.i->decide ((k.la.getD j Dt0).pg=n)=false:=fun j hj=>by have:=s.ok j hj; simpa using this
 by_cases hc:s.i<k.la.length
 ·have hc':((s.i:Nat):Int) < k.la.length:=by omega
  have hg:=QeU k.la s.i hc
  by_cases hp:(k.la.getD s.i Dt0).pg=n
  ·have hf:QaN k.la n = (k.la.getD s.i Dt0,true):=by unfold QaN; rw [QyX k.la _ Dt0 s.i hc (decide_eq_true hp) hno]
   have hnx:=s.next hc
   generalize k.la.getD s.i Dt0=d at *
   have F:=(Ja @hc' (Ja @hg @hp))
   (refine rn F ?_; try with_reducible exact⟨⟩)
   all_goals exact⟨rfl,rfl,(d,true),by simp[laD,Dt.d,hp],hf.symm⟩
  ·have hnx:=s.next hc (by rw [decide_eq_false hp]; rfl)
   have hs2:(s.next hc (by rw[decide_eq_false hp]; rfl)).i=s.i+1:=rfl
   have hd:=s.dec hc
   have F:=(Ja @hc' (Ja @hg @hp))
   (refine rn F ?_; try with_reducible exact⟨⟩)
   all_goals exact⟨s.next hc (by rw[decide_eq_false hp]; rfl),by first | exact s.dec hc | (rw[hs2]; omega),(gc [0,1])⟩
 ·have hc':¬ ((s.i:Nat):Int) < k.la.length:=by omega
  have hf:QaN k.la n=(Dt0,false):=by unfold QaN; rw[QC3 k.la _ Dt0 fun j hj=>hno j (by omega)]
  have F:=@hc'
  (refine rn F ?_; try with_reducible exact⟨⟩)
  all_goals exact⟨rfl,rfl,(Dt0,false),rfl,hf.symm⟩
def VP(k:Kn):Prop:=VK k/\lkB k.lk=true/\laB k.la k.pg=true
def QlM(k:Kn):Bool:=decide (1<=k.pg)&&(decide (k.pg<=64)&&(decide (1<=k.nx)&&(decide (k.nx<=1073741825)&&(lgB k.lg&&(plB k.pl&&(lkB k.lk&&(QaF k.tx&&(ixB k.ix&&(decide ((k.ix.length:Int)=k.pg)&&laB k.la k.pg)))))))))
def QtX(k:Kn):QlM k=true ↔ VP k:=by
 unfold QlM VP VK
 simp only[Jf,decide_eq_true_eq]
 constructor
 ·rintro⟨a,b,c,d,e,f,g,h,i,j,l⟩; exact⟨⟨⟨a,b⟩,⟨c,d⟩,e,f,h,i,j⟩,g,l⟩
 ·rintro⟨⟨⟨a,b⟩,⟨c,d⟩,e,f,h,i,j⟩,g,l⟩; exact⟨a,b,c,d,e,f,g,h,i,j,l⟩
def Qxz(k:Kn)(h:k.sm):VCalls prog 154 [.agg k.d] [] (QL boD fun b=>b=QlM k):=by
 refine dd Tryz.func154 ?_
 obtain⟨h1,h2,h3,h4,h5,h6⟩:=h
 have c1:=Qaj k.lg (by omega)
 have c2:=Qap k.pl (by omega)
 have c3:=QiK k.lk (by omega)
 have c4:=QbR k.tx (h4.smL (by omega))
 have c5:=QbK k.ix (by omega)
 have c6:=fun n=>Qlu k.la (by omega) n
 have e:QlM k=(decide (1<=k.pg)&&(decide (k.pg<=64)&&(decide (1<=k.nx)&&(decide (k.nx<=1073741825)&&(lgB k.lg&&(plB k.pl&&(lkB k.lk&&(QaF k.tx&&(ixB k.ix&&(decide ((k.ix.length:Int)=k.pg)&&laB k.la k.pg)))))))))):=rfl
 generalize QlM k=R at *
 generalize lgB k.lg=b1 at *
 generalize plB k.pl=b2 at *
 generalize lkB k.lk=b3 at *
 generalize QaF k.tx=b4 at *
 generalize ixB k.ix=b5 at *
 (unfold Tryz.f154; refine rn trivial ?_)
 refine rn F ?_
 repeat' (first
  | with_reducible exact⟨⟩
  | (refine sG F ?_ ?_<;>intro hZ)
  | refine vp F (c1) ?_
  | refine vp F (c2) ?_
  | refine vp F (c3) ?_
  | refine vp F (c4) ?_
  | refine vp F (c5) ?_
  | (refine Qr (c6 _) rfl ?_; rintro b6 hb6; refine rn F ?_))
 all_goals first
  | (refine⟨rfl,rfl,false,rfl,?_⟩; rw[e]; simp_all; done)
  | (refine⟨rfl,rfl,false,rfl,?_⟩; rw[e]; simp_all; omega)
  | (refine⟨rfl,rfl,_,rfl,?_⟩; rw[e]; simp_all; done)
  | (refine⟨rfl,rfl,_,rfl,?_⟩; rw[e]; simp_all; omega)
  | skip
def Qo7(h:lgB ⟨f,es,d⟩=true)(hl:es.length<4096)(he:e.lsn=f+es.length)(ho:e.okB=true):lgB ⟨f,es++[e],d⟩=true:=by
 have hd:=Qat h
 simp only[Lg.hd] at hd
 unfold lgB at h |-
 simp only[Jf,decide_eq_true_eq,Jn,Jr] at h |-
 refine⟨by simp only[Lg.hd,Jb,Je,Jd]; omega,fun i hi=>?_⟩
 simp only[Jb,Je,Jd] at hi
 rcases JE i es.length with hlt | hge
 ·have:=h.2 i hlt
  unfold lgC at this |-
  dsimp only at this |-
  rw[Jg,Jy hlt,<- Jg]
  exact this
 ·obtain rfl:i = es.length:=by omega
  unfold lgC
  dsimp only
  rw[Jg,Jp (Ju _),JR]
  simp[he,ho]
def Qoa(h:(QfG x e).2.2=0):lgB x=true/\x.es.length<4096/\({ e with lsn:=x.end_+1 }:E).okB=true/\QfG x e=(⟨x.f,x.es++[{ e with lsn:=x.end_+1 }],x.d⟩,x.end_+1,0):=by
 unfold QfG at h |-
 split at h
 ·simp at h
 rename_i h1
 have hv:lgB x=true:=by simpa using h1
 split at h
 ·simp at h
 rename_i h2
 split at h
 ·simp at h
 rename_i h3
 have hd:=Qat hv
 simp only[Lg.hd] at hd
 exact⟨hv,by omega,by simpa using h3,by rw[if_neg h1,if_neg h2,if_neg h3]⟩
def Qkz(h:(QfG x e).2.2=0):lgB (QfG x e).1=true:=by
 obtain⟨h1,h2,h3,h4⟩:=Qoa h
 rw[h4]
 exact Qo7 (f:=x.f) (d:=x.d) h1 h2 (by dsimp only; unfold Lg.end_; omega) h3
def Qpz(x:Lg)(e:E):(QfG x e).1.es.length<=4096:=by
 by_cases h:(QfG x e).2.2=0
 ·exact(Qat (Qkz h)).2.2.1
 ·unfold QfG at h |-
  split
  ·decide
  split
  ·decide
  split
  ·decide
  ·simp_all
def Qzx(h:(QfG x e).2.2=0):QbA (QfG x e).1 (QfG x e).2.1=({ e with lsn:=x.end_+1 },0):=by
 have hl:=Qkz h
 obtain⟨h1,h2,h3,h4⟩:=Qoa h
 rw[h4] at hl |-
 unfold QbA
 dsimp only at hl |-
 have hd:=Qat h1
 simp only[Lg.hd] at hd
 rw[if_neg (by rw[hl]; decide),if_neg (by unfold Lg.end_; simp only[Jb,Je,Jd]; omega)]
 have:(x.end_+1-x.f).toNat=x.es.length:=by unfold Lg.end_; omega
 rw[this,Jg,Jp (Ju _),JR]; rfl
def QlV(l:List Rw)(e:E)(h:l.length<=64):(Qbz l e).1.length<=64:=by
 unfold Qbz
 split
 ·decide
 split
 ·decide
 split
 ·exact h
 split
 ·decide
 ·simpa using h
def Qt6(l:List Tx)(e:E):smN 65 (QJ l e).1:=Qj8 e
def kT(k:Kn)(i:Nat):Bool:=decide ((k.tx.getD i Tx0).id<k.nx)
def kF(k:Kn)(i:Nat):Bool:=decide ((k.pl.fs.getD i Fm0).pg.id<k.pg)&&!(QaN k.la (k.pl.fs.getD i Fm0).pg.id).2
def kG(l:List Gr)(n:Int)(i:Nat):Bool:=decide ((l.getD i Gr0).pg<n)
def kB(k:Kn):Bool:=QlM k&&((Ji k.tx.length).all (kT k)&&((Ji k.pl.fs.length).all (kF k)&&((Ji k.lk.held.length).all (kG k.lk.held k.pg)&&(Ji k.lk.wait.length).all (kG k.lk.wait k.pg))))
structure V2(k:Kn):Prop where
 ids:∀ i,i<k.tx.length->(k.tx.getD i Tx0).id<k.nx
 frs:∀ i,i<k.pl.fs.length->(k.pl.fs.getD i Fm0).pg.id<k.pg/\(QaN k.la (k.pl.fs.getD i Fm0).pg.id).2=false
def QFb(h:kB k=true):VP k:=by
 unfold kB at h; rw[Jf] at h; exact(QtX k).1 h.1
def Qkh{k:Kn}(h:kB k=true):VK k:=(QFb h).1
def Qup(h:kB k=true):V2 k:=by
 unfold kB at h
 simp only[Jf,Jn,Jr] at h
 obtain⟨_,h1,h2,_⟩:=h
 refine⟨fun i hi=>by simpa [kT] using h1 i hi,fun i hi=>by simpa [kF] using h2 i hi⟩
def QbS(k:Kn)(h:k.sm):VCalls prog 131 [.agg k.d] [] (Ret (.bool (kB k))):=by
 refine dd Tryz.func131 ?_
 have c1:=Qxz k h
 obtain⟨h1,h2,h3,h4,h5,h6⟩:=h
 have c2:=Qgj k (by omega)
 unfold Lk.sum at h3
 have h40:=h4.1
 have k0:QlM k=false->kB k=false:=fun h=>by unfold kB; rw[h]; rfl
 have k1:∀ i,i<k.tx.length->kT k i=false->kB k=false:=fun i hi h=>by unfold kB; rw[Qai hi h]; simp
 have k2:∀ i,i<k.pl.fs.length->kF k i=false->kB k=false:=fun i hi h=>by unfold kB; rw[Qai hi h]; simp
 have k3:∀ i,i<k.lk.held.length->kG k.lk.held k.pg i=false->kB k=false:=fun i hi h=>by unfold kB; rw[Qai hi h]; simp
 have k4:∀ i,i<k.lk.wait.length->kG k.lk.wait k.pg i=false->kB k=false:=fun i hi h=>by unfold kB; rw[Qai hi h]; simp
 have k5:QlM k=true->(Ji k.tx.length).all (kT k)=true->(Ji k.pl.fs.length).all (kF k)=true->(Ji k.lk.held.length).all (kG k.lk.held k.pg)=true->(Ji k.lk.wait.length).all (kG k.lk.wait k.pg)=true->kB k=true:=fun a b c d e=>by unfold kB; rw[a,b,c,d,e]; rfl
 generalize kB k=R at *
 (unfold Tryz.f131; refine rn trivial ?_)
 refine Qr c1 rfl ?_
 rintro b hb
 cases b
 ·skip
  refine rn F ?_
  rw[k0 hb.symm]
 refine rn F ?_
 refine Qj (fun s:Okay k.tx.length (kT k)=>⟨94,0,[(3,.int .i64 s.i),(1,.ptr 0 0)],[⟨62,true,k.d⟩]⟩) (fun s=>k.tx.length-s.i) (Okay.start _ _) (gc [0]) ?_
 intro s
 have hi:=s.hi
 by_cases hc:s.i<k.tx.length
 ·have hc':((s.i:Nat):Int) < k.tx.length:=by omega
  have hg:=QdZ k.tx s.i hc
  have kn:=k1 s.i hc
  have F:=(Ja @hc' @hg)
  refine rn F ?_
  repeat' (first
   | with_reducible exact⟨⟩
   | (refine sB F ?_ ?_<;>intro hZ)
   | (refine Qb (id:=6) [0,1,2,3,4,5,6,7,8] [] (by kernel_rfl) (by kernel_rfl) ?_; refine rn F ?_))
  all_goals first
   | (rw[kn (by unfold kT; exact decide_eq_false (by omega))])
   | exact⟨s.next hc (decide_eq_true (by omega)),s.dec hc,(gc [0])⟩
 have hc':¬ ((s.i:Nat):Int)<k.tx.length:=by omega
 have k6:=k5 hb.symm (s.all hc)
 have F:=@hc'
 refine rn F ?_
 refine Qj (fun s:Okay k.pl.fs.length (kF k)=>⟨94,0,[(4,.int .i64 s.i),(1,.ptr 0 0)],[⟨62,true,k.d⟩]⟩) (fun s=>k.pl.fs.length-s.i) (Okay.start _ _) (gc [0]) ?_
 intro r
 have hr:=r.hi
 by_cases hcr:r.i<k.pl.fs.length
 ·have hcr':((r.i:Nat):Int) < k.pl.fs.length:=by omega
  have hf:=Qb9 k.pl.fs r.i hcr
  have kn:=k2 r.i hcr
  have ef:kF k r.i=(decide ((k.pl.fs.getD r.i Fm0).pg.id<k.pg)&&!(QaN k.la (k.pl.fs.getD r.i Fm0).pg.id).2):=rfl
  have F:=(Ja @hcr' @hf)
  refine rn F ?_
  repeat' (first
   | with_reducible exact⟨⟩
   | (refine sB F ?_ ?_<;>intro hZ))
  all_goals first
   | (rw[kn (by rw[ef,decide_eq_false (by omega)]; rfl)])
   | skip
  refine Qr (c2 _) rfl ?_
  rintro⟨a,b2⟩ hb2
  have hl2:(QaN k.la (k.pl.fs.getD r.i Fm0).pg.id).2=b2:=by rw[<- hb2]
  cases b2
  ·skip
   have F:=trivial
   refine rn F ?_
   exact⟨r.next hcr (by rw[ef,decide_eq_true (by omega),hl2]; rfl),r.dec hcr,(gc [0])⟩
  ·skip
   have F:=trivial
   refine rn F ?_
   rw[kn (by rw[ef,hl2]; simp)]
 have hcr':¬ ((r.i:Nat):Int)<k.pl.fs.length:=by omega
 have k7:=k6 (r.all hcr)
 have F:=@hcr'
 refine rn F ?_
 refine Qj (fun s:Okay k.lk.held.length (kG k.lk.held k.pg)=>⟨94,0,[(8,.int .i64 s.i),(1,.ptr 0 0)],[⟨62,true,k.d⟩]⟩) (fun s=>k.lk.held.length-s.i) (Okay.start _ _) (gc [0]) ?_
 intro u
 have hu:=u.hi
 by_cases hcu:u.i<k.lk.held.length
 ·have hcu':((u.i:Nat):Int) < k.lk.held.length:=by omega
  have hx:=QaD k.lk.held u.i hcu
  have kn:=k3 u.i hcu
  have F:=(Ja @hcu' @hx)
  refine rn F ?_
  repeat' (first
   | with_reducible exact⟨⟩
   | (refine sB F ?_ ?_<;>intro hZ)
   | (refine Qb (id:=20) [0,1,2,3,4,5,6,7,8,9,10] [] (by kernel_rfl) (by kernel_rfl) ?_; refine rn F ?_))
  all_goals first
   | (rw[kn (by unfold kG; exact decide_eq_false (by omega))])
   | exact⟨u.next hcu (decide_eq_true (by omega)),u.dec hcu,(gc [0])⟩
 have hcu':¬ ((u.i:Nat):Int)<k.lk.held.length:=by omega
 have k8:=k7 (u.all hcu)
 have F:=@hcu'
 refine rn F ?_
 refine Qj (fun s:Okay k.lk.wait.length (kG k.lk.wait k.pg)=>⟨94,0,[(9,.int .i64 s.i),(1,.ptr 0 0)],[⟨62,true,k.d⟩]⟩) (fun s=>k.lk.wait.length-s.i) (Okay.start _ _) (gc [0]) ?_
 intro w
 have hw:=w.hi
 by_cases hcw:w.i<k.lk.wait.length
 ·have hcw':((w.i:Nat):Int) < k.lk.wait.length:=by omega
  have hx:=QaD k.lk.wait w.i hcw
  have kn:=k4 w.i hcw
  have F:=(Ja @hcw' @hx)
  refine rn F ?_
  repeat' (first
   | with_reducible exact⟨⟩
   | (refine sB F ?_ ?_<;>intro hZ)
   | (refine Qb (id:=25) [0,1,2,3,4,5,6,7,8,9,10] [] (by kernel_rfl) (by kernel_rfl) ?_; refine rn F ?_))
  all_goals first
   | (rw[kn (by unfold kG; exact decide_eq_false (by omega))])
   | exact⟨w.next hcw (decide_eq_true (by omega)),w.dec hcw,(gc [0])⟩
 have hcw':¬ ((w.i:Nat):Int)<k.lk.wait.length:=by omega
 have F:=@hcw'
 refine rn F ?_
 rw[k8 (w.all hcw)]
def Qa7(k:Kn)(h:k.sm):VCalls prog 131 [.agg k.d] [] (QL boD fun b=>b=true->VK k):=
 (QbS k h).toS (kB k) rfl Qkh
@[go_sem] def inD(n:Int):DV:=.int .i64 n
def QyH(k:Kn)(n:Int):Int:=if 0<=idF k.pl.fs n then (k.pl.fs.getD (idF k.pl.fs n).toNat Fm0).pg.lsn else if (QaN k.la n).2=true then (QaN k.la n).1.last else (k.ix.getD n.toNat Rw0).lsn
def Qfr(k:Kn)(n:Int):Int:=if kB k=true/\0<=n/\n<k.pg then QyH k n else 0
def Qns(k:Kn)(h:k.sm)(n:Int):VCalls prog 158 [.agg k.d,.int .i64 n] [] (QL inD fun a=>a=Qfr k n):=by
 refine dd Tryz.func158 ?_
 have c1:=QbS k h
 have hvk:=@Qkh k
 have e0:∀ h:¬ (kB k=true/\0<=n/\n<k.pg),Qfr k n=0:=fun h=>if_neg h
 have e1:∀ h:kB k=true/\0<=n/\n<k.pg,Qfr k n=QyH k n:=fun h=>if_pos h
 generalize Qfr k n=R at *
 generalize kB k=v at *
 obtain⟨h1,h2,h3,h4,h5,h6⟩:=h
 have c2:=Qgj k (by omega) n
 have c3:=QgZ k.pl (by omega) n
 (unfold Tryz.f158; refine rn trivial ?_)
 cases v
 ·skip
  refine rn F ?_
  repeat' (first
   | with_reducible exact⟨⟩
   | refine vp F (c1) ?_)
  all_goals exact⟨rfl,rfl,_,rfl,(e0 (by simp)).symm⟩
 obtain⟨v1,v2,v3,v4,v5,v6,v7⟩:=hvk rfl
 by_cases hn:0<=n/\n<k.pg
 rotate_left
 ·skip
  refine rn F ?_
  repeat' (first
   | with_reducible exact⟨⟩
   | (refine sG F ?_ ?_<;>intro hZ)
   | refine vp F (c1) ?_)
  all_goals first
   | exact⟨rfl,rfl,_,rfl,(e0 (fun h=>hn h.2)).symm⟩
   | (exfalso; omega)
 have hR:=e1 ⟨rfl,hn⟩
 unfold QyH at hR
 have hg:=Qmj k.ix n.toNat (by omega)
 have hfs:Qbx k.pl n=idF k.pl.fs n:=by unfold Qbx; rw[if_pos v4]
 unfold QeT at c3
 rw[hfs] at c3
 by_cases hi:0<=idF k.pl.fs n
 ·rw [if_neg (by omega)] at c3
  rw[if_pos hi] at hR
  refine rn F ?_
  repeat' (first
   | with_reducible exact⟨⟩
   | refine vp F (c1) ?_
   | refine vp F (c3) ?_)
  all_goals first
   | exact⟨rfl,rfl,_,rfl,hR.symm⟩
   | (exfalso; omega)
 rw[if_pos (by omega)] at c3
 rw[if_neg hi] at hR
 have F:=@hg
 refine rn F ?_
 repeat' (first
  | with_reducible exact⟨⟩
  | (refine sB F ?_ ?_<;>intro hZ)
  | refine vp F (c1) ?_
  | refine vp F (c3) ?_
  | (refine Qr (c2) rfl ?_; rintro⟨a,b2⟩ hl; refine rn F ?_))
 all_goals first
  | (exfalso; omega)
  | (rw[<- hl,if_pos (by first | assumption | simp_all)] at hR; exact⟨rfl,rfl,_,rfl,hR.symm⟩)
  | (rw[<- hl,if_neg (by first | assumption | simp_all)] at hR; exact⟨rfl,rfl,_,rfl,hR.symm⟩)
  | skip
def QeE(k:Kn)(h:k.sm)(n:Int):VCalls prog 142 [.agg k.d,.int .i64 n] [] (QL (fun d:Int=>.agg (Kn.d ⟨k.pg,k.nx,⟨k.lg.f,k.lg.es,d⟩,k.pl,k.lk,k.tx,k.ix,k.la⟩)) fun d=>lgB k.lg=true->lgB ⟨k.lg.f,k.lg.es,d⟩=true):=by
 refine dd Tryz.func142 ?_
 obtain⟨h1,h2,h3,h4,h5,h6⟩:=h
 have c1:=Qgk k.lg (by omega)
 have c2:=QjQ k.lg (by omega)
 have e:∀ n,(Qaa k.lg n).2=0->(Qaa k.lg n).1=⟨k.lg.f,k.lg.es,(Qaa k.lg n).1.d⟩/\lgB (Qaa k.lg n).1=true:=fun n h=>by
  unfold Qaa at h |-
  split at h
  ·simp at h
  rename_i q1
  split at h
  ·simp at h
  rename_i q2
  rw[if_neg q1,if_neg q2]
  refine⟨rfl,?_⟩
  have hv:lgB k.lg=true:=by simpa using q1
  have hd:=Qat hv
  unfold lgB at hv |-
  simp only[Jf,decide_eq_true_eq] at hv |-
  refine⟨?_,hv.2⟩
  simp only[Lg.hd,Lg.end_] at hd q2 |-
  split<;>omega
 (unfold Tryz.f142; refine rn trivial ?_)
 refine rn F ?_
 repeat' (first
  | with_reducible exact⟨⟩
  | (refine sB F ?_ ?_<;>intro hZ)
  | refine vp F (c1) ?_
  | refine vp F (c2 _) ?_
  | (refine Qb (id:=1) [0,1,2,3,4] [⟨[11],[],5,[0,1,2,3],[6]⟩,⟨[11],[],7,[0,2,3,4],[8,9,10]⟩,⟨[11],[11],12,[10],[]⟩,⟨[],[],13,[],[]⟩] (by kernel_rfl) (by kernel_rfl) ?_; refine rn F ?_))
 ·obtain ⟨e1,e2⟩:=e _ (by assumption)
  generalize Qaa k.lg _=r at *
  obtain⟨⟨f',es',d'⟩,er⟩:=r
  simp only[Lg.mk.injEq] at e1
  obtain⟨rfl,rfl,_⟩:=e1
  exact⟨rfl,rfl,d',rfl,fun _=>e2⟩
 ·exact⟨rfl,rfl,k.lg.d,rfl,fun h=>h⟩
@[go_sem] def kie(a:Kn×Int×Int):DV:=.tup [.agg a.1.d,.int .i64 a.2.1,.int .i64 a.2.2]
def QAn(k:Kn)(a:Kn×Int×Int):Prop:=a.1.sm/\(a.2.2=0->kB k=true/\(QN k.tx k.nx).2=0/\a.1=⟨k.pg,k.nx+1,k.lg,k.pl,k.lk,(QN k.tx k.nx).1,k.ix,k.la⟩)
def Qtg(k:Kn)(h:k.sm):VCalls prog 123 [.agg k.d] [] (QL kie (QAn k)):=by
 refine dk Tryz.func123 ?_
 have c1:=QbS k h
 have h':=h
 obtain⟨h1,h2,h3,h4,h5,h6⟩:=h
 have c2:=QoQ k.tx (h4.smL (by omega)) k.nx
 have hsm:=QmC (l:=k.tx) k.nx
 have e0:∀ er n,er≠0->QAn k (Kn0,n,er):=fun er n h=>⟨Qb1,fun h2=>absurd h2 h⟩
 (unfold Tryz.f123; refine rn trivial ?_)
 cases hv:kB k
 ·rw [hv] at c1
  refine rn F ?_
  repeat' (first
   | with_reducible exact⟨⟩
   | refine vp F (c1) ?_)
  all_goals exact⟨rfl,rfl,(Kn0,0,15),rfl,e0 _ _ (by decide)⟩
 rw[hv] at c1
 obtain⟨v1,v2,v3,v4,v5,v6,v7⟩:=Qkh hv
 refine rn F ?_
 repeat' (first
  | with_reducible exact⟨⟩
  | (refine sB F ?_ ?_<;>intro hZ)
  | refine vp F (c1) ?_
  | refine vp F (c2) ?_
  | (refine Qb (id:=10) [0,1,2,3] [⟨[],[],4,[1,2,3],[]⟩,⟨[],[],5,[],[]⟩,⟨[],[],6,[],[]⟩] (by kernel_rfl) (by kernel_rfl) ?_; refine rn F ?_))
 all_goals first
  | exact⟨rfl,rfl,(Kn0,0,21),rfl,e0 _ _ (by decide)⟩
  | exact⟨rfl,rfl,(Kn0,0,(QN k.tx k.nx).2),rfl,e0 _ _ (by assumption)⟩
  | exact⟨rfl,rfl,(⟨k.pg,k.nx+1,k.lg,k.pl,k.lk,(QN k.tx k.nx).1,k.ix,k.la⟩,k.nx+1-1,0),rfl,⟨h1,h2,h3,hsm,h5,h6⟩,fun _=>⟨hv,by omega,rfl⟩⟩
  | skip
def Kn.add(k:Kn)(e:E):Kn:=⟨k.pg,k.nx,⟨k.lg.f,k.lg.es++[e],k.lg.d⟩,k.pl,k.lk,(QJ k.tx e).1,(Qbz k.ix e).1,k.la⟩
def QF3(e e':E):Prop:=e'.kind=e.kind/\e'.tx=e.tx/\e'.ref=e.ref/\e'.c=e.c/\e'.blob=e.blob
def AddOk(k:Kn)(e e':E):Prop:=kB k=true/\QF3 e e'/\e'.okB=true/\e'.lsn=k.lg.end_+1/\k.lg.es.length<4096/\(QJ k.tx e').2=0/\(Qbz k.ix e').2=0/\(e.tx=0->e'.ptx=0)/\(0<e.tx->∃ i,i<k.tx.length/\idT k.tx e.tx=i/\e'.ptx=(k.tx.getD i Tx0).n)/\((e.kind=1\/e.kind=2)->e'.ppg=Qfr k e.c.pg)/\(¬ (e.kind=1\/e.kind=2)->e'.ppg=0)
def Qwj(k:Kn)(e:E)(a:Kn×Int×Int):Prop:=a.1.sm/\(a.2.2=0->∃ e',AddOk k e e'/\a.1=k.add e'/\a.2.1=e'.lsn/\lgB a.1.lg=true)
def QDG(k:Kn)(e:E)(n er:Int)(h:er≠0):Qwj k e (Kn0,n,er):=⟨Qb1,fun h2=>absurd h2 h⟩
def QkB(hs:k.sm)(hv:kB k=true)(h:(QfG k.lg e1).2.2=0)(hn:(QJ k.tx (QbA (QfG k.lg e1).1 (QfG k.lg e1).2.1).1).2=0)(hr:(Qbz k.ix (QbA (QfG k.lg e1).1 (QfG k.lg e1).2.1).1).2=0)(hse:QF3 e e1)(h0:e.tx=0->e1.ptx=0)(hi:0<e.tx->∃ i,i<k.tx.length/\idT k.tx e.tx=i/\e1.ptx=(k.tx.getD i Tx0).n)(hp1:(e.kind=1\/e.kind=2)->e1.ppg=Qfr k e.c.pg)(hp2:¬ (e.kind=1\/e.kind=2)->e1.ppg=0):
 Qwj k e (⟨k.pg,k.nx,(QfG k.lg e1).1,k.pl,k.lk,(QJ k.tx (QbA (QfG k.lg e1).1 (QfG k.lg e1).2.1).1).1,(Qbz k.ix (QbA (QfG k.lg e1).1 (QfG k.lg e1).2.1).1).1,k.la⟩,(QfG k.lg e1).2.1,0):=by
 have hg:=Qzx h
 have hl:=Qkz h
 obtain⟨q1,q2,q3,q4⟩:=Qoa h
 have hlen:=Qpz k.lg e1
 obtain⟨s1,s2,s3,s4,s5,s6⟩:=hs
 rw[hg] at hn hr |-
 rw[q4] at hl hlen |-
 exact⟨⟨hlen,s2,s3,Qt6 _ _,QlV _ _ s5,s6⟩,fun _=>⟨{ e1 with lsn:=k.lg.end_+1 },⟨hv,hse,q3,rfl,q2,hn,hr,h0,hi,hp1,hp2⟩,rfl,rfl,hl⟩⟩
def Qeg (k:Kn) (h:k.sm) (e:E):VCalls prog 150 [.agg k.d,.agg e.d] [] (QL kie (Qwj k e)):=by
 refine dk Tryz.func150 ?_
 have c1:=QbS k h
 have ch:=Qns k h e.c.pg
 have h':=h
 obtain⟨h1,h2,h3,h4,h5,h6⟩:=h
 have c2:=Qcc k.tx (Jc h4.1 (by decide)) e.tx
 have hq:=QDG k e
 obtain⟨lsn,kind,tx,ptx,ppg,ref,c,blob⟩:=e
 dsimp only at c2 ch
 have c3:=fun p=>Qcs ⟨lsn,kind,tx,p,0,ref,c,blob⟩
 have c4:=fun e=>QtE k.lg (by omega) e
 have c5:=fun e=>QiM (QfG k.lg e).1 (by have:=Qpz k.lg e; omega) (QfG k.lg e).2.1
 have c6:=fun e=>Qnq k.tx (h4.smL (by omega)) e
 have c7:=fun e=>Qlx k.ix (by omega) e
 dsimp only at c3
 obtain⟨ch0,hch0⟩:∃ b:Bool,(kind==1||kind==2)=b:=⟨_,rfl⟩
 rw[hch0] at c3
 have hk1:ch0=true->(kind=1\/kind=2):=fun h=>by rw[h] at hch0; simpa using hch0
 have hk2:ch0=false->¬ (kind=1\/kind=2):=fun h=>by rw[h] at hch0; simpa using hch0
 clear hch0
 (unfold Tryz.f150; refine rn trivial ?_)
 cases hv:kB k
 ·rw [hv] at c1
  refine rn F ?_
  repeat' (first
   | with_reducible exact⟨⟩
   | refine vp F (c1) ?_)
  all_goals exact⟨rfl,rfl,(Kn0,0,15),rfl,hq _ _ (by decide)⟩
 rw[hv] at c1
 by_cases ht:0<tx
 ·rcases Qy k.tx tx with hi | ⟨i,hi,hid,_⟩
  ·rw [hi] at c2
   have F:=@ht
   refine rn F ?_
   repeat' (first
    | with_reducible exact⟨⟩
    | refine vp F (c1) ?_
    | refine vp F (c2) ?_)
   all_goals exact⟨rfl,rfl,(Kn0,0,16),rfl,hq _ _ (by decide)⟩
  ·rw [hid] at c2
   have hg:=QdZ k.tx i hi
   cases ch0
   ·skip
    have F:=(Ja @ht @hg)
    refine rn F ?_
    repeat' (first
     | with_reducible exact⟨⟩
     | (refine sB F ?_ ?_<;>intro hZ)
     | refine vp F (c1) ?_
     | refine vp F (c2) ?_
     | refine vp F (c3 _) ?_
     | refine vp F (c4 ⟨_,_,_,_,_,_,⟨_,_,⟨_,_⟩,⟨_,_⟩⟩,_⟩) ?_
     | refine vp F (c5 _) ?_
     | refine vp F (c6 _) ?_
     | refine vp F (c7 _) ?_
     | (refine Qb (id:=21) [0,1,2,3] [⟨[],[],4,[1,2],[5]⟩,⟨[],[],6,[2],[7]⟩,⟨[],[],8,[],[]⟩] (by kernel_rfl) (by kernel_rfl) ?_; refine rn F ?_))
    all_goals first
     | exact⟨rfl,rfl,(Kn0,0,_),rfl,hq _ _ (by assumption)⟩
     | (have q:=QkB (e:=⟨lsn,kind,tx,ptx,ppg,ref,c,blob⟩) (e1:=⟨lsn,kind,tx,(k.tx.getD i Tx0).n,0,ref,c,blob⟩) h' hv (by omega) (by omega) (by omega) ⟨rfl,rfl,rfl,rfl,rfl⟩ (fun h=>by dsimp only at h; omega) (fun _=>⟨i,hi,hid,rfl⟩) (fun h=>absurd h (hk2 rfl)) (fun _=>rfl)
        exact⟨rfl,rfl,_,rfl,q⟩)
     | skip
   ·skip
    have F:=(Ja @ht @hg)
    refine rn F ?_
    repeat' (first
     | with_reducible exact⟨⟩
     | (refine sB F ?_ ?_<;>intro hZ)
     | refine vp F (c1) ?_
     | refine vp F (c2) ?_
     | refine vp F (c3 _) ?_
     | (refine Qr (ch) rfl ?_; rintro hd hhd; refine rn F ?_)
     | refine vp F (c4 ⟨_,_,_,_,_,_,⟨_,_,⟨_,_⟩,⟨_,_⟩⟩,_⟩) ?_
     | refine vp F (c5 _) ?_
     | refine vp F (c6 _) ?_
     | refine vp F (c7 _) ?_
     | (refine Qb (id:=21) [0,1,2,3] [⟨[],[],4,[1,2],[5]⟩,⟨[],[],6,[2],[7]⟩,⟨[],[],8,[],[]⟩] (by kernel_rfl) (by kernel_rfl) ?_; refine rn F ?_))
    all_goals first
     | exact⟨rfl,rfl,(Kn0,0,_),rfl,hq _ _ (by assumption)⟩
     | (have q:=QkB (e:=⟨lsn,kind,tx,ptx,ppg,ref,c,blob⟩) (e1:=⟨lsn,kind,tx,(k.tx.getD i Tx0).n,hd,ref,c,blob⟩) h' hv (by omega) (by omega) (by omega) ⟨rfl,rfl,rfl,rfl,rfl⟩ (fun h=>by dsimp only at h; omega) (fun _=>⟨i,hi,hid,rfl⟩) (fun _=>hhd) (fun h=>absurd (hk1 rfl) h)
        exact⟨rfl,rfl,_,rfl,q⟩)
     | skip
 ·cases ch0
  ·skip
   have F:=@ht
   refine rn F ?_
   repeat' (first
    | with_reducible exact⟨⟩
    | (refine sB F ?_ ?_<;>intro hZ)
    | refine vp F (c1) ?_
    | refine vp F (c3 _) ?_
    | refine vp F (c4 ⟨_,_,_,_,_,_,⟨_,_,⟨_,_⟩,⟨_,_⟩⟩,_⟩) ?_
    | refine vp F (c5 _) ?_
    | refine vp F (c6 _) ?_
    | refine vp F (c7 _) ?_
    | (refine Qb (id:=21) [0,1,2,3] [⟨[],[],4,[1,2],[5]⟩,⟨[],[],6,[2],[7]⟩,⟨[],[],8,[],[]⟩] (by kernel_rfl) (by kernel_rfl) ?_; refine rn F ?_))
   all_goals first
    | exact⟨rfl,rfl,(Kn0,0,_),rfl,hq _ _ (by assumption)⟩
    | (have q:=QkB (e:=⟨lsn,kind,tx,ptx,ppg,ref,c,blob⟩) (e1:=⟨lsn,kind,tx,0,0,ref,c,blob⟩) h' hv (by omega) (by omega) (by omega) ⟨rfl,rfl,rfl,rfl,rfl⟩ (fun _=>rfl) (fun h=>absurd h ht) (fun h=>absurd h (hk2 rfl)) (fun _=>rfl)
       exact⟨rfl,rfl,_,rfl,q⟩)
    | skip
  ·skip
   have F:=@ht
   refine rn F ?_
   repeat' (first
    | with_reducible exact⟨⟩
    | (refine sB F ?_ ?_<;>intro hZ)
    | refine vp F (c1) ?_
    | refine vp F (c3 _) ?_
    | (refine Qr (ch) rfl ?_; rintro hd hhd; refine rn F ?_)
    | refine vp F (c4 ⟨_,_,_,_,_,_,⟨_,_,⟨_,_⟩,⟨_,_⟩⟩,_⟩) ?_
    | refine vp F (c5 _) ?_
    | refine vp F (c6 _) ?_
    | refine vp F (c7 _) ?_
    | (refine Qb (id:=21) [0,1,2,3] [⟨[],[],4,[1,2],[5]⟩,⟨[],[],6,[2],[7]⟩,⟨[],[],8,[],[]⟩] (by kernel_rfl) (by kernel_rfl) ?_; refine rn F ?_))
   all_goals first
    | exact⟨rfl,rfl,(Kn0,0,_),rfl,hq _ _ (by assumption)⟩
    | (have q:=QkB (e:=⟨lsn,kind,tx,ptx,ppg,ref,c,blob⟩) (e1:=⟨lsn,kind,tx,0,hd,ref,c,blob⟩) h' hv (by omega) (by omega) (by omega) ⟨rfl,rfl,rfl,rfl,rfl⟩ (fun _=>rfl) (fun h=>absurd h ht) (fun _=>hhd) (fun h=>absurd (hk1 rfl) h)
       exact⟨rfl,rfl,_,rfl,q⟩)
    | skip
structure Cp where
 pg:Int
 nx:Int
 tx:List Tx
 dl:List Dt
 ix:List Rw
def QkD(s:List UInt8)(l:List Int):List UInt8:=l.foldl (fun s n=>Ql s n 8) s
def QeZ(s:List UInt8)(t:Tx):List UInt8:=QkD (Ql (QkD (Ql (Ql (Ql (Ql (Ql s t.id 4) t.st 1) t.n 8) t.b 8) t.l.length 2) t.l) t.s.length 1) t.s
def QeY(s:List UInt8)(l:List Tx):List UInt8:=l.foldl QeZ s
def Qa3(l:List Tx):List UInt8:=QeY (Ql [] l.length 2) l
def Qkp(s:List UInt8)(r:Rw):List UInt8:=Ql (Ql (Ql s r.lsn 8) r.im 8) r.at_ 8
def Qen(s:List UInt8)(l:List Rw):List UInt8:=l.foldl Qkp s
def QcD(l:List Rw):List UInt8:=Qen (Ql [] l.length 2) l
def Qkq(s:List UInt8)(d:Dt):List UInt8:=Ql (Ql (Ql s d.pg 1) d.rc 8) d.last 8
def Qdq(s:List UInt8)(l:List Dt):List UInt8:=l.foldl Qkq s
def QHc(c:Cp):List UInt8:=Ql (Ql (Ql (Ql [] c.pg 2) c.nx 4) (Qa3 c.tx).length 4++Qa3 c.tx) c.dl.length 1
def QaP(c:Cp):List UInt8:=Qdq (QHc c) c.dl++QcD c.ix
def CkV(c:Cp):Prop:=(1<=c.pg/\c.pg<=64)/\(1<=c.nx/\c.nx<=1073741825)/\QaF c.tx=true/\laB c.dl c.pg=true/\ixB c.ix=true/\(c.ix.length:Int)=c.pg
structure CkOf(k:Kn)(c:Cp):Prop where
 pg:c.pg=k.pg
 nx:c.nx=k.nx
 tx:c.tx=k.tx
 ix:c.ix=k.ix
 dl:∀ d∈c.dl,(∃ e∈k.la,e.pg=d.pg/\e.last=d.last)\/∃ f∈k.pl.fs,f.dirty=true/\f.pg.id=d.pg/\f.pg.lsn=d.last
 la:∀ e∈k.la,∃ d∈c.dl,d.pg=e.pg
 fs:∀ f∈k.pl.fs,f.dirty=true->∃ d∈c.dl,d.pg=f.pg.id
def CkP(k:Kn)(s:List UInt8):Prop:=s=[]\/∃ c,CkOf k c/\CkV c/\s=QaP c
def Qbj(l:List Tx)(a:Int):Tx:=l.getD (idT l a).toNat Tx0
def Qjf(k:Kn)(t:Tx)(y:E):Prop:=∃ i,i<t.l.length/\(QbA k.lg (t.l.getD i 0)).2=0/\y=(QbA k.lg (t.l.getD i 0)).1/\∀ j,i<j->j<t.l.length->(QbA k.lg (t.l.getD j 0)).2=0->¬ ((QbA k.lg (t.l.getD j 0)).1.c.pg=y.c.pg/\(QbA k.lg (t.l.getD j 0)).1.c.sl=y.c.sl)
def QF8(k:Kn)(e:E):Prop:=0<=idT k.tx e.tx/\((e.kind=3\/e.kind=4)->(Qbj k.tx e.tx).st≠3)/\(e.kind=5->(Qbj k.tx e.tx).st=3/\(Qbj k.tx e.tx).l=[])
def Qee(p:Pl)(e:E):Pg:=⟨((QeT p e.c.pg).1.setc e.c.sl.toNat e.c.a).id,e.lsn,((QeT p e.c.pg).1.setc e.c.sl.toNat e.c.a).cel⟩
def QHx(k:Kn)(e:E):Prop:=0<=idT k.tx e.tx/\(e.kind=1->(Qbj k.tx e.tx).st=1)/\(e.kind=2->(Qbj k.tx e.tx).st≠1/\∃ y,Qjf k (Qbj k.tx e.tx) y/\e.ref=y.lsn/\e.c=⟨y.c.pg,y.c.sl,y.c.a,y.c.b⟩)/\(QeT k.pl e.c.pg).2=true/\(QeT k.pl e.c.pg).1.cel e.c.sl.toNat=e.c.b
def Kn.set(k:Kn)(e:E):Kn:=⟨k.pg,k.nx,(k.add e).lg,(QkC k.pl (Qee k.pl e)).1,k.lk,(k.add e).tx,(k.add e).ix,k.la⟩
def Kn.wrt(k:Kn)(e:E):Kn:=⟨k.pg,k.nx,(k.add e).lg,(QaZ k.pl e.c.pg e.ref).1,k.lk,(k.add e).tx,(k.add e).ix,k.la⟩
def QHT(k:Kn)(e:E):Prop:=∃ i:Nat,i<k.pl.fs.length/\idF k.pl.fs e.c.pg=i/\(k.pl.fs.getD i Fm0).pg.lsn=e.ref/\(QaZ k.pl e.c.pg e.ref).2=0/\(k.pl.fs.getD i Fm0).dirty=true
inductive Stp:Nat->Kn->Kn->Prop
 | begin {k:Kn}:kB k=true->(QN k.tx k.nx).2=0->Stp 1 k ⟨k.pg,k.nx+1,k.lg,k.pl,k.lk,(QN k.tx k.nx).1,k.ix,k.la⟩
 | fin {k:Kn} {e e':E}:AddOk k e e'->(e.kind=3\/e.kind=4\/e.kind=5)->QF8 k e->Stp 0 k (k.add e')
 | ckpt {k:Kn} {e e':E}:AddOk k e e'->e.kind=6->CkP k e.blob->Stp 1 k (k.add e')
 | change {k:Kn} {e e':E}:AddOk k e e'->e.kind=1->QHx k e->(QkC k.pl (Qee k.pl e')).2=0->Stp 1 k (k.set e')
 | undo {k:Kn} {e e':E}:AddOk k e e'->e.kind=2->QHx k e->(QkC k.pl (Qee k.pl e')).2=0->Stp 0 k (k.set e')
 | wrt {k:Kn} {e e':E}:AddOk k e e'->e.kind=7->QHT k e->Stp 0 k (k.wrt e')
 | lock {k:Kn} (u:Lk):Stp 0 k ⟨k.pg,k.nx,k.lg,k.pl,u,k.tx,k.ix,k.la⟩
 | save {k:Kn} (a:Int):(Qfk k.tx a).2=0->Stp 0 k ⟨k.pg,k.nx,k.lg,k.pl,k.lk,(Qfk k.tx a).1,k.ix,k.la⟩
 | back {k:Kn} (a b:Int):(QfF k.tx a b).2=0->Stp 0 k ⟨k.pg,k.nx,k.lg,k.pl,k.lk,(QfF k.tx a b).1,k.ix,k.la⟩
 | rem {k:Kn} (a:Int):0<=idT k.tx a->(Qbj k.tx a).n=0->Stp 0 k ⟨k.pg,k.nx,k.lg,k.pl,k.lk,QhR k.tx a,k.ix,k.la⟩
 | pool {k:Kn} (p:Pl):SameF k.pl.fs p.fs->Stp 0 k ⟨k.pg,k.nx,k.lg,p,k.lk,k.tx,k.ix,k.la⟩
 | drop {k:Kn} (a:Int):(Qd1 k.pl a).2=0->Stp 0 k ⟨k.pg,k.nx,k.lg,(Qd1 k.pl a).1,k.lk,k.tx,k.ix,k.la⟩
 | put {k:Kn} (x:Pg):kB k=true->0<=x.id/\x.id<k.pg->x.lsn=Qfr k x.id->(QoV k.pl x).2=0->(QaN k.la x.id).2=false->Stp 0 k ⟨k.pg,k.nx,k.lg,⟨k.pl.size,k.pl.fs++[⟨x,false,0,true⟩],k.pl.hand⟩,k.lk,k.tx,k.ix,k.la⟩
 | putl {k:Kn} (x:Pg):kB k=true->0<=x.id/\x.id<k.pg->x.lsn=Qfr k x.id->(QoV k.pl x).2=0->(QaN k.la x.id).2=true->Stp 0 k ⟨k.pg,k.nx,k.lg,⟨k.pl.size,k.pl.fs++[⟨x,true,(QaN k.la x.id).1.rc,true⟩],k.pl.hand⟩,k.lk,k.tx,k.ix,k.la.filter fun d=>decide (d.pg≠x.id)⟩
 | force {k:Kn} (d:Int):(lgB k.lg=true->lgB ⟨k.lg.f,k.lg.es,d⟩=true)->Stp 0 k ⟨k.pg,k.nx,⟨k.lg.f,k.lg.es,d⟩,k.pl,k.lk,k.tx,k.ix,k.la⟩
inductive Str:Nat->Kn->Kn->Prop
 | refl {n:Nat} (k:Kn):Str n k k
 | step {n m:Nat} {k k1 k2:Kn}:Str n k k1->Stp m k1 k2->Str (n+m) k k2
def Str.one(h:Stp m k k'):Str m k k':=by
 have:=Str.step (Str.refl (n:=0) k) h
 rwa [J0] at this
def Str.mono (h:Str n k k') (hm:n<=m):Str m k k':=by
 induction h generalizing m with
 | refl k=>exact .refl k
 | @step n p k k1 k2 h1 h2 ih =>
   have:=ih (m:=m-p) (by omega)
   have:=Str.step this h2
   rwa [Nat.sub_add_cancel (by omega)] at this
def Str.trans(h:Str n a b)(g:Str m b c):Str (n+m) a c:=by
 induction g with
 | refl k=>exact h.mono (by omega)
 | step h1 h2 ih=>rw[<- Nat.add_assoc]; exact(ih h).step h2
def Str.tr0(h:Str 0 a b)(g:Str n b c):Str n a c:=by have:=h.trans g; rwa [J0] at this
def Str.tr(h:Str n a b)(g:Str 0 b c):Str n a c:=h.trans g
structure Ev(x y:Lg):Prop where
 f:y.f=x.f
 pre:x.es <+: y.es
 ok:lgB x=true->lgB y=true
def Ev.refl(x:Lg):Ev x x:=⟨rfl,JX,fun h=>h⟩
def Ev.trans(a:Ev x y)(b:Ev y z):Ev x z:=⟨b.f.trans a.f,a.pre.trans b.pre,fun h=>b.ok (a.ok h)⟩
def Ev.len(a:Ev x y):x.es.length<=y.es.length:=a.pre.length_le
def AddOk.lgB{k:Kn}{e e':E}(h:AddOk k e e'):lgB (k.add e').lg=true:=by
 obtain⟨v,s,ho,hl,hn,_⟩:=h
 have hv:=(Qkh v).2.2.1
 exact Qo7 (f:=k.lg.f) (d:=k.lg.d) hv hn (by rw[hl]; unfold Lg.end_; omega) ho
def AddOk.ev(h:AddOk k e e'):Ev k.lg (k.add e').lg:=⟨rfl,List.prefix_append _ _,fun _=>h.lgB⟩
def Stp.ev(h:Stp n k k'):Ev k.lg k'.lg:=by
 cases h with
 | fin h _ _=>exact h.ev
 | ckpt h _ _=>exact h.ev
 | change h _ _ _=>exact h.ev
 | undo h _ _ _=>exact h.ev
 | wrt h _ _=>exact h.ev
 | force d h=>exact⟨rfl,JX,h⟩
 | _=>exact Ev.refl _
def Str.ev(h:Str n k k'):Ev k.lg k'.lg:=by
 induction h with
 | refl k=>exact Ev.refl _
 | step _ h2 ih=>exact ih.trans h2.ev
structure Rs where
 st:Int
 tx:Int
 pg:Int
 cell:Ce
 er:Int
@[go_sem] def Rs.d(r:Rs):List DV:=[.int .i64 r.st,.int .i64 r.tx,.int .i64 r.pg,.bool r.cell.set,.pv (.str r.cell.data),.int .i64 r.er]
def QaC(e:Int):Rs:=⟨5,0,0,Ce0,e⟩
@[go_sem] def krD(a:Kn×Rs):DV:=.tup [.agg a.1.d,.agg a.2.d]
def Qv6(hq:Qwj k e (k1,n1,e1))(h:e1=0):Ev k.lg k1.lg/\lgB k1.lg=true/\k1.lg.es.length=k.lg.es.length+1/\k1.pg=k.pg/\k1.pl=k.pl/\k1.lk=k.lk/\k1.la=k.la:=by
 obtain⟨e',ha,hk,_,hl⟩:=hq.2 h
 dsimp only at hk hl
 subst hk
 exact⟨ha.ev,hl,by simp[Kn.add],rfl,rfl,rfl,rfl⟩
def Qgz(hq:Qwj k e (k1,n1,e1))(h:e1=0)(hk:e.kind=3\/e.kind=4\/e.kind=5)(hf:QF8 k e):Str 0 k k1:=by
 obtain⟨e',ha,hk1,_,hl⟩:=hq.2 h
 dsimp only at hk1
 subst hk1
 exact .one (.fin ha hk hf)
def Qed{a:Int}{i:Nat}(h:idT l a=i):Qbj l a=l.getD i Tx0:=by unfold Qbj; rw[h]; rfl
def Qah(e:Int):VCalls prog 118 [.int .i64 e] [] (Ret (.agg (QaC e).d)):=by
 refine dd Tryz.func118 ?_
 (unfold Tryz.f118; refine rn trivial ?_)
 rfl
def Qqm(k:Kn)(h:k.sm)(tx pg sl:Int)(hi:0<=idT k.tx tx):VCalls prog 261 [.agg k.d,.int .i64 tx,.agg [.int .i64 pg,.int .i64 sl]] [] (QL boD fun _=>True):=by
 refine dd Tryz.func261 ?_
 obtain⟨h1,h2,h3,h4,h5,h6⟩:=h
 have c2:=Qcc k.tx (Jc h4.1 (by decide)) tx
 have c5:=fun n=>QiM k.lg (by omega) n
 rcases Qy k.tx tx with hn | ⟨i,hil,hid,_⟩
 ·omega
 rw[hid] at c2
 have hg:=QdZ k.tx i hil
 have ht:(k.tx.getD i Tx0).l.length<=100000:=by rw[Qc _ _ hil]; exact(h4.2 _ (Jt hil)).1
 (unfold Tryz.f261; refine rn trivial ?_)
 have F:=@hg
 refine rn F ?_
 repeat' (first
  | with_reducible exact⟨⟩
  | refine vp F (c2) ?_
  | (refine Qb (id:=1) [0,1,2,3,4] [⟨[8],[],5,[0,1,2],[6,7]⟩,⟨[8],[8],9,[],[]⟩] (by kernel_rfl) (by kernel_rfl) ?_; refine rn F ?_))
 generalize k.tx.getD i Tx0=t at *
 refine Qj (fun s:To t.l.length=>⟨55,0,[(8,.int .i64 s.i),(7,.ptr 2 0),(5,.ptr 1 0),(3,.ptr 0 0)],[⟨62,true,k.d⟩,⟨225,true,[.int .i64 pg,.int .i64 sl]⟩,⟨71,true,t.d⟩]⟩) (fun s=>t.l.length-s.i) ⟨0,Jh _⟩ (gc [0,1,2]) ?_
 rintro⟨j,hj⟩
 dsimp only
 have hx:=fun h:j<t.l.length=>QV t.l j h
 have F:=@hx
 refine rn F ?_
 repeat' (first
  | with_reducible exact⟨⟩
  | (refine sG F ?_ ?_<;>intro hZ)
  | (refine sB F ?_ ?_<;>intro hZ)
  | refine vp F (c5 _) ?_
  | (refine Qb (id:=5) [0,1,2,3,4,5,6] [⟨[11],[],7,[0,2,3,4,5],[8,9,10]⟩,⟨[11],[11],12,[10],[]⟩,⟨[],[],13,[],[]⟩] (by kernel_rfl) (by kernel_rfl) ?_; refine rn F ?_))
 all_goals first
  | exact⟨rfl,rfl,true,rfl,trivial⟩
  | exact⟨rfl,rfl,false,rfl,trivial⟩
  | exact⟨⟨j+1,by omega⟩,by dsimp only; omega,(gc [0,1,2])⟩
  | skip
def QDl(k:Kn)(a:Kn×Rs):Prop:=a.1.sm/\(a.2.st=1\/a.2.st=5)/\(a.2.st≠5->Str 0 k a.1)
def Qtz(k:Kn)(h:k.sm)(tx:Int)(hi:0<=idT k.tx tx)(hst:(Qbj k.tx tx).st≠3):VCalls prog 216 [.agg k.d,.int .i64 tx] [] (QL krD (QDl k)):=by
 refine dk Tryz.func216 ?_
 have h':=h
 obtain⟨h1,h2,h3,h4,h5,h6⟩:=h
 have c2:=Qcc k.tx (Jc h4.1 (by decide)) tx
 have c3:=QgY k.tx (Jc h4.1 (by decide)) tx
 have c4:=Qeg k h' ⟨0,3,tx,0,0,0,Ch0,[]⟩
 rcases Qy k.tx tx with hn | ⟨i,hil,hid,_⟩
 ·omega
 rw[hid] at c2
 have hg:=QdZ k.tx i hil
 (unfold Tryz.f216; refine rn trivial ?_)
 have F:=@hg
 refine rn F ?_
 repeat' (first
  | with_reducible exact⟨⟩
  | (refine sB F ?_ ?_<;>intro hZ)
  | refine vp F (c2) ?_
  | refine vp F (c3) ?_
  | (refine Qr (c4) rfl ?_; rintro⟨k1,n1,e1⟩ hq; refine rn F ?_)
  | refine vp F (Qah _) ?_
  | (refine Qr (QeE k1 hq.1 _) rfl ?_; rintro d hd; refine rn F ?_)
  | (refine Qr (QdG k.lk (by omega) tx) rfl ?_; rintro u hu; refine rn F ?_)
  | (refine Qr (QdG k1.lk (Jc hq.1.2.2.1 (by decide)) tx) rfl ?_; rintro u hu; refine rn F ?_)
  | (refine Qb (id:=2) [0,1,2,3,4] [⟨[],[],5,[0,1,2],[6,7,8,9]⟩] (by kernel_rfl) (by kernel_rfl) ?_; refine rn F ?_)
  | (refine Qb (id:=6) [0,1] [⟨[],[],2,[0],[]⟩,⟨[],[],3,[1],[]⟩,⟨[],[],4,[],[]⟩] (by kernel_rfl) (by kernel_rfl) ?_; refine rn F ?_))
 ·exact⟨rfl,rfl,(⟨k.pg,k.nx,k.lg,k.pl,u,QhR k.tx tx,k.ix,k.la⟩,⟨1,0,0,Ce0,0⟩),rfl,⟨h1,h2,Jc hu h3,h4.rem _,h5,h6⟩,.inl rfl,fun _=>(Str.one (.rem tx hi (by rw[Qed hid]; omega))).step (.lock u)⟩
 ·exact⟨rfl,rfl,(k,QaC e1),rfl,h',.inr rfl,fun h=>absurd rfl h⟩
 ·have q:=Qgz hq (by omega) (.inl rfl) ⟨hi,fun _=>hst,fun h=>by simp at h⟩
  obtain⟨r1,r2,r3,r4,r5,r6⟩:=hq.1
  exact⟨rfl,rfl,(⟨k1.pg,k1.nx,⟨k1.lg.f,k1.lg.es,d⟩,k1.pl,u,k1.tx,k1.ix,k1.la⟩,⟨1,0,0,Ce0,0⟩),rfl,⟨r1,r2,Jc hu r3,r4,r5,r6⟩,.inl rfl,fun _=>(q.step (.force d hd)).step (.lock u)⟩
def idT_mem:0<=idT l a ↔ a∈l.map (·.id):=by
 unfold idT Qhr
 constructor
 ·intro h
  split at h
  ·rename_i hx
   obtain⟨t,ht,he⟩:=JC.1 hx
   exact J1.2 ⟨t,ht,by simpa using he⟩
  ·omega
 ·intro h
  obtain⟨t,ht,he⟩:=J1.1 h
  rw[if_pos (JC.2 ⟨t,ht,by simpa using he⟩)]
  omega
def QiE(t:Tx):(QF t).id=t.id:=by unfold QF; split<;>rfl
def Qyi(t:Tx)(e:E):(QaU t e).id=t.id:=by unfold QaU; split; rfl; split<;>rfl
def Qhj(h:(QJ l e).2=0)(hk:e.kind≠3/\e.kind≠5):(QJ l e).1.map (·.id)=l.map (·.id):=by
 unfold QJ at h |-
 split at h
 ·simp at h
 rename_i q1
 split at h
 ·simp at h
 rename_i q2
 split at h
 ·rename_i q3; rw[if_neg q1,if_neg q2,if_pos q3]
 rename_i q3
 split at h
 ·simp at h
 rename_i q4
 rw[if_neg q1,if_neg q2,if_neg q3,if_neg q4]
 rcases Qy l e.tx with hn | ⟨i,hi,hid,_⟩
 ·omega
 rw[hid,Jk] at h |-
 unfold Qhl at h |-
 split at h
 ·simp at h
 rename_i q5
 split at h
 ·rename_i q6; omega
 rename_i q6
 rw[if_neg q5,if_neg q6]
 dsimp only
 rw[JQ,QiE,Qyi,Qc l i hi]
 have:l[i].id=(l.map (·.id))[i]'(by simpa using hi):=by rw[JS]
 rw[this,JG]
def Qqw(h:(QJ l e).2=0)(hk:e.kind≠3/\e.kind≠5)(ha:0<=idT l a):0<=idT (QJ l e).1 a:=by
 rw[idT_mem] at ha |-; rw[Qhj h hk]; exact ha
def QdO(h:(QJ l e).2=0)(ht:e.tx=0):(QJ l e).1=l:=by
 unfold QJ at h |-
 split at h
 ·simp at h
 rename_i q1
 split at h
 ·simp at h
 rename_i q2
 rw[if_neg q1,if_neg q2,if_pos ht]
def QmI(hq:Qwj k e (k1,n1,e1))(h:e1=0)(hk:e.kind≠3/\e.kind≠5)(ha:0<=idT k.tx a):0<=idT k1.tx a:=by
 obtain⟨e',⟨v,s,_,_,_,hn,_⟩,hk1,_,_⟩:=hq.2 h
 dsimp only at hk1
 subst hk1
 exact Qqw hn (by rw[s.1]; exact hk) ha
def Qv5(hq:Qwj k e (k1,n1,e1))(h:e1=0)(ht:e.tx=0):k1.tx=k.tx:=by
 obtain⟨e',⟨v,s,_,_,_,hn,_⟩,hk1,_,_⟩:=hq.2 h
 dsimp only at hk1
 subst hk1
 exact QdO hn (by rw[s.2.1]; exact ht)
def QFa(k:Kn)(st:Int)(a:Kn×Rs):Prop:=a.1.sm/\(a.2.st=st\/a.2.st=5)/\(a.2.st≠5->Str 0 k a.1)
def QoH(k:Kn)(h:k.sm)(tx st:Int)(hi:0<=idT k.tx tx)(hst:(Qbj k.tx tx).st≠3):VCalls prog 217 [.agg k.d,.int .i64 tx,.int .i64 st] [] (QL krD (QFa k st)):=by
 refine dk Tryz.func217 ?_
 have h':=h
 obtain⟨h1,h2,h3,h4,h5,h6⟩:=h
 have c1:=QtC k.lk (by omega) tx
 have c2:=Qcc k.tx (Jc h4.1 (by decide)) tx
 have c3:=QgY k.tx (Jc h4.1 (by decide)) tx
 have c4:=fun(u:Lk) (hu:u.sum<=k.lk.sum)=>Qeg ⟨k.pg,k.nx,k.lg,k.pl,u,k.tx,k.ix,k.la⟩ ⟨h1,h2,Jc hu h3,h4,h5,h6⟩ ⟨0,4,tx,0,0,0,Ch0,[]⟩
 rcases Qy k.tx tx with hn | ⟨i,hil,hid,_⟩
 ·omega
 rw[hid] at c2
 have hg:=QdZ k.tx i hil
 (unfold Tryz.f217; refine rn trivial ?_)
 have F:=@hg
 refine rn F ?_
 repeat' (first
  | with_reducible exact⟨⟩
  | (refine sB F ?_ ?_<;>intro hZ)
  | (refine Qr (c1) rfl ?_; rintro u hu; refine rn F ?_)
  | refine vp F (c2) ?_
  | refine vp F (c3) ?_
  | (refine Qr (c4 u hu) rfl ?_; rintro⟨k1,n1,e1⟩ hq; refine rn F ?_)
  | refine vp F (Qah _) ?_
  | (refine Qr (QdG u (Jc hu (Jc h3 (by decide))) tx) rfl ?_; rintro u2 hu2; refine rn F ?_)
  | (refine Qb (id:=3) [0,1,2,3,4] [⟨[],[],5,[0,1,2],[6,7,8,9]⟩] (by kernel_rfl) (by kernel_rfl) ?_; refine rn F ?_)
  | (refine Qb (id:=9) [0,1] [⟨[],[],2,[0],[]⟩,⟨[],[],3,[1],[]⟩,⟨[],[],4,[],[]⟩] (by kernel_rfl) (by kernel_rfl) ?_; refine rn F ?_))
 ·exact⟨rfl,rfl,(⟨k.pg,k.nx,k.lg,k.pl,u2,QhR k.tx tx,k.ix,k.la⟩,⟨st,0,0,Ce0,0⟩),rfl,⟨h1,h2,Jc hu2 (Jc hu h3),h4.rem _,h5,h6⟩,.inl rfl,fun _=>(Str.one (.rem tx hi (by rw[Qed hid]; omega))).step (.lock u2)⟩
 ·exact⟨rfl,rfl,(k,QaC e1),rfl,h',.inr rfl,fun h=>absurd rfl h⟩
 have he1:e1=0:=by omega
 obtain⟨q1,q2,q3,q4,q5,q6,q7⟩:=Qv6 hq he1
 have qs:=Qgz hq he1 (.inr (.inl rfl)) ⟨hi,fun _=>hst,fun h=>by simp at h⟩
 have hst:=QmI hq he1 ⟨by simp,by simp⟩ hi
 obtain⟨r1,r2,r3,r4,r5,r6⟩:=hq.1
 dsimp only at q1 qs hst r1 r2 r3 r4 r5 r6
 have hkl:k1.lk.held.length<=1024:=by unfold Lk.sum at r3; omega
 refine Qj (fun s:{s:Nat×Lk // s.1<=k1.lk.held.length/\s.2.sum<=1024}=>⟨95,0,[(12,.int .i64 s.1.1),(11,.pv (.sl (fz Qau k1.lk.held))),(8,.ptr 2 0),(7,.ptr 1 0),(6,.ptr 0 0),(2,.int .i64 st),(1,.int .i64 tx)],[⟨62,true,[.int .i64 0,.int .i64 0,.int .i64 0,.pv (.slc []),.int .i64 0,.int .i64 0,.pv (.slc []),.int .i64 0,.pv (.slc []),.pv (.slc []),.pv (.slc []),.pv (.slc []),.pv (.slc [])]⟩,⟨173,true,[.int .i64 0,.int .i64 0,.int .i64 0,.bool false,.pv (.str []),.int .i64 0]⟩,⟨62,true,Kn.d ⟨k1.pg,k1.nx,k1.lg,k1.pl,s.1.2,k1.tx,k1.ix,k1.la⟩⟩]⟩) (fun s=>k1.lk.held.length-s.1.1) ⟨(0,k1.lk),Jh _,r3⟩ (gc [1,2,3]) ?_
 rintro⟨⟨j,u3⟩,hj,hu3⟩
 dsimp only at hj hu3 |-
 have hx:=fun h:j<k1.lk.held.length=>QaD k1.lk.held j h
 have d1:=Qqm ⟨k1.pg,k1.nx,k1.lg,k1.pl,u3,k1.tx,k1.ix,k1.la⟩ ⟨r1,r2,hu3,r4,r5,r6⟩ tx
 have d2:=Qtu u3 (by omega) tx
 have F:=@hx
 refine rn F ?_
 repeat' (first
  | with_reducible exact⟨⟩
  | (refine sG F ?_ ?_<;>intro hZ)
  | (refine sB F ?_ ?_<;>intro hZ)
  | (refine Qr (d1 _ _ hst) rfl ?_; rintro b -; refine rn F ?_)
  | (refine Qr (d2 _ _) rfl ?_; rintro u4 hu4; refine rn F ?_)
  | (refine Qb (id:=14) [0,1,2,3,4,5,6,7,8,9,10,11,12,13,14] [⟨[],[],15,[0,1,2,3,4,5,6,10,11,12,13],[16,17]⟩] (by kernel_rfl) (by kernel_rfl) ?_; refine rn F ?_)
  | (refine Qb (id:=15) [0,1,2,3,4,5,6,7] [⟨[],[],8,[0,3,4,5,6],[9]⟩,⟨[],[],10,[],[]⟩] (by kernel_rfl) (by kernel_rfl) ?_; refine rn F ?_))
 all_goals first
  | exact⟨⟨(j+1,u3),by dsimp only; omega,hu3⟩,by dsimp only; omega,(gc [0,1,2])⟩
  | exact⟨⟨(j+1,u4),by dsimp only; omega,Jc hu4 hu3⟩,by dsimp only; omega,(gc [0,1,2])⟩
  | exact⟨rfl,rfl,(⟨k1.pg,k1.nx,k1.lg,k1.pl,u3,k1.tx,k1.ix,k1.la⟩,⟨st,0,0,Ce0,0⟩),rfl,⟨r1,r2,hu3,r4,r5,r6⟩,.inl rfl,fun _=>((Str.one (.lock u)).trans qs).step (.lock u3)⟩
  | skip
section
attribute [local go_sem] Qbo
def Qku(x:Pg)(i:Nat)(h:i<16)(c:Ce):x.d.take (2+i*2)++[.pv (.lit (.bool c.set)),.pv (.str c.data)]++x.d.drop (2+i*2+2)=(x.setc i c).d:=QDq x i h c
def Qyf{e:E}(h:e.okB=true)(hk:e.kind=1\/e.kind=2):0<=e.c.sl/\e.c.sl<16:=by
 unfold E.okB at h
 simp only[Jf] at h
 have h2:=h.2
 unfold E.kindB Ch.okB at h2
 rcases hk with hk | hk<;>rw[hk] at h2<;>simp at h2<;>omega
def Qv4(hq:Qwj k e (k1,n1,e1))(h:e1=0)(hk:e.kind=1\/e.kind=2):0<=e.c.sl/\e.c.sl<16:=by
 obtain⟨e',⟨v,s,ho,_⟩,_⟩:=hq.2 h
 have:=Qyf ho (by rw[s.1]; exact hk)
 rw[s.2.2.2.1] at this
 exact this
def QwQ(p:Pl)(x:Pg)(h:p.fs.length<=64):(QkC p x).1.fs.length<=64:=by
 unfold QkC
 repeat' split
 all_goals first | exact Jh _ | simpa using h
@[go_sem] def kiD(a:Kn×Int):DV:=.tup [.agg a.1.d,.int .i64 a.2]
def QIf(k:Kn)(e:E)(a:Kn×Int):Prop:=a.1.sm/\(a.2=0->∃ e',AddOk k e e'/\(QkC k.pl (Qee k.pl e')).2=0/\a.1=k.set e')/\(a.2≠0->a.1=k)
def QzP(k:Kn)(h:k.sm)(e:E)(hk:e.kind=1\/e.kind=2):VCalls prog 211 [.agg k.d,.agg e.d] [] (QL kiD (QIf k e)):=by
 refine dk Tryz.func211 ?_
 have h':=h
 obtain⟨h1,h2,h3,h4,h5,h6⟩:=h
 have c1:=Qeg k h' e
 have c2:=QgZ k.pl (by omega) e.c.pg
 have c3:=fun x=>QBB k.pl (by omega) x
 have hul:=fun x=>QwQ k.pl x h2
 (unfold Tryz.f211; refine rn trivial ?_)
 refine Qr c1 rfl ?_
 rintro⟨k1,n1,e1⟩ hq
 by_cases he1:e1=0
 ·subst he1
  obtain⟨s1,s2⟩:=Qv4 hq rfl hk
  obtain⟨i,hi⟩:∃ i:Nat,e.c.sl=i:=⟨e.c.sl.toNat,by omega⟩
  have hce:=fun x=>Qku x i (by omega) e.c.a
  have hi16:i<16:=by omega
  obtain⟨r1,r2,r3,r4,r5,r6⟩:=hq.1
  obtain⟨e',ha,hk1,hn1,hl1⟩:=hq.2 rfl
  dsimp only at hk1 hn1
  have hsp:Qee k.pl e'=⟨((QeT k.pl e.c.pg).1.setc i e.c.a).id,n1,((QeT k.pl e.c.pg).1.setc i e.c.a).cel⟩:=by
   unfold Qee; rw[ha.2.1.2.2.2.1,hi,Jk,<- hn1]
  have hS:∀ w,QkC k.pl ⟨((QeT k.pl e.c.pg).1.setc i e.c.a).id,n1,((QeT k.pl e.c.pg).1.setc i e.c.a).cel⟩=w->w.2=0->(QkC k.pl (Qee k.pl e')).2=0/\(⟨k1.pg,k1.nx,k1.lg,w.1,k1.lk,k1.tx,k1.ix,k1.la⟩:Kn)=k.set e':=by
   rintro w rfl h0
   rw[<- hsp] at h0 |-
   subst hk1
   exact⟨h0,rfl⟩
  dsimp only at r1 r2 r3 r4 r5 r6
  have hw:=hul ⟨((QeT k.pl e.c.pg).1.setc i e.c.a).id,n1,((QeT k.pl e.c.pg).1.setc i e.c.a).cel⟩
  have F:=(Ja @hi @hce)
  refine rn F ?_
  repeat' (first
   | with_reducible exact⟨⟩
   | (refine sB F ?_ ?_<;>intro hZ)
   | refine vp F (c2) ?_
   | refine vp F (c3 _) ?_)
  all_goals generalize hww:QkC k.pl ⟨((QeT k.pl e.c.pg).1.setc i e.c.a).id,n1,((QeT k.pl e.c.pg).1.setc i e.c.a).cel⟩=w at *
  ·exact⟨rfl,rfl,(k,w.2),rfl,h',fun h=>absurd h (by assumption),fun _=>rfl⟩
  ·exact⟨rfl,rfl,(⟨k1.pg,k1.nx,k1.lg,w.1,k1.lk,k1.tx,k1.ix,k1.la⟩,0),rfl,⟨r1,hw,r3,r4,r5,r6⟩,fun _=>⟨e',ha,hS w rfl (by omega)⟩,fun h=>absurd rfl h⟩
 ·skip
  have F:=@he1
  refine rn F ?_
  exact⟨rfl,rfl,(k,e1),rfl,h',fun h=>absurd h he1,fun _=>rfl⟩
structure Ac where
 kind:Int
 pg:Int
 sl:Int
 data:List UInt8
@[go_sem] def Ac.d(a:Ac):List DV:=[.int .i64 a.kind,.int .i64 a.pg,.int .i64 a.sl,.pv (.str a.data)]
def QwP(p:Pl)(a:Int)(h:p.fs.length<=64):(QA4 p a).fs.length<=64:=by
 unfold QA4
 split
 ·exact h
 ·simpa using h
def Qsl(p:Pl)(a:Int):SameF p.fs (QA4 p a).fs:=by
 unfold QA4
 split
 ·exact SameF.refl _
 ·exact SameF.set _ _ _
def QuK(hp:plB p=true)(h:(QeT p a).2=false):idF p.fs a<0:=by
 unfold QeT Qbx at h
 rw[hp] at h
 simp only[if_true] at h
 split at h
 ·assumption
 ·simp at h
def QIJ(k:Kn)(a:Ac)(r:Kn×Rs):Prop:=r.1.sm/\(r.2.st=3->r.1=k/\r.2.pg=a.pg/\idF k.pl.fs a.pg<0)/\(r.2.st=1\/r.2.st=3\/r.2.st=5)/\(r.2.st=1->Str 1 k r.1)
def QtG(k:Kn)(h:k.sm)(hv:VK k)(tx:Int)(hid:0<=idT k.tx tx)(hst:(Qbj k.tx tx).st=1)(a:Ac)(ha:0<=a.sl/\a.sl<16):VCalls prog 222 [.agg k.d,.int .i64 tx,.agg a.d] [] (QL krD (QIJ k a)):=by
 refine dk Tryz.func222 ?_
 have h':=h
 obtain⟨h1,h2,h3,h4,h5,h6⟩:=h
 have c1:=QgZ k.pl (by omega) a.pg
 have c2:=QBA k.pl (by omega) a.pg
 have hn:=QuK (a:=a.pg) hv.2.2.2.1
 have hul:=QwP k.pl a.pg h2
 have c3:=fun c=>QzP k h' ⟨0,1,tx,0,0,0,c,[]⟩ (.inl rfl)
 obtain⟨i,hi⟩:∃ i:Nat,a.sl=i:=⟨a.sl.toNat,by omega⟩
 have hi16:i<16:=by omega
 have hus:=Qsl k.pl a.pg
 generalize hgg:QeT k.pl a.pg=g at *
 have hce:=Qpy g.1 i hi16
 generalize QA4 k.pl a.pg=up at *
 (unfold Tryz.f222; refine rn trivial ?_)
 have F:=(Ja @hi @hce)
 refine rn F ?_
 repeat' (first
  | with_reducible exact⟨⟩
  | (refine sB F ?_ ?_<;>intro hZ)
  | refine vp F (c1) ?_
  | refine vp F (c2) ?_
  | (refine Qr (c3 ⟨_,_,⟨_,_⟩,⟨_,_⟩⟩) rfl ?_; rintro⟨k1,e1⟩ hq; refine rn F ?_)
  | refine vp F (Qah _) ?_
  | (refine Qb (id:=3) [0,1,2,3] [⟨[],[],4,[1,2,3],[]⟩,⟨[],[],5,[],[]⟩] (by kernel_rfl) (by kernel_rfl) ?_; refine rn F ?_)
  | (refine Qb (id:=6) [0,1,2,3,4,5,6] [⟨[],[],7,[1,2,3,4,5,6],[]⟩,⟨[],[],8,[],[]⟩] (by kernel_rfl) (by kernel_rfl) ?_; refine rn F ?_)
  | (refine Qb (id:=7) [0,1,2,3,4,5,6,7,8,9] [⟨[10],[10],11,[],[]⟩] (by kernel_rfl) (by kernel_rfl) ?_; refine rn F ?_)
  | (refine Qb (id:=12) [0,1] [⟨[],[],2,[0],[]⟩,⟨[],[],3,[1],[]⟩,⟨[],[],4,[],[]⟩] (by kernel_rfl) (by kernel_rfl) ?_; refine rn F ?_))
 all_goals first
  | exact⟨rfl,rfl,(k,⟨3,0,a.pg,Ce0,0⟩),rfl,h',fun _=>⟨rfl,rfl,hn (by first | assumption | simp_all)⟩,.inr (.inl rfl),fun h=>by simp at h⟩
  | exact⟨rfl,rfl,(⟨k.pg,k.nx,k.lg,up,k.lk,k.tx,k.ix,k.la⟩,⟨1,0,0,g.1.cel i,0⟩),rfl,⟨h1,hul,h3,h4,h5,h6⟩,fun h=>by simp at h,.inl rfl,fun _=>(Str.one (.pool up hus)).mono (by omega)⟩
  | exact⟨rfl,rfl,(k,QaC e1),rfl,h',fun h=>by simp[QaC] at h,.inr (.inr rfl),fun h=>by simp[QaC] at h⟩
  | skip
 all_goals
  obtain⟨e',q1,q2,q3⟩:=hq.2.1 (by dsimp only; omega)
  dsimp only at q3
  exact⟨rfl,rfl,(k1,⟨1,0,0,Ce0,0⟩),rfl,hq.1,fun h=>by simp at h,.inl rfl,fun _=>by
   dsimp only
   rw[q3]
   exact .one (.change q1 rfl ⟨hid,fun _=>hst,fun h=>by simp at h,by dsimp only; rw[hgg]; first | assumption | simp_all,by dsimp only; rw[hgg]; rfl⟩ q2)⟩
end
def QFZ(a b c a' b' c':Int)(d d':List UInt8):QQ [.pv (.lit (.int .i64 a)),.pv (.lit (.int .i64 b)),.pv (.lit (.int .i64 c)),.pv (.str d)] [.pv (.lit (.int .i64 a')),.pv (.lit (.int .i64 b')),.pv (.lit (.int .i64 c')),.pv (.str d')] [(0,1),(1,1),(2,1),(3,2)]=some (decide (a=a')&&decide (b=b')&&decide (c=c')&&decide (d=d')):=by simp[QQ,Q9,JF,JY]
def QHS(k:Kn)(a:Ac)(e:Int):Prop:=e=0->(1<=a.kind/\a.kind<=7)/\(a.kind<=3->0<=a.sl/\a.sl<16)
def QtF(k:Kn)(a:Ac):VCalls prog 259 [.agg k.d,.agg a.d] [] (QL inD (QHS k a)):=by
 refine dk Tryz.func259 ?_
 unfold QHS
 (unfold Tryz.f259; refine rn trivial ?_)
 have F:=@QFZ
 refine rn F ?_
 repeat' (first
  | with_reducible exact⟨⟩
  | (refine sG F ?_ ?_<;>intro hZ)
  | (refine sB F ?_ ?_<;>intro hZ)
  | (refine Qb (id:=9) [0,1,2,3,4] [⟨[],[],5,[2,3],[6]⟩,⟨[],[],7,[],[]⟩] (by kernel_rfl) (by kernel_rfl) ?_; refine rn F ?_))
 all_goals first
  | exact⟨rfl,rfl,_,rfl,fun h=>absurd h (by decide)⟩
  | exact⟨rfl,rfl,0,rfl,fun _=>⟨⟨by omega,by omega⟩,fun _=>⟨by omega,by omega⟩⟩⟩
  | skip
@[go_sem] def gbD(a:Gr×Bool):DV:=.tup [.agg a.1.d,.bool a.2]
def Qta(tx:Int)(a:Ac):VCalls prog 220 [.int .i64 tx,.agg a.d] [] (QL gbD fun _=>True):=by
 refine dd Tryz.func220 ?_
 (unfold Tryz.f220; refine rn trivial ?_)
 refine rn F ?_
 repeat' (first
  | with_reducible exact⟨⟩
  | (refine sB F ?_ ?_<;>intro hZ))
 all_goals first
  | exact⟨rfl,rfl,(⟨_,_,_,_⟩,_),rfl,trivial⟩
  | skip
def QHI(k:Kn)(tx:Int)(a:Ac)(e:Int):Prop:=e=0->VK k/\(0<=idT k.tx tx/\(Qbj k.tx tx).st=1)/\(1<=a.kind/\a.kind<=7)/\(a.kind<=3->0<=a.sl/\a.sl<16)
def Qqj(k:Kn)(h:k.sm)(tx:Int)(a:Ac):VCalls prog 215 [.agg k.d,.int .i64 tx,.agg a.d] [] (QL inD (QHI k tx a)):=by
 refine dk Tryz.func215 ?_
 have c1:=Qa7 k h
 obtain⟨h1,h2,h3,h4,h5,h6⟩:=h
 have c2:=Qcc k.tx (Jc h4.1 (by decide)) tx
 have c3:=QtF k a
 have c4:=QdE k.lk (by omega) tx
 have c5:=Qta tx a
 unfold QHI
 rcases Qy k.tx tx with hn | ⟨i,hil,hid,_⟩
 ·rw [hn] at c2
  (unfold Tryz.f215; refine rn trivial ?_)
  refine rn F ?_
  repeat' (first
   | with_reducible exact⟨⟩
   | (refine sB F ?_ ?_<;>intro hZ)
   | (refine Qr (c1) rfl ?_; rintro b hb; refine rn F ?_)
   | refine vp F (c2) ?_)
  all_goals exact⟨rfl,rfl,_,rfl,fun h=>absurd h (by decide)⟩
 rw[hid] at c2
 have hg:=QdZ k.tx i hil
 have hta:=Qed hid
 (unfold Tryz.f215; refine rn trivial ?_)
 have F:=(Ja @hg @Qv2)
 refine rn F ?_
 repeat' (first
  | with_reducible exact⟨⟩
  | (refine sG F ?_ ?_<;>intro hZ)
  | (refine sB F ?_ ?_<;>intro hZ)
  | (refine Qr (c1) rfl ?_; rintro b hb; refine rn F ?_)
  | refine vp F (c2) ?_
  | (refine Qr (c3) rfl ?_; rintro e3 he3; refine rn F ?_)
  | (refine Qr (c4) rfl ?_; rintro⟨w,ws⟩ -; refine rn F ?_)
  | (refine Qr (c5) rfl ?_; rintro⟨g,nd⟩ -; refine rn F ?_))
 all_goals first
  | exact⟨rfl,rfl,_,rfl,fun h=>absurd h (by first | assumption | decide)⟩
  | exact⟨rfl,rfl,0,rfl,fun _=>⟨hb (by assumption),⟨by omega,by rw[hta]; omega⟩,(he3 (by omega)).1,(he3 (by omega)).2⟩⟩
  | skip
def QBK(k:Kn)(h:k.lk.sum<=5000)(tx:Int):VCalls prog 224 [.agg k.d,.int .i64 tx] [] (QL inD fun _=>True):=by
 refine dd Tryz.func224 ?_
 have c1:=QoK k.lk h tx
 (unfold Tryz.f224; refine rn trivial ?_)
 refine rn F ?_
 repeat' (first
  | with_reducible exact⟨⟩
  | (refine Qr (c1) rfl ?_; rintro m -; refine rn F ?_)
  | (refine Qr (QxN m) rfl ?_; rintro n -; refine rn F ?_))
 exact⟨rfl,rfl,_,rfl,trivial⟩
def doQ(k:Kn)(a:Ac)(r:Kn×Rs):Prop:=r.1.sm/\(r.2.st=3->r.1.pl=k.pl/\r.2.pg=a.pg/\idF k.pl.fs a.pg<0/\Str 0 k r.1)/\(r.2.st=2->Str 0 k r.1)/\(r.2.st≠3->r.2.st≠2->r.2.st≠5->Str 1 k r.1)
def Qpt(k:Kn)(h:k.sm)(a:Ac)(e:Int):doQ k a (k,QaC e):=⟨h,fun h=>by simp[QaC] at h,fun h=>by simp[QaC] at h,fun _ _ h=>absurd rfl h⟩
def QED(k:Kn)(h:k.sm)(tx:Int)(a:Ac):VCalls prog 169 [.agg k.d,.int .i64 tx,.agg a.d] [] (QL krD (doQ k a)):=by
 refine dk Tryz.func169 ?_
 have h':=h
 have c1:=Qqj k h tx a
 have c2:=Qtz k h tx
 have c3:=QoH k h tx 1
 obtain⟨h1,h2,h3,h4,h5,h6⟩:=h
 have hsl:=h4.smL (by omega)
 have c4:=QBw k.tx hsl tx
 have c5:=QBT k.tx hsl tx a.sl
 have m4:=Qxg (l:=k.tx) tx
 have m5:=Qzu (l:=k.tx) tx a.sl
 have c6:=Qta tx a
 have c7:=fun g=>Qqi k.lk (by omega) g
 have hK:=fun(u:Lk) (hu:u.sum<=1024)=>(⟨h1,h2,hu,h4,h5,h6⟩:Kn.sm ⟨k.pg,k.nx,k.lg,k.pl,u,k.tx,k.ix,k.la⟩)
 have c8:=fun(u:Lk) (hu:u.sum<=1024) (hv:VK k)=>QtG ⟨k.pg,k.nx,k.lg,k.pl,u,k.tx,k.ix,k.la⟩ (hK u hu) hv tx
 have c9:=fun(u:Lk) (hu:u.sum<=1024)=>QxT u (by omega) tx
 have c10:=fun(u:Lk) (hu:u.sum<=1024)=>QoH ⟨k.pg,k.nx,k.lg,k.pl,u,k.tx,k.ix,k.la⟩ (hK u hu) tx 4
 (unfold Tryz.f169; refine rn trivial ?_)
 refine Qr c1 rfl ?_
 rintro er her
 by_cases he:er=0
 rotate_left
 ·skip
  have F:=@he
  refine rn F ?_
  repeat' (first
   | with_reducible exact⟨⟩
   | refine vp F (Qah _) ?_
   | (refine Qb (id:=3) [0,1] [⟨[],[],2,[0],[]⟩,⟨[],[],3,[1],[]⟩,⟨[],[],4,[],[]⟩] (by kernel_rfl) (by kernel_rfl) ?_; refine rn F ?_))
  exact⟨rfl,rfl,(k,QaC er),rfl,Qpt k h' a er⟩
 obtain⟨hv,⟨hi,hst⟩,hk,hs⟩:=her he
 have hst3:(Qbj k.tx tx).st≠3:=by omega
 subst he
 have F:=trivial
 refine rn F ?_
 repeat' (first
  | with_reducible exact⟨⟩
  | (refine sB F ?_ ?_<;>intro hZ)
  | (refine Qr (c2 hi hst3) rfl ?_; rintro⟨k1,r1⟩ hq; refine rn F ?_)
  | (refine Qr (c3 hi hst3) rfl ?_; rintro⟨k1,r1⟩ hq; refine rn F ?_)
  | refine vp F (c4) ?_
  | refine vp F (c5) ?_
  | refine vp F (Qah _) ?_
  | (refine Qr (c6) rfl ?_; rintro⟨g,nd⟩ -; refine rn F ?_)
  | (refine Qr (c7 ⟨_,_,_,_⟩) rfl ?_; rintro⟨u,hd,e7⟩ hu; refine rn F ?_)
  | (refine Qr (c8 u hu hv hi hst a (hs (by omega))) rfl ?_; rintro⟨k1,r1⟩ hq; refine rn F ?_)
  | (refine Qr (c9 u hu) rfl ?_; rintro cy -; refine rn F ?_)
  | (refine Qr (c10 u hu hi hst3) rfl ?_; rintro⟨k1,r1⟩ hq; refine rn F ?_)
  | (refine Qr (QBK ⟨k.pg,k.nx,k.lg,k.pl,u,k.tx,k.ix,k.la⟩ (Jc hu (by decide)) tx) rfl ?_; rintro n -; refine rn F ?_)
  | (refine Qb (id:=15) [0,1] [⟨[],[],2,[0],[]⟩,⟨[],[],3,[1],[]⟩,⟨[],[],4,[],[]⟩] (by kernel_rfl) (by kernel_rfl) ?_; refine rn F ?_)
  | (refine Qb (id:=21) [0,1] [⟨[],[],2,[0],[]⟩,⟨[],[],3,[1],[]⟩,⟨[],[],4,[],[]⟩] (by kernel_rfl) (by kernel_rfl) ?_; refine rn F ?_)
  | (refine Qb (id:=27) [0,1] [⟨[],[],2,[1],[]⟩,⟨[],[],3,[],[]⟩] (by kernel_rfl) (by kernel_rfl) ?_; refine rn F ?_)
  | (refine Qb (id:=28) [0,1] [⟨[],[],2,[1],[]⟩,⟨[],[],3,[],[]⟩] (by kernel_rfl) (by kernel_rfl) ?_; refine rn F ?_)
  | (refine Qb (id:=32) [0,1] [⟨[],[],2,[1],[]⟩,⟨[],[],3,[],[]⟩] (by kernel_rfl) (by kernel_rfl) ?_; refine rn F ?_)
  | (refine Qb (id:=33) [0,1] [⟨[],[],2,[1],[]⟩,⟨[],[],3,[],[]⟩] (by kernel_rfl) (by kernel_rfl) ?_; refine rn F ?_)
  | (refine Qb (id:=34) [0,1,2] [⟨[],[],3,[0],[4]⟩,⟨[],[],5,[1,2,4],[]⟩,⟨[],[],6,[],[]⟩] (by kernel_rfl) (by kernel_rfl) ?_; refine rn F ?_))
 all_goals first
  | exact⟨rfl,rfl,(k,QaC _),rfl,Qpt k h' a _⟩
  | exact⟨rfl,rfl,(⟨k.pg,k.nx,k.lg,k.pl,k.lk,(Qfk k.tx tx).1,k.ix,k.la⟩,⟨1,0,0,Ce0,0⟩),rfl,⟨h1,h2,h3,m4,h5,h6⟩,fun h=>by simp at h,fun h=>by simp at h,fun _ _ _=>(Str.one (.save tx (by omega))).mono (by omega)⟩
  | exact⟨rfl,rfl,(⟨k.pg,k.nx,k.lg,k.pl,k.lk,(QfF k.tx tx a.sl).1,k.ix,k.la⟩,⟨1,0,0,Ce0,0⟩),rfl,⟨h1,h2,h3,m5,h5,h6⟩,fun h=>by simp at h,fun h=>by simp at h,fun _ _ _=>(Str.one (.back tx a.sl (by omega))).mono (by omega)⟩
  | exact⟨rfl,rfl,(⟨k.pg,k.nx,k.lg,k.pl,u,k.tx,k.ix,k.la⟩,⟨2,n,0,Ce0,0⟩),rfl,hK u hu,fun h=>by simp at h,fun _=>Str.one (.lock u),fun _ h=>absurd rfl h⟩
  | exact⟨rfl,rfl,(k1,r1),rfl,hq.1,fun h=>by have:=hq.2.1; dsimp only at this h; omega,fun h=>by have:=hq.2.1; dsimp only at this h; omega,fun _ _ h=>(hq.2.2 h).mono (by omega)⟩
  | exact⟨rfl,rfl,(k1,r1),rfl,hq.1,fun h=>by have:=hq.2.1; dsimp only at this h; omega,fun h=>by have:=hq.2.1; dsimp only at this h; omega,fun _ _ h=>(Str.one (.lock u)).tr0 ((hq.2.2 h).mono (by omega))⟩
  | exact⟨rfl,rfl,(k1,r1),rfl,hq.1,fun h=>⟨Eq.trans (congrArg Kn.pl (hq.2.1 h).1) rfl,(hq.2.1 h).2.1,(hq.2.1 h).2.2,by have q:=(hq.2.1 h).1; dsimp only at q; subst q; exact Str.one (.lock u)⟩,fun h=>by have:=hq.2.2.1; dsimp only at this h; omega,fun a1 a2 a3=>(Str.one (.lock u)).tr0 (hq.2.2.2 (by have:=hq.2.2.1; dsimp only at this a1 a3 |-; omega))⟩
  | exact⟨rfl,rfl,(k,r1),rfl,h',fun h=>by dsimp only at h; omega,fun h=>by dsimp only at h; omega,fun _ _ h=>by dsimp only at h; omega⟩
  | skip
section
attribute [local go_sem] Qbo
def Qpf(h:∃ i,i<l.length/\a=(l.getD i Fm0).pg.id):∃ j:Nat,j<l.length/\idF l a=j/\(l.getD j Fm0).pg.id=a:=by
 obtain⟨i,hi,ha⟩:=h
 rcases Qbc l a with hn | ⟨j,hj,h1,h2⟩
 ·unfold idF Qhr at hn
  rw[if_pos (JC.2 ⟨l[i],Jt hi,by rw[ha,Qc l i hi]; simp⟩)] at hn
  omega
 ·exact⟨j,hj,h1,h2⟩
def Qvl(p:Pl)(a:Int)(h:p.fs.length<=64):(Qd1 p a).1.fs.length<=64:=by
 unfold Qd1
 repeat' split
 all_goals first
  | exact Jh _
  | (simp only[Jb,Jl,Js]; omega)
def Qy4(hp:plB p=true)(hi:0<=idF p.fs a)(hd:¬ (p.fs.getD (idF p.fs a).toNat Fm0).dirty=true):(Qd1 p a).2=0:=by
 unfold Qd1
 rw[if_neg (by rw[hp]; decide),if_neg (by omega),if_neg hd]
@[go_sem] def QGU(a:Kn×Pg×Bool×Int):DV:=.tup [.agg a.1.d,.agg a.2.1.d,.bool a.2.2.1,.int .i64 a.2.2.2]
def QGT(k:Kn)(a:Kn×Pg×Bool×Int):Prop:=a.1.sm/\(a.2.2.2=0->Str 0 k a.1/\a.1.tx=k.tx/\(a.2.2.1=true->plB a.1.pl=true/\SameF k.pl.fs a.1.pl.fs/\∃ i,i<a.1.pl.fs.length/\idF a.1.pl.fs a.2.1.id=i/\(a.1.pl.fs.getD i Fm0).pg=a.2.1/\(a.1.pl.fs.getD i Fm0).dirty=true))
def QBx(k:Kn)(h:k.sm):VCalls prog 202 [.agg k.d] [] (QL QGU (QGT k)):=by
 refine dk Tryz.func202 ?_
 have h':=h
 have c1:=Qa7 k h
 obtain⟨h1,h2,h3,h4,h5,h6⟩:=h
 have c2:=QBz k.pl (by omega)
 (unfold Tryz.f202; refine rn trivial ?_)
 refine Qr c1 rfl ?_
 rintro b hb
 cases b
 ·skip
  refine rn F ?_
  exact⟨rfl,rfl,(Kn0,Pg0,false,15),rfl,Qb1,fun h=>by simp at h⟩
 have hv:=hb rfl
 obtain⟨v1,v2,v3,v4,v5,v6,v7⟩:=hb rfl
 have hd:=QlF v4
 simp only[Pl.hd] at hd
 refine rn F ?_
 repeat' (first
  | with_reducible exact⟨⟩
  | (refine sB F ?_ ?_<;>intro hZ))
 ·exact⟨rfl,rfl,(k,Pg0,false,0),rfl,h',fun _=>⟨Str.refl _,rfl,fun h=>by simp at h⟩⟩
 refine Qr c2 rfl ?_
 rintro⟨p,id,e⟩ ⟨w1,w2,w3⟩
 obtain rfl:e=0:=w2 v4 (by omega)
 obtain⟨_,w4,w5,w6,w7⟩:=w1 rfl
 obtain⟨i,hi,hid,hix⟩:=Qpf w7
 dsimp only at w3 w4 w5 w6 hi hid hix
 have c3:=QcK p (by omega) id
 have hf:Qbx p id=i:=by unfold Qbx; rw[if_pos w4]; exact hid
 rw[hf] at c3
 have hg:=Qb9 p.fs i hi
 have c4:=Qxw p (by omega) id
 have hdl:=Qvl p id (by omega)
 have hdo:=fun hd=>Qy4 (p:=p) (a:=id) w4 (by rw[hid]; omega) hd
 rw[hid,Jk] at hdo
 have hsm:∀ q:Pl,q.fs.length<=64->(⟨k.pg,k.nx,k.lg,q,k.lk,k.tx,k.ix,k.la⟩:Kn).sm:=fun q hq=>⟨h1,hq,h3,h4,h5,h6⟩
 have c5:=QeE ⟨k.pg,k.nx,k.lg,p,k.lk,k.tx,k.ix,k.la⟩ (hsm p (by omega))
 generalize hff:p.fs.getD i Fm0=f at *
 have F:=@hg
 refine rn F ?_
 repeat' (first
  | with_reducible exact⟨⟩
  | (refine sB F ?_ ?_<;>intro hZ)
  | refine vp F (c3) ?_
  | refine vp F (c4) ?_
  | (refine Qr (c5 _) rfl ?_; rintro d hd2; refine rn F ?_)
  | (refine Qb (id:=7) [0,1,2,3] [⟨[7],[],4,[0,1],[5,6]⟩,⟨[7],[7],8,[],[]⟩] (by kernel_rfl) (by kernel_rfl) ?_; refine rn F ?_)
  | (refine Qb (id:=11) [0,1,2,3,5,6] [⟨[],[],4,[1,2,5,6],[]⟩,⟨[],[],7,[5,6],[]⟩,⟨[],[],8,[],[]⟩,⟨[],[],9,[],[]⟩,⟨[],[],10,[],[]⟩] (by kernel_rfl) (by kernel_rfl) ?_; refine rn F ?_))
 ·exact⟨rfl,rfl,(⟨k.pg,k.nx,k.lg,(Qd1 p id).1,k.lk,k.tx,k.ix,k.la⟩,Pg0,false,0),rfl,hsm _ hdl,fun _=>⟨(Str.one (.pool p w5)).step (.drop id (hdo (by first | assumption | simp_all))),rfl,fun h=>by simp at h⟩⟩
 ·exact⟨rfl,rfl,(⟨k.pg,k.nx,⟨k.lg.f,k.lg.es,d⟩,p,k.lk,k.tx,k.ix,k.la⟩,f.pg,true,0),rfl,⟨h1,by dsimp only; omega,h3,h4,h5,h6⟩,fun _=>⟨(Str.one (.pool p w5)).step (.force d hd2),rfl,fun _=>⟨w4,w5,i,hi,by dsimp only; rw[hix]; exact hid,by dsimp only; rw[hff],by dsimp only; rw[hff]; first | assumption | simp_all⟩⟩⟩
@[go_sem] def QFs(a:Kn×Pg×Int):DV:=.tup [.agg a.1.d,.agg a.2.1.d,.int .i64 a.2.2]
def QAe(k:Kn)(n:Int)(a:Kn×Pg×Int):Prop:=a.1.sm/\(a.2.2=0->Str 0 k a.1/\0<=Qbx k.pl n/\a.2.1=(QeT k.pl n).1/\a.1.pl=k.pl/\a.1.tx=k.tx)
def QxM(k:Kn)(h:k.sm)(n:Int):VCalls prog 125 [.agg k.d,.int .i64 n] [] (QL QFs (QAe k n)):=by
 refine dk Tryz.func125 ?_
 have c1:=Qa7 k h
 have h':=h
 obtain⟨h1,h2,h3,h4,h5,h6⟩:=h
 have c2:=QgZ k.pl (by omega) n
 have c3:=QeE k h'
 have hz:(QeT k.pl n).2=true->0<=Qbx k.pl n:=fun h=>by
  unfold QeT at h
  split at h
  ·simp at h
  ·omega
 unfold QAe
 generalize QeT k.pl n=g at *
 (unfold Tryz.f125; refine rn trivial ?_)
 refine rn F ?_
 repeat' (first
  | with_reducible exact⟨⟩
  | (refine sB F ?_ ?_<;>intro hZ)
  | (refine Qr (c1) rfl ?_; rintro b -; refine rn F ?_)
  | refine vp F (c2) ?_
  | (refine Qr (c3 _) rfl ?_; rintro d hd; refine rn F ?_)
  | (refine Qb (id:=6) [0,1,2,4] [⟨[],[],3,[1,4],[]⟩,⟨[],[],5,[4],[]⟩,⟨[],[],6,[],[]⟩,⟨[],[],7,[],[]⟩] (by kernel_rfl) (by kernel_rfl) ?_; refine rn F ?_))
 all_goals first
  | exact⟨rfl,rfl,(Kn0,Pg0,15),rfl,Qb1,fun h=>by simp at h⟩
  | exact⟨rfl,rfl,(Kn0,Pg0,18),rfl,Qb1,fun h=>by simp at h⟩
  | exact⟨rfl,rfl,(⟨k.pg,k.nx,⟨k.lg.f,k.lg.es,d⟩,k.pl,k.lk,k.tx,k.ix,k.la⟩,g.1,0),rfl,⟨h1,h2,h3,h4,h5,h6⟩,fun _=>⟨Str.one (.force d hd),hz (by first | assumption | simp_all),rfl,rfl,rfl⟩⟩
  | skip
def Qq3(p:Pl)(a n:Int)(h:p.fs.length<=64):(QaZ p a n).1.fs.length<=64:=by
 unfold QaZ
 repeat' split
 all_goals first | exact Jh _ | exact h | simpa using h
def QHA(id n:Int):E:=⟨0,7,0,0,0,n,⟨id,0,Ce0,Ce0⟩,[]⟩
def Qwm(k:Kn)(id n:Int)(a:Kn×Int):Prop:=a.1.sm/\(a.2=0->∃ e',AddOk k (QHA id n) e'/\a.1.tx=k.tx/\(0<=Qbx k.pl id->a.1=k.wrt e'/\(QaZ k.pl id n).2=0))
def Qqd (k:Kn) (h:k.sm) (id n:Int):VCalls prog 147 [.agg k.d,.int .i64 id,.int .i64 n] [] (QL kiD (Qwm k id n)):=by
 refine dk Tryz.func147 ?_
 have c1:=Qa7 k h
 have h':=h
 obtain⟨h1,h2,h3,h4,h5,h6⟩:=h
 have c2:=Qgk k.lg (by omega)
 have c3:=QcK k.pl (by omega) id
 have c4:=fun(h:n<=1099511627776) (h0:0<=n)=>Qs5 k.pl (by omega) id n h h0
 have c5:=Qeg k h' ⟨0,7,0,0,0,n,⟨id,0,Ce0,Ce0⟩,[]⟩
 have hcl:=Qq3 k.pl id n h2
 (unfold Tryz.f147; refine rn trivial ?_)
 refine Qr c1 rfl ?_
 rintro b hb
 cases b
 ·skip
  refine rn F ?_
  exact⟨rfl,rfl,(Kn0,15),rfl,Qb1,fun h=>by simp at h⟩
 have hv:=hb rfl
 have hls:Qho k.lg<=1099511627776:=by
  unfold Qho; rw[if_pos hv.2.2.1]; exact Que hv.2.2.1
 refine rn F ?_
 repeat' (first
  | with_reducible exact⟨⟩
  | (refine sG F ?_ ?_<;>intro hZ)
  | (refine sB F ?_ ?_<;>intro hZ)
  | refine vp F (c2) ?_
  | refine vp F (c3) ?_
  | refine vp F (c4 (by omega) (by omega)) ?_
  | (refine Qr (c5) rfl ?_; rintro⟨k1,n1,e1⟩ hq; refine rn F ?_))
 all_goals first
  | exact⟨rfl,rfl,(Kn0,1),rfl,Qb1,fun h=>by simp at h⟩
  | exact⟨rfl,rfl,(Kn0,(QaZ k.pl id n).2),rfl,Qb1,fun h=>absurd h (by assumption)⟩
  | exact⟨rfl,rfl,(Kn0,e1),rfl,Qb1,fun h=>absurd h (by assumption)⟩
  | (have he1:e1 = 0:=by omega
     obtain⟨e',ha,hk1,hn1,hl1⟩:=hq.2 he1
     have q8:=Qv5 hq he1 rfl
     obtain⟨r1,r2,r3,r4,r5,r6⟩:=hq.1
     first
      | exact⟨rfl,rfl,(⟨k1.pg,k1.nx,k1.lg,(QaZ k.pl id n).1,k1.lk,k1.tx,k1.ix,k1.la⟩,0),rfl,⟨r1,hcl,r3,r4,r5,r6⟩,fun _=>⟨e',ha,q8,fun _=>⟨by dsimp only at hk1; subst hk1; unfold Kn.wrt; rw[ha.2.1.2.2.2.1,ha.2.1.2.2.1]; rfl,by omega⟩⟩⟩
      | exact⟨rfl,rfl,(⟨k1.pg,k1.nx,k1.lg,k.pl,k1.lk,k1.tx,k1.ix,k1.la⟩,0),rfl,⟨r1,h2,r3,r4,r5,r6⟩,fun _=>⟨e',ha,q8,fun h=>by omega⟩⟩)
  | skip
end
section
attribute [local go_sem] Qbo
def QtJ(h:(QoV p x).2=0):plB p=true/\Qa0 x=0/\idF p.fs x.id<0/\¬ (p.fs.length:Int)=p.size:=by
 unfold QoV at h
 split at h
 ·simp at h
 rename_i q1
 split at h
 ·rename_i q2; exact absurd h q2
 rename_i q2
 split at h
 ·simp at h
 rename_i q3
 split at h
 ·simp at h
 rename_i q4
 exact⟨by simpa using q1,by simpa using q2,by omega,q4⟩
def QGq(p:Pl)(x:Pg)(o:Nat):Qa:=[⟨52,true,[.int .i64 p.size,.own (o+5) 37 0 (p.fs.length+1),.int .i64 p.hand]⟩,⟨207,true,x.d⟩,⟨52,true,[.int .i64 p.size,.own (o+5) 37 0 (p.fs.length+1),.int .i64 p.hand]⟩,⟨211,false,[]⟩,⟨211,true,Fm.d ⟨x,false,0,true⟩⟩,⟨211,true,cells QcH (p.fs++[⟨x,false,0,true⟩])⟩]
def QBD(p:Pl)(hl:p.fs.length<=100000)(x:Pg)(h:(QoV p x).2=0):VCalls prog 206 [.agg p.d,.agg x.d] [] fun r h'=>r=.tup [.agg [.int .i64 p.size,.own 5 37 0 (p.fs.length+1),.int .i64 p.hand],.int .i64 0]/\h'=QGq p x 0:=by
 refine QO (fn:=Tryz.f206) Tryz.func206 rfl (by kernel_rfl) (by simp[Tryz.f206]) ?_
 obtain⟨e1,e2,e3,e4⟩:=QtJ h
 have c1:=Qap p (by omega)
 have c2:=QdJ x
 have c3:=QcL p (by omega) x.id
 rw[e1] at c1
 rw[e2] at c2
 have e5:¬ 0<=idF p.fs x.id:=by omega
 generalize idF p.fs x.id=m at *
 (unfold Tryz.f206; refine rn trivial ?_)
 have F:=(Ja @e5 @e4)
 refine rn F ?_
 repeat' (first
  | with_reducible exact⟨⟩
  | refine vp F (c1) ?_
  | refine vp F (c2) ?_
  | refine vp F (c3) ?_
  | (refine Qb (id:=10) [0,1,3,4] [⟨[5],[],2,[0,3,4],[]⟩,⟨[5],[5],6,[0,1,3,4],[7]⟩,⟨[],[],8,[],[]⟩] (by kernel_rfl) (by kernel_rfl) ?_; refine rn F ?_))
 all_goals rfl
def Qja(hp h':Qa):QW hp [] h'=hp++h'.map (QcV (back [] hp.length)):=by
 unfold QW
 congr 1
 apply List.ext_getElem?
 intro k
 rw[JP]
 by_cases hk:k<hp.length
 ·rw [List.getElem?_range hk]
  simp[Jz hk]
 ·rw [JI (l:=Ji hp.length) (by simpa using hk),JI (l:=hp) (by omega)]
  rfl
def QEg(p:Pl)(hl:p.fs.length<=100000)(x:Pg)(hz:(QoV p x).2=0)(h:K (.tup [.agg [.int .i64 p.size,.own (hp.length+5) 37 0 (p.fs.length+1),.int .i64 p.hand],.int .i64 0]) (hp++QGq p x hp.length)):VCalls prog 206 [.agg p.d,.agg x.d] hp K:=by
 refine(VCalls.frame [] JZ rfl rfl (QBD p hl x hz) rfl rfl).mono ?_
 rintro r h2 ⟨r0,h',⟨rfl,rfl⟩,-,rfl,rfl⟩
 rw[Qja]
 have e1:QcV (back [] hp.length) ⟨207,true,x.d⟩=⟨207,true,x.d⟩:=QaW rfl
 have e2:QcV (back [] hp.length) ⟨211,true,Fm.d ⟨x,false,0,true⟩⟩=⟨211,true,Fm.d ⟨x,false,0,true⟩⟩:=QaW rfl
 have e3:QcV (back [] hp.length) ⟨211,true,cells QcH (p.fs++[⟨x,false,0,true⟩])⟩=⟨211,true,cells QcH (p.fs++[⟨x,false,0,true⟩])⟩:=QaW (Qg _ _ _)
 simp only[QGq,Jw,Jv,e1,e2,e3] at h |-
 exact h
def QEv(l:List Fm)(f:Fm)(b:Bool):(cells QcH (l++[f])).set (l.length*37+34) (.pv (.lit (.bool b)))=cells QcH (l++[⟨f.pg,b,f.rc,f.used⟩]):=by
 rw[<- QvZ,<- QvZ,<- QGr l,JJ _ _ (JT _ _),JB]; rfl
def QEu(l:List Fm)(f:Fm)(n:Int):(cells QcH (l++[f])).set (l.length*37+35) (.pv (.lit (.int .i64 n)))=cells QcH (l++[⟨f.pg,f.dirty,n,f.used⟩]):=by
 rw[<- QvZ,<- QvZ,<- QGr l,JJ _ _ (JT _ _),JB]; rfl
def QH7(k:Kn)(x:Pg)(a:Kn×Int):Prop:=a.1.sm/\(a.2=0->Str 0 k a.1/\a.1.lg=k.lg/\a.1.tx=k.tx/\0<=idF a.1.pl.fs x.id)
def QGI(c:VCalls P g args hp (QL f Q))(h:∀ a,Q a->f a=d):VCalls P g args hp (Ret d):=
 c.mono fun _ _ ⟨h1,h2,a,e,q⟩=>⟨h1,h2,e.trans (h a q)⟩
def flY(l:List Dt)(n:Int)(i:Nat):List Dt:=(l.take i).filter fun d=>decide (d.pg≠n)
def QyV(l:List Dt)(n:Int)(i:Nat)(h:i<l.length):flY l n (i+1)=if (l.getD i Dt0).pg=n then flY l n i else flY l n i++[l.getD i Dt0]:=by
 unfold flY
 rw[List.take_succ_eq_append_getElem h,List.filter_append,Qc l i h]
 split<;>rename_i hx<;>simp[hx]
def QC2(l:List Dt)(n:Int)(i:Nat):(flY l n i).length<=i:=Jc (JH _ _) (by rw[Jl]; omega)
def QyC(l:List Fm)(f:Fm):0<=idF (l++[f]) f.pg.id:=by
 obtain⟨j,_,h,_⟩:=Qpf (l:=l++[f]) (a:=f.pg.id) ⟨l.length,by simp,by rw[Jg,Jp (Ju _),JR]; rfl⟩
 omega
def QsW (k:Kn) (h:k.sm) (x:Pg):VCalls prog 161 [.agg k.d,.agg x.d] [] (QL kiD (QH7 k x)):=by
 refine dk Tryz.func161 ?_
 have h':=h
 have c1:=QbS k h
 have c2:=QGI (d:=.int .i64 (Qfr k x.id)) (Qns k h x.id) fun a q=>by rw[q]; rfl
 obtain⟨h1,h2,h3,h4,h5,h6⟩:=h
 have c3:=QBC k.pl (by omega) x
 have c4:=Qgj k (by omega) x.id
 (unfold Tryz.f161; refine rn trivial ?_)
 cases hv:kB k
 ·rw [hv] at c1
  refine rn F ?_
  repeat' (first
   | with_reducible exact⟨⟩
   | refine vp F (c1) ?_)
  exact⟨rfl,rfl,(Kn0,_),rfl,Qb1,fun h=>by simp at h⟩
 rw[hv] at c1
 refine rn F ?_
 repeat' (first
  | with_reducible exact⟨⟩
  | (refine sG F ?_ ?_<;>intro hZ)
  | (refine sB F ?_ ?_<;>intro hZ)
  | refine vp F (c1) ?_
  | refine vp F (c2) ?_
  | (refine Qb (id:=5) [0,1,2,3,4] [⟨[],[],5,[0,1,3],[6]⟩,⟨[],[],7,[0,1,2,3,4],[]⟩] (by kernel_rfl) (by kernel_rfl) ?_; refine rn F ?_)
  | (refine Qb (id:=7) [0,1,2,3,4] [⟨[],[],5,[0,1,3],[6]⟩,⟨[],[],7,[0,1,2,3,4],[]⟩] (by kernel_rfl) (by kernel_rfl) ?_; refine rn F ?_))
 all_goals first
  | exact⟨rfl,rfl,(Kn0,_),rfl,Qb1,fun h=>by simp at h⟩
  | skip
 have hpe:(QoV k.pl x).2≠0->(QoV k.pl x).1=Pl0:=fun h=>by
  unfold QoV at h |-
  repeat' split
  all_goals first | rfl | simp_all
 by_cases hz:(QoV k.pl x).2=0
 rotate_left
 ·rw [hpe hz] at c3
  have F:=@hz
  refine rn F ?_
  repeat' (first
   | with_reducible exact⟨⟩
   | refine vp F (c3) ?_)
  exact⟨rfl,rfl,(Kn0,_),rfl,Qb1,fun h=>absurd h hz⟩
 refine QEg k.pl (by omega) x hz ?_
 obtain⟨p1,p2,p3,p4⟩:=QtJ hz
 have hd:=QlF p1
 simp only[Pl.hd] at hd
 unfold QGq
 have s34:=QEv k.pl.fs
 have s35:=QEu k.pl.fs
 have hi0:=QyC k.pl.fs
 have hnn:k.pl.fs.length+1-1=k.pl.fs.length:=by omega
 have h34:(k.pl.fs.length*37+34<(k.pl.fs.length+1)*37)=True:=eq_true (by omega)
 have h35:(k.pl.fs.length*37+35<(k.pl.fs.length+1)*37)=True:=eq_true (by omega)
 have F:=(Ja @s34 (Ja @s35 (Ja @hnn (Ja @h34 @h35))))
 refine rn F ?_
 repeat' (first
  | with_reducible exact⟨⟩
  | (refine sB F ?_ ?_<;>intro hZ)
  | (refine Qr (c4) rfl ?_; rintro⟨d,b2⟩ hdl; refine rn F ?_))
 rotate_left
 ·exact⟨rfl,rfl,(⟨k.pg,k.nx,k.lg,⟨k.pl.size,k.pl.fs++[⟨x,false,0,true⟩],k.pl.hand⟩,k.lk,k.tx,k.ix,k.la⟩,0),rfl,⟨h1,by simp; omega,h3,h4,h5,h6⟩,fun _=>⟨Str.one (.put x hv ⟨by omega,by omega⟩ (by omega) hz (by rw[<- hdl]; first | assumption | simp_all)),rfl,rfl,hi0 ⟨x,false,0,true⟩⟩⟩
 have hd1:(QaN k.la x.id).1=d:=by rw[<- hdl]
 have hb2:(QaN k.la x.id).2=true:=by rw[<- hdl]; first | assumption | simp_all
 have hst:=Stp.putl (k:=k) x hv ⟨by omega,by omega⟩ (by omega) hz hb2
 rw[hd1] at hst
 refine VLoop.nilOwn 10 219 3 rfl ?_
 refine rn trivial ?_
 refine Qj (fun s:To k.la.length=>⟨113,0,[(11,.int .i64 s.i),(10,.own 5 3 0 (flY k.la x.id s.i).length),(6,.ptr 4 0),(4,.ptr 2 0),(3,.ptr 1 0),(2,.ptr 0 0)],
  [⟨62,true,k.d⟩,⟨207,true,x.d⟩,⟨62,true,[.int .i64 0,.int .i64 0,.int .i64 0,.pv (.slc []),.int .i64 0,.int .i64 0,.pv (.slc []),.int .i64 0,.pv (.slc []),.pv (.slc []),.pv (.slc []),.pv (.slc []),.pv (.slc [])]⟩,⟨211,true,cells QcH (k.pl.fs++[⟨x,true,d.rc,true⟩])⟩,⟨52,true,[.int .i64 k.pl.size,.own 3 37 0 (k.pl.fs.length+1),.int .i64 k.pl.hand]⟩,⟨219,true,cells QcZ (flY k.la x.id s.i)⟩]⟩) (fun s=>k.la.length-s.i) ⟨0,Jh _⟩ (gc [0,1,2,8,9,11]) ?_
 rintro⟨i,hi⟩
 dsimp only
 have hsu:=QyV k.la x.id i
 have ho:=QC2 k.la x.id i
 have hfin:k.la.length<=i->flY k.la x.id i=k.la.filter fun d=>decide (d.pg≠x.id):=fun h=>by unfold flY; rw[JD h]
 generalize hout:flY k.la x.id i=out at *
 have hy:=fun h:i<k.la.length=>QeU k.la i h
 have hb:(out.length+1)*24<=140737488355328:=by omega
 have F:=(Ja @hy @hb)
 refine rn F ?_
 repeat' (first
  | with_reducible exact⟨⟩
  | (refine sB F ?_ ?_<;>intro hZ)
  | (refine Qb (id:=20) [0,1,2,3,4,5,6,7,8] [] (by kernel_rfl) (by kernel_rfl) ?_; refine rn F ?_))
 all_goals first
  | (have e1:=hsu (by omega)
     rw[if_pos (by first | assumption | omega)] at e1
     refine⟨⟨i+1,by omega⟩,by dsimp only; omega,?_⟩
     dsimp only
     rw[e1]
     exact(gc [0,1,2,3,4,5]))
  | (have e1:=hsu (by omega)
     rw[if_neg (by first | assumption | omega)] at e1
     refine⟨⟨i+1,by omega⟩,by dsimp only; omega,?_⟩
     dsimp only
     rw[e1,Jb]
     exact(gc [0,1,2,3,4,7]))
  | (have e1:=hfin (by omega)
     rw[<- e1] at hst
     exact⟨rfl,rfl,(⟨k.pg,k.nx,k.lg,⟨k.pl.size,k.pl.fs++[⟨x,true,d.rc,true⟩],k.pl.hand⟩,k.lk,k.tx,k.ix,out⟩,0),rfl,⟨h1,by simp; omega,h3,h4,h5,by dsimp only; omega⟩,fun _=>⟨Str.one hst,rfl,rfl,hi0 ⟨x,true,d.rc,true⟩⟩⟩)
  | skip
end
def QHK(l:List (List UInt8)):(cells QdT l).length=l.length*1:=Qo QdT l
def QID(l:List (List UInt8))(n:Nat)(h:l.length*1<=n):(cells QdT l).take n=cells QdT l:=by rw[JD]; rw[QHK]; exact h
def QH8(l:List (List UInt8)):(fz QdT l=[]\/(fz QdT l)[0]?.map J2=some 1)=True:=QfU QdT l
def QIq(h:l.length=len):Qpi n hp 0 1 len (some (cells QdT l))=some (.sl (fz QdT l)):=Qac QdT h
attribute [go_sem] QHK QID QH8 QIq
def Qz9(l:List (List UInt8))(i:Nat)(h:i<l.length):(fz QdT l)[i]?=some [.str (l.getD i [])]:=Qdo QdT l [] i h
def QHq(l:List (List UInt8))(x:List UInt8):cells QdT l++[.pv (.str x)]=cells QdT (l++[x]):=by rw[QD]; rfl
def QHY(l:List (List UInt8)):DV.wk.go (cells QdT l)=cells QdT l:=Qbr QdT l fun a p hp=>by
 simp[QdT] at hp; subst hp; rfl
attribute [go_sem] QHq QHY
structure Dv where
 ps:List (List UInt8)
 wr:Int
 dead:Bool
@[go_sem] def Dv.d(v:Dv):List DV:=[.pv (.sl (fz QdT v.ps)),.int .i64 v.wr,.pv (.sl []),.bool v.dead,.pv (.sl [])]
def Dv0:Dv:=⟨[],0,false⟩
def QHV(v:Dv):Prop:=(1<=v.ps.length/\v.ps.length<=64)/\(0<=v.wr/\v.wr<=1099511627776)/\∀ i,i<v.ps.length->(v.ps.getD i []).length=256
def Qtt(v:Dv)(hl:v.ps.length<=100000):VCalls prog 229 [.agg v.d] [] (QL boD fun b=>b=true->QHV v):=by
 refine dd Tryz.func229 ?_
 (unfold Tryz.f229; refine rn trivial ?_)
 refine rn F ?_
 repeat' (first
  | with_reducible exact⟨⟩
  | (refine sG F ?_ ?_<;>intro hZ))
 all_goals first
  | exact⟨rfl,rfl,false,rfl,fun h=>by cases h⟩
  | skip
 refine Qj (fun s:Okay v.ps.length (fun i=>decide ((v.ps.getD i []).length=256))=>⟨99,0,[(4,.int .i64 s.i),(3,.int .i64 v.ps.length),(1,.ptr 0 0)],[⟨99,true,v.d⟩]⟩) (fun s=>v.ps.length-s.i) (Okay.start _ _) (gc [0]) ?_
 intro s
 have hsi:=s.hi
 have hg:=fun h:s.i<v.ps.length=>Qz9 v.ps s.i h
 have F:=@hg
 refine rn F ?_
 repeat' (first
  | with_reducible exact⟨⟩
  | (refine sB F ?_ ?_<;>intro hZ))
 all_goals first
  | exact⟨rfl,rfl,false,rfl,fun h=>by cases h⟩
  | exact⟨s.next (by omega) (decide_eq_true (by omega)),s.dec (by omega),(gc [0])⟩
  | skip
 have hall:=s.all (by omega)
 simp only[Jn,Jr,decide_eq_true_eq] at hall
 refine Qj (fun s:Unit=>⟨99,0,[(5,.int .i64 0),(3,.int .i64 v.ps.length),(1,.ptr 0 0)],[⟨99,true,v.d⟩]⟩) (fun s=>0) () (gc [0]) ?_
 intro _
 have F:=trivial
 refine rn F ?_
 refine Qj (fun s:Unit=>⟨99,0,[(6,.int .i64 0),(1,.ptr 0 0)],[⟨99,true,v.d⟩]⟩) (fun s=>0) () (gc [0]) ?_
 intro _
 have F:=trivial
 refine rn F ?_
 exact⟨rfl,rfl,true,rfl,fun _=>⟨⟨by omega,by omega⟩,⟨by omega,by omega⟩,fun i hi=>hall i hi⟩⟩
def usQ(v:Dv)(n e:Int):Prop:=e=0->QHV v/\0<=n/\n<v.ps.length
def QgX(v:Dv)(hl:v.ps.length<=100000)(n:Int):VCalls prog 180 [.agg v.d,.int .i64 n] [] (QL inD (usQ v n)):=by
 refine dd Tryz.func180 ?_
 have c1:=Qtt v hl
 unfold usQ
 (unfold Tryz.f180; refine rn trivial ?_)
 refine rn F ?_
 repeat' (first
  | with_reducible exact⟨⟩
  | (refine sG F ?_ ?_<;>intro hZ)
  | (refine sB F ?_ ?_<;>intro hZ)
  | (refine Qr (c1) rfl ?_; rintro b hb; refine rn F ?_))
 all_goals first
  | exact⟨rfl,rfl,_,rfl,fun h=>absurd h (by decide)⟩
  | exact⟨rfl,rfl,0,rfl,fun _=>⟨hb (by assumption),by omega,by omega⟩⟩
  | skip
def QEG(n:Int):VCalls prog 203 [.pv (.sl []),.int .i64 n] [] (Ret (.bool false)):=by
 refine dd Tryz.func203 ?_
 (unfold Tryz.f203; refine rn trivial ?_)
 refine Qj (fun s:Unit=>⟨18,0,[(5,.int .i64 0),(1,.int .i64 n),(0,.pv (.sl []))],[]⟩) (fun s=>0) () (gc []) ?_
 intro _
 (refine rn F ?_; try with_reducible exact⟨⟩)
def Qqe(n:Int):VCalls prog 230 [.pv (.sl []),.int .i64 n] [] (Ret (.pv (.sl []))):=by
 refine dk Tryz.func230 ?_
 (unfold Tryz.f230; refine rn trivial ?_)
 refine VLoop.wkS ?_
 refine rn trivial ?_
 refine Qj (fun s:Unit=>⟨27,0,[(6,.int .i64 0),(5,.pv (.sl [])),(1,.int .i64 n),(0,.pv (.sl []))],[]⟩) (fun s=>0) () (gc []) ?_
 intro _
 (refine rn F ?_; try with_reducible exact⟨⟩)
@[go_sem] def siD(a:List UInt8×Int):DV:=.tup [.pv (.str a.1),.int .i64 a.2]
def QxR(v:Dv)(hl:v.ps.length<=100000)(n:Int):VCalls prog 157 [.agg v.d,.int .i64 n] [] (QL siD fun a=>a.2=0->a.1.length=256):=by
 refine dd Tryz.func157 ?_
 have c1:=QgX v hl n
 have c2:=QEG n
 (unfold Tryz.f157; refine rn trivial ?_)
 have hg:=fun h:n.toNat<v.ps.length=>Qz9 v.ps n.toNat h
 refine Qr c1 rfl ?_
 rintro e he
 by_cases h0:e=0
 ·obtain ⟨q1,q2,q3⟩:=he h0
  subst h0
  have F:=@hg
  refine rn F ?_
  repeat' (first
   | with_reducible exact⟨⟩
   | refine vp F (c2) ?_)
  exact⟨rfl,rfl,(v.ps.getD n.toNat [],0),rfl,fun _=>q1.2.2 _ (by omega)⟩
 ·skip
  have F:=@h0
  refine rn F ?_
  exact⟨rfl,rfl,([],e),rfl,fun h=>absurd h h0⟩
section
attribute [local go_sem] Qbo
def Qse(k:Nat)(c:VCalls P g args0 [B] fun r h'=>r=r0/\h'=[B'])(hk:hp[k]?=some B)(hB:B.live=true/\DV.nums.go (fun _=>false) B.cells=true)(hB':DV.nums.go (fun _=>false) B'.cells=true)(ha0:args0=args.map (DV.ren fun j=>[k].idxOf j))(ha:DV.nums.go [k].contains args=true)(hr:r0.ren (back [k] hp.length)=r2)(h:K r2 (hp.set k B')):VCalls P g args hp K:=by
 subst hr
 have hlt:k<hp.length:=(List.getElem?_eq_some_iff.1 hk).1
 have hg:hp.getD k default=B:=by rw[Jg,hk]; rfl
 have hpl:QfQ hp [k]:=⟨⟨hlt,by rw[hg]; exact hB.2⟩,trivial⟩
 refine(VCalls.frame [k] (by simp) (by rw[Qb7 hpl]; simp only[Jw,Jv,hg]) (Qb8 hpl) c ha0 ha).mono ?_
 rintro r h2 ⟨r1,h',⟨rfl,rfl⟩,-,rfl,rfl⟩
 rw[Qra hlt,Jv,List.append_nil,QaW hB']
 exact h
def dvO(k n:Nat)(wr:Int)(dead:Bool):DV:=.agg [.own k 1 0 n,.int .i64 wr,.pv (.sl []),.bool dead,.pv (.sl [])]
def QBl(l:List (List UInt8))(i:Nat)(s:List UInt8)(h:i<l.length):(cells QdT l).set i (.pv (.str s))=cells QdT (l.set i s):=by
 rw[QvK,QvK,JQ]
def QoE(ps:List (List UInt8))(wr:Int)(dead:Bool)(i:Nat)(hi:i<ps.length)(h6:(ps.getD i []).length=256)(s:List UInt8)(n:Nat)(hn:n<=256)(hs:s.length=256) :
 VCalls prog 182 [dvO 0 ps.length wr dead,.int .i64 i,.pv (.str s),.int .i64 n] [⟨9,true,cells QdT ps⟩] (fun r h'=>r=dvO 0 ps.length wr dead/\h'=[⟨9,true,cells QdT (ps.set i (s.take n++(ps.getD i []).drop n))⟩]):=by
 unfold dvO
 refine dd Tryz.func182 ?_
 have c1:=Qqe i
 have hg:=Qq4 ps i hi
 have hse:=fun s=>QBl ps i s hi
 generalize ps.getD i []=q at *
 (unfold Tryz.f182; refine rn trivial ?_)
 have hlt:(i<ps.length)=True:=eq_true hi
 have F:=(Ja @hg (Ja @hse @hlt))
 refine rn F ?_
 repeat' (first
  | with_reducible exact⟨⟩
  | refine vp F (c1) ?_
  | (refine Qb (id:=1) [0,1,2,3,4,5,6,7,8,9,10,11,12,13,14] [⟨[],[],15,[],[]⟩] (by kernel_rfl) (by kernel_rfl) ?_; refine rn F ?_))
 all_goals exact⟨rfl,rfl⟩
def cpD(o:Nat)(v:Dv):List DV:=[.own (o+2) 1 0 v.ps.length,.int .i64 v.wr,.own (o+3) 1 0 0,.bool v.dead,.own (o+4) 6 0 0]
def Qq0(v:Dv)(o:Nat):Qa:=[⟨99,true,cpD o v⟩,⟨99,true,cpD o v⟩,⟨9,true,cells QdT v.ps⟩,⟨3,true,[]⟩,⟨276,true,[]⟩]
def QBR(v:Dv)(hl:v.ps.length<=100000):VCalls prog 181 [.agg v.d] [] fun r h'=>r=.agg (cpD 0 v)/\h'=Qq0 v 0:=by
 refine QO (fn:=Tryz.f181) Tryz.func181 rfl (by kernel_rfl) (by simp[Tryz.f181]) ?_
 unfold cpD Qq0
 have hb:v.ps.length*16<=140737488355328:=by omega
 (unfold Tryz.f181; refine rn trivial ?_)
 have F:=@hb
 (refine rn F ?_; try with_reducible exact⟨⟩)
 all_goals first | rfl | exact⟨rfl,rfl⟩
def Qsg(v:Dv)(hl:v.ps.length<=100000)(h:K (.agg (cpD hp.length v)) (hp++Qq0 v hp.length)):VCalls prog 181 [.agg v.d] hp K:=by
 refine(VCalls.frame [] JZ rfl rfl (QBR v hl) rfl rfl).mono ?_
 rintro r h2 ⟨r0,h',⟨rfl,rfl⟩,-,rfl,rfl⟩
 rw[Qja]
 have e3:QcV (back [] hp.length) ⟨9,true,cells QdT v.ps⟩=⟨9,true,cells QdT v.ps⟩:=QaW (Qg _ _ _)
 simp only[Qq0,Jw,Jv,e3] at h |-
 exact h
@[go_sem] def dvD(a:Dv×Int):DV:=.tup [.agg a.1.d,.int .i64 a.2]
def dvQ(a:Dv×Int):Prop:=a.1.ps.length<=64
def QBt(v:Dv)(hl:v.ps.length<=100000)(pg:Int)(s:List UInt8)(hs0:s.length<=1000000)(n:Int):VCalls prog 151 [.agg v.d,.int .i64 pg,.pv (.str s),.int .i64 n] [] (QL dvD dvQ):=by
 refine dk Tryz.func151 ?_
 have c1:=QgX v hl pg
 (unfold Tryz.f151; refine rn trivial ?_)
 refine Qr c1 rfl ?_
 rintro e he
 by_cases h0:e=0
 rotate_left
 ·skip
  have F:=@h0
  refine rn F ?_
  exact⟨rfl,rfl,(Dv0,e),rfl,Jh _⟩
 obtain⟨q1,q2,q3⟩:=he h0
 subst h0
 have F:=trivial
 refine rn F ?_
 repeat' (first
  | with_reducible exact⟨⟩
  | (refine sG F ?_ ?_<;>intro hZ)
  | (refine sB F ?_ ?_<;>intro hZ))
 all_goals first
  | exact⟨rfl,rfl,(Dv0,_),rfl,Jh _⟩
  | skip
 obtain⟨i,rfl⟩:∃ i:Nat,pg=i:=⟨pg.toNat,by omega⟩
 obtain⟨m,rfl⟩:∃ m:Nat,n=m:=⟨n.toNat,by omega⟩
 have hi:i<v.ps.length:=by omega
 refine Qsg v hl ?_
 unfold Qq0 cpD
 refine rn trivial ?_
 refine VCalls.neA ?_
 have hpos:0<v.ps.length:=by omega
 simp only[Jw,Jv,DV.ne,Qt8 hpos,Qo3,Qz2]
 refine Qse 4 (QoE v.ps v.wr v.dead i hi (q1.2.2 i hi) s m (by omega) (by omega)) rfl ⟨rfl,Qg _ _ _⟩ (Qg _ _ _) rfl rfl (r2:=dvO 4 v.ps.length v.wr v.dead) rfl ?_
 unfold dvO
 have hle:∀ x,(v.ps.set i x).length=v.ps.length:=fun x=>Jo
 have F:=@hle
 refine rn F ?_
 exact⟨rfl,rfl,(⟨v.ps.set i (s.take m++(v.ps.getD i []).drop m),v.wr,v.dead⟩,0),rfl,by unfold dvQ; dsimp only; rw[hle]; exact q1.1.2⟩
def QtD(n:Int)(hn:n<=64):VCalls prog 109 [.int .i64 n] [] (QL (fun l:List (List UInt8)=>.pv (.sl (fz QdT l))) fun l=>l.length<=64):=by
 refine dk Tryz.func109 ?_
 (unfold Tryz.f109; refine rn trivial ?_)
 refine VLoop.nilOwn 3 9 1 rfl ?_
 refine rn trivial ?_
 refine Qj (fun s:{s:Nat×List (List UInt8) // s.1<=64/\s.2.length=s.1}=>⟨16,0,[(4,.int .i64 s.1.1),(3,.own 0 1 0 s.1.2.length),(0,.int .i64 n)],[⟨9,true,cells QdT s.1.2⟩]⟩) (fun s=>64-s.1.1) ⟨(0,[]),by simp⟩ (gc [0]) ?_
 rintro⟨⟨i,out⟩,hi,ho⟩
 dsimp only at hi ho |-
 have hb:(out.length+1)*16<=140737488355328:=by omega
 have hm:(((1:Nat):Int)*256<=281474976710656)=True:=eq_true (by decide)
 have hcw:=fun(hp:Qa) (k o n:Nat)=>Qgw (hp:=hp) (k:=k) (off:=o) (len:=n) QHk
 have hcv:∀ hp:Qa,QAU hp 0 256 (some (cells Qfv (Jj 256 0)))=some (.pv (.str (Jj 256 0)),hp):=fun hp=>Qfc (by simp)
 have F:=(Ja @hb (Ja @hm (Ja @hcw @hcv)))
 refine rn F ?_
 repeat' (first
  | with_reducible exact⟨⟩
  | (refine sB F ?_ ?_<;>intro hZ))
 all_goals first
  | exact⟨⟨(i+1,out++[Jj 256 0]),by dsimp only; omega,by simp; omega⟩,by dsimp only; omega,by dsimp only; rw[Jb]; exact(gc [3])⟩
  | exact⟨rfl,rfl,out,rfl,by omega⟩
  | skip
end
section
attribute [local go_sem] Qbo
def Qts(v:Dv)(hl:v.ps.length<=100000)(pg:Int)(s:List UInt8)(hs0:s.length<=1000000):VCalls prog 146 [.agg v.d,.int .i64 pg,.pv (.str s)] [] (QL dvD dvQ):=by
 refine dk Tryz.func146 ?_
 have c1:=QgX v hl pg
 (unfold Tryz.f146; refine rn trivial ?_)
 refine Qr c1 rfl ?_
 rintro e he
 by_cases h0:e=0
 rotate_left
 ·skip
  have F:=@h0
  refine rn F ?_
  exact⟨rfl,rfl,(Dv0,e),rfl,Jh _⟩
 obtain⟨q1,q2,q3⟩:=he h0
 subst h0
 have F:=trivial
 refine rn F ?_
 repeat' (first
  | with_reducible exact⟨⟩
  | (refine sB F ?_ ?_<;>intro hZ))
 all_goals first
  | exact⟨rfl,rfl,(Dv0,_),rfl,Jh _⟩
  | skip
 obtain⟨i,rfl⟩:∃ i:Nat,pg=i:=⟨pg.toNat,by omega⟩
 have hi:i<v.ps.length:=by omega
 have hwr:=q1.2.1
 refine Qsg v hl ?_
 unfold Qq0 cpD
 have F:=trivial
 refine rn F ?_
 refine Qj (fun _:Unit=>⟨166,0,[(11,.int .i64 0),(10,.pv (.slc [])),(9,.ptr 4 0),(6,.ptr 1 0),(3,.ptr 0 0),(2,.pv (.str s)),(1,.int .i64 i)],[⟨99,true,v.d⟩,⟨99,true,[.pv (.slc []),.int .i64 0,.pv (.slc []),.bool false,.pv (.slc [])]⟩,⟨9,true,cells QdT v.ps⟩,⟨3,true,[]⟩,⟨99,true,[.own 2 1 0 v.ps.length,.int .i64 (v.wr+1),.own 3 1 0 0,.bool v.dead,.pv (.slc [])]⟩]⟩) (fun _=>0) () (gc [0,1,4,5,7]) ?_
 intro _
 have F:=trivial
 refine rn F ?_
 refine Qj (fun _:Unit=>⟨166,0,[(13,.int .i64 0),(12,.bool false),(10,.pv (.slc [])),(9,.ptr 3 0),(6,.ptr 0 0),(2,.pv (.str s)),(1,.int .i64 i)],[⟨99,true,[.pv (.slc []),.int .i64 0,.pv (.slc []),.bool false,.pv (.slc [])]⟩,⟨9,true,cells QdT v.ps⟩,⟨3,true,[]⟩,⟨99,true,[.own 1 1 0 v.ps.length,.int .i64 (v.wr+1),.own 2 1 0 0,.bool v.dead,.pv (.slc [])]⟩]⟩) (fun _=>0) () (gc [1,2,3,4]) ?_
 intro _
 have F:=trivial
 refine rn F ?_
 refine VCalls.wkA (VCalls.neA ?_)
 have hpos:0<v.ps.length:=by omega
 refine rn trivial ?_
 simp only[Jw,Jv,DV.ne,Qt8 hpos,Qo3,Qz2,DV.wk,DV.wk.go,PV.wk]
 refine Qse 1 (QoE v.ps (v.wr+1) v.dead i hi (q1.2.2 i hi) s 256 (by omega) (by omega)) rfl ⟨rfl,Qg _ _ _⟩ (Qg _ _ _) rfl rfl (r2:=dvO 1 v.ps.length (v.wr+1) v.dead) rfl ?_
 unfold dvO
 have hle:∀ x,(v.ps.set i x).length=v.ps.length:=fun x=>Jo
 have F:=@hle
 refine rn F ?_
 have hlL:=hle (s.take 256++(v.ps.getD i []).drop 256)
 generalize v.ps.set i (s.take 256++(v.ps.getD i []).drop 256)=L at *
 refine Qj (fun _:Unit=>⟨166,0,[(14,.int .i64 0),(10,.pv (.slc [])),(9,.ptr 2 0),(6,.ptr 0 0)],[⟨99,true,[.pv (.slc []),.int .i64 0,.pv (.slc []),.bool false,.pv (.slc [])]⟩,⟨9,true,cells QdT L⟩,⟨99,true,[.own 1 1 0 v.ps.length,.int .i64 (v.wr+1),.pv (.sl []),.bool v.dead,.pv (.sl [])]⟩]⟩) (fun _=>0) () (gc [0,1,3]) ?_
 intro _
 have F:=@hlL
 refine rn F ?_
 exact⟨rfl,rfl,(⟨L,v.wr+1,v.dead⟩,0),rfl,by unfold dvQ; have:=q1.1.2; dsimp only; omega⟩
end
section
attribute [local go_sem] Qbo
def QjK(n:Nat)(hn:n<=1000):VCalls prog 178 [.int .i64 n] [] (Ret (.pv (.str (Jj n 0)))):=by
 refine dd Tryz.func178 ?_
 have hm:(((1:Nat):Int)*(n:Int)<=281474976710656)=True:=eq_true (by omega)
 have hm2:((n:Int)*((1:Nat):Int)<=281474976710656)=True:=eq_true (by omega)
 have hcw:=fun(hp:Qa) (k o n:Nat)=>Qgw (hp:=hp) (k:=k) (off:=o) (len:=n) QHk
 have hcv:∀ hp:Qa,QAU hp 0 n (some (cells Qfv (Jj n 0)))=some (.pv (.str (Jj n 0)),hp):=fun hp=>Qfc (by simp)
 have hm3:((0:Int)<=(n:Int)/\(n:Int)<=(n:Int)/\(n:Int)<=9223372036854775807)=True:=eq_true ⟨by omega,by omega,by omega⟩
 (unfold Tryz.f178; refine rn (Ja @hm (Ja @hm2 (Ja @hm3 (Ja @hcw @hcv)))) ?_; try with_reducible exact⟨⟩)
def QxX:VCalls prog 276 [] [] (Ret (.pv (.str (Jj 256 0)))):=by
 refine dd Tryz.func276 ?_
 have c1:=QjK 256 (by omega)
 (unfold Tryz.f276; refine rn trivial ?_)
 refine rn F ?_
 repeat' (first
  | with_reducible exact⟨⟩
  | refine vp F (c1) ?_)
def QDr(x:Pg)(i:Nat)(h:i<16):x.d[2+i*2+1]?=some (.pv (.str (x.cel i).data)):=by
 have:i=0\/i=1\/i=2\/i=3\/i=4\/i=5\/i=6\/i=7\/i=8\/i=9\/i=10\/i=11\/i=12\/i=13\/i=14\/i=15:=by omega
 rcases this with h | h | h | h | h | h | h | h | h | h | h | h | h | h | h | h<;>subst h<;>rfl
def QCd(h:Qa0 p=0)(i:Nat)(hi:i<16):(p.cel i).data.length<=12:=by
 have:=QvI h
 unfold Pg.okB Pg.celB at this
 simp only[Jf,Jn,Jr] at this
 have:=this.2 i hi
 unfold Pg.celC Ce.okB at this
 simp only[Jf,decide_eq_true_eq] at this
 exact this.1.1
def Qno(p:Pg):VCalls prog 145 [.agg p.d] [] (QL siD fun a=>a.1.length<=256):=by
 refine dd Tryz.func145 ?_
 have c1:=QdJ p
 have hcel:=QCd (p:=p)
 by_cases hk:Qa0 p=0
 rotate_left
 ·generalize Qa0 p = k at *
  (unfold Tryz.f145; refine rn trivial ?_)
  have F:=@hk
  refine rn F ?_
  repeat' (first
   | with_reducible exact⟨⟩
   | refine vp F (c1) ?_)
  exact⟨rfl,rfl,([],k),rfl,Jh _⟩
 rw[hk] at c1
 have hcel:=hcel hk
 have c2:=Q0 [] (by simp) p.lsn 8 (by omega) (by omega)
 have c3:=Q0 (Ql [] p.lsn 8) (by rw[Qd]; simp) p.id 4 (by omega) (by omega)
 have hl0:(Ql (Ql [] p.lsn 8) p.id 4).length=12:=by rw[Qd,Qd]; rfl
 (unfold Tryz.f145; refine rn trivial ?_)
 have F:=trivial
 refine rn F ?_
 repeat' (first
  | with_reducible exact⟨⟩
  | refine vp F (c1) ?_
  | refine vp F (c2) ?_
  | refine vp F (c3) ?_)
 generalize Ql (Ql [] p.lsn 8) p.id 4=s0 at *
 refine Qj (fun s:{s:Nat×List UInt8 // s.1<=16/\s.2.length=12+13*s.1}=>⟨69,0,[(6,.int .i64 s.1.1),(5,.pv (.str s.1.2)),(1,.ptr 0 0)],[⟨207,true,p.d⟩]⟩) (fun s=>16-s.1.1) ⟨(0,s0),by simp; exact hl0⟩ (gc [0]) ?_
 rintro⟨⟨i,t⟩,hi,ht⟩
 dsimp only at hi ht |-
 have hg:=fun h:i<16=>Qpy p i h
 have hg0:=fun h:i<16=>QvM p i h
 have hg1:=fun h:i<16=>QDr p i h
 have hdl:=fun h:i<16=>hcel i h
 generalize p.cel i=c at *
 have d1:=fun n=>Q0 t (by omega) n 1 (by omega) (by omega)
 have hpl:=fun n=>Qd t n 1
 by_cases hi16:i<16
 ·have hdl:=hdl hi16
  have d2:=QjK (12-c.data.length) (by omega)
  rw[show((12-c.data.length:Nat):Int)=12-(c.data.length:Int) by omega] at d2
  have hcd:(c.data++Jj (12-c.data.length) (0:UInt8)).length=12:=by rw[Jb,Jm]; omega
  have hadd:=fun n=>Qdb (a:=Ql t n 1) (b:=c.data++Jj (12-c.data.length) (0:UInt8)) (by rw[hpl,hcd]; omega)
  have F:=(Ja @hg (Ja @hg0 (Ja @hg1 @hadd)))
  refine rn F ?_
  repeat' (first
   | with_reducible exact⟨⟩
   | (refine sB F ?_ ?_<;>intro hZ)
   | refine vp F (d1 _) ?_
   | refine vp F (d2) ?_
   | (refine Qb (id:=13) [0,1,2,3,4,5,6,7,8,9,10,11,12] [⟨[],[],13,[0,1,2,3,4,5,6,7,8,9,10,11],[14,15]⟩,⟨[],[],16,[],[]⟩] (by kernel_rfl) (by kernel_rfl) ?_; refine rn F ?_))
  ·exact⟨⟨(i+1,Ql t c.data.length 1++(c.data++Jj (12-c.data.length) 0)),by dsimp only; omega,by dsimp only; rw[Jb,Jb,Jm,hpl]; omega⟩,by dsimp only; omega,(gc [0])⟩
  ·exact⟨⟨(i+1,Ql t 255 1++(c.data++Jj (12-c.data.length) 0)),by dsimp only; omega,by dsimp only; rw[Jb,Jb,Jm,hpl]; omega⟩,by dsimp only; omega,(gc [0])⟩
 ·have hi:i = 16:=by omega
  subst hi
  have d2:=QjK (244-t.length) (by omega)
  rw[show((244-t.length:Nat):Int)=244-(t.length:Int) by omega] at d2
  have hle:(t++Jj (244-t.length) (0:UInt8)).length=244:=by rw[Jb,Jm]; omega
  obtain⟨u,hu⟩:∃ u,t++Jj (244-t.length) (0:UInt8)=u:=⟨_,rfl⟩
  rw[hu] at hle
  have d3:=QoC u (by omega)
  have d4:=fun n=>Q0 u (by omega) n 4 (by omega) (by omega)
  have hu4:=fun n=>Qd u n 4
  have d5:=fun n m=>Q0 (Ql u n 4) (by rw[hu4]; omega) m 8 (by omega) (by omega)
  have F:=@hu
  refine rn F ?_
  repeat' (first
   | with_reducible exact⟨⟩
   | refine vp F (d2) ?_
   | refine vp F (d3) ?_
   | refine vp F (d4 _) ?_
   | refine vp F (d5 _ _) ?_)
  exact⟨rfl,rfl,(Ql (Ql u _ 4) _ 8,0),rfl,by dsimp only; rw[Qd,hu4]; omega⟩
end
section
attribute [local go_sem] Qbo
@[go_sem] def piD(a:Pg×Int):DV:=.tup [.agg a.1.d,.int .i64 a.2]
def Qxx(n:Int):VCalls prog 252 [.int .i64 n] [] (Ret (.agg (Pg.d ⟨n,0,fun _=>Ce0⟩))):=by
 refine dd Tryz.func252 ?_
 (unfold Tryz.f252; refine rn trivial ?_)
 rfl
def QBE(s:List UInt8)(hs:s.length<=1000000):VCalls prog 251 [.pv (.str s)] [] (QL piD fun _=>True):=by
 refine dd Tryz.func251 ?_
 have c1:=QxX
 (unfold Tryz.f251; refine rn trivial ?_)
 by_cases hl:s.length=256
 rotate_left
 ·have hl':¬ (s.length:Int) = 256:=by omega
  have F:=@hl'
  refine rn F ?_
  exact⟨rfl,rfl,(Pg0,2),rfl,trivial⟩
 have c2:=fun(a k:Nat) (h:1<=k/\k<=8) (hh:a+k<=s.length)=>QiL s (by omega) a k h hh
 have g1:=c2 244 4 (by omega) (by omega)
 have g2:=c2 0 8 (by omega) (by omega)
 have g3:=c2 8 4 (by omega) (by omega)
 have c3:=fun u h=>QoC u h
 have c4:=Qno
 have F:=@hl
 refine rn F ?_
 repeat' (first
  | with_reducible exact⟨⟩
  | (refine sB F ?_ ?_<;>intro hZ)
  | refine vp F (c1) ?_
  | refine vp F (g1) ?_
  | refine vp F (g2) ?_
  | refine vp F (g3) ?_
  | (refine vp F (c3 _ (by simp; omega)) ?_)
  | (refine Qb (id:=5) [0,1,2,3,4] [⟨[],[],5,[0,1,2,3],[]⟩] (by kernel_rfl) (by kernel_rfl) ?_; refine rn F ?_))
 all_goals first
  | exact⟨rfl,rfl,(Pg0,_),rfl,trivial⟩
  | skip
 refine Qj (fun r:{r:Nat×Pg // r.1<=16}=>⟨95,0,[(7,.int .i64 r.1.1),(6,.ptr 1 0),(2,.ptr 0 0),(0,.pv (.str s))],[⟨207,true,Pg0.d⟩,⟨207,true,r.1.2.d⟩]⟩) (fun r=>16-r.1.1) ⟨(0,⟨IntKind.i64.wrap (Qe8 s 8 4),IntKind.i64.wrap (Qe8 s 0 8),fun _=>Ce0⟩),by simp⟩ (gc [0,1]) ?_
 rintro⟨⟨i,p⟩,hi⟩
 dsimp only at hi |-
 have hgs:i<16->s[12+i*13]?=some (s.getD (12+i*13) 0):=fun h=>by rw[Jg,Jz (by omega)]; rfl
 have hix:(12+(i:Int)*13).toNat=12+i*13:=by omega
 have hce:=fun(h:i<16) b d=>Qku p i h ⟨b,d⟩
 generalize hq:s.getD (12+i*13) 0=q at *
 have hqb:=q.toNat_lt
 have c5:=c4 p
 have F:=(Ja @hgs (Ja @hix (Ja @hce @hl)))
 refine rn F ?_
 repeat' (first
  | with_reducible exact⟨⟩
  | (refine sG F ?_ ?_<;>intro hZ)
  | (refine sB F ?_ ?_<;>intro hZ)
  | (refine Qr (c5) rfl ?_; rintro⟨t,e⟩ -; refine rn F ?_))
 all_goals first
  | exact⟨rfl,rfl,(Pg0,_),rfl,trivial⟩
  | exact⟨rfl,rfl,(p,0),rfl,trivial⟩
  | exact⟨⟨(i+1,p),by dsimp only; omega⟩,by dsimp only; omega,(gc [0,1])⟩
  | exact⟨⟨(i+1,p.setc i ⟨true,List.drop (12+(i:Int)*13+1).toNat (List.take (12+(i:Int)*13+1+q.toNat).toNat s)⟩),by dsimp only; omega⟩,by dsimp only; omega,(gc [0,1])⟩
  | skip
def QxJ(s:List UInt8)(hs:s.length<=1000000)(n:Int):VCalls prog 204 [.pv (.str s),.int .i64 n] [] (QL piD fun a=>a.2=0->a.1.id=n):=by
 refine dd Tryz.func204 ?_
 have c1:=QBE s hs
 have c2:=Qxx n
 (unfold Tryz.f204; refine rn trivial ?_)
 refine rn F ?_
 repeat' (first
  | with_reducible exact⟨⟩
  | (refine sG F ?_ ?_<;>intro hZ)
  | (refine sB F ?_ ?_<;>intro hZ)
  | (refine Qr (c1) rfl ?_; rintro⟨p,e⟩ -; refine rn F ?_)
  | refine vp F (c2) ?_)
 all_goals first
  | exact⟨rfl,rfl,(Pg0,_),rfl,fun h=>by simp at h⟩
  | exact⟨rfl,rfl,(⟨n,0,fun _=>Ce0⟩,0),rfl,fun _=>rfl⟩
  | exact⟨rfl,rfl,(p,e),rfl,fun h=>by dsimp only at h |-; omega⟩
  | skip
def QxE(l:List Rw)(hl:l.length<=64)(n hd:Int)(s:List UInt8)(hs:s.length<=1000000):VCalls prog 159 [.agg [.pv (.sl (fz Qcl l))],.int .i64 n,.int .i64 hd,.pv (.str s)] [] (QL piD fun a=>a.2=0->a.1.id=n):=by
 refine dd Tryz.func159 ?_
 have c1:=QbK l (by omega)
 have c2:=QxJ s hs n
 have hg:=fun h:n.toNat<l.length=>Qmj l n.toNat h
 generalize ixB l=b at *
 (unfold Tryz.f159; refine rn trivial ?_)
 have F:=@hg
 refine rn F ?_
 repeat' (first
  | with_reducible exact⟨⟩
  | (refine sG F ?_ ?_<;>intro hZ)
  | (refine sB F ?_ ?_<;>intro hZ)
  | refine vp F (c1) ?_
  | (refine Qr (c2) rfl ?_; rintro⟨p,e⟩ hp; refine rn F ?_)
  | (refine Qb (id:=8) [0,1,2,3,4,5,6,7,8,9,10,11,12,13,14] [⟨[],[],15,[0,1,2,3,5,6,7,8,9,10,11,12,13],[]⟩] (by kernel_rfl) (by kernel_rfl) ?_; refine rn F ?_)
  | (refine Qb (id:=10) [0,1,2,3,4,5,6,7,8] [⟨[],[],9,[0,1,2,3,4,5,6,7],[]⟩] (by kernel_rfl) (by kernel_rfl) ?_; refine rn F ?_))
 all_goals first
  | exact⟨rfl,rfl,(Pg0,e),rfl,fun h=>absurd h (by assumption)⟩
  | (focus (refine⟨rfl,rfl,(Pg0,_),rfl,fun h=>?_⟩; simp at h; done))
  | exact⟨rfl,rfl,(p,0),rfl,fun _=>hp (by dsimp only; omega)⟩
  | skip
end
section
attribute [local go_sem] Qbo
theorem QHj(e:E)(l:List E):(.pv (.lit (.int .i64 e.lsn))::.pv (.lit (.int .i64 e.kind))::.pv (.lit (.int .i64 e.tx))::.pv (.lit (.int .i64 e.ptx))::.pv (.lit (.int .i64 e.ppg))::.pv (.lit (.int .i64 e.ref))::.pv (.lit (.int .i64 e.c.pg))::.pv (.lit (.int .i64 e.c.sl))::.pv (.lit (.bool e.c.b.set))::.pv (.str e.c.b.data)::.pv (.lit (.bool e.c.a.set))::.pv (.str e.c.a.data)::.pv (.str e.blob)::cells QaR l:List DV)=cells QaR (e::l):=rfl
def QxL(e:E)(l:List E)(hl:l.length<=100000):VCalls prog 280 [.agg e.d,.pv (.sl (fz QaR l))] [] (Ret (.pv (.sl (fz QaR (e::l))))):=by
 refine dk Tryz.func280 ?_
 have hc:=QHj e l
 have hb:(1+l.length)*128<=140737488355328:=by omega
 have hlen:(e::l).length=1+l.length:=by simp; omega
 (unfold Tryz.f280; refine rn (Ja @hc (Ja @hb @hlen)) ?_; try with_reducible exact⟨⟩)
@[go_sem] def esD(a:List E×Int):DV:=.tup [.pv (.sl (fz QaR a.1)),.int .i64 a.2]
def QnU{x:Lg}{n:Int}(h:(QbA x n).2=0):lgB x=true/\x.f<=n/\n<=x.end_/\(QbA x n).1.lsn=n/\(QbA x n).1.okB=true:=by
 unfold QbA at h |-
 split at h
 ·simp at h
 rename_i q1
 split at h
 ·simp at h
 rename_i q2
 rw[if_neg q1,if_neg q2]
 have hv:lgB x=true:=by simpa using q1
 have hv2:=hv
 unfold lgB at hv2
 simp only[Jf,Jn,Jr] at hv2
 have hd:=hv2.1
 simp only[decide_eq_true_eq,Lg.hd] at hd
 have:=hv2.2 (n-x.f).toNat (by simp only[Lg.end_] at q2; omega)
 unfold lgC at this
 simp only[Jf,decide_eq_true_eq] at this
 dsimp only
 exact⟨hv,by omega,by omega,by omega,this.2⟩
def QCb{e:E}(h:e.okB=true):0<=e.ppg/\e.ppg<e.lsn:=by
 unfold E.okB bef at h
 simp only[Jf,decide_eq_true_eq] at h
 omega
structure Ch7(x:Lg) where
 at_:Int
 out:List E
 ok:out=[]\/at_+out.length<=x.f+x.es.length
 nn:0<=at_
 le:out.length<=4097
def QxW(x:Lg)(hx:x.es.length<=4096)(pg last above:Int):VCalls prog 277 [.agg x.c,.int .i64 pg,.int .i64 last,.int .i64 above] [] (QL esD fun a=>a.1.length<=4097):=by
 refine dk Tryz.func277 ?_
 have c1:=Qaj x (by omega)
 have c2:=QiM x (by omega)
 have hok:=@QnU x
 (unfold Tryz.f277; refine rn trivial ?_)
 cases hv:lgB x
 ·rw [hv] at c1
  refine rn F ?_
  repeat' (first
   | with_reducible exact⟨⟩
   | refine vp F (c1) ?_)
  exact⟨rfl,rfl,([],26),rfl,Jh _⟩
 rw[hv] at c1
 have hd:=Qat hv
 simp only[Lg.hd] at hd
 refine rn F ?_
 repeat' (first
  | with_reducible exact⟨⟩
  | (refine sG F ?_ ?_<;>intro hZ)
  | (refine sB F ?_ ?_<;>intro hZ)
  | refine vp F (c1) ?_)
 all_goals first
  | exact⟨rfl,rfl,([],1),rfl,Jh _⟩
  | skip
 refine VLoop.wkS ?_
 refine rn trivial ?_
 refine Qj (fun s:Ch7 x=>⟨62,0,[(11,.int .i64 s.at_),(10,.pv (.sl (fz QaR s.out))),(4,.ptr 0 0),(3,.int .i64 above),(1,.int .i64 pg)],[⟨34,true,x.c⟩]⟩) (fun s=>s.at_.toNat) ⟨last,[],.inl rfl,by omega,Jh _⟩ (gc [0]) ?_
 rintro⟨at_,out,ok,nn,le⟩
 dsimp only
 have c3:=c2 at_
 have hok:=hok (n:=at_)
 generalize QbA x at_=g at *
 have c4:=Qcs g.1
 have c5:=QxL g.1 out (by omega)
 refine rn F ?_
 repeat' (first
  | with_reducible exact⟨⟩
  | (refine sG F ?_ ?_<;>intro hZ)
  | (refine sB F ?_ ?_<;>intro hZ)
  | refine vp F (c3) ?_
  | refine vp F (c4) ?_
  | refine vp F (c5) ?_
  | (refine Qb (id:=13) [0,1,3,4] [⟨[],[],2,[3,4],[]⟩,⟨[],[],5,[3,4],[]⟩,⟨[],[],6,[],[]⟩] (by kernel_rfl) (by kernel_rfl) ?_; refine rn F ?_))
 all_goals first
  | exact⟨rfl,rfl,([],_),rfl,Jh _⟩
  | exact⟨rfl,rfl,(out,0),rfl,le⟩
  | skip
 obtain⟨k1,k2,k3,k4,k5⟩:=hok (by omega)
 have hp:=QCb k5
 simp only[Lg.end_] at k3
 have ho:at_+out.length<=x.f+x.es.length:=by
  rcases ok with rfl | ok
  ·simp; omega
  ·exact ok
 exact⟨⟨g.1.ppg,g.1::out,.inr (by simp only[Je]; omega),hp.1,by simp only[Je]; omega⟩,by dsimp only; omega,(gc [0])⟩
def QEE(c:Ch):VCalls prog 209 [.agg c.d] [] (Ret (.agg (Ch.d ⟨c.pg,c.sl,c.a,c.b⟩))):=by
 refine dd Tryz.func209 ?_
 (unfold Tryz.f209; refine rn trivial ?_; try with_reducible exact⟨⟩)
def QCc{c:Ch}(h:c.okB=true):0<=c.sl/\c.sl<16:=by
 unfold Ch.okB at h
 simp only[Jf,decide_eq_true_eq] at h
 omega
def QFK{a b:Ce}(h:a.set=b.set/\a.data=b.data):a=b:=by
 obtain⟨_,_⟩:=a; obtain⟨_,_⟩:=b; obtain⟨rfl,rfl⟩:=h; rfl
def QFY(a c:Bool)(b d:List UInt8):QQ [.pv (.lit (.bool a)),.pv (.str b)] [.pv (.lit (.bool c)),.pv (.str d)] [(0,0),(1,2)]=some (a==c&&b==d):=by simp[QQ,Q9]
def Qlv (p:Pg) (c:Ch):VCalls prog 210 [.agg p.d,.agg c.d] [] (QL piD fun a=>a.2 = 0->a.1.id = p.id/\p.cel c.sl.toNat = c.b):=by
 refine dd Tryz.func210 ?_
 have c1:=QtB c
 have hs:=QCc (c:=c)
 (unfold Tryz.f210; refine rn trivial ?_)
 cases hv:c.okB
 ·rw [hv] at c1
  refine rn F ?_
  repeat' (first
   | with_reducible exact⟨⟩
   | refine vp F (c1) ?_)
  exact⟨rfl,rfl,(Pg0,22),rfl,fun h=>by simp at h⟩
 rw[hv] at c1
 obtain⟨s1,s2⟩:=hs hv
 obtain⟨i,hi⟩:∃ i:Nat,c.sl=i:=⟨c.sl.toNat,by omega⟩
 have hi16:i<16:=by omega
 have hg:=Qpy p i hi16
 have hce:=Qku p i hi16 c.a
 have F:=(Ja @hi (Ja @hg (Ja @hce @QFY)))
 refine rn F ?_
 repeat' (first
  | with_reducible exact⟨⟩
  | (refine sB F ?_ ?_<;>intro hZ)
  | refine vl F (c1) ?_
  | (refine Qb (id:=5) [0,1,2,3,4,5,6,7] [⟨[],[],8,[0,1,2,3,4,5,6],[]⟩] (by kernel_rfl) (by kernel_rfl) ?_; refine rn F ?_))
 all_goals first
  | (refine ⟨rfl,rfl,(p.setc i c.a,0),rfl,fun _=>⟨rfl,?_⟩⟩
     first
      | (rw[hi,Jk]; exact QFK (by assumption))
      | exact QFK (by assumption))
  | (focus (refine⟨rfl,rfl,(Pg0,_),rfl,fun h=>?_⟩; simp at h; done))
  | skip
def QxZ(p:Pg)(e:E):VCalls prog 254 [.agg p.d,.agg e.d] [] (QL piD fun a=>a.2=0->a.1.id=p.id):=by
 refine dd Tryz.func254 ?_
 have c1:=QcJ e
 have c2:=Qcs e
 have c3:=QdJ p
 have c4:=Qlv p e.c
 generalize e.okB=b at *
 generalize Qa0 p=k at *
 (unfold Tryz.f254; refine rn trivial ?_)
 refine rn F ?_
 repeat' (first
  | with_reducible exact⟨⟩
  | (refine sG F ?_ ?_<;>intro hZ)
  | (refine sB F ?_ ?_<;>intro hZ)
  | refine vp F (c1) ?_
  | refine vp F (c2) ?_
  | refine vp F (c3) ?_
  | (refine Qr (c4) rfl ?_; rintro⟨q,er⟩ hq; refine rn F ?_))
 all_goals first
  | exact⟨rfl,rfl,(⟨q.id,e.lsn,q.cel⟩,0),rfl,fun _=>(hq (by dsimp only; omega)).1⟩
  | exact⟨rfl,rfl,(Pg0,er),rfl,fun h=>absurd h (by assumption)⟩
  | exact⟨rfl,rfl,(Pg0,k),rfl,fun h=>absurd h (by assumption)⟩
  | (focus (refine⟨rfl,rfl,(Pg0,_),rfl,fun h=>?_⟩; simp at h; done))
  | skip
def Qte(x:Lg)(hx:x.es.length<=4096)(p:Pg)(n:Int):VCalls prog 253 [.agg x.c,.agg p.d,.int .i64 n] [] (QL esD fun a=>a.1.length<=4097):=by
 refine dk Tryz.func253 ?_
 have c1:=Qaj x (by omega)
 have c2:=QdJ p
 have c3:=QxW x hx
 generalize lgB x=b at *
 generalize Qa0 p=k at *
 (unfold Tryz.f253; refine rn trivial ?_)
 refine rn F ?_
 repeat' (first
  | with_reducible exact⟨⟩
  | (refine sB F ?_ ?_<;>intro hZ)
  | refine vp F (c1) ?_
  | refine vp F (c2) ?_
  | (refine Qr (c3 _ _ _) rfl ?_; rintro⟨l,e⟩ hl; refine rn F ?_))
 all_goals first
  | exact⟨rfl,rfl,([],_),rfl,Jh _⟩
  | exact⟨rfl,rfl,(l,e),rfl,hl⟩
  | skip
@[go_sem] def QIj(a:Pg×Int×Int):DV:=.tup [.agg a.1.d,.int .i64 a.2.1,.int .i64 a.2.2]
def Qxu(x:Lg)(hx:x.es.length<=4096)(p:Pg)(n:Int):VCalls prog 205 [.agg x.c,.agg p.d,.int .i64 n] [] (QL QIj fun a=>a.2.2=0->a.1.id=p.id):=by
 refine dk Tryz.func205 ?_
 have c1:=Qte x hx p n
 (unfold Tryz.f205; refine rn trivial ?_)
 refine rn F ?_
 repeat' (first
  | with_reducible exact⟨⟩
  | (refine sB F ?_ ?_<;>intro hZ)
  | (refine Qr (c1) rfl ?_; rintro⟨l,e⟩ hl; refine rn F ?_))
 all_goals first
  | exact⟨rfl,rfl,(Pg0,0,e),rfl,fun h=>absurd h (by assumption)⟩
  | skip
 dsimp only at hl
 refine Qj (fun s:{s:Nat×Pg // s.1<=l.length/\s.2.id=p.id}=>⟨45,0,[(11,.int .i64 s.1.1),(9,.pv (.sl (fz QaR l))),(6,.ptr 1 0),(4,.ptr 0 0)],[⟨207,true,s.1.2.d⟩,⟨207,true,Pg0.d⟩]⟩) (fun s=>l.length-s.1.1) ⟨(0,p),Jh _,rfl⟩ (gc [1,2]) ?_
 rintro⟨⟨i,q⟩,hi,hq⟩
 dsimp only at hi hq |-
 have hg:=fun h:i<l.length=>Qkm l i h
 have c2:=QxZ q (l.getD i E0)
 have F:=@hg
 refine rn F ?_
 repeat' (first
  | with_reducible exact⟨⟩
  | (refine sB F ?_ ?_<;>intro hZ)
  | (refine Qr (c2) rfl ?_; rintro⟨q2,e2⟩ hq2; refine rn F ?_)
  | (refine Qb (id:=7) [0,1,2,3,4] [⟨[],[],5,[1,2,3],[6,7,8]⟩,⟨[],[],9,[8],[]⟩,⟨[],[],10,[],[]⟩] (by kernel_rfl) (by kernel_rfl) ?_; refine rn F ?_))
 all_goals first
  | exact⟨rfl,rfl,(Pg0,0,e2),rfl,fun h=>absurd h (by assumption)⟩
  | exact⟨rfl,rfl,(q,l.length,0),rfl,fun _=>hq⟩
  | exact⟨⟨(i+1,q2),by dsimp only; omega,(hq2 (by dsimp only; omega)).trans hq⟩,by dsimp only; omega,(gc [0,1])⟩
  | skip
def QBy(x:Lg)(hx:x.es.length<=4096)(p:Pg)(n:Int):VCalls prog 160 [.agg x.c,.agg p.d,.int .i64 n] [] (QL piD fun a=>a.2=0->a.1.id=p.id):=by
 refine dd Tryz.func160 ?_
 have c1:=Qxu x hx p n
 (unfold Tryz.f160; refine rn trivial ?_)
 refine rn F ?_
 repeat' (first
  | with_reducible exact⟨⟩
  | (refine Qr (c1) rfl ?_; rintro⟨q,m,e⟩ hq; refine rn F ?_))
 exact⟨rfl,rfl,(q,e),rfl,hq⟩
end
section
attribute [local go_sem] Qbo
structure Sv where
 k:Kn
 v:Dv
@[go_sem] def Sv.d(s:Sv):List DV:=[.int .i64 s.k.pg,.int .i64 s.k.nx,.int .i64 s.k.lg.f,.pv (.sl (fz QaR s.k.lg.es)),.int .i64 s.k.lg.d,.int .i64 s.k.pl.size,.pv (.sl (fz QcH s.k.pl.fs)),.int .i64 s.k.pl.hand,.pv (.sl (fz Qau s.k.lk.held)),.pv (.sl (fz Qau s.k.lk.wait)),.pv (.sl (fz Qu s.k.tx)),.pv (.sl (fz Qcl s.k.ix)),.pv (.sl (fz QcZ s.k.la)),.pv (.sl (fz QdT s.v.ps)),.int .i64 s.v.wr,.pv (.sl []),.bool s.v.dead,.pv (.sl [])]
def Sv0:Sv:=⟨Kn0,Dv0⟩
def Sv.sm(s:Sv):Prop:=s.k.sm/\s.v.ps.length<=64
def Qdy:Sv0.sm:=⟨Qb1,Jh _⟩
@[go_sem] def svD(a:Sv×Int):DV:=.tup [.agg a.1.d,.int .i64 a.2]
def Zv:List DV:=[.int .i64 0,.int .i64 0,.int .i64 0,.pv (.slc []),.int .i64 0,.int .i64 0,.pv (.slc []),.int .i64 0,.pv (.slc []),.pv (.slc []),.pv (.slc []),.pv (.slc []),.pv (.slc []),.pv (.slc []),.int .i64 0,.pv (.slc []),.bool false,.pv (.slc [])]
def Qrs(k:Kn)(x:Pg)(a:Sv×Int):Prop:=a.1.sm/\(a.2=0->∃ e',AddOk k (QHA x.id x.lsn) e'/\a.1.k.tx=k.tx/\(0<=Qbx k.pl x.id->a.1.k=k.wrt e'/\(QaZ k.pl x.id x.lsn).2=0))
def Qiq(hq:Qrs k x a)(h:a.2=0)(hp:plB k.pl=true)(hi:i<k.pl.fs.length)(hid:idF k.pl.fs x.id=i)(hx:(k.pl.fs.getD i Fm0).pg=x)(hu:(k.pl.fs.getD i Fm0).dirty=true):Str 0 k a.1.k/\a.1.k.pl=(QaZ k.pl x.id x.lsn).1/\a.1.k.tx=k.tx:=by
 obtain⟨e',ha,h1,h2⟩:=hq.2 h
 have hf:Qbx k.pl x.id=i:=by unfold Qbx; rw[if_pos hp]; exact hid
 obtain⟨h3,h4⟩:=h2 (by rw[hf]; omega)
 obtain⟨_,_,s3,s4,_⟩:=ha.2.1
 refine⟨by rw[h3]; exact .one (.wrt ha rfl ⟨i,hi,hid,by rw[hx]; rfl,h4,hu⟩),?_,h1⟩
 rw[h3]
 unfold Kn.wrt
 rw[s3,s4]
 rfl
def QoB (s:Sv) (hs:s.v.ps.length<=64) (k:Kn) (hk:k.sm) (x:Pg):VCalls prog 127 [.agg s.d,.agg k.d,.agg x.d] [] (QL svD (Qrs k x)):=by
 refine dk Tryz.func127 ?_
 have c1:=Qno x
 have c2:=fun(t:List UInt8) (h:t.length<=256)=>Qts s.v (by omega) x.id t (by omega)
 have c3:=Qqd k hk x.id x.lsn
 (unfold Tryz.f127; refine rn trivial ?_)
 refine rn F ?_
 repeat' (first
  | with_reducible exact⟨⟩
  | (refine sB F ?_ ?_<;>intro hZ)
  | (refine Qr (c1) rfl ?_; rintro⟨t,e1⟩ ht; refine rn F ?_)
  | (refine Qr (c2 t ht) rfl ?_; rintro⟨v1,e2⟩ hv; refine rn F ?_)
  | (refine Qr (c3) rfl ?_; rintro⟨k1,e3⟩ hq; refine rn F ?_))
 all_goals first
  | exact⟨rfl,rfl,(Sv0,e2),rfl,Qdy,fun h=>absurd h (by assumption)⟩
  | exact⟨rfl,rfl,(Sv0,e3),rfl,Qdy,fun h=>absurd h (by assumption)⟩
  | (have q:=hq.2 (by dsimp only; omega)
     exact⟨rfl,rfl,(⟨k1,v1⟩,0),rfl,⟨hq.1,hv⟩,fun _=>q⟩)
  | skip
def Qds(l:List Fm):Nat:=l.countP (·.dirty)
def Qi4(l:List Fm):Qds (l.map Fm.clr)=Qds l:=by
 unfold Qds; rw[List.countP_map]; rfl
def SameF.dirty(h:SameF l m):Qds m=Qds l:=by
 rw[<- Qi4 m,<- Qi4 l,show m.map Fm.clr=l.map Fm.clr from h]
def QqT(l:List Fm)(i:Nat)(h:i<l.length)(hu:(l.getD i Fm0).dirty=true)(f:Fm)(hf:f.dirty=false):Qds (l.set i f)<Qds l:=by
 unfold Qds
 rw[JW h]
 rw[Qc l i h] at hu
 have:0<l.countP (·.dirty):=JK.2 ⟨l[i],Jt h,hu⟩
 simp only[hu,hf,if_true]
 simp
 omega
def Qq2(hp:plB p=true)(hi:i<p.fs.length)(h1:idF p.fs x.id=i)(h2:(p.fs.getD i Fm0).pg=x)(h3:(p.fs.getD i Fm0).dirty=true):Qds (QaZ p x.id x.lsn).1.fs<Qds p.fs:=by
 unfold QaZ
 rw[if_neg (by rw[hp]; decide),h1,if_neg (by omega),Jk,h2,if_neg (by omega),if_neg (by rw[h3]; decide)]
 refine QqT _ _ hi h3 _ ?_
 unfold Qe5
 rw[h2,if_pos rfl]
def stQ(s:Sv)(a:Sv×Int):Prop:=a.1.sm/\(a.2=0->Str 0 s.k a.1.k/\a.1.k.tx=s.k.tx)
structure Rm(s0:Sv) where
 s:Sv
 sm:s.sm
 ev:Str 0 s0.k s.k
 tx:s.k.tx=s0.k.tx
def Qxs(s:Sv)(hs:s.sm):VCalls prog 156 [.agg s.d] [] (QL svD (stQ s)):=by
 refine dk Tryz.func156 ?_
 (unfold Tryz.f156; refine rn trivial ?_)
 refine Qj (fun r:Rm s=>⟨36,0,[(2,.ptr 1 0),(1,.ptr 0 0)],[⟨101,true,r.s.d⟩,⟨101,true,Zv⟩]⟩) (fun r=>Qds r.s.k.pl.fs) ⟨s,hs,Str.refl _,rfl⟩ (gc [0,1]) ?_
 rintro⟨s1,sm,ev,tx⟩
 dsimp only
 have c1:=QBx s1.k sm.1
 have c2:=fun k hk x=>QoB s1 sm.2 k hk x
 unfold Zv
 refine rn F ?_
 repeat' (first
  | with_reducible exact⟨⟩
  | (refine sB F ?_ ?_<;>intro hZ)
  | (refine Qr (c1) rfl ?_; rintro⟨k1,x,b,e⟩ hq; refine rn F ?_)
  | (refine Qr (c2 k1 hq.1 x) rfl ?_; rintro⟨s2,e2⟩ hq2; refine rn F ?_))
 ·exact⟨rfl,rfl,(Sv0,e),rfl,Qdy,fun h=>absurd h (by assumption)⟩
 ·have q:=hq.2 (by dsimp only; omega)
  exact⟨rfl,rfl,(⟨k1,s1.v⟩,0),rfl,⟨hq.1,sm.2⟩,fun _=>⟨ev.trans q.1,q.2.1.trans tx⟩⟩
 ·exact⟨rfl,rfl,(Sv0,e2),rfl,Qdy,fun h=>absurd h (by assumption)⟩
 ·have q:=hq.2 (by dsimp only; omega)
  obtain⟨p1,p2,i,p3,p4,p5,p6⟩:=q.2.2 (by dsimp only; first | assumption | simp_all)
  dsimp only at p1 p2 p3 p4 p5 p6
  obtain⟨r0,r1,r2⟩:=Qiq hq2 (by dsimp only; omega) p1 p3 p4 p5 p6
  have hlt:=Qq2 p1 p3 p4 p5 p6
  rw[p2.dirty] at hlt
  dsimp only at r0 r1 r2
  exact⟨⟨s2,hq2.1,(ev.trans q.1).trans r0,r2.trans (q.2.1.trans tx)⟩,by dsimp only; rw[r1]; exact hlt,(gc [0,1])⟩
def QAf(s:Sv)(n:Int)(a:Sv×Int):Prop:=a.1.sm/\(a.2=0->Str 0 s.k a.1.k/\a.1.k.tx=s.k.tx/\0<=idF a.1.k.pl.fs n)
def QeF (s:Sv) (hs:s.sm) (n:Int):VCalls prog 132 [.agg s.d,.int .i64 n] [] (QL svD (QAf s n)):=by
 refine dk Tryz.func132 ?_
 have c1:=Qa7 s.k hs.1
 have c2:=QcK s.k.pl (Jc hs.1.2.1 (by decide)) n
 have c3:=Qxs s hs
 have c4:=fun(t:Sv) (h:t.sm)=>QxR t.v (Jc h.2 (by decide)) n
 have c5:=fun(t:Sv) (h:t.sm)=>Qns t.k h.1 n
 have c6:=fun(t:Sv) (h:t.sm) (hd:Int) (b:List UInt8) (hb:b.length<=1000000)=>QxE t.k.ix h.1.2.2.2.2.1 n hd b hb
 have c7:=fun(t:Sv) (h:t.sm) (p:Pg) (hd:Int)=>QBy t.k.lg h.1.1 p hd
 have c8:=fun(t:Sv) (h:t.sm) (p:Pg)=>QsW t.k h.1 p
 have hfi:0<=Qbx s.k.pl n->0<=idF s.k.pl.fs n:=fun h=>by unfold Qbx at h; split at h<;>omega
 have e0:∀ e,e≠0->QAf s n (Sv0,e):=fun e h=>⟨Qdy,fun h2=>absurd h2 h⟩
 generalize Qbx s.k.pl n=fi at *
 (unfold Tryz.f132; refine rn trivial ?_)
 refine rn F ?_
 repeat' (first
  | with_reducible exact⟨⟩
  | (refine sG F ?_ ?_<;>intro hZ)
  | (refine sB F ?_ ?_<;>intro hZ)
  | (refine Qr (c1) rfl ?_; rintro b -; refine rn F ?_)
  | refine vp F (c2) ?_
  | (refine Qr (c3) rfl ?_; rintro⟨s1,e1⟩ hq1; refine rn F ?_)
  | (refine Qr (c4 s1 hq1.1) rfl ?_; rintro⟨t,e2⟩ ht; refine rn F ?_)
  | (refine Qr (c5 s1 hq1.1) rfl ?_; rintro hd -; refine rn F ?_)
  | (refine Qr (c6 s1 hq1.1 hd t (by have:=ht (by dsimp only; omega); dsimp only at this; omega)) rfl ?_; rintro⟨p,e3⟩ hp; refine rn F ?_)
  | (refine Qr (c7 s1 hq1.1 p hd) rfl ?_; rintro⟨p2,e4⟩ hp2; refine rn F ?_)
  | (refine Qr (c8 s1 hq1.1 p2) rfl ?_; rintro⟨k2,e5⟩ hq5; refine rn F ?_))
 all_goals first
  | exact⟨rfl,rfl,(s,0),rfl,hs,fun _=>⟨Str.refl _,rfl,hfi (by omega)⟩⟩
  | exact⟨rfl,rfl,(Sv0,_),rfl,e0 _ (by assumption)⟩
  | exact⟨rfl,rfl,(Sv0,15),rfl,e0 _ (by decide)⟩
  | exact⟨rfl,rfl,(Sv0,1),rfl,e0 _ (by decide)⟩
  | (have q1:=hq1.2 (by dsimp only; omega)
     have q5:=hq5.2 (by dsimp only; omega)
     have i3:=hp (by dsimp only; omega)
     have i4:=hp2 (by dsimp only; omega)
     dsimp only at q1 q5 i3 i4
     exact⟨rfl,rfl,(⟨k2,s1.v⟩,0),rfl,⟨hq5.1,hq1.1.2⟩,fun _=>⟨q1.1.trans q5.1,q5.2.2.1.trans q1.2,by dsimp only; have:=q5.2.2.2; rw[i4,i3] at this; exact this⟩⟩)
  | skip
end
section
attribute [local go_sem] Qbo
@[go_sem] def tiD(a:Tx×Int):DV:=.tup [.agg a.1.d,.int .i64 a.2]
@[go_sem] def ebD(a:E×Bool):DV:=.tup [.agg a.1.d,.bool a.2]
def Qsp(h:0<=idT l a):(Qbj l a).id=a:=by
 rcases Qy l a with hn | ⟨i,hi,hid,he⟩
 ·omega
 ·rw[Qed hid,Qc l i hi]; exact he
def QEA(k:Kn)(tx:Int)(a:Tx×Int):Prop:=a.1.l.length<=100000/\(a.2=0->VK k/\0<=idT k.tx tx/\a.1=Qbj k.tx tx/\a.1.st≠1)
def QdF(k:Kn)(h:k.sm)(tx:Int):VCalls prog 163 [.agg k.d,.int .i64 tx] [] (QL tiD (QEA k tx)):=by
 refine dk Tryz.func163 ?_
 have c1:=Qa7 k h
 obtain⟨h1,h2,h3,h4,h5,h6⟩:=h
 have c2:=Qcc k.tx (Jc h4.1 (by decide)) tx
 have e0:∀ e,e≠0->QEA k tx (Tx0,e):=fun e h=>⟨by simp[Tx0],fun h2=>absurd h2 h⟩
 rcases Qy k.tx tx with hn | ⟨i,hil,hid,_⟩
 ·rw [hn] at c2
  (unfold Tryz.f163; refine rn trivial ?_)
  refine rn F ?_
  repeat' (first
   | with_reducible exact⟨⟩
   | (refine sB F ?_ ?_<;>intro hZ)
   | (refine Qr (c1) rfl ?_; rintro b -; refine rn F ?_)
   | refine vp F (c2) ?_)
  all_goals exact⟨rfl,rfl,(Tx0,_),rfl,e0 _ (by decide)⟩
 rw[hid] at c2
 have hg:=QdZ k.tx i hil
 have ht:(k.tx.getD i Tx0).l.length<=100000:=by rw[Qc _ _ hil]; exact(h4.2 _ (Jt hil)).1
 have he:Qbj k.tx tx=k.tx.getD i Tx0:=by unfold Qbj; rw[hid]; rfl
 (unfold Tryz.f163; refine rn trivial ?_)
 have F:=@hg
 refine rn F ?_
 repeat' (first
  | with_reducible exact⟨⟩
  | (refine sB F ?_ ?_<;>intro hZ)
  | (refine Qr (c1) rfl ?_; rintro b hb; refine rn F ?_)
  | refine vp F (c2) ?_)
 all_goals first
  | exact⟨rfl,rfl,(k.tx.getD i Tx0,0),rfl,ht,fun _=>⟨hb (by assumption),by omega,he.symm,by assumption⟩⟩
  | exact⟨rfl,rfl,(Tx0,15),rfl,e0 _ (by decide)⟩
  | exact⟨rfl,rfl,(Tx0,16),rfl,e0 _ (by decide)⟩
  | skip
def QnK(l:List Tx)(a:Int):Int:=(Qbj l a).l.getD ((Qbj l a).l.length-1) 0
def Qkb(l:List Tx)(g:Lg)(a:Int):E:=(QbA g (QnK l a)).1
def QCe(k:Kn)(tx:Int)(a:E×Bool):Prop:=a.2=true->VK k/\a.1=Qkb k.tx k.lg tx/\(QbA k.lg (QnK k.tx tx)).2=0/\Qjf k (Qbj k.tx tx) a.1
def QBI(k:Kn)(h:k.sm)(tx:Int):VCalls prog 165 [.agg k.d,.int .i64 tx] [] (QL ebD (QCe k tx)):=by
 refine dk Tryz.func165 ?_
 have c1:=QdF k h tx
 obtain⟨h1,h2,h3,h4,h5,h6⟩:=h
 have c2:=QiM k.lg (by omega)
 have e0:QCe k tx (E0,false):=fun h=>by cases h
 (unfold Tryz.f165; refine rn trivial ?_)
 refine Qr c1 rfl ?_
 rintro⟨t,e⟩ ⟨ht,hq⟩
 dsimp only at ht hq
 have hg:=fun h:t.l.length-1<t.l.length=>QV t.l (t.l.length-1) h
 have F:=@hg
 refine rn F ?_
 repeat' (first
  | with_reducible exact⟨⟩
  | (refine sG F ?_ ?_<;>intro hZ)
  | (refine sB F ?_ ?_<;>intro hZ)
  | refine vp F (c2 _) ?_
  | (refine Qb (id:=2) [0,1,2,3,4,5,6,7,8,9,10,11,12,13,14,15,16,17,18,19,20] [] (by kernel_rfl) (by kernel_rfl) ?_; refine rn F ?_)
  | (refine Qb (id:=4) [0,1,2,3,4,5,6,7,8,9] [⟨[14],[],10,[0,2,3,4,5,6,7,8],[11,12,13]⟩,⟨[14],[14],15,[13],[]⟩,⟨[],[],16,[],[]⟩] (by kernel_rfl) (by kernel_rfl) ?_; refine rn F ?_))
 all_goals first
  | exact⟨rfl,rfl,(E0,false),rfl,e0⟩
  | skip
 obtain⟨v,_,rfl,_⟩:=hq (by first | omega | simp_all)
 have hpos:0<(Qbj k.tx tx).l.length:=by omega
 exact⟨rfl,rfl,((QbA k.lg (QnK k.tx tx)).1,_),rfl,fun h=>by
  have h0:(QbA k.lg (QnK k.tx tx)).2=0:=by simpa [QnK] using h
  exact⟨v,rfl,h0,(Qbj k.tx tx).l.length-1,by omega,h0,rfl,fun j h1 h2=>by omega⟩⟩
structure OfS(k:Kn)(t:Tx)(pg sl:Int) where
 i:Nat
 hi:i<=t.l.length
 no:∀ j,i<=j->j<t.l.length->(QbA k.lg (t.l.getD j 0)).2=0->¬ ((QbA k.lg (t.l.getD j 0)).1.c.pg=pg/\(QbA k.lg (t.l.getD j 0)).1.c.sl=sl)
def QGV (k:Kn) (h:k.sm) (t:Tx) (ht:t.l.length<=100000) (pg sl:Int):VCalls prog 258 [.agg k.d,.agg t.d,.agg [.int .i64 pg,.int .i64 sl],.int .i64 t.l.length] [] (QL ebD fun a=>a.2 = true->Qjf k t a.1/\a.1.c.pg = pg):=by
 refine dk Tryz.func258 ?_
 obtain⟨h1,h2,h3,h4,h5,h6⟩:=h
 have c2:=QiM k.lg (by omega)
 (unfold Tryz.f258; refine rn trivial ?_)
 refine Qj (fun s:OfS k t pg sl=>⟨50,0,[(10,.int .i64 ((s.i:Int)-1)),(8,.ptr 3 0),(6,.ptr 2 0),(5,.ptr 1 0),(4,.ptr 0 0)],[⟨62,true,k.d⟩,⟨71,true,t.d⟩,⟨225,true,[.int .i64 pg,.int .i64 sl]⟩,⟨44,true,E0.d⟩]⟩) (fun s=>s.i) ⟨t.l.length,Ju _,fun j h1 h2=>by omega⟩ (gc [0,1,2,3]) ?_
 rintro⟨i,hi,no⟩
 dsimp only
 have hg:=fun h:i-1<t.l.length=>QV t.l (i-1) h
 have c3:=c2 (t.l.getD (i-1) 0)
 have hL:=fun(a1:i-1<t.l.length) (a2:(QbA k.lg (t.l.getD (i-1) 0)).2=0) (a3:(QbA k.lg (t.l.getD (i-1) 0)).1.c.pg=pg) (a4:(QbA k.lg (t.l.getD (i-1) 0)).1.c.sl=sl)=>(⟨i-1,a1,a2,rfl,fun j h1 h2 h3=>by rw[a3,a4]; exact no j (by omega) h2 h3⟩:Qjf k t (QbA k.lg (t.l.getD (i-1) 0)).1)
 have hN:=fun(a:(QbA k.lg (t.l.getD (i-1) 0)).2=0->¬ ((QbA k.lg (t.l.getD (i-1) 0)).1.c.pg=pg/\(QbA k.lg (t.l.getD (i-1) 0)).1.c.sl=sl))=>(fun j h1 h2 h3=>by
  rcases JE j i with h4 | h4
  ·obtain rfl:j = i - 1:=by omega
   exact a h3
  ·exact no j h4 h2 h3:∀ j,i-1<=j->j<t.l.length->(QbA k.lg (t.l.getD j 0)).2=0->¬ ((QbA k.lg (t.l.getD j 0)).1.c.pg=pg/\(QbA k.lg (t.l.getD j 0)).1.c.sl=sl))
 generalize hgE:QbA k.lg (t.l.getD (i-1) 0)=g at *
 have F:=@hg
 refine rn F ?_
 repeat' (first
  | with_reducible exact⟨⟩
  | (refine sG F ?_ ?_<;>intro hZ)
  | (refine sB F ?_ ?_<;>intro hZ)
  | refine vp F (c3) ?_
  | (refine Qb (id:=4) [0,1,2,3,4,5,6] [⟨[11],[],7,[0,2,3,4,5],[8,9,10]⟩,⟨[11],[11],12,[10],[]⟩,⟨[],[],13,[],[]⟩] (by kernel_rfl) (by kernel_rfl) ?_; refine rn F ?_))
 all_goals first
  | exact⟨rfl,rfl,(E0,false),rfl,fun h=>by cases h⟩
  | exact⟨rfl,rfl,(g.1,true),rfl,fun _=>⟨hL (by omega) (by omega) (by omega) (by omega),by dsimp only; omega⟩⟩
  | (refine ⟨⟨i - 1,by omega,hN (by omega)⟩,by dsimp only; omega,?_⟩
     dsimp only
     rw[show((i-1:Nat):Int)-1=(i:Int)-1-1 by omega]
     exact(gc [0,1,2,3]))
  | skip
def Qlw (k:Kn) (h:k.sm) (tx pg sl:Int):VCalls prog 212 [.agg k.d,.int .i64 tx,.agg [.int .i64 pg,.int .i64 sl]] [] (QL ebD fun a=>a.2 = true->Qjf k (Qbj k.tx tx) a.1/\a.1.c.pg = pg):=by
 refine dk Tryz.func212 ?_
 have c1:=QdF k h tx
 (unfold Tryz.f212; refine rn trivial ?_)
 refine Qr c1 rfl ?_
 rintro⟨t,e⟩ ⟨ht,hq⟩
 have c2:=QGV k h t ht
 refine rn F ?_
 repeat' (first
  | with_reducible exact⟨⟩
  | (refine sG F ?_ ?_<;>intro hZ)
  | (refine sB F ?_ ?_<;>intro hZ)
  | (refine Qr (c2 _ _) rfl ?_; rintro⟨y,b⟩ hb; refine rn F ?_))
 all_goals first
  | exact⟨rfl,rfl,(E0,false),rfl,fun h=>by cases h⟩
  | (have he:=(hq (by first | omega | (dsimp only; omega) | simp_all)).2.2.1
     dsimp only at he
     rw[he] at hb
     exact⟨rfl,rfl,(y,b),rfl,hb⟩)
  | skip
def QEj(k:Kn)(pg:Int)(a:Kn×Rs):Prop:=a.1.sm/\(a.2.st=3->a.1=k/\a.2.pg=pg/\idF k.pl.fs pg<0)/\(a.2.st≠3->a.2.st≠5->a.2.st=1/\Str 0 k a.1/\k.lg.es.length<a.1.lg.es.length)/\(a.2.st=5->a.2.er≠0)
def QBj(k:Kn)(e:E):k.lg.es.length<(k.set e).lg.es.length:=by
 unfold Kn.set Kn.add; simp
def QsP (k:Kn) (h:k.sm) (hv:VK k) (t:Tx) (hid:0<=idT k.tx t.id) (hta:Qbj k.tx t.id = t) (hst:t.st ≠ 1) (e:E) (hla:Qjf k t e):VCalls prog 166 [.agg k.d,.agg t.d,.agg e.d] [] (QL krD (QEj k e.c.pg)):=by
 refine dk Tryz.func166 ?_
 have h':=h
 obtain⟨h1,h2,h3,h4,h5,h6⟩:=h
 have c1:=QgZ k.pl (by omega) e.c.pg
 have hn:=QuK (a:=e.c.pg) hv.2.2.2.1
 have c2:=QEE e.c
 generalize hgg:QeT k.pl e.c.pg=g at *
 have c3:=Qlv g.1 ⟨e.c.pg,e.c.sl,e.c.a,e.c.b⟩
 have c4:=QzP k h' ⟨0,2,t.id,0,0,e.lsn,⟨e.c.pg,e.c.sl,e.c.a,e.c.b⟩,[]⟩ (.inr rfl)
 have hf:∀ er,er≠0->QEj k e.c.pg (k,QaC er):=fun er hr=>⟨h',fun h=>by simp[QaC] at h,fun _ h=>absurd rfl h,fun _=>hr⟩
 (unfold Tryz.f166; refine rn trivial ?_)
 refine rn F ?_
 repeat' (first
  | with_reducible exact⟨⟩
  | (refine sB F ?_ ?_<;>intro hZ)
  | refine vp F (c1) ?_
  | refine vp F (c2) ?_
  | (refine Qr (c3) rfl ?_; rintro⟨p1,e1⟩ hp1; refine rn F ?_)
  | (refine Qr (c4) rfl ?_; rintro⟨k1,e2⟩ hq; refine rn F ?_)
  | refine vp F (Qah _) ?_
  | (refine Qr (Qlw k1 hq.1 _ _ _) rfl ?_; rintro⟨y,b⟩ -; refine rn F ?_)
  | (refine Qr (Qtu k1.lk (Jc hq.1.2.2.1 (by decide)) _ _ _) rfl ?_; rintro u hu; refine rn F ?_)
  | (refine Qb (id:=3) [0,1,2,3,4] [⟨[],[],5,[1,2,3,4],[]⟩,⟨[],[],6,[],[]⟩] (by kernel_rfl) (by kernel_rfl) ?_; refine rn F ?_)
  | (refine Qb (id:=7) [0,1] [⟨[],[],2,[0],[]⟩,⟨[],[],3,[1],[]⟩,⟨[],[],4,[],[]⟩] (by kernel_rfl) (by kernel_rfl) ?_; refine rn F ?_)
  | (refine Qb (id:=10) [0,1] [⟨[],[],2,[0],[]⟩,⟨[],[],3,[1],[]⟩,⟨[],[],4,[],[]⟩] (by kernel_rfl) (by kernel_rfl) ?_; refine rn F ?_)
  | (refine Qb (id:=16) [0,1,2,3] [⟨[],[],4,[1,2,3],[]⟩,⟨[],[],5,[],[]⟩] (by kernel_rfl) (by kernel_rfl) ?_; refine rn F ?_))
 all_goals first
  | exact⟨rfl,rfl,(k,⟨3,0,e.c.pg,Ce0,0⟩),rfl,h',fun _=>⟨rfl,rfl,hn (by first | assumption | simp_all)⟩,fun h=>absurd rfl h,fun h=>by simp at h⟩
  | exact⟨rfl,rfl,(k,QaC _),rfl,hf _ (by assumption)⟩
  | skip
 all_goals
  obtain⟨e',q1,q2,q3⟩:=hq.2.1 (by dsimp only; omega)
  dsimp only at q3
  have qs:Str 0 k k1:=by
   rw[q3]
   exact .one (.undo q1 rfl ⟨hid,fun h=>by simp at h,fun _=>⟨by dsimp only; rw[hta]; exact hst,e,by dsimp only; rw[hta]; exact hla,rfl,rfl⟩,by dsimp only; rw[hgg]; first | assumption | simp_all,by dsimp only; rw[hgg]; exact(hp1 (by dsimp only; omega)).2⟩ q2)
  have ql:k.lg.es.length<k1.lg.es.length:=by rw[q3]; exact QBj k e'
 all_goals first
  | exact⟨rfl,rfl,(k1,⟨1,t.id,0,Ce0,0⟩),rfl,hq.1,fun h=>by simp at h,fun _ _=>⟨rfl,qs,ql⟩,fun h=>by simp at h⟩
  | (obtain ⟨r1,r2,r3,r4,r5,r6⟩:=hq.1
     exact⟨rfl,rfl,(⟨k1.pg,k1.nx,k1.lg,k1.pl,u,k1.tx,k1.ix,k1.la⟩,⟨1,t.id,0,Ce0,0⟩),rfl,⟨r1,r2,Jc hu r3,r4,r5,r6⟩,fun h=>by simp at h,fun _ _=>⟨rfl,qs.step (.lock u),ql⟩,fun h=>by simp at h⟩)
  | skip
end
section
attribute [local go_sem] Qbo
def QEq(k:Kn)(tx:Int)(a:Kn×Rs):Prop:=a.1.sm/\(a.2.st=3->VK k/\a.1=k/\a.2.pg=(Qkb k.tx k.lg tx).c.pg/\(QbA k.lg (QnK k.tx tx)).2=0/\idF k.pl.fs a.2.pg<0)/\(a.2.st≠3->a.2.st≠5->Str 0 k a.1/\k.lg.es.length<a.1.lg.es.length)/\(a.2.st=5->a.2.er≠0)
def QsX (k:Kn) (h:k.sm) (tx:Int):VCalls prog 134 [.agg k.d,.int .i64 tx] [] (QL krD (QEq k tx)):=by
 refine dk Tryz.func134 ?_
 have c1:=QdF k h tx
 have c2:=Qeg k h ⟨0,5,tx,0,0,0,Ch0,[]⟩
 have c3:=QBI k h tx
 have hf:∀ er,er≠0->QEq k tx (k,QaC er):=fun er hr=>⟨h,fun h=>by simp[QaC] at h,fun _ h=>absurd rfl h,fun _=>hr⟩
 (unfold Tryz.f134; refine rn trivial ?_)
 refine Qr c1 rfl ?_
 rintro⟨t,e⟩ ⟨ht,hq0⟩
 by_cases he:e=0
 rotate_left
 ·skip
  have F:=@he
  refine rn F ?_
  repeat' (first
   | with_reducible exact⟨⟩
   | refine vp F (Qah _) ?_
   | (refine Qb (id:=3) [0,1] [⟨[],[],2,[0],[]⟩,⟨[],[],3,[1],[]⟩,⟨[],[],4,[],[]⟩] (by kernel_rfl) (by kernel_rfl) ?_; refine rn F ?_))
  exact⟨rfl,rfl,(k,QaC e),rfl,hf _ he⟩
 obtain⟨hv,hi,rfl,hst⟩:=hq0 he
 subst he
 have hid:=Qsp hi
 have hta:Qbj k.tx (Qbj k.tx tx).id=Qbj k.tx tx:=by rw[hid]
 have hid0:0<=idT k.tx (Qbj k.tx tx).id:=by rw[hid]; exact hi
 have hfin:(Qbj k.tx tx).st=3->(Qbj k.tx tx).l.length=0->QF8 k ⟨0,5,tx,0,0,0,Ch0,[]⟩:=fun a b=>⟨hi,fun h=>by simp at h,fun _=>⟨a,List.eq_nil_of_length_eq_zero b⟩⟩
 dsimp only at hst ht
 unfold QCe at c3
 generalize htt:Qbj k.tx tx=t at *
 have F:=trivial
 refine rn F ?_
 repeat' (first
  | with_reducible exact⟨⟩
  | (refine sG F ?_ ?_<;>intro hZ)
  | (refine sB F ?_ ?_<;>intro hZ)
  | (refine Qr (c2) rfl ?_; rintro⟨k1,n1,e1⟩ hq; refine rn F ?_)
  | refine vp F (Qah _) ?_
  | (refine Qr (QdG k1.lk (Jc hq.1.2.2.1 (by decide)) tx) rfl ?_; rintro u hu; refine rn F ?_)
  | (refine Qr (c3) rfl ?_; rintro⟨y,ok⟩ hy; refine rn F ?_)
  | (refine Qr (QsP k h hv t hid0 hta hst y (hy (by first | assumption | simp_all)).2.2.2) rfl ?_; rintro⟨k2,r2⟩ hq2; refine rn F ?_)
  | (refine Qb (id:=7) [0,1] [⟨[],[],2,[0],[]⟩,⟨[],[],3,[1],[]⟩,⟨[],[],4,[],[]⟩] (by kernel_rfl) (by kernel_rfl) ?_; refine rn F ?_)
  | (refine Qb (id:=12) [0] [⟨[],[],1,[0],[]⟩,⟨[],[],2,[],[]⟩,⟨[],[],3,[],[]⟩] (by kernel_rfl) (by kernel_rfl) ?_; refine rn F ?_))
 all_goals first
  | exact⟨rfl,rfl,(k,QaC _),rfl,hf _ (by first | assumption | decide)⟩
  | (obtain ⟨q1,q2,q3,q4,q5,q6,q7⟩:=Qv6 hq (by omega)
     have qs:=Qgz hq (by omega) (.inr (.inr rfl)) (hfin (by omega) (by omega))
     obtain⟨r1,r2,r3,r4,r5,r6⟩:=hq.1
     exact⟨rfl,rfl,(⟨k1.pg,k1.nx,k1.lg,k1.pl,u,k1.tx,k1.ix,k1.la⟩,⟨1,0,0,Ce0,0⟩),rfl,⟨r1,r2,Jc hu r3,r4,r5,r6⟩,fun h=>by simp at h,fun _ _=>⟨qs.step (.lock u),by dsimp only; omega⟩,fun h=>by simp at h⟩)
  | (obtain ⟨y1,y2,y3,_⟩:=hy (by first | assumption | simp_all)
     dsimp only at y2
     exact⟨rfl,rfl,(k2,r2),rfl,hq2.1,fun h=>⟨hv,(hq2.2.1 h).1,by rw[<- y2]; exact(hq2.2.1 h).2.1,y3,by rw[(hq2.2.1 h).2.1]; exact(hq2.2.1 h).2.2⟩,fun a b=>(hq2.2.2.1 a b).2,hq2.2.2.2⟩)
  | skip
def QFJ(k:Kn)(pg:Int)(a:Kn×Rs):Prop:=a.1.sm/\(a.2.st=3->a.1=k/\a.2.pg=pg/\idF k.pl.fs pg<0)/\(a.2.st≠3->a.2.st≠5->a.2.tx≠0->Str 0 k a.1/\k.lg.es.length<a.1.lg.es.length)/\(a.2.st=5->a.2.er≠0)
def QBS (k:Kn) (h:k.sm) (tx pg sl:Int):VCalls prog 174 [.agg k.d,.int .i64 tx,.agg [.int .i64 pg,.int .i64 sl]] [] (QL krD (QFJ k pg)):=by
 refine dk Tryz.func174 ?_
 have c1:=QdF k h tx
 have c3:=Qlw k h tx pg sl
 have hf:∀ er,er≠0->QFJ k pg (k,QaC er):=fun er hr=>⟨h,fun h=>by simp[QaC] at h,fun _ h=>absurd rfl h,fun _=>hr⟩
 (unfold Tryz.f174; refine rn trivial ?_)
 refine Qr c1 rfl ?_
 rintro⟨t,e⟩ ⟨ht,hq0⟩
 by_cases he:e=0
 rotate_left
 ·skip
  have F:=@he
  refine rn F ?_
  repeat' (first
   | with_reducible exact⟨⟩
   | refine vp F (Qah _) ?_
   | (refine Qb (id:=3) [0,1] [⟨[],[],2,[0],[]⟩,⟨[],[],3,[1],[]⟩,⟨[],[],4,[],[]⟩] (by kernel_rfl) (by kernel_rfl) ?_; refine rn F ?_))
  exact⟨rfl,rfl,(k,QaC e),rfl,hf _ he⟩
 obtain⟨hv,hi,rfl,hst⟩:=hq0 he
 subst he
 have hid:=Qsp hi
 have hta:Qbj k.tx (Qbj k.tx tx).id=Qbj k.tx tx:=by rw[hid]
 have hid0:0<=idT k.tx (Qbj k.tx tx).id:=by rw[hid]; exact hi
 dsimp only at hst ht
 generalize htt:Qbj k.tx tx=t at *
 have F:=trivial
 refine rn F ?_
 repeat' (first
  | with_reducible exact⟨⟩
  | (refine sB F ?_ ?_<;>intro hZ)
  | refine vp F (Qah _) ?_
  | (refine Qr (c3) rfl ?_; rintro⟨y,ok⟩ hy; refine rn F ?_)
  | (refine Qr (QsP k h hv t hid0 hta hst y (hy (by first | assumption | simp_all)).1) rfl ?_; rintro⟨k2,r2⟩ hq2; refine rn F ?_)
  | (refine Qb (id:=5) [0] [⟨[],[],1,[0],[]⟩,⟨[],[],2,[],[]⟩,⟨[],[],3,[],[]⟩] (by kernel_rfl) (by kernel_rfl) ?_; refine rn F ?_))
 all_goals first
  | exact⟨rfl,rfl,(k,QaC _),rfl,hf _ (by first | assumption | decide)⟩
  | exact⟨rfl,rfl,(k,⟨1,0,0,Ce0,0⟩),rfl,h,fun h=>by simp at h,fun _ _ h=>absurd rfl h,fun h=>by simp at h⟩
  | (have y2:=(hy (by first | assumption | simp_all)).2
     dsimp only at y2
     rw[y2] at hq2
     exact⟨rfl,rfl,(k2,r2),rfl,hq2.1,hq2.2.1,fun h1 h2 _=>(hq2.2.2.1 h1 h2).2,hq2.2.2.2⟩)
  | skip
end
section
attribute [local go_sem] Qbo
def Ev.get(h:Ev x y)(h0:(QbA x n).2=0):QbA y n=QbA x n:=by
 obtain⟨hv,h1,h2,_,_⟩:=QnU h0
 have hf:=h.f
 obtain⟨t,ht⟩:=h.pre
 have hv2:=h.ok hv
 have hl:y.es.length=x.es.length+t.length:=by rw[<- ht,Jb]
 have hd:=Qat hv
 simp only[Lg.hd] at hd
 unfold QbA
 rw[if_neg (by rw[hv2]; decide),if_neg (by simp only[Lg.end_] at *; omega),if_neg (by rw[hv]; decide),if_neg (by omega)]
 rw[hf,<- ht]
 congr 1
 simp only[Lg.end_] at h2
 rw[Jg,Jg,Jy (by omega)]
def QoD(s:Sv)(hs:s.sm)(tx:Int):VCalls prog 170 [.agg s.d,.int .i64 tx] [] (QL boD fun _=>True):=by
 refine dd Tryz.func170 ?_
 have h4:=hs.1.2.2.2.1
 have c2:=Qcc s.k.tx (Jc h4.1 (by decide)) tx
 rcases Qy s.k.tx tx with hn | ⟨i,hil,hid,_⟩
 ·rw [hn] at c2
  (unfold Tryz.f170; refine rn trivial ?_)
  refine rn F ?_
  repeat' (first
   | with_reducible exact⟨⟩
   | refine vp F (c2) ?_)
  all_goals exact⟨rfl,rfl,_,rfl,trivial⟩
 rw[hid] at c2
 have hg:=QdZ s.k.tx i hil
 (unfold Tryz.f170; refine rn trivial ?_)
 have F:=@hg
 refine rn F ?_
 repeat' (first
  | with_reducible exact⟨⟩
  | refine vp F (c2) ?_)
 all_goals exact⟨rfl,rfl,_,rfl,trivial⟩
def inP(l:List Fm)(a:Int):Nat:=if 0<=idF l a then 0 else 1
def Qz6(l:List Fm)(a:Int):inP l a<=1:=by unfold inP; split<;>omega
def rbM(tx:Int)(s:Sv):Nat:=2*(4096-s.k.lg.es.length)+inP s.k.pl.fs (Qkb s.k.tx s.k.lg tx).c.pg
def QxY(h:s.k.lg.es.length<t.k.lg.es.length)(hl:t.k.lg.es.length<=4096):rbM tx t<rbM tx s:=by
 have:=Qz6 t.k.pl.fs (Qkb t.k.tx t.k.lg tx).c.pg
 unfold rbM; omega
def QoR(ev:Ev s.k.lg t.k.lg)(hx:t.k.tx=s.k.tx)(h0:(QbA s.k.lg (QnK s.k.tx tx)).2=0)(h1:idF s.k.pl.fs (Qkb s.k.tx s.k.lg tx).c.pg<0)(h2:0<=idF t.k.pl.fs (Qkb s.k.tx s.k.lg tx).c.pg):rbM tx t<rbM tx s:=by
 have hl:=ev.len
 have e:Qkb t.k.tx t.k.lg tx=Qkb s.k.tx s.k.lg tx:=by unfold Qkb; rw[hx,ev.get h0]
 unfold rbM
 rw[e]
 unfold inP
 rw[if_pos h2,if_neg (by omega)]
 omega
def evQ(s:Sv)(a:Sv×Int):Prop:=a.1.sm/\(a.2=0->Str 0 s.k a.1.k)
structure Re(s0:Sv) where
 s:Sv
 sm:s.sm
 ev:Str 0 s0.k s.k
def Qnn(s:Sv)(hs:s.sm)(tx:Int):VCalls prog 171 [.agg s.d,.int .i64 tx] [] (QL svD (evQ s)):=by
 refine dk Tryz.func171 ?_
 have c1:=Qa7 s.k hs.1
 have c2:=Qcc s.k.tx (Jc hs.1.2.2.2.1.1 (by decide)) tx
 have e0:∀ e,e≠0->evQ s (Sv0,e):=fun e h=>⟨Qdy,fun h2=>absurd h2 h⟩
 (unfold Tryz.f171; refine rn trivial ?_)
 refine rn F ?_
 repeat' (first
  | with_reducible exact⟨⟩
  | (refine sB F ?_ ?_<;>intro hZ)
  | (refine Qr (c1) rfl ?_; rintro b -; refine rn F ?_)
  | refine vp F (c2) ?_)
 all_goals first
  | exact⟨rfl,rfl,(Sv0,15),rfl,e0 _ (by decide)⟩
  | exact⟨rfl,rfl,(Sv0,16),rfl,e0 _ (by decide)⟩
  | skip
 refine Qj (fun r:Re s=>⟨56,0,[(4,.ptr 1 0),(2,.ptr 0 0),(1,.int .i64 tx)],[⟨101,true,r.s.d⟩,⟨101,true,Zv⟩]⟩) (fun r=>rbM tx r.s) ⟨s,hs,Str.refl _⟩ (gc [0,1]) ?_
 rintro⟨s1,sm,ev⟩
 dsimp only
 unfold Zv
 have d1:=QoD s1 sm tx
 have d2:=QsX s1.k sm.1 tx
 have d3:=fun n=>QeF s1 sm n
 refine rn F ?_
 repeat' (first
  | with_reducible exact⟨⟩
  | (refine sB F ?_ ?_<;>intro hZ)
  | (refine Qr (d1) rfl ?_; rintro b2 -; refine rn F ?_)
  | (refine Qr (d2) rfl ?_; rintro⟨k1,r1⟩ hq; refine rn F ?_)
  | (refine Qr (d3 _) rfl ?_; rintro⟨s2,e2⟩ hq2; refine rn F ?_)
  | (refine Qb (id:=10) [0,1,2] [⟨[],[],3,[1,2],[]⟩,⟨[],[],4,[],[]⟩] (by kernel_rfl) (by kernel_rfl) ?_; refine rn F ?_))
 all_goals first
  | exact⟨rfl,rfl,(s1,0),rfl,sm,fun _=>ev⟩
  | exact⟨rfl,rfl,(Sv0,e2),rfl,e0 _ (by assumption)⟩
  | exact⟨rfl,rfl,(Sv0,r1.er),rfl,e0 _ (hq.2.2.2 (by assumption))⟩
  | skip
 ·obtain ⟨v,_,g1,g2,g3⟩:=hq.2.1 (by first | assumption | omega)
  have q2:=hq2.2 (by dsimp only; omega)
  dsimp only at g1 g3 q2
  rw[g1] at g3 q2
  exact⟨⟨s2,hq2.1,ev.trans q2.1⟩,QoR q2.1.ev q2.2.1 g2 g3 q2.2.2,(gc [0,1])⟩
 ·have q:=hq.2.2.1 (by dsimp only; omega) (by dsimp only; omega)
  exact⟨⟨⟨k1,s1.v⟩,⟨hq.1,sm.2⟩,ev.trans q.1⟩,QxY q.2 hq.1.1,(gc [0,1])⟩
end
section
attribute [local go_sem] Qbo
@[go_sem] def srD(a:Sv×Rs):DV:=.tup [.agg a.1.d,.agg a.2.d]
def QGR(s:Sv)(a:Sv×Rs):Prop:=a.1.sm/\(a.2.st=2->Str 0 s.k a.1.k)/\(a.2.st≠5->Str 1 s.k a.1.k)
def QgV(s t:Sv)(h:t.sm)(e:Int):QGR s (t,QaC e):=⟨h,fun h=>by simp[QaC] at h,fun h=>absurd rfl h⟩
def Zr:List DV:=[.int .i64 0,.int .i64 0,.int .i64 0,.bool false,.pv (.str []),.int .i64 0]
def QEy (s:Sv) (hs:s.sm) (tx:Int) (a:Ac):VCalls prog 138 [.agg s.d,.int .i64 tx,.agg a.d] [] (QL srD (QGR s)):=by
 refine dk Tryz.func138 ?_
 (unfold Tryz.f138; refine rn trivial ?_)
 refine Qj (fun r:Re s=>⟨79,0,[(7,.ptr 3 0),(6,.ptr 2 0),(5,.ptr 1 0),(3,.ptr 0 0),(1,.int .i64 tx)],[⟨101,true,r.s.d⟩,⟨176,true,a.d⟩,⟨101,true,Zv⟩,⟨173,true,Zr⟩]⟩) (fun r=>inP r.s.k.pl.fs a.pg) ⟨s,hs,Str.refl _⟩ (gc [0,1,2,3]) ?_
 rintro⟨s1,sm,ev⟩
 dsimp only
 unfold Zv Zr
 have d1:=QED s1.k sm.1 tx a
 have d2:=fun(k:Kn) (hk:k.sm)=>QeF ⟨k,s1.v⟩ ⟨hk,sm.2⟩
 have d3:=fun(k:Kn) (hk:k.sm)=>QoD ⟨k,s1.v⟩ ⟨hk,sm.2⟩ tx
 have d4:=fun(k:Kn) (hk:k.sm)=>Qnn ⟨k,s1.v⟩ ⟨hk,sm.2⟩ tx
 refine rn F ?_
 repeat' (first
  | with_reducible exact⟨⟩
  | (refine sG F ?_ ?_<;>intro hZ)
  | (refine sB F ?_ ?_<;>intro hZ)
  | (refine Qr (d1) rfl ?_; rintro⟨k1,r1⟩ hq; refine rn F ?_)
  | (refine Qr (d2 k1 hq.1 _) rfl ?_; rintro⟨s2,e2⟩ hq2; refine rn F ?_)
  | refine vp F (Qah _) ?_
  | (refine Qr (d3 k1 hq.1) rfl ?_; rintro b -; refine rn F ?_)
  | (refine Qr (d4 k1 hq.1) rfl ?_; rintro⟨s3,e3⟩ hq3; refine rn F ?_)
  | (refine Qb (id:=6) [0,1] [⟨[],[],2,[0],[]⟩,⟨[],[],3,[1],[]⟩,⟨[],[],4,[],[]⟩] (by kernel_rfl) (by kernel_rfl) ?_; refine rn F ?_)
  | (refine Qb (id:=12) [0,1] [⟨[],[],2,[0],[]⟩,⟨[],[],3,[1],[]⟩,⟨[],[],4,[],[]⟩] (by kernel_rfl) (by kernel_rfl) ?_; refine rn F ?_)
  | (refine Qb (id:=14) [0,1] [⟨[],[],2,[1],[]⟩,⟨[],[],3,[],[]⟩] (by kernel_rfl) (by kernel_rfl) ?_; refine rn F ?_))
 all_goals first
  | exact⟨rfl,rfl,(⟨k1,s1.v⟩,QaC e2),rfl,QgV s ⟨k1,s1.v⟩ ⟨hq.1,sm.2⟩ e2⟩
  | exact⟨rfl,rfl,(⟨k1,s1.v⟩,QaC e3),rfl,QgV s ⟨k1,s1.v⟩ ⟨hq.1,sm.2⟩ e3⟩
  | exact⟨rfl,rfl,(⟨k1,s1.v⟩,r1),rfl,⟨hq.1,sm.2⟩,fun h=>ev.trans (hq.2.2.1 h),fun h=>by
   by_cases h2:r1.st=2
   ·exact(ev.trans (hq.2.2.1 h2)).mono (by omega)
   ·exact ev.tr0 (hq.2.2.2 (by dsimp only at *; omega) h2 h)⟩
  | (have q3:=hq3.2 (by dsimp only; omega)
     exact⟨rfl,rfl,(s3,r1),rfl,hq3.1,fun h=>by dsimp only at h; omega,fun h=>ev.tr0 ((hq.2.2.2 (by dsimp only at *; omega) (by dsimp only at *; omega) h).tr q3)⟩)
  | skip
 obtain⟨g1,g2,g3,g4⟩:=hq.2.1 (by first | assumption | (dsimp only; omega))
 have q2:=hq2.2 (by dsimp only; omega)
 dsimp only at g1 g2 g3 g4 q2
 rw[g2] at q2
 refine⟨⟨s2,hq2.1,(ev.trans g4).trans q2.1⟩,?_,(gc [0,1,2,3])⟩
 unfold inP
 dsimp only
 rw[if_pos q2.2.2,if_neg (by omega)]
 omega
@[go_sem] def QHG(a:Sv×Int×Int):DV:=.tup [.agg a.1.d,.int .i64 a.2.1,.int .i64 a.2.2]
def Qs2(s:Sv)(hs:s.sm):VCalls prog 110 [.agg s.d] [] (QL QHG fun a=>a.1.sm/\(a.2.2=0->Str 1 s.k a.1.k)):=by
 refine dk Tryz.func110 ?_
 have c1:=Qtg s.k hs.1
 (unfold Tryz.f110; refine rn trivial ?_)
 refine rn F ?_
 repeat' (first
  | with_reducible exact⟨⟩
  | (refine sB F ?_ ?_<;>intro hZ)
  | (refine Qr (c1) rfl ?_; rintro⟨k1,n1,e1⟩ hq; refine rn F ?_))
 all_goals first
  | exact⟨rfl,rfl,(Sv0,0,e1),rfl,Qdy,fun h=>absurd h (by assumption)⟩
  | exact⟨rfl,rfl,(⟨k1,s.v⟩,n1,0),rfl,⟨hq.1,hs.2⟩,fun _=>by obtain⟨q1,q2,q3⟩:=hq.2 (by dsimp only; omega); dsimp only at q3; subst q3; exact .one (.begin q1 q2)⟩
  | skip
def mkR:∀ n:Nat,V.mk [.pv (.lit (.int .i64 0)),.pv (.lit (.int .i64 0)),.pv (.lit (.int .i64 0))] n = cells Qcl (Jj n Rw0)
 | 0=>rfl
 | n + 1=>by
   show _++V.mk _ n=_
   rw[mkR n,List.replicate_succ]; rfl
def QoI(n:Int):VCalls prog 107 [.int .i64 n] [] (QL (fun a:List Rw×Int=>.tup [.agg [.pv (.sl (fz Qcl a.1))],.int .i64 a.2]) fun a=>a.1.length<=64/\(a.2=0->a.1=Jj n.toNat Rw0)/\(1<=n->n<=64->a.2=0)):=by
 refine dk Tryz.func107 ?_
 (unfold Tryz.f107; refine rn trivial ?_)
 refine rn F ?_
 repeat' (first
  | with_reducible exact⟨⟩
  | (refine sG F ?_ ?_<;>intro hZ)
  | (refine sB F ?_ ?_<;>intro hZ))
 all_goals first
  | exact⟨rfl,rfl,([],1),rfl,Jh _,fun h=>by simp at h,fun _ _=>by omega⟩
  | skip
 obtain⟨m,rfl⟩:∃ m:Nat,n=m:=⟨n.toNat,by omega⟩
 have hc:((0:Int)<=(m:Int)/\(m:Int)<=(m:Int)/\((24:Nat):Int)*(m:Int)<=281474976710656/\(m:Int)<=9223372036854775807)=True:=eq_true ⟨by omega,by omega,by omega,by omega⟩
 have hmk:=mkR m
 have hlr:(Jj m Rw0).length=m:=Jm
 refine rn (Ja @hc (Ja @hmk @hlr)) ?_
 exact⟨rfl,rfl,(Jj m Rw0,0),rfl,by dsimp only; rw[hlr]; omega,fun _=>rfl,fun _ _=>rfl⟩
end
section
attribute [local go_sem] Qbo
def Lg1:Lg:=⟨1,[],0⟩
def QF5:lgB Lg1=true:=by decide
def QBJ:VCalls prog 108 [] [] (Ret (.agg Lg1.c)):=by
 refine dk Tryz.func108 ?_
 (unfold Tryz.f108; refine rn trivial ?_)
 rfl
def Qx7(n:Int):(Qh7 n).1.fs=[]:=by unfold Qh7; split<;>rfl
def QsY(s:Sv)(hs:s.sm)(n:Int):VCalls prog 113 [.agg s.d,.int .i64 n] [] (QL svD (evQ s)):=by
 refine dk Tryz.func113 ?_
 have c1:=QxM s.k hs.1 n
 have c2:=QcK s.k.pl (Jc hs.1.2.1 (by decide)) n
 have c3:=fun k hk x=>QoB s hs.2 k hk x
 have e0:∀ e,e≠0->evQ s (Sv0,e):=fun e h=>⟨Qdy,fun h2=>absurd h2 h⟩
 (unfold Tryz.f113; refine rn trivial ?_)
 refine Qr c1 rfl ?_
 rintro⟨k1,x,e⟩ hq
 by_cases he:e=0
 rotate_left
 ·skip
  have F:=@he
  refine rn F ?_
  exact⟨rfl,rfl,(Sv0,e),rfl,e0 _ he⟩
 obtain⟨q1,q2,q3,q4,q5⟩:=hq.2 he
 dsimp only at q1 q2 q3 q4 q5
 subst he
 rcases QbY s.k.pl n with hn | ⟨hpl,i,hi,hfi,hif,hpg⟩
 ·omega
 have hx:(k1.pl.fs.getD i Fm0).pg=x:=by
  rw[q3,q4]; unfold QeT; rw[hfi,if_neg (by omega),Jk]
 have hxi:idF k1.pl.fs x.id=i:=by rw[<- hx,q4,hpg]; exact hif
 have hw:=fun(s2:Sv) (e2:Int) (hq2:Qrs k1 x (s2,e2)) (h:e2=0) (hd:(s.k.pl.fs.getD i Fm0).dirty=true)=>(Qiq hq2 h (by rw[q4]; exact hpl) (by rw[q4]; exact hi) hxi hx (by rw[q4]; exact hd)).1
 dsimp only at hw
 rw[hfi] at c2
 have hg:=Qb9 s.k.pl.fs i hi
 generalize s.k.pl.fs.getD i Fm0=f at *
 have F:=@hg
 refine rn F ?_
 repeat' (first
  | with_reducible exact⟨⟩
  | (refine sB F ?_ ?_<;>intro hZ)
  | refine vp F (c2) ?_
  | (refine Qr (c3 k1 hq.1 x) rfl ?_; rintro⟨s2,e2⟩ hq2; refine rn F ?_)
  | (refine Qb (id:=4) [0,1,2,3,4,5,6,7] [⟨[],[],8,[0,1,2,3,4,5],[9,10,11,12]⟩] (by kernel_rfl) (by kernel_rfl) ?_; refine rn F ?_))
 all_goals first
  | exact⟨rfl,rfl,(s,0),rfl,hs,fun _=>Str.refl _⟩
  | exact⟨rfl,rfl,(s2,e2),rfl,hq2.1,fun h=>q1.trans (hw s2 e2 hq2 h (by first | assumption | simp_all))⟩
  | skip
end
section
attribute [local go_sem] Qbo
@[go_sem] def tbD(a:Tx×Bool):DV:=.tup [.agg a.1.d,.bool a.2]
def Qly(k:Kn)(h:k.sm)(tx:Int):VCalls prog 162 [.agg k.d,.int .i64 tx] [] (QL tbD fun _=>True):=by
 refine dk Tryz.func162 ?_
 have c1:=Qa7 k h
 have c2:=Qcc k.tx (Jc h.2.2.2.1.1 (by decide)) tx
 rcases Qy k.tx tx with hn | ⟨i,hil,hid,_⟩
 ·rw [hn] at c2
  (unfold Tryz.f162; refine rn trivial ?_)
  refine rn F ?_
  repeat' (first
   | with_reducible exact⟨⟩
   | (refine sB F ?_ ?_<;>intro hZ)
   | (refine Qr (c1) rfl ?_; rintro b -; refine rn F ?_)
   | refine vp F (c2) ?_)
  all_goals exact⟨rfl,rfl,(Tx0,false),rfl,trivial⟩
 rw[hid] at c2
 have hg:=QdZ k.tx i hil
 (unfold Tryz.f162; refine rn trivial ?_)
 have F:=@hg
 refine rn F ?_
 repeat' (first
  | with_reducible exact⟨⟩
  | (refine sB F ?_ ?_<;>intro hZ)
  | (refine Qr (c1) rfl ?_; rintro b hb; refine rn F ?_)
  | refine vp F (c2) ?_)
 all_goals first
  | exact⟨rfl,rfl,(k.tx.getD i Tx0,true),rfl,trivial⟩
  | exact⟨rfl,rfl,(Tx0,false),rfl,trivial⟩
  | skip
@[go_sem] def QIy(a:Int×Int×Int×Bool):DV:=.tup [.int .i64 a.1,.agg [.int .i64 a.2.1,.int .i64 a.2.2.1],.bool a.2.2.2]
def Qqn(k:Kn)(h:k.sm)(tx:Int):VCalls prog 139 [.agg k.d,.int .i64 tx] [] (QL QIy fun _=>True):=by
 refine dk Tryz.func139 ?_
 have h3:=h.2.2.1
 have c1:=QdE k.lk (by omega) tx
 have c2:=QoK k.lk (by omega) tx
 have c3:=fun n=>Qly k h n
 (unfold Tryz.f139; refine rn trivial ?_)
 refine rn F ?_
 repeat' (first
  | with_reducible exact⟨⟩
  | (refine sB F ?_ ?_<;>intro hZ)
  | (refine Qr (c1) rfl ?_; rintro⟨g,b⟩ -; refine rn F ?_)
  | (refine Qr (c2) rfl ?_; rintro l hl; refine rn F ?_))
 all_goals first
  | exact⟨rfl,rfl,(0,0,0,false),rfl,trivial⟩
  | skip
 refine Qj (fun s:To l.length=>⟨44,0,[(28,.int .i64 s.i),(27,.int .i64 l.length),(26,.pv (.sl (fz Qx l))),(7,.ptr 2 0),(5,.ptr 1 0),(2,.ptr 0 0)],[⟨62,true,k.d⟩,⟨225,true,[.int .i64 0,.int .i64 0]⟩,⟨248,true,g.d⟩]⟩) (fun s=>l.length-s.i) ⟨0,Jh _⟩ (gc [0,1,2]) ?_
 rintro⟨i,hi⟩
 dsimp only
 have hx:=fun h:i<l.length=>QV l i h
 have F:=@hx
 refine rn F ?_
 repeat' (first
  | with_reducible exact⟨⟩
  | (refine sB F ?_ ?_<;>intro hZ)
  | (refine Qr (c3 _) rfl ?_; rintro⟨t,b3⟩ -; refine rn F ?_)
  | (refine Qb (id:=9) [0,1,2] [⟨[],[],3,[1,2],[]⟩,⟨[],[],4,[],[]⟩,⟨[],[],5,[],[]⟩] (by kernel_rfl) (by kernel_rfl) ?_; refine rn F ?_))
 all_goals first
  | exact⟨rfl,rfl,(_,g.pg,g.sl,true),rfl,trivial⟩
  | exact⟨rfl,rfl,(0,0,0,false),rfl,trivial⟩
  | exact⟨⟨i+1,by omega⟩,by dsimp only; omega,(gc [0,1,2])⟩
  | skip
def QxB(k:Kn)(h:k.sm):VCalls prog 133 [.agg k.d] [] (QL ilD fun l=>l.length<=65):=by
 refine dk Tryz.func133 ?_
 have h4:=h.2.2.2.1.1
 have c3:=fun n=>Qly k h n
 (unfold Tryz.f133; refine rn trivial ?_)
 refine VLoop.nilOwn 3 3 1 rfl ?_
 refine rn trivial ?_
 refine Qj (fun s:{s:Nat×List Int // s.1<=k.tx.length/\s.2.length<=s.1}=>⟨36,0,[(4,.int .i64 s.1.1),(3,.own 1 1 0 s.1.2.length),(1,.ptr 0 0)],[⟨62,true,k.d⟩,⟨3,true,cells Qx s.1.2⟩]⟩) (fun s=>k.tx.length-s.1.1) ⟨(0,[]),by simp⟩ (gc [0,1]) ?_
 rintro⟨⟨i,out⟩,hi,ho⟩
 dsimp only at hi ho |-
 have hg:=fun h:i<k.tx.length=>QdZ k.tx i h
 have hb:(out.length+1)*8<=140737488355328:=by omega
 have F:=(Ja @hg @hb)
 refine rn F ?_
 repeat' (first
  | with_reducible exact⟨⟩
  | (refine sB F ?_ ?_<;>intro hZ)
  | (refine Qr (c3 _) rfl ?_; rintro⟨t,b3⟩ -; refine rn F ?_)
  | (refine Qb (id:=5) [0,1,2,3,4,5,6] [⟨[11],[],7,[1,2,3,4,5],[8,9,10]⟩,⟨[11],[11],12,[10],[]⟩,⟨[],[],13,[],[]⟩] (by kernel_rfl) (by kernel_rfl) ?_; refine rn F ?_))
 all_goals first
  | exact⟨rfl,rfl,out,rfl,by omega⟩
  | exact⟨⟨(i+1,out),by dsimp only; omega,by dsimp only; omega⟩,by dsimp only; omega,(gc [0,1])⟩
  | exact⟨⟨(i+1,out++[(k.tx.getD i Tx0).id]),by dsimp only; omega,by simp; omega⟩,by dsimp only; omega,by dsimp only; rw[Jb]; exact(gc [0,4])⟩
  | skip
@[go_sem] def QIc(a:Sv×Nat×Int):DV:=.tup [.agg a.1.d,.int .i64 a.2.1,.int .i64 a.2.2]
def ceQ(s:Sv)(a:Sv×Nat×Int):Prop:=a.1.sm/\(a.2.2=0->Str 0 s.k a.1.k/\a.2.1+s.k.lg.es.length<=a.1.k.lg.es.length)
structure Rn(s0:Sv) where
 s:Sv
 n:Nat
 sm:s.sm
 ev:Str 0 s0.k s.k
 up:n+s0.k.lg.es.length<=s.k.lg.es.length
def Qxr(s:Sv)(hs:s.sm)(tx pg sl:Int):VCalls prog 140 [.agg s.d,.int .i64 tx,.agg [.int .i64 pg,.int .i64 sl]] [] (QL QIc (ceQ s)):=by
 refine dk Tryz.func140 ?_
 (unfold Tryz.f140; refine rn trivial ?_)
 refine Qj (fun r:Rn s=>⟨57,0,[(9,.int .i64 r.n),(6,.ptr 2 0),(5,.ptr 1 0),(3,.ptr 0 0),(1,.int .i64 tx)],[⟨101,true,r.s.d⟩,⟨225,true,[.int .i64 pg,.int .i64 sl]⟩,⟨101,true,Zv⟩]⟩) (fun r=>2*(4096-r.s.k.lg.es.length)+inP r.s.k.pl.fs pg) ⟨s,0,hs,Str.refl _,by omega⟩ (gc [0,1,2]) ?_
 rintro⟨s1,n,sm,ev,up⟩
 have hle:=sm.1.1
 dsimp only
 unfold Zv
 have d1:=QBS s1.k sm.1 tx pg sl
 have d2:=fun p=>QeF s1 sm p
 refine rn F ?_
 repeat' (first
  | with_reducible exact⟨⟩
  | (refine sB F ?_ ?_<;>intro hZ)
  | (refine Qr (d1) rfl ?_; rintro⟨k1,r1⟩ hq; refine rn F ?_)
  | (refine Qr (d2 _) rfl ?_; rintro⟨s2,e2⟩ hq2; refine rn F ?_)
  | (refine Qb (id:=6) [0,1,2,3] [⟨[],[],4,[1,2,3],[]⟩,⟨[],[],5,[2,3],[]⟩,⟨[],[],6,[],[]⟩] (by kernel_rfl) (by kernel_rfl) ?_; refine rn F ?_))
 all_goals first
  | exact⟨rfl,rfl,(s1,n,_),rfl,sm,fun _=>⟨ev,up⟩⟩
  | skip
 ·obtain ⟨g1,g2,g3⟩:=hq.2.1 (by first | assumption | (dsimp only; omega))
  have q2:=hq2.2 (by dsimp only; omega)
  dsimp only at g1 g2 g3 q2
  rw[g2] at q2
  have hl:=q2.1.ev.len
  refine⟨⟨s2,n,hq2.1,ev.trans q2.1,by omega⟩,?_,(gc [0,1,2])⟩
  unfold inP
  dsimp only
  rw[if_pos q2.2.2,if_neg (by omega)]
  omega
 ·obtain ⟨qe,q⟩:=hq.2.2.1 (by dsimp only; omega) (by dsimp only; omega) (by dsimp only; omega)
  have hk:=hq.1.1
  have h1:=Qz6 k1.pl.fs pg
  dsimp only at q hk
  exact⟨⟨⟨k1,s1.v⟩,n+1,⟨hq.1,sm.2⟩,ev.trans qe,by dsimp only; omega⟩,by dsimp only; omega,(gc [0,1,2])⟩
end
end Go.Proofs.YtepdccfgnafgcaaGreat
