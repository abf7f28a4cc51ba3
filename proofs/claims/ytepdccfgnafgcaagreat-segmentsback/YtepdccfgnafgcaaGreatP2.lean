/-
  Contracts of functions and plain laws. No condition.
-/
import Derived.Test.YtepdccfgnafgcaaGreatP1
import Derived.Test.YtepdccfgnafgcaaGreatV3
set_option linter.unusedSimpArgs false
set_option linter.unusedVariables false
set_option linter.defProp false
set_option maxRecDepth 100000
set_option maxHeartbeats 8000000
set_option autoImplicit true
set_option relaxedAutoImplicit true
open And renaming intro->Ja
open Bool renaming and_eq_true->Jh,beq_eq_decide_eq->JF,and_assoc->JQ,true_and->JS
open Int renaming toNat_natCast->Jm
open List renaming length_append->Jb,length_nil->Jd,length_cons->Je,getD_eq_getElem?_getD->Jg,replicate->Ji,range->Jj,length_take->Jk,take_succ_eq_append_getElem->Jl,take_of_length_le->Jn,length_replicate->Jo,getElem?_append_right->Jq,length_drop->Js,all_eq_true->Jt,getElem_mem->Ju,mem_range->Jv,map_nil->Jw,map_cons->Jy,length_set->Jz,getElem?_append_left->JA,getElem?_eq_getElem->JB,foldl_append->JC,any_eq_true->JE,length_filter_le->JG,getElem?_eq_none->JH,set_append_right->JI,mem_of_mem_take->JJ,getElem_of_mem->JK,mem_append->JO,prefix_rfl->JP,nodup_nil->JR,mem_map->JU,map_set->JV
open Nat renaming le_trans->Jc,zero_le->Jf,le_refl->Jp,mul_le_mul_right->Jr,add_sub_cancel_left->JD,lt_or_ge->JL,sub_self->JM,le_add_right->JN,zero_add->JT
namespace Go.Proofs.YtepdccfgnafgcaaGreat
open Go.V Go
open Tryz (prog)
def lkC(l:List Gr)(i:Nat):Nat->Bool
 | 0=>true
 | k+1=>if (l.getD k Gr0).pg=(l.getD i Gr0).pg/\(l.getD k Gr0).sl=(l.getD i Gr0).sl then !Qth (l.getD k Gr0) (l.getD i Gr0)&&lkC l i k else true
def lkH(l:List Gr)(i:Nat):Bool:=grB (l.getD i Gr0)&&((decide (i=0)||lessG (l.getD (i-1) Gr0) (l.getD i Gr0))&&lkC l i i)
def lkX(w:List Gr)(j k:Nat):Bool:=!decide ((w.getD k Gr0).tx=(w.getD j Gr0).tx)
def lkW(l w:List Gr)(j:Nat):Bool:=grB (w.getD j Gr0)&&(decide (QwY l (w.getD j Gr0).tx (w.getD j Gr0).pg (w.getD j Gr0).sl<(w.getD j Gr0).md)&&(Jj j).all (lkX w j))
def lkB(t:Lk):Bool:=decide (t.sum<=1024)&&((Jj t.held.length).all (lkH t.held)&&(Jj t.wait.length).all (lkW t.held t.wait))
def QBO{t:Lk}(h:¬ t.sum<=1024):lkB t=false:=by unfold lkB; rw[decide_eq_false h]; rfl
def QDr{t:Lk}{i:Nat}(hi:i<t.held.length)(h:lkH t.held i=false):lkB t=false:=by unfold lkB; rw[Qaz hi h]; simp
def QDq{t:Lk}{i:Nat}(hi:i<t.wait.length)(h:lkW t.held t.wait i=false):lkB t=false:=by unfold lkB; rw[Qaz hi h]; simp
def QhI(t:Lk)(hs:t.sum<=100000):VCalls prog 199 [.agg t.d] [] (Ret (.bool (lkB t))):=by
 refine dd Tryz.func199 ?_
 have k0:=@QBO t
 have kh:=@QDr t
 have kw:=@QDq t
 have ky:t.sum<=1024->(Jj t.held.length).all (lkH t.held)=true->(Jj t.wait.length).all (lkW t.held t.wait)=true->lkB t=true:=fun a b c=>by unfold lkB; rw[decide_eq_true a,b,c]; rfl
 unfold Lk.sum at *
 have cm:=QlJ t (by omega)
 obtain⟨l,w⟩:=t
 dsimp only at hs cm k0 kh kw ky |-
 generalize lkB ⟨l,w⟩=R at *
 (unfold Tryz.f199; refine rn trivial ?_)
 refine rn F ?_
 repeat' (first
  | with_reducible exact⟨⟩
  | (refine sB F ?_ ?_<;>intro hZ))
 ·rw[k0 (by omega)]
 have hsum:l.length+w.length<=1024:=by omega
 refine Qg (fun s:Okay l.length (lkH l)=>⟨121,0,[(3,.int .i64 s.i),(1,.ptr 0 0)],[⟨55,true,[.pv (.sl (fz Qak l)),.pv (.sl (fz Qak w))]⟩]⟩) (fun s=>l.length-s.i) (Okay.start _ _) (gc [0]) ?_
 intro s
 have hi:=s.hi
 by_cases hc:s.i<l.length
 rotate_left
 ·have hc':¬ ((s.i:Nat):Int) < l.length:=by omega
  have F:=@hc'
  refine rn F ?_
  refine Qg (fun r:Okay w.length (lkW l w)=>⟨121,0,[(5,.int .i64 r.i),(1,.ptr 0 0)],[⟨55,true,[.pv (.sl (fz Qak l)),.pv (.sl (fz Qak w))]⟩]⟩) (fun s=>w.length-s.i) (Okay.start _ _) (gc [0]) ?_
  intro r
  have hj:=r.hi
  by_cases hr:r.i<w.length
  rotate_left
  ·have hr':¬ ((r.i:Nat):Int) < w.length:=by omega
   have F:=@hr'
   refine rn F ?_
   rw[ky hsum (s.all hc) (r.all hr)]
  have hr':((r.i:Nat):Int)<w.length:=by omega
  have hw:=Qax w r.i hr
  have d1:=Qrd (w.getD r.i Gr0)
  have ew:lkW l w r.i=(grB (w.getD r.i Gr0)&&(decide (QwY l (w.getD r.i Gr0).tx (w.getD r.i Gr0).pg (w.getD r.i Gr0).sl<(w.getD r.i Gr0).md)&&(Jj r.i).all (lkX w r.i))):=rfl
  have kwr:=kw hr
  generalize hM:QwY l (w.getD r.i Gr0).tx (w.getD r.i Gr0).pg (w.getD r.i Gr0).sl=M at *
  have cm':=cm (w.getD r.i Gr0).tx (w.getD r.i Gr0).pg (w.getD r.i Gr0).sl
  rw[hM] at cm'
  generalize hgr:grB (w.getD r.i Gr0)=gb at *
  cases gb
  ·skip
   have F:=(Ja @hr' @hw)
   refine rn F ?_
   repeat' (first
    | with_reducible exact⟨⟩
    | refine vp F (d1) ?_
    | (refine Qa0 (id:=17) [[],[0],[0,1],[0,1,2],[0,1,2,3],[0,1,2,3],[0,1,2,3,5],[0,1,2,3],[0,1,2,3,7],[0,1,2,3,4,5,6,7,8],[0,1,2,3],[0,1,2,3,10],[0,1,2,3,4,5,6,7,8,9,10,11],[0,1,2,3,4,5,6,7,8,9,10,11,12]] [0] [⟨[],[],1,[],[2,3,4,5,6,7,8,10,11]⟩,⟨[],[],9,[10,11],[12,13]⟩] (by kernel_rfl) (by kernel_rfl) (by kernel_rfl) ?_; refine rn F ?_))
   rw[kwr (by rw[ew]; rfl)]
  by_cases hmd:M<(w.getD r.i Gr0).md
  rotate_left
  ·skip
   have F:=(Ja @hr' (Ja @hw @hmd))
   refine rn F ?_
   repeat' (first
    | with_reducible exact⟨⟩
    | refine vp F (d1) ?_
    | refine vp F (cm') ?_
    | (refine Qa0 (id:=17) [[],[0],[0,1],[0,1,2],[0,1,2,3],[0,1,2,3],[0,1,2,3,5],[0,1,2,3],[0,1,2,3,7],[0,1,2,3,4,5,6,7,8],[0,1,2,3],[0,1,2,3,10],[0,1,2,3,4,5,6,7,8,9,10,11],[0,1,2,3,4,5,6,7,8,9,10,11,12]] [0] [⟨[],[],1,[],[2,3,4,5,6,7,8,10,11]⟩,⟨[],[],9,[10,11],[12,13]⟩] (by kernel_rfl) (by kernel_rfl) (by kernel_rfl) ?_; refine rn F ?_))
   rw[kwr (by rw[ew,decide_eq_false hmd]; rfl)]
  rw[decide_eq_true hmd] at ew
  have F:=(Ja @hr' (Ja @hw @hmd))
  refine rn F ?_
  repeat' (first
   | with_reducible exact⟨⟩
   | refine vp F (d1) ?_
   | refine vp F (cm') ?_
   | (refine Qa0 (id:=17) [[],[0],[0,1],[0,1,2],[0,1,2,3],[0,1,2,3],[0,1,2,3,5],[0,1,2,3],[0,1,2,3,7],[0,1,2,3,4,5,6,7,8],[0,1,2,3],[0,1,2,3,10],[0,1,2,3,4,5,6,7,8,9,10,11],[0,1,2,3,4,5,6,7,8,9,10,11,12]] [0] [⟨[],[],1,[],[2,3,4,5,6,7,8,10,11]⟩,⟨[],[],9,[10,11],[12,13]⟩] (by kernel_rfl) (by kernel_rfl) (by kernel_rfl) ?_; refine rn F ?_))
  refine Qg (fun s:Okay r.i (lkX w r.i)=>⟨121,0,[(7,.int .i64 s.i),(6,.ptr 1 0),(5,.int .i64 r.i),(1,.ptr 0 0)],[⟨55,true,[.pv (.sl (fz Qak l)),.pv (.sl (fz Qak w))]⟩,⟨248,true,Gr.d (w.getD r.i Gr0)⟩]⟩) (fun s=>r.i-s.i) (Okay.start _ _) (gc [0,1]) ?_
  intro q
  have hq:=q.hi
  by_cases hqc:q.i<r.i
  ·have hqc':((q.i:Nat):Int) < r.i:=by omega
   have hqw:((q.i:Nat):Int)<w.length:=by omega
   have hx:=Qax w q.i (by omega)
   have F:=(Ja @hqc' (Ja @hqw @hx))
   refine rn F ?_
   repeat' (first
    | with_reducible exact⟨⟩
    | (refine sB F ?_ ?_<;>intro hZ)
    | (refine Qc (id:=22) [0,1,2,3,4,5,6,7,8] [] (by kernel_rfl) (by kernel_rfl) ?_; refine rn F ?_))
   all_goals first
    | exact⟨q.next hqc (by unfold lkX; rw[decide_eq_false (by assumption)]; rfl),q.dec hqc,(gc [0,1])⟩
    | (rw[kwr (by rw[ew,Qaz hqc (by unfold lkX; rw[decide_eq_true (by assumption)]; rfl)]; rfl)])
  ·have hqc':¬ ((q.i:Nat):Int) < r.i:=by omega
   have F:=@hqc'
   refine rn F ?_
   exact⟨r.next hr (by rw[ew,q.all hqc]; rfl),r.dec hr,(gc [0])⟩
 have hc':((s.i:Nat):Int)<l.length:=by omega
 have hg:=Qax l s.i hc
 have hgp:=fun h:s.i-1<l.length=>Qax l (s.i-1) h
 have c1:=Qrd (l.getD s.i Gr0)
 have c2:=QmO (l.getD (s.i-1) Gr0) (l.getD s.i Gr0)
 have c3:=fun a=>QfF a (l.getD s.i Gr0)
 have eh:lkH l s.i=(grB (l.getD s.i Gr0)&&((decide (s.i=0)||lessG (l.getD (s.i-1) Gr0) (l.getD s.i Gr0))&&lkC l s.i s.i)):=rfl
 have khs:=kh hc
 generalize hgr:grB (l.getD s.i Gr0)=gb at *
 cases gb
 ·skip
  have F:=(Ja @hc' @hg)
  refine rn F ?_
  repeat' (first
   | with_reducible exact⟨⟩
   | refine vp F (c1) ?_
   | (refine Qa0 (id:=6) [[],[0],[],[0,1,2],[0,1,2,3],[0,1,2,3,4],[0,1,2,3,4,5],[0,1,2,3,4,5,6],[0,1,2,3,4,5,6,7],[0,1,2,3,4,5,6,7,8],[0,1,2,3,4,5,6,7,8,9],[0,1,2,3,4,5,6,7,8,9,10],[0,1,2,3,4,5,6,7,8,9,10,11],[0,1,2,3,4,5,6,7,8,9,10],[0,1,2,3,4,5,6,7,8,9,10,13],[0,1,2,3,4,5,6,7,8,9,10,11,12,13,14],[0,1,2,3,4,5,6,7,8,9,10,11,12,13,14,15],[0,1,2,3,4,5,6,7,8,9,10],[0,1,2,3,4,5,6,7,8,9,10,17],[0,1,2,3,4,5,6,7,8,9,10],[0,1,2,3,4,5,6,7,8,9,10,17,18,19],[0,1,2,3,4,5,6,7,8,9,10,17,18,19,20],[0,1,2,3,4,5,6,7,8,9,10,11,12,13,14,15,16,17,18,19,20,21],[0,1,2,3,4,5,6,7,8,9,10,11,12,13,14,15,16,17,18,19,20,21,22],[0,1,2,3,4,5,6,7,8,9,10,11,12,13,14,15,16,17,18,19,20,21,22,23],[0,1,2,3,4,5,6,7,8,9,10,11,12,13,14,15,16,17,18,19,20,21,22,23,24]] [0,1,2,3,4] [⟨[],[],5,[],[6,7,8,9,10,11,12,13,14,15,16,17,18,19,20,21]⟩,⟨[],[],22,[],[23,24,25]⟩] (by kernel_rfl) (by kernel_rfl) (by kernel_rfl) ?_; refine rn F ?_))
  rw[khs (by rw[eh]; rfl)]
 have tail:(decide (s.i=0)||lessG (l.getD (s.i-1) Gr0) (l.getD s.i Gr0))=true->lkH l s.i=lkC l s.i s.i:=fun h=>by rw[eh,h]; rfl
 by_cases hz:s.i=0
 rotate_left
 have hz':(0:Int)<s.i:=by omega
 have hcp:((s.i:Nat):Int)-1<l.length:=by omega
 have hgp':=hgp (by omega)
 generalize hls:lessG (l.getD (s.i-1) Gr0) (l.getD s.i Gr0)=lb at *
 cases lb
 ·skip
  have F:=(Ja @hc' (Ja @hg (Ja @hz' (Ja @hcp @hgp'))))
  refine rn F ?_
  repeat' (first
   | with_reducible exact⟨⟩
   | refine vp F (c1) ?_
   | refine vp F (c2) ?_
   | (refine Qa0 (id:=6) [[],[0],[],[0,1,2],[0,1,2,3],[0,1,2,3,4],[0,1,2,3,4,5],[0,1,2,3,4,5,6],[0,1,2,3,4,5,6,7],[0,1,2,3,4,5,6,7,8],[0,1,2,3,4,5,6,7,8,9],[0,1,2,3,4,5,6,7,8,9,10],[0,1,2,3,4,5,6,7,8,9,10,11],[0,1,2,3,4,5,6,7,8,9,10],[0,1,2,3,4,5,6,7,8,9,10,13],[0,1,2,3,4,5,6,7,8,9,10,11,12,13,14],[0,1,2,3,4,5,6,7,8,9,10,11,12,13,14,15],[0,1,2,3,4,5,6,7,8,9,10],[0,1,2,3,4,5,6,7,8,9,10,17],[0,1,2,3,4,5,6,7,8,9,10],[0,1,2,3,4,5,6,7,8,9,10,17,18,19],[0,1,2,3,4,5,6,7,8,9,10,17,18,19,20],[0,1,2,3,4,5,6,7,8,9,10,11,12,13,14,15,16,17,18,19,20,21],[0,1,2,3,4,5,6,7,8,9,10,11,12,13,14,15,16,17,18,19,20,21,22],[0,1,2,3,4,5,6,7,8,9,10,11,12,13,14,15,16,17,18,19,20,21,22,23],[0,1,2,3,4,5,6,7,8,9,10,11,12,13,14,15,16,17,18,19,20,21,22,23,24]] [0,1,2,3,4] [⟨[],[],5,[],[6,7,8,9,10,11,12,13,14,15,16,17,18,19,20,21]⟩,⟨[],[],22,[],[23,24,25]⟩] (by kernel_rfl) (by kernel_rfl) (by kernel_rfl) ?_; refine rn F ?_))
  rw[khs (by rw[eh,decide_eq_false hz]; rfl)]
 have htl:=tail (by simp)
 have F:=(Ja @hc' (Ja @hg (Ja @hz' (Ja @hcp @hgp'))))
 refine rn F ?_
 repeat' (first
  | with_reducible exact⟨⟩
  | refine vp F (c1) ?_
  | refine vp F (c2) ?_
  | (refine Qa0 (id:=6) [[],[0],[],[0,1,2],[0,1,2,3],[0,1,2,3,4],[0,1,2,3,4,5],[0,1,2,3,4,5,6],[0,1,2,3,4,5,6,7],[0,1,2,3,4,5,6,7,8],[0,1,2,3,4,5,6,7,8,9],[0,1,2,3,4,5,6,7,8,9,10],[0,1,2,3,4,5,6,7,8,9,10,11],[0,1,2,3,4,5,6,7,8,9,10],[0,1,2,3,4,5,6,7,8,9,10,13],[0,1,2,3,4,5,6,7,8,9,10,11,12,13,14],[0,1,2,3,4,5,6,7,8,9,10,11,12,13,14,15],[0,1,2,3,4,5,6,7,8,9,10],[0,1,2,3,4,5,6,7,8,9,10,17],[0,1,2,3,4,5,6,7,8,9,10],[0,1,2,3,4,5,6,7,8,9,10,17,18,19],[0,1,2,3,4,5,6,7,8,9,10,17,18,19,20],[0,1,2,3,4,5,6,7,8,9,10,11,12,13,14,15,16,17,18,19,20,21],[0,1,2,3,4,5,6,7,8,9,10,11,12,13,14,15,16,17,18,19,20,21,22],[0,1,2,3,4,5,6,7,8,9,10,11,12,13,14,15,16,17,18,19,20,21,22,23],[0,1,2,3,4,5,6,7,8,9,10,11,12,13,14,15,16,17,18,19,20,21,22,23,24]] [0,1,2,3,4] [⟨[],[],5,[],[6,7,8,9,10,11,12,13,14,15,16,17,18,19,20,21]⟩,⟨[],[],22,[],[23,24,25]⟩] (by kernel_rfl) (by kernel_rfl) (by kernel_rfl) ?_; refine rn F ?_))
 rotate_left
 have hz':¬ (0:Int)<s.i:=by omega
 have htl:=tail (by rw[decide_eq_true hz]; rfl)
 have F:=(Ja @hc' (Ja @hg @hz'))
 refine rn F ?_
 repeat' (first
  | with_reducible exact⟨⟩
  | refine vp F (c1) ?_
  | (refine Qa0 (id:=6) [[],[0],[],[0,1,2],[0,1,2,3],[0,1,2,3,4],[0,1,2,3,4,5],[0,1,2,3,4,5,6],[0,1,2,3,4,5,6,7],[0,1,2,3,4,5,6,7,8],[0,1,2,3,4,5,6,7,8,9],[0,1,2,3,4,5,6,7,8,9,10],[0,1,2,3,4,5,6,7,8,9,10,11],[0,1,2,3,4,5,6,7,8,9,10],[0,1,2,3,4,5,6,7,8,9,10,13],[0,1,2,3,4,5,6,7,8,9,10,11,12,13,14],[0,1,2,3,4,5,6,7,8,9,10,11,12,13,14,15],[0,1,2,3,4,5,6,7,8,9,10],[0,1,2,3,4,5,6,7,8,9,10,17],[0,1,2,3,4,5,6,7,8,9,10],[0,1,2,3,4,5,6,7,8,9,10,17,18,19],[0,1,2,3,4,5,6,7,8,9,10,17,18,19,20],[0,1,2,3,4,5,6,7,8,9,10,11,12,13,14,15,16,17,18,19,20,21],[0,1,2,3,4,5,6,7,8,9,10,11,12,13,14,15,16,17,18,19,20,21,22],[0,1,2,3,4,5,6,7,8,9,10,11,12,13,14,15,16,17,18,19,20,21,22,23],[0,1,2,3,4,5,6,7,8,9,10,11,12,13,14,15,16,17,18,19,20,21,22,23,24]] [0,1,2,3,4] [⟨[],[],5,[],[6,7,8,9,10,11,12,13,14,15,16,17,18,19,20,21]⟩,⟨[],[],22,[],[23,24,25]⟩] (by kernel_rfl) (by kernel_rfl) (by kernel_rfl) ?_; refine rn F ?_))
 all_goals
  refine Qg (fun r:{r:Nat // r<=s.i/\lkH l s.i=lkC l s.i r}=>⟨121,0,[(4,.int .i64 ((r.1:Int)-1)),(3,.int .i64 s.i),(1,.ptr 0 0)],[⟨55,true,[.pv (.sl (fz Qak l)),.pv (.sl (fz Qak w))]⟩]⟩) (fun r=>r.1) ⟨s.i,Jp _,htl⟩ (gc [0]) ?_
  rintro⟨r,hr,hrl⟩
  dsimp only
  by_cases hr0:r=0
  ·have hr0':¬ (0:Int)<=(r:Int) - 1:=by omega
   subst hr0
   have F:=@hr0'
   refine rn F ?_
   repeat' (first
    | with_reducible exact⟨⟩
    | (refine Qc (id:=9) [0,1,2,3,4,5,6,7,8,9,10,11,12,13,14,15,16] [] (by kernel_rfl) (by kernel_rfl) ?_; refine rn F ?_))
   exact⟨s.next hc hrl,s.dec hc,(gc [0])⟩
  obtain⟨m,rfl⟩:∃ m,r=m+1:=⟨r-1,by omega⟩
  have e1:((m+1:Nat):Int)-1=m:=by omega
  rw[e1]
  have hm0:(0:Int)<=(m:Int):=by omega
  have hml:(m:Int)<l.length:=by omega
  have hx:=Qax l m (by omega)
  have c4:=c3 (l.getD m Gr0)
  have el:lkC l s.i (m+1)=if (l.getD m Gr0).pg=(l.getD s.i Gr0).pg/\(l.getD m Gr0).sl=(l.getD s.i Gr0).sl then !Qth (l.getD m Gr0) (l.getD s.i Gr0)&&lkC l s.i m else true:=rfl
  by_cases hsame:(l.getD m Gr0).pg=(l.getD s.i Gr0).pg/\(l.getD m Gr0).sl=(l.getD s.i Gr0).sl
  ·rw [if_pos hsame] at el
   obtain⟨s1,s2⟩:=hsame
   generalize hcf:Qth (l.getD m Gr0) (l.getD s.i Gr0)=cf at *
   cases cf
   ·skip
    have F:=(Ja @hc' (Ja @hg (Ja @hm0 (Ja @hml (Ja @hx (Ja @s1 (Ja @s2 @Qfl)))))))
    refine rn F ?_
    repeat' (first
     | with_reducible exact⟨⟩
     | refine vl F (c4) ?_
     | (refine Qc (id:=9) [0,1,2,3,4,5,6,7,8,9,10,11,12,13,14,15,16] [] (by kernel_rfl) (by kernel_rfl) ?_; refine rn F ?_)
     | (refine Qc (id:=11) [0,1,2,3,4,5,6,7,8,9] [⟨[],[],10,[0,1,2,3,5,6,7,8],[]⟩] (by kernel_rfl) (by kernel_rfl) ?_; refine rn F ?_))
    all_goals first
     | exact⟨⟨m,by omega,hrl.trans el⟩,by dsimp only; omega,(gc [0])⟩
     | exact⟨⟨m,by omega,hrl.trans el⟩,(gc [0])⟩
   ·skip
    have F:=(Ja @hc' (Ja @hg (Ja @hm0 (Ja @hml (Ja @hx (Ja @s1 (Ja @s2 @Qfl)))))))
    refine rn F ?_
    repeat' (first
     | with_reducible exact⟨⟩
     | refine vl F (c4) ?_
     | (refine Qc (id:=9) [0,1,2,3,4,5,6,7,8,9,10,11,12,13,14,15,16] [] (by kernel_rfl) (by kernel_rfl) ?_; refine rn F ?_)
     | (refine Qc (id:=11) [0,1,2,3,4,5,6,7,8,9] [⟨[],[],10,[0,1,2,3,5,6,7,8],[]⟩] (by kernel_rfl) (by kernel_rfl) ?_; refine rn F ?_))
    rw[khs (hrl.trans el)]
  ·rw [if_neg hsame] at el
   have F:=(Ja @hc' (Ja @hg (Ja @hm0 (Ja @hml (Ja @hx @Qfl)))))
   refine rn F ?_
   repeat' (first
    | with_reducible exact⟨⟩
    | (refine sB F ?_ ?_<;>intro hZ)
    | refine vp F (c4) ?_
    | (refine Qc (id:=9) [0,1,2,3,4,5,6,7,8,9,10,11,12,13,14,15,16] [] (by kernel_rfl) (by kernel_rfl) ?_; refine rn F ?_)
    | (refine Qc (id:=11) [0,1,2,3,4,5,6,7,8,9] [⟨[],[],10,[0,1,2,3,5,6,7,8],[]⟩] (by kernel_rfl) (by kernel_rfl) ?_; refine rn F ?_))
   all_goals first
    | exact⟨s.next hc (hrl.trans el),s.dec hc,(gc [0])⟩
    | (exfalso; omega)
    | (exfalso; exact hsame ⟨by assumption,by assumption⟩)
    | (exfalso; simp_all; done)
    | skip
def Qbv(t:Lk)(hs:t.sum<=100000):VCalls prog 199 [.agg t.d] [] (Qz (fun b:Bool=>.bool b) fun b=>b=true->t.sum<=1024):=
 (QhI t hs).toS (lkB t) rfl fun h=>by
  rcases JL 1024 t.sum with h1 | h1
  ·rw[QBO (by omega)] at h; cases h
  ·exact h1
def Qdj(t:Lk)(hs:t.sum<=5000)(tx:Int):VCalls prog 172 [.agg t.d,.int .i64 tx] [] (Qz (fun a:Gr×Bool=>.tup [.agg a.1.d,.bool a.2]) fun _=>True):=by
 refine dd Tryz.func172 ?_
 have c1:=Qbv t (by omega)
 unfold Lk.sum at *
 obtain⟨l,w⟩:=t
 dsimp only at hs c1 |-
 (unfold Tryz.f172; refine rn trivial ?_)
 refine rn F ?_
 repeat' (first
  | with_reducible exact⟨⟩
  | (refine sB F ?_ ?_<;>intro hZ)
  | (refine Ql (c1) rfl ?_; rintro b hb; refine rn F ?_))
 all_goals first
  | exact⟨rfl,rfl,(Gr0,false),rfl,trivial⟩
  | skip
 refine Qg (fun s:To w.length=>⟨30,0,[(6,.int .i64 s.i),(4,.ptr 1 0),(2,.ptr 0 0),(1,.int .i64 tx)],[⟨55,true,[.pv (.sl (fz Qak l)),.pv (.sl (fz Qak w))]⟩,⟨248,true,[.int .i64 0,.int .i64 0,.int .i64 0,.int .i64 0]⟩]⟩) (fun s=>w.length-s.i) ⟨0,Jf _⟩ (gc [0,1]) ?_
 rintro⟨i,hi⟩
 dsimp only
 have hg:=fun h:i<w.length=>Qax w i h
 have F:=@hg
 refine rn F ?_
 repeat' (first
  | with_reducible exact⟨⟩
  | (refine sB F ?_ ?_<;>intro hZ))
 all_goals first
  | exact⟨⟨i+1,by omega⟩,by dsimp only; omega,(gc [0,1])⟩
  | exact⟨rfl,rfl,(Gr0,false),rfl,trivial⟩
  | exact⟨rfl,rfl,(w.getD i Gr0,true),rfl,trivial⟩
  | skip
def Qdl(t:Lk)(hs:t.sum<=5000)(tx:Int):VCalls prog 164 [.agg t.d,.int .i64 tx] [] (Qz (fun u:Lk=>.agg u.d) fun u=>u.sum<=t.sum):=by
 refine dd Tryz.func164 ?_
 have c1:=Qbv t (by omega)
 have c4:=Qd5
 unfold Lk.sum at *
 obtain⟨l,w⟩:=t
 dsimp only at hs c1 |-
 have c2:=fun a=>QiF l (by omega) a
 have c3:=fun a=>QiF w (by omega) a
 (unfold Tryz.f164; refine rn trivial ?_)
 refine rn F ?_
 repeat' (first
  | with_reducible exact⟨⟩
  | (refine sB F ?_ ?_<;>intro hZ)
  | (refine Ql (c1) rfl ?_; rintro b hb; refine rn F ?_)
  | (refine Ql (c2 _ _ _ _) rfl ?_; rintro m1 hm1; refine rn F ?_)
  | (refine Ql (c3 _ _ _ _) rfl ?_; rintro m2 hm2; refine rn F ?_)
  | (refine Ql (c4 ⟨_,_⟩ (by dsimp only; omega)) rfl ?_; rintro u hu; refine rn F ?_)
  | (refine Qc (id:=3) [0,1,2,3,5,6,7,8] [⟨[],[],4,[0,5,6,7,8],[]⟩,⟨[],[],9,[0,1,2,3,5],[10]⟩,⟨[],[],11,[0,1,2,3,5,6,7,8],[]⟩,⟨[],[],12,[],[]⟩] (by kernel_rfl) (by kernel_rfl) ?_; refine rn F ?_))
 all_goals first
  | exact⟨rfl,rfl,⟨l,w⟩,rfl,Jp _⟩
  | (exact⟨rfl,rfl,u,rfl,by dsimp only at hu; omega⟩)
  | skip
def Qrw(t:Lk)(hs:t.sum<=5000)(tx:Int):VCalls prog 260 [.agg t.d,.int .i64 tx] [] (Qz (fun u:Lk=>.agg u.d) fun u=>u.sum<=t.sum):=by
 refine dd Tryz.func260 ?_
 have c1:=Qbv t (by omega)
 have c4:=Qd5
 unfold Lk.sum at *
 obtain⟨l,w⟩:=t
 dsimp only at hs c1 |-
 have c3:=fun a=>QiF w (by omega) a
 (unfold Tryz.f260; refine rn trivial ?_)
 refine rn F ?_
 repeat' (first
  | with_reducible exact⟨⟩
  | (refine sB F ?_ ?_<;>intro hZ)
  | (refine Ql (c1) rfl ?_; rintro b hb; refine rn F ?_)
  | (refine Ql (c3 _ _ _ _) rfl ?_; rintro m2 hm2; refine rn F ?_)
  | (refine Ql (c4 ⟨_,_⟩ (by dsimp only; omega)) rfl ?_; rintro u hu; refine rn F ?_)
  | (refine Qc (id:=3) [0,1,2,3,4,5] [⟨[],[],6,[0,1,2],[7]⟩,⟨[],[],8,[0,1,2,3,4,5],[]⟩,⟨[],[],9,[],[]⟩] (by kernel_rfl) (by kernel_rfl) ?_; refine rn F ?_))
 all_goals first
  | exact⟨rfl,rfl,⟨l,w⟩,rfl,Jp _⟩
  | (exact⟨rfl,rfl,u,rfl,by dsimp only at hu; omega⟩)
  | skip
def Qro(t:Lk)(hs:t.sum<=5000)(tx pg sl:Int):VCalls prog 213 [.agg t.d,.int .i64 tx,.agg [.int .i64 pg,.int .i64 sl]] [] (Qz (fun u:Lk=>.agg u.d) fun u=>u.sum<=t.sum):=by
 refine dd Tryz.func213 ?_
 have c1:=Qbv t (by omega)
 have c4:=Qd5
 unfold Lk.sum at *
 obtain⟨l,w⟩:=t
 dsimp only at hs c1 |-
 have c2:=fun a=>QiF l (by omega) a
 (unfold Tryz.f213; refine rn trivial ?_)
 refine rn F ?_
 repeat' (first
  | with_reducible exact⟨⟩
  | (refine sB F ?_ ?_<;>intro hZ)
  | (refine Ql (c1) rfl ?_; rintro b hb; refine rn F ?_)
  | (refine Ql (c2 _ _ _ _) rfl ?_; rintro m1 hm1; refine rn F ?_)
  | (refine Ql (c4 ⟨_,_⟩ (by dsimp only; omega)) rfl ?_; rintro u hu; refine rn F ?_)
  | (refine Qc (id:=3) [0,1,2,3,5,6] [⟨[],[],4,[0,5,6],[7]⟩,⟨[],[],8,[0,1,2,3,5,6],[]⟩,⟨[],[],9,[],[]⟩] (by kernel_rfl) (by kernel_rfl) ?_; refine rn F ?_))
 all_goals first
  | exact⟨rfl,rfl,⟨l,w⟩,rfl,Jp _⟩
  | (exact⟨rfl,rfl,u,rfl,by dsimp only at hu; omega⟩)
  | skip
def QD1(a:Lk×Bool×Int):DV:=.tup [.agg a.1.d,.bool a.2.1,.int .i64 a.2.2]
def Lk0:Lk:=⟨[],[]⟩
def QtE(a b c d a' b' c' d':Int):Q5 [.pv (.lit (.int .i64 a)),.pv (.lit (.int .i64 b)),.pv (.lit (.int .i64 c)),.pv (.lit (.int .i64 d))] [.pv (.lit (.int .i64 a')),.pv (.lit (.int .i64 b')),.pv (.lit (.int .i64 c')),.pv (.lit (.int .i64 d'))] [(0,1),(1,1),(2,1),(3,1)]=some (decide (a=a')&&decide (b=b')&&decide (c=c')&&decide (d=d')):=by simp[Q5,QbJ,JF,JQ]
def Qod(t:Lk)(hs:t.sum<=4000)(g:Gr):VCalls prog 221 [.agg t.d,.agg g.d] [] (Qz QD1 fun a=>a.1.sum<=1024):=by
 refine dk Tryz.func221 ?_
 have c1:=Qbv t (by omega)
 have c2:=Qrd g
 have c3:=Qdj t (by omega) g.tx
 have c4:=Qd5
 have c5:=QuU t (by omega) g
 have c6:=fun(u:Lk) (h:u.held.length<=1000000)=>QlJ u h
 unfold Lk.sum at *
 obtain⟨l,w⟩:=t
 dsimp only at hs c1 c5 |-
 generalize QwY=M at *
 (unfold Tryz.f221; refine rn trivial ?_)
 have F:=@QtE
 refine rn F ?_
 repeat' (first
  | with_reducible exact⟨⟩
  | (refine sG F ?_ ?_<;>intro hZ)
  | (refine sB F ?_ ?_<;>intro hZ)
  | (refine Ql (c1) rfl ?_; rintro b hb; refine rn F ?_)
  | refine vp F (c2) ?_
  | (refine Ql (c3) rfl ?_; rintro⟨g0,b0⟩ -; refine rn F ?_)
  | (refine vp F (c6 ⟨_,_⟩ (by first | (dsimp only; omega) | (dsimp only at hu |-; simp only[Jb,Jk,Js,Je,Jd] at hu; omega)) _ _ _) ?_)
  | (refine Ql (c5) rfl ?_; rintro n hn; refine rn F ?_)
  | (refine Qiu [7] _ _ (c4 ⟨l,w.take n++[⟨g.tx,g.pg,g.sl,g.md⟩]++w.drop n⟩ (by dsimp only; simp only[Jb,Jk,Js,Je,Jd]; omega)) rfl ⟨⟨by simp,Qs _ _ _⟩,trivial⟩ (by decide) rfl (by simp[DV.nums.go,DV.nums]) ?_ ?_; (focus (refine rd F)); rintro⟨ul,uw⟩ hu; refine rn F ?_)
  | (refine Qc (id:=10) [0,1,2,3,4,6,7] [⟨[],[],5,[1,3,6,7],[8]⟩] (by kernel_rfl) (by kernel_rfl) ?_; refine rn F ?_)
  | (refine Qc (id:=15) [0,1,2,3,5,8,9,10,11] [⟨[6],[],4,[0,1,2,5,8,9,10,11],[]⟩,⟨[6],[6],7,[0,1,2,3,5,8,9,10,11],[]⟩,⟨[],[],12,[0,1,2,3,5,8,9,10],[13]⟩,⟨[],[],14,[],[]⟩] (by kernel_rfl) (by kernel_rfl) ?_; refine rn F ?_)
  | (refine Qc (id:=17) [0,1,2,3,4,5,7,8] [⟨[],[],6,[0,2,4,7,8],[9]⟩,⟨[],[],10,[1,2,3,4,5,7,8,9],[]⟩,⟨[],[],11,[],[]⟩,⟨[],[],12,[],[]⟩] (by kernel_rfl) (by kernel_rfl) ?_; refine rn F ?_))
 all_goals first
  | exact⟨rfl,rfl,(⟨ul,uw⟩,_,_),rfl,by have:=hb (by first | assumption | rfl); dsimp only[Jb] at hu |-; simp only[Jb,Jk,Js,Je,Jd] at hu; omega⟩
  | exact⟨rfl,rfl,(Lk0,false,_),rfl,by simp[Lk0]⟩
  | exact⟨rfl,rfl,(⟨l,w⟩,_,_),rfl,hb (by first | assumption | rfl)⟩
  | skip
attribute [go_sem] QtB Qqz Qqw QkZ
@[go_sem] def ilD(l:List Int):DV:=.pv (.sl (fz QR l))
def QlE(l:List Int)(hl:l.length<=100000)(n:Int):VCalls prog 226 [.pv (.sl (fz QR l)),.int .i64 n] [] (Qz ilD fun m=>m.length<=l.length+1):=by
 refine dd Tryz.func226 ?_
 (unfold Tryz.f226; refine rn trivial ?_)
 refine VLoop.nilOwn 5 3 1 rfl ?_
 refine rn trivial ?_
 refine Qg (fun s:{s:Nat×List Int×Bool // s.1<=l.length/\s.2.1.length<=s.1+1/\(s.2.2=false->s.2.1.length<=s.1)}=>⟨48,0,[(7,.int .i64 s.1.1),(6,.bool s.1.2.2),(5,.own 0 1 0 s.1.2.1.length),(1,.int .i64 n),(0,.pv (.sl (fz QR l)))],[⟨3,true,cells QR s.1.2.1⟩]⟩) (fun s=>l.length-s.1.1) ⟨(0,[],false),by simp⟩ (gc [0]) ?_
 rintro⟨⟨i,out,dn⟩,hi,ho,hd⟩
 dsimp only at hi ho hd |-
 have hg:=fun h:i<l.length=>Q0 l i h
 have hb:(out.length+1)*8<=140737488355328:=Jc (Jr 8 (show out.length+1<=100003 by omega)) (by decide)
 have hb2:(out.length+1+1)*8<=140737488355328:=Jc (Jr 8 (show out.length+1+1<=100003 by omega)) (by decide)
 cases dn
 all_goals
  simp only[forall_const,reduceCtorEq,false_implies] at hd
  have F:=(Ja @hg (Ja @hb @hb2))
  refine rn F ?_
  repeat' (first
   | with_reducible exact⟨⟩
   | (refine sB F ?_ ?_<;>intro hZ))
 all_goals first
  | exact⟨rfl,rfl,out,rfl,by omega⟩
  | exact⟨rfl,rfl,out++[n],rfl,by simp; omega⟩
  | exact⟨⟨(i+1,out,false),by dsimp only; omega,by dsimp only; (try rw[Jd]); omega,by dsimp only; (try rw[Jd]); first | omega | (intro h; omega) | (intro h; cases h)⟩,by dsimp only; omega,by dsimp only; (try rw[Jd]); exact(gc [0])⟩
  | exact⟨⟨(i+1,out++[l.getD i 0],false),by dsimp only; omega,by dsimp only; (try rw[Jb,Je,Jd]); omega,by dsimp only; (try rw[Jb,Je,Jd]); first | omega | (intro h; omega) | (intro h; cases h)⟩,by dsimp only; omega,by dsimp only; (try rw[Jb,Je,Jd]); exact(gc [2])⟩
  | exact⟨⟨(i+1,out,true),by dsimp only; omega,by dsimp only; (try rw[Jd]); omega,by dsimp only; (try rw[Jd]); first | omega | (intro h; omega) | (intro h; cases h)⟩,by dsimp only; omega,by dsimp only; (try rw[Jd]); exact(gc [0])⟩
  | exact⟨⟨(i+1,out++[l.getD i 0],true),by dsimp only; omega,by dsimp only; (try rw[Jb,Je,Jd]); omega,by dsimp only; (try rw[Jb,Je,Jd]); first | omega | (intro h; omega) | (intro h; cases h)⟩,by dsimp only; omega,by dsimp only; (try rw[Jb,Je,Jd]); exact(gc [2])⟩
  | exact⟨⟨(i+1,out++[n],true),by dsimp only; omega,by dsimp only; (try rw[Jb,Je,Jd]); omega,by dsimp only; (try rw[Jb,Je,Jd]); first | omega | (intro h; omega) | (intro h; cases h)⟩,by dsimp only; omega,by dsimp only; (try rw[Jb,Je,Jd]); exact(gc [2])⟩
  | exact⟨⟨(i+1,out++[n]++[l.getD i 0],true),by dsimp only; omega,by dsimp only; (try rw[Jb,Jb,Je,Jd,Je,Jd]); omega,by dsimp only; (try rw[Jb,Jb,Je,Jd,Je,Jd]); first | omega | (intro h; omega) | (intro h; cases h)⟩,by dsimp only; omega,by dsimp only; (try rw[Jb,Jb,Je,Jd,Je,Jd]); exact(gc [4])⟩
  | skip
def Qoa(t:Lk)(hs:t.sum<=5000):VCalls prog 265 [.agg t.d] [] (Qz ilD fun m=>m.length<=t.sum):=by
 refine dk Tryz.func265 ?_
 have c1:=Qbv t (by omega)
 unfold Lk.sum at *
 obtain⟨l,w⟩:=t
 dsimp only at hs c1 |-
 (unfold Tryz.f265; refine rn trivial ?_)
 refine rn F ?_
 repeat' (first
  | with_reducible exact⟨⟩
  | (refine sB F ?_ ?_<;>intro hZ)
  | (refine Ql (c1) rfl ?_; rintro b -; refine rn F ?_))
 all_goals first
  | exact⟨rfl,rfl,[],rfl,by simp⟩
  | skip
 refine VLoop.wkS ?_
 refine rn trivial ?_
 refine Qg (fun s:{s:Nat×List Int // s.1<=w.length/\s.2.length<=s.1}=>⟨23,0,[(4,.int .i64 s.1.1),(3,.pv (.sl (fz QR s.1.2))),(1,.ptr 0 0)],[⟨55,true,[.pv (.sl (fz Qak l)),.pv (.sl (fz Qak w))]⟩]⟩) (fun s=>w.length-s.1.1) ⟨(0,[]),by simp⟩ (gc [0]) ?_
 rintro⟨⟨i,out⟩,hi,ho⟩
 dsimp only at hi ho |-
 have hg:=fun h:i<w.length=>Qax w i h
 have c2:=QlE out (by omega)
 have F:=@hg
 refine rn F ?_
 repeat' (first
  | with_reducible exact⟨⟩
  | (refine sB F ?_ ?_<;>intro hZ)
  | (refine Ql (c2 _) rfl ?_; rintro m hm; refine rn F ?_))
 all_goals first
  | exact⟨⟨(i+1,m),by dsimp only; omega,by dsimp only; omega⟩,by dsimp only; omega,(gc [0])⟩
  | exact⟨rfl,rfl,out,rfl,by omega⟩
  | skip
def QmS(t:Lk)(hs:t.sum<=5000)(tx:Int):VCalls prog 173 [.agg t.d,.int .i64 tx] [] (Qz ilD fun m=>m.length<=t.sum):=by
 refine dk Tryz.func173 ?_
 have c1:=Qdj t (by omega) tx
 unfold Lk.sum at *
 obtain⟨l,w⟩:=t
 dsimp only at hs c1 |-
 (unfold Tryz.f173; refine rn trivial ?_)
 refine rn F ?_
 repeat' (first
  | with_reducible exact⟨⟩
  | (refine sB F ?_ ?_<;>intro hZ)
  | (refine Ql (c1) rfl ?_; rintro⟨g,b⟩ -; refine rn F ?_))
 all_goals first
  | exact⟨rfl,rfl,[],rfl,by simp⟩
  | skip
 refine VLoop.wkS ?_
 refine rn trivial ?_
 refine Qg (fun s:{s:Nat×List Int // s.1<=l.length/\s.2.length<=s.1}=>⟨73,0,[(8,.int .i64 s.1.1),(7,.pv (.sl (fz QR s.1.2))),(5,.ptr 1 0),(2,.ptr 0 0),(1,.int .i64 tx)],[⟨55,true,[.pv (.sl (fz Qak l)),.pv (.sl (fz Qak w))]⟩,⟨248,true,g.d⟩]⟩) (fun s=>l.length-s.1.1) ⟨(0,[]),by simp⟩ (gc [0,1]) ?_
 rintro⟨⟨i,out⟩,hi,ho⟩
 dsimp only at hi ho |-
 have hg:=fun h:i<l.length=>Qax l i h
 have c2:=QlE out (by omega)
 have c3:=QfF (l.getD i Gr0) g
 have F:=@hg
 refine rn F ?_
 repeat' (first
  | with_reducible exact⟨⟩
  | (refine sB F ?_ ?_<;>intro hZ)
  | refine vp F (c3) ?_
  | (refine Ql (c2 _) rfl ?_; rintro m hm; refine rn F ?_)
  | (refine Qc (id:=8) [0,1,2,3,4,5] [⟨[],[],6,[0,1,2,3],[]⟩] (by kernel_rfl) (by kernel_rfl) ?_; refine rn F ?_))
 all_goals first
  | exact⟨⟨(i+1,m),by dsimp only; omega,by dsimp only; omega⟩,by dsimp only; omega,(gc [0,1])⟩
  | exact⟨⟨(i+1,out),by dsimp only; omega,by dsimp only; omega⟩,by dsimp only; omega,(gc [0,1])⟩
  | skip
 clear c2 c3 hg
 refine Qg (fun s:{s:Nat×List Int // s.1<=w.length/\s.2.length<=l.length+s.1}=>⟨73,0,[(9,.int .i64 s.1.1),(7,.pv (.sl (fz QR s.1.2))),(5,.ptr 1 0),(2,.ptr 0 0),(1,.int .i64 tx)],[⟨55,true,[.pv (.sl (fz Qak l)),.pv (.sl (fz Qak w))]⟩,⟨248,true,g.d⟩]⟩) (fun s=>w.length-s.1.1) ⟨(0,out),by dsimp only; omega⟩ (gc [0,1]) ?_
 rintro⟨⟨j,o2⟩,hj,ho2⟩
 dsimp only at hj ho2 |-
 have hg:=fun h:j<w.length=>Qax w j h
 have c2:=QlE o2 (by omega)
 have c3:=QfF (w.getD j Gr0) g
 have F:=@hg
 refine rn F ?_
 repeat' (first
  | with_reducible exact⟨⟩
  | (refine sG F ?_ ?_<;>intro hZ)
  | (refine sB F ?_ ?_<;>intro hZ)
  | refine vp F (c3) ?_
  | (refine Ql (c2 _) rfl ?_; rintro m hm; refine rn F ?_)
  | (refine Qc (id:=13) [0,1,2,3,4,5] [⟨[],[],6,[0,1,2,3],[]⟩] (by kernel_rfl) (by kernel_rfl) ?_; refine rn F ?_))
 all_goals first
  | exact⟨⟨(j+1,m),by dsimp only; omega,by dsimp only; omega⟩,by dsimp only; omega,(gc [0,1])⟩
  | exact⟨⟨(j+1,o2),by dsimp only; omega,by dsimp only; omega⟩,by dsimp only; omega,(gc [0,1])⟩
  | exact⟨rfl,rfl,o2,rfl,by omega⟩
  | skip
def Qvb(l:List Int):VCalls prog 267 [.pv (.sl (fz QR l))] [] (Qz (fun n:Int=>.int .i64 n) fun _=>True):=by
 refine dd Tryz.func267 ?_
 have hg:=fun h:0<l.length=>Q0 l 0 h
 (unfold Tryz.f267; refine rn trivial ?_)
 have F:=@hg
 refine rn F ?_
 repeat' (first
  | with_reducible exact⟨⟩
  | (refine sB F ?_ ?_<;>intro hZ))
 all_goals first
  | exact⟨rfl,rfl,_,rfl,trivial⟩
  | skip
def Qru (t:Lk) (hs:t.sum<=5000) (n:Nat) (hn:n<=5000):∀ (k:Nat) (way:List Int),0 < way.length->way.length + k = n->VCalls prog 266 [.agg t.d,.pv (.sl (fz QR way)),.int .i64 n] [] (Qz ilD fun m=>m.length<=5000):=by
 intro k
 induction k with
 | zero =>
   intro way h0 hk
   refine dk Tryz.func266 ?_
   have c1:=QmS t hs
   have hg:=Q0 way (way.length-1) (by omega)
   have hg0:=Q0 way 0 h0
   obtain rfl:n=way.length:=by omega
   (unfold Tryz.f266; refine rn trivial ?_)
   have F:=@hg
   refine rn F ?_
   repeat' (first
    | with_reducible exact⟨⟩
    | (refine Ql (c1 _) rfl ?_; rintro m hm; refine rn F ?_)
    | (refine Qc (id:=1) [0,1,2,3,4,5,6] [⟨[],[],7,[1,2,3,4,5],[]⟩,⟨[],[],8,[],[]⟩] (by kernel_rfl) (by kernel_rfl) ?_; refine rn F ?_))
   refine Qg (fun s:To m.length=>⟨74,0,[(30,.int .i64 s.i),(29,.int .i64 m.length),(28,.pv (.sl (fz QR m))),(1,.pv (.sl (fz QR way)))],[]⟩) (fun s=>m.length-s.i) ⟨0,Jf _⟩ (gc []) ?_
   rintro⟨i,hi⟩
   dsimp only
   have hx:=fun h:i<m.length=>Q0 m i h
   have F:=(Ja @hx @hg0)
   refine rn F ?_
   repeat' (first
    | with_reducible exact⟨⟩
    | (refine sB F ?_ ?_<;>intro hZ))
   all_goals first
    | exact⟨⟨i+1,by omega⟩,by dsimp only; omega,(gc [])⟩
    | exact⟨rfl,rfl,way,rfl,by omega⟩
    | exact⟨rfl,rfl,[],rfl,by simp⟩
    | skip
 | succ k ih =>
   intro way h0 hk
   refine dk Tryz.func266 ?_
   have c1:=QmS t hs
   have hg:=Q0 way (way.length-1) (by omega)
   obtain rfl:n=way.length+(k+1):=by omega
   have hne:¬ (way.length:Int)=((way.length+(k+1):Nat):Int):=by omega
   (unfold Tryz.f266; refine rn trivial ?_)
   have F:=(Ja @hg @hne)
   refine rn F ?_
   repeat' (first
    | with_reducible exact⟨⟩
    | (refine Ql (c1 _) rfl ?_; rintro m hm; refine rn F ?_)
    | (refine Qc (id:=1) [0,1,2,3,4,5,6] [⟨[],[],7,[1,2,3,4,5],[]⟩,⟨[],[],8,[],[]⟩] (by kernel_rfl) (by kernel_rfl) ?_; refine rn F ?_))
   refine Qg (fun s:To m.length=>⟨74,0,[(43,.int .i64 s.i),(42,.int .i64 m.length),(41,.pv (.sl (fz QR m))),(3,.ptr 0 0),(2,.int .i64 (way.length+(k+1):Nat)),(1,.pv (.sl (fz QR way)))],[⟨55,true,t.d⟩]⟩) (fun s=>m.length-s.i) ⟨0,Jf _⟩ (gc [0]) ?_
   rintro⟨i,hi⟩
   dsimp only
   have hx:=fun h:i<m.length=>Q0 m i h
   have F:=@hx
   refine rn F ?_
   repeat' (first
    | with_reducible exact⟨⟩
    | (refine sB F ?_ ?_<;>intro hZ))
   rotate_left
   ·exact⟨rfl,rfl,[],rfl,by simp⟩
   generalize hv:m.getD i 0=v at *
   refine Qg (fun s:{s:Nat×Bool // s.1<=way.length}=>⟨74,0,[(49,.int .i64 s.1.1),(48,.int .i64 way.length),(47,.pv (.sl (fz QR way))),(43,.int .i64 i),(42,.int .i64 m.length),(41,.pv (.sl (fz QR m))),(12,.bool s.1.2),(11,.int .i64 v),(3,.ptr 0 0),(2,.int .i64 (way.length+(k+1):Nat)),(1,.pv (.sl (fz QR way)))],[⟨55,true,t.d⟩]⟩) (fun s=>way.length-s.1.1) ⟨(0,false),Jf _⟩ (gc [0]) ?_
   rintro⟨⟨j,sn⟩,hj⟩
   dsimp only at hj |-
   have hy:=fun h:j<way.length=>Q0 way j h
   have hb:(way.length+1)*8<=140737488355328:=Jc (Jr 8 (show way.length+1<=100003 by omega)) (by decide)
   have hb2:way.length*8<=140737488355328:=Jc (Jr 8 (show way.length<=100003 by omega)) (by decide)
   have ih2:=ih (way++[v]) (by simp) (by simp; omega)
   have F:=(Ja @hy (Ja @hb @hb2))
   refine rn F ?_
   repeat' (first
    | with_reducible exact⟨⟩
    | (refine sG F ?_ ?_<;>intro hZ)
    | (refine sB F ?_ ?_<;>intro hZ)
    | (refine Qiu [3] _ _ (ih2) rfl ⟨⟨by simp,Qs _ _ _⟩,trivial⟩ (by decide) rfl (by simp[DV.nums.go,DV.nums]) ?_ ?_; (focus (refine rd F)); rintro m2 hm2; refine rn F ?_)
    | (refine Qc (id:=20) [0,1,3,6] [⟨[4],[],2,[0,3,6],[]⟩,⟨[4],[4],5,[0,1,3,6],[]⟩,⟨[],[],7,[1,3],[]⟩,⟨[],[],8,[],[]⟩] (by kernel_rfl) (by kernel_rfl) ?_; refine rn F ?_))
   all_goals first
    | exact⟨⟨(j+1,v==way.getD j 0),by dsimp only; omega⟩,by dsimp only; omega,(gc [0])⟩
    | exact⟨⟨(j+1,true),by dsimp only; omega⟩,by dsimp only; omega,(gc [0])⟩
    | exact⟨⟨i+1,by omega⟩,by dsimp only; omega,(gc [0])⟩
    | exact⟨rfl,rfl,m2,rfl,hm2⟩
    | skip
def Qve(t:Lk)(hs:t.sum<=5000)(tx:Int):VCalls prog 223 [.agg t.d,.int .i64 tx] [] (Qz ilD fun m=>m.length<=5000):=by
 refine dk Tryz.func223 ?_
 have c1:=Qoa t hs
 (unfold Tryz.f223; refine rn trivial ?_)
 refine Qg (fun s:{s:Nat // 1<=s/\s<=t.sum+1}=>⟨23,0,[(5,.int .i64 s.1),(2,.ptr 0 0),(1,.int .i64 tx)],[⟨55,true,t.d⟩]⟩) (fun s=>t.sum+1-s.1) ⟨1,by omega⟩ (gc [0]) ?_
 rintro⟨i,hi⟩
 dsimp only
 have c2:=fun(h:i<=5000)=>Qru t hs i h (i-1) [tx] (by simp) (by simp; omega)
 refine rn F ?_
 repeat' (first
  | with_reducible exact⟨⟩
  | (refine sB F ?_ ?_<;>intro hZ)
  | (refine Ql (c1) rfl ?_; rintro m hm; refine rn F ?_))
 ·rw [show ([.pv (.lit (.int .i64 tx))]:List DV) = cells QR [tx] from rfl]
  refine Qiu [1] _ _ (c2 (by omega)) rfl ⟨⟨by simp,Qs _ _ _⟩,trivial⟩ (by decide) rfl (by simp[DV.nums.go,DV.nums]) ?_ ?_
  ·(refine rn trivial ?_; try with_reducible exact⟨⟩)
  intro m2 hm2
  refine rn F ?_
  repeat' (first
   | with_reducible exact⟨⟩
   | (refine sB F ?_ ?_<;>intro hZ))
  ·exact⟨rfl,rfl,m2,rfl,hm2⟩
  ·exact⟨⟨i+1,by omega⟩,by dsimp only; omega,(gc [0])⟩
 ·exact⟨rfl,rfl,[],rfl,by simp⟩
def QcD(x:Lg):Int:=if lgB x=true then x.end_ else 0
def Qd8(x:Lg)(hx:x.es.length<=9223372036854775807):VCalls prog 33 [.agg x.c] [] (Ret (.int .i64 (QcD x))):=by
 refine dd Tryz.func33 ?_
 have c1:=Qae x hx
 have c2:=QeR x
 have hh:=@Qan x
 simp only[Lg.hd] at hh
 unfold QcD
 generalize lgB x=b at *
 cases b
 ·(unfold Tryz.f33; refine rn trivial ?_; try with_reducible exact ⟨⟩)
  refine rn F ?_
  repeat' (first
   | with_reducible exact⟨⟩
   | refine vp F (c1) ?_)
  all_goals rfl
 ·replace hh:=hh rfl
  (unfold Tryz.f33; refine rn trivial ?_)
  refine rn F ?_
  repeat' (first
   | with_reducible exact⟨⟩
   | refine vp F (c1) ?_
   | refine vp F (c2 (by omega) (by omega)) ?_)
  all_goals rfl
def Qj3(x:Lg)(hx:x.es.length<=9223372036854775807)(e:E):VCalls prog 9 [.agg x.c,.agg e.d] [] (Ret (QCY (QdU x e))):=by
 refine dk Tryz.func9 ?_
 have c1:=Qae x hx
 have c2:=QeR x
 have c3:=Qcr { e with lsn:=x.end_+1 }
 have hh:=@Qan x
 have he:=@Qr8 x
 simp only[Lg.hd] at hh
 have e0:QdU x e=if lgB x=false then (Lg0,0,26) else if x.es.length=4096\/1099511627776<x.end_+1 then (Lg0,0,21)
  else if ({ e with lsn:=x.end_+1 }:E).okB=false then (Lg0,0,12) else (⟨x.f,x.es++[{ e with lsn:=x.end_+1 }],x.d⟩,x.end_+1,0):=rfl
 unfold QCY
 generalize QdU x e=r at *
 generalize lgB x=b at *
 obtain⟨lsn,kind,tx,ptx,ppg,ref,c,blob⟩:=e
 dsimp only at c3 e0 |-
 cases b
 ·(unfold Tryz.f9; refine rn trivial ?_; try with_reducible exact ⟨⟩)
  refine rn F ?_
  repeat' (first
   | with_reducible exact⟨⟩
   | refine vp F (c1) ?_)
  all_goals (first | (rw[e0]; simp(disch:=first | assumption | omega | exact rfl | exact nf (by assumption) | exact nt (by assumption) | decide | fail) only[if_pos,if_neg]; first | done | rfl) | (rw[e0]; simp(disch:=first | assumption | omega | exact rfl | exact nf (by assumption) | exact nt (by assumption) | decide | (simp_all; done) | fail) only[if_pos,if_neg]; first | done | rfl))
 ·replace hh:=hh rfl
  replace he:=he rfl
  have hdef:x.end_=x.f+x.es.length-1:=rfl
  have hl:=Qwz x.es ⟨x.end_+1,kind,tx,ptx,ppg,ref,c,blob⟩
  dsimp only at hl
  have hb:(x.es.length+1)*128<=140737488355328:=by omega
  generalize (⟨x.end_+1,kind,tx,ptx,ppg,ref,c,blob⟩:E).okB=ok at *
  generalize x.end_=en at *
  (unfold Tryz.f9; refine rn trivial ?_)
  have F:=(Ja @hb @hl)
  refine rn F ?_
  repeat' (first
   | with_reducible exact⟨⟩
   | (refine sG F ?_ ?_<;>intro hZ)
   | (refine sB F ?_ ?_<;>intro hZ)
   | refine vp F (c1) ?_
   | refine vp F (c2 (by omega) (by omega)) ?_
   | refine vp F (c3) ?_
   | (refine Qc (id:=8) [0,1,3] [⟨[4],[],2,[0,3],[]⟩,⟨[4],[4],5,[0,1,3],[6]⟩,⟨[],[],7,[],[]⟩] (by kernel_rfl) (by kernel_rfl) ?_; refine rn F ?_)
   | (refine Qc (id:=9) [0,1,2] [⟨[],[],3,[1,2],[]⟩,⟨[],[],4,[],[]⟩,⟨[],[],5,[],[]⟩] (by kernel_rfl) (by kernel_rfl) ?_; refine rn F ?_))
  all_goals first | (first | (rw[e0]; simp(disch:=first | assumption | omega | exact rfl | exact nf (by assumption) | exact nt (by assumption) | decide | fail) only[if_pos,if_neg]; first | done | rfl) | (rw[e0]; simp(disch:=first | assumption | omega | exact rfl | exact nf (by assumption) | exact nt (by assumption) | decide | (simp_all; done) | fail) only[if_pos,if_neg]; first | done | rfl)) | skip
def QfB(x:Lg)(hx:x.es.length<=9223372036854775807)(n:Int):VCalls prog 32 [.agg x.c,.int .i64 n] [] (Ret (lgD (QG x n))):=by
 refine dk Tryz.func32 ?_
 have c1:=Qae x hx
 have c2:=QeR x
 have hh:=@Qan x
 simp only[Lg.hd] at hh
 have e0:QG x n=if lgB x=false then (Lg0,26) else if x.end_<n then (Lg0,14) else (⟨x.f,x.es,if n > x.d then n else x.d⟩,0):=rfl
 unfold lgD
 generalize QG x n=r at *
 generalize lgB x=b at *
 cases b
 ·(unfold Tryz.f32; refine rn trivial ?_; try with_reducible exact ⟨⟩)
  refine rn F ?_
  repeat' (first
   | with_reducible exact⟨⟩
   | refine vp F (c1) ?_)
  all_goals (first | (rw[e0]; simp(disch:=first | assumption | omega | exact rfl | exact nf (by assumption) | exact nt (by assumption) | decide | fail) only[if_pos,if_neg]; first | done | rfl) | (rw[e0]; simp(disch:=first | assumption | omega | exact rfl | exact nf (by assumption) | exact nt (by assumption) | decide | (simp_all; done) | fail) only[if_pos,if_neg]; first | done | rfl))
 ·replace hh:=hh rfl
  (unfold Tryz.f32; refine rn trivial ?_)
  refine rn F ?_
  repeat' (first
   | with_reducible exact⟨⟩
   | (refine sB F ?_ ?_<;>intro hZ)
   | refine vp F (c1) ?_
   | refine vp F (c2 (by omega) (by omega)) ?_)
  all_goals first | (first | (rw[e0]; simp(disch:=first | assumption | omega | exact rfl | exact nf (by assumption) | exact nt (by assumption) | decide | fail) only[if_pos,if_neg]; first | done | rfl) | (rw[e0]; simp(disch:=first | assumption | omega | exact rfl | exact nf (by assumption) | exact nt (by assumption) | decide | (simp_all; done) | fail) only[if_pos,if_neg]; first | done | rfl)) | skip
def Qbj(x:Lg)(n:Int):E×Int:=if lgB x=false then (E0,26) else if n<x.f\/x.end_<n then (E0,14) else (x.es.getD (n-x.f).toNat E0,0)
def QhK(x:Lg)(hx:x.es.length<=9223372036854775807)(n:Int):VCalls prog 191 [.agg x.c,.int .i64 n] [] (Ret (.tup [.agg (Qbj x n).1.d,.int .i64 (Qbj x n).2])):=by
 refine dk Tryz.func191 ?_
 have c1:=Qae x hx
 have c2:=QeR x
 have hh:=@Qan x
 simp only[Lg.hd] at hh
 have e0:Qbj x n=if lgB x=false then (E0,26) else if n<x.f\/x.end_<n then (E0,14) else (x.es.getD (n-x.f).toNat E0,0):=rfl
 generalize Qbj x n=r at *
 generalize lgB x=b at *
 cases b
 ·(unfold Tryz.f191; refine rn trivial ?_; try with_reducible exact ⟨⟩)
  refine rn F ?_
  repeat' (first
   | with_reducible exact⟨⟩
   | refine vp F (c1) ?_)
  all_goals (first | (rw[e0]; simp(disch:=first | assumption | omega | exact rfl | exact nf (by assumption) | exact nt (by assumption) | decide | fail) only[if_pos,if_neg]; first | done | rfl) | (rw[e0]; simp(disch:=first | assumption | omega | exact rfl | exact nf (by assumption) | exact nt (by assumption) | decide | (simp_all; done) | fail) only[if_pos,if_neg]; first | done | rfl))
 ·replace hh:=hh rfl
  have hdef:x.end_=x.f+x.es.length-1:=rfl
  generalize x.end_=en at *
  have hg:=fun h:(n-x.f).toNat<x.es.length=>Qma x.es (n-x.f).toNat h
  (unfold Tryz.f191; refine rn trivial ?_)
  have F:=@hg
  refine rn F ?_
  repeat' (first
   | with_reducible exact⟨⟩
   | (refine sG F ?_ ?_<;>intro hZ)
   | (refine sB F ?_ ?_<;>intro hZ)
   | refine vp F (c1) ?_
   | refine vp F (c2 (by omega) (by omega)) ?_)
  all_goals first | (first | (rw[e0]; simp(disch:=first | assumption | omega | exact rfl | exact nf (by assumption) | exact nt (by assumption) | decide | fail) only[if_pos,if_neg]; first | done | rfl) | (rw[e0]; simp(disch:=first | assumption | omega | exact rfl | exact nf (by assumption) | exact nt (by assumption) | decide | (simp_all; done) | fail) only[if_pos,if_neg]; first | done | rfl)) | skip
def QBA(x:Lg)(hx:x.es.length<=9223372036854775807)(n:Int):VCalls prog 34 [.agg x.c,.int .i64 n] [] (Ret (lgD (Qxd x n))):=by
 refine dk Tryz.func34 ?_
 have c1:=Qae x hx
 have c2:=QeR x
 have hh:=@Qan x
 simp only[Lg.hd] at hh
 have e0:Qxd x n=if lgB x=false then (Lg0,26) else if n<x.f\/x.end_+1<n\/1099511627776<n then (Lg0,1) else if x.d<n-1 then (Lg0,15) else (⟨n,x.es.drop (n-x.f).toNat,x.d⟩,0):=rfl
 unfold lgD
 generalize Qxd x n=r at *
 generalize lgB x=b at *
 cases b
 ·(unfold Tryz.f34; refine rn trivial ?_; try with_reducible exact ⟨⟩)
  refine rn F ?_
  repeat' (first
   | with_reducible exact⟨⟩
   | refine vp F (c1) ?_)
  all_goals (first | (rw[e0]; simp(disch:=first | assumption | omega | exact rfl | exact nf (by assumption) | exact nt (by assumption) | decide | fail) only[if_pos,if_neg]; first | done | rfl) | (rw[e0]; simp(disch:=first | assumption | omega | exact rfl | exact nf (by assumption) | exact nt (by assumption) | decide | (simp_all; done) | fail) only[if_pos,if_neg]; first | done | rfl))
 ·replace hh:=hh rfl
  have hdef:x.end_=x.f+x.es.length-1:=rfl
  generalize x.end_=en at *
  have hb:(x.es.length-(n-x.f).toNat)*128<=140737488355328:=by omega
  (unfold Tryz.f34; refine rn trivial ?_)
  have F:=@hb
  refine rn F ?_
  repeat' (first
   | with_reducible exact⟨⟩
   | (refine sG F ?_ ?_<;>intro hZ)
   | (refine sB F ?_ ?_<;>intro hZ)
   | refine vp F (c1) ?_
   | refine vp F (c2 (by omega) (by omega)) ?_)
  all_goals first | (first | (rw[e0]; simp(disch:=first | assumption | omega | exact rfl | exact nf (by assumption) | exact nt (by assumption) | decide | fail) only[if_pos,if_neg]; first | done | rfl) | (rw[e0]; simp(disch:=first | assumption | omega | exact rfl | exact nf (by assumption) | exact nt (by assumption) | decide | (simp_all; done) | fail) only[if_pos,if_neg]; first | done | rfl)) | skip
def Qos(n:Int):Bool:=decide (0<=n)&&decide (n<=1099511627776)
def Qq5(n:Int):VCalls prog 248 [.int .i64 n] [] (Ret (.bool (Qos n))):=by
 refine dd Tryz.func248 ?_
 (unfold Tryz.f248; refine rn trivial ?_)
 refine rn F ?_
 repeat' (first
  | with_reducible exact⟨⟩
  | (refine sG F ?_ ?_<;>intro hZ))
 all_goals (first | rfl | (congr 3; rw[Bool.eq_iff_iff]; (try simp only[Qos,decide_eq_true_eq,Jh,Bool.or_eq_true,Bool.not_eq_true',Bool.not_eq_false',decide_eq_false_iff_not,beq_iff_eq,bne_iff_ne,ne_eq,Bool.false_eq_true,Bool.true_eq_false,iff_true,true_iff,iff_false,false_iff]); first | done | omega | grind))
def Qyw(l:List Rw)(i:Nat):Bool:=Qos (l.getD i Rw0).lsn&&Qos (l.getD i Rw0).im&&Qos (l.getD i Rw0).at_&&!(decide ((l.getD i Rw0).im=0)&&!decide ((l.getD i Rw0).at_=0))
def ixB(l:List Rw):Bool:=decide (1<=l.length)&&decide (l.length<=64)&&(Jj l.length).all (Qyw l)
def Qsk(h:ixB l=true):1<=l.length/\l.length<=64:=by
 unfold ixB at h; simp only[Jh,decide_eq_true_eq] at h; exact h.1
def Qbw(l:List Rw)(hl:l.length<=1000000):VCalls prog 200 [.agg [.pv (.sl (fz Qb2 l))]] [] (Ret (.bool (ixB l))):=by
 refine dd Tryz.func200 ?_
 have hB:ixB l=(decide (1<=l.length)&&decide (l.length<=64)&&(Jj l.length).all (Qyw l)):=rfl
 have hB':1<=l.length->l.length<=64->ixB l=(Jj l.length).all (Qyw l):=fun h h2=>by rw[hB,decide_eq_true h,decide_eq_true h2,JS,JS]
 have no:¬ (1<=l.length/\l.length<=64)->ixB l=false:=fun h=>by
  rw[hB]
  by_cases h1:1<=l.length
  ·rw[decide_eq_false (show ¬ l.length<=64 from fun h2=>h ⟨h1,h2⟩)]; simp
  ·rw[decide_eq_false h1]; rfl
 generalize ixB l=b at *
 (unfold Tryz.f200; refine rn trivial ?_)
 refine rn F ?_
 repeat' (first
  | with_reducible exact⟨⟩
  | (refine sG F ?_ ?_<;>intro hZ)
  | (refine sB F ?_ ?_<;>intro hZ))
 all_goals first | (rw[no (by omega)]) | skip
 refine Qg (fun s:Okay l.length (Qyw l)=>⟨53,0,[(3,.int .i64 s.i),(1,.ptr 0 0)],[⟨59,true,[.pv (.sl (fz Qb2 l))]⟩]⟩) (fun s=>l.length-s.i) (Okay.start _ _) (gc [0]) ?_
 intro s
 have hsi:=s.hi
 have hg:=fun h:s.i<l.length=>QkH l s.i h
 have e:Qyw l s.i=(Qos (l.getD s.i Rw0).lsn&&Qos (l.getD s.i Rw0).im&&Qos (l.getD s.i Rw0).at_&&!(decide ((l.getD s.i Rw0).im=0)&&!decide ((l.getD s.i Rw0).at_=0))):=rfl
 have c1:=Qq5 (l.getD s.i Rw0).lsn
 have c2:=Qq5 (l.getD s.i Rw0).im
 have c3:=Qq5 (l.getD s.i Rw0).at_
 generalize Qos (l.getD s.i Rw0).lsn=b1 at *
 generalize Qos (l.getD s.i Rw0).im=b2 at *
 generalize Qos (l.getD s.i Rw0).at_=b3 at *
 have F:=@hg
 refine rn F ?_
 repeat' (first
  | with_reducible exact⟨⟩
  | (refine sG F ?_ ?_<;>intro hZ)
  | (refine sB F ?_ ?_<;>intro hZ)
  | refine vp F (c1) ?_
  | refine vp F (c2) ?_
  | refine vp F (c3) ?_)
 all_goals first
  | (exact congrArg DV.bool (s.no (by omega) (hB' (by omega) (by omega)) (by rw[e]; simp_all)).symm)
  | (exact congrArg DV.bool (s.yes (by omega) (hB' (by omega) (by omega))).symm)
  | (exact⟨s.next (by omega) (by rw[e]; simp_all),s.dec (by omega),(gc [0])⟩)
  | skip
def Qyd(l:List Rw)(i:Nat)(r:Rw)(hi:i<l.length):(cells Qb2 l).take (i*3)++[.pv (.lit (.int .i64 r.lsn)),.pv (.lit (.int .i64 r.im)),.pv (.lit (.int .i64 r.at_))]++(cells Qb2 l).drop (i*3+3)=cells Qb2 (l.set i r):=QqD Qb2 l i r hi
def Qu4(l:List Rw)(hl:l.length<=1000000)(i:Nat)(hi:i<l.length)(r:Rw):VCalls prog 236 [.agg [.pv (.sl (fz Qb2 l))],.int .i64 i,.agg r.d] [] (Ret (.agg [.pv (.sl (fz Qb2 (l.set i r)))])):=by
 refine dd Tryz.func236 ?_
 have hb:i*3+3<=l.length*3:=by omega
 have hse:=Qyd l i r hi
 have hle:(l.set i r).length=l.length:=Jz
 (unfold Tryz.f236; refine rn trivial ?_)
 have F:=(Ja @hb (Ja @hse @hle))
 (refine rn F ?_; try with_reducible exact⟨⟩)
def Qee{e:E}(h:e.okB=true)(hk:e.kind=1\/e.kind=2\/e.kind=7):0<=e.c.pg/\e.c.pg<64:=by
 unfold E.okB at h
 simp only[Jh] at h
 have h2:=h.2
 unfold E.kindB Ch.okB Ch.ix at h2
 rcases hk with hk | hk | hk<;>rw[hk] at h2<;>simp at h2<;>omega
def Qbi(l:List Rw)(e:E):List Rw×Int:=
 if ixB l=false then ([],28) else if e.okB=false then ([],12) else if e.kind≠7 then (l,0) else if (l.length:Int)<=e.c.pg then ([],1)
 else (l.set e.c.pg.toNat ⟨if e.ref > (l.getD e.c.pg.toNat Rw0).lsn then e.ref else (l.getD e.c.pg.toNat Rw0).lsn,(l.getD e.c.pg.toNat Rw0).im,(l.getD e.c.pg.toNat Rw0).at_⟩,0)
def QjZ(l:List Rw)(hl:l.length<=1000000)(e:E):VCalls prog 193 [.agg [.pv (.sl (fz Qb2 l))],.agg e.d] [] (Ret (.tup [.agg [.pv (.sl (fz Qb2 (Qbi l e).1))],.int .i64 (Qbi l e).2])):=by
 refine dk Tryz.func193 ?_
 have c1:=Qbw l hl
 have c2:=Qcr e
 have c3:=fun i hi=>Qu4 l hl i hi
 have hp:=@Qee e
 have hp1:=hp
 have e0:Qbi l e=if ixB l=false then ([],28) else if e.okB=false then ([],12) else if e.kind≠7 then (l,0) else if (l.length:Int)<=e.c.pg then ([],1)
  else (l.set e.c.pg.toNat ⟨if e.ref > (l.getD e.c.pg.toNat Rw0).lsn then e.ref else (l.getD e.c.pg.toNat Rw0).lsn,(l.getD e.c.pg.toNat Rw0).im,(l.getD e.c.pg.toNat Rw0).at_⟩,0):=rfl
 generalize Qbi l e=r at *
 generalize ixB l=b at *
 cases hok:e.okB
 ·rw [hok] at c2 e0
  (unfold Tryz.f193; refine rn trivial ?_)
  refine rn F ?_
  repeat' (first
   | with_reducible exact⟨⟩
   | (refine sB F ?_ ?_<;>intro hZ)
   | refine vp F (c1) ?_
   | refine vp F (c2) ?_)
  all_goals first | (first | (rw[e0]; simp(disch:=first | assumption | omega | exact rfl | exact nf (by assumption) | exact nt (by assumption) | decide | fail) only[if_pos,if_neg]; first | done | rfl) | (rw[e0]; simp(disch:=first | assumption | omega | exact rfl | exact nf (by assumption) | exact nt (by assumption) | decide | (simp_all; done) | fail) only[if_pos,if_neg]; first | done | rfl)) | skip
 rw[hok] at c2 e0
 by_cases hk:e.kind=7
 ·obtain ⟨i,hi⟩:∃ i:Nat,e.c.pg = i:=⟨e.c.pg.toNat,by have:=hp hok (.inr (.inr hk)); omega⟩
  rw[hi,Jm] at e0
  have hg:=fun h:i<l.length=>QkH l i h
  generalize l.getD i Rw0=w at *
  (unfold Tryz.f193; refine rn trivial ?_)
  have F:=(Ja @hi (Ja @hg @hk))
  refine rn F ?_
  repeat' (first
   | with_reducible exact⟨⟩
   | (refine sB F ?_ ?_<;>intro hZ)
   | refine vp F (c1) ?_
   | refine vl F (c2) ?_
   | refine vp F (c3 i (by omega) ⟨_,_,_⟩) ?_)
  all_goals first | (first | (rw[e0]; simp(disch:=first | assumption | omega | exact rfl | exact nf (by assumption) | exact nt (by assumption) | decide | fail) only[if_pos,if_neg]; first | done | rfl) | (rw[e0]; simp(disch:=first | assumption | omega | exact rfl | exact nf (by assumption) | exact nt (by assumption) | decide | (simp_all; done) | fail) only[if_pos,if_neg]; first | done | rfl)) | skip
 ·(unfold Tryz.f193; refine rn trivial ?_; try with_reducible exact ⟨⟩)
  have F:=@hk
  refine rn F ?_
  repeat' (first
   | with_reducible exact⟨⟩
   | (refine sB F ?_ ?_<;>intro hZ)
   | refine vp F (c1) ?_
   | refine vp F (c2) ?_)
  all_goals first | (first | (rw[e0]; simp(disch:=first | assumption | omega | exact rfl | exact nf (by assumption) | exact nt (by assumption) | decide | fail) only[if_pos,if_neg]; first | done | rfl) | (rw[e0]; simp(disch:=first | assumption | omega | exact rfl | exact nf (by assumption) | exact nt (by assumption) | decide | (simp_all; done) | fail) only[if_pos,if_neg]; first | done | rfl)) | skip
def Tx.ss(t:Tx):Prop:=t.l.length<=100000/\t.s.length<=100000
def Tx.ss.sm{t:Tx}(h:t.ss):t.sm:=⟨Jc h.1 (by decide),Jc h.2 (by decide)⟩
def smN(n:Nat)(l:List Tx):Prop:=l.length<=n/\∀ t∈l,t.ss
def smN.smL{n:Nat}{l:List Tx}(h:smN n l)(hn:n<=1000000):smL l:=⟨Jc h.1 hn,fun t ht=>(h.2 t ht).sm⟩
def smN.mono(h:smN n l)(hn:n<=m):smN m l:=⟨Jc h.1 hn,h.2⟩
def QV(n:Nat):smN n []:=⟨Jf _,fun t h=>by simp at h⟩
def Qfz(h:Qbm l=true):smN 64 l:=⟨Qd3 h,fun t ht=>by
 obtain⟨i,hi,rfl⟩:=JK ht
 have:=QdN (Qbg h hi)
 exact⟨by omega,by omega⟩⟩
def smN.set(h:smN n l)(i:Nat)(ht:t.ss):smN n (l.set i t):=
 ⟨by rw [Jz]; exact h.1,fun x hx=>by
  rcases List.mem_or_eq_of_mem_set hx with hx | rfl
  ·exact h.2 x hx
  ·exact ht⟩
def smN.rem(h:smN n l)(a:Int):smN n (Qje l a):=
 ⟨Jc (Qrj l a) h.1,fun x hx=>h.2 x ((List.mem_filter.1 hx).1)⟩
def QkX(a:Int):smN 65 (Q9 l a).1:=by
 unfold Q9
 split
 ·exact QV _
 ·rename_i h1
  have hv:Qbm l=true:=by simpa using h1
  have hs:=Qfz hv
  split
  ·exact QV _
  split
  ·exact QV _
  split
  ·exact QV _
  refine⟨?_,fun x hx=>?_⟩
  ·have:=hs.1; unfold QAM; simp only[Jb,Jk,Je,Js]; omega
  ·unfold QAM at hx
   rcases JO.1 hx with h | h
   ·exact hs.2 x (JJ h)
   rcases List.mem_cons.1 h with rfl | h
   ·exact⟨Jf _,Jf _⟩
   ·exact hs.2 x (List.mem_of_mem_drop h)
def QtK(h:(Qp l a).2=0):smN 64 l/\(Qp l a).1.l.length<=4096/\(Qp l a).1.s.length<=8:=by
 obtain⟨hv,i,hi,_,_,h3⟩:=Qby h
 rw[h3]
 exact⟨Qfz hv,QdN (Qbg hv hi)⟩
def QuF(a:Int):smN 65 (Qha l a).1:=by
 unfold Qha
 split
 ·exact QV _
 rename_i h
 obtain⟨h1,h2,h3⟩:=QtK (l:=l) (a:=a) (by simpa using h)
 split
 ·exact QV _
 ·exact(h1.set _ ⟨by dsimp only; omega,by dsimp only; simp; omega⟩).mono (by omega)
def Qwy(a sv:Int):smN 65 (Qhp l a sv).1:=by
 unfold Qhp
 split
 ·exact QV _
 rename_i h
 obtain⟨h1,h2,h3⟩:=QtK (l:=l) (a:=a) (by simpa using h)
 have h4:∀ k,((Qp l a).1.s.take k).length<=100000:=fun k=>by rw[Jk]; omega
 split
 ·exact QV _
 split
 ·exact(h1.set _ ⟨by dsimp only; omega,h4 _⟩).mono (by omega)
 ·exact(h1.set _ ⟨by dsimp only; omega,h4 _⟩).mono (by omega)
def Qn5(h:t.ss):(QE t).ss:=by unfold QE; split<;>exact h
def QiQ(e:E):smN 65 (QT l e).1:=by
 unfold QT
 split
 ·exact QV _
 rename_i h1
 have hv:Qbm l=true:=by simpa using h1
 have hs:=Qfz hv
 split
 ·exact QV _
 split
 ·exact hs.mono (by omega)
 split
 ·exact QV _
 rename_i h4
 rcases QB l e.tx with h | ⟨i,hi,h,hid⟩
 ·omega
 rw[h,Jm,Qd l i hi]
 have hlen:=QdN (Qbg hv hi)
 unfold Qkn
 split
 ·exact QV _
 split
 ·exact(hs.rem _).mono (by omega)
 ·refine (hs.set _ (Qn5 ?_)).mono (by omega)
  unfold Qcc
  have hfl:(l[i].l.filter fun x=>decide (x≠e.ref)).length<=l[i].l.length:=JG _ _
  split
  ·exact⟨by dsimp only; simp; omega,by dsimp only; omega⟩
  split
  ·exact⟨by dsimp only; omega,by dsimp only; omega⟩
  ·exact⟨by dsimp only; omega,by simp⟩
attribute [go_sem] Tx.d
structure Kn where
 pg:Int
 nx:Int
 lg:Lg
 pl:Pl
 lk:Lk
 tx:List Tx
 ix:List Rw
 la:List Dt
@[go_sem] def Kn.d(k:Kn):List DV:=[.int .i64 k.pg,.int .i64 k.nx,.int .i64 k.lg.f,.pv (.sl (fz encE k.lg.es)),.int .i64 k.lg.d,.int .i64 k.pl.size,.pv (.sl (fz Qco k.pl.fs)),.int .i64 k.pl.hand,.pv (.sl (fz Qak k.lk.held)),.pv (.sl (fz Qak k.lk.wait)),.pv (.sl (fz Qaf k.tx)),.pv (.sl (fz Qb2 k.ix)),.pv (.sl (fz QcG k.la))]
def Kn0:Kn:=⟨0,0,Lg0,Pl0,Lk0,[],[],[]⟩
def Kn.sm(k:Kn):Prop:=k.lg.es.length<=4096/\k.pl.fs.length<=64/\k.lk.sum<=1024/\smN 65 k.tx/\k.ix.length<=64/\k.la.length<=10000
def QbQ:Kn0.sm:=⟨by decide,by decide,by decide,QV _,by decide,by decide⟩
def VK(k:Kn):Prop:=(1<=k.pg/\k.pg<=64)/\(1<=k.nx/\k.nx<=1073741825)/\lgB k.lg=true/\plB k.pl=true/\Qbm k.tx=true/\ixB k.ix=true/\k.ix.length=k.pg
def boD(b:Bool):DV:=.bool b
attribute [go_sem] boD QCY lgD QAJ QDY QD1
def laC(l:List Dt)(n:Int)(i:Nat):Bool:=decide (0<=(l.getD i Dt0).pg)&&(decide ((l.getD i Dt0).pg<n)&&(decide (1<=(l.getD i Dt0).rc)&&(decide ((l.getD i Dt0).rc<=(l.getD i Dt0).last)&&(decide ((l.getD i Dt0).last<=1099511627776)&&(decide (i=0)||decide ((l.getD (i-1) Dt0).pg<(l.getD i Dt0).pg))))))
def Ql4(l:List Dt)(n:Int)(i:Nat):laC l n i=true ↔ 0<=(l.getD i Dt0).pg/\(l.getD i Dt0).pg<n/\1<=(l.getD i Dt0).rc/\(l.getD i Dt0).rc<=(l.getD i Dt0).last/\(l.getD i Dt0).last<=1099511627776/\(i=0\/(l.getD (i-1) Dt0).pg<(l.getD i Dt0).pg):=by
 unfold laC; simp
def laB(l:List Dt)(n:Int):Bool:=(Jj l.length).all (laC l n)
def QjW(l:List Dt)(hl:l.length<=1000000)(n:Int):VCalls prog 201 [.pv (.sl (fz QcG l)),.int .i64 n] [] (Qz boD fun b=>b=laB l n):=by
 refine dd Tryz.func201 ?_
 have kn:∀ i,i<l.length->laC l n i=false->laB l n=false:=fun i hi h=>Qaz hi h
 (unfold Tryz.f201; refine rn trivial ?_)
 refine Qg (fun s:Okay l.length (laC l n)=>⟨58,0,[(5,.int .i64 s.i),(1,.int .i64 n),(0,.pv (.sl (fz QcG l)))],[]⟩) (fun s=>l.length-s.i) (Okay.start _ _) (gc []) ?_
 intro s
 have hi:=s.hi
 have hx:=Ql4 l n s.i
 by_cases hc:s.i<l.length
 ·have hc':((s.i:Nat):Int) < l.length:=by omega
  have hg:=Qeq l s.i hc
  have hgp:=fun h:s.i-1<l.length=>Qeq l (s.i-1) h
  have kf:=kn s.i hc
  have nx:=fun h:laC l n s.i=true=>(⟨s.next hc h,s.dec hc⟩:∃ t:Okay l.length (laC l n),l.length-t.i<l.length-s.i)
  have F:=(Ja @hc' (Ja @hg @hgp))
  refine rn F ?_
  repeat' (first
   | with_reducible exact⟨⟩
   | (refine sG F ?_ ?_<;>intro hZ)
   | (refine sB F ?_ ?_<;>intro hZ)
   | (refine Qc (id:=5) [0,1,2,3,4,5,6,7,8,9,10,11,12,13,14,15,16,17,18,19,20,21,22,23,24,25,26,27,28,29,30,31,32,33,34,35,36,37,38,39,40] [] (by kernel_rfl) (by kernel_rfl) ?_; refine rn F ?_))
  all_goals first
   | exact⟨rfl,rfl,false,rfl,(kf (by rw[<- Bool.not_eq_true,hx]; omega)).symm⟩
   | exact⟨s.next hc (hx.2 (by omega)),s.dec hc,(gc [])⟩
   | skip
 ·have hc':¬ ((s.i:Nat):Int) < l.length:=by omega
  have F:=@hc'
  refine rn F ?_
  exact⟨rfl,rfl,true,rfl,(s.all hc).symm⟩
@[go_sem] def laD(a:Dt×Bool):DV:=.tup [.agg a.1.d,.bool a.2]
def Qv4{α:Type}(l:List α)(p:α->Bool)(d:α)(i:Nat)(h:i<l.length)(hp:p (l.getD i d)=true)(hn:∀ j,j<i->p (l.getD j d)=false):l.find? p=some (l.getD i d):=by
 rw[List.find?_eq_some_iff_getElem]
 refine⟨hp,i,h,(Qd l i h d).symm,fun j hj=>?_⟩
 have:=hn j hj
 rw[Qd l j (by omega) d] at this
 simp[this]
def QzT{α:Type}(l:List α)(p:α->Bool)(d:α)(hn:∀ j,j<l.length->p (l.getD j d)=false):l.find? p=none:=by
 rw[List.find?_eq_none]
 intro x hx
 obtain⟨j,hj,rfl⟩:=List.mem_iff_getElem.1 hx
 have:=hn j hj
 rw[Qd l j hj d] at this
 simp[this]
def QaB(l:List Dt)(n:Int):Dt×Bool:=match l.find? fun d=>decide (d.pg=n) with
 | some d=>(d,true)
 | none=>(Dt0,false)
def QfA(k:Kn)(hl:k.la.length<=1000000)(n:Int):VCalls prog 155 [.agg k.d,.int .i64 n] [] (Qz laD fun a=>a=QaB k.la n):=by
 refine dd Tryz.func155 ?_
 (unfold Tryz.f155; refine rn trivial ?_)
 refine Qg (fun s:Okay k.la.length (fun j=>!decide ((k.la.getD j Dt0).pg=n))=>⟨28,0,[(6,.int .i64 s.i),(4,.ptr 1 0),(2,.ptr 0 0),(1,.int .i64 n)],[⟨62,true,k.d⟩,⟨219,true,[.int .i64 0,.int .i64 0,.int .i64 0]⟩]⟩) (fun s=>k.la.length-s.i) (Okay.start _ _) (gc [0,1]) ?_
 intro s
 have hi:=s.hi
 have hno:∀ j,j<s.i->decide ((k.la.getD j Dt0).pg=n)=false:=fun j hj=>by have:=s.ok j hj; simpa using this
 by_cases hc:s.i<k.la.length
 ·have hc':((s.i:Nat):Int) < k.la.length:=by omega
  have hg:=Qeq k.la s.i hc
  by_cases hp:(k.la.getD s.i Dt0).pg=n
  ·have hf:QaB k.la n = (k.la.getD s.i Dt0,true):=by unfold QaB; rw [Qv4 k.la _ Dt0 s.i hc (decide_eq_true hp) hno]
   have hnx:=s.next hc
   generalize k.la.getD s.i Dt0=d at *
   have F:=(Ja @hc' (Ja @hg @hp))
   (refine rn F ?_; try with_reducible exact⟨⟩)
   all_goals exact⟨rfl,rfl,(d,true),by simp[laD,Dt.d,hp],hf.symm⟩
  ·have hnx:=s.next hc (by rw [decide_eq_false hp]; rfl)
   have hs2:(s.next hc (by rw[decide_eq_false hp]; rfl)).i=s.i+1:=rfl
   have hd:=s.dec hc
   have F:=(Ja @hc' (Ja @hg @hp))
   (refine rn F ?_; try with_reducible exact⟨⟩)
   all_goals exact⟨s.next hc (by rw[decide_eq_false hp]; rfl),by first | exact s.dec hc | (rw[hs2]; omega),(gc [0,1])⟩
 ·have hc':¬ ((s.i:Nat):Int) < k.la.length:=by omega
  have hf:QaB k.la n=(Dt0,false):=by unfold QaB; rw[QzT k.la _ Dt0 fun j hj=>hno j (by omega)]
  have F:=@hc'
  (refine rn F ?_; try with_reducible exact⟨⟩)
  all_goals exact⟨rfl,rfl,(Dt0,false),rfl,hf.symm⟩
def VP(k:Kn):Prop:=VK k/\lkB k.lk=true/\laB k.la k.pg=true
def Qkb(k:Kn):Bool:=decide (1<=k.pg)&&(decide (k.pg<=64)&&(decide (1<=k.nx)&&(decide (k.nx<=1073741825)&&(lgB k.lg&&(plB k.pl&&(lkB k.lk&&(Qbm k.tx&&(ixB k.ix&&(decide ((k.ix.length:Int)=k.pg)&&laB k.la k.pg)))))))))
def QrM(k:Kn):Qkb k=true ↔ VP k:=by
 unfold Qkb VP VK
 simp only[Jh,decide_eq_true_eq]
 constructor
 ·rintro⟨a,b,c,d,e,f,g,h,i,j,l⟩; exact⟨⟨⟨a,b⟩,⟨c,d⟩,e,f,h,i,j⟩,g,l⟩
 ·rintro⟨⟨⟨a,b⟩,⟨c,d⟩,e,f,h,i,j⟩,g,l⟩; exact⟨a,b,c,d,e,f,g,h,i,j,l⟩
def QuY(k:Kn)(h:k.sm):VCalls prog 154 [.agg k.d] [] (Qz boD fun b=>b=Qkb k):=by
 refine dd Tryz.func154 ?_
 obtain⟨h1,h2,h3,h4,h5,h6⟩:=h
 have c1:=Qae k.lg (by omega)
 have c2:=Qaj k.pl (by omega)
 have c3:=QhI k.lk (by omega)
 have c4:=QbD k.tx (h4.smL (by omega))
 have c5:=Qbw k.ix (by omega)
 have c6:=fun n=>QjW k.la (by omega) n
 have e:Qkb k=(decide (1<=k.pg)&&(decide (k.pg<=64)&&(decide (1<=k.nx)&&(decide (k.nx<=1073741825)&&(lgB k.lg&&(plB k.pl&&(lkB k.lk&&(Qbm k.tx&&(ixB k.ix&&(decide ((k.ix.length:Int)=k.pg)&&laB k.la k.pg)))))))))):=rfl
 generalize Qkb k=R at *
 generalize lgB k.lg=b1 at *
 generalize plB k.pl=b2 at *
 generalize lkB k.lk=b3 at *
 generalize Qbm k.tx=b4 at *
 generalize ixB k.ix=b5 at *
 (unfold Tryz.f154; refine rn trivial ?_)
 refine rn F ?_
 repeat' (first
  | with_reducible exact⟨⟩
  | (refine sG F ?_ ?_<;>intro hZ)
  | refine vp F (c1) ?_
  | refine vp F (c2) ?_
  | refine vp F (c3) ?_
  | refine vp F (c4) ?_
  | refine vp F (c5) ?_
  | (refine Ql (c6 _) rfl ?_; rintro b6 hb6; refine rn F ?_))
 all_goals first
  | (refine⟨rfl,rfl,false,rfl,?_⟩; rw[e]; simp_all; done)
  | (refine⟨rfl,rfl,false,rfl,?_⟩; rw[e]; simp_all; omega)
  | (refine⟨rfl,rfl,_,rfl,?_⟩; rw[e]; simp_all; done)
  | (refine⟨rfl,rfl,_,rfl,?_⟩; rw[e]; simp_all; omega)
  | skip
section
structure RQ(s:List UInt8) where
 at_:Nat
 sh:Bool
 ha:at_<=s.length
def rbQ(T:TypeId)(s:List UInt8)(r:RQ s):Blk:=⟨T,true,[.pv (.str s),.int .i64 r.at_,.bool r.sh]⟩
theorem QyJ(T:TypeId)(s:List UInt8)(r:RQ s):DV.nums.go (fun _=>false) (rbQ T s r).cells=true:=rfl
def Qb1(s:List UInt8)(k:Nat)(r:RQ s):Int×RQ s:=
 if h:r.sh=true\/¬ r.at_+k<=s.length then (0,⟨r.at_,true,r.ha⟩) else (IntKind.i64.wrap (QeG s r.at_ k),⟨r.at_+k,false,by omega⟩)
def Qgw(h:r.sh=true\/¬ r.at_+k<=s.length):Qb1 s k r=(0,⟨r.at_,true,r.ha⟩):=by unfold Qb1; rw[dif_pos h]
def QiP(h:r.sh=false)(h':r.at_+k<=s.length):Qb1 s k r=(IntKind.i64.wrap (QeG s r.at_ k),⟨r.at_+k,false,h'⟩):=by
 unfold Qb1; rw[dif_neg (fun z=>z.elim (fun z=>by rw[h] at z; cases z) (fun z=>z h'))]
def RQ.lim{s:List UInt8}(r:RQ s):Nat:=r.at_+(if r.sh then 4 else 0)
def RQ.lim_le(r:RQ s):r.lim<=s.length+4:=by have:=r.ha; unfold RQ.lim; split<;>omega
def Qgx(hk:4<=k)(r:RQ s)(hr:r.sh=false):r.lim+4<=(Qb1 s k r).2.lim:=by
 by_cases h:r.at_+k<=s.length
 ·rw[QiP hr h]; simp only[RQ.lim,hr]; simp; omega
 ·rw[Qgw (.inr h)]; simp only[RQ.lim,hr]; simp
def QfJ(r:RQ s):r.lim<=(Qb1 s k r).2.lim:=by
 cases hr:r.sh
 ·by_cases h:r.at_ + k<=s.length
  ·rw[QiP hr h]; simp only[RQ.lim,hr]; simp
  ·rw[Qgw (.inr h)]; simp only[RQ.lim,hr]; simp
 ·rw[Qgw (.inl hr)]; simp only[RQ.lim,hr]; simp
def Qm6(r:RQ s): -9223372036854775808<=(Qb1 s k r).1/\(Qb1 s k r).1<=9223372036854775807:=by
 unfold Qb1
 split
 ·dsimp only; omega
 ·dsimp only; rw[IntKind.wrap_i64]; omega
def rdN(s:List UInt8):Nat->List Int->RQ s->List Int×RQ s
 | 0,out,r=>(out,r)
 | n+1,out,r=>if r.sh=true then (out,r) else rdN s n (out++[(Qb1 s 8 r).1]) (Qb1 s 8 r).2
def QBy(h:r.sh=true):rdN s n out r=(out,r):=by cases n; rfl; rw[rdN,if_pos h]
def QlM:∀ (n:Nat) (out:List Int) (r:RQ s),4 * out.length<=r.lim->4 * (rdN s n out r).1.length<=(rdN s n out r).2.lim/\r.lim<=(rdN s n out r).2.lim
 | 0,_,_,h=>⟨h,Jp _⟩
 | n + 1,out,r,h=>by
   unfold rdN
   split
   ·exact⟨h,Jp _⟩
   ·rename_i hr
    have h1:=Qgx (k:=8) (by omega) r (by simpa using hr)
    have h2:=QlM n (out++[(Qb1 s 8 r).1]) (Qb1 s 8 r).2 (by simp; omega)
    exact⟨h2.1,by omega⟩
def Qel(s:List UInt8)(k:Nat)(r:RQ s):List Int×RQ s:=rdN s (Qb1 s k r).1.toNat [] (Qb1 s k r).2
def Qku(r:RQ s):4*(Qel s k r).1.length<=s.length+4:=Jc (QlM _ _ _ (Jf _)).1 (RQ.lim_le _)
def Qkt(r:RQ s):r.lim<=(Qel s k r).2.lim:=Jc (QfJ r) (QlM _ _ _ (Jf _)).2
def txS(s:List UInt8)(r:RQ s):Tx×RQ s:=
 let a:=Qb1 s 4 r
 let b:=Qb1 s 1 a.2
 let c:=Qb1 s 8 b.2
 let d:=Qb1 s 8 c.2
 let q:=Qel s 2 d.2
 let v:=Qel s 1 q.2
 (⟨a.1,b.1,c.1,d.1,q.1,v.1⟩,v.2)
def Qmw(r:RQ s)(hr:r.sh=false):r.lim+4<=(txS s r).2.lim:=by
 have h1:=Qgx (k:=4) (by omega) r hr
 refine Jc h1 ?_
 unfold txS
 refine Jc (QfJ _) (Jc (QfJ _) (Jc (QfJ _) (Jc (Qkt _) (Qkt _))))
def QA6(hs:s.length<=3000000)(r:RQ s):(txS s r).1.sm:=⟨by have:=Qku (k:=2) (Qb1 s 8 (Qb1 s 8 (Qb1 s 1 (Qb1 s 4 r).2).2).2).2; show(Qel s 2 _).1.length<=_; omega,by have:=Qku (k:=1) (Qel s 2 (Qb1 s 8 (Qb1 s 8 (Qb1 s 1 (Qb1 s 4 r).2).2).2).2).2; show(Qel s 1 _).1.length<=_; omega⟩
def rdT(s:List UInt8):Nat->List Tx->RQ s->List Tx×RQ s
 | 0,out,r=>(out,r)
 | n+1,out,r=>if r.sh=true then (out,r) else rdT s n (out++[(txS s r).1]) (txS s r).2
def QBx(h:r.sh=true):rdT s n out r=(out,r):=by cases n; rfl; rw[rdT,if_pos h]
def Qrq:∀ (n:Nat) (out:List Tx) (r:RQ s),4 * out.length<=r.lim->4 * (rdT s n out r).1.length<=(rdT s n out r).2.lim
 | 0,_,_,h=>h
 | n + 1,out,r,h=>by
   unfold rdT
   split
   ·exact h
   ·rename_i hr
    have h1:=Qmw r (by simpa using hr)
    exact Qrq n (out++[(txS s r).1]) (txS s r).2 (by simp; omega)
def QwS (hs:s.length<=3000000):∀ (n:Nat) (out:List Tx) (r:RQ s),(∀ t ∈ out,t.sm)->∀ t ∈ (rdT s n out r).1,t.sm
 | 0,_,_,h=>h
 | n + 1,out,r,h=>by
   unfold rdT
   split
   ·exact h
   ·refine QwS hs n _ _ fun t ht=>?_
    rcases JO.1 ht with h1 | h1
    ·exact h t h1
    ·rw[List.mem_singleton.1 h1]; exact QA6 hs r
def rq0(s:List UInt8):RQ s:=⟨0,false,Jf _⟩
def rdA(s:List UInt8):List Tx×RQ s:=rdT s (Qb1 s 2 (rq0 s)).1.toNat [] (Qb1 s 2 (rq0 s)).2
def QBz(hs:s.length<=3000000):smL (rdA s).1:=
 ⟨by have:=Qrq (Qb1 s 2 (rq0 s)).1.toNat [] (Qb1 s 2 (rq0 s)).2 (Jf _); have h2:=(rdA s).2.lim_le; unfold rdA at h2 |-; omega,QwS hs _ _ _ (by simp)⟩
def Qxc(s:List UInt8):List Tx×Int:=
 if (rdA s).2.sh=true then ([],5) else if ((rdA s).2.at_:Int)≠s.length then ([],4) else if Qbm (rdA s).1=false then ([],15) else ((rdA s).1,0)
abbrev RY(T:TypeId)(s:List UInt8)(v:DV)(q:RQ s):DV->Qa->Prop:=fun r h'=>∃ B',h'=[B']/\B'.live=true/\DV.nums.go (fun _=>false) B'.cells=true/\r.nums (fun _=>false)=true/\(r=v/\B'=rbQ T s q)
def Qit(h:VCalls prog g (args.map (DV.ren fun _=>0)) [rbQ T s r] (RY T s v q))(hk:hp[k]?=some (rbQ T s r))(ha:DV.nums.go (fun i=>i==k) args=true)(hK:K v (hp.set k (rbQ T s q))):VCalls prog g args hp K:=
 (VCalls.ptr1 (R:=fun x B'=>x=v/\B'=rbQ T s q) hk rfl (QyJ T s r) h ha).mono fun x h' ⟨B',e1,_,_,e2,e3⟩=>by subst e1 e2 e3; exact hK
attribute [local go_sem] rbQ
attribute [local go_sem] Qzd QAN QBd QBc QsG Qfx
@[go_sem] def lb(l:List Int):DV:=.pv (.sl (fz QR l))
def QdJ(s:List UInt8)(hs:s.length<=3000000)(k:Nat)(h1:1<=k)(h8:k<=8)(r:RQ s):VCalls prog 283 [.ptr 0 0,.int .i64 k] [rbQ 370 s r] (RY 370 s (.int .i64 (Qb1 s k r).1) (Qb1 s k r).2):=by
 refine dd Tryz.func283 ?_
 have ha:=r.ha
 by_cases h:r.at_+k<=s.length
 ·have c1:=QhJ s (by omega) r.at_ k ⟨h1,h8⟩ h
  cases hr:r.sh
  ·rw [QiP hr h]
   (unfold Tryz.f283; refine rn trivial ?_)
   have F:=@hr
   refine rn F ?_
   repeat' (first
    | with_reducible exact⟨⟩
    | refine vp F (c1) ?_
    | (refine Qc (id:=1) [0,1,2,3,4,5,6,7,8] [⟨[],[],9,[0,1,2,4,5,6],[10,11,12]⟩,⟨[],[],13,[12],[]⟩,⟨[],[],14,[],[]⟩] (by kernel_rfl) (by kernel_rfl) ?_; refine rn F ?_))
   all_goals exact⟨_,rfl,rfl,rfl,rfl,rfl,rfl⟩
  ·rw [Qgw (.inl hr)]
   (unfold Tryz.f283; refine rn trivial ?_)
   have F:=@hr
   refine rn F ?_
   repeat' (first
    | with_reducible exact⟨⟩
    | refine vp F (c1) ?_
    | (refine Qc (id:=1) [0,1,2,3,4,5,6,7,8] [⟨[],[],9,[0,1,2,4,5,6],[10,11,12]⟩,⟨[],[],13,[12],[]⟩,⟨[],[],14,[],[]⟩] (by kernel_rfl) (by kernel_rfl) ?_; refine rn F ?_))
   all_goals exact⟨_,rfl,rfl,rfl,rfl,rfl,(by first | rfl | simp only[rbQ,hr])⟩
 ·have c1:=Qdm s r.at_ k (by omega) (by omega) (by omega)
  rw[Qgw (.inr h)]
  (unfold Tryz.f283; refine rn trivial ?_)
  have F:=trivial
  refine rn F ?_
  repeat' (first
   | with_reducible exact⟨⟩
   | (refine sG F ?_ ?_<;>intro hZ)
   | refine vp F (c1) ?_
   | (refine Qc (id:=1) [0,1,2,3,4,5,6,7,8] [⟨[],[],9,[0,1,2,4,5,6],[10,11,12]⟩,⟨[],[],13,[12],[]⟩,⟨[],[],14,[],[]⟩] (by kernel_rfl) (by kernel_rfl) ?_; refine rn F ?_))
  all_goals exact⟨_,rfl,rfl,rfl,rfl,rfl,rfl⟩
structure LSrnum(s:List UInt8)(fin:List Int×RQ s) where
 n:Int
 out:List Int
 r:RQ s
 hn : -9223372036854775808<=n/\n<=9223372036854775807
 ho:4*out.length<=r.lim
 he:rdN s n.toNat out r=fin
def QwR(s:List UInt8)(hs:s.length<=3000000)(k:Nat)(h1:1<=k)(h8:k<=8)(r:RQ s):VCalls prog 284 [.ptr 0 0,.int .i64 k] [rbQ 370 s r] (RY 370 s (lb (Qel s k r).1) (Qel s k r).2):=by
 refine dd Tryz.func284 ?_
 (unfold Tryz.f284; refine rn trivial ?_)
 refine Qit (k:=0) (QdJ s hs k h1 h8 r) rfl rfl ?_
 refine rn trivial ?_
 refine VLoop.nilOwn 5 3 1 rfl ?_
 refine Qg (fun t:LSrnum s (Qel s k r)=>⟨27,1,[(6,.int .i64 t.n),(5,.own 1 1 0 t.out.length),(0,.ptr 0 0)],[rbQ 370 s t.r,⟨3,true,cells QR t.out⟩]⟩) (fun t=>t.n.toNat) ⟨(Qb1 s k r).1,[],(Qb1 s k r).2,Qm6 r,Jf _,rfl⟩ (gc [0,1]) ?_
 rintro⟨n,out,q,hn,ho,he⟩
 dsimp only
 have hl:=q.lim_le
 have hl1:out.length+1<=1000000:=by omega
 have hb:(out.length+1)*8<=140737488355328:=by omega
 obtain⟨a,sh,ha⟩:=q
 cases sh
 ·by_cases h0:0 < n
  ·have e:n.toNat = (n - 1).toNat + 1:=by omega
   rw[e,rdN,if_neg (by simp)] at he
   have hm:=Qgx (k:=8) (by omega) (⟨a,false,ha⟩:RQ s) rfl
   have F:=(Ja @h0 (Ja @QkZ @hb))
   refine rn F ?_
   refine Qit (k:=0) (QdJ s hs 8 (by omega) (by omega) ⟨a,false,ha⟩) rfl rfl ?_
   have F:=(Ja @QkZ @hb)
   refine rn F ?_
   refine⟨⟨n-1,_,_,by omega,by simp; omega,he⟩,by show(n-1).toNat<n.toNat; omega,?_⟩
   dsimp only
   rw[Jb]
   exact(gc [0,3])
  ·have e:n.toNat = 0:=by omega
   rw[e,rdN] at he
   have F:=(Ja @QkZ @hb)
   (refine rn F ?_; try with_reducible exact⟨⟩)
   all_goals exact⟨_,rfl,rfl,rfl,rfl,(by rw[<- he]; try rfl),(by rw[<- he]; try rfl)⟩
 ·rw [QBy rfl] at he
  have F:=(Ja @QkZ @hb)
  refine rn F ?_
  repeat' (first
   | with_reducible exact⟨⟩
   | (refine sG F ?_ ?_<;>intro hZ))
  all_goals exact⟨_,rfl,rfl,rfl,rfl,(by rw[<- he]; try rfl),(by rw[<- he]; try rfl)⟩
structure DTrnum(s:List UInt8) where
 n:Int
 out:List Tx
 r:RQ s
 hn : -9223372036854775808<=n/\n<=9223372036854775807
 ho:4*out.length<=r.lim
 he:rdT s n.toNat out r=rdA s
def Qoc(s:List UInt8)(hs:s.length<=3000000):VCalls prog 281 [.pv (.str s)] [] (Ret (QAJ (Qxc s))):=by
 refine VCalls.unwk ?_
 refine dd Tryz.func281 ?_
 (unfold Tryz.f281; refine rn trivial ?_)
 refine Qit (k:=0) (QdJ s hs 2 (by omega) (by omega) (rq0 s)) rfl rfl ?_
 refine rn trivial ?_
 refine VLoop.nilOwn 5 71 6 rfl ?_
 refine Qg (fun t:DTrnum s=>⟨64,0,[(6,.int .i64 t.n),(5,.own 1 6 0 t.out.length),(4,.ptr 0 0),(0,.pv (.str s))],[rbQ 370 s t.r,⟨71,true,cells Qaf t.out⟩]⟩) (fun t=>t.n.toNat) ⟨(Qb1 s 2 (rq0 s)).1,[],(Qb1 s 2 (rq0 s)).2,Qm6 _,Jf _,rfl⟩ (gc [0,1]) ?_
 rintro⟨n,out,q,hn,ho,he⟩
 dsimp only
 have hl:=q.lim_le
 have hb:(out.length+1)*80<=140737488355328:=by omega
 have hsm:=QBz hs
 have ed:Qxc s=if (rdA s).2.sh=true then ([],5) else if ((rdA s).2.at_:Int)≠s.length then ([],4) else if Qbm (rdA s).1=false then ([],15) else ((rdA s).1,0):=rfl
 obtain⟨a,sh,ha⟩:=q
 cases sh
 ·by_cases h0:0 < n
  ·have e:n.toNat = (n - 1).toNat + 1:=by omega
   rw[e,rdT,if_neg (by simp)] at he
   have hm:=Qmw (⟨a,false,ha⟩:RQ s) rfl
   simp only[txS] at he hm
   have cA:=QdJ s hs 4 (by omega) (by omega) ⟨a,false,ha⟩
   generalize Qb1 s 4 ⟨a,false,ha⟩=A at cA he hm
   have cB:=QdJ s hs 1 (by omega) (by omega) A.2
   generalize Qb1 s 1 A.2=B at cB he hm
   have cC:=QdJ s hs 8 (by omega) (by omega) B.2
   generalize Qb1 s 8 B.2=C at cC he hm
   have cD:=QdJ s hs 8 (by omega) (by omega) C.2
   generalize Qb1 s 8 C.2=D at cD he hm
   have cE:=QwR s hs 2 (by omega) (by omega) D.2
   generalize Qel s 2 D.2=E at cE he hm
   have cF:=QwR s hs 1 (by omega) (by omega) E.2
   generalize Qel s 1 E.2=W at cF he hm
   have F:=(Ja @h0 (Ja @Qfx @hb))
   refine rn F ?_
   refine Qit (k:=0) cA rfl rfl ?_
   have F:=(Ja @h0 (Ja @Qfx @hb))
   refine rn F ?_
   refine Qit (k:=0) cB rfl rfl ?_
   have F:=(Ja @h0 (Ja @Qfx @hb))
   refine rn F ?_
   refine Qit (k:=0) cC rfl rfl ?_
   have F:=(Ja @h0 (Ja @Qfx @hb))
   refine rn F ?_
   refine Qit (k:=0) cD rfl rfl ?_
   have F:=(Ja @h0 (Ja @Qfx @hb))
   refine rn F ?_
   refine Qit (k:=0) cE rfl rfl ?_
   have F:=(Ja @h0 (Ja @Qfx @hb))
   refine rn F ?_
   refine Qit (k:=0) cF rfl rfl ?_
   have F:=(Ja @h0 (Ja @Qfx @hb))
   refine rn F ?_
   refine⟨⟨n-1,_,_,by omega,by simp; omega,he⟩,by show(n-1).toNat<n.toNat; omega,?_⟩
   dsimp only
   have e2:cells Qaf out++[.pv (.lit (.int .i64 A.1)),.pv (.lit (.int .i64 B.1)),.pv (.lit (.int .i64 C.1)),.pv (.lit (.int .i64 D.1)),.pv (.sl (fz QR E.1)),.pv (.sl (fz QR W.1))]=cells Qaf (out++[⟨A.1,B.1,C.1,D.1,E.1,W.1⟩]):=Qfx out ⟨A.1,B.1,C.1,D.1,E.1,W.1⟩
   rw[Jb]
   rw[e2]
   exact(gc [0,4])
  ·have e:n.toNat = 0:=by omega
   rw[e,rdT] at he
   rw[<- he] at ed hsm
   have c1:=QbD out hsm
   rw[ed]
   by_cases h1:(a:Int)=s.length
   ·cases hv:Qbm out
    ·rw [hv] at c1
     dsimp only
     rw[if_neg (by simp),if_neg (by simpa using h1),if_pos (by first | rfl | exact hv)]
     have F:=(Ja @h0 (Ja @h1 @hb))
     refine rn F ?_
     repeat' (first
      | with_reducible exact⟨⟩
      | refine vl F (c1) ?_)
     all_goals first | rfl | contradiction
    ·rw [hv] at c1
     dsimp only
     rw[if_neg (by simp),if_neg (by simpa using h1),if_neg (by first | simp; done | (rw[hv]; simp))]
     have F:=(Ja @h0 (Ja @h1 @hb))
     refine rn F ?_
     repeat' (first
      | with_reducible exact⟨⟩
      | refine vl F (c1) ?_)
     all_goals first | rfl | contradiction
   ·dsimp only
    rw[if_neg (by simp),if_pos (by simpa using h1)]
    have F:=(Ja @h0 (Ja @h1 @hb))
    (refine rn F ?_; try with_reducible exact⟨⟩)
    all_goals first | rfl | contradiction
 ·rw [QBx rfl] at he
  rw[<- he] at ed
  rw[ed]
  dsimp only
  rw[if_pos rfl]
  have F:=@hb
  refine rn F ?_
  repeat' (first
   | with_reducible exact⟨⟩
   | (refine sG F ?_ ?_<;>intro hZ))
  all_goals first | rfl | contradiction
end
def Qne(h:lgB ⟨f,es,d⟩=true)(hl:es.length<4096)(he:e.lsn=f+es.length)(ho:e.okB=true):lgB ⟨f,es++[e],d⟩=true:=by
 have hd:=Qan h
 simp only[Lg.hd] at hd
 unfold lgB at h |-
 simp only[Jh,decide_eq_true_eq,Jt,Jv] at h |-
 refine⟨by simp only[Lg.hd,Jb,Je,Jd]; omega,fun i hi=>?_⟩
 simp only[Jb,Je,Jd] at hi
 rcases JL i es.length with hlt | hge
 ·have:=h.2 i hlt
  unfold lgC at this |-
  dsimp only at this |-
  rw[Jg,JA hlt,<- Jg]
  exact this
 ·obtain rfl:i = es.length:=by omega
  unfold lgC
  dsimp only
  rw[Jg,Jq (Jp _),JM]
  simp[he,ho]
def Qmp(h:(QdU x e).2.2=0):lgB x=true/\x.es.length<4096/\({ e with lsn:=x.end_+1 }:E).okB=true/\QdU x e=(⟨x.f,x.es++[{ e with lsn:=x.end_+1 }],x.d⟩,x.end_+1,0):=by
 unfold QdU at h |-
 split at h
 ·simp at h
 rename_i h1
 have hv:lgB x=true:=by simpa using h1
 split at h
 ·simp at h
 rename_i h2
 split at h
 ·simp at h
 rename_i h3
 have hd:=Qan hv
 simp only[Lg.hd] at hd
 exact⟨hv,by omega,by simpa using h3,by rw[if_neg h1,if_neg h2,if_neg h3]⟩
def QfR(h:(QdU x e).2.2=0):lgB (QdU x e).1=true:=by
 obtain⟨h1,h2,h3,h4⟩:=Qmp h
 rw[h4]
 exact Qne (f:=x.f) (d:=x.d) h1 h2 (by dsimp only; unfold Lg.end_; omega) h3
def QnB(x:Lg)(e:E):(QdU x e).1.es.length<=4096:=by
 by_cases h:(QdU x e).2.2=0
 ·exact(Qan (QfR h)).2.2.1
 ·unfold QdU at h |-
  split
  ·decide
  split
  ·decide
  split
  ·decide
  ·simp_all
def QwA(h:(QdU x e).2.2=0):Qbj (QdU x e).1 (QdU x e).2.1=({ e with lsn:=x.end_+1 },0):=by
 have hl:=QfR h
 obtain⟨h1,h2,h3,h4⟩:=Qmp h
 rw[h4] at hl |-
 unfold Qbj
 dsimp only at hl |-
 have hd:=Qan h1
 simp only[Lg.hd] at hd
 rw[if_neg (by rw[hl]; decide),if_neg (by unfold Lg.end_; simp only[Jb,Je,Jd]; omega)]
 have:(x.end_+1-x.f).toNat=x.es.length:=by unfold Lg.end_; omega
 rw[this,Jg,Jq (Jp _),JM]; rfl
def Qkm(l:List Rw)(e:E)(h:l.length<=64):(Qbi l e).1.length<=64:=by
 unfold Qbi
 split
 ·decide
 split
 ·decide
 split
 ·exact h
 split
 ·decide
 ·simpa using h
def QrY(l:List Tx)(e:E):smN 65 (QT l e).1:=QiQ e
def kT(k:Kn)(i:Nat):Bool:=decide ((k.tx.getD i Tx0).id<k.nx)
def kF(k:Kn)(i:Nat):Bool:=decide ((k.pl.fs.getD i Fm0).pg.id<k.pg)&&!(QaB k.la (k.pl.fs.getD i Fm0).pg.id).2
def kG(l:List Gr)(n:Int)(i:Nat):Bool:=decide ((l.getD i Gr0).pg<n)
def kB(k:Kn):Bool:=Qkb k&&((Jj k.tx.length).all (kT k)&&((Jj k.pl.fs.length).all (kF k)&&((Jj k.lk.held.length).all (kG k.lk.held k.pg)&&(Jj k.lk.wait.length).all (kG k.lk.wait k.pg))))
structure V2(k:Kn):Prop where
 ids:∀ i,i<k.tx.length->(k.tx.getD i Tx0).id<k.nx
 frs:∀ i,i<k.pl.fs.length->(k.pl.fs.getD i Fm0).pg.id<k.pg/\(QaB k.la (k.pl.fs.getD i Fm0).pg.id).2=false
def QBV(h:kB k=true):VP k:=by
 unfold kB at h; rw[Jh] at h; exact(QrM k).1 h.1
def QiY{k:Kn}(h:kB k=true):VK k:=(QBV h).1
def Qsj(h:kB k=true):V2 k:=by
 unfold kB at h
 simp only[Jh,Jt,Jv] at h
 obtain⟨_,h1,h2,_⟩:=h
 refine⟨fun i hi=>by simpa [kT] using h1 i hi,fun i hi=>by simpa [kF] using h2 i hi⟩
def QbE(k:Kn)(h:k.sm):VCalls prog 131 [.agg k.d] [] (Ret (.bool (kB k))):=by
 refine dd Tryz.func131 ?_
 have c1:=QuY k h
 obtain⟨h1,h2,h3,h4,h5,h6⟩:=h
 have c2:=QfA k (by omega)
 unfold Lk.sum at h3
 have h40:=h4.1
 have k0:Qkb k=false->kB k=false:=fun h=>by unfold kB; rw[h]; rfl
 have k1:∀ i,i<k.tx.length->kT k i=false->kB k=false:=fun i hi h=>by unfold kB; rw[Qaz hi h]; simp
 have k2:∀ i,i<k.pl.fs.length->kF k i=false->kB k=false:=fun i hi h=>by unfold kB; rw[Qaz hi h]; simp
 have k3:∀ i,i<k.lk.held.length->kG k.lk.held k.pg i=false->kB k=false:=fun i hi h=>by unfold kB; rw[Qaz hi h]; simp
 have k4:∀ i,i<k.lk.wait.length->kG k.lk.wait k.pg i=false->kB k=false:=fun i hi h=>by unfold kB; rw[Qaz hi h]; simp
 have k5:Qkb k=true->(Jj k.tx.length).all (kT k)=true->(Jj k.pl.fs.length).all (kF k)=true->(Jj k.lk.held.length).all (kG k.lk.held k.pg)=true->(Jj k.lk.wait.length).all (kG k.lk.wait k.pg)=true->kB k=true:=fun a b c d e=>by unfold kB; rw[a,b,c,d,e]; rfl
 generalize kB k=R at *
 (unfold Tryz.f131; refine rn trivial ?_)
 refine Ql c1 rfl ?_
 rintro b hb
 cases b
 ·skip
  refine rn F ?_
  rw[k0 hb.symm]
 refine rn F ?_
 refine Qg (fun s:Okay k.tx.length (kT k)=>⟨94,0,[(3,.int .i64 s.i),(1,.ptr 0 0)],[⟨62,true,k.d⟩]⟩) (fun s=>k.tx.length-s.i) (Okay.start _ _) (gc [0]) ?_
 intro s
 have hi:=s.hi
 by_cases hc:s.i<k.tx.length
 ·have hc':((s.i:Nat):Int) < k.tx.length:=by omega
  have hg:=QdO k.tx s.i hc
  have kn:=k1 s.i hc
  have F:=(Ja @hc' @hg)
  refine rn F ?_
  repeat' (first
   | with_reducible exact⟨⟩
   | (refine sB F ?_ ?_<;>intro hZ)
   | (refine Qc (id:=6) [0,1,2,3,4,5,6,7,8] [] (by kernel_rfl) (by kernel_rfl) ?_; refine rn F ?_))
  all_goals first
   | (rw[kn (by unfold kT; exact decide_eq_false (by omega))])
   | exact⟨s.next hc (decide_eq_true (by omega)),s.dec hc,(gc [0])⟩
 have hc':¬ ((s.i:Nat):Int)<k.tx.length:=by omega
 have k6:=k5 hb.symm (s.all hc)
 have F:=@hc'
 refine rn F ?_
 refine Qg (fun s:Okay k.pl.fs.length (kF k)=>⟨94,0,[(4,.int .i64 s.i),(1,.ptr 0 0)],[⟨62,true,k.d⟩]⟩) (fun s=>k.pl.fs.length-s.i) (Okay.start _ _) (gc [0]) ?_
 intro r
 have hr:=r.hi
 by_cases hcr:r.i<k.pl.fs.length
 ·have hcr':((r.i:Nat):Int) < k.pl.fs.length:=by omega
  have hf:=QbV k.pl.fs r.i hcr
  have kn:=k2 r.i hcr
  have ef:kF k r.i=(decide ((k.pl.fs.getD r.i Fm0).pg.id<k.pg)&&!(QaB k.la (k.pl.fs.getD r.i Fm0).pg.id).2):=rfl
  have F:=(Ja @hcr' @hf)
  refine rn F ?_
  repeat' (first
   | with_reducible exact⟨⟩
   | (refine sB F ?_ ?_<;>intro hZ))
  all_goals first
   | (rw[kn (by rw[ef,decide_eq_false (by omega)]; rfl)])
   | skip
  refine Ql (c2 _) rfl ?_
  rintro⟨a,b2⟩ hb2
  have hl2:(QaB k.la (k.pl.fs.getD r.i Fm0).pg.id).2=b2:=by rw[<- hb2]
  cases b2
  ·skip
   have F:=trivial
   refine rn F ?_
   exact⟨r.next hcr (by rw[ef,decide_eq_true (by omega),hl2]; rfl),r.dec hcr,(gc [0])⟩
  ·skip
   have F:=trivial
   refine rn F ?_
   rw[kn (by rw[ef,hl2]; simp)]
 have hcr':¬ ((r.i:Nat):Int)<k.pl.fs.length:=by omega
 have k7:=k6 (r.all hcr)
 have F:=@hcr'
 refine rn F ?_
 refine Qg (fun s:Okay k.lk.held.length (kG k.lk.held k.pg)=>⟨94,0,[(8,.int .i64 s.i),(1,.ptr 0 0)],[⟨62,true,k.d⟩]⟩) (fun s=>k.lk.held.length-s.i) (Okay.start _ _) (gc [0]) ?_
 intro u
 have hu:=u.hi
 by_cases hcu:u.i<k.lk.held.length
 ·have hcu':((u.i:Nat):Int) < k.lk.held.length:=by omega
  have hx:=Qax k.lk.held u.i hcu
  have kn:=k3 u.i hcu
  have F:=(Ja @hcu' @hx)
  refine rn F ?_
  repeat' (first
   | with_reducible exact⟨⟩
   | (refine sB F ?_ ?_<;>intro hZ)
   | (refine Qc (id:=20) [0,1,2,3,4,5,6,7,8,9,10] [] (by kernel_rfl) (by kernel_rfl) ?_; refine rn F ?_))
  all_goals first
   | (rw[kn (by unfold kG; exact decide_eq_false (by omega))])
   | exact⟨u.next hcu (decide_eq_true (by omega)),u.dec hcu,(gc [0])⟩
 have hcu':¬ ((u.i:Nat):Int)<k.lk.held.length:=by omega
 have k8:=k7 (u.all hcu)
 have F:=@hcu'
 refine rn F ?_
 refine Qg (fun s:Okay k.lk.wait.length (kG k.lk.wait k.pg)=>⟨94,0,[(9,.int .i64 s.i),(1,.ptr 0 0)],[⟨62,true,k.d⟩]⟩) (fun s=>k.lk.wait.length-s.i) (Okay.start _ _) (gc [0]) ?_
 intro w
 have hw:=w.hi
 by_cases hcw:w.i<k.lk.wait.length
 ·have hcw':((w.i:Nat):Int) < k.lk.wait.length:=by omega
  have hx:=Qax k.lk.wait w.i hcw
  have kn:=k4 w.i hcw
  have F:=(Ja @hcw' @hx)
  refine rn F ?_
  repeat' (first
   | with_reducible exact⟨⟩
   | (refine sB F ?_ ?_<;>intro hZ)
   | (refine Qc (id:=25) [0,1,2,3,4,5,6,7,8,9,10] [] (by kernel_rfl) (by kernel_rfl) ?_; refine rn F ?_))
  all_goals first
   | (rw[kn (by unfold kG; exact decide_eq_false (by omega))])
   | exact⟨w.next hcw (decide_eq_true (by omega)),w.dec hcw,(gc [0])⟩
 have hcw':¬ ((w.i:Nat):Int)<k.lk.wait.length:=by omega
 have F:=@hcw'
 refine rn F ?_
 rw[k8 (w.all hcw)]
def QaQ(k:Kn)(h:k.sm):VCalls prog 131 [.agg k.d] [] (Qz boD fun b=>b=true->VK k):=
 (QbE k h).toS (kB k) rfl QiY
@[go_sem] def inD(n:Int):DV:=.int .i64 n
def QvV(k:Kn)(n:Int):Int:=if 0<=idF k.pl.fs n then (k.pl.fs.getD (idF k.pl.fs n).toNat Fm0).pg.lsn else if (QaB k.la n).2=true then (QaB k.la n).1.last else (k.ix.getD n.toNat Rw0).lsn
def QeW(k:Kn)(n:Int):Int:=if kB k=true/\0<=n/\n<k.pg then QvV k n else 0
def QlK(k:Kn)(h:k.sm)(n:Int):VCalls prog 158 [.agg k.d,.int .i64 n] [] (Qz inD fun a=>a=QeW k n):=by
 refine dd Tryz.func158 ?_
 have c1:=QbE k h
 have hvk:=@QiY k
 have e0:∀ h:¬ (kB k=true/\0<=n/\n<k.pg),QeW k n=0:=fun h=>if_neg h
 have e1:∀ h:kB k=true/\0<=n/\n<k.pg,QeW k n=QvV k n:=fun h=>if_pos h
 generalize QeW k n=R at *
 generalize kB k=v at *
 obtain⟨h1,h2,h3,h4,h5,h6⟩:=h
 have c2:=QfA k (by omega) n
 have c3:=Qgh k.pl (by omega) n
 (unfold Tryz.f158; refine rn trivial ?_)
 cases v
 ·skip
  refine rn F ?_
  repeat' (first
   | with_reducible exact⟨⟩
   | refine vp F (c1) ?_)
  all_goals exact⟨rfl,rfl,_,rfl,(e0 (by simp)).symm⟩
 obtain⟨v1,v2,v3,v4,v5,v6,v7⟩:=hvk rfl
 by_cases hn:0<=n/\n<k.pg
 rotate_left
 ·skip
  refine rn F ?_
  repeat' (first
   | with_reducible exact⟨⟩
   | (refine sG F ?_ ?_<;>intro hZ)
   | refine vp F (c1) ?_)
  all_goals first
   | exact⟨rfl,rfl,_,rfl,(e0 (fun h=>hn h.2)).symm⟩
   | (exfalso; omega)
 have hR:=e1 ⟨rfl,hn⟩
 unfold QvV at hR
 have hg:=QkH k.ix n.toNat (by omega)
 have hfs:Qbe k.pl n=idF k.pl.fs n:=by unfold Qbe; rw[if_pos v4]
 unfold Qep at c3
 rw[hfs] at c3
 by_cases hi:0<=idF k.pl.fs n
 ·rw [if_neg (by omega)] at c3
  rw[if_pos hi] at hR
  refine rn F ?_
  repeat' (first
   | with_reducible exact⟨⟩
   | refine vp F (c1) ?_
   | refine vp F (c3) ?_)
  all_goals first
   | exact⟨rfl,rfl,_,rfl,hR.symm⟩
   | (exfalso; omega)
 rw[if_pos (by omega)] at c3
 rw[if_neg hi] at hR
 have F:=@hg
 refine rn F ?_
 repeat' (first
  | with_reducible exact⟨⟩
  | (refine sB F ?_ ?_<;>intro hZ)
  | refine vp F (c1) ?_
  | refine vp F (c3) ?_
  | (refine Ql (c2) rfl ?_; rintro⟨a,b2⟩ hl; refine rn F ?_))
 all_goals first
  | (exfalso; omega)
  | (rw[<- hl,if_pos (by first | assumption | simp_all)] at hR; exact⟨rfl,rfl,_,rfl,hR.symm⟩)
  | (rw[<- hl,if_neg (by first | assumption | simp_all)] at hR; exact⟨rfl,rfl,_,rfl,hR.symm⟩)
  | skip
def Qd9(k:Kn)(h:k.sm)(n:Int):VCalls prog 142 [.agg k.d,.int .i64 n] [] (Qz (fun d:Int=>.agg (Kn.d ⟨k.pg,k.nx,⟨k.lg.f,k.lg.es,d⟩,k.pl,k.lk,k.tx,k.ix,k.la⟩)) fun d=>lgB k.lg=true->lgB ⟨k.lg.f,k.lg.es,d⟩=true):=by
 refine dd Tryz.func142 ?_
 obtain⟨h1,h2,h3,h4,h5,h6⟩:=h
 have c1:=Qd8 k.lg (by omega)
 have c2:=QfB k.lg (by omega)
 have e:∀ n,(QG k.lg n).2=0->(QG k.lg n).1=⟨k.lg.f,k.lg.es,(QG k.lg n).1.d⟩/\lgB (QG k.lg n).1=true:=fun n h=>by
  unfold QG at h |-
  split at h
  ·simp at h
  rename_i q1
  split at h
  ·simp at h
  rename_i q2
  rw[if_neg q1,if_neg q2]
  refine⟨rfl,?_⟩
  have hv:lgB k.lg=true:=by simpa using q1
  have hd:=Qan hv
  unfold lgB at hv |-
  simp only[Jh,decide_eq_true_eq] at hv |-
  refine⟨?_,hv.2⟩
  simp only[Lg.hd,Lg.end_] at hd q2 |-
  split<;>omega
 (unfold Tryz.f142; refine rn trivial ?_)
 refine rn F ?_
 repeat' (first
  | with_reducible exact⟨⟩
  | (refine sB F ?_ ?_<;>intro hZ)
  | refine vp F (c1) ?_
  | refine vp F (c2 _) ?_
  | (refine Qc (id:=1) [0,1,2,3,4] [⟨[11],[],5,[0,1,2,3],[6]⟩,⟨[11],[],7,[0,2,3,4],[8,9,10]⟩,⟨[11],[11],12,[10],[]⟩,⟨[],[],13,[],[]⟩] (by kernel_rfl) (by kernel_rfl) ?_; refine rn F ?_))
 ·obtain ⟨e1,e2⟩:=e _ (by assumption)
  generalize QG k.lg _=r at *
  obtain⟨⟨f',es',d'⟩,er⟩:=r
  simp only[Lg.mk.injEq] at e1
  obtain⟨rfl,rfl,_⟩:=e1
  exact⟨rfl,rfl,d',rfl,fun _=>e2⟩
 ·exact⟨rfl,rfl,k.lg.d,rfl,fun h=>h⟩
@[go_sem] def kie(a:Kn×Int×Int):DV:=.tup [.agg a.1.d,.int .i64 a.2.1,.int .i64 a.2.2]
def Qxf(k:Kn)(a:Kn×Int×Int):Prop:=a.1.sm/\(a.2.2=0->kB k=true/\(Q9 k.tx k.nx).2=0/\a.1=⟨k.pg,k.nx+1,k.lg,k.pl,k.lk,(Q9 k.tx k.nx).1,k.ix,k.la⟩)
def Qrc(k:Kn)(h:k.sm):VCalls prog 123 [.agg k.d] [] (Qz kie (Qxf k)):=by
 refine dk Tryz.func123 ?_
 have c1:=QbE k h
 have h':=h
 obtain⟨h1,h2,h3,h4,h5,h6⟩:=h
 have c2:=QmY k.tx (h4.smL (by omega)) k.nx
 have hsm:=QkX (l:=k.tx) k.nx
 have e0:∀ er n,er≠0->Qxf k (Kn0,n,er):=fun er n h=>⟨QbQ,fun h2=>absurd h2 h⟩
 (unfold Tryz.f123; refine rn trivial ?_)
 cases hv:kB k
 ·rw [hv] at c1
  refine rn F ?_
  repeat' (first
   | with_reducible exact⟨⟩
   | refine vp F (c1) ?_)
  all_goals exact⟨rfl,rfl,(Kn0,0,15),rfl,e0 _ _ (by decide)⟩
 rw[hv] at c1
 obtain⟨v1,v2,v3,v4,v5,v6,v7⟩:=QiY hv
 refine rn F ?_
 repeat' (first
  | with_reducible exact⟨⟩
  | (refine sB F ?_ ?_<;>intro hZ)
  | refine vp F (c1) ?_
  | refine vp F (c2) ?_
  | (refine Qc (id:=10) [0,1,2,3] [⟨[],[],4,[1,2,3],[]⟩,⟨[],[],5,[],[]⟩,⟨[],[],6,[],[]⟩] (by kernel_rfl) (by kernel_rfl) ?_; refine rn F ?_))
 all_goals first
  | exact⟨rfl,rfl,(Kn0,0,21),rfl,e0 _ _ (by decide)⟩
  | exact⟨rfl,rfl,(Kn0,0,(Q9 k.tx k.nx).2),rfl,e0 _ _ (by assumption)⟩
  | exact⟨rfl,rfl,(⟨k.pg,k.nx+1,k.lg,k.pl,k.lk,(Q9 k.tx k.nx).1,k.ix,k.la⟩,k.nx+1-1,0),rfl,⟨h1,h2,h3,hsm,h5,h6⟩,fun _=>⟨hv,by omega,rfl⟩⟩
  | skip
def Kn.add(k:Kn)(e:E):Kn:=⟨k.pg,k.nx,⟨k.lg.f,k.lg.es++[e],k.lg.d⟩,k.pl,k.lk,(QT k.tx e).1,(Qbi k.ix e).1,k.la⟩
def QCA(e e':E):Prop:=e'.kind=e.kind/\e'.tx=e.tx/\e'.ref=e.ref/\e'.c=e.c/\e'.blob=e.blob
def AddOk(k:Kn)(e e':E):Prop:=kB k=true/\QCA e e'/\e'.okB=true/\e'.lsn=k.lg.end_+1/\k.lg.es.length<4096/\(QT k.tx e').2=0/\(Qbi k.ix e').2=0/\(e.tx=0->e'.ptx=0)/\(0<e.tx->∃ i,i<k.tx.length/\idT k.tx e.tx=i/\e'.ptx=(k.tx.getD i Tx0).n)/\((e.kind=1\/e.kind=2)->e'.ppg=QeW k e.c.pg)/\(¬ (e.kind=1\/e.kind=2)->e'.ppg=0)
def QtS(k:Kn)(e:E)(a:Kn×Int×Int):Prop:=a.1.sm/\(a.2.2=0->∃ e',AddOk k e e'/\a.1=k.add e'/\a.2.1=e'.lsn/\lgB a.1.lg=true)
def QAv(k:Kn)(e:E)(n er:Int)(h:er≠0):QtS k e (Kn0,n,er):=⟨QbQ,fun h2=>absurd h2 h⟩
def Qjc(hs:k.sm)(hv:kB k=true)(h:(QdU k.lg e1).2.2=0)(hn:(QT k.tx (Qbj (QdU k.lg e1).1 (QdU k.lg e1).2.1).1).2=0)(hr:(Qbi k.ix (Qbj (QdU k.lg e1).1 (QdU k.lg e1).2.1).1).2=0)(hse:QCA e e1)(h0:e.tx=0->e1.ptx=0)(hi:0<e.tx->∃ i,i<k.tx.length/\idT k.tx e.tx=i/\e1.ptx=(k.tx.getD i Tx0).n)(hp1:(e.kind=1\/e.kind=2)->e1.ppg=QeW k e.c.pg)(hp2:¬ (e.kind=1\/e.kind=2)->e1.ppg=0):
 QtS k e (⟨k.pg,k.nx,(QdU k.lg e1).1,k.pl,k.lk,(QT k.tx (Qbj (QdU k.lg e1).1 (QdU k.lg e1).2.1).1).1,(Qbi k.ix (Qbj (QdU k.lg e1).1 (QdU k.lg e1).2.1).1).1,k.la⟩,(QdU k.lg e1).2.1,0):=by
 have hg:=QwA h
 have hl:=QfR h
 obtain⟨q1,q2,q3,q4⟩:=Qmp h
 have hlen:=QnB k.lg e1
 obtain⟨s1,s2,s3,s4,s5,s6⟩:=hs
 rw[hg] at hn hr |-
 rw[q4] at hl hlen |-
 exact⟨⟨hlen,s2,s3,QrY _ _,Qkm _ _ s5,s6⟩,fun _=>⟨{ e1 with lsn:=k.lg.end_+1 },⟨hv,hse,q3,rfl,q2,hn,hr,h0,hi,hp1,hp2⟩,rfl,rfl,hl⟩⟩
def QdK (k:Kn) (h:k.sm) (e:E):VCalls prog 150 [.agg k.d,.agg e.d] [] (Qz kie (QtS k e)):=by
 refine dk Tryz.func150 ?_
 have c1:=QbE k h
 have ch:=QlK k h e.c.pg
 have h':=h
 obtain⟨h1,h2,h3,h4,h5,h6⟩:=h
 have c2:=QbX k.tx (Jc h4.1 (by decide)) e.tx
 have hq:=QAv k e
 obtain⟨lsn,kind,tx,ptx,ppg,ref,c,blob⟩:=e
 dsimp only at c2 ch
 have c3:=fun p=>Qb9 ⟨lsn,kind,tx,p,0,ref,c,blob⟩
 have c4:=fun e=>Qj3 k.lg (by omega) e
 have c5:=fun e=>QhK (QdU k.lg e).1 (by have:=QnB k.lg e; omega) (QdU k.lg e).2.1
 have c6:=fun e=>QlI k.tx (h4.smL (by omega)) e
 have c7:=fun e=>QjZ k.ix (by omega) e
 dsimp only at c3
 obtain⟨ch0,hch0⟩:∃ b:Bool,(kind==1||kind==2)=b:=⟨_,rfl⟩
 rw[hch0] at c3
 have hk1:ch0=true->(kind=1\/kind=2):=fun h=>by rw[h] at hch0; simpa using hch0
 have hk2:ch0=false->¬ (kind=1\/kind=2):=fun h=>by rw[h] at hch0; simpa using hch0
 clear hch0
 (unfold Tryz.f150; refine rn trivial ?_)
 cases hv:kB k
 ·rw [hv] at c1
  refine rn F ?_
  repeat' (first
   | with_reducible exact⟨⟩
   | refine vp F (c1) ?_)
  all_goals exact⟨rfl,rfl,(Kn0,0,15),rfl,hq _ _ (by decide)⟩
 rw[hv] at c1
 by_cases ht:0<tx
 ·rcases QB k.tx tx with hi | ⟨i,hi,hid,_⟩
  ·rw [hi] at c2
   have F:=@ht
   refine rn F ?_
   repeat' (first
    | with_reducible exact⟨⟩
    | refine vp F (c1) ?_
    | refine vp F (c2) ?_)
   all_goals exact⟨rfl,rfl,(Kn0,0,16),rfl,hq _ _ (by decide)⟩
  ·rw [hid] at c2
   have hg:=QdO k.tx i hi
   cases ch0
   ·skip
    have F:=(Ja @ht @hg)
    refine rn F ?_
    repeat' (first
     | with_reducible exact⟨⟩
     | (refine sB F ?_ ?_<;>intro hZ)
     | refine vp F (c1) ?_
     | refine vp F (c2) ?_
     | refine vp F (c3 _) ?_
     | refine vp F (c4 ⟨_,_,_,_,_,_,⟨_,_,⟨_,_⟩,⟨_,_⟩⟩,_⟩) ?_
     | refine vp F (c5 _) ?_
     | refine vp F (c6 _) ?_
     | refine vp F (c7 _) ?_
     | (refine Qc (id:=21) [0,1,2,3] [⟨[],[],4,[1,2],[5]⟩,⟨[],[],6,[2],[7]⟩,⟨[],[],8,[],[]⟩] (by kernel_rfl) (by kernel_rfl) ?_; refine rn F ?_))
    all_goals first
     | exact⟨rfl,rfl,(Kn0,0,_),rfl,hq _ _ (by assumption)⟩
     | (have q:=Qjc (e:=⟨lsn,kind,tx,ptx,ppg,ref,c,blob⟩) (e1:=⟨lsn,kind,tx,(k.tx.getD i Tx0).n,0,ref,c,blob⟩) h' hv (by omega) (by omega) (by omega) ⟨rfl,rfl,rfl,rfl,rfl⟩ (fun h=>by dsimp only at h; omega) (fun _=>⟨i,hi,hid,rfl⟩) (fun h=>absurd h (hk2 rfl)) (fun _=>rfl)
        exact⟨rfl,rfl,_,rfl,q⟩)
     | skip
   ·skip
    have F:=(Ja @ht @hg)
    refine rn F ?_
    repeat' (first
     | with_reducible exact⟨⟩
     | (refine sB F ?_ ?_<;>intro hZ)
     | refine vp F (c1) ?_
     | refine vp F (c2) ?_
     | refine vp F (c3 _) ?_
     | (refine Ql (ch) rfl ?_; rintro hd hhd; refine rn F ?_)
     | refine vp F (c4 ⟨_,_,_,_,_,_,⟨_,_,⟨_,_⟩,⟨_,_⟩⟩,_⟩) ?_
     | refine vp F (c5 _) ?_
     | refine vp F (c6 _) ?_
     | refine vp F (c7 _) ?_
     | (refine Qc (id:=21) [0,1,2,3] [⟨[],[],4,[1,2],[5]⟩,⟨[],[],6,[2],[7]⟩,⟨[],[],8,[],[]⟩] (by kernel_rfl) (by kernel_rfl) ?_; refine rn F ?_))
    all_goals first
     | exact⟨rfl,rfl,(Kn0,0,_),rfl,hq _ _ (by assumption)⟩
     | (have q:=Qjc (e:=⟨lsn,kind,tx,ptx,ppg,ref,c,blob⟩) (e1:=⟨lsn,kind,tx,(k.tx.getD i Tx0).n,hd,ref,c,blob⟩) h' hv (by omega) (by omega) (by omega) ⟨rfl,rfl,rfl,rfl,rfl⟩ (fun h=>by dsimp only at h; omega) (fun _=>⟨i,hi,hid,rfl⟩) (fun _=>hhd) (fun h=>absurd (hk1 rfl) h)
        exact⟨rfl,rfl,_,rfl,q⟩)
     | skip
 ·cases ch0
  ·skip
   have F:=@ht
   refine rn F ?_
   repeat' (first
    | with_reducible exact⟨⟩
    | (refine sB F ?_ ?_<;>intro hZ)
    | refine vp F (c1) ?_
    | refine vp F (c3 _) ?_
    | refine vp F (c4 ⟨_,_,_,_,_,_,⟨_,_,⟨_,_⟩,⟨_,_⟩⟩,_⟩) ?_
    | refine vp F (c5 _) ?_
    | refine vp F (c6 _) ?_
    | refine vp F (c7 _) ?_
    | (refine Qc (id:=21) [0,1,2,3] [⟨[],[],4,[1,2],[5]⟩,⟨[],[],6,[2],[7]⟩,⟨[],[],8,[],[]⟩] (by kernel_rfl) (by kernel_rfl) ?_; refine rn F ?_))
   all_goals first
    | exact⟨rfl,rfl,(Kn0,0,_),rfl,hq _ _ (by assumption)⟩
    | (have q:=Qjc (e:=⟨lsn,kind,tx,ptx,ppg,ref,c,blob⟩) (e1:=⟨lsn,kind,tx,0,0,ref,c,blob⟩) h' hv (by omega) (by omega) (by omega) ⟨rfl,rfl,rfl,rfl,rfl⟩ (fun _=>rfl) (fun h=>absurd h ht) (fun h=>absurd h (hk2 rfl)) (fun _=>rfl)
       exact⟨rfl,rfl,_,rfl,q⟩)
    | skip
  ·skip
   have F:=@ht
   refine rn F ?_
   repeat' (first
    | with_reducible exact⟨⟩
    | (refine sB F ?_ ?_<;>intro hZ)
    | refine vp F (c1) ?_
    | refine vp F (c3 _) ?_
    | (refine Ql (ch) rfl ?_; rintro hd hhd; refine rn F ?_)
    | refine vp F (c4 ⟨_,_,_,_,_,_,⟨_,_,⟨_,_⟩,⟨_,_⟩⟩,_⟩) ?_
    | refine vp F (c5 _) ?_
    | refine vp F (c6 _) ?_
    | refine vp F (c7 _) ?_
    | (refine Qc (id:=21) [0,1,2,3] [⟨[],[],4,[1,2],[5]⟩,⟨[],[],6,[2],[7]⟩,⟨[],[],8,[],[]⟩] (by kernel_rfl) (by kernel_rfl) ?_; refine rn F ?_))
   all_goals first
    | exact⟨rfl,rfl,(Kn0,0,_),rfl,hq _ _ (by assumption)⟩
    | (have q:=Qjc (e:=⟨lsn,kind,tx,ptx,ppg,ref,c,blob⟩) (e1:=⟨lsn,kind,tx,0,hd,ref,c,blob⟩) h' hv (by omega) (by omega) (by omega) ⟨rfl,rfl,rfl,rfl,rfl⟩ (fun _=>rfl) (fun h=>absurd h ht) (fun _=>hhd) (fun h=>absurd (hk1 rfl) h)
       exact⟨rfl,rfl,_,rfl,q⟩)
    | skip
structure Cp where
 pg:Int
 nx:Int
 tx:List Tx
 dl:List Dt
 ix:List Rw
def Qjf(s:List UInt8)(l:List Int):List UInt8:=l.foldl (fun s n=>Qj s n 8) s
def Qeu(s:List UInt8)(t:Tx):List UInt8:=Qjf (Qj (Qjf (Qj (Qj (Qj (Qj (Qj s t.id 4) t.st 1) t.n 8) t.b 8) t.l.length 2) t.l) t.s.length 1) t.s
def Qet(s:List UInt8)(l:List Tx):List UInt8:=l.foldl Qeu s
def QaK(l:List Tx):List UInt8:=Qet (Qj [] l.length 2) l
def Qi4(s:List UInt8)(r:Rw):List UInt8:=Qj (Qj (Qj s r.lsn 8) r.im 8) r.at_ 8
def QdS(s:List UInt8)(l:List Rw):List UInt8:=l.foldl Qi4 s
def Qck(l:List Rw):List UInt8:=QdS (Qj [] l.length 2) l
def Qi5(s:List UInt8)(d:Dt):List UInt8:=Qj (Qj (Qj s d.pg 1) d.rc 8) d.last 8
def Qc6(s:List UInt8)(l:List Dt):List UInt8:=l.foldl Qi5 s
def QDC(c:Cp):List UInt8:=Qj (Qj (Qj (Qj [] c.pg 2) c.nx 4) (QaK c.tx).length 4++QaK c.tx) c.dl.length 1
def QaC(c:Cp):List UInt8:=Qc6 (QDC c) c.dl++Qck c.ix
def CkV(c:Cp):Prop:=(1<=c.pg/\c.pg<=64)/\(1<=c.nx/\c.nx<=1073741825)/\Qbm c.tx=true/\laB c.dl c.pg=true/\ixB c.ix=true/\(c.ix.length:Int)=c.pg
structure CkOf(k:Kn)(c:Cp):Prop where
 pg:c.pg=k.pg
 nx:c.nx=k.nx
 tx:c.tx=k.tx
 ix:c.ix=k.ix
 dl:∀ d∈c.dl,(∃ e∈k.la,e.pg=d.pg/\e.last=d.last)\/∃ f∈k.pl.fs,f.dirty=true/\f.pg.id=d.pg/\f.pg.lsn=d.last
 la:∀ e∈k.la,∃ d∈c.dl,d.pg=e.pg
 fs:∀ f∈k.pl.fs,f.dirty=true->∃ d∈c.dl,d.pg=f.pg.id
def CkP(k:Kn)(s:List UInt8):Prop:=s=[]\/∃ c,CkOf k c/\CkV c/\s=QaC c
def Qa2(l:List Tx)(a:Int):Tx:=l.getD (idT l a).toNat Tx0
def Qic(k:Kn)(t:Tx)(y:E):Prop:=∃ i,i<t.l.length/\(Qbj k.lg (t.l.getD i 0)).2=0/\y=(Qbj k.lg (t.l.getD i 0)).1/\∀ j,i<j->j<t.l.length->(Qbj k.lg (t.l.getD j 0)).2=0->¬ ((Qbj k.lg (t.l.getD j 0)).1.c.pg=y.c.pg/\(Qbj k.lg (t.l.getD j 0)).1.c.sl=y.c.sl)
def QCD(k:Kn)(e:E):Prop:=0<=idT k.tx e.tx/\((e.kind=3\/e.kind=4)->(Qa2 k.tx e.tx).st≠3)/\(e.kind=5->(Qa2 k.tx e.tx).st=3/\(Qa2 k.tx e.tx).l=[])
def QdI(p:Pl)(e:E):Pg:=⟨((Qep p e.c.pg).1.setc e.c.sl.toNat e.c.a).id,e.lsn,((Qep p e.c.pg).1.setc e.c.sl.toNat e.c.a).cel⟩
def QDT(k:Kn)(e:E):Prop:=0<=idT k.tx e.tx/\(e.kind=1->(Qa2 k.tx e.tx).st=1)/\(e.kind=2->(Qa2 k.tx e.tx).st≠1/\∃ y,Qic k (Qa2 k.tx e.tx) y/\e.ref=y.lsn/\e.c=⟨y.c.pg,y.c.sl,y.c.a,y.c.b⟩)/\(Qep k.pl e.c.pg).2=true/\(Qep k.pl e.c.pg).1.cel e.c.sl.toNat=e.c.b
def Kn.set(k:Kn)(e:E):Kn:=⟨k.pg,k.nx,(k.add e).lg,(Qjd k.pl (QdI k.pl e)).1,k.lk,(k.add e).tx,(k.add e).ix,k.la⟩
def Kn.wrt(k:Kn)(e:E):Kn:=⟨k.pg,k.nx,(k.add e).lg,(QaH k.pl e.c.pg e.ref).1,k.lk,(k.add e).tx,(k.add e).ix,k.la⟩
def QEf(k:Kn)(e:E):Prop:=∃ i:Nat,i<k.pl.fs.length/\idF k.pl.fs e.c.pg=i/\(k.pl.fs.getD i Fm0).pg.lsn=e.ref/\(QaH k.pl e.c.pg e.ref).2=0/\(k.pl.fs.getD i Fm0).dirty=true
inductive Stp:Nat->Kn->Kn->Prop
 | begin {k:Kn}:kB k=true->(Q9 k.tx k.nx).2=0->Stp 1 k ⟨k.pg,k.nx+1,k.lg,k.pl,k.lk,(Q9 k.tx k.nx).1,k.ix,k.la⟩
 | fin {k:Kn} {e e':E}:AddOk k e e'->(e.kind=3\/e.kind=4\/e.kind=5)->QCD k e->Stp 0 k (k.add e')
 | ckpt {k:Kn} {e e':E}:AddOk k e e'->e.kind=6->CkP k e.blob->Stp 1 k (k.add e')
 | change {k:Kn} {e e':E}:AddOk k e e'->e.kind=1->QDT k e->(Qjd k.pl (QdI k.pl e')).2=0->Stp 1 k (k.set e')
 | undo {k:Kn} {e e':E}:AddOk k e e'->e.kind=2->QDT k e->(Qjd k.pl (QdI k.pl e')).2=0->Stp 0 k (k.set e')
 | wrt {k:Kn} {e e':E}:AddOk k e e'->e.kind=7->QEf k e->Stp 0 k (k.wrt e')
 | lock {k:Kn} (u:Lk):Stp 0 k ⟨k.pg,k.nx,k.lg,k.pl,u,k.tx,k.ix,k.la⟩
 | save {k:Kn} (a:Int):(Qha k.tx a).2=0->Stp 0 k ⟨k.pg,k.nx,k.lg,k.pl,k.lk,(Qha k.tx a).1,k.ix,k.la⟩
 | back {k:Kn} (a b:Int):(Qhp k.tx a b).2=0->Stp 0 k ⟨k.pg,k.nx,k.lg,k.pl,k.lk,(Qhp k.tx a b).1,k.ix,k.la⟩
 | rem {k:Kn} (a:Int):0<=idT k.tx a->(Qa2 k.tx a).n=0->Stp 0 k ⟨k.pg,k.nx,k.lg,k.pl,k.lk,Qje k.tx a,k.ix,k.la⟩
 | pool {k:Kn} (p:Pl):SameF k.pl.fs p.fs->Stp 0 k ⟨k.pg,k.nx,k.lg,p,k.lk,k.tx,k.ix,k.la⟩
 | drop {k:Kn} (a:Int):(Qdz k.pl a).2=0->Stp 0 k ⟨k.pg,k.nx,k.lg,(Qdz k.pl a).1,k.lk,k.tx,k.ix,k.la⟩
 | put {k:Kn} (x:Pg):kB k=true->0<=x.id/\x.id<k.pg->x.lsn=QeW k x.id->(Qm3 k.pl x).2=0->(QaB k.la x.id).2=false->Stp 0 k ⟨k.pg,k.nx,k.lg,⟨k.pl.size,k.pl.fs++[⟨x,false,0,true⟩],k.pl.hand⟩,k.lk,k.tx,k.ix,k.la⟩
 | putl {k:Kn} (x:Pg):kB k=true->0<=x.id/\x.id<k.pg->x.lsn=QeW k x.id->(Qm3 k.pl x).2=0->(QaB k.la x.id).2=true->Stp 0 k ⟨k.pg,k.nx,k.lg,⟨k.pl.size,k.pl.fs++[⟨x,true,(QaB k.la x.id).1.rc,true⟩],k.pl.hand⟩,k.lk,k.tx,k.ix,k.la.filter fun d=>decide (d.pg≠x.id)⟩
 | force {k:Kn} (d:Int):(lgB k.lg=true->lgB ⟨k.lg.f,k.lg.es,d⟩=true)->Stp 0 k ⟨k.pg,k.nx,⟨k.lg.f,k.lg.es,d⟩,k.pl,k.lk,k.tx,k.ix,k.la⟩
inductive Str:Nat->Kn->Kn->Prop
 | refl {n:Nat} (k:Kn):Str n k k
 | step {n m:Nat} {k k1 k2:Kn}:Str n k k1->Stp m k1 k2->Str (n+m) k k2
def Str.one(h:Stp m k k'):Str m k k':=by
 have:=Str.step (Str.refl (n:=0) k) h
 rwa [JT] at this
def Str.mono (h:Str n k k') (hm:n<=m):Str m k k':=by
 induction h generalizing m with
 | refl k=>exact .refl k
 | @step n p k k1 k2 h1 h2 ih =>
   have:=ih (m:=m-p) (by omega)
   have:=Str.step this h2
   rwa [Nat.sub_add_cancel (by omega)] at this
def Str.trans(h:Str n a b)(g:Str m b c):Str (n+m) a c:=by
 induction g with
 | refl k=>exact h.mono (by omega)
 | step h1 h2 ih=>rw[<- Nat.add_assoc]; exact(ih h).step h2
def Str.tr0(h:Str 0 a b)(g:Str n b c):Str n a c:=by have:=h.trans g; rwa [JT] at this
def Str.tr(h:Str n a b)(g:Str 0 b c):Str n a c:=h.trans g
structure Ev(x y:Lg):Prop where
 f:y.f=x.f
 pre:x.es <+: y.es
 ok:lgB x=true->lgB y=true
def Ev.refl(x:Lg):Ev x x:=⟨rfl,JP,fun h=>h⟩
def Ev.trans(a:Ev x y)(b:Ev y z):Ev x z:=⟨b.f.trans a.f,a.pre.trans b.pre,fun h=>b.ok (a.ok h)⟩
def Ev.len(a:Ev x y):x.es.length<=y.es.length:=a.pre.length_le
def AddOk.lgB{k:Kn}{e e':E}(h:AddOk k e e'):lgB (k.add e').lg=true:=by
 obtain⟨v,s,ho,hl,hn,_⟩:=h
 have hv:=(QiY v).2.2.1
 exact Qne (f:=k.lg.f) (d:=k.lg.d) hv hn (by rw[hl]; unfold Lg.end_; omega) ho
def AddOk.ev(h:AddOk k e e'):Ev k.lg (k.add e').lg:=⟨rfl,List.prefix_append _ _,fun _=>h.lgB⟩
def Stp.ev(h:Stp n k k'):Ev k.lg k'.lg:=by
 cases h with
 | fin h _ _=>exact h.ev
 | ckpt h _ _=>exact h.ev
 | change h _ _ _=>exact h.ev
 | undo h _ _ _=>exact h.ev
 | wrt h _ _=>exact h.ev
 | force d h=>exact⟨rfl,JP,h⟩
 | _=>exact Ev.refl _
def Str.ev(h:Str n k k'):Ev k.lg k'.lg:=by
 induction h with
 | refl k=>exact Ev.refl _
 | step _ h2 ih=>exact ih.trans h2.ev
structure Rs where
 st:Int
 tx:Int
 pg:Int
 cell:Ce
 er:Int
@[go_sem] def Rs.d(r:Rs):List DV:=[.int .i64 r.st,.int .i64 r.tx,.int .i64 r.pg,.bool r.cell.set,.pv (.str r.cell.data),.int .i64 r.er]
def Qau(e:Int):Rs:=⟨5,0,0,Ce0,e⟩
@[go_sem] def krD(a:Kn×Rs):DV:=.tup [.agg a.1.d,.agg a.2.d]
def QtJ(hq:QtS k e (k1,n1,e1))(h:e1=0):Ev k.lg k1.lg/\lgB k1.lg=true/\k1.lg.es.length=k.lg.es.length+1/\k1.pg=k.pg/\k1.pl=k.pl/\k1.lk=k.lk/\k1.la=k.la:=by
 obtain⟨e',ha,hk,_,hl⟩:=hq.2 h
 dsimp only at hk hl
 subst hk
 exact⟨ha.ev,hl,by simp[Kn.add],rfl,rfl,rfl,rfl⟩
def QfS(hq:QtS k e (k1,n1,e1))(h:e1=0)(hk:e.kind=3\/e.kind=4\/e.kind=5)(hf:QCD k e):Str 0 k k1:=by
 obtain⟨e',ha,hk1,_,hl⟩:=hq.2 h
 dsimp only at hk1
 subst hk1
 exact .one (.fin ha hk hf)
def QdG{a:Int}{i:Nat}(h:idT l a=i):Qa2 l a=l.getD i Tx0:=by unfold Qa2; rw[h]; rfl
def Qad(e:Int):VCalls prog 118 [.int .i64 e] [] (Ret (.agg (Qau e).d)):=by
 refine dd Tryz.func118 ?_
 (unfold Tryz.f118; refine rn trivial ?_)
 rfl
def Qoh(k:Kn)(h:k.sm)(tx pg sl:Int)(hi:0<=idT k.tx tx):VCalls prog 261 [.agg k.d,.int .i64 tx,.agg [.int .i64 pg,.int .i64 sl]] [] (Qz boD fun _=>True):=by
 refine dd Tryz.func261 ?_
 obtain⟨h1,h2,h3,h4,h5,h6⟩:=h
 have c2:=QbX k.tx (Jc h4.1 (by decide)) tx
 have c5:=fun n=>QhK k.lg (by omega) n
 rcases QB k.tx tx with hn | ⟨i,hil,hid,_⟩
 ·omega
 rw[hid] at c2
 have hg:=QdO k.tx i hil
 have ht:(k.tx.getD i Tx0).l.length<=100000:=by rw[Qd _ _ hil]; exact(h4.2 _ (Ju hil)).1
 (unfold Tryz.f261; refine rn trivial ?_)
 have F:=@hg
 refine rn F ?_
 repeat' (first
  | with_reducible exact⟨⟩
  | refine vp F (c2) ?_
  | (refine Qc (id:=1) [0,1,2,3,4] [⟨[8],[],5,[0,1,2],[6,7]⟩,⟨[8],[8],9,[],[]⟩] (by kernel_rfl) (by kernel_rfl) ?_; refine rn F ?_))
 generalize k.tx.getD i Tx0=t at *
 refine Qg (fun s:To t.l.length=>⟨55,0,[(8,.int .i64 s.i),(7,.ptr 2 0),(5,.ptr 1 0),(3,.ptr 0 0)],[⟨62,true,k.d⟩,⟨225,true,[.int .i64 pg,.int .i64 sl]⟩,⟨71,true,t.d⟩]⟩) (fun s=>t.l.length-s.i) ⟨0,Jf _⟩ (gc [0,1,2]) ?_
 rintro⟨j,hj⟩
 dsimp only
 have hx:=fun h:j<t.l.length=>Q0 t.l j h
 have F:=@hx
 refine rn F ?_
 repeat' (first
  | with_reducible exact⟨⟩
  | (refine sG F ?_ ?_<;>intro hZ)
  | (refine sB F ?_ ?_<;>intro hZ)
  | refine vp F (c5 _) ?_
  | (refine Qc (id:=5) [0,1,2,3,4,5,6] [⟨[11],[],7,[0,2,3,4,5],[8,9,10]⟩,⟨[11],[11],12,[10],[]⟩,⟨[],[],13,[],[]⟩] (by kernel_rfl) (by kernel_rfl) ?_; refine rn F ?_))
 all_goals first
  | exact⟨rfl,rfl,true,rfl,trivial⟩
  | exact⟨rfl,rfl,false,rfl,trivial⟩
  | exact⟨⟨j+1,by omega⟩,by dsimp only; omega,(gc [0,1,2])⟩
  | skip
def Qz7(k:Kn)(a:Kn×Rs):Prop:=a.1.sm/\(a.2.st=1\/a.2.st=5)/\(a.2.st≠5->Str 0 k a.1)
def Qrt(k:Kn)(h:k.sm)(tx:Int)(hi:0<=idT k.tx tx)(hst:(Qa2 k.tx tx).st≠3):VCalls prog 216 [.agg k.d,.int .i64 tx] [] (Qz krD (Qz7 k)):=by
 refine dk Tryz.func216 ?_
 have h':=h
 obtain⟨h1,h2,h3,h4,h5,h6⟩:=h
 have c2:=QbX k.tx (Jc h4.1 (by decide)) tx
 have c3:=Qgg k.tx (Jc h4.1 (by decide)) tx
 have c4:=QdK k h' ⟨0,3,tx,0,0,0,Ch0,[]⟩
 rcases QB k.tx tx with hn | ⟨i,hil,hid,_⟩
 ·omega
 rw[hid] at c2
 have hg:=QdO k.tx i hil
 (unfold Tryz.f216; refine rn trivial ?_)
 have F:=@hg
 refine rn F ?_
 repeat' (first
  | with_reducible exact⟨⟩
  | (refine sB F ?_ ?_<;>intro hZ)
  | refine vp F (c2) ?_
  | refine vp F (c3) ?_
  | (refine Ql (c4) rfl ?_; rintro⟨k1,n1,e1⟩ hq; refine rn F ?_)
  | refine vp F (Qad _) ?_
  | (refine Ql (Qd9 k1 hq.1 _) rfl ?_; rintro d hd; refine rn F ?_)
  | (refine Ql (Qdl k.lk (by omega) tx) rfl ?_; rintro u hu; refine rn F ?_)
  | (refine Ql (Qdl k1.lk (Jc hq.1.2.2.1 (by decide)) tx) rfl ?_; rintro u hu; refine rn F ?_)
  | (refine Qc (id:=2) [0,1,2,3,4] [⟨[],[],5,[0,1,2],[6,7,8,9]⟩] (by kernel_rfl) (by kernel_rfl) ?_; refine rn F ?_)
  | (refine Qc (id:=6) [0,1] [⟨[],[],2,[0],[]⟩,⟨[],[],3,[1],[]⟩,⟨[],[],4,[],[]⟩] (by kernel_rfl) (by kernel_rfl) ?_; refine rn F ?_))
 ·exact⟨rfl,rfl,(⟨k.pg,k.nx,k.lg,k.pl,u,Qje k.tx tx,k.ix,k.la⟩,⟨1,0,0,Ce0,0⟩),rfl,⟨h1,h2,Jc hu h3,h4.rem _,h5,h6⟩,.inl rfl,fun _=>(Str.one (.rem tx hi (by rw[QdG hid]; omega))).step (.lock u)⟩
 ·exact⟨rfl,rfl,(k,Qau e1),rfl,h',.inr rfl,fun h=>absurd rfl h⟩
 ·have q:=QfS hq (by omega) (.inl rfl) ⟨hi,fun _=>hst,fun h=>by simp at h⟩
  obtain⟨r1,r2,r3,r4,r5,r6⟩:=hq.1
  exact⟨rfl,rfl,(⟨k1.pg,k1.nx,⟨k1.lg.f,k1.lg.es,d⟩,k1.pl,u,k1.tx,k1.ix,k1.la⟩,⟨1,0,0,Ce0,0⟩),rfl,⟨r1,r2,Jc hu r3,r4,r5,r6⟩,.inl rfl,fun _=>(q.step (.force d hd)).step (.lock u)⟩
def QiZ:0<=idT l a ↔ a∈l.map (·.id):=by
 unfold idT Qk9
 constructor
 ·intro h
  split at h
  ·rename_i hx
   obtain⟨t,ht,he⟩:=JE.1 hx
   exact JU.2 ⟨t,ht,by simpa using he⟩
  ·omega
 ·intro h
  obtain⟨t,ht,he⟩:=JU.1 h
  rw[if_pos (JE.2 ⟨t,ht,by simpa using he⟩)]
  omega
def QhD(t:Tx):(QE t).id=t.id:=by unfold QE; split<;>rfl
def Qvz(t:Tx)(e:E):(Qcc t e).id=t.id:=by unfold Qcc; split; rfl; split<;>rfl
def Qkl(h:(QT l e).2=0)(hk:e.kind≠3/\e.kind≠5):(QT l e).1.map (·.id)=l.map (·.id):=by
 unfold QT at h |-
 split at h
 ·simp at h
 rename_i q1
 split at h
 ·simp at h
 rename_i q2
 split at h
 ·rename_i q3; rw[if_neg q1,if_neg q2,if_pos q3]
 rename_i q3
 split at h
 ·simp at h
 rename_i q4
 rw[if_neg q1,if_neg q2,if_neg q3,if_neg q4]
 rcases QB l e.tx with hn | ⟨i,hi,hid,_⟩
 ·omega
 rw[hid,Jm] at h |-
 unfold Qkn at h |-
 split at h
 ·simp at h
 rename_i q5
 split at h
 ·rename_i q6; omega
 rename_i q6
 rw[if_neg q5,if_neg q6]
 dsimp only
 rw[JV,QhD,Qvz,Qd l i hi]
 have:l[i].id=(l.map (·.id))[i]'(by simpa using hi):=by rw[List.getElem_map]
 rw[this,List.set_getElem_self]
def Qoq(h:(QT l e).2=0)(hk:e.kind≠3/\e.kind≠5)(ha:0<=idT l a):0<=idT (QT l e).1 a:=by
 rw[QiZ] at ha |-; rw[Qkl h hk]; exact ha
def QhR(h:(QT l e).2=0)(ht:e.tx=0):(QT l e).1=l:=by
 unfold QT at h |-
 split at h
 ·simp at h
 rename_i q1
 split at h
 ·simp at h
 rename_i q2
 rw[if_neg q1,if_neg q2,if_pos ht]
def Qk4(hq:QtS k e (k1,n1,e1))(h:e1=0)(hk:e.kind≠3/\e.kind≠5)(ha:0<=idT k.tx a):0<=idT k1.tx a:=by
 obtain⟨e',⟨v,s,_,_,_,hn,_⟩,hk1,_,_⟩:=hq.2 h
 dsimp only at hk1
 subst hk1
 exact Qoq hn (by rw[s.1]; exact hk) ha
def QtI(hq:QtS k e (k1,n1,e1))(h:e1=0)(ht:e.tx=0):k1.tx=k.tx:=by
 obtain⟨e',⟨v,s,_,_,_,hn,_⟩,hk1,_,_⟩:=hq.2 h
 dsimp only at hk1
 subst hk1
 exact QhR hn (by rw[s.2.1]; exact ht)
def QBU(k:Kn)(st:Int)(a:Kn×Rs):Prop:=a.1.sm/\(a.2.st=st\/a.2.st=5)/\(a.2.st≠5->Str 0 k a.1)
def QmP(k:Kn)(h:k.sm)(tx st:Int)(hi:0<=idT k.tx tx)(hst:(Qa2 k.tx tx).st≠3):VCalls prog 217 [.agg k.d,.int .i64 tx,.int .i64 st] [] (Qz krD (QBU k st)):=by
 refine dk Tryz.func217 ?_
 have h':=h
 obtain⟨h1,h2,h3,h4,h5,h6⟩:=h
 have c1:=Qrw k.lk (by omega) tx
 have c2:=QbX k.tx (Jc h4.1 (by decide)) tx
 have c3:=Qgg k.tx (Jc h4.1 (by decide)) tx
 have c4:=fun(u:Lk) (hu:u.sum<=k.lk.sum)=>QdK ⟨k.pg,k.nx,k.lg,k.pl,u,k.tx,k.ix,k.la⟩ ⟨h1,h2,Jc hu h3,h4,h5,h6⟩ ⟨0,4,tx,0,0,0,Ch0,[]⟩
 rcases QB k.tx tx with hn | ⟨i,hil,hid,_⟩
 ·omega
 rw[hid] at c2
 have hg:=QdO k.tx i hil
 (unfold Tryz.f217; refine rn trivial ?_)
 have F:=@hg
 refine rn F ?_
 repeat' (first
  | with_reducible exact⟨⟩
  | (refine sB F ?_ ?_<;>intro hZ)
  | (refine Ql (c1) rfl ?_; rintro u hu; refine rn F ?_)
  | refine vp F (c2) ?_
  | refine vp F (c3) ?_
  | (refine Ql (c4 u hu) rfl ?_; rintro⟨k1,n1,e1⟩ hq; refine rn F ?_)
  | refine vp F (Qad _) ?_
  | (refine Ql (Qdl u (Jc hu (Jc h3 (by decide))) tx) rfl ?_; rintro u2 hu2; refine rn F ?_)
  | (refine Qc (id:=3) [0,1,2,3,4] [⟨[],[],5,[0,1,2],[6,7,8,9]⟩] (by kernel_rfl) (by kernel_rfl) ?_; refine rn F ?_)
  | (refine Qc (id:=9) [0,1] [⟨[],[],2,[0],[]⟩,⟨[],[],3,[1],[]⟩,⟨[],[],4,[],[]⟩] (by kernel_rfl) (by kernel_rfl) ?_; refine rn F ?_))
 ·exact⟨rfl,rfl,(⟨k.pg,k.nx,k.lg,k.pl,u2,Qje k.tx tx,k.ix,k.la⟩,⟨st,0,0,Ce0,0⟩),rfl,⟨h1,h2,Jc hu2 (Jc hu h3),h4.rem _,h5,h6⟩,.inl rfl,fun _=>(Str.one (.rem tx hi (by rw[QdG hid]; omega))).step (.lock u2)⟩
 ·exact⟨rfl,rfl,(k,Qau e1),rfl,h',.inr rfl,fun h=>absurd rfl h⟩
 have he1:e1=0:=by omega
 obtain⟨q1,q2,q3,q4,q5,q6,q7⟩:=QtJ hq he1
 have qs:=QfS hq he1 (.inr (.inl rfl)) ⟨hi,fun _=>hst,fun h=>by simp at h⟩
 have hst:=Qk4 hq he1 ⟨by simp,by simp⟩ hi
 obtain⟨r1,r2,r3,r4,r5,r6⟩:=hq.1
 dsimp only at q1 qs hst r1 r2 r3 r4 r5 r6
 have hkl:k1.lk.held.length<=1024:=by unfold Lk.sum at r3; omega
 refine Qg (fun s:{s:Nat×Lk // s.1<=k1.lk.held.length/\s.2.sum<=1024}=>⟨95,0,[(12,.int .i64 s.1.1),(11,.pv (.sl (fz Qak k1.lk.held))),(8,.ptr 2 0),(7,.ptr 1 0),(6,.ptr 0 0),(2,.int .i64 st),(1,.int .i64 tx)],[⟨62,true,[.int .i64 0,.int .i64 0,.int .i64 0,.pv (.slc []),.int .i64 0,.int .i64 0,.pv (.slc []),.int .i64 0,.pv (.slc []),.pv (.slc []),.pv (.slc []),.pv (.slc []),.pv (.slc [])]⟩,⟨173,true,[.int .i64 0,.int .i64 0,.int .i64 0,.bool false,.pv (.str []),.int .i64 0]⟩,⟨62,true,Kn.d ⟨k1.pg,k1.nx,k1.lg,k1.pl,s.1.2,k1.tx,k1.ix,k1.la⟩⟩]⟩) (fun s=>k1.lk.held.length-s.1.1) ⟨(0,k1.lk),Jf _,r3⟩ (gc [1,2,3]) ?_
 rintro⟨⟨j,u3⟩,hj,hu3⟩
 dsimp only at hj hu3 |-
 have hx:=fun h:j<k1.lk.held.length=>Qax k1.lk.held j h
 have d1:=Qoh ⟨k1.pg,k1.nx,k1.lg,k1.pl,u3,k1.tx,k1.ix,k1.la⟩ ⟨r1,r2,hu3,r4,r5,r6⟩ tx
 have d2:=Qro u3 (by omega) tx
 have F:=@hx
 refine rn F ?_
 repeat' (first
  | with_reducible exact⟨⟩
  | (refine sG F ?_ ?_<;>intro hZ)
  | (refine sB F ?_ ?_<;>intro hZ)
  | (refine Ql (d1 _ _ hst) rfl ?_; rintro b -; refine rn F ?_)
  | (refine Ql (d2 _ _) rfl ?_; rintro u4 hu4; refine rn F ?_)
  | (refine Qc (id:=14) [0,1,2,3,4,5,6,7,8,9,10,11,12,13,14] [⟨[],[],15,[0,1,2,3,4,5,6,10,11,12,13],[16,17]⟩] (by kernel_rfl) (by kernel_rfl) ?_; refine rn F ?_)
  | (refine Qc (id:=15) [0,1,2,3,4,5,6,7] [⟨[],[],8,[0,3,4,5,6],[9]⟩,⟨[],[],10,[],[]⟩] (by kernel_rfl) (by kernel_rfl) ?_; refine rn F ?_))
 all_goals first
  | exact⟨⟨(j+1,u3),by dsimp only; omega,hu3⟩,by dsimp only; omega,(gc [0,1,2])⟩
  | exact⟨⟨(j+1,u4),by dsimp only; omega,Jc hu4 hu3⟩,by dsimp only; omega,(gc [0,1,2])⟩
  | exact⟨rfl,rfl,(⟨k1.pg,k1.nx,k1.lg,k1.pl,u3,k1.tx,k1.ix,k1.la⟩,⟨st,0,0,Ce0,0⟩),rfl,⟨r1,r2,hu3,r4,r5,r6⟩,.inl rfl,fun _=>((Str.one (.lock u)).trans qs).step (.lock u3)⟩
  | skip
section
attribute [local go_sem] Qa5
def Qi7(x:Pg)(i:Nat)(h:i<16)(c:Ce):x.d.take (2+i*2)++[.pv (.lit (.bool c.set)),.pv (.str c.data)]++x.d.drop (2+i*2+2)=(x.setc i c).d:=QAa x i h c
def Qvw{e:E}(h:e.okB=true)(hk:e.kind=1\/e.kind=2):0<=e.c.sl/\e.c.sl<16:=by
 unfold E.okB at h
 simp only[Jh] at h
 have h2:=h.2
 unfold E.kindB Ch.okB at h2
 rcases hk with hk | hk<;>rw[hk] at h2<;>simp at h2<;>omega
def QtH(hq:QtS k e (k1,n1,e1))(h:e1=0)(hk:e.kind=1\/e.kind=2):0<=e.c.sl/\e.c.sl<16:=by
 obtain⟨e',⟨v,s,ho,_⟩,_⟩:=hq.2 h
 have:=Qvw ho (by rw[s.1]; exact hk)
 rw[s.2.2.2.1] at this
 exact this
def Quh(p:Pl)(x:Pg)(h:p.fs.length<=64):(Qjd p x).1.fs.length<=64:=by
 unfold Qjd
 repeat' split
 all_goals first | exact Jf _ | simpa using h
@[go_sem] def kiD(a:Kn×Int):DV:=.tup [.agg a.1.d,.int .i64 a.2]
def QEC(k:Kn)(e:E)(a:Kn×Int):Prop:=a.1.sm/\(a.2=0->∃ e',AddOk k e e'/\(Qjd k.pl (QdI k.pl e')).2=0/\a.1=k.set e')/\(a.2≠0->a.1=k)
def QwO(k:Kn)(h:k.sm)(e:E)(hk:e.kind=1\/e.kind=2):VCalls prog 211 [.agg k.d,.agg e.d] [] (Qz kiD (QEC k e)):=by
 refine dk Tryz.func211 ?_
 have h':=h
 obtain⟨h1,h2,h3,h4,h5,h6⟩:=h
 have c1:=QdK k h' e
 have c2:=Qgh k.pl (by omega) e.c.pg
 have c3:=fun x=>Qyr k.pl (by omega) x
 have hul:=fun x=>Quh k.pl x h2
 (unfold Tryz.f211; refine rn trivial ?_)
 refine Ql c1 rfl ?_
 rintro⟨k1,n1,e1⟩ hq
 by_cases he1:e1=0
 ·subst he1
  obtain⟨s1,s2⟩:=QtH hq rfl hk
  obtain⟨i,hi⟩:∃ i:Nat,e.c.sl=i:=⟨e.c.sl.toNat,by omega⟩
  have hce:=fun x=>Qi7 x i (by omega) e.c.a
  have hi16:i<16:=by omega
  obtain⟨r1,r2,r3,r4,r5,r6⟩:=hq.1
  obtain⟨e',ha,hk1,hn1,hl1⟩:=hq.2 rfl
  dsimp only at hk1 hn1
  have hsp:QdI k.pl e'=⟨((Qep k.pl e.c.pg).1.setc i e.c.a).id,n1,((Qep k.pl e.c.pg).1.setc i e.c.a).cel⟩:=by
   unfold QdI; rw[ha.2.1.2.2.2.1,hi,Jm,<- hn1]
  have hS:∀ w,Qjd k.pl ⟨((Qep k.pl e.c.pg).1.setc i e.c.a).id,n1,((Qep k.pl e.c.pg).1.setc i e.c.a).cel⟩=w->w.2=0->(Qjd k.pl (QdI k.pl e')).2=0/\(⟨k1.pg,k1.nx,k1.lg,w.1,k1.lk,k1.tx,k1.ix,k1.la⟩:Kn)=k.set e':=by
   rintro w rfl h0
   rw[<- hsp] at h0 |-
   subst hk1
   exact⟨h0,rfl⟩
  dsimp only at r1 r2 r3 r4 r5 r6
  have hw:=hul ⟨((Qep k.pl e.c.pg).1.setc i e.c.a).id,n1,((Qep k.pl e.c.pg).1.setc i e.c.a).cel⟩
  have F:=(Ja @hi @hce)
  refine rn F ?_
  repeat' (first
   | with_reducible exact⟨⟩
   | (refine sB F ?_ ?_<;>intro hZ)
   | refine vp F (c2) ?_
   | refine vp F (c3 _) ?_)
  all_goals generalize hww:Qjd k.pl ⟨((Qep k.pl e.c.pg).1.setc i e.c.a).id,n1,((Qep k.pl e.c.pg).1.setc i e.c.a).cel⟩=w at *
  ·exact⟨rfl,rfl,(k,w.2),rfl,h',fun h=>absurd h (by assumption),fun _=>rfl⟩
  ·exact⟨rfl,rfl,(⟨k1.pg,k1.nx,k1.lg,w.1,k1.lk,k1.tx,k1.ix,k1.la⟩,0),rfl,⟨r1,hw,r3,r4,r5,r6⟩,fun _=>⟨e',ha,hS w rfl (by omega)⟩,fun h=>absurd rfl h⟩
 ·skip
  have F:=@he1
  refine rn F ?_
  exact⟨rfl,rfl,(k,e1),rfl,h',fun h=>absurd h he1,fun _=>rfl⟩
structure Ac where
 kind:Int
 pg:Int
 sl:Int
 data:List UInt8
@[go_sem] def Ac.d(a:Ac):List DV:=[.int .i64 a.kind,.int .i64 a.pg,.int .i64 a.sl,.pv (.str a.data)]
def Qug(p:Pl)(a:Int)(h:p.fs.length<=64):(QxS p a).fs.length<=64:=by
 unfold QxS
 split
 ·exact h
 ·simpa using h
def Qp9(p:Pl)(a:Int):SameF p.fs (QxS p a).fs:=by
 unfold QxS
 split
 ·exact SameF.refl _
 ·exact SameF.set _ _ _
def QsA(hp:plB p=true)(h:(Qep p a).2=false):idF p.fs a<0:=by
 unfold Qep Qbe at h
 rw[hp] at h
 simp only[if_true] at h
 split at h
 ·assumption
 ·simp at h
def QE1(k:Kn)(a:Ac)(r:Kn×Rs):Prop:=r.1.sm/\(r.2.st=3->r.1=k/\r.2.pg=a.pg/\idF k.pl.fs a.pg<0)/\(r.2.st=1\/r.2.st=3\/r.2.st=5)/\(r.2.st=1->Str 1 k r.1)
def Qrz(k:Kn)(h:k.sm)(hv:VK k)(tx:Int)(hid:0<=idT k.tx tx)(hst:(Qa2 k.tx tx).st=1)(a:Ac)(ha:0<=a.sl/\a.sl<16):VCalls prog 222 [.agg k.d,.int .i64 tx,.agg a.d] [] (Qz krD (QE1 k a)):=by
 refine dk Tryz.func222 ?_
 have h':=h
 obtain⟨h1,h2,h3,h4,h5,h6⟩:=h
 have c1:=Qgh k.pl (by omega) a.pg
 have c2:=Qyq k.pl (by omega) a.pg
 have hn:=QsA (a:=a.pg) hv.2.2.2.1
 have hul:=Qug k.pl a.pg h2
 have c3:=fun c=>QwO k h' ⟨0,1,tx,0,0,0,c,[]⟩ (.inl rfl)
 obtain⟨i,hi⟩:∃ i:Nat,a.sl=i:=⟨a.sl.toNat,by omega⟩
 have hi16:i<16:=by omega
 have hus:=Qp9 k.pl a.pg
 generalize hgg:Qep k.pl a.pg=g at *
 have hce:=Qny g.1 i hi16
 generalize QxS k.pl a.pg=up at *
 (unfold Tryz.f222; refine rn trivial ?_)
 have F:=(Ja @hi @hce)
 refine rn F ?_
 repeat' (first
  | with_reducible exact⟨⟩
  | (refine sB F ?_ ?_<;>intro hZ)
  | refine vp F (c1) ?_
  | refine vp F (c2) ?_
  | (refine Ql (c3 ⟨_,_,⟨_,_⟩,⟨_,_⟩⟩) rfl ?_; rintro⟨k1,e1⟩ hq; refine rn F ?_)
  | refine vp F (Qad _) ?_
  | (refine Qc (id:=3) [0,1,2,3] [⟨[],[],4,[1,2,3],[]⟩,⟨[],[],5,[],[]⟩] (by kernel_rfl) (by kernel_rfl) ?_; refine rn F ?_)
  | (refine Qc (id:=6) [0,1,2,3,4,5,6] [⟨[],[],7,[1,2,3,4,5,6],[]⟩,⟨[],[],8,[],[]⟩] (by kernel_rfl) (by kernel_rfl) ?_; refine rn F ?_)
  | (refine Qc (id:=7) [0,1,2,3,4,5,6,7,8,9] [⟨[10],[10],11,[],[]⟩] (by kernel_rfl) (by kernel_rfl) ?_; refine rn F ?_)
  | (refine Qc (id:=12) [0,1] [⟨[],[],2,[0],[]⟩,⟨[],[],3,[1],[]⟩,⟨[],[],4,[],[]⟩] (by kernel_rfl) (by kernel_rfl) ?_; refine rn F ?_))
 all_goals first
  | exact⟨rfl,rfl,(k,⟨3,0,a.pg,Ce0,0⟩),rfl,h',fun _=>⟨rfl,rfl,hn (by first | assumption | simp_all)⟩,.inr (.inl rfl),fun h=>by simp at h⟩
  | exact⟨rfl,rfl,(⟨k.pg,k.nx,k.lg,up,k.lk,k.tx,k.ix,k.la⟩,⟨1,0,0,g.1.cel i,0⟩),rfl,⟨h1,hul,h3,h4,h5,h6⟩,fun h=>by simp at h,.inl rfl,fun _=>(Str.one (.pool up hus)).mono (by omega)⟩
  | exact⟨rfl,rfl,(k,Qau e1),rfl,h',fun h=>by simp[Qau] at h,.inr (.inr rfl),fun h=>by simp[Qau] at h⟩
  | skip
 all_goals
  obtain⟨e',q1,q2,q3⟩:=hq.2.1 (by dsimp only; omega)
  dsimp only at q3
  exact⟨rfl,rfl,(k1,⟨1,0,0,Ce0,0⟩),rfl,hq.1,fun h=>by simp at h,.inl rfl,fun _=>by
   dsimp only
   rw[q3]
   exact .one (.change q1 rfl ⟨hid,fun _=>hst,fun h=>by simp at h,by dsimp only; rw[hgg]; first | assumption | simp_all,by dsimp only; rw[hgg]; rfl⟩ q2)⟩
end
def QCy(a b c a' b' c':Int)(d d':List UInt8):Q5 [.pv (.lit (.int .i64 a)),.pv (.lit (.int .i64 b)),.pv (.lit (.int .i64 c)),.pv (.str d)] [.pv (.lit (.int .i64 a')),.pv (.lit (.int .i64 b')),.pv (.lit (.int .i64 c')),.pv (.str d')] [(0,1),(1,1),(2,1),(3,2)]=some (decide (a=a')&&decide (b=b')&&decide (c=c')&&decide (d=d')):=by simp[Q5,QbJ,JF,JQ]
def QEe(k:Kn)(a:Ac)(e:Int):Prop:=e=0->(1<=a.kind/\a.kind<=7)/\(a.kind<=3->0<=a.sl/\a.sl<16)
def Qry(k:Kn)(a:Ac):VCalls prog 259 [.agg k.d,.agg a.d] [] (Qz inD (QEe k a)):=by
 refine dk Tryz.func259 ?_
 unfold QEe
 (unfold Tryz.f259; refine rn trivial ?_)
 have F:=@QCy
 refine rn F ?_
 repeat' (first
  | with_reducible exact⟨⟩
  | (refine sG F ?_ ?_<;>intro hZ)
  | (refine sB F ?_ ?_<;>intro hZ)
  | (refine Qc (id:=9) [0,1,2,3,4] [⟨[],[],5,[2,3],[6]⟩,⟨[],[],7,[],[]⟩] (by kernel_rfl) (by kernel_rfl) ?_; refine rn F ?_))
 all_goals first
  | exact⟨rfl,rfl,_,rfl,fun h=>absurd h (by decide)⟩
  | exact⟨rfl,rfl,0,rfl,fun _=>⟨⟨by omega,by omega⟩,fun _=>⟨by omega,by omega⟩⟩⟩
  | skip
@[go_sem] def gbD(a:Gr×Bool):DV:=.tup [.agg a.1.d,.bool a.2]
def Qq6(tx:Int)(a:Ac):VCalls prog 220 [.int .i64 tx,.agg a.d] [] (Qz gbD fun _=>True):=by
 refine dd Tryz.func220 ?_
 (unfold Tryz.f220; refine rn trivial ?_)
 refine rn F ?_
 repeat' (first
  | with_reducible exact⟨⟩
  | (refine sB F ?_ ?_<;>intro hZ))
 all_goals first
  | exact⟨rfl,rfl,(⟨_,_,_,_⟩,_),rfl,trivial⟩
  | skip
def QD2(k:Kn)(tx:Int)(a:Ac)(e:Int):Prop:=e=0->VK k/\(0<=idT k.tx tx/\(Qa2 k.tx tx).st=1)/\(1<=a.kind/\a.kind<=7)/\(a.kind<=3->0<=a.sl/\a.sl<16)
def Qoe(k:Kn)(h:k.sm)(tx:Int)(a:Ac):VCalls prog 215 [.agg k.d,.int .i64 tx,.agg a.d] [] (Qz inD (QD2 k tx a)):=by
 refine dk Tryz.func215 ?_
 have c1:=QaQ k h
 obtain⟨h1,h2,h3,h4,h5,h6⟩:=h
 have c2:=QbX k.tx (Jc h4.1 (by decide)) tx
 have c3:=Qry k a
 have c4:=Qdj k.lk (by omega) tx
 have c5:=Qq6 tx a
 unfold QD2
 rcases QB k.tx tx with hn | ⟨i,hil,hid,_⟩
 ·rw [hn] at c2
  (unfold Tryz.f215; refine rn trivial ?_)
  refine rn F ?_
  repeat' (first
   | with_reducible exact⟨⟩
   | (refine sB F ?_ ?_<;>intro hZ)
   | (refine Ql (c1) rfl ?_; rintro b hb; refine rn F ?_)
   | refine vp F (c2) ?_)
  all_goals exact⟨rfl,rfl,_,rfl,fun h=>absurd h (by decide)⟩
 rw[hid] at c2
 have hg:=QdO k.tx i hil
 have hta:=QdG hid
 (unfold Tryz.f215; refine rn trivial ?_)
 have F:=(Ja @hg @QtE)
 refine rn F ?_
 repeat' (first
  | with_reducible exact⟨⟩
  | (refine sG F ?_ ?_<;>intro hZ)
  | (refine sB F ?_ ?_<;>intro hZ)
  | (refine Ql (c1) rfl ?_; rintro b hb; refine rn F ?_)
  | refine vp F (c2) ?_
  | (refine Ql (c3) rfl ?_; rintro e3 he3; refine rn F ?_)
  | (refine Ql (c4) rfl ?_; rintro⟨w,ws⟩ -; refine rn F ?_)
  | (refine Ql (c5) rfl ?_; rintro⟨g,nd⟩ -; refine rn F ?_))
 all_goals first
  | exact⟨rfl,rfl,_,rfl,fun h=>absurd h (by first | assumption | decide)⟩
  | exact⟨rfl,rfl,0,rfl,fun _=>⟨hb (by assumption),⟨by omega,by rw[hta]; omega⟩,(he3 (by omega)).1,(he3 (by omega)).2⟩⟩
  | skip
def QyA(k:Kn)(h:k.lk.sum<=5000)(tx:Int):VCalls prog 224 [.agg k.d,.int .i64 tx] [] (Qz inD fun _=>True):=by
 refine dd Tryz.func224 ?_
 have c1:=QmS k.lk h tx
 (unfold Tryz.f224; refine rn trivial ?_)
 refine rn F ?_
 repeat' (first
  | with_reducible exact⟨⟩
  | (refine Ql (c1) rfl ?_; rintro m -; refine rn F ?_)
  | (refine Ql (Qvb m) rfl ?_; rintro n -; refine rn F ?_))
 exact⟨rfl,rfl,_,rfl,trivial⟩
def doQ(k:Kn)(a:Ac)(r:Kn×Rs):Prop:=r.1.sm/\(r.2.st=3->r.1.pl=k.pl/\r.2.pg=a.pg/\idF k.pl.fs a.pg<0/\Str 0 k r.1)/\(r.2.st=2->Str 0 k r.1)/\(r.2.st≠3->r.2.st≠2->r.2.st≠5->Str 1 k r.1)
def Qnu(k:Kn)(h:k.sm)(a:Ac)(e:Int):doQ k a (k,Qau e):=⟨h,fun h=>by simp[Qau] at h,fun h=>by simp[Qau] at h,fun _ _ h=>absurd rfl h⟩
def QBp(k:Kn)(h:k.sm)(tx:Int)(a:Ac):VCalls prog 169 [.agg k.d,.int .i64 tx,.agg a.d] [] (Qz krD (doQ k a)):=by
 refine dk Tryz.func169 ?_
 have h':=h
 have c1:=Qoe k h tx a
 have c2:=Qrt k h tx
 have c3:=QmP k h tx 1
 obtain⟨h1,h2,h3,h4,h5,h6⟩:=h
 have hsl:=h4.smL (by omega)
 have c4:=Qym k.tx hsl tx
 have c5:=QyI k.tx hsl tx a.sl
 have m4:=QuF (l:=k.tx) tx
 have m5:=Qwy (l:=k.tx) tx a.sl
 have c6:=Qq6 tx a
 have c7:=fun g=>Qod k.lk (by omega) g
 have hK:=fun(u:Lk) (hu:u.sum<=1024)=>(⟨h1,h2,hu,h4,h5,h6⟩:Kn.sm ⟨k.pg,k.nx,k.lg,k.pl,u,k.tx,k.ix,k.la⟩)
 have c8:=fun(u:Lk) (hu:u.sum<=1024) (hv:VK k)=>Qrz ⟨k.pg,k.nx,k.lg,k.pl,u,k.tx,k.ix,k.la⟩ (hK u hu) hv tx
 have c9:=fun(u:Lk) (hu:u.sum<=1024)=>Qve u (by omega) tx
 have c10:=fun(u:Lk) (hu:u.sum<=1024)=>QmP ⟨k.pg,k.nx,k.lg,k.pl,u,k.tx,k.ix,k.la⟩ (hK u hu) tx 4
 (unfold Tryz.f169; refine rn trivial ?_)
 refine Ql c1 rfl ?_
 rintro er her
 by_cases he:er=0
 rotate_left
 ·skip
  have F:=@he
  refine rn F ?_
  repeat' (first
   | with_reducible exact⟨⟩
   | refine vp F (Qad _) ?_
   | (refine Qc (id:=3) [0,1] [⟨[],[],2,[0],[]⟩,⟨[],[],3,[1],[]⟩,⟨[],[],4,[],[]⟩] (by kernel_rfl) (by kernel_rfl) ?_; refine rn F ?_))
  exact⟨rfl,rfl,(k,Qau er),rfl,Qnu k h' a er⟩
 obtain⟨hv,⟨hi,hst⟩,hk,hs⟩:=her he
 have hst3:(Qa2 k.tx tx).st≠3:=by omega
 subst he
 have F:=trivial
 refine rn F ?_
 repeat' (first
  | with_reducible exact⟨⟩
  | (refine sB F ?_ ?_<;>intro hZ)
  | (refine Ql (c2 hi hst3) rfl ?_; rintro⟨k1,r1⟩ hq; refine rn F ?_)
  | (refine Ql (c3 hi hst3) rfl ?_; rintro⟨k1,r1⟩ hq; refine rn F ?_)
  | refine vp F (c4) ?_
  | refine vp F (c5) ?_
  | refine vp F (Qad _) ?_
  | (refine Ql (c6) rfl ?_; rintro⟨g,nd⟩ -; refine rn F ?_)
  | (refine Ql (c7 ⟨_,_,_,_⟩) rfl ?_; rintro⟨u,hd,e7⟩ hu; refine rn F ?_)
  | (refine Ql (c8 u hu hv hi hst a (hs (by omega))) rfl ?_; rintro⟨k1,r1⟩ hq; refine rn F ?_)
  | (refine Ql (c9 u hu) rfl ?_; rintro cy -; refine rn F ?_)
  | (refine Ql (c10 u hu hi hst3) rfl ?_; rintro⟨k1,r1⟩ hq; refine rn F ?_)
  | (refine Ql (QyA ⟨k.pg,k.nx,k.lg,k.pl,u,k.tx,k.ix,k.la⟩ (Jc hu (by decide)) tx) rfl ?_; rintro n -; refine rn F ?_)
  | (refine Qc (id:=15) [0,1] [⟨[],[],2,[0],[]⟩,⟨[],[],3,[1],[]⟩,⟨[],[],4,[],[]⟩] (by kernel_rfl) (by kernel_rfl) ?_; refine rn F ?_)
  | (refine Qc (id:=21) [0,1] [⟨[],[],2,[0],[]⟩,⟨[],[],3,[1],[]⟩,⟨[],[],4,[],[]⟩] (by kernel_rfl) (by kernel_rfl) ?_; refine rn F ?_)
  | (refine Qc (id:=27) [0,1] [⟨[],[],2,[1],[]⟩,⟨[],[],3,[],[]⟩] (by kernel_rfl) (by kernel_rfl) ?_; refine rn F ?_)
  | (refine Qc (id:=28) [0,1] [⟨[],[],2,[1],[]⟩,⟨[],[],3,[],[]⟩] (by kernel_rfl) (by kernel_rfl) ?_; refine rn F ?_)
  | (refine Qc (id:=32) [0,1] [⟨[],[],2,[1],[]⟩,⟨[],[],3,[],[]⟩] (by kernel_rfl) (by kernel_rfl) ?_; refine rn F ?_)
  | (refine Qc (id:=33) [0,1] [⟨[],[],2,[1],[]⟩,⟨[],[],3,[],[]⟩] (by kernel_rfl) (by kernel_rfl) ?_; refine rn F ?_)
  | (refine Qc (id:=34) [0,1,2] [⟨[],[],3,[0],[4]⟩,⟨[],[],5,[1,2,4],[]⟩,⟨[],[],6,[],[]⟩] (by kernel_rfl) (by kernel_rfl) ?_; refine rn F ?_))
 all_goals first
  | exact⟨rfl,rfl,(k,Qau _),rfl,Qnu k h' a _⟩
  | exact⟨rfl,rfl,(⟨k.pg,k.nx,k.lg,k.pl,k.lk,(Qha k.tx tx).1,k.ix,k.la⟩,⟨1,0,0,Ce0,0⟩),rfl,⟨h1,h2,h3,m4,h5,h6⟩,fun h=>by simp at h,fun h=>by simp at h,fun _ _ _=>(Str.one (.save tx (by omega))).mono (by omega)⟩
  | exact⟨rfl,rfl,(⟨k.pg,k.nx,k.lg,k.pl,k.lk,(Qhp k.tx tx a.sl).1,k.ix,k.la⟩,⟨1,0,0,Ce0,0⟩),rfl,⟨h1,h2,h3,m5,h5,h6⟩,fun h=>by simp at h,fun h=>by simp at h,fun _ _ _=>(Str.one (.back tx a.sl (by omega))).mono (by omega)⟩
  | exact⟨rfl,rfl,(⟨k.pg,k.nx,k.lg,k.pl,u,k.tx,k.ix,k.la⟩,⟨2,n,0,Ce0,0⟩),rfl,hK u hu,fun h=>by simp at h,fun _=>Str.one (.lock u),fun _ h=>absurd rfl h⟩
  | exact⟨rfl,rfl,(k1,r1),rfl,hq.1,fun h=>by have:=hq.2.1; dsimp only at this h; omega,fun h=>by have:=hq.2.1; dsimp only at this h; omega,fun _ _ h=>(hq.2.2 h).mono (by omega)⟩
  | exact⟨rfl,rfl,(k1,r1),rfl,hq.1,fun h=>by have:=hq.2.1; dsimp only at this h; omega,fun h=>by have:=hq.2.1; dsimp only at this h; omega,fun _ _ h=>(Str.one (.lock u)).tr0 ((hq.2.2 h).mono (by omega))⟩
  | exact⟨rfl,rfl,(k1,r1),rfl,hq.1,fun h=>⟨Eq.trans (congrArg Kn.pl (hq.2.1 h).1) rfl,(hq.2.1 h).2.1,(hq.2.1 h).2.2,by have q:=(hq.2.1 h).1; dsimp only at q; subst q; exact Str.one (.lock u)⟩,fun h=>by have:=hq.2.2.1; dsimp only at this h; omega,fun a1 a2 a3=>(Str.one (.lock u)).tr0 (hq.2.2.2 (by have:=hq.2.2.1; dsimp only at this a1 a3 |-; omega))⟩
  | exact⟨rfl,rfl,(k,r1),rfl,h',fun h=>by dsimp only at h; omega,fun h=>by dsimp only at h; omega,fun _ _ h=>by dsimp only at h; omega⟩
  | skip
section
attribute [local go_sem] Qa5
def Qnk(h:∃ i,i<l.length/\a=(l.getD i Fm0).pg.id):∃ j:Nat,j<l.length/\idF l a=j/\(l.getD j Fm0).pg.id=a:=by
 obtain⟨i,hi,ha⟩:=h
 rcases QaU l a with hn | ⟨j,hj,h1,h2⟩
 ·unfold idF Qk9 at hn
  rw[if_pos (JE.2 ⟨l[i],Ju hi,by rw[ha,Qd l i hi]; simp⟩)] at hn
  omega
 ·exact⟨j,hj,h1,h2⟩
def Qs6(p:Pl)(a:Int)(h:p.fs.length<=64):(Qdz p a).1.fs.length<=64:=by
 unfold Qdz
 repeat' split
 all_goals first
  | exact Jf _
  | (simp only[Jb,Jk,Js]; omega)
def Qwa(hp:plB p=true)(hi:0<=idF p.fs a)(hd:¬ (p.fs.getD (idF p.fs a).toNat Fm0).dirty=true):(Qdz p a).2=0:=by
 unfold Qdz
 rw[if_neg (by rw[hp]; decide),if_neg (by omega),if_neg hd]
@[go_sem] def QDl(a:Kn×Pg×Bool×Int):DV:=.tup [.agg a.1.d,.agg a.2.1.d,.bool a.2.2.1,.int .i64 a.2.2.2]
def QDk(k:Kn)(a:Kn×Pg×Bool×Int):Prop:=a.1.sm/\(a.2.2.2=0->Str 0 k a.1/\a.1.tx=k.tx/\(a.2.2.1=true->plB a.1.pl=true/\SameF k.pl.fs a.1.pl.fs/\∃ i,i<a.1.pl.fs.length/\idF a.1.pl.fs a.2.1.id=i/\(a.1.pl.fs.getD i Fm0).pg=a.2.1/\(a.1.pl.fs.getD i Fm0).dirty=true))
def Qyn(k:Kn)(h:k.sm):VCalls prog 202 [.agg k.d] [] (Qz QDl (QDk k)):=by
 refine dk Tryz.func202 ?_
 have h':=h
 have c1:=QaQ k h
 obtain⟨h1,h2,h3,h4,h5,h6⟩:=h
 have c2:=Qyp k.pl (by omega)
 (unfold Tryz.f202; refine rn trivial ?_)
 refine Ql c1 rfl ?_
 rintro b hb
 cases b
 ·skip
  refine rn F ?_
  exact⟨rfl,rfl,(Kn0,Pg0,false,15),rfl,QbQ,fun h=>by simp at h⟩
 have hv:=hb rfl
 obtain⟨v1,v2,v3,v4,v5,v6,v7⟩:=hb rfl
 have hd:=Qj8 v4
 simp only[Pl.hd] at hd
 refine rn F ?_
 repeat' (first
  | with_reducible exact⟨⟩
  | (refine sB F ?_ ?_<;>intro hZ))
 ·exact⟨rfl,rfl,(k,Pg0,false,0),rfl,h',fun _=>⟨Str.refl _,rfl,fun h=>by simp at h⟩⟩
 refine Ql c2 rfl ?_
 rintro⟨p,id,e⟩ ⟨w1,w2,w3⟩
 obtain rfl:e=0:=w2 v4 (by omega)
 obtain⟨_,w4,w5,w6,w7⟩:=w1 rfl
 obtain⟨i,hi,hid,hix⟩:=Qnk w7
 dsimp only at w3 w4 w5 w6 hi hid hix
 have c3:=Qcs p (by omega) id
 have hf:Qbe p id=i:=by unfold Qbe; rw[if_pos w4]; exact hid
 rw[hf] at c3
 have hg:=QbV p.fs i hi
 have c4:=QuV p (by omega) id
 have hdl:=Qs6 p id (by omega)
 have hdo:=fun hd=>Qwa (p:=p) (a:=id) w4 (by rw[hid]; omega) hd
 rw[hid,Jm] at hdo
 have hsm:∀ q:Pl,q.fs.length<=64->(⟨k.pg,k.nx,k.lg,q,k.lk,k.tx,k.ix,k.la⟩:Kn).sm:=fun q hq=>⟨h1,hq,h3,h4,h5,h6⟩
 have c5:=Qd9 ⟨k.pg,k.nx,k.lg,p,k.lk,k.tx,k.ix,k.la⟩ (hsm p (by omega))
 generalize hff:p.fs.getD i Fm0=f at *
 have F:=@hg
 refine rn F ?_
 repeat' (first
  | with_reducible exact⟨⟩
  | (refine sB F ?_ ?_<;>intro hZ)
  | refine vp F (c3) ?_
  | refine vp F (c4) ?_
  | (refine Ql (c5 _) rfl ?_; rintro d hd2; refine rn F ?_)
  | (refine Qc (id:=7) [0,1,2,3] [⟨[7],[],4,[0,1],[5,6]⟩,⟨[7],[7],8,[],[]⟩] (by kernel_rfl) (by kernel_rfl) ?_; refine rn F ?_)
  | (refine Qc (id:=11) [0,1,2,3,5,6] [⟨[],[],4,[1,2,5,6],[]⟩,⟨[],[],7,[5,6],[]⟩,⟨[],[],8,[],[]⟩,⟨[],[],9,[],[]⟩,⟨[],[],10,[],[]⟩] (by kernel_rfl) (by kernel_rfl) ?_; refine rn F ?_))
 ·exact⟨rfl,rfl,(⟨k.pg,k.nx,k.lg,(Qdz p id).1,k.lk,k.tx,k.ix,k.la⟩,Pg0,false,0),rfl,hsm _ hdl,fun _=>⟨(Str.one (.pool p w5)).step (.drop id (hdo (by first | assumption | simp_all))),rfl,fun h=>by simp at h⟩⟩
 ·exact⟨rfl,rfl,(⟨k.pg,k.nx,⟨k.lg.f,k.lg.es,d⟩,p,k.lk,k.tx,k.ix,k.la⟩,f.pg,true,0),rfl,⟨h1,by dsimp only; omega,h3,h4,h5,h6⟩,fun _=>⟨(Str.one (.pool p w5)).step (.force d hd2),rfl,fun _=>⟨w4,w5,i,hi,by dsimp only; rw[hix]; exact hid,by dsimp only; rw[hff],by dsimp only; rw[hff]; first | assumption | simp_all⟩⟩⟩
@[go_sem] def QB7(a:Kn×Pg×Int):DV:=.tup [.agg a.1.d,.agg a.2.1.d,.int .i64 a.2.2]
def Qw8(k:Kn)(n:Int)(a:Kn×Pg×Int):Prop:=a.1.sm/\(a.2.2=0->Str 0 k a.1/\0<=Qbe k.pl n/\a.2.1=(Qep k.pl n).1/\a.1.pl=k.pl/\a.1.tx=k.tx)
def Qva(k:Kn)(h:k.sm)(n:Int):VCalls prog 125 [.agg k.d,.int .i64 n] [] (Qz QB7 (Qw8 k n)):=by
 refine dk Tryz.func125 ?_
 have c1:=QaQ k h
 have h':=h
 obtain⟨h1,h2,h3,h4,h5,h6⟩:=h
 have c2:=Qgh k.pl (by omega) n
 have c3:=Qd9 k h'
 have hz:(Qep k.pl n).2=true->0<=Qbe k.pl n:=fun h=>by
  unfold Qep at h
  split at h
  ·simp at h
  ·omega
 unfold Qw8
 generalize Qep k.pl n=g at *
 (unfold Tryz.f125; refine rn trivial ?_)
 refine rn F ?_
 repeat' (first
  | with_reducible exact⟨⟩
  | (refine sB F ?_ ?_<;>intro hZ)
  | (refine Ql (c1) rfl ?_; rintro b -; refine rn F ?_)
  | refine vp F (c2) ?_
  | (refine Ql (c3 _) rfl ?_; rintro d hd; refine rn F ?_)
  | (refine Qc (id:=6) [0,1,2,4] [⟨[],[],3,[1,4],[]⟩,⟨[],[],5,[4],[]⟩,⟨[],[],6,[],[]⟩,⟨[],[],7,[],[]⟩] (by kernel_rfl) (by kernel_rfl) ?_; refine rn F ?_))
 all_goals first
  | exact⟨rfl,rfl,(Kn0,Pg0,15),rfl,QbQ,fun h=>by simp at h⟩
  | exact⟨rfl,rfl,(Kn0,Pg0,18),rfl,QbQ,fun h=>by simp at h⟩
  | exact⟨rfl,rfl,(⟨k.pg,k.nx,⟨k.lg.f,k.lg.es,d⟩,k.pl,k.lk,k.tx,k.ix,k.la⟩,g.1,0),rfl,⟨h1,h2,h3,h4,h5,h6⟩,fun _=>⟨Str.one (.force d hd),hz (by first | assumption | simp_all),rfl,rfl,rfl⟩⟩
  | skip
def QoW(p:Pl)(a n:Int)(h:p.fs.length<=64):(QaH p a n).1.fs.length<=64:=by
 unfold QaH
 repeat' split
 all_goals first | exact Jf _ | exact h | simpa using h
def QDV(id n:Int):E:=⟨0,7,0,0,0,n,⟨id,0,Ce0,Ce0⟩,[]⟩
def QtU(k:Kn)(id n:Int)(a:Kn×Int):Prop:=a.1.sm/\(a.2=0->∃ e',AddOk k (QDV id n) e'/\a.1.tx=k.tx/\(0<=Qbe k.pl id->a.1=k.wrt e'/\(QaH k.pl id n).2=0))
def Qn8 (k:Kn) (h:k.sm) (id n:Int):VCalls prog 147 [.agg k.d,.int .i64 id,.int .i64 n] [] (Qz kiD (QtU k id n)):=by
 refine dk Tryz.func147 ?_
 have c1:=QaQ k h
 have h':=h
 obtain⟨h1,h2,h3,h4,h5,h6⟩:=h
 have c2:=Qd8 k.lg (by omega)
 have c3:=Qcs k.pl (by omega) id
 have c4:=fun(h:n<=1099511627776) (h0:0<=n)=>Qq1 k.pl (by omega) id n h h0
 have c5:=QdK k h' ⟨0,7,0,0,0,n,⟨id,0,Ce0,Ce0⟩,[]⟩
 have hcl:=QoW k.pl id n h2
 (unfold Tryz.f147; refine rn trivial ?_)
 refine Ql c1 rfl ?_
 rintro b hb
 cases b
 ·skip
  refine rn F ?_
  exact⟨rfl,rfl,(Kn0,15),rfl,QbQ,fun h=>by simp at h⟩
 have hv:=hb rfl
 have hls:QcD k.lg<=1099511627776:=by
  unfold QcD; rw[if_pos hv.2.2.1]; exact Qr8 hv.2.2.1
 refine rn F ?_
 repeat' (first
  | with_reducible exact⟨⟩
  | (refine sG F ?_ ?_<;>intro hZ)
  | (refine sB F ?_ ?_<;>intro hZ)
  | refine vp F (c2) ?_
  | refine vp F (c3) ?_
  | refine vp F (c4 (by omega) (by omega)) ?_
  | (refine Ql (c5) rfl ?_; rintro⟨k1,n1,e1⟩ hq; refine rn F ?_))
 all_goals first
  | exact⟨rfl,rfl,(Kn0,1),rfl,QbQ,fun h=>by simp at h⟩
  | exact⟨rfl,rfl,(Kn0,(QaH k.pl id n).2),rfl,QbQ,fun h=>absurd h (by assumption)⟩
  | exact⟨rfl,rfl,(Kn0,e1),rfl,QbQ,fun h=>absurd h (by assumption)⟩
  | (have he1:e1 = 0:=by omega
     obtain⟨e',ha,hk1,hn1,hl1⟩:=hq.2 he1
     have q8:=QtI hq he1 rfl
     obtain⟨r1,r2,r3,r4,r5,r6⟩:=hq.1
     first
      | exact⟨rfl,rfl,(⟨k1.pg,k1.nx,k1.lg,(QaH k.pl id n).1,k1.lk,k1.tx,k1.ix,k1.la⟩,0),rfl,⟨r1,hcl,r3,r4,r5,r6⟩,fun _=>⟨e',ha,q8,fun _=>⟨by dsimp only at hk1; subst hk1; unfold Kn.wrt; rw[ha.2.1.2.2.2.1,ha.2.1.2.2.1]; rfl,by omega⟩⟩⟩
      | exact⟨rfl,rfl,(⟨k1.pg,k1.nx,k1.lg,k.pl,k1.lk,k1.tx,k1.ix,k1.la⟩,0),rfl,⟨r1,h2,r3,r4,r5,r6⟩,fun _=>⟨e',ha,q8,fun h=>by omega⟩⟩)
  | skip
end
section
attribute [local go_sem] Qa5
def QrC(h:(Qm3 p x).2=0):plB p=true/\QaI x=0/\idF p.fs x.id<0/\¬ (p.fs.length:Int)=p.size:=by
 unfold Qm3 at h
 split at h
 ·simp at h
 rename_i q1
 split at h
 ·rename_i q2; exact absurd h q2
 rename_i q2
 split at h
 ·simp at h
 rename_i q3
 split at h
 ·simp at h
 rename_i q4
 exact⟨by simpa using q1,by simpa using q2,by omega,q4⟩
def QCR(p:Pl)(x:Pg)(o:Nat):Qa:=[⟨52,true,[.int .i64 p.size,.own (o+5) 37 0 (p.fs.length+1),.int .i64 p.hand]⟩,⟨207,true,x.d⟩,⟨52,true,[.int .i64 p.size,.own (o+5) 37 0 (p.fs.length+1),.int .i64 p.hand]⟩,⟨211,false,[]⟩,⟨211,true,Fm.d ⟨x,false,0,true⟩⟩,⟨211,true,cells Qco (p.fs++[⟨x,false,0,true⟩])⟩]
def Qyt(p:Pl)(hl:p.fs.length<=100000)(x:Pg)(h:(Qm3 p x).2=0):VCalls prog 206 [.agg p.d,.agg x.d] [] fun r h'=>r=.tup [.agg [.int .i64 p.size,.own 5 37 0 (p.fs.length+1),.int .i64 p.hand],.int .i64 0]/\h'=QCR p x 0:=by
 refine Qab (fn:=Tryz.f206) Tryz.func206 rfl (by kernel_rfl) (by simp[Tryz.f206]) ?_
 obtain⟨e1,e2,e3,e4⟩:=QrC h
 have c1:=Qaj p (by omega)
 have c2:=Qdn x
 have c3:=Qct p (by omega) x.id
 rw[e1] at c1
 rw[e2] at c2
 have e5:¬ 0<=idF p.fs x.id:=by omega
 generalize idF p.fs x.id=m at *
 (unfold Tryz.f206; refine rn trivial ?_)
 have F:=(Ja @e5 @e4)
 refine rn F ?_
 repeat' (first
  | with_reducible exact⟨⟩
  | refine vp F (c1) ?_
  | refine vp F (c2) ?_
  | refine vp F (c3) ?_
  | (refine Qc (id:=10) [0,1,3,4] [⟨[5],[],2,[0,3,4],[]⟩,⟨[5],[5],6,[0,1,3,4],[7]⟩,⟨[],[],8,[],[]⟩] (by kernel_rfl) (by kernel_rfl) ?_; refine rn F ?_))
 all_goals rfl
def Qh9(hp h':Qa):QQ hp [] h'=hp++h'.map (Qdx (back [] hp.length)):=by
 unfold QQ
 congr 1
 apply List.ext_getElem?
 intro k
 rw[List.getElem?_map]
 by_cases hk:k<hp.length
 ·rw [List.getElem?_range hk]
  simp[JB hk]
 ·rw [JH (l:=Jj hp.length) (by simpa using hk),JH (l:=hp) (by omega)]
  rfl
def QA1(p:Pl)(hl:p.fs.length<=100000)(x:Pg)(hz:(Qm3 p x).2=0)(h:K (.tup [.agg [.int .i64 p.size,.own (hp.length+5) 37 0 (p.fs.length+1),.int .i64 p.hand],.int .i64 0]) (hp++QCR p x hp.length)):VCalls prog 206 [.agg p.d,.agg x.d] hp K:=by
 refine(VCalls.frame [] JR rfl rfl (Qyt p hl x hz) rfl rfl).mono ?_
 rintro r h2 ⟨r0,h',⟨rfl,rfl⟩,-,rfl,rfl⟩
 rw[Qh9]
 have e1:Qdx (back [] hp.length) ⟨207,true,x.d⟩=⟨207,true,x.d⟩:=QaF rfl
 have e2:Qdx (back [] hp.length) ⟨211,true,Fm.d ⟨x,false,0,true⟩⟩=⟨211,true,Fm.d ⟨x,false,0,true⟩⟩:=QaF rfl
 have e3:Qdx (back [] hp.length) ⟨211,true,cells Qco (p.fs++[⟨x,false,0,true⟩])⟩=⟨211,true,cells Qco (p.fs++[⟨x,false,0,true⟩])⟩:=QaF (Qs _ _ _)
 simp only[QCR,Jy,Jw,e1,e2,e3] at h |-
 exact h
def QBh(l:List Fm)(f:Fm)(b:Bool):(cells Qco (l++[f])).set (l.length*37+34) (.pv (.lit (.bool b)))=cells Qco (l++[⟨f.pg,b,f.rc,f.used⟩]):=by
 rw[<- QtA,<- QtA,<- QCT l,JI _ _ (JN _ _),JD]; rfl
def QBg(l:List Fm)(f:Fm)(n:Int):(cells Qco (l++[f])).set (l.length*37+35) (.pv (.lit (.int .i64 n)))=cells Qco (l++[⟨f.pg,f.dirty,n,f.used⟩]):=by
 rw[<- QtA,<- QtA,<- QCT l,JI _ _ (JN _ _),JD]; rfl
def QEu(k:Kn)(x:Pg)(a:Kn×Int):Prop:=a.1.sm/\(a.2=0->Str 0 k a.1/\a.1.lg=k.lg/\a.1.tx=k.tx/\0<=idF a.1.pl.fs x.id)
def QDa(c:VCalls P g args hp (Qz f Q))(h:∀ a,Q a->f a=d):VCalls P g args hp (Ret d):=
 c.mono fun _ _ ⟨h1,h2,a,e,q⟩=>⟨h1,h2,e.trans (h a q)⟩
def flY(l:List Dt)(n:Int)(i:Nat):List Dt:=(l.take i).filter fun d=>decide (d.pg≠n)
def Qv2(l:List Dt)(n:Int)(i:Nat)(h:i<l.length):flY l n (i+1)=if (l.getD i Dt0).pg=n then flY l n i else flY l n i++[l.getD i Dt0]:=by
 unfold flY
 rw[Jl h,List.filter_append,Qd l i h]
 split<;>rename_i hx<;>simp[hx]
def QzS(l:List Dt)(n:Int)(i:Nat):(flY l n i).length<=i:=Jc (JG _ _) (by rw[Jk]; omega)
def QvR(l:List Fm)(f:Fm):0<=idF (l++[f]) f.pg.id:=by
 obtain⟨j,_,h,_⟩:=Qnk (l:=l++[f]) (a:=f.pg.id) ⟨l.length,by simp,by rw[Jg,Jq (Jp _),JM]; rfl⟩
 omega
def QqS (k:Kn) (h:k.sm) (x:Pg):VCalls prog 161 [.agg k.d,.agg x.d] [] (Qz kiD (QEu k x)):=by
 refine dk Tryz.func161 ?_
 have h':=h
 have c1:=QbE k h
 have c2:=QDa (d:=.int .i64 (QeW k x.id)) (QlK k h x.id) fun a q=>by rw[q]; rfl
 obtain⟨h1,h2,h3,h4,h5,h6⟩:=h
 have c3:=Qys k.pl (by omega) x
 have c4:=QfA k (by omega) x.id
 (unfold Tryz.f161; refine rn trivial ?_)
 cases hv:kB k
 ·rw [hv] at c1
  refine rn F ?_
  repeat' (first
   | with_reducible exact⟨⟩
   | refine vp F (c1) ?_)
  exact⟨rfl,rfl,(Kn0,_),rfl,QbQ,fun h=>by simp at h⟩
 rw[hv] at c1
 refine rn F ?_
 repeat' (first
  | with_reducible exact⟨⟩
  | (refine sG F ?_ ?_<;>intro hZ)
  | (refine sB F ?_ ?_<;>intro hZ)
  | refine vp F (c1) ?_
  | refine vp F (c2) ?_
  | (refine Qc (id:=5) [0,1,2,3,4] [⟨[],[],5,[0,1,3],[6]⟩,⟨[],[],7,[0,1,2,3,4],[]⟩] (by kernel_rfl) (by kernel_rfl) ?_; refine rn F ?_)
  | (refine Qc (id:=7) [0,1,2,3,4] [⟨[],[],5,[0,1,3],[6]⟩,⟨[],[],7,[0,1,2,3,4],[]⟩] (by kernel_rfl) (by kernel_rfl) ?_; refine rn F ?_))
 all_goals first
  | exact⟨rfl,rfl,(Kn0,_),rfl,QbQ,fun h=>by simp at h⟩
  | skip
 have hpe:(Qm3 k.pl x).2≠0->(Qm3 k.pl x).1=Pl0:=fun h=>by
  unfold Qm3 at h |-
  repeat' split
  all_goals first | rfl | simp_all
 by_cases hz:(Qm3 k.pl x).2=0
 rotate_left
 ·rw [hpe hz] at c3
  have F:=@hz
  refine rn F ?_
  repeat' (first
   | with_reducible exact⟨⟩
   | refine vp F (c3) ?_)
  exact⟨rfl,rfl,(Kn0,_),rfl,QbQ,fun h=>absurd h hz⟩
 refine QA1 k.pl (by omega) x hz ?_
 obtain⟨p1,p2,p3,p4⟩:=QrC hz
 have hd:=Qj8 p1
 simp only[Pl.hd] at hd
 unfold QCR
 have s34:=QBh k.pl.fs
 have s35:=QBg k.pl.fs
 have hi0:=QvR k.pl.fs
 have hnn:k.pl.fs.length+1-1=k.pl.fs.length:=by omega
 have h34:(k.pl.fs.length*37+34<(k.pl.fs.length+1)*37)=True:=eq_true (by omega)
 have h35:(k.pl.fs.length*37+35<(k.pl.fs.length+1)*37)=True:=eq_true (by omega)
 have F:=(Ja @s34 (Ja @s35 (Ja @hnn (Ja @h34 @h35))))
 refine rn F ?_
 repeat' (first
  | with_reducible exact⟨⟩
  | (refine sB F ?_ ?_<;>intro hZ)
  | (refine Ql (c4) rfl ?_; rintro⟨d,b2⟩ hdl; refine rn F ?_))
 rotate_left
 ·exact⟨rfl,rfl,(⟨k.pg,k.nx,k.lg,⟨k.pl.size,k.pl.fs++[⟨x,false,0,true⟩],k.pl.hand⟩,k.lk,k.tx,k.ix,k.la⟩,0),rfl,⟨h1,by simp; omega,h3,h4,h5,h6⟩,fun _=>⟨Str.one (.put x hv ⟨by omega,by omega⟩ (by omega) hz (by rw[<- hdl]; first | assumption | simp_all)),rfl,rfl,hi0 ⟨x,false,0,true⟩⟩⟩
 have hd1:(QaB k.la x.id).1=d:=by rw[<- hdl]
 have hb2:(QaB k.la x.id).2=true:=by rw[<- hdl]; first | assumption | simp_all
 have hst:=Stp.putl (k:=k) x hv ⟨by omega,by omega⟩ (by omega) hz hb2
 rw[hd1] at hst
 refine VLoop.nilOwn 10 219 3 rfl ?_
 refine rn trivial ?_
 refine Qg (fun s:To k.la.length=>⟨113,0,[(11,.int .i64 s.i),(10,.own 5 3 0 (flY k.la x.id s.i).length),(6,.ptr 4 0),(4,.ptr 2 0),(3,.ptr 1 0),(2,.ptr 0 0)],
  [⟨62,true,k.d⟩,⟨207,true,x.d⟩,⟨62,true,[.int .i64 0,.int .i64 0,.int .i64 0,.pv (.slc []),.int .i64 0,.int .i64 0,.pv (.slc []),.int .i64 0,.pv (.slc []),.pv (.slc []),.pv (.slc []),.pv (.slc []),.pv (.slc [])]⟩,⟨211,true,cells Qco (k.pl.fs++[⟨x,true,d.rc,true⟩])⟩,⟨52,true,[.int .i64 k.pl.size,.own 3 37 0 (k.pl.fs.length+1),.int .i64 k.pl.hand]⟩,⟨219,true,cells QcG (flY k.la x.id s.i)⟩]⟩) (fun s=>k.la.length-s.i) ⟨0,Jf _⟩ (gc [0,1,2,8,9,11]) ?_
 rintro⟨i,hi⟩
 dsimp only
 have hsu:=Qv2 k.la x.id i
 have ho:=QzS k.la x.id i
 have hfin:k.la.length<=i->flY k.la x.id i=k.la.filter fun d=>decide (d.pg≠x.id):=fun h=>by unfold flY; rw[Jn h]
 generalize hout:flY k.la x.id i=out at *
 have hy:=fun h:i<k.la.length=>Qeq k.la i h
 have hb:(out.length+1)*24<=140737488355328:=by omega
 have F:=(Ja @hy @hb)
 refine rn F ?_
 repeat' (first
  | with_reducible exact⟨⟩
  | (refine sB F ?_ ?_<;>intro hZ)
  | (refine Qc (id:=20) [0,1,2,3,4,5,6,7,8] [] (by kernel_rfl) (by kernel_rfl) ?_; refine rn F ?_))
 all_goals first
  | (have e1:=hsu (by omega)
     rw[if_pos (by first | assumption | omega)] at e1
     refine⟨⟨i+1,by omega⟩,by dsimp only; omega,?_⟩
     dsimp only
     rw[e1]
     exact(gc [0,1,2,3,4,5]))
  | (have e1:=hsu (by omega)
     rw[if_neg (by first | assumption | omega)] at e1
     refine⟨⟨i+1,by omega⟩,by dsimp only; omega,?_⟩
     dsimp only
     rw[e1,Jb]
     exact(gc [0,1,2,3,4,7]))
  | (have e1:=hfin (by omega)
     rw[<- e1] at hst
     exact⟨rfl,rfl,(⟨k.pg,k.nx,k.lg,⟨k.pl.size,k.pl.fs++[⟨x,true,d.rc,true⟩],k.pl.hand⟩,k.lk,k.tx,k.ix,out⟩,0),rfl,⟨h1,by simp; omega,h3,h4,h5,by dsimp only; omega⟩,fun _=>⟨Str.one hst,rfl,rfl,hi0 ⟨x,true,d.rc,true⟩⟩⟩)
  | skip
end
def QD5(l:List (List UInt8)):(cells Qdv l).length=l.length*1:=QZ Qdv l
def QEV(l:List (List UInt8))(n:Nat)(h:l.length*1<=n):(cells Qdv l).take n=cells Qdv l:=by rw[Jn]; rw[QD5]; exact h
def QEv(l:List (List UInt8)):(fz Qdv l=[]\/(fz Qdv l)[0]?.map List.length=some 1)=True:=Qfc Qdv l
def QEJ(h:l.length=len):Qmc n hp 0 1 len (some (cells Qdv l))=some (.sl (fz Qdv l)):=QW Qdv h
attribute [go_sem] QD5 QEV QEv QEJ
def Qw4(l:List (List UInt8))(i:Nat)(h:i<l.length):(fz Qdv l)[i]?=some [.str (l.getD i [])]:=QbM Qdv l [] i h
def QDM(l:List (List UInt8))(x:List UInt8):cells Qdv l++[.pv (.str x)]=cells Qdv (l++[x]):=by rw[QC]; rfl
def QEk(l:List (List UInt8)):DV.wk.go (cells Qdv l)=cells Qdv l:=QaM Qdv l fun a p hp=>by
 simp[Qdv] at hp; subst hp; rfl
attribute [go_sem] QDM QEk
structure Dv where
 ps:List (List UInt8)
 wr:Int
 dead:Bool
@[go_sem] def Dv.d(v:Dv):List DV:=[.pv (.sl (fz Qdv v.ps)),.int .i64 v.wr,.pv (.sl []),.bool v.dead,.pv (.sl [])]
def Dv0:Dv:=⟨[],0,false⟩
def QEh(v:Dv):Prop:=(1<=v.ps.length/\v.ps.length<=64)/\(0<=v.wr/\v.wr<=1099511627776)/\∀ i,i<v.ps.length->(v.ps.getD i []).length=256
def Qrn(v:Dv)(hl:v.ps.length<=100000):VCalls prog 229 [.agg v.d] [] (Qz boD fun b=>b=true->QEh v):=by
 refine dd Tryz.func229 ?_
 (unfold Tryz.f229; refine rn trivial ?_)
 refine rn F ?_
 repeat' (first
  | with_reducible exact⟨⟩
  | (refine sG F ?_ ?_<;>intro hZ))
 all_goals first
  | exact⟨rfl,rfl,false,rfl,fun h=>by cases h⟩
  | skip
 refine Qg (fun s:Okay v.ps.length (fun i=>decide ((v.ps.getD i []).length=256))=>⟨99,0,[(4,.int .i64 s.i),(3,.int .i64 v.ps.length),(1,.ptr 0 0)],[⟨99,true,v.d⟩]⟩) (fun s=>v.ps.length-s.i) (Okay.start _ _) (gc [0]) ?_
 intro s
 have hsi:=s.hi
 have hg:=fun h:s.i<v.ps.length=>Qw4 v.ps s.i h
 have F:=@hg
 refine rn F ?_
 repeat' (first
  | with_reducible exact⟨⟩
  | (refine sB F ?_ ?_<;>intro hZ))
 all_goals first
  | exact⟨rfl,rfl,false,rfl,fun h=>by cases h⟩
  | exact⟨s.next (by omega) (decide_eq_true (by omega)),s.dec (by omega),(gc [0])⟩
  | skip
 have hall:=s.all (by omega)
 simp only[Jt,Jv,decide_eq_true_eq] at hall
 refine Qg (fun s:Unit=>⟨99,0,[(5,.int .i64 0),(3,.int .i64 v.ps.length),(1,.ptr 0 0)],[⟨99,true,v.d⟩]⟩) (fun s=>0) () (gc [0]) ?_
 intro _
 have F:=trivial
 refine rn F ?_
 refine Qg (fun s:Unit=>⟨99,0,[(6,.int .i64 0),(1,.ptr 0 0)],[⟨99,true,v.d⟩]⟩) (fun s=>0) () (gc [0]) ?_
 intro _
 have F:=trivial
 refine rn F ?_
 exact⟨rfl,rfl,true,rfl,fun _=>⟨⟨by omega,by omega⟩,⟨by omega,by omega⟩,fun i hi=>hall i hi⟩⟩
def usQ(v:Dv)(n e:Int):Prop:=e=0->QEh v/\0<=n/\n<v.ps.length
def Qgf(v:Dv)(hl:v.ps.length<=100000)(n:Int):VCalls prog 180 [.agg v.d,.int .i64 n] [] (Qz inD (usQ v n)):=by
 refine dd Tryz.func180 ?_
 have c1:=Qrn v hl
 unfold usQ
 (unfold Tryz.f180; refine rn trivial ?_)
 refine rn F ?_
 repeat' (first
  | with_reducible exact⟨⟩
  | (refine sG F ?_ ?_<;>intro hZ)
  | (refine sB F ?_ ?_<;>intro hZ)
  | (refine Ql (c1) rfl ?_; rintro b hb; refine rn F ?_))
 all_goals first
  | exact⟨rfl,rfl,_,rfl,fun h=>absurd h (by decide)⟩
  | exact⟨rfl,rfl,0,rfl,fun _=>⟨hb (by assumption),by omega,by omega⟩⟩
  | skip
def QBs(n:Int):VCalls prog 203 [.pv (.sl []),.int .i64 n] [] (Ret (.bool false)):=by
 refine dd Tryz.func203 ?_
 (unfold Tryz.f203; refine rn trivial ?_)
 refine Qg (fun s:Unit=>⟨18,0,[(5,.int .i64 0),(1,.int .i64 n),(0,.pv (.sl []))],[]⟩) (fun s=>0) () (gc []) ?_
 intro _
 (refine rn F ?_; try with_reducible exact⟨⟩)
def Qn9(n:Int):VCalls prog 230 [.pv (.sl []),.int .i64 n] [] (Ret (.pv (.sl []))):=by
 refine dk Tryz.func230 ?_
 (unfold Tryz.f230; refine rn trivial ?_)
 refine VLoop.wkS ?_
 refine rn trivial ?_
 refine Qg (fun s:Unit=>⟨27,0,[(6,.int .i64 0),(5,.pv (.sl [])),(1,.int .i64 n),(0,.pv (.sl []))],[]⟩) (fun s=>0) () (gc []) ?_
 intro _
 (refine rn F ?_; try with_reducible exact⟨⟩)
@[go_sem] def siD(a:List UInt8×Int):DV:=.tup [.pv (.str a.1),.int .i64 a.2]
def Qvc(v:Dv)(hl:v.ps.length<=100000)(n:Int):VCalls prog 157 [.agg v.d,.int .i64 n] [] (Qz siD fun a=>a.2=0->a.1.length=256):=by
 refine dd Tryz.func157 ?_
 have c1:=Qgf v hl n
 have c2:=QBs n
 (unfold Tryz.f157; refine rn trivial ?_)
 have hg:=fun h:n.toNat<v.ps.length=>Qw4 v.ps n.toNat h
 refine Ql c1 rfl ?_
 rintro e he
 by_cases h0:e=0
 ·obtain ⟨q1,q2,q3⟩:=he h0
  subst h0
  have F:=@hg
  refine rn F ?_
  repeat' (first
   | with_reducible exact⟨⟩
   | refine vp F (c2) ?_)
  exact⟨rfl,rfl,(v.ps.getD n.toNat [],0),rfl,fun _=>q1.2.2 _ (by omega)⟩
 ·skip
  have F:=@h0
  refine rn F ?_
  exact⟨rfl,rfl,([],e),rfl,fun h=>absurd h h0⟩
section
attribute [local go_sem] Qa5
def Qp3(k:Nat)(c:VCalls P g args0 [B] fun r h'=>r=r0/\h'=[B'])(hk:hp[k]?=some B)(hB:B.live=true/\DV.nums.go (fun _=>false) B.cells=true)(hB':DV.nums.go (fun _=>false) B'.cells=true)(ha0:args0=args.map (DV.ren fun j=>[k].idxOf j))(ha:DV.nums.go [k].contains args=true)(hr:r0.ren (back [k] hp.length)=r2)(h:K r2 (hp.set k B')):VCalls P g args hp K:=by
 subst hr
 have hlt:k<hp.length:=(List.getElem?_eq_some_iff.1 hk).1
 have hg:hp.getD k default=B:=by rw[Jg,hk]; rfl
 have hpl:Qgq hp [k]:=⟨⟨hlt,by rw[hg]; exact hB.2⟩,trivial⟩
 refine(VCalls.frame [k] (by simp) (by rw[QcZ hpl]; simp only[Jy,Jw,hg]) (Qc0 hpl) c ha0 ha).mono ?_
 rintro r h2 ⟨r1,h',⟨rfl,rfl⟩,-,rfl,rfl⟩
 rw[Qo9 hlt,Jw,List.append_nil,QaF hB']
 exact h
def dvO(k n:Nat)(wr:Int)(dead:Bool):DV:=.agg [.own k 1 0 n,.int .i64 wr,.pv (.sl []),.bool dead,.pv (.sl [])]
def Qyc(l:List (List UInt8))(i:Nat)(s:List UInt8)(h:i<l.length):(cells Qdv l).set i (.pv (.str s))=cells Qdv (l.set i s):=by
 rw[Qtp,Qtp,JV]
def QmM(ps:List (List UInt8))(wr:Int)(dead:Bool)(i:Nat)(hi:i<ps.length)(h6:(ps.getD i []).length=256)(s:List UInt8)(n:Nat)(hn:n<=256)(hs:s.length=256) :
 VCalls prog 182 [dvO 0 ps.length wr dead,.int .i64 i,.pv (.str s),.int .i64 n] [⟨9,true,cells Qdv ps⟩] (fun r h'=>r=dvO 0 ps.length wr dead/\h'=[⟨9,true,cells Qdv (ps.set i (s.take n++(ps.getD i []).drop n))⟩]):=by
 unfold dvO
 refine dd Tryz.func182 ?_
 have c1:=Qn9 i
 have hg:=QoZ ps i hi
 have hse:=fun s=>Qyc ps i s hi
 generalize ps.getD i []=q at *
 (unfold Tryz.f182; refine rn trivial ?_)
 have hlt:(i<ps.length)=True:=eq_true hi
 have F:=(Ja @hg (Ja @hse @hlt))
 refine rn F ?_
 repeat' (first
  | with_reducible exact⟨⟩
  | refine vp F (c1) ?_
  | (refine Qc (id:=1) [0,1,2,3,4,5,6,7,8,9,10,11,12,13,14] [⟨[],[],15,[],[]⟩] (by kernel_rfl) (by kernel_rfl) ?_; refine rn F ?_))
 all_goals exact⟨rfl,rfl⟩
def cpD(o:Nat)(v:Dv):List DV:=[.own (o+2) 1 0 v.ps.length,.int .i64 v.wr,.own (o+3) 1 0 0,.bool v.dead,.own (o+4) 6 0 0]
def QoT(v:Dv)(o:Nat):Qa:=[⟨99,true,cpD o v⟩,⟨99,true,cpD o v⟩,⟨9,true,cells Qdv v.ps⟩,⟨3,true,[]⟩,⟨276,true,[]⟩]
def QyG(v:Dv)(hl:v.ps.length<=100000):VCalls prog 181 [.agg v.d] [] fun r h'=>r=.agg (cpD 0 v)/\h'=QoT v 0:=by
 refine Qab (fn:=Tryz.f181) Tryz.func181 rfl (by kernel_rfl) (by simp[Tryz.f181]) ?_
 unfold cpD QoT
 have hb:v.ps.length*16<=140737488355328:=by omega
 (unfold Tryz.f181; refine rn trivial ?_)
 have F:=@hb
 (refine rn F ?_; try with_reducible exact⟨⟩)
 all_goals first | rfl | exact⟨rfl,rfl⟩
def Qp4(v:Dv)(hl:v.ps.length<=100000)(h:K (.agg (cpD hp.length v)) (hp++QoT v hp.length)):VCalls prog 181 [.agg v.d] hp K:=by
 refine(VCalls.frame [] JR rfl rfl (QyG v hl) rfl rfl).mono ?_
 rintro r h2 ⟨r0,h',⟨rfl,rfl⟩,-,rfl,rfl⟩
 rw[Qh9]
 have e3:Qdx (back [] hp.length) ⟨9,true,cells Qdv v.ps⟩=⟨9,true,cells Qdv v.ps⟩:=QaF (Qs _ _ _)
 simp only[QoT,Jy,Jw,e3] at h |-
 exact h
@[go_sem] def dvD(a:Dv×Int):DV:=.tup [.agg a.1.d,.int .i64 a.2]
def dvQ(a:Dv×Int):Prop:=a.1.ps.length<=64
def Qyj(v:Dv)(hl:v.ps.length<=100000)(pg:Int)(s:List UInt8)(hs0:s.length<=1000000)(n:Int):VCalls prog 151 [.agg v.d,.int .i64 pg,.pv (.str s),.int .i64 n] [] (Qz dvD dvQ):=by
 refine dk Tryz.func151 ?_
 have c1:=Qgf v hl pg
 (unfold Tryz.f151; refine rn trivial ?_)
 refine Ql c1 rfl ?_
 rintro e he
 by_cases h0:e=0
 rotate_left
 ·skip
  have F:=@h0
  refine rn F ?_
  exact⟨rfl,rfl,(Dv0,e),rfl,Jf _⟩
 obtain⟨q1,q2,q3⟩:=he h0
 subst h0
 have F:=trivial
 refine rn F ?_
 repeat' (first
  | with_reducible exact⟨⟩
  | (refine sG F ?_ ?_<;>intro hZ)
  | (refine sB F ?_ ?_<;>intro hZ))
 all_goals first
  | exact⟨rfl,rfl,(Dv0,_),rfl,Jf _⟩
  | skip
 obtain⟨i,rfl⟩:∃ i:Nat,pg=i:=⟨pg.toNat,by omega⟩
 obtain⟨m,rfl⟩:∃ m:Nat,n=m:=⟨n.toNat,by omega⟩
 have hi:i<v.ps.length:=by omega
 refine Qp4 v hl ?_
 unfold QoT cpD
 refine rn trivial ?_
 refine VCalls.neA ?_
 have hpos:0<v.ps.length:=by omega
 simp only[Jy,Jw,DV.ne,Qr2 hpos,Qm8,QwX]
 refine Qp3 4 (QmM v.ps v.wr v.dead i hi (q1.2.2 i hi) s m (by omega) (by omega)) rfl ⟨rfl,Qs _ _ _⟩ (Qs _ _ _) rfl rfl (r2:=dvO 4 v.ps.length v.wr v.dead) rfl ?_
 unfold dvO
 have hle:∀ x,(v.ps.set i x).length=v.ps.length:=fun x=>Jz
 have F:=@hle
 refine rn F ?_
 exact⟨rfl,rfl,(⟨v.ps.set i (s.take m++(v.ps.getD i []).drop m),v.wr,v.dead⟩,0),rfl,by unfold dvQ; dsimp only; rw[hle]; exact q1.1.2⟩
def Qrx(n:Int)(hn:n<=64):VCalls prog 109 [.int .i64 n] [] (Qz (fun l:List (List UInt8)=>.pv (.sl (fz Qdv l))) fun l=>l.length<=64):=by
 refine dk Tryz.func109 ?_
 (unfold Tryz.f109; refine rn trivial ?_)
 refine VLoop.nilOwn 3 9 1 rfl ?_
 refine rn trivial ?_
 refine Qg (fun s:{s:Nat×List (List UInt8) // s.1<=64/\s.2.length=s.1}=>⟨16,0,[(4,.int .i64 s.1.1),(3,.own 0 1 0 s.1.2.length),(0,.int .i64 n)],[⟨9,true,cells Qdv s.1.2⟩]⟩) (fun s=>64-s.1.1) ⟨(0,[]),by simp⟩ (gc [0]) ?_
 rintro⟨⟨i,out⟩,hi,ho⟩
 dsimp only at hi ho |-
 have hb:(out.length+1)*16<=140737488355328:=by omega
 have hm:(((1:Nat):Int)*256<=281474976710656)=True:=eq_true (by decide)
 have hcw:=fun(hp:Qa) (k o n:Nat)=>QfP (hp:=hp) (k:=k) (off:=o) (len:=n) QDH
 have hcv:∀ hp:Qa,QxF hp 0 256 (some (cells Qc5 (Ji 256 0)))=some (.pv (.str (Ji 256 0)),hp):=fun hp=>QeK (by simp)
 have F:=(Ja @hb (Ja @hm (Ja @hcw @hcv)))
 refine rn F ?_
 repeat' (first
  | with_reducible exact⟨⟩
  | (refine sB F ?_ ?_<;>intro hZ))
 all_goals first
  | exact⟨⟨(i+1,out++[Ji 256 0]),by dsimp only; omega,by simp; omega⟩,by dsimp only; omega,by dsimp only; rw[Jb]; exact(gc [3])⟩
  | exact⟨rfl,rfl,out,rfl,by omega⟩
  | skip
end
section
attribute [local go_sem] Qa5
def Qrm(v:Dv)(hl:v.ps.length<=100000)(pg:Int)(s:List UInt8)(hs0:s.length<=1000000):VCalls prog 146 [.agg v.d,.int .i64 pg,.pv (.str s)] [] (Qz dvD dvQ):=by
 refine dk Tryz.func146 ?_
 have c1:=Qgf v hl pg
 (unfold Tryz.f146; refine rn trivial ?_)
 refine Ql c1 rfl ?_
 rintro e he
 by_cases h0:e=0
 rotate_left
 ·skip
  have F:=@h0
  refine rn F ?_
  exact⟨rfl,rfl,(Dv0,e),rfl,Jf _⟩
 obtain⟨q1,q2,q3⟩:=he h0
 subst h0
 have F:=trivial
 refine rn F ?_
 repeat' (first
  | with_reducible exact⟨⟩
  | (refine sB F ?_ ?_<;>intro hZ))
 all_goals first
  | exact⟨rfl,rfl,(Dv0,_),rfl,Jf _⟩
  | skip
 obtain⟨i,rfl⟩:∃ i:Nat,pg=i:=⟨pg.toNat,by omega⟩
 have hi:i<v.ps.length:=by omega
 have hwr:=q1.2.1
 refine Qp4 v hl ?_
 unfold QoT cpD
 have F:=trivial
 refine rn F ?_
 refine Qg (fun _:Unit=>⟨166,0,[(11,.int .i64 0),(10,.pv (.slc [])),(9,.ptr 4 0),(6,.ptr 1 0),(3,.ptr 0 0),(2,.pv (.str s)),(1,.int .i64 i)],[⟨99,true,v.d⟩,⟨99,true,[.pv (.slc []),.int .i64 0,.pv (.slc []),.bool false,.pv (.slc [])]⟩,⟨9,true,cells Qdv v.ps⟩,⟨3,true,[]⟩,⟨99,true,[.own 2 1 0 v.ps.length,.int .i64 (v.wr+1),.own 3 1 0 0,.bool v.dead,.pv (.slc [])]⟩]⟩) (fun _=>0) () (gc [0,1,4,5,7]) ?_
 intro _
 have F:=trivial
 refine rn F ?_
 refine Qg (fun _:Unit=>⟨166,0,[(13,.int .i64 0),(12,.bool false),(10,.pv (.slc [])),(9,.ptr 3 0),(6,.ptr 0 0),(2,.pv (.str s)),(1,.int .i64 i)],[⟨99,true,[.pv (.slc []),.int .i64 0,.pv (.slc []),.bool false,.pv (.slc [])]⟩,⟨9,true,cells Qdv v.ps⟩,⟨3,true,[]⟩,⟨99,true,[.own 1 1 0 v.ps.length,.int .i64 (v.wr+1),.own 2 1 0 0,.bool v.dead,.pv (.slc [])]⟩]⟩) (fun _=>0) () (gc [1,2,3,4]) ?_
 intro _
 have F:=trivial
 refine rn F ?_
 refine VCalls.wkA (VCalls.neA ?_)
 have hpos:0<v.ps.length:=by omega
 refine rn trivial ?_
 simp only[Jy,Jw,DV.ne,Qr2 hpos,Qm8,QwX,DV.wk,DV.wk.go,PV.wk]
 refine Qp3 1 (QmM v.ps (v.wr+1) v.dead i hi (q1.2.2 i hi) s 256 (by omega) (by omega)) rfl ⟨rfl,Qs _ _ _⟩ (Qs _ _ _) rfl rfl (r2:=dvO 1 v.ps.length (v.wr+1) v.dead) rfl ?_
 unfold dvO
 have hle:∀ x,(v.ps.set i x).length=v.ps.length:=fun x=>Jz
 have F:=@hle
 refine rn F ?_
 have hlL:=hle (s.take 256++(v.ps.getD i []).drop 256)
 generalize v.ps.set i (s.take 256++(v.ps.getD i []).drop 256)=L at *
 refine Qg (fun _:Unit=>⟨166,0,[(14,.int .i64 0),(10,.pv (.slc [])),(9,.ptr 2 0),(6,.ptr 0 0)],[⟨99,true,[.pv (.slc []),.int .i64 0,.pv (.slc []),.bool false,.pv (.slc [])]⟩,⟨9,true,cells Qdv L⟩,⟨99,true,[.own 1 1 0 v.ps.length,.int .i64 (v.wr+1),.pv (.sl []),.bool v.dead,.pv (.sl [])]⟩]⟩) (fun _=>0) () (gc [0,1,3]) ?_
 intro _
 have F:=@hlL
 refine rn F ?_
 exact⟨rfl,rfl,(⟨L,v.wr+1,v.dead⟩,0),rfl,by unfold dvQ; have:=q1.1.2; dsimp only; omega⟩
end
section
attribute [local go_sem] Qa5
def QiC(n:Nat)(hn:n<=1000):VCalls prog 178 [.int .i64 n] [] (Ret (.pv (.str (Ji n 0)))):=by
 refine dd Tryz.func178 ?_
 have hm:(((1:Nat):Int)*(n:Int)<=281474976710656)=True:=eq_true (by omega)
 have hm2:((n:Int)*((1:Nat):Int)<=281474976710656)=True:=eq_true (by omega)
 have hcw:=fun(hp:Qa) (k o n:Nat)=>QfP (hp:=hp) (k:=k) (off:=o) (len:=n) QDH
 have hcv:∀ hp:Qa,QxF hp 0 n (some (cells Qc5 (Ji n 0)))=some (.pv (.str (Ji n 0)),hp):=fun hp=>QeK (by simp)
 have hm3:((0:Int)<=(n:Int)/\(n:Int)<=(n:Int)/\(n:Int)<=9223372036854775807)=True:=eq_true ⟨by omega,by omega,by omega⟩
 (unfold Tryz.f178; refine rn (Ja @hm (Ja @hm2 (Ja @hm3 (Ja @hcw @hcv)))) ?_; try with_reducible exact⟨⟩)
def Qvi:VCalls prog 276 [] [] (Ret (.pv (.str (Ji 256 0)))):=by
 refine dd Tryz.func276 ?_
 have c1:=QiC 256 (by omega)
 (unfold Tryz.f276; refine rn trivial ?_)
 refine rn F ?_
 repeat' (first
  | with_reducible exact⟨⟩
  | refine vp F (c1) ?_)
def QAb(x:Pg)(i:Nat)(h:i<16):x.d[2+i*2+1]?=some (.pv (.str (x.cel i).data)):=by
 have:i=0\/i=1\/i=2\/i=3\/i=4\/i=5\/i=6\/i=7\/i=8\/i=9\/i=10\/i=11\/i=12\/i=13\/i=14\/i=15:=by omega
 rcases this with h | h | h | h | h | h | h | h | h | h | h | h | h | h | h | h<;>subst h<;>rfl
def Qy1(h:QaI p=0)(i:Nat)(hi:i<16):(p.cel i).data.length<=12:=by
 have:=Qtn h
 unfold Pg.okB Pg.celB at this
 simp only[Jh,Jt,Jv] at this
 have:=this.2 i hi
 unfold Pg.celC Ce.okB at this
 simp only[Jh,decide_eq_true_eq] at this
 exact this.1.1
def QlG(p:Pg):VCalls prog 145 [.agg p.d] [] (Qz siD fun a=>a.1.length<=256):=by
 refine dd Tryz.func145 ?_
 have c1:=Qdn p
 have hcel:=Qy1 (p:=p)
 by_cases hk:QaI p=0
 rotate_left
 ·generalize QaI p = k at *
  (unfold Tryz.f145; refine rn trivial ?_)
  have F:=@hk
  refine rn F ?_
  repeat' (first
   | with_reducible exact⟨⟩
   | refine vp F (c1) ?_)
  exact⟨rfl,rfl,([],k),rfl,Jf _⟩
 rw[hk] at c1
 have hcel:=hcel hk
 have c2:=QS [] (by simp) p.lsn 8 (by omega) (by omega)
 have c3:=QS (Qj [] p.lsn 8) (by rw[Qb]; simp) p.id 4 (by omega) (by omega)
 have hl0:(Qj (Qj [] p.lsn 8) p.id 4).length=12:=by rw[Qb,Qb]; rfl
 (unfold Tryz.f145; refine rn trivial ?_)
 have F:=trivial
 refine rn F ?_
 repeat' (first
  | with_reducible exact⟨⟩
  | refine vp F (c1) ?_
  | refine vp F (c2) ?_
  | refine vp F (c3) ?_)
 generalize Qj (Qj [] p.lsn 8) p.id 4=s0 at *
 refine Qg (fun s:{s:Nat×List UInt8 // s.1<=16/\s.2.length=12+13*s.1}=>⟨69,0,[(6,.int .i64 s.1.1),(5,.pv (.str s.1.2)),(1,.ptr 0 0)],[⟨207,true,p.d⟩]⟩) (fun s=>16-s.1.1) ⟨(0,s0),by simp; exact hl0⟩ (gc [0]) ?_
 rintro⟨⟨i,t⟩,hi,ht⟩
 dsimp only at hi ht |-
 have hg:=fun h:i<16=>Qny p i h
 have hg0:=fun h:i<16=>Qts p i h
 have hg1:=fun h:i<16=>QAb p i h
 have hdl:=fun h:i<16=>hcel i h
 generalize p.cel i=c at *
 have d1:=fun n=>QS t (by omega) n 1 (by omega) (by omega)
 have hpl:=fun n=>Qb t n 1
 by_cases hi16:i<16
 ·have hdl:=hdl hi16
  have d2:=QiC (12-c.data.length) (by omega)
  rw[show((12-c.data.length:Nat):Int)=12-(c.data.length:Int) by omega] at d2
  have hcd:(c.data++Ji (12-c.data.length) (0:UInt8)).length=12:=by rw[Jb,Jo]; omega
  have hadd:=fun n=>QcR (a:=Qj t n 1) (b:=c.data++Ji (12-c.data.length) (0:UInt8)) (by rw[hpl,hcd]; omega)
  have F:=(Ja @hg (Ja @hg0 (Ja @hg1 @hadd)))
  refine rn F ?_
  repeat' (first
   | with_reducible exact⟨⟩
   | (refine sB F ?_ ?_<;>intro hZ)
   | refine vp F (d1 _) ?_
   | refine vp F (d2) ?_
   | (refine Qc (id:=13) [0,1,2,3,4,5,6,7,8,9,10,11,12] [⟨[],[],13,[0,1,2,3,4,5,6,7,8,9,10,11],[14,15]⟩,⟨[],[],16,[],[]⟩] (by kernel_rfl) (by kernel_rfl) ?_; refine rn F ?_))
  ·exact⟨⟨(i+1,Qj t c.data.length 1++(c.data++Ji (12-c.data.length) 0)),by dsimp only; omega,by dsimp only; rw[Jb,Jb,Jo,hpl]; omega⟩,by dsimp only; omega,(gc [0])⟩
  ·exact⟨⟨(i+1,Qj t 255 1++(c.data++Ji (12-c.data.length) 0)),by dsimp only; omega,by dsimp only; rw[Jb,Jb,Jo,hpl]; omega⟩,by dsimp only; omega,(gc [0])⟩
 ·have hi:i = 16:=by omega
  subst hi
  have d2:=QiC (244-t.length) (by omega)
  rw[show((244-t.length:Nat):Int)=244-(t.length:Int) by omega] at d2
  have hle:(t++Ji (244-t.length) (0:UInt8)).length=244:=by rw[Jb,Jo]; omega
  obtain⟨u,hu⟩:∃ u,t++Ji (244-t.length) (0:UInt8)=u:=⟨_,rfl⟩
  rw[hu] at hle
  have d3:=QmK u (by omega)
  have d4:=fun n=>QS u (by omega) n 4 (by omega) (by omega)
  have hu4:=fun n=>Qb u n 4
  have d5:=fun n m=>QS (Qj u n 4) (by rw[hu4]; omega) m 8 (by omega) (by omega)
  have F:=@hu
  refine rn F ?_
  repeat' (first
   | with_reducible exact⟨⟩
   | refine vp F (d2) ?_
   | refine vp F (d3) ?_
   | refine vp F (d4 _) ?_
   | refine vp F (d5 _ _) ?_)
  exact⟨rfl,rfl,(Qj (Qj u _ 4) _ 8,0),rfl,by dsimp only; rw[Qb,hu4]; omega⟩
end
section
attribute [local go_sem] Qa5
@[go_sem] def piD(a:Pg×Int):DV:=.tup [.agg a.1.d,.int .i64 a.2]
def QuW(n:Int):VCalls prog 252 [.int .i64 n] [] (Ret (.agg (Pg.d ⟨n,0,fun _=>Ce0⟩))):=by
 refine dd Tryz.func252 ?_
 (unfold Tryz.f252; refine rn trivial ?_)
 rfl
def Qyu(s:List UInt8)(hs:s.length<=1000000):VCalls prog 251 [.pv (.str s)] [] (Qz piD fun _=>True):=by
 refine dd Tryz.func251 ?_
 have c1:=Qvi
 (unfold Tryz.f251; refine rn trivial ?_)
 by_cases hl:s.length=256
 rotate_left
 ·have hl':¬ (s.length:Int) = 256:=by omega
  have F:=@hl'
  refine rn F ?_
  exact⟨rfl,rfl,(Pg0,2),rfl,trivial⟩
 have c2:=fun(a k:Nat) (h:1<=k/\k<=8) (hh:a+k<=s.length)=>QhJ s (by omega) a k h hh
 have g1:=c2 244 4 (by omega) (by omega)
 have g2:=c2 0 8 (by omega) (by omega)
 have g3:=c2 8 4 (by omega) (by omega)
 have c3:=fun u h=>QmK u h
 have c4:=QlG
 have F:=@hl
 refine rn F ?_
 repeat' (first
  | with_reducible exact⟨⟩
  | (refine sB F ?_ ?_<;>intro hZ)
  | refine vp F (c1) ?_
  | refine vp F (g1) ?_
  | refine vp F (g2) ?_
  | refine vp F (g3) ?_
  | (refine vp F (c3 _ (by simp; omega)) ?_)
  | (refine Qc (id:=5) [0,1,2,3,4] [⟨[],[],5,[0,1,2,3],[]⟩] (by kernel_rfl) (by kernel_rfl) ?_; refine rn F ?_))
 all_goals first
  | exact⟨rfl,rfl,(Pg0,_),rfl,trivial⟩
  | skip
 refine Qg (fun r:{r:Nat×Pg // r.1<=16}=>⟨95,0,[(7,.int .i64 r.1.1),(6,.ptr 1 0),(2,.ptr 0 0),(0,.pv (.str s))],[⟨207,true,Pg0.d⟩,⟨207,true,r.1.2.d⟩]⟩) (fun r=>16-r.1.1) ⟨(0,⟨IntKind.i64.wrap (QeG s 8 4),IntKind.i64.wrap (QeG s 0 8),fun _=>Ce0⟩),by simp⟩ (gc [0,1]) ?_
 rintro⟨⟨i,p⟩,hi⟩
 dsimp only at hi |-
 have hgs:i<16->s[12+i*13]?=some (s.getD (12+i*13) 0):=fun h=>by rw[Jg,JB (by omega)]; rfl
 have hix:(12+(i:Int)*13).toNat=12+i*13:=by omega
 have hce:=fun(h:i<16) b d=>Qi7 p i h ⟨b,d⟩
 generalize hq:s.getD (12+i*13) 0=q at *
 have hqb:=q.toNat_lt
 have c5:=c4 p
 have F:=(Ja @hgs (Ja @hix (Ja @hce @hl)))
 refine rn F ?_
 repeat' (first
  | with_reducible exact⟨⟩
  | (refine sG F ?_ ?_<;>intro hZ)
  | (refine sB F ?_ ?_<;>intro hZ)
  | (refine Ql (c5) rfl ?_; rintro⟨t,e⟩ -; refine rn F ?_))
 all_goals first
  | exact⟨rfl,rfl,(Pg0,_),rfl,trivial⟩
  | exact⟨rfl,rfl,(p,0),rfl,trivial⟩
  | exact⟨⟨(i+1,p),by dsimp only; omega⟩,by dsimp only; omega,(gc [0,1])⟩
  | exact⟨⟨(i+1,p.setc i ⟨true,List.drop (12+(i:Int)*13+1).toNat (List.take (12+(i:Int)*13+1+q.toNat).toNat s)⟩),by dsimp only; omega⟩,by dsimp only; omega,(gc [0,1])⟩
  | skip
def Qu7(s:List UInt8)(hs:s.length<=1000000)(n:Int):VCalls prog 204 [.pv (.str s),.int .i64 n] [] (Qz piD fun a=>a.2=0->a.1.id=n):=by
 refine dd Tryz.func204 ?_
 have c1:=Qyu s hs
 have c2:=QuW n
 (unfold Tryz.f204; refine rn trivial ?_)
 refine rn F ?_
 repeat' (first
  | with_reducible exact⟨⟩
  | (refine sG F ?_ ?_<;>intro hZ)
  | (refine sB F ?_ ?_<;>intro hZ)
  | (refine Ql (c1) rfl ?_; rintro⟨p,e⟩ -; refine rn F ?_)
  | refine vp F (c2) ?_)
 all_goals first
  | exact⟨rfl,rfl,(Pg0,_),rfl,fun h=>by simp at h⟩
  | exact⟨rfl,rfl,(⟨n,0,fun _=>Ce0⟩,0),rfl,fun _=>rfl⟩
  | exact⟨rfl,rfl,(p,e),rfl,fun h=>by dsimp only at h |-; omega⟩
  | skip
def Qu3(l:List Rw)(hl:l.length<=64)(n hd:Int)(s:List UInt8)(hs:s.length<=1000000):VCalls prog 159 [.agg [.pv (.sl (fz Qb2 l))],.int .i64 n,.int .i64 hd,.pv (.str s)] [] (Qz piD fun a=>a.2=0->a.1.id=n):=by
 refine dd Tryz.func159 ?_
 have c1:=Qbw l (by omega)
 have c2:=Qu7 s hs n
 have hg:=fun h:n.toNat<l.length=>QkH l n.toNat h
 generalize ixB l=b at *
 (unfold Tryz.f159; refine rn trivial ?_)
 have F:=@hg
 refine rn F ?_
 repeat' (first
  | with_reducible exact⟨⟩
  | (refine sG F ?_ ?_<;>intro hZ)
  | (refine sB F ?_ ?_<;>intro hZ)
  | refine vp F (c1) ?_
  | (refine Ql (c2) rfl ?_; rintro⟨p,e⟩ hp; refine rn F ?_)
  | (refine Qc (id:=8) [0,1,2,3,4,5,6,7,8,9,10,11,12,13,14] [⟨[],[],15,[0,1,2,3,5,6,7,8,9,10,11,12,13],[]⟩] (by kernel_rfl) (by kernel_rfl) ?_; refine rn F ?_)
  | (refine Qc (id:=10) [0,1,2,3,4,5,6,7,8] [⟨[],[],9,[0,1,2,3,4,5,6,7],[]⟩] (by kernel_rfl) (by kernel_rfl) ?_; refine rn F ?_))
 all_goals first
  | exact⟨rfl,rfl,(Pg0,e),rfl,fun h=>absurd h (by assumption)⟩
  | (focus (refine⟨rfl,rfl,(Pg0,_),rfl,fun h=>?_⟩; simp at h; done))
  | exact⟨rfl,rfl,(p,0),rfl,fun _=>hp (by dsimp only; omega)⟩
  | skip
end
section
attribute [local go_sem] Qa5
theorem QDG(e:E)(l:List E):(.pv (.lit (.int .i64 e.lsn))::.pv (.lit (.int .i64 e.kind))::.pv (.lit (.int .i64 e.tx))::.pv (.lit (.int .i64 e.ptx))::.pv (.lit (.int .i64 e.ppg))::.pv (.lit (.int .i64 e.ref))::.pv (.lit (.int .i64 e.c.pg))::.pv (.lit (.int .i64 e.c.sl))::.pv (.lit (.bool e.c.b.set))::.pv (.str e.c.b.data)::.pv (.lit (.bool e.c.a.set))::.pv (.str e.c.a.data)::.pv (.str e.blob)::cells encE l:List DV)=cells encE (e::l):=rfl
def Qu9(e:E)(l:List E)(hl:l.length<=100000):VCalls prog 280 [.agg e.d,.pv (.sl (fz encE l))] [] (Ret (.pv (.sl (fz encE (e::l))))):=by
 refine dk Tryz.func280 ?_
 have hc:=QDG e l
 have hb:(1+l.length)*128<=140737488355328:=by omega
 have hlen:(e::l).length=1+l.length:=by simp; omega
 (unfold Tryz.f280; refine rn (Ja @hc (Ja @hb @hlen)) ?_; try with_reducible exact⟨⟩)
@[go_sem] def esD(a:List E×Int):DV:=.tup [.pv (.sl (fz encE a.1)),.int .i64 a.2]
def Ql9{x:Lg}{n:Int}(h:(Qbj x n).2=0):lgB x=true/\x.f<=n/\n<=x.end_/\(Qbj x n).1.lsn=n/\(Qbj x n).1.okB=true:=by
 unfold Qbj at h |-
 split at h
 ·simp at h
 rename_i q1
 split at h
 ·simp at h
 rename_i q2
 rw[if_neg q1,if_neg q2]
 have hv:lgB x=true:=by simpa using q1
 have hv2:=hv
 unfold lgB at hv2
 simp only[Jh,Jt,Jv] at hv2
 have hd:=hv2.1
 simp only[decide_eq_true_eq,Lg.hd] at hd
 have:=hv2.2 (n-x.f).toNat (by simp only[Lg.end_] at q2; omega)
 unfold lgC at this
 simp only[Jh,decide_eq_true_eq] at this
 dsimp only
 exact⟨hv,by omega,by omega,by omega,this.2⟩
def QyZ{e:E}(h:e.okB=true):0<=e.ppg/\e.ppg<e.lsn:=by
 unfold E.okB bef at h
 simp only[Jh,decide_eq_true_eq] at h
 omega
structure Ch7(x:Lg) where
 at_:Int
 out:List E
 ok:out=[]\/at_+out.length<=x.f+x.es.length
 nn:0<=at_
 le:out.length<=4097
def Qvh(x:Lg)(hx:x.es.length<=4096)(pg last above:Int):VCalls prog 277 [.agg x.c,.int .i64 pg,.int .i64 last,.int .i64 above] [] (Qz esD fun a=>a.1.length<=4097):=by
 refine dk Tryz.func277 ?_
 have c1:=Qae x (by omega)
 have c2:=QhK x (by omega)
 have hok:=@Ql9 x
 (unfold Tryz.f277; refine rn trivial ?_)
 cases hv:lgB x
 ·rw [hv] at c1
  refine rn F ?_
  repeat' (first
   | with_reducible exact⟨⟩
   | refine vp F (c1) ?_)
  exact⟨rfl,rfl,([],26),rfl,Jf _⟩
 rw[hv] at c1
 have hd:=Qan hv
 simp only[Lg.hd] at hd
 refine rn F ?_
 repeat' (first
  | with_reducible exact⟨⟩
  | (refine sG F ?_ ?_<;>intro hZ)
  | (refine sB F ?_ ?_<;>intro hZ)
  | refine vp F (c1) ?_)
 all_goals first
  | exact⟨rfl,rfl,([],1),rfl,Jf _⟩
  | skip
 refine VLoop.wkS ?_
 refine rn trivial ?_
 refine Qg (fun s:Ch7 x=>⟨62,0,[(11,.int .i64 s.at_),(10,.pv (.sl (fz encE s.out))),(4,.ptr 0 0),(3,.int .i64 above),(1,.int .i64 pg)],[⟨34,true,x.c⟩]⟩) (fun s=>s.at_.toNat) ⟨last,[],.inl rfl,by omega,Jf _⟩ (gc [0]) ?_
 rintro⟨at_,out,ok,nn,le⟩
 dsimp only
 have c3:=c2 at_
 have hok:=hok (n:=at_)
 generalize Qbj x at_=g at *
 have c4:=Qb9 g.1
 have c5:=Qu9 g.1 out (by omega)
 refine rn F ?_
 repeat' (first
  | with_reducible exact⟨⟩
  | (refine sG F ?_ ?_<;>intro hZ)
  | (refine sB F ?_ ?_<;>intro hZ)
  | refine vp F (c3) ?_
  | refine vp F (c4) ?_
  | refine vp F (c5) ?_
  | (refine Qc (id:=13) [0,1,3,4] [⟨[],[],2,[3,4],[]⟩,⟨[],[],5,[3,4],[]⟩,⟨[],[],6,[],[]⟩] (by kernel_rfl) (by kernel_rfl) ?_; refine rn F ?_))
 all_goals first
  | exact⟨rfl,rfl,([],_),rfl,Jf _⟩
  | exact⟨rfl,rfl,(out,0),rfl,le⟩
  | skip
 obtain⟨k1,k2,k3,k4,k5⟩:=hok (by omega)
 have hp:=QyZ k5
 simp only[Lg.end_] at k3
 have ho:at_+out.length<=x.f+x.es.length:=by
  rcases ok with rfl | ok
  ·simp; omega
  ·exact ok
 exact⟨⟨g.1.ppg,g.1::out,.inr (by simp only[Je]; omega),hp.1,by simp only[Je]; omega⟩,by dsimp only; omega,(gc [0])⟩
def QBq(c:Ch):VCalls prog 209 [.agg c.d] [] (Ret (.agg (Ch.d ⟨c.pg,c.sl,c.a,c.b⟩))):=by
 refine dd Tryz.func209 ?_
 (unfold Tryz.f209; refine rn trivial ?_; try with_reducible exact⟨⟩)
def Qy0{c:Ch}(h:c.okB=true):0<=c.sl/\c.sl<16:=by
 unfold Ch.okB at h
 simp only[Jh,decide_eq_true_eq] at h
 omega
def QCj{a b:Ce}(h:a.set=b.set/\a.data=b.data):a=b:=by
 obtain⟨_,_⟩:=a; obtain⟨_,_⟩:=b; obtain⟨rfl,rfl⟩:=h; rfl
def QCx(a c:Bool)(b d:List UInt8):Q5 [.pv (.lit (.bool a)),.pv (.str b)] [.pv (.lit (.bool c)),.pv (.str d)] [(0,0),(1,2)]=some (a==c&&b==d):=by simp[Q5,QbJ]
def QjX (p:Pg) (c:Ch):VCalls prog 210 [.agg p.d,.agg c.d] [] (Qz piD fun a=>a.2 = 0->a.1.id = p.id/\p.cel c.sl.toNat = c.b):=by
 refine dd Tryz.func210 ?_
 have c1:=Qrv c
 have hs:=Qy0 (c:=c)
 (unfold Tryz.f210; refine rn trivial ?_)
 cases hv:c.okB
 ·rw [hv] at c1
  refine rn F ?_
  repeat' (first
   | with_reducible exact⟨⟩
   | refine vp F (c1) ?_)
  exact⟨rfl,rfl,(Pg0,22),rfl,fun h=>by simp at h⟩
 rw[hv] at c1
 obtain⟨s1,s2⟩:=hs hv
 obtain⟨i,hi⟩:∃ i:Nat,c.sl=i:=⟨c.sl.toNat,by omega⟩
 have hi16:i<16:=by omega
 have hg:=Qny p i hi16
 have hce:=Qi7 p i hi16 c.a
 have F:=(Ja @hi (Ja @hg (Ja @hce @QCx)))
 refine rn F ?_
 repeat' (first
  | with_reducible exact⟨⟩
  | (refine sB F ?_ ?_<;>intro hZ)
  | refine vl F (c1) ?_
  | (refine Qc (id:=5) [0,1,2,3,4,5,6,7] [⟨[],[],8,[0,1,2,3,4,5,6],[]⟩] (by kernel_rfl) (by kernel_rfl) ?_; refine rn F ?_))
 all_goals first
  | (refine ⟨rfl,rfl,(p.setc i c.a,0),rfl,fun _=>⟨rfl,?_⟩⟩
     first
      | (rw[hi,Jm]; exact QCj (by assumption))
      | exact QCj (by assumption))
  | (focus (refine⟨rfl,rfl,(Pg0,_),rfl,fun h=>?_⟩; simp at h; done))
  | skip
def Qvk(p:Pg)(e:E):VCalls prog 254 [.agg p.d,.agg e.d] [] (Qz piD fun a=>a.2=0->a.1.id=p.id):=by
 refine dd Tryz.func254 ?_
 have c1:=Qcr e
 have c2:=Qb9 e
 have c3:=Qdn p
 have c4:=QjX p e.c
 generalize e.okB=b at *
 generalize QaI p=k at *
 (unfold Tryz.f254; refine rn trivial ?_)
 refine rn F ?_
 repeat' (first
  | with_reducible exact⟨⟩
  | (refine sG F ?_ ?_<;>intro hZ)
  | (refine sB F ?_ ?_<;>intro hZ)
  | refine vp F (c1) ?_
  | refine vp F (c2) ?_
  | refine vp F (c3) ?_
  | (refine Ql (c4) rfl ?_; rintro⟨q,er⟩ hq; refine rn F ?_))
 all_goals first
  | exact⟨rfl,rfl,(⟨q.id,e.lsn,q.cel⟩,0),rfl,fun _=>(hq (by dsimp only; omega)).1⟩
  | exact⟨rfl,rfl,(Pg0,er),rfl,fun h=>absurd h (by assumption)⟩
  | exact⟨rfl,rfl,(Pg0,k),rfl,fun h=>absurd h (by assumption)⟩
  | (focus (refine⟨rfl,rfl,(Pg0,_),rfl,fun h=>?_⟩; simp at h; done))
  | skip
def Qra(x:Lg)(hx:x.es.length<=4096)(p:Pg)(n:Int):VCalls prog 253 [.agg x.c,.agg p.d,.int .i64 n] [] (Qz esD fun a=>a.1.length<=4097):=by
 refine dk Tryz.func253 ?_
 have c1:=Qae x (by omega)
 have c2:=Qdn p
 have c3:=Qvh x hx
 generalize lgB x=b at *
 generalize QaI p=k at *
 (unfold Tryz.f253; refine rn trivial ?_)
 refine rn F ?_
 repeat' (first
  | with_reducible exact⟨⟩
  | (refine sB F ?_ ?_<;>intro hZ)
  | refine vp F (c1) ?_
  | refine vp F (c2) ?_
  | (refine Ql (c3 _ _ _) rfl ?_; rintro⟨l,e⟩ hl; refine rn F ?_))
 all_goals first
  | exact⟨rfl,rfl,([],_),rfl,Jf _⟩
  | exact⟨rfl,rfl,(l,e),rfl,hl⟩
  | skip
@[go_sem] def QEF(a:Pg×Int×Int):DV:=.tup [.agg a.1.d,.int .i64 a.2.1,.int .i64 a.2.2]
def QuT(x:Lg)(hx:x.es.length<=4096)(p:Pg)(n:Int):VCalls prog 205 [.agg x.c,.agg p.d,.int .i64 n] [] (Qz QEF fun a=>a.2.2=0->a.1.id=p.id):=by
 refine dk Tryz.func205 ?_
 have c1:=Qra x hx p n
 (unfold Tryz.f205; refine rn trivial ?_)
 refine rn F ?_
 repeat' (first
  | with_reducible exact⟨⟩
  | (refine sB F ?_ ?_<;>intro hZ)
  | (refine Ql (c1) rfl ?_; rintro⟨l,e⟩ hl; refine rn F ?_))
 all_goals first
  | exact⟨rfl,rfl,(Pg0,0,e),rfl,fun h=>absurd h (by assumption)⟩
  | skip
 dsimp only at hl
 refine Qg (fun s:{s:Nat×Pg // s.1<=l.length/\s.2.id=p.id}=>⟨45,0,[(11,.int .i64 s.1.1),(9,.pv (.sl (fz encE l))),(6,.ptr 1 0),(4,.ptr 0 0)],[⟨207,true,s.1.2.d⟩,⟨207,true,Pg0.d⟩]⟩) (fun s=>l.length-s.1.1) ⟨(0,p),Jf _,rfl⟩ (gc [1,2]) ?_
 rintro⟨⟨i,q⟩,hi,hq⟩
 dsimp only at hi hq |-
 have hg:=fun h:i<l.length=>Qma l i h
 have c2:=Qvk q (l.getD i E0)
 have F:=@hg
 refine rn F ?_
 repeat' (first
  | with_reducible exact⟨⟩
  | (refine sB F ?_ ?_<;>intro hZ)
  | (refine Ql (c2) rfl ?_; rintro⟨q2,e2⟩ hq2; refine rn F ?_)
  | (refine Qc (id:=7) [0,1,2,3,4] [⟨[],[],5,[1,2,3],[6,7,8]⟩,⟨[],[],9,[8],[]⟩,⟨[],[],10,[],[]⟩] (by kernel_rfl) (by kernel_rfl) ?_; refine rn F ?_))
 all_goals first
  | exact⟨rfl,rfl,(Pg0,0,e2),rfl,fun h=>absurd h (by assumption)⟩
  | exact⟨rfl,rfl,(q,l.length,0),rfl,fun _=>hq⟩
  | exact⟨⟨(i+1,q2),by dsimp only; omega,(hq2 (by dsimp only; omega)).trans hq⟩,by dsimp only; omega,(gc [0,1])⟩
  | skip
def Qyo(x:Lg)(hx:x.es.length<=4096)(p:Pg)(n:Int):VCalls prog 160 [.agg x.c,.agg p.d,.int .i64 n] [] (Qz piD fun a=>a.2=0->a.1.id=p.id):=by
 refine dd Tryz.func160 ?_
 have c1:=QuT x hx p n
 (unfold Tryz.f160; refine rn trivial ?_)
 refine rn F ?_
 repeat' (first
  | with_reducible exact⟨⟩
  | (refine Ql (c1) rfl ?_; rintro⟨q,m,e⟩ hq; refine rn F ?_))
 exact⟨rfl,rfl,(q,e),rfl,hq⟩
end
section
attribute [local go_sem] Qa5
structure Sv where
 k:Kn
 v:Dv
@[go_sem] def Sv.d(s:Sv):List DV:=[.int .i64 s.k.pg,.int .i64 s.k.nx,.int .i64 s.k.lg.f,.pv (.sl (fz encE s.k.lg.es)),.int .i64 s.k.lg.d,.int .i64 s.k.pl.size,.pv (.sl (fz Qco s.k.pl.fs)),.int .i64 s.k.pl.hand,.pv (.sl (fz Qak s.k.lk.held)),.pv (.sl (fz Qak s.k.lk.wait)),.pv (.sl (fz Qaf s.k.tx)),.pv (.sl (fz Qb2 s.k.ix)),.pv (.sl (fz QcG s.k.la)),.pv (.sl (fz Qdv s.v.ps)),.int .i64 s.v.wr,.pv (.sl []),.bool s.v.dead,.pv (.sl [])]
def Sv0:Sv:=⟨Kn0,Dv0⟩
def Sv.sm(s:Sv):Prop:=s.k.sm/\s.v.ps.length<=64
def Qde:Sv0.sm:=⟨QbQ,Jf _⟩
@[go_sem] def svD(a:Sv×Int):DV:=.tup [.agg a.1.d,.int .i64 a.2]
def Zv:List DV:=[.int .i64 0,.int .i64 0,.int .i64 0,.pv (.slc []),.int .i64 0,.int .i64 0,.pv (.slc []),.int .i64 0,.pv (.slc []),.pv (.slc []),.pv (.slc []),.pv (.slc []),.pv (.slc []),.pv (.slc []),.int .i64 0,.pv (.slc []),.bool false,.pv (.slc [])]
def Qps(k:Kn)(x:Pg)(a:Sv×Int):Prop:=a.1.sm/\(a.2=0->∃ e',AddOk k (QDV x.id x.lsn) e'/\a.1.k.tx=k.tx/\(0<=Qbe k.pl x.id->a.1.k=k.wrt e'/\(QaH k.pl x.id x.lsn).2=0))
def Qhr(hq:Qps k x a)(h:a.2=0)(hp:plB k.pl=true)(hi:i<k.pl.fs.length)(hid:idF k.pl.fs x.id=i)(hx:(k.pl.fs.getD i Fm0).pg=x)(hu:(k.pl.fs.getD i Fm0).dirty=true):Str 0 k a.1.k/\a.1.k.pl=(QaH k.pl x.id x.lsn).1/\a.1.k.tx=k.tx:=by
 obtain⟨e',ha,h1,h2⟩:=hq.2 h
 have hf:Qbe k.pl x.id=i:=by unfold Qbe; rw[if_pos hp]; exact hid
 obtain⟨h3,h4⟩:=h2 (by rw[hf]; omega)
 obtain⟨_,_,s3,s4,_⟩:=ha.2.1
 refine⟨by rw[h3]; exact .one (.wrt ha rfl ⟨i,hi,hid,by rw[hx]; rfl,h4,hu⟩),?_,h1⟩
 rw[h3]
 unfold Kn.wrt
 rw[s3,s4]
 rfl
def QmJ (s:Sv) (hs:s.v.ps.length<=64) (k:Kn) (hk:k.sm) (x:Pg):VCalls prog 127 [.agg s.d,.agg k.d,.agg x.d] [] (Qz svD (Qps k x)):=by
 refine dk Tryz.func127 ?_
 have c1:=QlG x
 have c2:=fun(t:List UInt8) (h:t.length<=256)=>Qrm s.v (by omega) x.id t (by omega)
 have c3:=Qn8 k hk x.id x.lsn
 (unfold Tryz.f127; refine rn trivial ?_)
 refine rn F ?_
 repeat' (first
  | with_reducible exact⟨⟩
  | (refine sB F ?_ ?_<;>intro hZ)
  | (refine Ql (c1) rfl ?_; rintro⟨t,e1⟩ ht; refine rn F ?_)
  | (refine Ql (c2 t ht) rfl ?_; rintro⟨v1,e2⟩ hv; refine rn F ?_)
  | (refine Ql (c3) rfl ?_; rintro⟨k1,e3⟩ hq; refine rn F ?_))
 all_goals first
  | exact⟨rfl,rfl,(Sv0,e2),rfl,Qde,fun h=>absurd h (by assumption)⟩
  | exact⟨rfl,rfl,(Sv0,e3),rfl,Qde,fun h=>absurd h (by assumption)⟩
  | (have q:=hq.2 (by dsimp only; omega)
     exact⟨rfl,rfl,(⟨k1,v1⟩,0),rfl,⟨hq.1,hv⟩,fun _=>q⟩)
  | skip
def Qc8(l:List Fm):Nat:=l.countP (·.dirty)
def Qh2(l:List Fm):Qc8 (l.map Fm.clr)=Qc8 l:=by
 unfold Qc8; rw[List.countP_map]; rfl
def SameF.dirty(h:SameF l m):Qc8 m=Qc8 l:=by
 rw[<- Qh2 m,<- Qh2 l,show m.map Fm.clr=l.map Fm.clr from h]
def QoN(l:List Fm)(i:Nat)(h:i<l.length)(hu:(l.getD i Fm0).dirty=true)(f:Fm)(hf:f.dirty=false):Qc8 (l.set i f)<Qc8 l:=by
 unfold Qc8
 rw[List.countP_set h]
 rw[Qd l i h] at hu
 have:0<l.countP (·.dirty):=List.countP_pos_iff.2 ⟨l[i],Ju h,hu⟩
 simp only[hu,hf,if_true]
 simp
 omega
def QoV(hp:plB p=true)(hi:i<p.fs.length)(h1:idF p.fs x.id=i)(h2:(p.fs.getD i Fm0).pg=x)(h3:(p.fs.getD i Fm0).dirty=true):Qc8 (QaH p x.id x.lsn).1.fs<Qc8 p.fs:=by
 unfold QaH
 rw[if_neg (by rw[hp]; decide),h1,if_neg (by omega),Jm,h2,if_neg (by omega),if_neg (by rw[h3]; decide)]
 refine QoN _ _ hi h3 _ ?_
 unfold QeA
 rw[h2,if_pos rfl]
def stQ(s:Sv)(a:Sv×Int):Prop:=a.1.sm/\(a.2=0->Str 0 s.k a.1.k/\a.1.k.tx=s.k.tx)
structure Rm(s0:Sv) where
 s:Sv
 sm:s.sm
 ev:Str 0 s0.k s.k
 tx:s.k.tx=s0.k.tx
def QuR(s:Sv)(hs:s.sm):VCalls prog 156 [.agg s.d] [] (Qz svD (stQ s)):=by
 refine dk Tryz.func156 ?_
 (unfold Tryz.f156; refine rn trivial ?_)
 refine Qg (fun r:Rm s=>⟨36,0,[(2,.ptr 1 0),(1,.ptr 0 0)],[⟨101,true,r.s.d⟩,⟨101,true,Zv⟩]⟩) (fun r=>Qc8 r.s.k.pl.fs) ⟨s,hs,Str.refl _,rfl⟩ (gc [0,1]) ?_
 rintro⟨s1,sm,ev,tx⟩
 dsimp only
 have c1:=Qyn s1.k sm.1
 have c2:=fun k hk x=>QmJ s1 sm.2 k hk x
 unfold Zv
 refine rn F ?_
 repeat' (first
  | with_reducible exact⟨⟩
  | (refine sB F ?_ ?_<;>intro hZ)
  | (refine Ql (c1) rfl ?_; rintro⟨k1,x,b,e⟩ hq; refine rn F ?_)
  | (refine Ql (c2 k1 hq.1 x) rfl ?_; rintro⟨s2,e2⟩ hq2; refine rn F ?_))
 ·exact⟨rfl,rfl,(Sv0,e),rfl,Qde,fun h=>absurd h (by assumption)⟩
 ·have q:=hq.2 (by dsimp only; omega)
  exact⟨rfl,rfl,(⟨k1,s1.v⟩,0),rfl,⟨hq.1,sm.2⟩,fun _=>⟨ev.trans q.1,q.2.1.trans tx⟩⟩
 ·exact⟨rfl,rfl,(Sv0,e2),rfl,Qde,fun h=>absurd h (by assumption)⟩
 ·have q:=hq.2 (by dsimp only; omega)
  obtain⟨p1,p2,i,p3,p4,p5,p6⟩:=q.2.2 (by dsimp only; first | assumption | simp_all)
  dsimp only at p1 p2 p3 p4 p5 p6
  obtain⟨r0,r1,r2⟩:=Qhr hq2 (by dsimp only; omega) p1 p3 p4 p5 p6
  have hlt:=QoV p1 p3 p4 p5 p6
  rw[p2.dirty] at hlt
  dsimp only at r0 r1 r2
  exact⟨⟨s2,hq2.1,(ev.trans q.1).trans r0,r2.trans (q.2.1.trans tx)⟩,by dsimp only; rw[r1]; exact hlt,(gc [0,1])⟩
def Qw9(s:Sv)(n:Int)(a:Sv×Int):Prop:=a.1.sm/\(a.2=0->Str 0 s.k a.1.k/\a.1.k.tx=s.k.tx/\0<=idF a.1.k.pl.fs n)
def Qea (s:Sv) (hs:s.sm) (n:Int):VCalls prog 132 [.agg s.d,.int .i64 n] [] (Qz svD (Qw9 s n)):=by
 refine dk Tryz.func132 ?_
 have c1:=QaQ s.k hs.1
 have c2:=Qcs s.k.pl (Jc hs.1.2.1 (by decide)) n
 have c3:=QuR s hs
 have c4:=fun(t:Sv) (h:t.sm)=>Qvc t.v (Jc h.2 (by decide)) n
 have c5:=fun(t:Sv) (h:t.sm)=>QlK t.k h.1 n
 have c6:=fun(t:Sv) (h:t.sm) (hd:Int) (b:List UInt8) (hb:b.length<=1000000)=>Qu3 t.k.ix h.1.2.2.2.2.1 n hd b hb
 have c7:=fun(t:Sv) (h:t.sm) (p:Pg) (hd:Int)=>Qyo t.k.lg h.1.1 p hd
 have c8:=fun(t:Sv) (h:t.sm) (p:Pg)=>QqS t.k h.1 p
 have hfi:0<=Qbe s.k.pl n->0<=idF s.k.pl.fs n:=fun h=>by unfold Qbe at h; split at h<;>omega
 have e0:∀ e,e≠0->Qw9 s n (Sv0,e):=fun e h=>⟨Qde,fun h2=>absurd h2 h⟩
 generalize Qbe s.k.pl n=fi at *
 (unfold Tryz.f132; refine rn trivial ?_)
 refine rn F ?_
 repeat' (first
  | with_reducible exact⟨⟩
  | (refine sG F ?_ ?_<;>intro hZ)
  | (refine sB F ?_ ?_<;>intro hZ)
  | (refine Ql (c1) rfl ?_; rintro b -; refine rn F ?_)
  | refine vp F (c2) ?_
  | (refine Ql (c3) rfl ?_; rintro⟨s1,e1⟩ hq1; refine rn F ?_)
  | (refine Ql (c4 s1 hq1.1) rfl ?_; rintro⟨t,e2⟩ ht; refine rn F ?_)
  | (refine Ql (c5 s1 hq1.1) rfl ?_; rintro hd -; refine rn F ?_)
  | (refine Ql (c6 s1 hq1.1 hd t (by have:=ht (by dsimp only; omega); dsimp only at this; omega)) rfl ?_; rintro⟨p,e3⟩ hp; refine rn F ?_)
  | (refine Ql (c7 s1 hq1.1 p hd) rfl ?_; rintro⟨p2,e4⟩ hp2; refine rn F ?_)
  | (refine Ql (c8 s1 hq1.1 p2) rfl ?_; rintro⟨k2,e5⟩ hq5; refine rn F ?_))
 all_goals first
  | exact⟨rfl,rfl,(s,0),rfl,hs,fun _=>⟨Str.refl _,rfl,hfi (by omega)⟩⟩
  | exact⟨rfl,rfl,(Sv0,_),rfl,e0 _ (by assumption)⟩
  | exact⟨rfl,rfl,(Sv0,15),rfl,e0 _ (by decide)⟩
  | exact⟨rfl,rfl,(Sv0,1),rfl,e0 _ (by decide)⟩
  | (have q1:=hq1.2 (by dsimp only; omega)
     have q5:=hq5.2 (by dsimp only; omega)
     have i3:=hp (by dsimp only; omega)
     have i4:=hp2 (by dsimp only; omega)
     dsimp only at q1 q5 i3 i4
     exact⟨rfl,rfl,(⟨k2,s1.v⟩,0),rfl,⟨hq5.1,hq1.1.2⟩,fun _=>⟨q1.1.trans q5.1,q5.2.2.1.trans q1.2,by dsimp only; have:=q5.2.2.2; rw[i4,i3] at this; exact this⟩⟩)
  | skip
end
section
attribute [local go_sem] Qa5
@[go_sem] def tiD(a:Tx×Int):DV:=.tup [.agg a.1.d,.int .i64 a.2]
@[go_sem] def ebD(a:E×Bool):DV:=.tup [.agg a.1.d,.bool a.2]
def Qqb(h:0<=idT l a):(Qa2 l a).id=a:=by
 rcases QB l a with hn | ⟨i,hi,hid,he⟩
 ·omega
 ·rw[QdG hid,Qd l i hi]; exact he
def QBm(k:Kn)(tx:Int)(a:Tx×Int):Prop:=a.1.l.length<=100000/\(a.2=0->VK k/\0<=idT k.tx tx/\a.1=Qa2 k.tx tx/\a.1.st≠1)
def Qdk(k:Kn)(h:k.sm)(tx:Int):VCalls prog 163 [.agg k.d,.int .i64 tx] [] (Qz tiD (QBm k tx)):=by
 refine dk Tryz.func163 ?_
 have c1:=QaQ k h
 obtain⟨h1,h2,h3,h4,h5,h6⟩:=h
 have c2:=QbX k.tx (Jc h4.1 (by decide)) tx
 have e0:∀ e,e≠0->QBm k tx (Tx0,e):=fun e h=>⟨by simp[Tx0],fun h2=>absurd h2 h⟩
 rcases QB k.tx tx with hn | ⟨i,hil,hid,_⟩
 ·rw [hn] at c2
  (unfold Tryz.f163; refine rn trivial ?_)
  refine rn F ?_
  repeat' (first
   | with_reducible exact⟨⟩
   | (refine sB F ?_ ?_<;>intro hZ)
   | (refine Ql (c1) rfl ?_; rintro b -; refine rn F ?_)
   | refine vp F (c2) ?_)
  all_goals exact⟨rfl,rfl,(Tx0,_),rfl,e0 _ (by decide)⟩
 rw[hid] at c2
 have hg:=QdO k.tx i hil
 have ht:(k.tx.getD i Tx0).l.length<=100000:=by rw[Qd _ _ hil]; exact(h4.2 _ (Ju hil)).1
 have he:Qa2 k.tx tx=k.tx.getD i Tx0:=by unfold Qa2; rw[hid]; rfl
 (unfold Tryz.f163; refine rn trivial ?_)
 have F:=@hg
 refine rn F ?_
 repeat' (first
  | with_reducible exact⟨⟩
  | (refine sB F ?_ ?_<;>intro hZ)
  | (refine Ql (c1) rfl ?_; rintro b hb; refine rn F ?_)
  | refine vp F (c2) ?_)
 all_goals first
  | exact⟨rfl,rfl,(k.tx.getD i Tx0,0),rfl,ht,fun _=>⟨hb (by assumption),by omega,he.symm,by assumption⟩⟩
  | exact⟨rfl,rfl,(Tx0,15),rfl,e0 _ (by decide)⟩
  | exact⟨rfl,rfl,(Tx0,16),rfl,e0 _ (by decide)⟩
  | skip
def QlZ(l:List Tx)(a:Int):Int:=(Qa2 l a).l.getD ((Qa2 l a).l.length-1) 0
def QiS(l:List Tx)(g:Lg)(a:Int):E:=(Qbj g (QlZ l a)).1
def Qy2(k:Kn)(tx:Int)(a:E×Bool):Prop:=a.2=true->VK k/\a.1=QiS k.tx k.lg tx/\(Qbj k.lg (QlZ k.tx tx)).2=0/\Qic k (Qa2 k.tx tx) a.1
def Qyy(k:Kn)(h:k.sm)(tx:Int):VCalls prog 165 [.agg k.d,.int .i64 tx] [] (Qz ebD (Qy2 k tx)):=by
 refine dk Tryz.func165 ?_
 have c1:=Qdk k h tx
 obtain⟨h1,h2,h3,h4,h5,h6⟩:=h
 have c2:=QhK k.lg (by omega)
 have e0:Qy2 k tx (E0,false):=fun h=>by cases h
 (unfold Tryz.f165; refine rn trivial ?_)
 refine Ql c1 rfl ?_
 rintro⟨t,e⟩ ⟨ht,hq⟩
 dsimp only at ht hq
 have hg:=fun h:t.l.length-1<t.l.length=>Q0 t.l (t.l.length-1) h
 have F:=@hg
 refine rn F ?_
 repeat' (first
  | with_reducible exact⟨⟩
  | (refine sG F ?_ ?_<;>intro hZ)
  | (refine sB F ?_ ?_<;>intro hZ)
  | refine vp F (c2 _) ?_
  | (refine Qc (id:=2) [0,1,2,3,4,5,6,7,8,9,10,11,12,13,14,15,16,17,18,19,20] [] (by kernel_rfl) (by kernel_rfl) ?_; refine rn F ?_)
  | (refine Qc (id:=4) [0,1,2,3,4,5,6,7,8,9] [⟨[14],[],10,[0,2,3,4,5,6,7,8],[11,12,13]⟩,⟨[14],[14],15,[13],[]⟩,⟨[],[],16,[],[]⟩] (by kernel_rfl) (by kernel_rfl) ?_; refine rn F ?_))
 all_goals first
  | exact⟨rfl,rfl,(E0,false),rfl,e0⟩
  | skip
 obtain⟨v,_,rfl,_⟩:=hq (by first | omega | simp_all)
 have hpos:0<(Qa2 k.tx tx).l.length:=by omega
 exact⟨rfl,rfl,((Qbj k.lg (QlZ k.tx tx)).1,_),rfl,fun h=>by
  have h0:(Qbj k.lg (QlZ k.tx tx)).2=0:=by simpa [QlZ] using h
  exact⟨v,rfl,h0,(Qa2 k.tx tx).l.length-1,by omega,h0,rfl,fun j h1 h2=>by omega⟩⟩
structure OfS(k:Kn)(t:Tx)(pg sl:Int) where
 i:Nat
 hi:i<=t.l.length
 no:∀ j,i<=j->j<t.l.length->(Qbj k.lg (t.l.getD j 0)).2=0->¬ ((Qbj k.lg (t.l.getD j 0)).1.c.pg=pg/\(Qbj k.lg (t.l.getD j 0)).1.c.sl=sl)
def QDm (k:Kn) (h:k.sm) (t:Tx) (ht:t.l.length<=100000) (pg sl:Int):VCalls prog 258 [.agg k.d,.agg t.d,.agg [.int .i64 pg,.int .i64 sl],.int .i64 t.l.length] [] (Qz ebD fun a=>a.2 = true->Qic k t a.1/\a.1.c.pg = pg):=by
 refine dk Tryz.func258 ?_
 obtain⟨h1,h2,h3,h4,h5,h6⟩:=h
 have c2:=QhK k.lg (by omega)
 (unfold Tryz.f258; refine rn trivial ?_)
 refine Qg (fun s:OfS k t pg sl=>⟨50,0,[(10,.int .i64 ((s.i:Int)-1)),(8,.ptr 3 0),(6,.ptr 2 0),(5,.ptr 1 0),(4,.ptr 0 0)],[⟨62,true,k.d⟩,⟨71,true,t.d⟩,⟨225,true,[.int .i64 pg,.int .i64 sl]⟩,⟨44,true,E0.d⟩]⟩) (fun s=>s.i) ⟨t.l.length,Jp _,fun j h1 h2=>by omega⟩ (gc [0,1,2,3]) ?_
 rintro⟨i,hi,no⟩
 dsimp only
 have hg:=fun h:i-1<t.l.length=>Q0 t.l (i-1) h
 have c3:=c2 (t.l.getD (i-1) 0)
 have hL:=fun(a1:i-1<t.l.length) (a2:(Qbj k.lg (t.l.getD (i-1) 0)).2=0) (a3:(Qbj k.lg (t.l.getD (i-1) 0)).1.c.pg=pg) (a4:(Qbj k.lg (t.l.getD (i-1) 0)).1.c.sl=sl)=>(⟨i-1,a1,a2,rfl,fun j h1 h2 h3=>by rw[a3,a4]; exact no j (by omega) h2 h3⟩:Qic k t (Qbj k.lg (t.l.getD (i-1) 0)).1)
 have hN:=fun(a:(Qbj k.lg (t.l.getD (i-1) 0)).2=0->¬ ((Qbj k.lg (t.l.getD (i-1) 0)).1.c.pg=pg/\(Qbj k.lg (t.l.getD (i-1) 0)).1.c.sl=sl))=>(fun j h1 h2 h3=>by
  rcases JL j i with h4 | h4
  ·obtain rfl:j = i - 1:=by omega
   exact a h3
  ·exact no j h4 h2 h3:∀ j,i-1<=j->j<t.l.length->(Qbj k.lg (t.l.getD j 0)).2=0->¬ ((Qbj k.lg (t.l.getD j 0)).1.c.pg=pg/\(Qbj k.lg (t.l.getD j 0)).1.c.sl=sl))
 generalize hgE:Qbj k.lg (t.l.getD (i-1) 0)=g at *
 have F:=@hg
 refine rn F ?_
 repeat' (first
  | with_reducible exact⟨⟩
  | (refine sG F ?_ ?_<;>intro hZ)
  | (refine sB F ?_ ?_<;>intro hZ)
  | refine vp F (c3) ?_
  | (refine Qc (id:=4) [0,1,2,3,4,5,6] [⟨[11],[],7,[0,2,3,4,5],[8,9,10]⟩,⟨[11],[11],12,[10],[]⟩,⟨[],[],13,[],[]⟩] (by kernel_rfl) (by kernel_rfl) ?_; refine rn F ?_))
 all_goals first
  | exact⟨rfl,rfl,(E0,false),rfl,fun h=>by cases h⟩
  | exact⟨rfl,rfl,(g.1,true),rfl,fun _=>⟨hL (by omega) (by omega) (by omega) (by omega),by dsimp only; omega⟩⟩
  | (refine ⟨⟨i - 1,by omega,hN (by omega)⟩,by dsimp only; omega,?_⟩
     dsimp only
     rw[show((i-1:Nat):Int)-1=(i:Int)-1-1 by omega]
     exact(gc [0,1,2,3]))
  | skip
def QjY (k:Kn) (h:k.sm) (tx pg sl:Int):VCalls prog 212 [.agg k.d,.int .i64 tx,.agg [.int .i64 pg,.int .i64 sl]] [] (Qz ebD fun a=>a.2 = true->Qic k (Qa2 k.tx tx) a.1/\a.1.c.pg = pg):=by
 refine dk Tryz.func212 ?_
 have c1:=Qdk k h tx
 (unfold Tryz.f212; refine rn trivial ?_)
 refine Ql c1 rfl ?_
 rintro⟨t,e⟩ ⟨ht,hq⟩
 have c2:=QDm k h t ht
 refine rn F ?_
 repeat' (first
  | with_reducible exact⟨⟩
  | (refine sG F ?_ ?_<;>intro hZ)
  | (refine sB F ?_ ?_<;>intro hZ)
  | (refine Ql (c2 _ _) rfl ?_; rintro⟨y,b⟩ hb; refine rn F ?_))
 all_goals first
  | exact⟨rfl,rfl,(E0,false),rfl,fun h=>by cases h⟩
  | (have he:=(hq (by first | omega | (dsimp only; omega) | simp_all)).2.2.1
     dsimp only at he
     rw[he] at hb
     exact⟨rfl,rfl,(y,b),rfl,hb⟩)
  | skip
def QA3(k:Kn)(pg:Int)(a:Kn×Rs):Prop:=a.1.sm/\(a.2.st=3->a.1=k/\a.2.pg=pg/\idF k.pl.fs pg<0)/\(a.2.st≠3->a.2.st≠5->a.2.st=1/\Str 0 k a.1/\k.lg.es.length<a.1.lg.es.length)/\(a.2.st=5->a.2.er≠0)
def Qyb(k:Kn)(e:E):k.lg.es.length<(k.set e).lg.es.length:=by
 unfold Kn.set Kn.add; simp
def QqM (k:Kn) (h:k.sm) (hv:VK k) (t:Tx) (hid:0<=idT k.tx t.id) (hta:Qa2 k.tx t.id = t) (hst:t.st ≠ 1) (e:E) (hla:Qic k t e):VCalls prog 166 [.agg k.d,.agg t.d,.agg e.d] [] (Qz krD (QA3 k e.c.pg)):=by
 refine dk Tryz.func166 ?_
 have h':=h
 obtain⟨h1,h2,h3,h4,h5,h6⟩:=h
 have c1:=Qgh k.pl (by omega) e.c.pg
 have hn:=QsA (a:=e.c.pg) hv.2.2.2.1
 have c2:=QBq e.c
 generalize hgg:Qep k.pl e.c.pg=g at *
 have c3:=QjX g.1 ⟨e.c.pg,e.c.sl,e.c.a,e.c.b⟩
 have c4:=QwO k h' ⟨0,2,t.id,0,0,e.lsn,⟨e.c.pg,e.c.sl,e.c.a,e.c.b⟩,[]⟩ (.inr rfl)
 have hf:∀ er,er≠0->QA3 k e.c.pg (k,Qau er):=fun er hr=>⟨h',fun h=>by simp[Qau] at h,fun _ h=>absurd rfl h,fun _=>hr⟩
 (unfold Tryz.f166; refine rn trivial ?_)
 refine rn F ?_
 repeat' (first
  | with_reducible exact⟨⟩
  | (refine sB F ?_ ?_<;>intro hZ)
  | refine vp F (c1) ?_
  | refine vp F (c2) ?_
  | (refine Ql (c3) rfl ?_; rintro⟨p1,e1⟩ hp1; refine rn F ?_)
  | (refine Ql (c4) rfl ?_; rintro⟨k1,e2⟩ hq; refine rn F ?_)
  | refine vp F (Qad _) ?_
  | (refine Ql (QjY k1 hq.1 _ _ _) rfl ?_; rintro⟨y,b⟩ -; refine rn F ?_)
  | (refine Ql (Qro k1.lk (Jc hq.1.2.2.1 (by decide)) _ _ _) rfl ?_; rintro u hu; refine rn F ?_)
  | (refine Qc (id:=3) [0,1,2,3,4] [⟨[],[],5,[1,2,3,4],[]⟩,⟨[],[],6,[],[]⟩] (by kernel_rfl) (by kernel_rfl) ?_; refine rn F ?_)
  | (refine Qc (id:=7) [0,1] [⟨[],[],2,[0],[]⟩,⟨[],[],3,[1],[]⟩,⟨[],[],4,[],[]⟩] (by kernel_rfl) (by kernel_rfl) ?_; refine rn F ?_)
  | (refine Qc (id:=10) [0,1] [⟨[],[],2,[0],[]⟩,⟨[],[],3,[1],[]⟩,⟨[],[],4,[],[]⟩] (by kernel_rfl) (by kernel_rfl) ?_; refine rn F ?_)
  | (refine Qc (id:=16) [0,1,2,3] [⟨[],[],4,[1,2,3],[]⟩,⟨[],[],5,[],[]⟩] (by kernel_rfl) (by kernel_rfl) ?_; refine rn F ?_))
 all_goals first
  | exact⟨rfl,rfl,(k,⟨3,0,e.c.pg,Ce0,0⟩),rfl,h',fun _=>⟨rfl,rfl,hn (by first | assumption | simp_all)⟩,fun h=>absurd rfl h,fun h=>by simp at h⟩
  | exact⟨rfl,rfl,(k,Qau _),rfl,hf _ (by assumption)⟩
  | skip
 all_goals
  obtain⟨e',q1,q2,q3⟩:=hq.2.1 (by dsimp only; omega)
  dsimp only at q3
  have qs:Str 0 k k1:=by
   rw[q3]
   exact .one (.undo q1 rfl ⟨hid,fun h=>by simp at h,fun _=>⟨by dsimp only; rw[hta]; exact hst,e,by dsimp only; rw[hta]; exact hla,rfl,rfl⟩,by dsimp only; rw[hgg]; first | assumption | simp_all,by dsimp only; rw[hgg]; exact(hp1 (by dsimp only; omega)).2⟩ q2)
  have ql:k.lg.es.length<k1.lg.es.length:=by rw[q3]; exact Qyb k e'
 all_goals first
  | exact⟨rfl,rfl,(k1,⟨1,t.id,0,Ce0,0⟩),rfl,hq.1,fun h=>by simp at h,fun _ _=>⟨rfl,qs,ql⟩,fun h=>by simp at h⟩
  | (obtain ⟨r1,r2,r3,r4,r5,r6⟩:=hq.1
     exact⟨rfl,rfl,(⟨k1.pg,k1.nx,k1.lg,k1.pl,u,k1.tx,k1.ix,k1.la⟩,⟨1,t.id,0,Ce0,0⟩),rfl,⟨r1,r2,Jc hu r3,r4,r5,r6⟩,fun h=>by simp at h,fun _ _=>⟨rfl,qs.step (.lock u),ql⟩,fun h=>by simp at h⟩)
  | skip
end
section
attribute [local go_sem] Qa5
def QBa(k:Kn)(tx:Int)(a:Kn×Rs):Prop:=a.1.sm/\(a.2.st=3->VK k/\a.1=k/\a.2.pg=(QiS k.tx k.lg tx).c.pg/\(Qbj k.lg (QlZ k.tx tx)).2=0/\idF k.pl.fs a.2.pg<0)/\(a.2.st≠3->a.2.st≠5->Str 0 k a.1/\k.lg.es.length<a.1.lg.es.length)/\(a.2.st=5->a.2.er≠0)
def QqT (k:Kn) (h:k.sm) (tx:Int):VCalls prog 134 [.agg k.d,.int .i64 tx] [] (Qz krD (QBa k tx)):=by
 refine dk Tryz.func134 ?_
 have c1:=Qdk k h tx
 have c2:=QdK k h ⟨0,5,tx,0,0,0,Ch0,[]⟩
 have c3:=Qyy k h tx
 have hf:∀ er,er≠0->QBa k tx (k,Qau er):=fun er hr=>⟨h,fun h=>by simp[Qau] at h,fun _ h=>absurd rfl h,fun _=>hr⟩
 (unfold Tryz.f134; refine rn trivial ?_)
 refine Ql c1 rfl ?_
 rintro⟨t,e⟩ ⟨ht,hq0⟩
 by_cases he:e=0
 rotate_left
 ·skip
  have F:=@he
  refine rn F ?_
  repeat' (first
   | with_reducible exact⟨⟩
   | refine vp F (Qad _) ?_
   | (refine Qc (id:=3) [0,1] [⟨[],[],2,[0],[]⟩,⟨[],[],3,[1],[]⟩,⟨[],[],4,[],[]⟩] (by kernel_rfl) (by kernel_rfl) ?_; refine rn F ?_))
  exact⟨rfl,rfl,(k,Qau e),rfl,hf _ he⟩
 obtain⟨hv,hi,rfl,hst⟩:=hq0 he
 subst he
 have hid:=Qqb hi
 have hta:Qa2 k.tx (Qa2 k.tx tx).id=Qa2 k.tx tx:=by rw[hid]
 have hid0:0<=idT k.tx (Qa2 k.tx tx).id:=by rw[hid]; exact hi
 have hfin:(Qa2 k.tx tx).st=3->(Qa2 k.tx tx).l.length=0->QCD k ⟨0,5,tx,0,0,0,Ch0,[]⟩:=fun a b=>⟨hi,fun h=>by simp at h,fun _=>⟨a,List.eq_nil_of_length_eq_zero b⟩⟩
 dsimp only at hst ht
 unfold Qy2 at c3
 generalize htt:Qa2 k.tx tx=t at *
 have F:=trivial
 refine rn F ?_
 repeat' (first
  | with_reducible exact⟨⟩
  | (refine sG F ?_ ?_<;>intro hZ)
  | (refine sB F ?_ ?_<;>intro hZ)
  | (refine Ql (c2) rfl ?_; rintro⟨k1,n1,e1⟩ hq; refine rn F ?_)
  | refine vp F (Qad _) ?_
  | (refine Ql (Qdl k1.lk (Jc hq.1.2.2.1 (by decide)) tx) rfl ?_; rintro u hu; refine rn F ?_)
  | (refine Ql (c3) rfl ?_; rintro⟨y,ok⟩ hy; refine rn F ?_)
  | (refine Ql (QqM k h hv t hid0 hta hst y (hy (by first | assumption | simp_all)).2.2.2) rfl ?_; rintro⟨k2,r2⟩ hq2; refine rn F ?_)
  | (refine Qc (id:=7) [0,1] [⟨[],[],2,[0],[]⟩,⟨[],[],3,[1],[]⟩,⟨[],[],4,[],[]⟩] (by kernel_rfl) (by kernel_rfl) ?_; refine rn F ?_)
  | (refine Qc (id:=12) [0] [⟨[],[],1,[0],[]⟩,⟨[],[],2,[],[]⟩,⟨[],[],3,[],[]⟩] (by kernel_rfl) (by kernel_rfl) ?_; refine rn F ?_))
 all_goals first
  | exact⟨rfl,rfl,(k,Qau _),rfl,hf _ (by first | assumption | decide)⟩
  | (obtain ⟨q1,q2,q3,q4,q5,q6,q7⟩:=QtJ hq (by omega)
     have qs:=QfS hq (by omega) (.inr (.inr rfl)) (hfin (by omega) (by omega))
     obtain⟨r1,r2,r3,r4,r5,r6⟩:=hq.1
     exact⟨rfl,rfl,(⟨k1.pg,k1.nx,k1.lg,k1.pl,u,k1.tx,k1.ix,k1.la⟩,⟨1,0,0,Ce0,0⟩),rfl,⟨r1,r2,Jc hu r3,r4,r5,r6⟩,fun h=>by simp at h,fun _ _=>⟨qs.step (.lock u),by dsimp only; omega⟩,fun h=>by simp at h⟩)
  | (obtain ⟨y1,y2,y3,_⟩:=hy (by first | assumption | simp_all)
     dsimp only at y2
     exact⟨rfl,rfl,(k2,r2),rfl,hq2.1,fun h=>⟨hv,(hq2.2.1 h).1,by rw[<- y2]; exact(hq2.2.1 h).2.1,y3,by rw[(hq2.2.1 h).2.1]; exact(hq2.2.1 h).2.2⟩,fun a b=>(hq2.2.2.1 a b).2,hq2.2.2.2⟩)
  | skip
def QCi(k:Kn)(pg:Int)(a:Kn×Rs):Prop:=a.1.sm/\(a.2.st=3->a.1=k/\a.2.pg=pg/\idF k.pl.fs pg<0)/\(a.2.st≠3->a.2.st≠5->a.2.tx≠0->Str 0 k a.1/\k.lg.es.length<a.1.lg.es.length)/\(a.2.st=5->a.2.er≠0)
def QyH (k:Kn) (h:k.sm) (tx pg sl:Int):VCalls prog 174 [.agg k.d,.int .i64 tx,.agg [.int .i64 pg,.int .i64 sl]] [] (Qz krD (QCi k pg)):=by
 refine dk Tryz.func174 ?_
 have c1:=Qdk k h tx
 have c3:=QjY k h tx pg sl
 have hf:∀ er,er≠0->QCi k pg (k,Qau er):=fun er hr=>⟨h,fun h=>by simp[Qau] at h,fun _ h=>absurd rfl h,fun _=>hr⟩
 (unfold Tryz.f174; refine rn trivial ?_)
 refine Ql c1 rfl ?_
 rintro⟨t,e⟩ ⟨ht,hq0⟩
 by_cases he:e=0
 rotate_left
 ·skip
  have F:=@he
  refine rn F ?_
  repeat' (first
   | with_reducible exact⟨⟩
   | refine vp F (Qad _) ?_
   | (refine Qc (id:=3) [0,1] [⟨[],[],2,[0],[]⟩,⟨[],[],3,[1],[]⟩,⟨[],[],4,[],[]⟩] (by kernel_rfl) (by kernel_rfl) ?_; refine rn F ?_))
  exact⟨rfl,rfl,(k,Qau e),rfl,hf _ he⟩
 obtain⟨hv,hi,rfl,hst⟩:=hq0 he
 subst he
 have hid:=Qqb hi
 have hta:Qa2 k.tx (Qa2 k.tx tx).id=Qa2 k.tx tx:=by rw[hid]
 have hid0:0<=idT k.tx (Qa2 k.tx tx).id:=by rw[hid]; exact hi
 dsimp only at hst ht
 generalize htt:Qa2 k.tx tx=t at *
 have F:=trivial
 refine rn F ?_
 repeat' (first
  | with_reducible exact⟨⟩
  | (refine sB F ?_ ?_<;>intro hZ)
  | refine vp F (Qad _) ?_
  | (refine Ql (c3) rfl ?_; rintro⟨y,ok⟩ hy; refine rn F ?_)
  | (refine Ql (QqM k h hv t hid0 hta hst y (hy (by first | assumption | simp_all)).1) rfl ?_; rintro⟨k2,r2⟩ hq2; refine rn F ?_)
  | (refine Qc (id:=5) [0] [⟨[],[],1,[0],[]⟩,⟨[],[],2,[],[]⟩,⟨[],[],3,[],[]⟩] (by kernel_rfl) (by kernel_rfl) ?_; refine rn F ?_))
 all_goals first
  | exact⟨rfl,rfl,(k,Qau _),rfl,hf _ (by first | assumption | decide)⟩
  | exact⟨rfl,rfl,(k,⟨1,0,0,Ce0,0⟩),rfl,h,fun h=>by simp at h,fun _ _ h=>absurd rfl h,fun h=>by simp at h⟩
  | (have y2:=(hy (by first | assumption | simp_all)).2
     dsimp only at y2
     rw[y2] at hq2
     exact⟨rfl,rfl,(k2,r2),rfl,hq2.1,hq2.2.1,fun h1 h2 _=>(hq2.2.2.1 h1 h2).2,hq2.2.2.2⟩)
  | skip
end
section
attribute [local go_sem] Qa5
def Ev.get(h:Ev x y)(h0:(Qbj x n).2=0):Qbj y n=Qbj x n:=by
 obtain⟨hv,h1,h2,_,_⟩:=Ql9 h0
 have hf:=h.f
 obtain⟨t,ht⟩:=h.pre
 have hv2:=h.ok hv
 have hl:y.es.length=x.es.length+t.length:=by rw[<- ht,Jb]
 have hd:=Qan hv
 simp only[Lg.hd] at hd
 unfold Qbj
 rw[if_neg (by rw[hv2]; decide),if_neg (by simp only[Lg.end_] at *; omega),if_neg (by rw[hv]; decide),if_neg (by omega)]
 rw[hf,<- ht]
 congr 1
 simp only[Lg.end_] at h2
 rw[Jg,Jg,JA (by omega)]
def QmL(s:Sv)(hs:s.sm)(tx:Int):VCalls prog 170 [.agg s.d,.int .i64 tx] [] (Qz boD fun _=>True):=by
 refine dd Tryz.func170 ?_
 have h4:=hs.1.2.2.2.1
 have c2:=QbX s.k.tx (Jc h4.1 (by decide)) tx
 rcases QB s.k.tx tx with hn | ⟨i,hil,hid,_⟩
 ·rw [hn] at c2
  (unfold Tryz.f170; refine rn trivial ?_)
  refine rn F ?_
  repeat' (first
   | with_reducible exact⟨⟩
   | refine vp F (c2) ?_)
  all_goals exact⟨rfl,rfl,_,rfl,trivial⟩
 rw[hid] at c2
 have hg:=QdO s.k.tx i hil
 (unfold Tryz.f170; refine rn trivial ?_)
 have F:=@hg
 refine rn F ?_
 repeat' (first
  | with_reducible exact⟨⟩
  | refine vp F (c2) ?_)
 all_goals exact⟨rfl,rfl,_,rfl,trivial⟩
def inP(l:List Fm)(a:Int):Nat:=if 0<=idF l a then 0 else 1
def Qw2(l:List Fm)(a:Int):inP l a<=1:=by unfold inP; split<;>omega
def rbM(tx:Int)(s:Sv):Nat:=2*(4096-s.k.lg.es.length)+inP s.k.pl.fs (QiS s.k.tx s.k.lg tx).c.pg
def Qvj(h:s.k.lg.es.length<t.k.lg.es.length)(hl:t.k.lg.es.length<=4096):rbM tx t<rbM tx s:=by
 have:=Qw2 t.k.pl.fs (QiS t.k.tx t.k.lg tx).c.pg
 unfold rbM; omega
def QmZ(ev:Ev s.k.lg t.k.lg)(hx:t.k.tx=s.k.tx)(h0:(Qbj s.k.lg (QlZ s.k.tx tx)).2=0)(h1:idF s.k.pl.fs (QiS s.k.tx s.k.lg tx).c.pg<0)(h2:0<=idF t.k.pl.fs (QiS s.k.tx s.k.lg tx).c.pg):rbM tx t<rbM tx s:=by
 have hl:=ev.len
 have e:QiS t.k.tx t.k.lg tx=QiS s.k.tx s.k.lg tx:=by unfold QiS; rw[hx,ev.get h0]
 unfold rbM
 rw[e]
 unfold inP
 rw[if_pos h2,if_neg (by omega)]
 omega
def evQ(s:Sv)(a:Sv×Int):Prop:=a.1.sm/\(a.2=0->Str 0 s.k a.1.k)
structure Re(s0:Sv) where
 s:Sv
 sm:s.sm
 ev:Str 0 s0.k s.k
def QlF(s:Sv)(hs:s.sm)(tx:Int):VCalls prog 171 [.agg s.d,.int .i64 tx] [] (Qz svD (evQ s)):=by
 refine dk Tryz.func171 ?_
 have c1:=QaQ s.k hs.1
 have c2:=QbX s.k.tx (Jc hs.1.2.2.2.1.1 (by decide)) tx
 have e0:∀ e,e≠0->evQ s (Sv0,e):=fun e h=>⟨Qde,fun h2=>absurd h2 h⟩
 (unfold Tryz.f171; refine rn trivial ?_)
 refine rn F ?_
 repeat' (first
  | with_reducible exact⟨⟩
  | (refine sB F ?_ ?_<;>intro hZ)
  | (refine Ql (c1) rfl ?_; rintro b -; refine rn F ?_)
  | refine vp F (c2) ?_)
 all_goals first
  | exact⟨rfl,rfl,(Sv0,15),rfl,e0 _ (by decide)⟩
  | exact⟨rfl,rfl,(Sv0,16),rfl,e0 _ (by decide)⟩
  | skip
 refine Qg (fun r:Re s=>⟨56,0,[(4,.ptr 1 0),(2,.ptr 0 0),(1,.int .i64 tx)],[⟨101,true,r.s.d⟩,⟨101,true,Zv⟩]⟩) (fun r=>rbM tx r.s) ⟨s,hs,Str.refl _⟩ (gc [0,1]) ?_
 rintro⟨s1,sm,ev⟩
 dsimp only
 unfold Zv
 have d1:=QmL s1 sm tx
 have d2:=QqT s1.k sm.1 tx
 have d3:=fun n=>Qea s1 sm n
 refine rn F ?_
 repeat' (first
  | with_reducible exact⟨⟩
  | (refine sB F ?_ ?_<;>intro hZ)
  | (refine Ql (d1) rfl ?_; rintro b2 -; refine rn F ?_)
  | (refine Ql (d2) rfl ?_; rintro⟨k1,r1⟩ hq; refine rn F ?_)
  | (refine Ql (d3 _) rfl ?_; rintro⟨s2,e2⟩ hq2; refine rn F ?_)
  | (refine Qc (id:=10) [0,1,2] [⟨[],[],3,[1,2],[]⟩,⟨[],[],4,[],[]⟩] (by kernel_rfl) (by kernel_rfl) ?_; refine rn F ?_))
 all_goals first
  | exact⟨rfl,rfl,(s1,0),rfl,sm,fun _=>ev⟩
  | exact⟨rfl,rfl,(Sv0,e2),rfl,e0 _ (by assumption)⟩
  | exact⟨rfl,rfl,(Sv0,r1.er),rfl,e0 _ (hq.2.2.2 (by assumption))⟩
  | skip
 ·obtain ⟨v,_,g1,g2,g3⟩:=hq.2.1 (by first | assumption | omega)
  have q2:=hq2.2 (by dsimp only; omega)
  dsimp only at g1 g3 q2
  rw[g1] at g3 q2
  exact⟨⟨s2,hq2.1,ev.trans q2.1⟩,QmZ q2.1.ev q2.2.1 g2 g3 q2.2.2,(gc [0,1])⟩
 ·have q:=hq.2.2.1 (by dsimp only; omega) (by dsimp only; omega)
  exact⟨⟨⟨k1,s1.v⟩,⟨hq.1,sm.2⟩,ev.trans q.1⟩,Qvj q.2 hq.1.1,(gc [0,1])⟩
end
section
attribute [local go_sem] Qa5
@[go_sem] def srD(a:Sv×Rs):DV:=.tup [.agg a.1.d,.agg a.2.d]
def QDi(s:Sv)(a:Sv×Rs):Prop:=a.1.sm/\(a.2.st=2->Str 0 s.k a.1.k)/\(a.2.st≠5->Str 1 s.k a.1.k)
def Qgc(s t:Sv)(h:t.sm)(e:Int):QDi s (t,Qau e):=⟨h,fun h=>by simp[Qau] at h,fun h=>absurd rfl h⟩
def Zr:List DV:=[.int .i64 0,.int .i64 0,.int .i64 0,.bool false,.pv (.str []),.int .i64 0]
def QBk (s:Sv) (hs:s.sm) (tx:Int) (a:Ac):VCalls prog 138 [.agg s.d,.int .i64 tx,.agg a.d] [] (Qz srD (QDi s)):=by
 refine dk Tryz.func138 ?_
 (unfold Tryz.f138; refine rn trivial ?_)
 refine Qg (fun r:Re s=>⟨79,0,[(7,.ptr 3 0),(6,.ptr 2 0),(5,.ptr 1 0),(3,.ptr 0 0),(1,.int .i64 tx)],[⟨101,true,r.s.d⟩,⟨176,true,a.d⟩,⟨101,true,Zv⟩,⟨173,true,Zr⟩]⟩) (fun r=>inP r.s.k.pl.fs a.pg) ⟨s,hs,Str.refl _⟩ (gc [0,1,2,3]) ?_
 rintro⟨s1,sm,ev⟩
 dsimp only
 unfold Zv Zr
 have d1:=QBp s1.k sm.1 tx a
 have d2:=fun(k:Kn) (hk:k.sm)=>Qea ⟨k,s1.v⟩ ⟨hk,sm.2⟩
 have d3:=fun(k:Kn) (hk:k.sm)=>QmL ⟨k,s1.v⟩ ⟨hk,sm.2⟩ tx
 have d4:=fun(k:Kn) (hk:k.sm)=>QlF ⟨k,s1.v⟩ ⟨hk,sm.2⟩ tx
 refine rn F ?_
 repeat' (first
  | with_reducible exact⟨⟩
  | (refine sG F ?_ ?_<;>intro hZ)
  | (refine sB F ?_ ?_<;>intro hZ)
  | (refine Ql (d1) rfl ?_; rintro⟨k1,r1⟩ hq; refine rn F ?_)
  | (refine Ql (d2 k1 hq.1 _) rfl ?_; rintro⟨s2,e2⟩ hq2; refine rn F ?_)
  | refine vp F (Qad _) ?_
  | (refine Ql (d3 k1 hq.1) rfl ?_; rintro b -; refine rn F ?_)
  | (refine Ql (d4 k1 hq.1) rfl ?_; rintro⟨s3,e3⟩ hq3; refine rn F ?_)
  | (refine Qc (id:=6) [0,1] [⟨[],[],2,[0],[]⟩,⟨[],[],3,[1],[]⟩,⟨[],[],4,[],[]⟩] (by kernel_rfl) (by kernel_rfl) ?_; refine rn F ?_)
  | (refine Qc (id:=12) [0,1] [⟨[],[],2,[0],[]⟩,⟨[],[],3,[1],[]⟩,⟨[],[],4,[],[]⟩] (by kernel_rfl) (by kernel_rfl) ?_; refine rn F ?_)
  | (refine Qc (id:=14) [0,1] [⟨[],[],2,[1],[]⟩,⟨[],[],3,[],[]⟩] (by kernel_rfl) (by kernel_rfl) ?_; refine rn F ?_))
 all_goals first
  | exact⟨rfl,rfl,(⟨k1,s1.v⟩,Qau e2),rfl,Qgc s ⟨k1,s1.v⟩ ⟨hq.1,sm.2⟩ e2⟩
  | exact⟨rfl,rfl,(⟨k1,s1.v⟩,Qau e3),rfl,Qgc s ⟨k1,s1.v⟩ ⟨hq.1,sm.2⟩ e3⟩
  | exact⟨rfl,rfl,(⟨k1,s1.v⟩,r1),rfl,⟨hq.1,sm.2⟩,fun h=>ev.trans (hq.2.2.1 h),fun h=>by
   by_cases h2:r1.st=2
   ·exact(ev.trans (hq.2.2.1 h2)).mono (by omega)
   ·exact ev.tr0 (hq.2.2.2 (by dsimp only at *; omega) h2 h)⟩
  | (have q3:=hq3.2 (by dsimp only; omega)
     exact⟨rfl,rfl,(s3,r1),rfl,hq3.1,fun h=>by dsimp only at h; omega,fun h=>ev.tr0 ((hq.2.2.2 (by dsimp only at *; omega) (by dsimp only at *; omega) h).tr q3)⟩)
  | skip
 obtain⟨g1,g2,g3,g4⟩:=hq.2.1 (by first | assumption | (dsimp only; omega))
 have q2:=hq2.2 (by dsimp only; omega)
 dsimp only at g1 g2 g3 g4 q2
 rw[g2] at q2
 refine⟨⟨s2,hq2.1,(ev.trans g4).trans q2.1⟩,?_,(gc [0,1,2,3])⟩
 unfold inP
 dsimp only
 rw[if_pos q2.2.2,if_neg (by omega)]
 omega
@[go_sem] def QD0(a:Sv×Int×Int):DV:=.tup [.agg a.1.d,.int .i64 a.2.1,.int .i64 a.2.2]
def QqY(s:Sv)(hs:s.sm):VCalls prog 110 [.agg s.d] [] (Qz QD0 fun a=>a.1.sm/\(a.2.2=0->Str 1 s.k a.1.k)):=by
 refine dk Tryz.func110 ?_
 have c1:=Qrc s.k hs.1
 (unfold Tryz.f110; refine rn trivial ?_)
 refine rn F ?_
 repeat' (first
  | with_reducible exact⟨⟩
  | (refine sB F ?_ ?_<;>intro hZ)
  | (refine Ql (c1) rfl ?_; rintro⟨k1,n1,e1⟩ hq; refine rn F ?_))
 all_goals first
  | exact⟨rfl,rfl,(Sv0,0,e1),rfl,Qde,fun h=>absurd h (by assumption)⟩
  | exact⟨rfl,rfl,(⟨k1,s.v⟩,n1,0),rfl,⟨hq.1,hs.2⟩,fun _=>by obtain⟨q1,q2,q3⟩:=hq.2 (by dsimp only; omega); dsimp only at q3; subst q3; exact .one (.begin q1 q2)⟩
  | skip
def mkR:∀ n:Nat,V.mk [.pv (.lit (.int .i64 0)),.pv (.lit (.int .i64 0)),.pv (.lit (.int .i64 0))] n = cells Qb2 (Ji n Rw0)
 | 0=>rfl
 | n + 1=>by
   show _++V.mk _ n=_
   rw[mkR n,List.replicate_succ]; rfl
def QmQ(n:Int):VCalls prog 107 [.int .i64 n] [] (Qz (fun a:List Rw×Int=>.tup [.agg [.pv (.sl (fz Qb2 a.1))],.int .i64 a.2]) fun a=>a.1.length<=64/\(a.2=0->a.1=Ji n.toNat Rw0)/\(1<=n->n<=64->a.2=0)):=by
 refine dk Tryz.func107 ?_
 (unfold Tryz.f107; refine rn trivial ?_)
 refine rn F ?_
 repeat' (first
  | with_reducible exact⟨⟩
  | (refine sG F ?_ ?_<;>intro hZ)
  | (refine sB F ?_ ?_<;>intro hZ))
 all_goals first
  | exact⟨rfl,rfl,([],1),rfl,Jf _,fun h=>by simp at h,fun _ _=>by omega⟩
  | skip
 obtain⟨m,rfl⟩:∃ m:Nat,n=m:=⟨n.toNat,by omega⟩
 have hc:((0:Int)<=(m:Int)/\(m:Int)<=(m:Int)/\((24:Nat):Int)*(m:Int)<=281474976710656/\(m:Int)<=9223372036854775807)=True:=eq_true ⟨by omega,by omega,by omega,by omega⟩
 have hmk:=mkR m
 have hlr:(Ji m Rw0).length=m:=Jo
 refine rn (Ja @hc (Ja @hmk @hlr)) ?_
 exact⟨rfl,rfl,(Ji m Rw0,0),rfl,by dsimp only; rw[hlr]; omega,fun _=>rfl,fun _ _=>rfl⟩
end
section
attribute [local go_sem] Qa5
def Lg1:Lg:=⟨1,[],0⟩
def QCB:lgB Lg1=true:=by decide
def Qyz:VCalls prog 108 [] [] (Ret (.agg Lg1.c)):=by
 refine dk Tryz.func108 ?_
 (unfold Tryz.f108; refine rn trivial ?_)
 rfl
def Qvr(n:Int):(Qhb n).1.fs=[]:=by unfold Qhb; split<;>rfl
def QqU(s:Sv)(hs:s.sm)(n:Int):VCalls prog 113 [.agg s.d,.int .i64 n] [] (Qz svD (evQ s)):=by
 refine dk Tryz.func113 ?_
 have c1:=Qva s.k hs.1 n
 have c2:=Qcs s.k.pl (Jc hs.1.2.1 (by decide)) n
 have c3:=fun k hk x=>QmJ s hs.2 k hk x
 have e0:∀ e,e≠0->evQ s (Sv0,e):=fun e h=>⟨Qde,fun h2=>absurd h2 h⟩
 (unfold Tryz.f113; refine rn trivial ?_)
 refine Ql c1 rfl ?_
 rintro⟨k1,x,e⟩ hq
 by_cases he:e=0
 rotate_left
 ·skip
  have F:=@he
  refine rn F ?_
  exact⟨rfl,rfl,(Sv0,e),rfl,e0 _ he⟩
 obtain⟨q1,q2,q3,q4,q5⟩:=hq.2 he
 dsimp only at q1 q2 q3 q4 q5
 subst he
 rcases QbN s.k.pl n with hn | ⟨hpl,i,hi,hfi,hif,hpg⟩
 ·omega
 have hx:(k1.pl.fs.getD i Fm0).pg=x:=by
  rw[q3,q4]; unfold Qep; rw[hfi,if_neg (by omega),Jm]
 have hxi:idF k1.pl.fs x.id=i:=by rw[<- hx,q4,hpg]; exact hif
 have hw:=fun(s2:Sv) (e2:Int) (hq2:Qps k1 x (s2,e2)) (h:e2=0) (hd:(s.k.pl.fs.getD i Fm0).dirty=true)=>(Qhr hq2 h (by rw[q4]; exact hpl) (by rw[q4]; exact hi) hxi hx (by rw[q4]; exact hd)).1
 dsimp only at hw
 rw[hfi] at c2
 have hg:=QbV s.k.pl.fs i hi
 generalize s.k.pl.fs.getD i Fm0=f at *
 have F:=@hg
 refine rn F ?_
 repeat' (first
  | with_reducible exact⟨⟩
  | (refine sB F ?_ ?_<;>intro hZ)
  | refine vp F (c2) ?_
  | (refine Ql (c3 k1 hq.1 x) rfl ?_; rintro⟨s2,e2⟩ hq2; refine rn F ?_)
  | (refine Qc (id:=4) [0,1,2,3,4,5,6,7] [⟨[],[],8,[0,1,2,3,4,5],[9,10,11,12]⟩] (by kernel_rfl) (by kernel_rfl) ?_; refine rn F ?_))
 all_goals first
  | exact⟨rfl,rfl,(s,0),rfl,hs,fun _=>Str.refl _⟩
  | exact⟨rfl,rfl,(s2,e2),rfl,hq2.1,fun h=>q1.trans (hw s2 e2 hq2 h (by first | assumption | simp_all))⟩
  | skip
end
section
attribute [local go_sem] Qa5
@[go_sem] def tbD(a:Tx×Bool):DV:=.tup [.agg a.1.d,.bool a.2]
def Qj1(k:Kn)(h:k.sm)(tx:Int):VCalls prog 162 [.agg k.d,.int .i64 tx] [] (Qz tbD fun _=>True):=by
 refine dk Tryz.func162 ?_
 have c1:=QaQ k h
 have c2:=QbX k.tx (Jc h.2.2.2.1.1 (by decide)) tx
 rcases QB k.tx tx with hn | ⟨i,hil,hid,_⟩
 ·rw [hn] at c2
  (unfold Tryz.f162; refine rn trivial ?_)
  refine rn F ?_
  repeat' (first
   | with_reducible exact⟨⟩
   | (refine sB F ?_ ?_<;>intro hZ)
   | (refine Ql (c1) rfl ?_; rintro b -; refine rn F ?_)
   | refine vp F (c2) ?_)
  all_goals exact⟨rfl,rfl,(Tx0,false),rfl,trivial⟩
 rw[hid] at c2
 have hg:=QdO k.tx i hil
 (unfold Tryz.f162; refine rn trivial ?_)
 have F:=@hg
 refine rn F ?_
 repeat' (first
  | with_reducible exact⟨⟩
  | (refine sB F ?_ ?_<;>intro hZ)
  | (refine Ql (c1) rfl ?_; rintro b hb; refine rn F ?_)
  | refine vp F (c2) ?_)
 all_goals first
  | exact⟨rfl,rfl,(k.tx.getD i Tx0,true),rfl,trivial⟩
  | exact⟨rfl,rfl,(Tx0,false),rfl,trivial⟩
  | skip
@[go_sem] def QEQ(a:Int×Int×Int×Bool):DV:=.tup [.int .i64 a.1,.agg [.int .i64 a.2.1,.int .i64 a.2.2.1],.bool a.2.2.2]
def Qoi(k:Kn)(h:k.sm)(tx:Int):VCalls prog 139 [.agg k.d,.int .i64 tx] [] (Qz QEQ fun _=>True):=by
 refine dk Tryz.func139 ?_
 have h3:=h.2.2.1
 have c1:=Qdj k.lk (by omega) tx
 have c2:=QmS k.lk (by omega) tx
 have c3:=fun n=>Qj1 k h n
 (unfold Tryz.f139; refine rn trivial ?_)
 refine rn F ?_
 repeat' (first
  | with_reducible exact⟨⟩
  | (refine sB F ?_ ?_<;>intro hZ)
  | (refine Ql (c1) rfl ?_; rintro⟨g,b⟩ -; refine rn F ?_)
  | (refine Ql (c2) rfl ?_; rintro l hl; refine rn F ?_))
 all_goals first
  | exact⟨rfl,rfl,(0,0,0,false),rfl,trivial⟩
  | skip
 refine Qg (fun s:To l.length=>⟨44,0,[(28,.int .i64 s.i),(27,.int .i64 l.length),(26,.pv (.sl (fz QR l))),(7,.ptr 2 0),(5,.ptr 1 0),(2,.ptr 0 0)],[⟨62,true,k.d⟩,⟨225,true,[.int .i64 0,.int .i64 0]⟩,⟨248,true,g.d⟩]⟩) (fun s=>l.length-s.i) ⟨0,Jf _⟩ (gc [0,1,2]) ?_
 rintro⟨i,hi⟩
 dsimp only
 have hx:=fun h:i<l.length=>Q0 l i h
 have F:=@hx
 refine rn F ?_
 repeat' (first
  | with_reducible exact⟨⟩
  | (refine sB F ?_ ?_<;>intro hZ)
  | (refine Ql (c3 _) rfl ?_; rintro⟨t,b3⟩ -; refine rn F ?_)
  | (refine Qc (id:=9) [0,1,2] [⟨[],[],3,[1,2],[]⟩,⟨[],[],4,[],[]⟩,⟨[],[],5,[],[]⟩] (by kernel_rfl) (by kernel_rfl) ?_; refine rn F ?_))
 all_goals first
  | exact⟨rfl,rfl,(_,g.pg,g.sl,true),rfl,trivial⟩
  | exact⟨rfl,rfl,(0,0,0,false),rfl,trivial⟩
  | exact⟨⟨i+1,by omega⟩,by dsimp only; omega,(gc [0,1,2])⟩
  | skip
def Qu0(k:Kn)(h:k.sm):VCalls prog 133 [.agg k.d] [] (Qz ilD fun l=>l.length<=65):=by
 refine dk Tryz.func133 ?_
 have h4:=h.2.2.2.1.1
 have c3:=fun n=>Qj1 k h n
 (unfold Tryz.f133; refine rn trivial ?_)
 refine VLoop.nilOwn 3 3 1 rfl ?_
 refine rn trivial ?_
 refine Qg (fun s:{s:Nat×List Int // s.1<=k.tx.length/\s.2.length<=s.1}=>⟨36,0,[(4,.int .i64 s.1.1),(3,.own 1 1 0 s.1.2.length),(1,.ptr 0 0)],[⟨62,true,k.d⟩,⟨3,true,cells QR s.1.2⟩]⟩) (fun s=>k.tx.length-s.1.1) ⟨(0,[]),by simp⟩ (gc [0,1]) ?_
 rintro⟨⟨i,out⟩,hi,ho⟩
 dsimp only at hi ho |-
 have hg:=fun h:i<k.tx.length=>QdO k.tx i h
 have hb:(out.length+1)*8<=140737488355328:=by omega
 have F:=(Ja @hg @hb)
 refine rn F ?_
 repeat' (first
  | with_reducible exact⟨⟩
  | (refine sB F ?_ ?_<;>intro hZ)
  | (refine Ql (c3 _) rfl ?_; rintro⟨t,b3⟩ -; refine rn F ?_)
  | (refine Qc (id:=5) [0,1,2,3,4,5,6] [⟨[11],[],7,[1,2,3,4,5],[8,9,10]⟩,⟨[11],[11],12,[10],[]⟩,⟨[],[],13,[],[]⟩] (by kernel_rfl) (by kernel_rfl) ?_; refine rn F ?_))
 all_goals first
  | exact⟨rfl,rfl,out,rfl,by omega⟩
  | exact⟨⟨(i+1,out),by dsimp only; omega,by dsimp only; omega⟩,by dsimp only; omega,(gc [0,1])⟩
  | exact⟨⟨(i+1,out++[(k.tx.getD i Tx0).id]),by dsimp only; omega,by simp; omega⟩,by dsimp only; omega,by dsimp only; rw[Jb]; exact(gc [0,4])⟩
  | skip
@[go_sem] def QEz(a:Sv×Nat×Int):DV:=.tup [.agg a.1.d,.int .i64 a.2.1,.int .i64 a.2.2]
def ceQ(s:Sv)(a:Sv×Nat×Int):Prop:=a.1.sm/\(a.2.2=0->Str 0 s.k a.1.k/\a.2.1+s.k.lg.es.length<=a.1.k.lg.es.length)
structure Rn(s0:Sv) where
 s:Sv
 n:Nat
 sm:s.sm
 ev:Str 0 s0.k s.k
 up:n+s0.k.lg.es.length<=s.k.lg.es.length
def QuQ(s:Sv)(hs:s.sm)(tx pg sl:Int):VCalls prog 140 [.agg s.d,.int .i64 tx,.agg [.int .i64 pg,.int .i64 sl]] [] (Qz QEz (ceQ s)):=by
 refine dk Tryz.func140 ?_
 (unfold Tryz.f140; refine rn trivial ?_)
 refine Qg (fun r:Rn s=>⟨57,0,[(9,.int .i64 r.n),(6,.ptr 2 0),(5,.ptr 1 0),(3,.ptr 0 0),(1,.int .i64 tx)],[⟨101,true,r.s.d⟩,⟨225,true,[.int .i64 pg,.int .i64 sl]⟩,⟨101,true,Zv⟩]⟩) (fun r=>2*(4096-r.s.k.lg.es.length)+inP r.s.k.pl.fs pg) ⟨s,0,hs,Str.refl _,by omega⟩ (gc [0,1,2]) ?_
 rintro⟨s1,n,sm,ev,up⟩
 have hle:=sm.1.1
 dsimp only
 unfold Zv
 have d1:=QyH s1.k sm.1 tx pg sl
 have d2:=fun p=>Qea s1 sm p
 refine rn F ?_
 repeat' (first
  | with_reducible exact⟨⟩
  | (refine sB F ?_ ?_<;>intro hZ)
  | (refine Ql (d1) rfl ?_; rintro⟨k1,r1⟩ hq; refine rn F ?_)
  | (refine Ql (d2 _) rfl ?_; rintro⟨s2,e2⟩ hq2; refine rn F ?_)
  | (refine Qc (id:=6) [0,1,2,3] [⟨[],[],4,[1,2,3],[]⟩,⟨[],[],5,[2,3],[]⟩,⟨[],[],6,[],[]⟩] (by kernel_rfl) (by kernel_rfl) ?_; refine rn F ?_))
 all_goals first
  | exact⟨rfl,rfl,(s1,n,_),rfl,sm,fun _=>⟨ev,up⟩⟩
  | skip
 ·obtain ⟨g1,g2,g3⟩:=hq.2.1 (by first | assumption | (dsimp only; omega))
  have q2:=hq2.2 (by dsimp only; omega)
  dsimp only at g1 g2 g3 q2
  rw[g2] at q2
  have hl:=q2.1.ev.len
  refine⟨⟨s2,n,hq2.1,ev.trans q2.1,by omega⟩,?_,(gc [0,1,2])⟩
  unfold inP
  dsimp only
  rw[if_pos q2.2.2,if_neg (by omega)]
  omega
 ·obtain ⟨qe,q⟩:=hq.2.2.1 (by dsimp only; omega) (by dsimp only; omega) (by dsimp only; omega)
  have hk:=hq.1.1
  have h1:=Qw2 k1.pl.fs pg
  dsimp only at q hk
  exact⟨⟨⟨k1,s1.v⟩,n+1,⟨hq.1,sm.2⟩,ev.trans qe,by dsimp only; omega⟩,by dsimp only; omega,(gc [0,1,2])⟩
end
section
attribute [local go_sem] Qa5
def QBr (s:Sv) (hs:s.sm) (tx:Int) (a:Ac):VCalls prog 124 [.agg s.d,.int .i64 tx,.agg a.d] [] (Qz srD (QDi s)):=by
 refine dk Tryz.func124 ?_
 (unfold Tryz.f124; refine rn trivial ?_)
 refine Qg (fun r:Re s=>⟨58,0,[(7,.ptr 3 0),(6,.ptr 2 0),(5,.ptr 1 0),(3,.ptr 0 0),(1,.int .i64 tx)],[⟨101,true,r.s.d⟩,⟨176,true,a.d⟩,⟨101,true,Zv⟩,⟨173,true,Zr⟩]⟩) (fun r=>4096-r.s.k.lg.es.length) ⟨s,hs,Str.refl _⟩ (gc [0,1,2,3]) ?_
 rintro⟨s1,sm,ev⟩
 dsimp only
 unfold Zv Zr
 have d1:=QBk s1 sm tx a
 have d2:=fun(t:Sv) (h:t.sm)=>Qoi t.k h.1 tx
 have d3:=fun(t:Sv) (h:t.sm)=>QuQ t h
 refine rn F ?_
 repeat' (first
  | with_reducible exact⟨⟩
  | (refine sB F ?_ ?_<;>intro hZ)
  | (refine Ql (d1) rfl ?_; rintro⟨s2,r2⟩ hq; refine rn F ?_)
  | (refine Ql (d2 s2 hq.1) rfl ?_; rintro⟨x,p,q,b⟩ -; refine rn F ?_)
  | (refine Ql (d3 s2 hq.1 _ _ _) rfl ?_; rintro⟨s3,n,e3⟩ hq3; refine rn F ?_)
  | refine vp F (Qad _) ?_
  | (refine Qc (id:=4) [0,1] [⟨[],[],2,[1],[]⟩,⟨[],[],3,[],[]⟩] (by kernel_rfl) (by kernel_rfl) ?_; refine rn F ?_)
  | (refine Qc (id:=7) [0,1] [⟨[],[],2,[1],[]⟩,⟨[],[],3,[],[]⟩] (by kernel_rfl) (by kernel_rfl) ?_; refine rn F ?_)
  | (refine Qc (id:=11) [0,1] [⟨[],[],2,[0],[]⟩,⟨[],[],3,[1],[]⟩,⟨[],[],4,[],[]⟩] (by kernel_rfl) (by kernel_rfl) ?_; refine rn F ?_)
  | (refine Qc (id:=13) [0,1] [⟨[],[],2,[1],[]⟩,⟨[],[],3,[],[]⟩] (by kernel_rfl) (by kernel_rfl) ?_; refine rn F ?_))
 all_goals first
  | exact⟨rfl,rfl,(s2,r2),rfl,hq.1,fun h=>ev.trans (hq.2.1 h),fun h=>ev.tr0 (hq.2.2 h)⟩
  | exact⟨rfl,rfl,(s3,Qau e3),rfl,Qgc s s3 hq3.1 e3⟩
  | (have q3:=(hq3.2 (by dsimp only; omega)).1
     have q4:=(ev.trans (hq.2.1 (by dsimp only; omega))).trans q3
     exact⟨rfl,rfl,(s3,r2),rfl,hq3.1,fun h=>q4,fun h=>q4.mono (by omega)⟩)
  | skip
 have qz:=hq.2.1 (by dsimp only; omega)
 have q3:=hq3.2 (by dsimp only; omega)
 have h1:=qz.ev.len
 have h2:=q3.2
 have h3:=hq3.1.1.1
 dsimp only at h1 h2 h3
 exact⟨⟨s3,hq3.1,(ev.trans qz).trans q3.1⟩,by dsimp only; omega,(gc [0,1,2,3])⟩
@[go_sem] def QED(a:Sv×Bool×Int):DV:=.tup [.agg a.1.d,.bool a.2.1,.int .i64 a.2.2]
def wkQ(s:Sv)(a:Sv×Bool×Int):Prop:=a.1.sm/\(a.2.2=0->Str 0 s.k a.1.k)
def Qyf(s:Sv)(hs:s.sm):VCalls prog 117 [.agg s.d] [] (Qz QED (wkQ s)):=by
 refine dk Tryz.func117 ?_
 have c1:=QaQ s.k hs.1
 have c2:=fun n=>Qea s hs n
 have c3:=Qu0 s.k hs.1
 have hg:=fun h:0<s.k.la.length=>Qeq s.k.la 0 h
 have e0:∀ e,e≠0->wkQ s (Sv0,false,e):=fun e h=>⟨Qde,fun h2=>absurd h2 h⟩
 (unfold Tryz.f117; refine rn trivial ?_)
 have F:=@hg
 refine rn F ?_
 repeat' (first
  | with_reducible exact⟨⟩
  | (refine sB F ?_ ?_<;>intro hZ)
  | (refine Ql (c1) rfl ?_; rintro b -; refine rn F ?_)
  | (refine Ql (c2 _) rfl ?_; rintro⟨s2,e2⟩ hq; refine rn F ?_)
  | (refine Ql (c3) rfl ?_; rintro l hl; refine rn F ?_)
  | (refine Qc (id:=4) [0,1,2,3,4,5,6] [⟨[11],[],7,[1,2,3,4,5],[8,9,10]⟩,⟨[11],[11],12,[10],[]⟩,⟨[],[],13,[],[]⟩] (by kernel_rfl) (by kernel_rfl) ?_; refine rn F ?_))
 all_goals first
  | exact⟨rfl,rfl,(Sv0,false,15),rfl,e0 _ (by decide)⟩
  | exact⟨rfl,rfl,(s,false,0),rfl,hs,fun _=>Str.refl _⟩
  | exact⟨rfl,rfl,(s2,_,e2),rfl,hq.1,fun h=>(hq.2 h).1⟩
  | skip
 have hg0:=fun h:0<l.length=>Q0 l 0 h
 generalize l.getD 0 0=tx at *
 refine Qg (fun r:Re s=>⟨77,0,[(7,.pv (.sl (fz QR l))),(2,.ptr 1 0),(1,.ptr 0 0)],[⟨101,true,r.s.d⟩,⟨101,true,Zv⟩]⟩) (fun r=>rbM tx r.s) ⟨s,hs,Str.refl _⟩ (gc [0,1]) ?_
 rintro⟨s1,sm,ev⟩
 dsimp only
 unfold Zv
 have d2:=QqT s1.k sm.1 tx
 have d3:=fun n=>Qea s1 sm n
 have F:=@hg0
 refine rn F ?_
 repeat' (first
  | with_reducible exact⟨⟩
  | (refine sB F ?_ ?_<;>intro hZ)
  | (refine Ql (d2) rfl ?_; rintro⟨k1,r1⟩ hq; refine rn F ?_)
  | (refine Ql (d3 _) rfl ?_; rintro⟨s2,e2⟩ hq2; refine rn F ?_)
  | (refine Qc (id:=9) [0,1,2,3,4] [⟨[9,10],[],5,[0,2,3],[6,7,8]⟩,⟨[9,10],[9],11,[8],[]⟩,⟨[10],[10],12,[],[]⟩] (by kernel_rfl) (by kernel_rfl) ?_; refine rn F ?_)
  | (refine Qc (id:=11) [0,1,2] [⟨[],[],3,[1,2],[]⟩,⟨[],[],4,[1,2],[]⟩,⟨[],[],5,[],[]⟩] (by kernel_rfl) (by kernel_rfl) ?_; refine rn F ?_))
 all_goals first
  | exact⟨rfl,rfl,(Sv0,false,e2),rfl,e0 _ (by assumption)⟩
  | exact⟨rfl,rfl,(Sv0,false,r1.er),rfl,e0 _ (hq.2.2.2 (by assumption))⟩
  | exact⟨rfl,rfl,(⟨k1,s1.v⟩,true,0),rfl,⟨hq.1,sm.2⟩,fun _=>ev.trans (hq.2.2.1 (by dsimp only; omega) (by dsimp only; omega)).1⟩
  | skip
 obtain⟨v,_,g1,g2,g3⟩:=hq.2.1 (by first | assumption | (dsimp only; omega))
 have q2:=hq2.2 (by dsimp only; omega)
 dsimp only at g1 g3 q2
 rw[g1] at g3 q2
 exact⟨⟨s2,hq2.1,ev.trans q2.1⟩,QmZ q2.1.ev q2.2.1 g2 g3 q2.2.2,(gc [0,1])⟩
end
def Qdo:∀ (l:List Int) (s:List UInt8),(Qjf s l).length = s.length + 8 * l.length
 | [],s=>by simp[Qjf]
 | a :: r,s=>by
   show(Qjf (Qj s a 8) r).length=_
   rw[Qdo r,Qb,Je]; omega
def QrD(s:List UInt8)(l:List Int)(i:Nat)(h:i<l.length):Qjf s (l.take (i+1))=Qj (Qjf s (l.take i)) (l.getD i 0) 8:=by
 rw[Jl h,Qjf,JC,Qd l i h]; rfl
def QmN(s:List UInt8)(l:List Int)(hb:s.length+8*l.length<=900000000):VCalls prog 232 [.pv (.str s),.pv (.sl (fz QR l))] [] (Ret (.pv (.str (Qjf s l)))):=by
 refine dd Tryz.func232 ?_
 (unfold Tryz.f232; refine rn trivial ?_)
 refine Qg (fun t:To l.length=>⟨19,0,[(5,.int .i64 t.i),(1,.pv (.sl (fz QR l))),(0,.pv (.str (Qjf s (l.take t.i))))],[]⟩) (fun t=>l.length-t.i) ⟨0,Jf _⟩ (gc []) ?_
 rintro⟨i,hi⟩
 dsimp only
 have hg:=fun h:i<l.length=>Q0 l i h
 have hlen:=Qdo (l.take i) s
 rw[Jk] at hlen
 have p2:=QS (Qjf s (l.take i)) (by omega) (l.getD i 0) 8 (by omega) (by omega)
 have hs:=QrD s l i
 have F:=@hg
 refine rn F ?_
 repeat' (first
  | with_reducible exact⟨⟩
  | (refine sB F ?_ ?_<;>intro hZ)
  | refine vp F (p2) ?_)
 ·refine ⟨⟨i + 1,by omega⟩,by dsimp only; omega,?_⟩
  dsimp only
  rw[hs (by omega)]
  exact(gc [])
 ·rw[Jn (by omega)]
def Qs2(s:List UInt8)(t:Tx):(Qeu s t).length=s.length+24+8*t.l.length+8*t.s.length:=by
 unfold Qeu
 rw[Qdo,Qb,Qdo,Qb,Qb,Qb,Qb,Qb]; omega
def Qi3:∀ (l:List Tx) (s:List UInt8),(∀ t ∈ l,t.l.length<=4096/\t.s.length<=8)->(Qet s l).length<=s.length + 32856 * l.length
 | [],s,_=>by simp[Qet]
 | t :: r,s,h=>by
   have h1:=h t (by simp)
   have h2:=Qi3 r (Qeu s t) fun t ht=>h t (List.mem_cons_of_mem _ ht)
   show(Qet (Qeu s t) r).length<=_
   rw[Qs2] at h2
   rw[Je]; omega
def QoM(s:List UInt8)(l:List Tx)(i:Nat)(h:i<l.length):Qet s (l.take (i+1))=Qeu (Qet s (l.take i)) (l.getD i Tx0):=by
 rw[Jl h,Qet,JC,Qd l i h]; rfl
def QmC(hv:Qbm l=true):∀ t∈l,t.l.length<=4096/\t.s.length<=8:=fun t ht=>by
 obtain⟨i,hi,rfl⟩:=JK ht
 exact QdN (Qbg hv hi)
def Qnp(hv:Qbm l=true):(QaK l).length<=3000000:=by
 have:=Qi3 l (Qj [] l.length 2) (QmC hv)
 have h2:=Qd3 hv
 rw[Qb,Jd] at this
 unfold QaK
 omega
def Qyi(l:List Tx)(hl:smN 65 l)(hv:Qbm l=true):VCalls prog 187 [.pv (.sl (fz Qaf l))] [] (Ret (.tup [.pv (.str (QaK l)),.int .i64 0])):=by
 refine dd Tryz.func187 ?_
 have c1:=QbD l (hl.smL (by omega))
 have hsm:=QmC hv
 have hle:=Qd3 hv
 rw[hv] at c1
 unfold QaK
 have p1:=QS [] (by simp) l.length 2 (by omega) (by omega)
 (unfold Tryz.f187; refine rn trivial ?_)
 refine rn F ?_
 repeat' (first
  | with_reducible exact⟨⟩
  | refine vp F (c1) ?_
  | refine vp F (p1) ?_)
 refine Qg (fun t:To l.length=>⟨56,0,[(5,.int .i64 t.i),(4,.pv (.str (Qet (Qj [] l.length 2) (l.take t.i)))),(0,.pv (.sl (fz Qaf l)))],[]⟩) (fun t=>l.length-t.i) ⟨0,Jf _⟩ (gc []) ?_
 rintro⟨i,hi⟩
 dsimp only
 have hg:=fun h:i<l.length=>QdO l i h
 have hlen:=Qi3 (l.take i) (Qj [] l.length 2) fun t ht=>hsm t (JJ ht)
 rw[Qb,Jk,Jd] at hlen
 have hsc:=QoM (Qj [] l.length 2) l i
 have hend:l.length<=i->l.take i=l:=fun h=>Jn h
 by_cases hc:i<l.length
 ·have hq:=hsm (l.getD i Tx0) (by rw [Qd l i hc]; exact Ju hc)
  replace hsc:=hsc hc
  generalize Qet (Qj [] l.length 2) (l.take i)=s at *
  generalize l.getD i Tx0=x at *
  obtain⟨id,st,n,b,q,sv⟩:=x
  dsimp only at hg hq
  obtain⟨hq1,hq2⟩:=hq
  unfold Qeu at hsc
  dsimp only at hsc
  have z0:s.length<=3000000:=by omega
  have p2:=QS s (by omega) id 4 (by omega) (by omega)
  have p3:=QS (Qj s id 4) (by rw[Qb]; omega) st 1 (by omega) (by omega)
  have p4:=QS (Qj (Qj s id 4) st 1) (by rw[Qb,Qb]; omega) n 8 (by omega) (by omega)
  have p5:=QS (Qj (Qj (Qj s id 4) st 1) n 8) (by rw[Qb,Qb,Qb]; omega) b 8 (by omega) (by omega)
  have p6:=QS (Qj (Qj (Qj (Qj s id 4) st 1) n 8) b 8) (by rw[Qb,Qb,Qb,Qb]; omega) q.length 2 (by omega) (by omega)
  have p6b:=QmN (Qj (Qj (Qj (Qj (Qj s id 4) st 1) n 8) b 8) q.length 2) q (by rw[Qb,Qb,Qb,Qb,Qb]; omega)
  have p7:=QS (Qjf (Qj (Qj (Qj (Qj (Qj s id 4) st 1) n 8) b 8) q.length 2) q) (by rw[Qdo,Qb,Qb,Qb,Qb,Qb]; omega) sv.length 1 (by omega) (by omega)
  have p7b:=QmN (Qj (Qjf (Qj (Qj (Qj (Qj (Qj s id 4) st 1) n 8) b 8) q.length 2) q) sv.length 1) sv (by rw[Qb,Qdo,Qb,Qb,Qb,Qb,Qb]; omega)
  have F:=@hg
  refine rn F ?_
  repeat' (first
   | with_reducible exact⟨⟩
   | refine vp F (p2) ?_
   | refine vp F (p3) ?_
   | refine vp F (p4) ?_
   | refine vp F (p5) ?_
   | refine vp F (p6) ?_
   | refine vp F (p6b) ?_
   | refine vp F (p7) ?_
   | refine vp F (p7b) ?_
   | (refine Qc (id:=12) [0,1,2,3,5,6] [⟨[],[],4,[1,2,5,6],[]⟩,⟨[],[],7,[0,1,2,3,5],[]⟩,⟨[],[],8,[],[]⟩] (by kernel_rfl) (by kernel_rfl) ?_; refine rn F ?_)
   | (refine Qc (id:=13) [0,1,2,3,5,6] [⟨[],[],4,[1,2,5,6],[]⟩,⟨[],[],7,[0,1,2,3,5],[]⟩,⟨[],[],8,[],[]⟩] (by kernel_rfl) (by kernel_rfl) ?_; refine rn F ?_))
  refine⟨⟨i+1,by omega⟩,by dsimp only; omega,?_⟩
  dsimp only
  rw[hsc]
  exact(gc [])
 ·rw [hend (by omega)]
  have F:=@hg
  (refine rn F ?_; try with_reducible exact⟨⟩)
def Qev:∀ (l:List Rw) (s:List UInt8),(QdS s l).length = s.length + 24 * l.length
 | [],s=>by simp[QdS]
 | t :: r,s=>by
   show(QdS (Qi4 s t) r).length=_
   rw[Qev r]
   unfold Qi4
   rw[Qb,Qb,Qb,Je]; omega
def QhZ(s:List UInt8)(l:List Rw)(i:Nat)(h:i<l.length):QdS s (l.take (i+1))=Qi4 (QdS s (l.take i)) (l.getD i Rw0):=by
 rw[Jl h,QdS,JC,Qd l i h]; rfl
def QkM(l:List Rw):(Qck l).length=2+24*l.length:=by
 unfold Qck; rw[Qev,Qb,Jd]
def Qu5(l:List Rw)(hl:l.length<=64)(hv:ixB l=true):VCalls prog 188 [.agg [.pv (.sl (fz Qb2 l))]] [] (Ret (.tup [.pv (.str (Qck l)),.int .i64 0])):=by
 refine dd Tryz.func188 ?_
 have c1:=Qbw l (by omega)
 have c2:=QS [] (by simp) l.length 2 (by omega) (by omega)
 rw[hv] at c1
 unfold Qck
 (unfold Tryz.f188; refine rn trivial ?_)
 refine rn F ?_
 repeat' (first
  | with_reducible exact⟨⟩
  | refine vp F (c1) ?_
  | refine vp F (c2) ?_)
 refine Qg (fun r:To l.length=>⟨45,0,[(5,.int .i64 r.i),(4,.pv (.str (QdS (Qj [] l.length 2) (l.take r.i)))),(1,.ptr 0 0)],[⟨59,true,[.pv (.sl (fz Qb2 l))]⟩]⟩) (fun r=>l.length-r.i) ⟨0,Jf _⟩ (gc [0]) ?_
 rintro⟨i,hi⟩
 dsimp only
 have hg:=fun h:i<l.length=>QkH l i h
 have hlen:=Qev (l.take i) (Qj [] l.length 2)
 rw[Qb,Jk,Jd] at hlen
 have hsc:=QhZ (Qj [] l.length 2) l i
 have hend:l.length<=i->l.take i=l:=fun h=>Jn h
 by_cases hc:i<l.length
 ·replace hsc:=hsc hc
  generalize QdS (Qj [] l.length 2) (l.take i)=s at *
  generalize l.getD i Rw0=x at *
  unfold Qi4 at hsc
  have p1:=QS s (by omega) x.lsn 8 (by omega) (by omega)
  have p2:=QS (Qj s x.lsn 8) (by rw[Qb]; omega) x.im 8 (by omega) (by omega)
  have p3:=QS (Qj (Qj s x.lsn 8) x.im 8) (by rw[Qb,Qb]; omega) x.at_ 8 (by omega) (by omega)
  have F:=@hg
  refine rn F ?_
  repeat' (first
   | with_reducible exact⟨⟩
   | refine vp F (p1) ?_
   | refine vp F (p2) ?_
   | refine vp F (p3) ?_)
  refine⟨⟨i+1,by omega⟩,by dsimp only; omega,?_⟩
  dsimp only
  rw[hsc]
  exact(gc [0])
 ·rw [hend (by omega)]
  have F:=@hg
  (refine rn F ?_; try with_reducible exact⟨⟩)
end Go.Proofs.YtepdccfgnafgcaaGreat
