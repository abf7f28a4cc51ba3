/-
  Contracts of functions and plain laws. No condition.
-/
import Derived.Test.YtepdccfgnafgcaaGreatV1
import Derived.Orders
import Derived.Carry
import Derived.Deep.Slices
import Derived.OpenShut
set_option linter.unusedSimpArgs false
set_option linter.unusedVariables false
set_option linter.defProp false
set_option maxRecDepth 100000
set_option maxHeartbeats 8000000
set_option autoImplicit true
set_option relaxedAutoImplicit true
open Array renaming getElem?_eq_some_iff->Ja,replicate->Jo,getD_eq_getD_getElem?->Jv,getElem?_eq_getElem->JR
open Bool renaming and_eq_true->Jb,not_eq_true'->Ju,or_eq_true->Jy
open List renaming getElem?_eq_some_iff->Jc,getElem?_eq_getElem->Jd,all_eq_true->Je,mem_cons_of_mem->Jf,getElem?_map->Jg,mem_append_right->Jh,getD_eq_getElem?_getD->Ji,mem_append_left->Jj,range->Jk,mem_cons->Jl,mem_range->Jm,getElem?_set_ne->Jq,flatMap_cons->Jr,map_cons->Js,getElem?_eq_none->Jt,getElem?_append_left->Jz,contains_eq_mem->JA,mem_append->JB,map_congr_left->JC,any_eq_true->JD,getElem?_append_right->JE,getElem?_set_self->JG,eq_nil_iff_forall_not_mem->JH,cons_append->JI,mem_of_getElem?->JJ,pairwise_append->JK,idxOf_lt_length_of_mem->JN,length_map->JO,nodup_cons->JP,getElem?_take->JQ,ext_getElem?->JS,nodup_append->JT,append_assoc->JU,length_eq_one_iff->JW,countP_le_length->JX,append_nil->JY,countP_pos_iff->JZ,getElem?_range->J0,pairwise_cons->J1,mem_map->J7,length->J9
open Nat renaming lt_of_lt_of_le->Jp,le_refl->Jw,zero_le->JL,strongRecOn->JM,le_of_not_lt->JV,lt_trichotomy->J2,not_lt_zero->J4,le_total->J5,lt_trans->J6,le_zero->J8
open Option renaming some->Jn,map_some->JF,getD_some->J3
namespace Go.V
def Qk6(P:Program)(S:St):ResultVar->Option DV
 | .tmp t=>some (look S.tm t)
 | .cell a T=>QdW P S.hp T (look S.tm a)
def QJ(P:Program)(S:St)(rs:List ResultVar):Option DV:=
 match Qh (rs.map (Qk6 P S)) with
 | some [d]=>some d
 | some ds=>some (.tup ds)
 | none=>none
def QmT(tmps:Array Value):ResultVar->Sem Value
 | .tmp t=>pure (tmps.getD t undef)
 | .cell a t=>do loadVar t (<- asAddr (tmps.getD a undef))
theorem Qog(fn:Func)(tmps:Array Value):results fn tmps=(do
 let vs <- fn.results.mapM (QmT tmps)
 pure (if h:vs.size=1 then vs[0] else .tuple vs)):=rfl
def QnM (h:Sim O β S a w) (hr:Qk6 P S r = some d):
 ∃ v,(QmT a.tmps r).run P w=.ok v w/\RelD w β S.hp d v:=by
 cases r with
 | tmp t =>
   simp[Qk6] at hr
   subst hr
   exact⟨_,rfl,h.tm t⟩
 | cell ad T =>
   simp only[Qk6] at hr
   obtain⟨v,h1,h2⟩:=Qf0 (P:=P) h.heap (h.tm ad) hr
   refine⟨v,?_,h2⟩
   have hrel:=h.tm ad
   simp only[QmT]
   generalize a.tmps.getD ad undef=u at hrel h1 |-
   generalize look S.tm ad=e at hrel hr
   cases hrel with
   | ptr k off b hk hm=>simpa [Instr.loadAt,Instr.sureAddr,asAddr] using h1
   | ip cs ad' val h1' h2' h3'=>simpa [Instr.loadAt,Instr.sureAddr,asAddr] using h1
   | _=>simp[QdW] at hr
def QdA (h:Sim O β S a w) (hr:QJ P S fn.results.toList = some d):
 ∃ v,(results fn a.tmps).run P w=.ok v w/\RelD w β S.hp d v:=by
 have key:∀ (rs:List ResultVar) (ds:List DV),Qh (rs.map (Qk6 P S)) = some ds->∃ vs:List Value,
  (rs.mapM (QmT a.tmps)).run P w=.ok vs w/\RelL w β S.hp ds vs.toArray:=by
  intro rs
  induction rs with
  | nil=>intro ds h; simp[Qh] at h; subst h; exact⟨[],by simp,by simp[RelL]⟩
  | cons r rs ih =>
    intro ds hds
    cases h1:Qk6 P S r with
    | none=>simp[Qh,h1] at hds
    | some d =>
      cases h2:Qh (rs.map (Qk6 P S)) with
      | none=>simp[Qh,h1,h2] at hds
      | some ds' =>
        simp[Qh,h1,h2] at hds
        subst hds
        obtain⟨vs,e1,e2,e3⟩:=ih ds' h2
        obtain⟨v,e4,e5⟩:=QnM (P:=P) h h1
        refine⟨v::vs,?_,by simpa using e2,fun i d hi=>?_⟩
        ·rw [List.mapM_cons]
         simp only[Sem.run_bind,e4,Result.andThen_ok,e1,Sem.run_pure]
        ·cases i with
         | zero=>simp at hi; subst hi; simpa using e5
         | succ i =>
           have:=e3 i d (by simpa using hi)
           simpa [Jv] using this
 unfold QJ at hr
 cases hds:Qh (fn.results.toList.map (Qk6 P S)) with
 | none=>simp[hds] at hr
 | some ds =>
   obtain⟨vs,e1,e2⟩:=key _ _ hds
   have hrun:∀ v,(if h:vs.toArray.size=1 then vs.toArray[0] else Value.tuple vs.toArray)=v->(results fn a.tmps).run P w=.ok v w:=by
    intro v hv
    rw[Qog,Array.mapM_eq_mapM_toList]
    simp only[Sem.run_bind,Sem.run_map]
    rw[e1]
    simp only[Result.andThen_ok,Sem.run_pure]
    rw[<- hv]
   rw[hds] at hr
   split at hr
   ·rename_i d' he
    simp at hr he
    subst hr he
    have hl:vs.length=1:=by have:=e2.1; simpa using this.symm
    obtain⟨v,rfl⟩:=JW.1 hl
    exact⟨v,hrun v (by simp),by have:=e2.2 0 d' rfl; simpa using this⟩
   ·rename_i ds' hne he
    simp at hr he
    subst hr he
    refine⟨.tuple vs.toArray,hrun _ ?_,.tup _ _ e2.1 e2.2⟩
    rw[dif_neg]
    intro h1
    have hl:ds.length=1:=by rw[e2.1]; exact h1
    obtain⟨x,hx⟩:=JW.1 hl
    exact hne x hx
   ·simp at hr
def Qbk(n:Nat)(hp:Qa):Option Qa:=
 Qh ((hp.take n).map fun B=>if B.live then (Qh (B.cells.map (QcF n hp))).map fun cs=>{ B with cells:=cs } else some { B with cells:=[] })
def QtL(n:Nat)(hp:Qa)(d:DV)(R:DV->Qa->Prop):Prop:=
 match frz n hp d,Qbk n hp with
 | some d',some hp'=>R d' hp'
 | _,_=>False
def QeJ (P:Program) (rs:List ResultVar) (n:Nat) (R:DV->Qa->Prop) (e:Exit) (S:St):Prop :=
 match e with
 | .normal | .ret=>match QJ P S rs with
   | some d=>QtL n S.hp d R
   | none=>False
 | _=>False
def Qal (P:Program) (rs:List ResultVar) (R:DV->Qa->Prop) (e:Exit) (S:St):Prop :=
 match e with
 | .normal | .ret=>match QJ P S rs with
   | some d=>R d S.hp
   | none=>False
 | _=>False
def Qdh (hh:HeapRel w β hp) (hn:n<=hp.length) (hd:RelD w β hp d v) (h:QtL n hp d R):
 ∃ d' hp',R d' hp'/\RelD w β hp' d' v/\HeapRel w β hp'/\hp'.length=n/\∀ b,live β hp' b->live β hp b:=by
 unfold QtL at h
 split at h
 ·rename_i d' hp' h1 h2
  unfold Qbk at h2
  obtain⟨g1,g2⟩:=QD h2
  have hlen:hp'.length=n:=by rw[g1]; simp; omega
  have at_:∀ {k:Nat} {B':Blk},hp'[k]? = some B'->∃ B,k < n/\hp[k]? = some B/\B'.ty = B.ty/\B'.live = B.live/\(B.live = true->Qh (B.cells.map (QcF n hp)) = some B'.cells):=by
   intro k B' hk
   have g3:=g2 k B' hk
   rw[Jg,JQ] at g3
   split at g3
   ·rename_i hkn
    cases hb:hp[k]? with
    | none=>simp[hb] at g3
    | some B =>
      simp only[hb,JF,Jn.injEq] at g3
      refine⟨B,hkn,rfl,?_⟩
      split at g3
      ·rename_i hl
       cases hc:Qh (B.cells.map (QcF n hp)) with
       | none=>simp[hc] at g3
       | some cs=>simp[hc] at g3; subst g3; exact⟨rfl,rfl,fun _=>rfl⟩
      ·rename_i hl
       simp at g3
       subst g3
       exact⟨rfl,rfl,fun h=>absurd h hl⟩
   ·simp at g3
  have hsub:∀ b,live β hp' b->live β hp b:=by
   rintro b ⟨k,B',k1,k2,k3⟩
   obtain⟨B,_,q1,_,q2,_⟩:=at_ k1
   exact⟨k,B,q1,by rw[<- q2]; exact k2,k3⟩
  have hlv:Leaves w β hp n (img β hp'):=by
   refine⟨fun b hb=>hb.imp id (hsub b),fun k B b hk h1 h2 h3 hb=>?_⟩
   rcases hb with hb | ⟨j,D',j1,j2,j3⟩
   ·exact hh.avoid k B b h1 h2 h3 hb
   ·obtain ⟨D,q0,q1,_,q2,_⟩:=at_ j1
    have:=hh.inj k j B D b h1 q1 h2 (by rw[<- q2]; exact j2) h3 j3
    omega
  refine⟨d',hp',h,QsF hh hlv (fun _ _=>rfl) (by omega) hd h1,?_,hlen,hsub⟩
  refine⟨fun k B' b hk hl hb=>?_,fun k B' hk hl hb=>?_,fun i j B B' b hi hj h1 h2 h3 h4=>?_,fun k B' b hk hl hb=>?_,hh.bound⟩
  ·obtain ⟨B,_,q1,q2,q3,q4⟩:=at_ hk
   have hl':B.live=true:=by rw[<- q3]; exact hl
   obtain⟨C,c1,c2,c3⟩:=hh.blk k B b q1 hl' hb
   have hcs:=q4 hl'
   obtain⟨e1,e2⟩:=QD hcs
   refine⟨C,by rw[q2]; exact c1,by rw[e1]; simpa using c2,fun i x hx=>?_⟩
   have e3:=e2 i x hx
   rw[Jg] at e3
   cases hc:B.cells[i]? with
   | none=>simp[hc] at e3
   | some y =>
     simp[hc] at e3
     refine⟨?_,Qch hh hlv (fun _ _=>rfl) (by omega) (c3 i y hc).2 e3⟩
     have hy:=(c3 i y hc).1
     unfold QcF at e3
     split at e3
     ·split at e3
      ·simp at e3; subst e3; rfl
      ·cases hz:Qla n hp 4 (.own _ _ _ _) with
       | none=>rw[hz] at e3; simp at e3
       | some p=>rw[hz] at e3; simp at e3; subst e3; rfl
     ·split at e3
      ·simp at e3; subst e3; rfl
      ·simp at e3
     ·simp at e3; subst e3; rfl
     ·simp at e3
     ·simp[DV.one] at hy
     ·simp at e3; subst e3; rfl
     ·simp at e3
  ·obtain ⟨B,_,q1,q2,q3,q4⟩:=at_ hk
   have hl':B.live=true:=by rw[<- q3]; exact hl
   have:=hh.none k B q1 hl' hb
   have hcs:=q4 hl'
   rw[this] at hcs
   simp[Qh] at hcs
   exact hcs
  ·obtain ⟨D,_,q1,_,q3,_⟩:=at_ hi
   obtain⟨D',_,q1',_,q3',_⟩:=at_ hj
   exact hh.inj i j D D' b q1 q1' (by rw[<- q3]; exact h1) (by rw[<- q3']; exact h2) h3 h4
  ·obtain ⟨D,_,q1,_,q3,_⟩:=at_ hk
   exact hh.avoid k D b q1 (by rw[<- q3]; exact hl) hb
 ·exact h.elim
def Qhn:Nat->List DV->List (Nat×DV)
 | _,[]=>[]
 | i,d::r=>(i,d)::Qhn (i+1) r
def Qkq:∀ {i t:Nat},look (Qhn i ds) t = if i<=t then (ds[t - i]?).getD .any else .any:=by
 induction ds with
 | nil=>intro i t; simp[Qhn,look]
 | cons d r ih =>
   intro i t
   simp only[Qhn,look]
   split
   ·rename_i h; subst h; simp
   ·rename_i h
    rw[ih]
    by_cases h1:i+1<=t
    ·rw [if_pos h1,if_pos (by omega)]
     have:t-i=(t-(i+1))+1:=by omega
     rw[this]; simp
    ·rw[if_neg h1,if_neg (by omega)]
def QeL (hf:P.funcs[g]? = some fn) (hb:fn.body = some c) (hname:(fn.name == "runtime.NumGoroutine") = false) (hn:args.length<=fn.ntmps) (hp:∀ e S,post e S->(e = .normal\/e = .ret)/\∃ d,QJ P S fn.results.toList = some d/\((h.length<=S.hp.length->QtL h.length S.hp d R)\/R d S.hp)) (hc:VWp P c post ⟨fn.ntmps,h.length,Qhn 0 args,h⟩):VCalls P g args h R:=by
 refine⟨fun w β vs hh ha=>.inl ⟨fn,hf,hname,by rw[hb]; rfl,?_⟩⟩
 refine calls_of_wp hf hb ?_
 have hsz:vs.size=args.length:=ha.1.symm
 have hs:Sim ⟨w,β,h,[]⟩ β ⟨fn.ntmps,h.length,Qhn 0 args,h⟩ { tmps:=vs ++ Jo (fn.ntmps - vs.size) undef,defers:=[] } w:=by
  refine⟨rfl,by simp; omega,fun t=>?_,hh,Evo.refl w β h,rfl⟩
  rw[Qkq,if_pos (JL _),Nat.sub_zero]
  cases ht:args[t]? with
  | none=>exact .any _
  | some d =>
    have hlt:t<vs.size:=by rw[hsz]; exact(Jc.1 ht).1
    have e:(vs++Jo (fn.ntmps-vs.size) undef).getD t undef=vs.getD t undef:=by
     simp only[Jv]; rw[Array.getElem?_append_left hlt]
    show RelD w β h d ((vs++Jo (fn.ntmps-vs.size) undef).getD t undef)
    rw[e]
    exact ha.2 t d ht
 refine wp_mono (hc _ β _ w hs) fun e a' w' hq=>?_
 obtain⟨β',S',hs',hq⟩:=hq
 obtain⟨he,d,hr,hend⟩:=hp e S' hq
 obtain⟨v,r1,r2⟩:=QdA hs' hr
 have hlen:h.length<=S'.hp.length:=hs'.evo.len
 have fin:∃ v' r h' β'',Ending.returned v=.returned v'/\Evo w β h w' β'' h'/\HeapRel w' β'' h'/\RelD w' β'' h' r v'/\R r h':=by
  rcases hend with hend | hend
  ·obtain ⟨d',hp',k1,k2,k3,k4,k5⟩:=Qdh hs'.heap hlen r2 (hend hlen)
   refine⟨v,d',hp',β',rfl,?_,k3,k2,k1⟩
   have ev:=hs'.evo
   exact⟨ev.os,ev.tape,ev.output,ev.size,by omega,ev.beta,ev.same,ev.shape,fun b hb hl=>ev.im b hb (k5 b hl),ev.X⟩
  ·exact⟨v,d,S'.hp,β',rfl,hs'.evo,hs'.heap,r2,hend⟩
 rcases he with rfl | rfl
 ·exact⟨hs'.defers,v,r1,fin⟩
 ·exact⟨hs'.defers,v,r1,fin⟩
def Qjt(hf:P.funcs[g]?=some fn)(hb:fn.body=some c)(hname:(fn.name == "runtime.NumGoroutine")=false)(hn:args.length<=fn.ntmps)(hp:∀ e S,post e S->(e=.normal\/e=.ret)/\∃ d,QJ P S fn.results.toList=some d/\((h.length<=S.hp.length->QtL h.length S.hp d R)\/R d S.hp))(hc:Qy P c post ⟨fn.ntmps,h.length,Qhn 0 args,h⟩):VCalls P g args h R:=
 QeL hf hb hname hn hp (Qv c _ _ hc)
def Qlq(hf:P.funcs[g]?=some fn)(hb:fn.body=some c)(hname:(fn.name == "runtime.NumGoroutine")=false)(hn:args.length<=fn.ntmps)(hc:Qy P c (QeJ P fn.results.toList h.length R) ⟨fn.ntmps,h.length,Qhn 0 args,h⟩):VCalls P g args h R:=by
 refine Qjt hf hb hname hn (fun e S hq=>?_) hc
 unfold QeJ at hq
 split at hq
 ·split at hq
  ·rename_i d hd; exact⟨.inl rfl,d,hd,.inl fun _=>hq⟩
  ·exact hq.elim
 ·split at hq
  ·rename_i d hd; exact⟨.inr rfl,d,hd,.inl fun _=>hq⟩
  ·exact hq.elim
 ·exact hq.elim
def Qab(hf:P.funcs[g]?=some fn)(hb:fn.body=some c)(hname:(fn.name == "runtime.NumGoroutine")=false)(hn:args.length<=fn.ntmps)(hc:Qy P c (Qal P fn.results.toList R) ⟨fn.ntmps,h.length,Qhn 0 args,h⟩):VCalls P g args h R:=by
 refine Qjt hf hb hname hn (fun e S hq=>?_) hc
 unfold Qal at hq
 split at hq
 ·split at hq
  ·rename_i d hd; exact⟨.inl rfl,d,hd,.inr hq⟩
  ·exact hq.elim
 ·split at hq
  ·rename_i d hd; exact⟨.inr rfl,d,hd,.inr hq⟩
  ·exact hq.elim
 ·exact hq.elim
def QDc(tm:List (Nat×DV)):List (Nat×DV)->Prop
 | []=>True
 | (t,d)::r=>look tm t=d/\QDc tm r
def QDx:Qa->Qa->Prop
 | _,[]=>True
 | B::r,B'::r'=>B'=B/\QDx r r'
 | [],_::_=>False
def Qqc(n:Nat):List (Nat×DV)->Prop
 | []=>True
 | (_,d)::r=>d.refs n=true/\Qqc n r
def Qsy(n:Nat):Qa->Prop
 | []=>True
 | B::r=>(B.live=true->DV.refs.go n B.cells=true)/\Qsy n r
def Le(S S':St):Prop:=S'.nt=S.nt/\S'.base=S.base/\S'.base<=S'.hp.length/\QDc S.tm S'.tm/\QDx S.hp S'.hp/\(S'.hp.length=S.hp.length\/(Qqc S'.hp.length S'.tm/\Qsy S'.hp.length S'.hp))
def Qf7:∀ {tm':List (Nat × DV)},QDc tm tm'->∀ t,look tm' t = look tm t\/look tm' t = .any
 | [],_,t=>.inr rfl
 | (a,d) :: r,h,t=>by
   simp only[look]
   split
   ·rename_i e; subst e; exact .inl h.1.symm
   ·exact Qf7 h.2 t
def Qnl:∀ {hp hp':Qa},QDx hp hp'->hp'.length<=hp.length/\∀ (k:Nat) (B:Blk),hp'[k]? = some B->hp[k]? = some B
 | hp,[],_=>⟨JL _,by simp⟩
 | B :: r,B' :: r',h=>by
   obtain⟨h1,h2⟩:=Qnl h.2
   refine⟨by simpa using h1,fun k D hk=>?_⟩
   cases k with
   | zero=>simp at hk |-; rw[<- hk]; exact h.1.symm
   | succ k=>simpa using h2 k D (by simpa using hk)
 | [],_::_,h=>h.elim
def Qf6:∀ {tm:List (Nat × DV)},Qqc n tm->∀ t,(look tm t).refs n = true
 | [],_,t=>rfl
 | (a,d) :: r,h,t=>by
   simp only[look]
   split
   ·exact h.1
   ·exact Qf6 h.2 t
def QhT:∀ {hp:Qa},Qsy n hp->∀ (k:Nat) (B:Blk),hp[k]?=some B->B.live=true->DV.refs.go n B.cells=true
 | [],_,k,B,h,_=>by simp at h
 | D::r,h,0,B,hk,hl=>by simp at hk; subst hk; exact h.1 hl
 | D::r,h,k+1,B,hk,hl=>QhT h.2 k B (by simpa using hk) hl
def Sim.le (h:Sim O β S a w) (hle:Le S S'):Sim O β S' a w:=by
 obtain⟨h1,hb1,hb2,h2,h3,h4⟩:=hle
 have hO:O.hp.length<=S'.hp.length:=by rw[h.base,<- hb1]; exact hb2
 obtain⟨hl,hg⟩:=Qnl h3
 have hsub:∀ b,live β S'.hp b->live β S.hp b:=fun b ⟨k,B,k1,k2,k3⟩=>⟨k,B,hg k B k1,k2,k3⟩
 have him:∀ b,img β S'.hp b->img β S.hp b:=fun b hb=>hb.imp id (hsub b)
 rcases h4 with h4 | ⟨h4,h5⟩
 ·have heq:S'.hp = S.hp:=by
   apply JS
   intro k
   by_cases hk:k<S'.hp.length
   ·rw[Jd hk]; exact(hg k _ (Jd hk)).symm
   ·rw[Jt (by omega),Jt (by omega)]
  refine⟨h.defers,by rw[h1]; exact h.size,fun t=>?_,by rw[heq]; exact h.heap,by rw[heq]; exact h.evo,h.base.trans hb1.symm⟩
  rw[heq]
  rcases Qf7 h2 t with e | e
  ·rw[e]; exact h.tm t
  ·rw[e]; exact .any _
 ·refine ⟨h.defers,by rw [h1]; exact h.size,fun t=>?_,?_,?_,h.base.trans hb1.symm⟩
  ·have hr:=Qf6 h4 t
   rcases Qf7 h2 t with e | e
   ·rw[e] at hr |-; exact(h.tm t).drop hr him
   ·rw[e]; exact .any _
  ·have hh:=h.heap
   refine⟨fun k B b k1 k2 k3=>?_,fun k B k1 k2 k3=>hh.none k B (hg k B k1) k2 k3,fun i j B B' b i1 j1 i2 j2=>hh.inj i j B B' b (hg i B i1) (hg j B' j1) i2 j2,fun k B b k1=>hh.avoid k B b (hg k B k1),hh.bound⟩
   obtain⟨C,c1,c2,c3⟩:=hh.blk k B b (hg k B k1) k2 k3
   exact⟨C,c1,c2,fun i d hd=>⟨(c3 i d hd).1,(c3 i d hd).2.drop (DV.refs_go (QhT h5 k B k1 k2) i d hd) him⟩⟩
  ·have ev:=h.evo
   exact⟨ev.os,ev.tape,ev.output,ev.size,hO,ev.beta,ev.same,ev.shape,fun b hb hl=>ev.im b hb (hsub b hl),ev.X⟩
def VWp.le(h:VWp P c Q S')(hle:Le S S'):VWp P c Q S:=fun O β a w hs=>h O β a w (hs.le hle)
def VWp.mono(h:VWp P c Q S)(hq:∀ e S,Q e S->Q' e S):VWp P c Q' S:=
 fun O β a w hs=>wp_mono (h O β a w hs) fun e _ _ ⟨β',S',k,q⟩=>⟨β',S',k,hq e S' q⟩
def Qxv {c:Code} {Q:Exit->St->Prop} {ι:Type} (I:ι->St) (μ:ι->Nat) (i₀:ι) (h₀:Le S (I i₀)) (round:∀ i,Qy P c (Qas Q fun S'=>∃ j,μ j < μ i/\Le S' (I j)) (I i)):VLoop P c Q S:=by
 intro O β a w hs b k cs
 have key:∀ n β i a w,μ i = n->Sim O β (I i) a w ->
  ∃ e a' w',Ql1 O Q e a' w'/\Arrives P (lone (b.at a (.code c::.inLoop c::k)) cs w) b k cs e a' w':=by
  intro n
  induction n using JM with
  | _ n ih =>
    intro β i a w hn hs
    obtain⟨e,a₁,w₁,hq,harr⟩:=Qv c _ _ (round i) O β a w hs b (.inLoop c::k) cs
    obtain⟨β₁,S₁,hs₁,hq⟩:=hq
    cases e with
    | normal =>
      obtain⟨j,hlt,hle⟩:=hq
      obtain⟨e₂,a₂,w₂,hq₂,harr₂⟩:=ih (μ j) (hn▸hlt) β₁ j a₁ w₁ rfl (hs₁.le hle)
      exact⟨e₂,a₂,w₂,hq₂,.of_steps (Steps.trans harr (.one step_inLoop)) harr₂⟩
    | exit id=>exact⟨_,a₁,w₁,⟨β₁,S₁,hs₁,hq⟩,.pass (x:=.inLoop c) rfl (fun _ _=>.inl (by simp)) harr⟩
    | goto l=>exact⟨_,a₁,w₁,⟨β₁,S₁,hs₁,hq⟩,.pass (x:=.inLoop c) rfl (fun _ _=>.inl (by simp)) harr⟩
    | ret=>exact⟨_,a₁,w₁,⟨β₁,S₁,hs₁,hq⟩,.pass (x:=.inLoop c) rfl (fun _ _=>.inl (by simp)) harr⟩
    | panic ch=>exact⟨_,a₁,w₁,⟨β₁,S₁,hs₁,hq⟩,.pass (x:=.inLoop c) rfl (fun _ _=>.inl (by simp)) harr⟩
    | outgrown=>exact⟨_,a₁,w₁,⟨β₁,S₁,hs₁,hq⟩,.pass (x:=.inLoop c) rfl (fun _ _=>.inl (by simp)) harr⟩
 obtain⟨e,a',w',hq,harr⟩:=key _ β i₀ a w rfl (hs.le h₀)
 exact⟨e,a',w',hq,.of_steps (.one step_loop) harr⟩
def DV.ren(σ:Nat->Nat):DV->DV
 | .ptr k off=>.ptr (σ k) off
 | .own k sz off len=>.own (σ k) sz off len
 | .ownc k sz off len cap=>.ownc (σ k) sz off len cap
 | .pv p=>.pv p
 | .ip cs=>.ip cs
 | .any=>.any
 | .agg cs=>.agg (go σ cs)
 | .tup cs=>.tup (go σ cs)
 | .fn f a b=>.fn f (go σ a) (go σ b)
 | .opt c d=>.opt c (d.ren σ)
where
 go (σ:Nat->Nat):List DV->List DV
  | []=>[]
  | d::r=>d.ren σ::go σ r
def DV.nums(p:Nat->Bool):DV->Bool
 | .ptr k _ | .own k _ _ _ | .ownc k _ _ _ _=>p k
 | .pv _ | .ip _ | .any=>true
 | .agg cs | .tup cs=>go p cs
 | .fn _ a b=>go p a&&go p b
 | .opt _ d=>d.nums p
where
 go (p:Nat->Bool):List DV->Bool
  | []=>true
  | d::r=>d.nums p&&go p r
def DV.nums_go (h:DV.nums.go p ds = true):∀ (i:Nat) (d:DV),ds[i]? = some d->d.nums p = true:=by
 induction ds with
 | nil=>intro i d h; simp at h
 | cons x r ih =>
   simp only[DV.nums.go,Jb] at h
   intro i d hd
   cases i with
   | zero=>simp at hd; subst hd; exact h.1
   | succ i=>exact ih h.2 i d (by simpa using hd)
def DV.ren_go(σ:Nat->Nat)(ds:List DV):DV.ren.go σ ds=ds.map (DV.ren σ):=by
 induction ds with
 | nil=>rfl
 | cons x r ih=>simp[DV.ren.go,ih]
def RelD.ren (hσ:∀ k,p k = true->k < hp.length->σ k < hp'.length/\β'.f (σ k) = β.f k) (him:∀ b,img β' hp' b->img β hp b) (h:RelD w β hp d v) (hr:d.nums p = true):RelD w β' hp' (d.ren σ) v:=by
 induction h with
 | pv q v h=>exact .pv q v (h.mono (Jw _) (fun _ _ _=>rfl) (fun b _=>him b))
 | ptr k off b h hb =>
   obtain⟨h1,h2⟩:=hσ k (by simpa [DV.nums] using hr) h
   exact .ptr _ off b h1 (h2.trans hb)
 | own k sz off len cap b C T m h hb h1 h2 h3 h4 =>
   obtain⟨g1,g2⟩:=hσ k (by simpa [DV.nums] using hr) h
   exact .own _ sz off len cap b C T m g1 (g2.trans hb) h1 h2 h3 h4
 | ownc k sz off len cap b o C T m h hb h1 h2 h3 h4 h5 =>
   obtain⟨g1,g2⟩:=hσ k (by simpa [DV.nums] using hr) h
   exact .ownc _ sz off len cap b o C T m g1 (g2.trans hb) h1 h2 h3 h4 h5
 | own0 k sz a h hb ha =>
   obtain⟨g1,g2⟩:=hσ k (by simpa [DV.nums] using hr) h
   exact .own0 _ sz a g1 (g2.trans hb) ha
 | ip cs ad val h1 h2 h3 =>
   exact .ip cs ad val h1 (fun j d hd=>⟨(h2 j d hd).1,fun x=>(h2 j d hd).2.1 (him _ x),(h2 j d hd).2.2⟩) (fun j d hd=>(h3 j d hd).mono (Jw _) (fun _ _ _=>rfl) (fun b _=>him b))
 | agg ds vs h _ ih =>
   simp only[DV.ren,DV.ren_go]
   have hr':DV.nums.go p ds=true:=by simpa [DV.nums] using hr
   refine .agg _ vs (by simpa using h) (fun i d hd=>?_)
   rw[Jg] at hd
   cases hx:ds[i]? with
   | none=>simp[hx] at hd
   | some x=>simp[hx] at hd; subst hd; exact ih i x hx (DV.nums_go hr' i x hx)
 | tup ds vs h _ ih =>
   simp only[DV.ren,DV.ren_go]
   have hr':DV.nums.go p ds=true:=by simpa [DV.nums] using hr
   refine .tup _ vs (by simpa using h) (fun i d hd=>?_)
   rw[Jg] at hd
   cases hx:ds[i]? with
   | none=>simp[hx] at hd
   | some x=>simp[hx] at hd; subst hd; exact ih i x hx (DV.nums_go hr' i x hx)
 | fn f ds es vs us h h' _ _ ih ih' =>
   simp only[DV.ren,DV.ren_go]
   have hr':DV.nums.go p ds=true/\DV.nums.go p es=true:=by simpa [DV.nums] using hr
   refine .fn f _ _ vs us (by simpa using h) (by simpa using h') (fun i d hd=>?_) (fun i d hd=>?_)
   ·rw [Jg] at hd
    cases hx:ds[i]? with
    | none=>simp[hx] at hd
    | some x=>simp[hx] at hd; subst hd; exact ih i x hx (DV.nums_go hr'.1 i x hx)
   ·rw [Jg] at hd
    cases hx:es[i]? with
    | none=>simp[hx] at hd
    | some x=>simp[hx] at hd; subst hd; exact ih' i x hx (DV.nums_go hr'.2 i x hx)
 | opt c d v _ hf ih=>exact .opt c _ v (fun hc=>ih hc (by simpa [DV.nums] using hr)) hf
 | any v=>exact .any v
def VCalls.pure {g:FuncId} {args:List DV} {hp:Qa} {R:DV->Prop} (c:VCalls P g args [] fun r h'=>h' = []/\r.nums (fun _=>false) = true/\R r) (ha:DV.nums.go (fun _=>false) args = true):VCalls P g args hp fun r h'=>h' = hp/\R r:=by
 refine⟨fun w β vs hh hr=>?_⟩
 have hsame:∀ (σ:Nat->Nat),(fun _:Nat=>false)=fun _=>false:=fun _=>rfl
 have Qe5:∀ {w:World} {β β':Map} {hp hp':Qa} {d:DV} {v:Value},RelD w β hp d v->d.nums (fun _=>false) = true->(∀ b,img β' hp' b->img β hp b)->RelD w β' hp' d v:=by
  intro w β β' hp hp' d v h hn him
  induction h with
  | pv q v h=>exact .pv q v (h.mono (Jw _) (fun _ _ _=>rfl) (fun b _=>him b))
  | ptr k off b h hb=>simp[DV.nums] at hn
  | own=>simp[DV.nums] at hn
  | own0=>simp[DV.nums] at hn
  | ownc=>simp[DV.nums] at hn
  | ip cs ad val h1 h2 h3 =>
    exact .ip cs ad val h1 (fun j d hd=>⟨(h2 j d hd).1,fun x=>(h2 j d hd).2.1 (him _ x),(h2 j d hd).2.2⟩) (fun j d hd=>(h3 j d hd).mono (Jw _) (fun _ _ _=>rfl) (fun b _=>him b))
  | agg ds vs h _ ih=>exact .agg _ vs h (fun i d hd=>ih i d hd (DV.nums_go (by simpa [DV.nums] using hn) i d hd))
  | tup ds vs h _ ih=>exact .tup _ vs h (fun i d hd=>ih i d hd (DV.nums_go (by simpa [DV.nums] using hn) i d hd))
  | fn f ds es vs us h h' _ _ ih ih' =>
    have hr':DV.nums.go (fun _=>false) ds=true/\DV.nums.go (fun _=>false) es=true:=by simpa [DV.nums] using hn
    exact .fn f _ _ vs us h h' (fun i d hd=>ih i d hd (DV.nums_go hr'.1 i d hd)) (fun i d hd=>ih' i d hd (DV.nums_go hr'.2 i d hd))
  | opt c d v _ hf ih=>exact .opt c _ v (fun hc=>ih hc (by simpa [DV.nums] using hn)) hf
  | any v=>exact .any v
 let βc:Map:=⟨β.f,img β hp⟩
 have himc:∀ b,img βc [] b->img β hp b:=fun b hb=>by
  rcases hb with hb | ⟨k,B,h1,_⟩
  ·exact hb
  ·simp at h1
 have hhc:HeapRel w βc []:=⟨by simp,by simp,by simp,by simp,fun b hb=>by
  rcases hb with hb | hb
  ·exact hh.bound b hb
  ·exact QbZ hh hb⟩
 refine(c.run w βc vs hhc ⟨hr.1,fun i d hd=>Qe5 (hr.2 i d hd) (DV.nums_go ha i d hd) himc⟩).mono ?_
 rintro e w' ⟨v,r,h',β',rfl,ev,hh',hrel,rfl,hn,hR⟩
 have heap_same:∀ b,b<w.heap.size->w'.heap[b]?=w.heap[b]?:=fun b hb=>ev.same b hb (by rintro⟨k,B,h1,_⟩; simp at h1)
 have e:Evo w β hp w' β hp:=⟨ev.os,ev.tape,ev.output,ev.size,Jw _,fun _ _=>rfl,fun b hb _=>heap_same b hb,fun b C T m h=>⟨C,m,by rw[heap_same b (Ja.1 h).1]; exact h,rfl⟩,fun _ _ h=>h,rfl⟩
 have him':∀ b,img β hp b->img β' [] b:=fun b hb=>.inl (by rw[ev.X]; exact hb)
 refine⟨v,r,hp,β,rfl,e,?_,Qe5 hrel hn him',rfl,hR⟩
 refine⟨fun k B b h1 h2 h3=>?_,hh.none,hh.inj,hh.avoid,fun b hb=>Jp (hh.bound b hb) ev.size⟩
 obtain⟨C,g1,g2,g3⟩:=hh.blk k B b h1 h2 h3
 exact⟨C,by rw[heap_same b (Ja.1 g1).1]; exact g1,g2,fun i d hd=>⟨(g3 i d hd).1,(g3 i d hd).2.mono e⟩⟩
end Go.V
namespace Go.V
end Go.V
namespace Go.V
def Qbz(h : -9223372036854775808<=n/\n<=9223372036854775807):IntKind.i64.wrap n=n:=by rw[IntKind.wrap_i64]; omega
def QnF(h:0<=n/\n<=255):IntKind.u8.wrap n=n:=by rw[IntKind.wrap_u8]; omega
def QDD[Decidable p](h:p):decide p=true:=decide_eq_true h
def QDE[Decidable p](h:¬ p):decide p=false:=decide_eq_false h
def Qso{a b:Int}(h:a=b):(a==b)=true:=by simp[h]
def Qsp{a b:Int}(h:¬ a=b):(a==b)=false:=by simp[h]
def Qsm{a b:Int}(h:¬ a=b):(a != b)=true:=by simp[h]
def Qsn{a b:Int}(h:a=b):(a != b)=false:=by simp[h]
def QAo(b:Bool):(b==true)=b:=by cases b<;>rfl
def QAp(b:Bool):(b==false)=!b:=by cases b<;>rfl
end Go.V
namespace Go.V
def Q8:Op->Bool
 | .move _ | .assign _ | .pick .. | .load .. | .store .. | .nilCheck _ | .binOp .. | .unOp .. | .convert .. | .makeFunc .. | .slice .. | .fieldAddr .. | .field .. | .indexAddr .. | .index .. | .extract .. | .build ..=>true
 | .call c=>match c.callee with
   | .builtin .len | .builtin .min | .builtin .max | .builtin .cap | .builtin .unsafeSliceData=>true
   | _=>false
 | _=>false
def QbW(ev:Operand->DV):Op->List Nat×Bool
 | .load _ a=>(match ev a with | .ptr k _=>[k] | _=>[],false)
 | .store _ a _=>(match ev a with | .ptr k _=>[k] | _=>[],true)
 | .convert _ _ x=>(match ev x with | .own k _ _ _=>[k] | .ptr k _=>[k] | _=>[],false)
 | .slice _ x _ _ _=>(match ev x with | .ptr k _=>[k] | _=>[],false)
 | _=>([],false)
def Qlk (hf:∀ k off,a = .ptr k off->hp'[k]? = hp[k]?):QdW P hp' T a = QdW P hp T a:=by
 cases a with
 | ptr k off =>
   have:Qk hp' k=Qk hp k:=by simp[Qk,hf k off rfl]
   simp only[QdW,this]
 | _=>rfl
def QnJ(hf:∀ k a b c,x=.own k a b c->hp'[k]?=hp[k]?):Qlf hp' sz x=Qlf hp sz x:=by
 unfold Qlf
 split
 ·rename_i k a b c
  have:Qk hp' k=Qk hp k:=by simp[Qk,hf k a b c rfl]
  rw[this]
 all_goals rfl
def QfZ (hk:Q8 o = true) (hev:∀ x ∈ o.operands.toList,ev' x = ev x):vop P ev' hp o = vop P ev hp o:=by
 have mp:∀ (ps:Array (Nat×Operand)),(∀ x∈(ps.toList.map (·.2)).toArray.toList,ev' x=ev x)->parts ev' ps=parts ev ps:=fun ps hps=>by
  unfold parts
  exact JC fun p hp=>by rw[hps p.2 (by simp; exact⟨p.1,by simpa using hp⟩)]
 have ml:∀ (xs:Array Operand),(∀ x∈xs.toList,ev' x=ev x)->xs.toList.map ev'=xs.toList.map ev:=fun xs hxs=>JC hxs
 have mo:∀ (x:Option Operand),(∀ y∈x.toArray.toList,ev' y=ev y)->x.map ev'=x.map ev:=fun x hx=>by cases x<;>simp_all
 cases o with
 | build T ps=>simp only[vop,mp ps (by simpa [Op.operands] using hev)]
 | makeFunc f xs ys =>
   have h1:=ml xs (fun x hx=>hev x (by simp[Op.operands]; left; simpa using hx))
   have h2:=ml ys (fun x hx=>hev x (by simp[Op.operands]; right; simpa using hx))
   simp only[vop,h1,h2]
 | call c =>
   have h1:c.args.toList.map ev'=c.args.toList.map ev:=ml c.args (fun x hx=>hev x (by simp[Op.operands,Call.operands]; right; simpa using hx))
   simp only[vop,h1]
 | slice T x lo hi mx =>
   have h0:=hev x (by simp[Op.operands])
   have h1:=mo lo (fun y hy=>hev y (by simp[Op.operands] at hy |-; simp[hy]))
   have h2:=mo hi (fun y hy=>hev y (by simp[Op.operands] at hy |-; simp[hy]))
   have h3:=mo mx (fun y hy=>hev y (by simp[Op.operands] at hy |-; simp[hy]))
   simp only[vop,h0,h1,h2,h3]
 | _=>first
   | (simp[Q8] at hk; done)
   | (simp[Op.operands] at hev; simp[vop,hev]; done)
def Qie(hf:∀ k off,a=.ptr k off->hp'[k]?=hp[k]?):QcJ P hp' T a lo hi mx=QcJ P hp T a lo hi mx:=by
 unfold QcJ
 split
 ·rename_i k off
  have:Qk hp' k=Qk hp k:=by simp[Qk,hf k off rfl]
  simp only[QfU,this]
 ·rfl
def QcL (hk:Q8 o = true) (hf:∀ k ∈ (QbW ev o).1,hp'[k]? = hp[k]?) (h:vop P ev hp o = some (d,h1)):
 ((QbW ev o).2=false/\h1=hp/\vop P ev hp' o=some (d,hp')) \/
 ((QbW ev o).2=true/\∃ k cs,(QbW ev o).1=[k]/\h1=Qu hp k cs/\vop P ev hp' o=some (d,Qu hp' k cs)):=by
 have fin:∀ {x:Option DV},x.map (fun d=>(d,hp))=some (d,h1)->h1=hp/\x.map (fun d=>(d,hp'))=some (d,hp'):=fun {x} hx=>by
  obtain⟨d',e1,e2⟩:=Qw hx
  simp at e2
  exact⟨e2.2.symm,by simp[e1,e2.1]⟩
 cases o with
 | store T a x =>
   refine .inr ⟨rfl,?_⟩
   simp only[vop] at h |-
   obtain⟨h2,e1,e2⟩:=Qw h
   simp at e2
   obtain⟨rfl,rfl⟩:=e2
   cases ha:ev a with
   | ptr k off =>
     rw[ha] at e1
     have hfk:=hf k (by simp[QbW,ha])
     have hb:Qk hp' k=Qk hp k:=by simp[Qk,hfk]
     refine⟨k,?_⟩
     simp only[QbW,ha,Qe4,hb] at e1 |-
     split at e1
     ·rename_i cs q1 q2
      split at e1
      ·rename_i hc; simp at e1; exact⟨_,trivial,e1.symm,by simp[hc]⟩
      ·simp at e1
     ·rename_i cs n q1 q2
      split at e1
      ·rename_i ds hds
       split at e1
       ·rename_i hc; simp at e1; exact⟨_,trivial,e1.symm,by simp[hc]⟩
       ·simp at e1
      ·simp at e1
     ·simp at e1
   | _=>rw[ha] at e1; simp[Qe4] at e1
 | load T a =>
   simp only[vop] at h |-
   rw[Qlk (hp':=hp') (fun k off hko=>hf k (by simp[QbW,hko]))]
   exact .inl ⟨rfl,fin h⟩
 | slice T x lo hi mx =>
   simp only[vop] at h |-
   rw[Qie (hp':=hp') (fun k off hko=>hf k (by simp[QbW,hko]))]
   exact .inl ⟨rfl,fin h⟩
 | convert S T x =>
   have hsr:Qwp hp' (ev x)=Qwp hp (ev x):=by
    have:=QnJ (hp:=hp) (hp':=hp') (sz:=1) (x:=ev x) fun k a b c hk=>hf k (by simp[QbW,hk])
    unfold Qwp
    split
    ·rfl
    ·exact this
   have hcp:∀ k off,ev x=.ptr k off->QaO P hp' S T k off=QaO P hp S T k off:=fun k off hk=>by
    have hfk:=hf k (by simp[QbW,hk])
    unfold QaO
    rw[hfk]
   simp only[vop,Qjq] at h |-
   split at h
   ·rename_i k off hk
    rw[<- hcp k off hk] at h
    exact .inl ⟨rfl,fin h⟩
   ·simp only [Qa9,hsr] at h |-
    exact .inl ⟨rfl,fin h⟩
 | call c =>
   refine .inl ⟨rfl,?_⟩
   simp only[Q8] at hk
   simp only[vop] at h |-
   split at h
   ·rename_i b hb
    rw[hb] at hk
    unfold Qap at h |-
    split at h<;>first
     | (exact fin h)
     | (simp at hk; done)
     | (simp at h; done)
   ·simp at h
 | move x | assign x=>simp only[vop] at h |-; simp at h; exact .inl ⟨rfl,h.2.symm,by simp[h.1]⟩
 | makeFunc f a b=>simp only[vop] at h |-; simp at h; exact .inl ⟨rfl,h.2.symm,by simp[h.1]⟩
 | pick c a b =>
   simp only[vop] at h |-
   refine .inl ⟨rfl,?_⟩
   split at h
   ·rename_i t ht; simp at h; exact⟨h.2.symm,by simp[h.1]⟩
   ·simp at h
 | nilCheck x =>
   simp only[vop] at h |-
   refine .inl ⟨rfl,?_⟩
   split at h
   ·simp at h; exact⟨h.2.symm,by simp[h.1]⟩
   ·simp at h; exact⟨h.2.symm,by simp[h.1]⟩
   ·simp at h
 | _=>first
   | (simp[Q8] at hk; done)
   | (simp only[vop] at h |-; exact .inl ⟨rfl,fin h⟩)
def Qay(after:Array Edge)(f:List Nat×Bool):Nat->List (List Nat×Bool)->Bool
 | _,[]=>true
 | i,g::r=>(!((g.2||f.2)&&g.1.any fun k=>f.1.contains k)||after.toList.any fun e=>Region.binds .any e&&e.on==i)&&Qay after f (i+1) r
def vdr (P:Program) (all:List Oper):List Oper->List (List Nat × Bool)->(St->Prop)->St->Prop
 | [],_,K,S=>K S
 | o :: r, fs,K,S =>
   S.fits o.dst=true /\
   match QF all S o with
   | none=>False
   | some false=>vdr P all r (fs++[([],false)]) K (S.put o.dst (.tup []))
   | some true =>
     match Qm (fun x=>Qo true (S.ev x)) o.op with
     | some (g,args)=>∃ d,(VCalls P g args [] fun r h=>h=[]/\r=d)/\DV.nums.go (fun _=>false) args=true/\d.nums (fun _=>false)=true/\vdr P all r (fs++[([],false)]) K (S.put o.dst (QdB o.guard true d))
     | none =>
       match vop P (fun x=>Qo true (S.ev x)) S.hp o.op with
       | some (d,hp')=>Q8 o.op=true/\Qay o.after (QbW (fun x=>Qo true (S.ev x)) o.op) 0 fs=true /\
        vdr P all r (fs++[QbW (fun x=>Qo true (S.ev x)) o.op]) K ((S.at hp').put o.dst (QdB o.guard true d))
       | none=>False
def Qmu(P:Program)(all:List Oper)(S:St)(o:Oper)(S':St)(f:List Nat×Bool):Prop :=
 S.fits o.dst=true/\∃ G,QF all S o=some G /\
  ((∃ g args d,Qm (fun x=>Qo G (S.ev x)) o.op = some (g,args)/\(G = true->VCalls P g args [] fun r h=>h = []/\r = d)/\DV.nums.go (fun _=>false) args = true/\d.nums (fun _=>false) = true/\S' = S.put o.dst (QdB o.guard G d)/\f = ([],false)) \/
   (∃ d hp',Qm (fun x=>Qo G (S.ev x)) o.op=none/\vop P (fun x=>Qo G (S.ev x)) S.hp o.op=some (d,hp')/\Q8 o.op=true/\S'=(S.at (bif G then hp' else S.hp)).put o.dst (QdB o.guard G d)/\f=QbW (fun x=>Qo G (S.ev x)) o.op) \/
   (G=false/\S'=S.put o.dst (.tup [])/\f=([],false)))
def Qpg(f g:List Nat×Bool):Prop:=(g.2=true\/f.2=true)/\∃ k,k∈g.1/\k∈f.1
def Qgt:∀ {fs:List (List Nat × Bool)} {n:Nat},Qay after f n fs = true->∀ (i:Nat) (g:List Nat × Bool),fs[i]? = some g->Qpg f g->∃ e ∈ after,Region.binds .any e = true/\e.on = n + i
 | [],n,_,i,g,h,_=>by simp at h
 | g0 :: r,n,hok,i,g,h,hc=>by
   simp only[Qay,Jb] at hok
   cases i with
   | zero =>
     simp at h
     subst h
     obtain⟨h1,k,h2,h3⟩:=hc
     have hand:((g0.2||f.2)&&g0.1.any fun k=>f.1.contains k)=true:=by
      simp only[Jb,Jy,JD,List.contains_iff_mem]
      exact⟨h1,k,h2,h3⟩
     have:=hok.1
     rw[hand] at this
     simp only[Bool.not_true,Bool.false_or,JD,Jb,beq_iff_eq] at this
     obtain⟨e,e1,e2,e3⟩:=this
     exact⟨e,by simpa using e1,e2,by omega⟩
   | succ i =>
     obtain⟨e,e1,e2,e3⟩:=Qgt hok.2 i g (by simpa using h) hc
     exact⟨e,e1,e2,by omega⟩
def Qf1:∀ (rest pre:List Oper) (fs:List (List Nat × Bool)) (S:St),all = pre ++ rest->fs.length = pre.length->vdr P all rest fs K S ->
 ∃ (T:Nat->St) (F:Nat->List Nat × Bool),(∀ i f,fs[i]? = some f->F i = f)/\T pre.length = S/\K (T all.length) /\
   ∀ j,pre.length<=j->j<all.length->∃ o,all[j]?=some o/\Qmu P all (T j) o (T (j+1)) (F j)/\∀ i,i<j->Qpg (F j) (F i)->∃ e∈o.after,Region.binds .any e=true/\e.on=i
 | [],pre,fs,S,hall,hfs,h=>by
   refine⟨fun _=>S,fun i=>fs.getD i ([],false),fun i f hf=>by simp[Ji,hf],rfl,h,fun j h1 h2=>?_⟩
   subst hall
   simp at h2
   omega
 | o :: r, pre,fs,S,hall,hfs,h=>by
   have hlt:pre.length<all.length:=by rw[hall]; simp
   have hat:all[pre.length]?=some o:=by rw[hall]; simp
   unfold vdr at h
   obtain⟨hf,h⟩:=h
   have go : ∀ (S1:St) (f:List Nat × Bool),vdr P all r (fs ++ [f]) K S1->Qmu P all S o S1 f->(∀ i,i < pre.length->∀ g,fs[i]? = some g->Qpg f g->∃ e ∈ o.after,Region.binds .any e = true/\e.on = i) ->
    ∃ (T:Nat->St) (F:Nat->List Nat × Bool),(∀ i f,fs[i]? = some f->F i = f)/\T pre.length = S/\K (T all.length) /\
      ∀ j,pre.length<=j->j<all.length->∃ o,all[j]?=some o/\Qmu P all (T j) o (T (j+1)) (F j)/\∀ i,i<j->Qpg (F j) (F i)->∃ e∈o.after,Region.binds .any e=true/\e.on=i:=by
    intro S1 f hr hstep hcl
    obtain⟨T,F,h1,h2,h3,h4⟩:=Qf1 r (pre++[o]) (fs++[f]) S1 (by rw[hall]; simp) (by simp[hfs]) hr
    simp only[List.length_append,List.length_singleton] at h2 h4
    have hF:F pre.length=f:=h1 _ f (by rw[<- hfs]; simp)
    have hFs:∀ i g,fs[i]?=some g->F i=g:=fun i g hg=>h1 i g (by rw[Jz (Jc.1 hg).1]; exact hg)
    refine⟨fun j=>if j=pre.length then S else T j,F,hFs,by simp,?_,fun j g1 g2=>?_⟩
    ·show K (if all.length = pre.length then S else T all.length)
     rw[if_neg (by omega)]
     exact h3
    ·by_cases hj:j = pre.length
     ·subst hj
      refine⟨o,hat,?_,fun i hi hc=>?_⟩
      ·show Qmu P all (if pre.length = pre.length then S else T pre.length) o (if pre.length + 1 = pre.length then S else T (pre.length + 1)) (F pre.length)
       rw[if_pos rfl,if_neg (by omega),h2,hF]
       exact hstep
      ·have hi':i < fs.length:=by omega
       rw[hF,hFs i _ (Jd hi')] at hc
       exact hcl i hi _ (Jd hi') hc
     ·obtain ⟨o',e1,e2,e3⟩:=h4 j (by omega) g2
      refine⟨o',e1,?_,e3⟩
      show Qmu P all (if j=pre.length then S else T j) o' (if j+1=pre.length then S else T (j+1)) (F j)
      rw[if_neg hj,if_neg (by omega)]
      exact e2
   have nocl:∀ g:List Nat×Bool,¬ Qpg ([],false) g:=fun g ⟨_,k,_,hk⟩=>by simp at hk
   split at h
   ·exact h.elim
   ·rename_i hg
    exact go _ _ h ⟨hf,false,hg,.inr (.inr ⟨rfl,rfl,rfl⟩)⟩ (fun i _ g _ hcl=>absurd hcl (nocl g))
   ·rename_i hg
    split at h
    ·rename_i g args hc
     obtain⟨d,k1,k2,k3,k4⟩:=h
     exact go _ _ k4 ⟨hf,true,hg,.inl ⟨g,args,d,hc,fun _=>k1,k2,k3,rfl,rfl⟩⟩ (fun i _ g _ hcl=>absurd hcl (nocl g))
    ·rename_i hc
     split at h
     ·rename_i d hp' hv
      obtain⟨k1,k2,k3⟩:=h
      refine go _ _ k3 ⟨hf,true,hg,.inr (.inl ⟨d,hp',hc,hv,k1,rfl,rfl⟩)⟩ (fun i _ g hg' hcl=>?_)
      obtain⟨e,e1,e2,e3⟩:=Qgt k2 i g hg' hcl
      exact⟨e,e1,e2,by omega⟩
     ·exact h.elim
def Qh1(ops:Array Oper):Bool :=
 (Jk ops.size).all fun j=>
  match ops[j]? with
  | none=>true
  | some oj=>(oj.after.toList.all fun e=>!Region.binds .any e||decide (e.on<j))&&(Jk j).all fun i=>
   match ops[i]? with
   | none=>true
   | some oi=>oi.apart ops oj||oj.after.toList.any fun e=>Region.binds .any e&&e.on==i
def Qa6(h:Qh1 ops=true)(hj:ops[j]?=some oj):
 (∀ e∈oj.after,Region.binds .any e=true->e.on<j)/\∀ i oi,i<j->ops[i]?=some oi->oi.apart ops oj=true\/∃ e∈oj.after,Region.binds .any e=true/\e.on=i:=by
 have hlt:j<ops.size:=(Ja.1 hj).1
 have h1:=Je.1 h j (Jm.2 hlt)
 rw[hj] at h1
 simp only[Jb] at h1
 refine⟨fun e he hb=>?_,fun i oi hi ho=>?_⟩
 ·have:=Je.1 h1.1 e (by simpa using he)
  simpa [hb] using this
 ·have:=Je.1 h1.2 i (Jm.2 hi)
  rw[ho] at this
  simp only[Jy,JD,Jb,beq_iff_eq] at this
  rcases this with h | ⟨e,e1,e2,e3⟩
  ·exact .inl h
  ·exact .inr ⟨e,by simpa using e1,e2,e3⟩
def Qez:∀ {l:List Nat} {j:Nat},j ∈ l->p j = true->p' j = false->(∀ i,p' i = true->p i = true)->l.countP p' < l.countP p
 | a :: l,j,hm,h1,h2,h3=>by
   have mono:∀ l:List Nat,l.countP p'<=l.countP p:=fun l=>List.countP_mono_left fun x _ hx=>h3 x hx
   simp only[List.countP_cons]
   rcases Jl.1 hm with rfl | hm
   ·simp only [h1,h2,if_true,Bool.false_eq_true,if_false]
    have:=mono l
    omega
   ·have:=Qez hm h1 h2 h3
    have h4:(if p' a=true then 1 else 0)<=(if p a=true then 1 else 0):=by
     by_cases h:p' a=true
     ·simp[h,h3 a h]
     ·simp[h]
    omega
section
variable {P:Program} {ops:Array Oper} {T:Nat->St} {F:Nat->List Nat×Bool}
def wT(ops:Array Oper)(i t:Nat):Prop:=∃ o,ops[i]?=some o/\o.dst=some t
def wB(F:Nat->List Nat×Bool)(i k:Nat):Prop:=(F i).2=true/\k∈(F i).1
structure Steps(P:Program)(ops:Array Oper)(T:Nat->St)(F:Nat->List Nat×Bool):Prop where
 step:∀ j,j<ops.size->∃ o,ops[j]?=some o/\Qmu P ops.toList (T j) o (T (j+1)) (F j)/\∀ i,i<j->Qpg (F j) (F i)->∃ e∈o.after,Region.binds .any e=true/\e.on=i
 ok:Qh1 ops=true
theorem St.put_hp(S:St)(dst:Option Tmp)(d:DV):(S.put dst d).hp=S.hp:=by cases dst<;>rfl
theorem St.put_nt(S:St)(dst:Option Tmp)(d:DV):(S.put dst d).nt=S.nt:=by cases dst<;>rfl
theorem St.put_base(S:St)(dst:Option Tmp)(d:DV):(S.put dst d).base=S.base:=by cases dst<;>rfl
theorem St.put_look (S:St) (dst:Option Tmp) (d:DV) (t:Nat) (h:dst ≠ some t):V.look (S.put dst d).tm t = V.look S.tm t:=by
 cases dst with
 | none=>rfl
 | some u =>
   simp only[St.put,V.look]
   rw[if_neg]
   intro e
   exact h (by rw[e])
theorem Qd4 (h:Qmu P all S o S' f):
 S'.nt=S.nt/\S'.base=S.base/\S'.hp.length=S.hp.length/\(∀ t,o.dst≠some t->V.look S'.tm t=V.look S.tm t)/\(∀ k,¬ (f.2=true/\k∈f.1)->S'.hp[k]?=S.hp[k]?):=by
 obtain⟨_,G,_,h⟩:=h
 rcases h with⟨g,args,d,_,_,_,_,rfl,rfl⟩ | ⟨d,hp',_,hv,hk,rfl,rfl⟩ | ⟨_,rfl,rfl⟩
 ·exact⟨St.put_nt ..,St.put_base ..,by rw[St.put_hp],fun t ht=>St.put_look _ _ _ t ht,fun k _=>by rw[St.put_hp]⟩
 ·have key:(bif G then hp' else S.hp).length = S.hp.length/\∀ k,¬ ((QbW (fun x=>Qo G (S.ev x)) o.op).2 = true/\k ∈ (QbW (fun x=>Qo G (S.ev x)) o.op).1)->(bif G then hp' else S.hp)[k]? = S.hp[k]?:=by
   cases G with
   | false=>exact⟨rfl,fun k _=>rfl⟩
   | true =>
     simp only[cond_true]
     rcases QcL (hp':=S.hp) hk (fun k _=>rfl) hv with⟨e1,e2,_⟩ | ⟨e1,k0,cs,e2,e3,_⟩
     ·rw[e2]; exact⟨rfl,fun k _=>rfl⟩
     ·rw [e3]
      refine⟨?_,fun k hk=>?_⟩
      ·unfold Qu; split<;>simp
      ·rw [e1,e2] at hk
       have hne:k0≠k:=fun h=>hk ⟨rfl,by simp[h]⟩
       unfold Qu
       split
       ·rw[Jq hne]
       ·rfl
  exact⟨St.put_nt ..,St.put_base ..,by rw[St.put_hp]; exact key.1,fun t ht=>(St.put_look _ _ _ t ht).trans rfl,fun k hk=>by rw[St.put_hp]; exact key.2 k hk⟩
 ·exact⟨St.put_nt ..,St.put_base ..,by rw[St.put_hp],fun t ht=>St.put_look _ _ _ t ht,fun k _=>by rw[St.put_hp]⟩
theorem Qd1 (h:Steps P ops T F):∀ b,a<=b->b<=ops.size->(∀ i,a<=i->i < b->¬ wT ops i t)->V.look (T b).tm t = V.look (T a).tm t
 | 0,h1,_,_=>by rw[J8.1 h1]
 | b + 1,h1,h2,h3=>by
   by_cases he:a=b+1
   ·rw[he]
   ·obtain ⟨o,ho,hs,_⟩:=h.step b (by omega)
    rw[(Qd4 hs).2.2.2.1 t (fun hd=>h3 b (by omega) (by omega) ⟨o,ho,hd⟩)]
    exact Qd1 h b (by omega) (by omega) (fun i hi1 hi2=>h3 i hi1 (by omega))
theorem Qeo (h:Steps P ops T F):∀ b,a<=b->b<=ops.size->(∀ i,a<=i->i < b->¬ wB F i k)->(T b).hp[k]? = (T a).hp[k]?
 | 0,h1,_,_=>by rw[J8.1 h1]
 | b + 1,h1,h2,h3=>by
   by_cases he:a=b+1
   ·rw[he]
   ·obtain ⟨o,ho,hs,_⟩:=h.step b (by omega)
    rw[(Qd4 hs).2.2.2.2 k (fun hd=>h3 b (by omega) (by omega) hd)]
    exact Qeo h b (by omega) (by omega) (fun i hi1 hi2=>h3 i hi1 (by omega))
theorem Qci (h:Steps P ops T F):∀ j,j<=ops.size->(T j).nt = (T 0).nt/\(T j).base = (T 0).base/\(T j).hp.length = (T 0).hp.length
 | 0,_=>⟨rfl,rfl,rfl⟩
 | j + 1,hj=>by
   obtain⟨o,ho,hs,_⟩:=h.step j (by omega)
   obtain⟨e1,e2,e3,_⟩:=Qd4 hs
   obtain⟨f1,f2,f3⟩:=Qci h j (by omega)
   exact⟨e1.trans f1,e2.trans f2,e3.trans f3⟩
structure Inv(O:Org)(ops:Array Oper)(T:Nat->St)(F:Nat->List Nat×Bool)(listed:Array Bool)(S:St):Prop where
 size:listed.size=ops.size
 nt:S.nt=(T 0).nt
 base:S.base=(T 0).base
 len:S.hp.length=(T 0).hp.length
 closed:∀ i o,ops[i]?=some o->listed.getD i false=true->∀ e∈o.after,Region.binds .any e=true->listed.getD e.on false=true
 tm:∀ t,∃ m,m<=ops.size/\V.look S.tm t=V.look (T m).tm t/\(∀ i,i<m->wT ops i t->listed.getD i false=true)/\(∀ i,m<=i->wT ops i t->listed.getD i false=false)
 hp:∀ k,∃ m,m<=ops.size/\S.hp[k]?=(T m).hp[k]?/\(∀ i,i<m->wB F i k->listed.getD i false=true)/\(∀ i,m<=i->i<ops.size->wB F i k->listed.getD i false=false)
theorem Qsl (h:Steps P ops T F) (hi:Inv O ops T F listed S) (hj:ops[j]? = some oj) (hun:listed.getD j false = false) (hr:∀ e ∈ oj.after,Region.binds .any e = true->listed.getD e.on false = true) (ht:t ∈ oj.looksAt ops\/oj.dst = some t):V.look S.tm t = V.look (T j).tm t/\(∀ i,i < j->wT ops i t->listed.getD i false = true)/\(∀ i,j<=i->wT ops i t->listed.getD i false = false):=by
 have hjlt:j<ops.size:=(Ja.1 hj).1
 have before:∀ i,i<j->wT ops i t->listed.getD i false=true:=by
  rintro i hij ⟨oi,hoi,hd⟩
  rcases(Qa6 h.ok hj).2 i oi hij hoi with ha | ⟨e,e1,e2,e3⟩
  ·obtain ⟨a1,a2,_⟩:=Oper.apart_spec ha
   rcases ht with ht | ht
   ·exact absurd ht (a1 t hd)
   ·exact absurd ht (a2 t hd)
  ·rw[<- e3]; exact hr e e1 e2
 have QQ:∀ i,j<=i->wT ops i t->listed.getD i false = false:=by
  rintro i hij ⟨oi,hoi,hd⟩
  by_cases hij':i=j
  ·rw[hij']; exact hun
  ·rcases (Qa6 h.ok hoi).2 j oj (by omega) hj with ha | ⟨e,e1,e2,e3⟩
   ·obtain ⟨_,a2,a3⟩:=Oper.apart_spec ha
    rcases ht with ht | ht
    ·exact absurd ht (a3 t hd)
    ·exact absurd hd (a2 t ht)
   ·cases hl:listed.getD i false with
    | false=>rfl
    | true =>
      have:=hi.closed i oi hoi hl e e1 e2
      rw[e3,hun] at this
      cases this
 refine⟨?_,before,QQ⟩
 obtain⟨m,hm,e,h1,h2⟩:=hi.tm t
 rw[e]
 rcases J5 m j with hmj | hmj
 ·exact(Qd1 h j hmj (by omega) (fun i h3 h4 hw=>by have:=before i h4 hw; rw[h2 i h3 hw] at this; cases this)).symm
 ·exact Qd1 h m hmj hm (fun i h3 h4 hw=>by have:=h1 i h4 hw; rw[QQ i h3 hw] at this; cases this)
theorem QkC (h:Steps P ops T F) (hi:Inv O ops T F listed S) (hj:ops[j]? = some oj) (hun:listed.getD j false = false) (hr:∀ e ∈ oj.after,Region.binds .any e = true->listed.getD e.on false = true) (hk:k ∈ (F j).1):(S.hp[k]? = (T j).hp[k]?)/\((F j).2 = true->(∀ i,i < j->wB F i k->listed.getD i false = true)/\(∀ i,j<=i->i < ops.size->wB F i k->listed.getD i false = false)):=by
 have hjlt:j<ops.size:=(Ja.1 hj).1
 obtain⟨o',ho',_,hcl⟩:=h.step j hjlt
 rw[hj] at ho'
 simp at ho'
 subst ho'
 have before:∀ i,i<j->wB F i k->listed.getD i false=true:=by
  rintro i hij ⟨hw,hki⟩
  obtain⟨e,e1,e2,e3⟩:=hcl i hij ⟨.inl hw,k,hki,hk⟩
  rw[<- e3]; exact hr e e1 e2
 have QQ:∀ i,j<=i->i < ops.size->wB F i k->listed.getD i false = false:=by
  rintro i hij hilt ⟨hw,hki⟩
  by_cases hij':i=j
  ·rw[hij']; exact hun
  ·obtain ⟨oi,hoi,_,hcli⟩:=h.step i hilt
   obtain⟨e,e1,e2,e3⟩:=hcli j (by omega) ⟨.inr hw,k,hk,hki⟩
   cases hl:listed.getD i false with
   | false=>rfl
   | true =>
     have:=hi.closed i oi hoi hl e e1 e2
     rw[e3,hun] at this
     cases this
 refine⟨?_,fun _=>⟨before,QQ⟩⟩
 obtain⟨m,hm,e,h1,h2⟩:=hi.hp k
 rw[e]
 rcases J5 m j with hmj | hmj
 ·exact(Qeo h j hmj (by omega) (fun i h3 h4 hw=>by have:=before i h4 hw; rw[h2 i h3 (by omega) hw] at this; cases this)).symm
 ·exact Qeo h m hmj hm (fun i h3 h4 hw=>by have:=h1 i h4 hw; rw[QQ i h3 (by omega) hw] at this; cases this)
theorem Qnj(h:Steps P ops T F)(hi:Inv O ops T F listed S)(hj:ops[j]?=some oj)(hun:listed.getD j false=false)(hr:∀ e∈oj.after,Region.binds .any e=true->listed.getD e.on false=true)(hnt:S1.nt=S.nt)(hbase:S1.base=S.base)(hlen:S1.hp.length=S.hp.length)(htm:∀ t,oj.dst≠some t->V.look S1.tm t=V.look S.tm t)(htm':∀ t,oj.dst=some t->V.look S1.tm t=V.look (T (j+1)).tm t)(hhp:∀ k,¬ wB F j k->S1.hp[k]?=S.hp[k]?)(hhp':∀ k,wB F j k->S1.hp[k]?=(T (j+1)).hp[k]?):Inv O ops T F (listed.setIfInBounds j true) S1:=by
 have hjlt:j<ops.size:=(Ja.1 hj).1
 have hjl:j<listed.size:=by rw[hi.size]; exact hjlt
 have hself:(listed.setIfInBounds j true).getD j false=true:=by simp[hjl]
 have hoth:∀ i,i≠j->(listed.setIfInBounds j true).getD i false=listed.getD i false:=fun i hij=>getD_set_ne false (Ne.symm hij)
 refine⟨by simp[hi.size],hnt.trans hi.nt,hbase.trans hi.base,hlen.trans hi.len,fun i o hio hl e he hb=>?_,fun t=>?_,fun k=>?_⟩
 ·by_cases hij:i = j
  ·subst hij
   rw[hj] at hio
   simp at hio
   subst hio
   exact getD_set_true (hr e he hb)
  ·rw [hoth i hij] at hl
   exact getD_set_true (hi.closed i o hio hl e he hb)
 ·by_cases ht:oj.dst = some t
  ·obtain ⟨_,h1,h2⟩:=Qsl h hi hj hun hr (.inr ht)
   refine⟨j+1,by omega,htm' t ht,fun i hij hw=>?_,fun i hij hw=>?_⟩
   ·by_cases he:i = j
    ·rw[he]; exact hself
    ·rw[hoth i he]; exact h1 i (by omega) hw
   ·rw[hoth i (by omega)]; exact h2 i (by omega) hw
  ·obtain ⟨m,hm,e,h1,h2⟩:=hi.tm t
   have hne:∀ i,wT ops i t->i≠j:=by
    rintro i ⟨o,ho,hd⟩ rfl
    rw[hj] at ho
    simp at ho
    subst ho
    exact ht hd
   exact⟨m,hm,(htm t ht).trans e,fun i hi' hw=>by rw[hoth i (hne i hw)]; exact h1 i hi' hw,fun i hi' hw=>by rw[hoth i (hne i hw)]; exact h2 i hi' hw⟩
 ·by_cases hk:wB F j k
  ·obtain ⟨_,h12⟩:=QkC h hi hj hun hr hk.2
   obtain⟨h1,h2⟩:=h12 hk.1
   refine⟨j+1,by omega,hhp' k hk,fun i hij hw=>?_,fun i hij hlt hw=>?_⟩
   ·by_cases he:i = j
    ·rw[he]; exact hself
    ·rw[hoth i he]; exact h1 i (by omega) hw
   ·rw[hoth i (by omega)]; exact h2 i (by omega) hlt hw
  ·obtain ⟨m,hm,e,h1,h2⟩:=hi.hp k
   have hne:∀ i,wB F i k->i≠j:=fun i hw he=>hk (he▸hw)
   exact⟨m,hm,(hhp k hk).trans e,fun i hi' hw=>by rw[hoth i (hne i hw)]; exact h1 i hi' hw,fun i hi' hlt hw=>by rw[hoth i (hne i hw)]; exact h2 i hi' hlt hw⟩
theorem Qxa(h1:S.nt=S'.nt)(h2:S.base=S'.base)(h3:S.hp=S'.hp)(hs:Sim O β S a w)(ht:∀ t,V.look S.tm t=V.look S'.tm t):Sim O β S' a w:=
 ⟨hs.defers,by rw[<- h1]; exact hs.size,fun t=>by rw[<- ht t,<- h3]; exact hs.tm t,by rw[<- h3]; exact hs.heap,by rw[<- h3]; exact hs.evo,by rw[<- h2]; exact hs.base⟩
theorem Qbb (h:∀ t ∈ o.looksAt ops,V.look S'.tm t = V.look S.tm t):QF ops.toList S' o = QF ops.toList S o:=by
 unfold QF
 cases hg:o.guard with
 | none=>rfl
 | some jw =>
   obtain⟨j,want⟩:=jw
   simp only
   cases hb:(ops.toList[j]?.bind (·.dst)) with
   | none=>rfl
   | some t =>
     have hb':(ops[j]?).bind (·.dst)=some t:=by simpa using hb
     have:V.look S'.tm t=V.look S.tm t:=h t (by simp[Oper.looksAt,hg,hb'])
     simp only[JF,this]
theorem Qhm{S S':St}{o:Oper}(h:∀ t∈o.looksAt ops,V.look S'.tm t=V.look S.tm t):∀ x∈o.op.operands.toList,S'.ev x=S.ev x:=by
 intro x hx
 cases x with
 | tmp t=>exact h t (by simp only[Oper.looksAt,JB,List.mem_filterMap]; exact .inl ⟨.tmp t,hx,rfl⟩)
 | _=>rfl
theorem QgO (h:∀ x ∈ o.operands.toList,ev' x = ev x):Qm ev' o = Qm ev o:=by
 cases o with
 | call c =>
   simp only[Qm]
   cases hc:c.callee with
   | value f =>
     have hf:ev' f=ev f:=h f (by simp[Op.operands,Call.operands,hc])
     have ha:c.args.toList.map ev'=c.args.toList.map ev:=JC fun x hx=>h x (by simp[Op.operands,Call.operands]; right; simpa using hx)
     simp only[hf,ha]
   | _=>rfl
 | _=>rfl
theorem QgX (h:Steps P ops T F) (hK:∀ β a w,Sim O β (T ops.size) a w->Q .normal a w):∀ (fuel:Nat) (listed:Array Bool) (a:Act) (w:World) (β:Map) (S:St),
 (Jk ops.size).countP (fun i=>!listed.getD i false)<=fuel->Sim O β S a w->Inv O ops T F listed S->wpAny P .any ops Q fuel listed a w:=by
 have done : ∀ (listed:Array Bool) (a:Act) (w:World) (β:Map) (S:St),Region.ready .any ops listed = []->Sim O β S a w->Inv O ops T F listed S->Q .normal a w:=by
  intro listed a w β S hready hs hi
  have all:∀ i,i < ops.size->listed.getD i false = true:=by
   intro i
   induction i using JM with
   | _ i ih =>
     intro hlt
     cases hl:listed.getD i false with
     | true=>rfl
     | false =>
       have ho:ops[i]?=some ops[i]:=JR hlt
       have hmem:i∈Region.ready .any ops listed:=by
        rw[mem_ready]
        refine⟨?_,ops[i],ho,fun e he hb=>ih e.on ((Qa6 h.ok ho).1 e he hb) (J6 ((Qa6 h.ok ho).1 e he hb) hlt)⟩
        have hsz:i<listed.size:=by rw[hi.size]; exact hlt
        simpa [hsz] using hl
       rw[hready] at hmem
       cases hmem
  obtain⟨f1,f2,f3⟩:=Qci h ops.size (Jw _)
  have lt_of:∀ i t,wT ops i t->i<ops.size:=fun i t ⟨o,ho,_⟩=>(Ja.1 ho).1
  refine hK β a w (Qxa (S:=S) (hi.nt.trans f1.symm) (hi.base.trans f2.symm) ?_ hs (fun t=>?_))
  ·apply JS
   intro k
   obtain⟨m,hm,e,_,h2⟩:=hi.hp k
   rw[e]
   exact(Qeo h ops.size hm (Jw _) (fun i h3 h4 hw=>by have:=h2 i h3 h4 hw; rw[all i h4] at this; cases this)).symm
  ·obtain ⟨m,hm,e,_,h2⟩:=hi.tm t
   rw[e]
   exact(Qd1 h ops.size hm (Jw _) (fun i h3 h4 hw=>by have:=h2 i h3 hw; rw[all i h4] at this; cases this)).symm
 intro fuel
 induction fuel with
 | zero =>
   intro listed a w β S hc hs hi
   have hready:Region.ready .any ops listed=[]:=by
    apply JH.2
    intro j hj
    obtain⟨h0,o,ho,_⟩:=mem_ready.1 hj
    have hlt:j<ops.size:=(Ja.1 ho).1
    have:0<(Jk ops.size).countP (fun i=>!listed.getD i false):=by
     rw[JZ]
     refine⟨j,Jm.2 hlt,?_⟩
     have hsz:j<listed.size:=by rw[hi.size]; exact hlt
     simp[hsz] at h0 |-
     exact h0
    omega
   exact⟨hready,done listed a w β S hready hs hi⟩
 | succ fuel ih =>
   intro listed a w β S hc hs hi
   refine⟨fun hready=>done listed a w β S hready hs hi,fun j hj=>?_⟩
   obtain⟨h0,oj,hoj,hr⟩:=mem_ready.1 hj
   have hlt:j<ops.size:=(Ja.1 hoj).1
   have hsz:j<listed.size:=by rw[hi.size]; exact hlt
   have hun:listed.getD j false=false:=by simp[hsz] at h0 |-; exact h0
   obtain⟨o',ho',hstep,_⟩:=h.step j hlt
   rw[hoj] at ho'
   simp at ho'
   subst ho'
   have htm:∀ t∈oj.looksAt ops,V.look S.tm t=V.look (T j).tm t:=fun t ht=>(Qsl h hi hoj hun hr (.inl ht)).1
   have heff:=Qd4 hstep
   obtain⟨hf,G,hg,hcase⟩:=hstep
   obtain⟨f1,f2,f3⟩:=Qci h j (by omega)
   have hf':S.fits oj.dst=true:=by
    unfold St.fits at hf |-
    rw[hi.nt,<- f1]; exact hf
   have hg':QF ops.toList S oj=some G:=by rw[Qbb htm]; exact hg
   have hw:=QO (ops:=ops) hs hg'
   have hevS:∀ x∈oj.op.operands.toList,Qo G (S.ev x)=Qo G ((T j).ev x):=fun x hx=>by rw[Qhm htm x hx]
   have hev:G=true->∀ x,RelD w β S.hp (Qo G (S.ev x)) (a.eval x):=fun hG x=>Qaq (hs.ev x) hG
   have hcnt:(Jk ops.size).countP (fun i=>!(listed.setIfInBounds j true).getD i false)<=fuel:=by
    have:(Jk ops.size).countP (fun i=>!(listed.setIfInBounds j true).getD i false)<(Jk ops.size).countP (fun i=>!listed.getD i false):=by
     refine Qez (Jm.2 hlt) (by rw[hun]; rfl) (by simp[hsz]) (fun i hp=>?_)
     by_cases hij:i=j
     ·rw[hij,hun]; rfl
     ·rw[getD_set_ne false (Ne.symm hij)] at hp; exact hp
    omega
   unfold wpOp
   simp only[hoj,hw]
   -- what stands QQ this operation
   have next:∀ (β1:Map) (a1:Act) (w1:World) (S1:St),Sim O β1 S1 a1 w1->S1.nt=S.nt->S1.base=S.base->S1.hp.length=S.hp.length->(∀ t,oj.dst≠some t->V.look S1.tm t=V.look S.tm t)->(∀ t,oj.dst=some t->V.look S1.tm t=V.look (T (j+1)).tm t) ->
    (∀ k,¬ wB F j k->S1.hp[k]?=S.hp[k]?)->(∀ k,wB F j k->S1.hp[k]?=(T (j+1)).hp[k]?)->wpAny P .any ops Q fuel (listed.setIfInBounds j true) a1 w1:=
    fun β1 a1 w1 S1 k0 k1 k2 k3 k4 k5 k6 k7=>ih _ a1 w1 β1 S1 hcnt k0 (Qnj h hi hoj hun hr k1 k2 k3 k4 k5 k6 k7)
   have putlook:∀ (S0:St) (d:DV) t,oj.dst=some t->V.look (S0.put oj.dst d).tm t=d:=fun S0 d t ht=>by rw[ht]; simp[St.put,V.look]
   rcases hcase with⟨g,args,d,hc,hcalls,ha,hd,hT,hF⟩ | ⟨d,hp',hc,hv,hk,hT,hF⟩ | ⟨rfl,hT,hF⟩
   ·have nb:∀ k,¬ wB F j k:=fun k hk=>by have:=hk.1; rw [hF] at this; cases this
    have fin:∀ (β1:Map) (a1:Act) (w1:World),Sim O β1 (S.put oj.dst (QdB oj.guard G d)) a1 w1->wpAny P .any ops Q fuel (listed.setIfInBounds j true) a1 w1:=fun β1 a1 w1 k0=>
     next β1 a1 w1 _ k0 (St.put_nt ..) (St.put_base ..) (by rw[St.put_hp]) (fun t ht=>St.put_look _ _ _ t ht) (fun t ht=>by rw[hT,putlook _ _ t ht,putlook _ _ t ht]) (fun k _=>by rw[St.put_hp]) (fun k hk=>absurd hk (nb k))
    cases hG:G with
    | true =>
      subst hG
      rw[if_pos rfl]
      have hc':Qm (fun x=>Qo true (S.ev x)) oj.op=some (g,args):=by rw[QgO hevS]; exact hc
      refine .inl (QgP (hev rfl) hc' hs.heap ((VCalls.pure ((hcalls rfl).mono fun r h' ⟨e1,e2⟩=>⟨e1,by rw[e2]; exact hd,e2⟩) ha).mono fun r h' hh=>hh) (fun v r h' β' w' k1 k2 k3 k4=>?_))
      obtain⟨rfl,rfl⟩:=k4
      refine fin β' _ _ (hs.step k1 k2 (d:=QdB oj.guard true r) ?_ hf')
      cases oj.guard with
      | none=>exact k3
      | some _=>exact .opt true r v (fun _=>k3) (by simp)
    | false =>
      subst hG
      rw[if_neg (by simp)]
      refine fin β _ _ (hs.skip (d:=QdB oj.guard false d) ?_ hf')
      cases hgd:oj.guard with
      | none=>simp[QF,hgd] at hg
      | some _=>exact .opt false d undef (by simp) (fun _=>rfl)
   ·have hfoot:∀ k ∈ (QbW (fun x=>Qo G ((T j).ev x)) oj.op).1,S.hp[k]? = (T j).hp[k]?:=fun k hk'=>by
     rw[<- hF] at hk'
     exact(QkC h hi hoj hun hr hk').1
    have hcong:vop P (fun x=>Qo G (S.ev x)) S.hp oj.op=vop P (fun x=>Qo G ((T j).ev x)) S.hp oj.op:=QfZ hk hevS
    cases hG:G with
    | true =>
      subst hG
      rw[if_pos rfl]
      simp only[cond_true] at hT
      have hdr:∀ {β':Map} {h':Qa} {w':World} {v:Value},RelD w' β' h' d v->RelD w' β' h' (QdB oj.guard true d) v:=fun {β' h' w' v} k3=>by
       cases oj.guard with
       | none=>exact k3
       | some _=>exact .opt true d v (fun _=>k3) (by simp)
      rcases QcL (hp':=S.hp) hk hfoot hv with⟨w0,e1,e2⟩ | ⟨w1,k0,cs,e0,e1,e2⟩
      ·rw [<- hcong] at e2
       subst e1
       have nb:∀ k,¬ wB F j k:=fun k hk=>by have:=hk.1; rw[hF,w0] at this; cases this
       refine .inl (QbO (QaN hs.heap (hev rfl) (fun _=>rfl) e2) (fun v w' β' k1 k2 k3=>?_))
       exact next β' _ _ _ (hs.step k1 k2 (hdr k3) hf') (St.put_nt ..) (St.put_base ..) (by rw[St.put_hp]) (fun t ht=>St.put_look _ _ _ t ht) (fun t ht=>by rw[hT,putlook _ _ t ht,putlook _ _ t ht])
        (fun k _=>by rw[St.put_hp]) (fun k hk=>absurd hk (nb k))
      ·rw [<- hcong] at e2
       subst e1
       refine .inl (QbO (QaN hs.heap (hev rfl) (fun _=>rfl) e2) (fun v w' β' k1 k2 k3=>?_))
       have hwk:∀ k,wB F j k ↔ k=k0:=fun k=>by unfold wB; rw[hF,w1,e0]; simp
       refine next β' _ _ _ (hs.step k1 k2 (hdr k3) hf') (St.put_nt ..) (St.put_base ..) (by rw[St.put_hp]; show(Qu S.hp k0 cs).length=_; unfold Qu; split<;>simp) (fun t ht=>St.put_look _ _ _ t ht) (fun t ht=>by rw[hT,putlook _ _ t ht,putlook _ _ t ht]) (fun k hk=>?_) (fun k hk=>?_)
       ·rw [St.put_hp]
        show(Qu S.hp k0 cs)[k]?=_
        have hne:k0≠k:=fun he=>hk ((hwk k).2 he.symm)
        unfold Qu
        split
        ·rw[Jq hne]
        ·rfl
       ·rw [(hwk k).1 hk,hT,St.put_hp,St.put_hp]
        show(Qu S.hp k0 cs)[k0]?=(Qu (T j).hp k0 cs)[k0]?
        have hsame:S.hp[k0]?=(T j).hp[k0]?:=hfoot k0 (by rw[e0]; simp)
        unfold Qu
        rw[hsame]
        cases hB:(T j).hp[k0]? with
        | none=>simp only; rw[hsame]
        | some B =>
          have l1:k0<(T j).hp.length:=(Jc.1 hB).1
          have l2:k0<S.hp.length:=(Jc.1 (hsame.trans hB)).1
          simp only
          rw[JG l1,JG l2]
    | false =>
      subst hG
      rw[if_neg (by simp)]
      simp only[cond_false] at hT
      refine next β _ _ (S.put oj.dst (QdB oj.guard false d)) (hs.skip (d:=QdB oj.guard false d) ?_ hf') (St.put_nt ..) (St.put_base ..) (by rw[St.put_hp]) (fun t ht=>St.put_look _ _ _ t ht) (fun t ht=>by rw[hT,putlook _ _ t ht,putlook _ _ t ht]) (fun k _=>by rw[St.put_hp]) (fun k hk=>?_)
      ·cases hgd:oj.guard with
       | none=>simp[QF,hgd] at hg
       | some _=>exact .opt false d undef (by simp) (fun _=>rfl)
      ·rw [hT,St.put_hp,St.put_hp]
       exact(QkC h hi hoj hun hr hk.2).1
   ·have nb:∀ k,¬ wB F j k:=fun k hk=>by have:=hk.1; rw [hF] at this; cases this
    rw[if_neg (by simp)]
    exact next β _ _ _ (hs.skip (.tup [] #[] rfl (by simp)) hf') (St.put_nt ..) (St.put_base ..) (by rw[St.put_hp]) (fun t ht=>St.put_look _ _ _ t ht) (fun t ht=>by rw[hT,putlook _ _ t ht,putlook _ _ t ht]) (fun k _=>by rw[St.put_hp]) (fun k hk=>absurd hk (nb k))
end
def Qg1 {id:Nat} (hm:P.follows .mixedOrders = true) (hB:Qh1 ops = true) (h:vdr P ops.toList ops.toList [] (Q .normal) S):VDraw P id ops Q S:=by
 intro O β a w hs
 obtain⟨T,F,_,h2,h3,h4⟩:=Qf1 ops.toList [] [] S rfl rfl h
 simp only[List.length_nil] at h2
 have hsteps:Steps P ops T F:=⟨fun j hj=>by
  obtain⟨o,e1,e2,e3⟩:=h4 j (JL _) (by simpa using hj)
  exact⟨o,by simpa using e1,e2,e3⟩,hB⟩
 have hs':Sim O β (T 0) a { w with drawn:=w.drawn+1 }:=by
  rw[h2]
  have e:Evo w β S.hp w.drew β S.hp:=Qbq w β S.hp
  exact⟨hs.defers,hs.size,fun t=>(hs.tm t).mono e,hs.heap.drew,hs.evo.trans e,hs.base⟩
 refine wp_region_any hm (QgX (O:=O) (Q:=Ql1 O Q) hsteps (fun β a w hk=>⟨β,_,hk,by simpa using h3⟩) ops.size (Jo ops.size false) a _ β (T 0) ?_ hs' ?_)
 ·have:=JX (p:=fun i=>!(Jo ops.size false).getD i false) (l:=Jk ops.size)
  simpa using this
 ·have hfalse:∀ i,(Jo ops.size false).getD i false = false:=fun i=>by
   by_cases hi:i<ops.size
   ·simp[hi]
   ·simp[hi]
  refine⟨by simp,rfl,rfl,rfl,fun i o _ hl=>?_,fun t=>⟨0,JL _,rfl,fun i hi=>absurd hi (J4 _),fun i _ _=>hfalse i⟩,fun k=>⟨0,JL _,rfl,fun i hi=>absurd hi (J4 _),fun i _ _ _=>hfalse i⟩⟩
  rw[hfalse] at hl
  cases hl
end Go.V
namespace Go.V
def RelD.closed (h:RelD w β hp d v) (hn:d.nums (fun _=>false) = true) (him:∀ b,img β' hp' b->img β hp b):RelD w β' hp' d v:=by
 induction h with
 | pv q v h=>exact .pv q v (h.mono (Jw _) (fun _ _ _=>rfl) (fun b _=>him b))
 | ptr k off b h hb=>simp[DV.nums] at hn
 | own=>simp[DV.nums] at hn
 | own0=>simp[DV.nums] at hn
 | ownc=>simp[DV.nums] at hn
 | ip cs ad val h1 h2 h3 =>
   exact .ip cs ad val h1 (fun j d hd=>⟨(h2 j d hd).1,fun x=>(h2 j d hd).2.1 (him _ x),(h2 j d hd).2.2⟩) (fun j d hd=>(h3 j d hd).mono (Jw _) (fun _ _ _=>rfl) (fun b _=>him b))
 | agg ds vs h _ ih=>exact .agg _ vs h (fun i d hd=>ih i d hd (DV.nums_go (by simpa [DV.nums] using hn) i d hd))
 | tup ds vs h _ ih=>exact .tup _ vs h (fun i d hd=>ih i d hd (DV.nums_go (by simpa [DV.nums] using hn) i d hd))
 | fn f ds es vs us h h' _ _ ih ih' =>
   have hr':DV.nums.go (fun _=>false) ds=true/\DV.nums.go (fun _=>false) es=true:=by simpa [DV.nums] using hn
   exact .fn f _ _ vs us h h' (fun i d hd=>ih i d hd (DV.nums_go hr'.1 i d hd)) (fun i d hd=>ih' i d hd (DV.nums_go hr'.2 i d hd))
 | opt c d v _ hf ih=>exact .opt c _ v (fun hc=>ih hc (by simpa [DV.nums] using hn)) hf
 | any v=>exact .any v
def VCalls.ptr1 {g:FuncId} {args:List DV} {hp:Qa} {k:Nat} {B:Blk} {R:DV->Blk->Prop} (hk:hp[k]? = some B) (hl:B.live = true) (hB:DV.nums.go (fun _=>false) B.cells = true) (c:VCalls P g (args.map (DV.ren fun _=>0)) [B] fun r h'=>∃ B',h' = [B']/\B'.live = true/\DV.nums.go (fun _=>false) B'.cells = true/\r.nums (fun _=>false) = true/\R r B') (ha:DV.nums.go (fun i=>i == k) args = true):VCalls P g args hp fun r h'=>∃ B',h' = hp.set k B'/\B'.live = true/\DV.nums.go (fun _=>false) B'.cells = true/\R r B':=by
 refine⟨fun w β vs hh hr=>?_⟩
 have hklt:k<hp.length:=(Jc.1 hk).1
 let βc:Map:=⟨fun i=>if i=0 then β.f k else none,fun b=>img β hp b/\β.f k≠some b⟩
 have livec:∀ b,live βc [B] b ↔ β.f k=some b:=fun b=>by
  constructor
  ·rintro ⟨i,D,h1,h2,h3⟩
   cases i with
   | zero=>exact h3
   | succ i=>simp at h1
  ·intro h
   exact⟨0,B,rfl,hl,h⟩
 have livek:∀ b,β.f k=some b->live β hp b:=fun b hb=>⟨k,B,hk,hl,hb⟩
 have himc:∀ b,img βc [B] b->img β hp b:=fun b hb=>by
  rcases hb with hb | hb
  ·exact hb.1
  ·exact .inr (livek b ((livec b).1 hb))
 have himc':∀ b,img β hp b->img βc [B] b:=fun b hb=>by
  by_cases h:β.f k=some b
  ·exact .inr ((livec b).2 h)
  ·exact .inl ⟨hb,h⟩
 have hhc:HeapRel w βc [B]:=by
  refine⟨fun i D b h1 h2 h3=>?_,fun i D h1 h2 h3=>?_,fun i j D D' b h1 h2 _ _ _ _=>?_,fun i D b h1 h2 h3=>?_,fun b hb=>?_⟩
  ·cases i with
   | zero =>
     simp at h1
     subst h1
     obtain⟨C,g1,g2,g3⟩:=hh.blk k B b hk hl h3
     exact⟨C,g1,g2,fun i d hd=>⟨(g3 i d hd).1,(g3 i d hd).2.closed (DV.nums_go hB i d hd) himc⟩⟩
   | succ i=>simp at h1
  ·cases i with
   | zero=>simp at h1; subst h1; exact hh.none k B hk hl h3
   | succ i=>simp at h1
  ·cases i<;>cases j<;>simp_all
  ·cases i with
   | zero=>exact fun hX=>hX.2 h3
   | succ i=>simp at h1
  ·rcases hb.1 with hb | hb
   ·exact hh.bound b hb
   ·exact QbZ hh hb
 have hargs:RelL w βc [B] (args.map (DV.ren fun _=>0)) vs:=by
  refine⟨by simpa using hr.1,fun i d hd=>?_⟩
  rw[Jg] at hd
  cases hx:args[i]? with
  | none=>simp[hx] at hd
  | some x =>
    simp[hx] at hd
    subst hd
    exact RelD.ren (p:=fun i=>i==k) (fun j hj _=>⟨by simp,by simp at hj; simp[βc,hj]⟩) himc (hr.2 i x hx) (DV.nums_go ha i x hx)
 refine(c.run w βc vs hhc hargs).mono ?_
 rintro e w' ⟨v,r,h',β',rfl,ev,hh',hrel,B',rfl,hl',hB',hrn,hR⟩
 have hf0:β'.f 0=β.f k:=ev.beta 0 (by simp)
 have hset:(hp.set k B')[k]?=some B':=JG hklt
 have lives:∀ b,live β (hp.set k B') b->live β hp b:=by
  rintro b ⟨j,D,h1,h2,h3⟩
  by_cases hj:j=k
  ·subst hj; exact livek b h3
  ·rw[Jq (by omega)] at h1; exact⟨j,D,h1,h2,h3⟩
 have e:Evo w β hp w' β (hp.set k B'):=by
  refine⟨ev.os,ev.tape,ev.output,ev.size,by simp,fun _ _=>rfl,fun b hb hn=>ev.same b hb (fun h=>hn (livek b ((livec b).1 h))),ev.shape,fun b _ h=>lives b h,rfl⟩
 have him':∀ b,img β (hp.set k B') b->img β' [B'] b:=fun b hb=>by
  by_cases h:β.f k=some b
  ·exact .inr ⟨0,B',rfl,hl',hf0.trans h⟩
  ·refine .inl ?_
   rw[ev.X]
   exact⟨hb.imp id (lives b),h⟩
 refine⟨v,r,hp.set k B',β,rfl,e,?_,hrel.closed hrn him',B',rfl,hl',hB',hR⟩
 refine⟨fun j D b h1 h2 h3=>?_,fun j D h1 h2 h3=>?_,fun i j D D' b h1 h2 h3 h4 h5 h6=>?_,fun j D b h1 h2 h3=>?_,fun b hb=>Jp (hh.bound b hb) ev.size⟩
 ·by_cases hj:j = k
  ·subst hj
   rw[hset] at h1
   simp at h1
   subst h1
   obtain⟨C,g1,g2,g3⟩:=hh'.blk 0 B' b rfl hl' (hf0.trans h3)
   exact⟨C,g1,g2,fun i d hd=>⟨(g3 i d hd).1,(g3 i d hd).2.closed (DV.nums_go hB' i d hd) him'⟩⟩
  ·rw [Jq (by omega)] at h1
   obtain⟨C,g1,g2,g3⟩:=hh.blk j D b h1 h2 h3
   have hne:β.f k≠some b:=fun h=>hj (hh.inj j k D B b h1 hk h2 hl h3 h)
   have hsame:=ev.same b (Ja.1 g1).1 (fun h=>hne ((livec b).1 h))
   exact⟨C,by rw[hsame]; exact g1,g2,fun i d hd=>⟨(g3 i d hd).1,(g3 i d hd).2.mono e⟩⟩
 ·by_cases hj:j = k
  ·subst hj
   rw[hset] at h1
   simp at h1
   subst h1
   exact hh'.none 0 B' rfl hl' (hf0.trans h3)
  ·rw [Jq (by omega)] at h1
   exact hh.none j D h1 h2 h3
 ·have back:∀ {i:Nat} {D:Blk},(hp.set k B')[i]? = some D->D.live = true->∃ D0,hp[i]? = some D0/\D0.live = true:=fun {i D} h1 h2=>by
   by_cases hi:i=k
   ·subst hi; exact⟨B,hk,hl⟩
   ·rw[Jq (by omega)] at h1; exact⟨D,h1,h2⟩
  obtain⟨D0,q1,q2⟩:=back h1 h3
  obtain⟨D1,q3,q4⟩:=back h2 h4
  exact hh.inj i j D0 D1 b q1 q3 q2 q4 h5 h6
 ·by_cases hj:j = k
  ·subst hj; exact hh.avoid j B b hk hl h3
  ·rw[Jq (by omega)] at h1; exact hh.avoid j D b h1 h2 h3
def DV.flat:DV->Bool
 | .pv (.lit _) | .pv (.str _)=>true
 | .agg cs | .tup cs=>go cs
 | _=>false
where
 go:List DV->Bool
  | []=>true
  | d::r=>d.flat&&go r
def DV.flat_go (h:DV.flat.go ds = true):∀ (i:Nat) (d:DV),ds[i]? = some d->d.flat = true:=by
 induction ds with
 | nil=>intro i d h; simp at h
 | cons x r ih =>
   simp only[DV.flat.go,Jb] at h
   intro i d hd
   cases i with
   | zero=>simp at hd; subst hd; exact h.1
   | succ i=>exact ih h.2 i d (by simpa using hd)
def RelD.flat (h:RelD w β hp d v) (hf:d.flat = true):RelD w' β' hp' d v:=by
 induction h with
 | pv q v h=>cases h with
   | lit _ h=>exact .pv _ _ (.lit _ h)
   | str l=>exact .pv _ _ (.str l)
   | _=>simp[DV.flat] at hf
 | agg ds vs h _ ih=>exact .agg _ vs h (fun i d hd=>ih i d hd (DV.flat_go (by simpa [DV.flat] using hf) i d hd))
 | tup ds vs h _ ih=>exact .tup _ vs h (fun i d hd=>ih i d hd (DV.flat_go (by simpa [DV.flat] using hf) i d hd))
 | _=>simp[DV.flat] at hf
def VCalls.new {g:FuncId} {args:List DV} {hp:Qa} {R:Blk->Prop} (c:VCalls P g args [] fun r h'=>∃ B,h' = [B]/\r = .ptr 0 0/\B.live = true/\DV.nums.go (fun _=>false) B.cells = true/\R B) (ha:DV.nums.go (fun _=>false) args = true):VCalls P g args hp fun r h'=>∃ B,h' = hp ++ [B]/\r = .ptr hp.length 0/\B.live = true/\DV.nums.go (fun _=>false) B.cells = true/\R B:=by
 refine⟨fun w β vs hh hr=>?_⟩
 let βc:Map:=⟨fun _=>none,img β hp⟩
 have himc:∀ b,img βc [] b->img β hp b:=fun b hb=>by
  rcases hb with hb | ⟨k,B,h1,_⟩
  ·exact hb
  ·simp at h1
 have hhc:HeapRel w βc []:=⟨by simp,by simp,by simp,by simp,fun b hb=>by
  rcases hb with hb | hb
  ·exact hh.bound b hb
  ·exact QbZ hh hb⟩
 refine(c.run w βc vs hhc ⟨hr.1,fun i d hd=>(hr.2 i d hd).closed (DV.nums_go ha i d hd) himc⟩).mono ?_
 rintro e w' ⟨v,r,h',β',rfl,ev,hh',hrel,B,rfl,rfl,hl,hB,hR⟩
 have heap_same:∀ b,b<w.heap.size->w'.heap[b]?=w.heap[b]?:=fun b hb=>ev.same b hb (by rintro⟨k,B,h1,_⟩; simp at h1)
 cases hrel with
 | ptr _ _ b0 _ hb0 =>
   obtain⟨C0,c1,c2,c3⟩:=hh'.blk 0 B b0 rfl hl hb0
   have hnew:¬ b0<w.heap.size:=fun hlt=>by
    have:=ev.im b0 hlt ⟨0,B,rfl,hl,hb0⟩
    obtain⟨k,D,h1,_⟩:=this
    simp at h1
   have e:Evo w β hp w' (ext β hp.length (some b0)) (hp++[B]):=by
    refine⟨ev.os,ev.tape,ev.output,ev.size,by simp,fun k hk=>Qbf hk,fun b hb _=>heap_same b hb,fun b C T m h=>⟨C,m,by rw[heap_same b (Ja.1 h).1]; exact h,rfl⟩,fun b hb h=>?_,rfl⟩
    rcases(Qek hl).1 h with h | h
    ·exact h
    ·omega
   have him':∀ b,img β hp b->img β' [B] b:=fun b hb=>.inl (by rw[ev.X]; exact hb)
   have him2:∀ b,img (ext β hp.length (some b0)) (hp++[B]) b->img β' [B] b:=fun b hb=>by
    rcases hb with hb | hb
    ·exact him' b (.inl hb)
    ·rcases (Qek hl).1 hb with hb | hb
     ·exact him' b (.inr hb)
     ·rw[hb]; exact .inr ⟨0,B,rfl,hl,hb0⟩
   refine⟨_,.ptr hp.length 0,hp++[B],ext β hp.length (some b0),rfl,e,?_,.ptr _ _ b0 (by simp) (by simp[ext]),B,rfl,rfl,hl,hB,hR⟩
   have lt_of:∀ {k:Nat} {D:Blk},(hp++[B])[k]?=some D->(k<hp.length/\hp[k]?=some D/\(ext β hp.length (some b0)).f k=β.f k)\/(k=hp.length/\D=B/\(ext β hp.length (some b0)).f k=some b0):=fun {k D} h=>by
    rcases J2 k hp.length with hlt | heq | hgt
    ·rw [Jz hlt] at h
     exact .inl ⟨hlt,h,Qbf hlt⟩
    ·subst heq
     simp at h
     exact .inr ⟨rfl,h.symm,by simp[ext]⟩
    ·rw [JE (by omega),Jt (by simp; omega)] at h
     simp at h
   refine⟨fun k D b hk hD hb=>?_,fun k D hk hD hb=>?_,fun j k D D' b hj hk hD hD' h1 h2=>?_,fun k D b hk hD hb=>?_,fun b hb=>Jp (hh.bound b hb) ev.size⟩
   ·rcases lt_of hk with ⟨_,hk',he⟩ | ⟨rfl,rfl,he⟩
    ·rw [he] at hb
     obtain⟨C,g1,g2,g3⟩:=hh.blk k D b hk' hD hb
     exact⟨C,by rw[heap_same b (Ja.1 g1).1]; exact g1,g2,fun i d hd=>⟨(g3 i d hd).1,(g3 i d hd).2.mono e⟩⟩
    ·rw [he] at hb
     simp at hb
     subst hb
     exact⟨C0,c1,c2,fun i d hd=>⟨(c3 i d hd).1,(c3 i d hd).2.closed (DV.nums_go hB i d hd) him2⟩⟩
   ·rcases lt_of hk with ⟨_,hk',he⟩ | ⟨rfl,rfl,he⟩
    ·exact hh.none k D hk' hD (by rw[<- he]; exact hb)
    ·rw[he] at hb; simp at hb
   ·rcases lt_of hj with ⟨_,hj',hje⟩ | ⟨rfl,rfl,hje⟩<;>rcases lt_of hk with ⟨_,hk',hke⟩ | ⟨rfl,rfl,hke⟩
    ·exact hh.inj j k D D' b hj' hk' hD hD' (by rw[<- hje]; exact h1) (by rw[<- hke]; exact h2)
    ·exfalso
     rw[hke] at h2
     simp at h2
     exact hnew (h2▸QbZ hh ⟨j,D,hj',hD,by rw[<- hje]; exact h1⟩)
    ·exfalso
     rw[hje] at h1
     simp at h1
     exact hnew (h1▸QbZ hh ⟨k,D',hk',hD',by rw[<- hke]; exact h2⟩)
    ·rfl
   ·rcases lt_of hk with ⟨_,hk',he⟩ | ⟨rfl,rfl,he⟩
    ·exact hh.avoid k D b hk' hD (by rw[<- he]; exact hb)
    ·rw [he] at hb
     simp at hb
     intro hX
     exact hnew (hb▸hh.bound b hX)
end Go.V
namespace Go.V
def QAP(c a b:DV)(hp:Qa):Option (DV×Qa):=
 match c with
 | .pv (.lit (.bool t))=>some (Qka t (Qo t a) (Qo (!t) b),hp)
 | _=>none
def QDW(x:DV)(hp:Qa):Option (DV×Qa):=
 match x with
 | .ptr k off=>some (.ptr k off,hp)
 | .ip cs=>some (.ip cs,hp)
 | _=>none
def QlN(x:DV):List Nat:=match x with | .ptr k _=>[k] | _=>[]
def QBD(x:DV):List Nat:=match x with | .own k _ _ _=>[k] | .ptr k _=>[k] | _=>[]
def QDZ(f:DV)(args:List DV):Option (FuncId×List DV):=
 match f with
 | .fn (.func g) first cap=>some (g,first++args++cap)
 | _=>none
def QCM(d:Option DV)(want:Bool):Option Bool:=
 match d with
 | some (.pv (.lit (.bool b)))=>some (b==want)
 | some (.opt g (.pv (.lit (.bool b))))=>some (g&&(b==want))
 | some (.opt false (.tup _))=>some false
 | some (.tup [])=>some false
 | _=>none
def evG(G:Bool)(S:St)(x:Operand):DV:=Qo G (S.ev x)
def Qxn(P:Program)(all:List Oper)(o:Oper)(r:List Oper)(K:St->Prop)(S:St)(d:DV)(hp:Qa):Prop:=QaL P all r K ((S.at hp).put o.dst (QdB o.guard true d))
def QpD(P:Program)(all:List Oper)(o:Oper)(r:List Oper)(K:St->Prop)(S:St)(x:Option (DV×Qa)):Prop:=
 match x with
 | some (d,hp)=>QaL P all r K ((S.at hp).put o.dst (QdB o.guard true d))
 | none=>False
def QnL(P:Program)(all:List Oper)(o:Oper)(r:List Oper)(K:St->Prop)(S:St)(c:Option (FuncId×List DV)):Prop:=
 match c with
 | some (g,args)=>VCalls P g args S.hp (Qxn P all o r K S)
 | none=>QpD P all o r K S (vop P (evG true S) S.hp o.op)
def QeI(P:Program)(all:List Oper)(o:Oper)(r:List Oper)(K:St->Prop)(S:St)(G:Bool):Prop:=
 match G with
 | false=>QaL P all r K (S.put o.dst (.tup []))
 | true=>QnL P all o r K S (Qm (evG true S) o.op)
def QpE(P:Program)(all:List Oper)(o:Oper)(r:List Oper)(K:St->Prop)(S:St)(g:Option Bool):Prop:=
 match g with
 | none=>False
 | some G=>QeI P all o r K S G
def vdc(P:Program)(g:FuncId)(args:List DV)(K:DV->Prop):Prop:=∃ d,(VCalls P g args [] fun r h=>h=[]/\r=d)/\DV.nums.go (fun _=>false) args=true/\d.nums (fun _=>false)=true/\K d
def QEt(P:Program)(all:List Oper)(o:Oper)(r:List Oper)(fs:List (List Nat×Bool))(K:St->Prop)(S:St)(d:DV):Prop:=vdr P all r (fs++[([],false)]) K (S.put o.dst (QdB o.guard true d))
def QAX(P:Program)(all:List Oper)(o:Oper)(r:List Oper)(fs:List (List Nat×Bool))(K:St->Prop)(S:St)(f:List Nat×Bool)(x:Option (DV×Qa)):Prop:=
 match x with
 | some (d,hp)=>Q8 o.op=true/\Qay o.after f 0 fs=true/\vdr P all r (fs++[f]) K ((S.at hp).put o.dst (QdB o.guard true d))
 | none=>False
def QAY(P:Program)(all:List Oper)(o:Oper)(r:List Oper)(fs:List (List Nat×Bool))(K:St->Prop)(S:St)(c:Option (FuncId×List DV)):Prop:=
 match c with
 | some (g,args)=>vdc P g args (QEt P all o r fs K S)
 | none=>QAX P all o r fs K S (QbW (evG true S) o.op) (vop P (evG true S) S.hp o.op)
def QnW(P:Program)(all:List Oper)(o:Oper)(r:List Oper)(fs:List (List Nat×Bool))(K:St->Prop)(S:St)(G:Bool):Prop:=
 match G with
 | false=>vdr P all r (fs++[([],false)]) K (S.put o.dst (.tup []))
 | true=>QAY P all o r fs K S (Qm (evG true S) o.op)
def QAZ(P:Program)(all:List Oper)(o:Oper)(r:List Oper)(fs:List (List Nat×Bool))(K:St->Prop)(S:St)(g:Option Bool):Prop:=
 match g with
 | none=>False
 | some G=>QnW P all o r fs K S G
def vbr(P:Program)(a b:Code)(Q:Exit->St->Prop)(S:St)(t:Bool):Prop:=Qub t (Qy P a Q S) (Qy P b Q S)
def Qpw(P:Program)(a b:Code)(Q:Exit->St->Prop)(S:St)(c:DV):Prop:=match c with | .pv (.lit (.bool t))=>vbr P a b Q S t | _=>False
def QAD(n:Nat)(hp:Qa)(R:DV->Qa->Prop)(r:Option DV):Prop:=match r with | some d=>QtL n hp d R | none=>False
def Qll(hp:Qa)(R:DV->Qa->Prop)(r:Option DV):Prop:=match r with | some d=>R d hp | none=>False
def QpX(R:DV->Qa->Prop)(r:Option DV)(h:Option Qa):Prop:=match r,h with | some d,some hp=>R d hp | _,_=>False
def QsG(n:Nat)(hp:Qa)(d:DV):Option DV:=match d with | .agg es=>(Qh (es.map (QcF n hp))).map .agg | d=>QcF n hp d
def vld(b:Option (List DV))(t:Option (Option Nat))(off:Nat):Option DV:=
 match b,t with
 | some cs,some none=>cs[off]?
 | some cs,some (some n)=>if off+n<=cs.length then some (.agg ((cs.drop off).take n)) else none
 | _,_=>none
def QC4(cs:List PV)(t:Option (Option Nat)):Option DV:=
 match t with
 | some none=>cs[0]?.map .pv
 | some (some n)=>if n<=cs.length then some (.agg ((cs.take n).map .pv)) else none
 | none=>none
def vst (hp:Qa) (k:Nat) (b:Option (List DV)) (t:Option (Option Nat)) (off:Nat) (d:DV):Option Qa :=
 match b,t with
 | some cs,some none=>if off<cs.length/\d.one=true then some (Qu hp k (cs.set off d)) else none
 | some cs,some (some n) =>
   match d with
   | .agg ds=>if off+n<=cs.length/\ds.length=n/\Qn ds=true then some (Qu hp k (splice cs off ds)) else none
   | _=>none
 | _,_=>none
def QnS(b:Bool)(d:DV)(r:List (Nat×DV))(t:Nat):DV:=bif b then d else V.look r t
def QC3(b g:Bool)(d:DV):DV:=bif b then d else .opt g d
inductive VK | int (k:IntKind) | str | arr (n:Nat) | sl (e:TypeId) | bool | other
def Q6(P:Program)(T:TypeId):VK:=
 match P.underlying T with
 | some (.int k)=>.int k
 | some .string=>.str
 | some (.array n _)=>.arr n
 | some (.slice e)=>.sl e
 | some .bool=>.bool
 | _=>.other
def QzN(ty:TypeId)(x:Option (List DV)):Option Qa:=match x with | some cs=>some [⟨ty,true,cs⟩] | none=>none
def QnK(e:Option (Option Nat×TypeId×Nat))(xs:List (List PV))(a b:Nat):Option DV:=
 match e with
 | some (none,_,sz)=>if a<=b/\b<=xs.length/\(xs=[]\/(xs[0]?.map J9)=some sz) then some (.pv (.sl ((xs.take b).drop a))) else none
 | _=>none
def QwI(u:VK)(xs:List UInt8)(a b:Nat):Option DV:=match u with | .str=>if a<=b/\b<=xs.length then some (.pv (.str ((xs.take b).drop a))) else none | _=>none
def vbb(op:BinOp)(u:VK)(a b:Bool):Option DV:=
 match op,u with
 | .eql,.bool=>some (.bool (a==b))
 | .neq,.bool=>some (.bool (!(a==b)))
 | _,_=>none
def vba (op:BinOp) (t:Option (Option Nat)) (l:Option (List (Nat × Nat))) (g:Bool) (xs ys:List DV):Option DV :=
 match t,l with
 | some (some _),some l =>
   if g then none else
   match op,Q5 xs ys l with
   | .eql,some b=>some (.bool b)
   | .neq,some b=>some (.bool (!b))
   | _,_=>none
 | _,_=>none
def QC6(f:Option (TypeId×Nat×Nat))(k off:Nat):Option DV:=match f with | some (_,o,s)=>if s=0 then none else some (.ptr k (off+o)) | none=>none
def QC7(f:Option (TypeId×Nat×Nat))(cs:List PV):Option DV:=match f with | some (_,o,s)=>if s=0 then none else some (.ip (cs.drop o)) | none=>none
def vfv(P:Program)(cs:List DV)(f:Option (TypeId×Nat×Nat)):Option DV:=match f with | some (t,o,_)=>QgY P t cs o | none=>none
def vpt(t:Option (Option Nat))(cs:List DV)(off:Nat):Option DV:=
 match t with
 | some none=>cs[off]?
 | some (some n)=>if off+n<=cs.length then some (.agg ((cs.drop off).take n)) else none
 | none=>none
def QAU(e:Option (Option Nat×TypeId×Nat))(c:Option (List PV))(i:Int):Option DV:=
 match e,c with
 | some (none,_,sz),some c=>if 0<=i/\c.length=sz/\0<sz then some (.ip c) else none
 | _,_=>none
def QCL(e:Option (Option Nat×TypeId×Nat))(b sz' off len:Nat)(i:Int):Option DV:=
 match e with
 | some (none,_,sz)=>if sz'=sz/\0<=i/\i<len then some (.ptr b (off+i.toNat*sz)) else none
 | _=>none
def QCK(e:Option (Option Nat×TypeId×Nat))(b off:Nat)(i:Int):Option DV:=
 match e with
 | some (some n,_,sz)=>if 0<=i/\i<n then some (.ptr b (off+i.toNat*sz)) else none
 | _=>none
def QCJ(P:Program)(e:Option (Option Nat×TypeId×Nat))(cs:List DV)(i:Int):Option DV:=
 match e with
 | some (some n,t,sz)=>if 0<=i/\i<n then QgY P t cs (i.toNat*sz) else none
 | _=>none
def QCI(u:VK)(b:Option UInt8)(i:Int):Option DV:=
 match u,b with
 | .str,some b=>if 0<=i then some (.pv (.lit (.int .u8 b.toNat))) else none
 | _,_=>none
def vlk(u:VK)(d:DV):Option DV:=match u with | .sl _=>some d | .arr n=>some (.int .i64 n) | _=>none
def vls(u:VK)(l:List UInt8):Option DV:=match u with | .str=>some (.int .i64 l.length) | .arr n=>some (.int .i64 n) | _=>none
def vci(s t:VK)(n:Int)(hp:Qa):Option (DV×Qa):=match s,t with | .int _,.int k=>some (.int k (k.wrap n),hp) | _,_=>none
def QDb(hp:Qa)(T:TypeId)(z:Option (List DV)):Option (DV×Qa):=match z with | some cs=>if Qn cs=true then some (.ptr hp.length 0,hp++[⟨T,true,cs⟩]) else none | none=>none
def QfW(h:G=true->QeI P all o r K S true)(h':G=false->QeI P all o r K S false):QeI P all o r K S G:=by cases G; exact h' rfl; exact h rfl
def Qhz(h:G=true->QnW P all o r fs K S true)(h':G=false->QnW P all o r fs K S false):QnW P all o r fs K S G:=by cases G; exact h' rfl; exact h rfl
def QaP(h:t=true->Qy P a Q S)(h':t=false->Qy P b Q S):vbr P a b Q S t:=⟨h,h'⟩
theorem Qt1:vop P ev hp (.move x)=some (ev x,hp):=rfl
theorem Qjz:Qm ev (.move x)=none:=rfl
theorem QlS:Q8 (.move x)=true:=rfl
theorem QsS:QbW ev (.move x)=([],false):=rfl
theorem QnP:vop P ev hp (.assign x)=some (ev x,hp):=rfl
theorem Qg4:Qm ev (.assign x)=none:=rfl
theorem QiN:Q8 (.assign x)=true:=rfl
theorem Qmg:QbW ev (.assign x)=([],false):=rfl
theorem Qt0:vop P ev hp (.pick c a b)=QAP (ev c) (ev a) (ev b) hp:=rfl
theorem Qjy:Qm ev (.pick c a b)=none:=rfl
theorem QlR:Q8 (.pick c a b)=true:=rfl
theorem QsR:QbW ev (.pick c a b)=([],false):=rfl
theorem QpO:vop P ev hp (.alloc T)=Qf5 P hp T:=rfl
theorem Qis:Qm ev (.alloc T)=none:=rfl
theorem Qxt:vop P ev hp (.box T x)=QAI hp T (ev x):=rfl
theorem Qls:Qm ev (.box T x)=none:=rfl
theorem QpM:vop P ev hp (.build T ps)=(QjD P T (V.parts ev ps)).map fun d=>(d,hp):=rfl
theorem Qiq:Qm ev (.build T ps)=none:=rfl
theorem Qkh:Q8 (.build T ps)=true:=rfl
theorem QoI:QbW ev (.build T ps)=([],false):=rfl
theorem QgZ:vop P ev hp (.buildSlice T n ps)=Qa1 P hp T n (V.parts ev ps):=rfl
theorem QdX:Qm ev (.buildSlice T n ps)=none:=rfl
theorem Qt2:vop P ev hp (.load T a)=(QdW P hp T (ev a)).map fun d=>(d,hp):=rfl
theorem QjA:Qm ev (.load T a)=none:=rfl
theorem QlT:Q8 (.load T a)=true:=rfl
theorem QpI:vop P ev hp (.store T a x)=(Qe4 P hp T (ev a) (ev x)).map fun h=>(.tup [],h):=rfl
theorem Qim:Qm ev (.store T a x)=none:=rfl
theorem Qkf:Q8 (.store T a x)=true:=rfl
theorem Qjl:vop P ev hp (.nilCheck x)=QDW (ev x) hp:=rfl
theorem Qfq:Qm ev (.nilCheck x)=none:=rfl
theorem Qgs:Q8 (.nilCheck x)=true:=rfl
theorem Qi2:QbW ev (.nilCheck x)=([],false):=rfl
theorem QpN:vop P ev hp (.binOp op T x y yT)=(QjE P op T (ev x) y (ev y)).map fun d=>(d,hp):=rfl
theorem Qir:Qm ev (.binOp op T x y yT)=none:=rfl
theorem Qki:Q8 (.binOp op T x y yT)=true:=rfl
theorem QoJ:QbW ev (.binOp op T x y yT)=([],false):=rfl
theorem QtZ:vop P ev hp (.unOp op T x)=(vun op (ev x)).map fun d=>(d,hp):=rfl
theorem Qjx:Qm ev (.unOp op T x)=none:=rfl
theorem QsQ:QbW ev (.unOp op T x)=([],false):=rfl
theorem Qlh:vop P ev hp (.convert S T x)=Qjq P hp S T (ev x):=rfl
theorem Qf3:Qm ev (.convert S T x)=none:=rfl
theorem Qhd:Q8 (.convert S T x)=true:=rfl
theorem Qjm:vop P ev hp (.makeFunc f first cap)=some (.fn f (first.toList.map ev) (cap.toList.map ev),hp):=rfl
theorem Qfr:Qm ev (.makeFunc f first cap)=none:=rfl
theorem Qif:vop P ev hp (.makeSlice T l c)=QpP P hp T (ev l) (ev c):=rfl
theorem QeM:Qm ev (.makeSlice T l c)=none:=rfl
theorem QpJ:vop P ev hp (.slice T x lo hi mx)=(QcJ P hp T (ev x) (lo.map ev) (hi.map ev) (mx.map ev)).map fun d=>(d,hp):=rfl
theorem Qin:Qm ev (.slice T x lo hi mx)=none:=rfl
theorem Qkg:Q8 (.slice T x lo hi mx)=true:=rfl
theorem Qih:vop P ev hp (.fieldAddr T x f)=(Qai P T f (ev x)).map fun d=>(d,hp):=rfl
theorem QeO:Qm ev (.fieldAddr T x f)=none:=rfl
theorem Qfu:Q8 (.fieldAddr T x f)=true:=rfl
theorem Qhl:QbW ev (.fieldAddr T x f)=([],false):=rfl
theorem QpL:vop P ev hp (.field T x f)=(QdE P T f (ev x)).map fun d=>(d,hp):=rfl
theorem Qip:Qm ev (.field T x f)=none:=rfl
theorem Qig:vop P ev hp (.indexAddr T x i)=(Qah P T (ev x) (ev i)).map fun d=>(d,hp):=rfl
theorem QeN:Qm ev (.indexAddr T x i)=none:=rfl
theorem Qft:Q8 (.indexAddr T x i)=true:=rfl
theorem Qhk:QbW ev (.indexAddr T x i)=([],false):=rfl
theorem QpK:vop P ev hp (.index T x i)=(QcM P T (ev x) (ev i)).map fun d=>(d,hp):=rfl
theorem Qio:Qm ev (.index T x i)=none:=rfl
theorem QoG:QbW ev (.index T x i)=([],false):=rfl
theorem Qlg:vop P ev hp (.extract x i)=(Qdg (ev x) i).map fun d=>(d,hp):=rfl
theorem Qf2:Qm ev (.extract x i)=none:=rfl
theorem QkK:QbW ev (.extract x i)=([],false):=rfl
theorem QsT:QbW ev (.load T a)=(QlN (ev a),false):=rfl
theorem QoE:QbW ev (.store T a x)=(QlN (ev a),true):=rfl
theorem QkL:QbW ev (.convert S T x)=(QBD (ev x),false):=rfl
theorem QoF:QbW ev (.slice T x lo hi mx)=(QlN (ev x),false):=rfl
theorem QsU:QbW ev (.call c)=([],false):=rfl
theorem Qop:Q8 (.call ⟨.builtin .len,a,t⟩)=true:=rfl
theorem Qli:vop P ev hp (.call ⟨.builtin b,a,t⟩)=Qap P hp b t (a.toList.map ev):=rfl
theorem Qf4:Qm ev (.call ⟨.builtin b,a,t⟩)=none:=rfl
theorem Qil:Qm ev (.call ⟨.value f,a,t⟩)=QDZ (ev f) (a.toList.map ev):=rfl
theorem QxJ:QDZ (.fn (.func g) first cap) args=some (g,first++args++cap):=rfl
theorem QrG:QlN (.ptr k off)=[k]:=rfl
theorem Qvq:QlN (.ip cs)=[]:=rfl
theorem Qz6:Qjq P hp S T (.pv p)=Qa9 P hp S T (.pv p):=rfl
theorem QzR:QcF n hp (.fn f [] [])=some (.fn f [] []):=rfl
theorem Qwt:QjE P op T a (.tmp t) b=QjF P op T a b:=rfl
theorem Qww:QjE P op T a (.const (.int k n)) b=QjF P op T a b:=rfl
theorem Qwu:QjE P op T a (.const (.string s)) b=QjF P op T a b:=rfl
theorem Qwv:QjE P op T a (.const (.pointer s)) b=QjF P op T a b:=rfl
theorem Qwj:Qjq P hp S T (.own k a b c)=Qa9 P hp S T (.own k a b c):=rfl
theorem Qwi:Qjq P hp S T (.ptr k o)=(QaO P hp S T k o).map fun d=>(d,hp):=rfl
theorem Qwx:Qap P hp .unsafeSliceData ts [x]=(Qhw x).map fun d=>(d,hp):=rfl
theorem QAn:Qap P hp .unsafeString #[pt,it] [.ptr k 0,.pv (.lit (.int .i64 n))]=QnH P hp pt k n:=rfl
theorem QCp:QjF P op T (.ptr k o) (.pv (.lit (.pointer none)))=QcA P op T false:=rfl
theorem QCq:QjF P op T (.pv (.lit (.pointer none))) (.pv (.lit (.pointer none)))=QcA P op T true:=rfl
def QCo:QjF P op T (.ptr k o) (.ptr k o)=QcA P op T true:=by
 simp[QjF]
theorem Qvt:QBD (.pv p)=[]:=rfl
theorem Qt3:QDW (.ptr k off) hp=some (.ptr k off,hp):=rfl
theorem QnO:QAP (.pv (.lit (.bool t))) x y hp=some (Qka t (Qo t x) (Qo (!t) y),hp):=rfl
theorem Quo:Qo G (.pv p)=.pv p:=rfl
theorem Qqo:Qo G (.ptr k o)=.ptr k o:=rfl
theorem Qqp:Qo G (.own k a b c)=.own k a b c:=rfl
theorem Qup:Qo G (.ip cs)=.ip cs:=rfl
theorem Qqr:Qo G (.agg cs)=.agg cs:=rfl
theorem Qqn:Qo G (.tup cs)=.tup cs:=rfl
theorem Quq:Qo G (.fn f a b)=.fn f a b:=rfl
def Qqq:Qo G (.opt g d)=QC3 (!G||g) g d:=by
 unfold Qo QC3
 cases G<;>cases g<;>rfl
theorem Qpx:QC3 true g d=d:=rfl
theorem QrO:QdB none G d=d:=rfl
theorem QrN:QdB (some g) G d=.opt G d:=rfl
theorem Qol:Qka t (.pv (.lit (.bool p))) (.pv (.lit (.bool q)))=.bool (bif t then p else q):=rfl
theorem QB8:St.ev ⟨nt,base,tm,hp⟩ (.tmp t)=V.look tm t:=rfl
theorem Qv6:St.ev S (.const v)=Qbh v:=rfl
theorem QzX:St.ev S (.func f)=.fn (.func f) [] []:=rfl
theorem QlV:Qbh (.int k n)=.pv (.lit (.int k n)):=rfl
theorem Qkj:Qbh (.bool b)=.pv (.lit (.bool b)):=rfl
theorem Qhe:Qbh (.string s)=.pv (.str s.data.toList):=rfl
theorem QiO:Qbh (.slice none 0 0)=.pv (.slc []):=rfl
theorem Qgv:Qbh .nilFunc=.pv (.lit .nilFunc):=rfl
theorem Qvm:St.put ⟨nt,base,tm,hp⟩ (some t) d=⟨nt,base,(t,d)::tm,hp⟩:=rfl
theorem Qvn:St.put S none d=S:=rfl
theorem QDI:St.at ⟨nt,base,tm,hp⟩ hp2=⟨nt,base,tm,hp2⟩:=rfl
theorem QsV:St.fits ⟨nt,base,tm,hp⟩ (some t)=decide (t<nt):=rfl
theorem QsW:St.fits S none=true:=rfl
def Qr7:V.look ((a,d)::r) t=QnS (a==t) d r t:=by
 unfold QnS
 simp only[V.look,Bool.cond_eq_ite,beq_iff_eq]
theorem Qxw:QnS true d r t=d:=rfl
theorem Qxx:QnS false d r t=V.look r t:=rfl
theorem QoA:QF all S ⟨dst,op,ty,pos,af,none⟩=some true:=rfl
theorem Qoz:QF all S ⟨dst,op,ty,pos,af,some (j,want)⟩=QCM ((all[j]?.bind (·.dst)).map (V.look S.tm)) want:=rfl
theorem QpV:QCM (some (.pv (.lit (.bool b)))) want=some (b==want):=rfl
theorem Qt6:QCM (some (.opt g (.pv (.lit (.bool b))))) want=some (g&&(b==want)):=rfl
theorem QpU:QCM (some (.tup [])) want=some false:=rfl
theorem QtW:QaL P all [] K S=K S:=rfl
theorem QxD:vdr P all [] fs K S=K S:=rfl
def Qti:Qy P .skip Q S=Q .normal S:=(rfl)
def Qml{id:Nat}:Qy P (.region id ops false) Q S=QaL P ops.toList ops.toList (Q .normal) S:=(rfl)
def Qtl{id:Nat}:Qy P (.region id ops true) Q S=VDraw P id ops Q S:=(rfl)
def Qwl:Qy P (.seq a b) Q S=Qy P a (Qas Q (Qy P b Q)) S:=(rfl)
def QoU{id:Nat}:Qy P (.block id c) Q S=Qy P c (QaT id Q) S:=(rfl)
def Qtj:Qy P (.loop c) Q S=VLoop P c Q S:=(rfl)
def Qtk{id:Nat}:Qy P (.exit id) Q S=Q (.exit id) S:=(rfl)
def Qwm:Qy P .ret Q S=Q .ret S:=(rfl)
theorem Qgr:Qas Q K .normal S=K S:=rfl
theorem Qkd:Qas Q K .ret S=Q .ret S:=rfl
theorem QiM{id:Nat}:Qas Q K (.exit id) S=Q (.exit id) S:=rfl
theorem Qhc{id:Nat}:QaT id Q .normal S=Q .normal S:=rfl
theorem QlQ{id:Nat}:QaT id Q .ret S=Q .ret S:=rfl
theorem Qke{id id2:Nat}:QaT id Q (.exit id2) S=if id2=id then Q .normal S else Q (.exit id2) S:=rfl
theorem QzL:frz n hp (.agg cs)=(Qh (cs.map (QcF n hp))).map .agg:=rfl
theorem QB3:frz n hp (.pv p)=some (.pv p):=rfl
theorem QzK:frz n hp (.own k a b c)=QcF n hp (.own k a b c):=rfl
def QzJ:frz n hp (.tup cs)=(Qh (cs.map (QsG n hp))).map .tup:=by
 simp only[frz]; congr 2
theorem QvY:QsG n hp (.agg cs)=(Qh (cs.map (QcF n hp))).map .agg:=rfl
theorem QzM:QsG n hp (.pv p)=some (.pv p):=rfl
theorem QvX:QsG n hp (.own k a b c)=QcF n hp (.own k a b c):=rfl
theorem QzQ:QcF n hp (.pv p)=some (.pv p):=rfl
theorem Qv1:QcF n hp (.own k a b c)=if k<n then some (.own k a b c) else (Qla n hp 4 (.own k a b c)).map .pv:=rfl
theorem Qmq:Qh ([]:List (Option α))=some []:=rfl
theorem Qfj:Qh (some a::r)=(Qh r).map (a::·):=rfl
def QkJ:Qbk 0 hp=some []:=by
 simp[Qbk,Qh]
def QyD:QJ P S [r]=Qk6 P S r:=by
 unfold QJ; cases h:Qk6 P S r<;>simp[Qh,h]
def QyC:QJ P S (r :: s :: rs) = (Qh ((r :: s :: rs).map (Qk6 P S))).map .tup:=by
 unfold QJ
 cases h:Qh ((r::s::rs).map (Qk6 P S)) with
 | none=>rfl
 | some ds =>
   have hl:=(QD h).1
   match ds,hl with
   | a::b::t,_=>rfl
theorem QtX:Qk6 P S (.tmp t)=some (V.look S.tm t):=rfl
theorem QpF:Qk6 P S (.cell a T)=QdW P S.hp T (V.look S.tm a):=rfl
def QvF:QdW P hp T (.ptr k off)=vld (Qk hp k) (vt P T) off:=by
 unfold vld; rfl
theorem Qy9:QdW P hp T (.ip cs)=QC4 cs (vt P T):=rfl
theorem Qxz:vld (some cs) (some none) off=cs[off]?:=rfl
theorem QxA:vld (some cs) (some (some n)) off=if off+n<=cs.length then some (.agg ((cs.drop off).take n)) else none:=rfl
theorem Qt4:QC4 cs (some none)=cs[0]?.map .pv:=rfl
theorem Qt5:QC4 cs (some (some n))=if n<=cs.length then some (.agg ((cs.take n).map .pv)) else none:=rfl
def Qqs:Qe4 P hp T (.ptr k off) d=vst hp k (Qk hp k) (vt P T) off d:=by
 unfold vst; rfl
theorem Qxi:vst hp k (some cs) (some none) off d=if off<cs.length/\d.one=true then some (Qu hp k (cs.set off d)) else none:=rfl
theorem Qxj:vst hp k (some cs) (some (some n)) off (.agg ds)=if off+n<=cs.length/\ds.length=n/\Qn ds=true then some (Qu hp k (splice cs off ds)) else none:=rfl
theorem Qwq:Qk (⟨ty,true,cs⟩::r) 0=some cs:=rfl
theorem Qwr:Qk (B::r) (k+1)=Qk r k:=rfl
theorem Quz:Qu (⟨ty,l,cs⟩::r) 0 ds=⟨ty,l,ds⟩::r:=rfl
def QuA:Qu (B::r) (k+1) ds=B::Qu r k ds:=by
 unfold Qu
 simp only[List.getElem?_cons_succ]
 cases r[k]?<;>rfl
theorem QCn:QAI hp T d=if Qn (Qcl d)=true then some (.ptr hp.length 0,hp++[⟨T,true,Qcl d⟩]) else none:=rfl
def QwC:Qf5 P hp T=QDb hp T (QM P T):=by
 unfold Qf5 QDb; cases QM P T<;>rfl
theorem Qp6:QDb hp T (some cs)=if Qn cs=true then some (.ptr hp.length 0,hp++[⟨T,true,cs⟩]) else none:=rfl
theorem Qpc:Qn []=true:=rfl
theorem Qms:Qn (d::r)=(d.one&&Qn r):=rfl
theorem QBE:DV.one (.pv p)=true:=rfl
theorem QyU:DV.one (.ptr k o)=true:=rfl
theorem QyV:DV.one (.own k a b c)=true:=rfl
theorem QBF:DV.one (.fn f a b)=true:=rfl
def QsZ:Qai P T f (.ptr k off)=QC6 (Qf P T f) k off:=by
 simp only[Qai,QC6]; cases Qf P T f<;>rfl
theorem QpY:QC6 (some (t,o,s)) k off=if s=0 then none else some (.ptr k (off+o)):=rfl
def Qv5:Qai P T f (.ip cs)=QC7 (Qf P T f) cs:=by
 simp only[Qai,QC7]; cases Qf P T f<;>rfl
theorem QpZ:QC7 (some (t,o,s)) cs=if s=0 then none else some (.ip (cs.drop o)):=rfl
def QoL:QdE P T f (.agg cs)=vfv P cs (Qf P T f):=by
 simp only[QdE,vfv]; cases Qf P T f<;>rfl
theorem Qt7:vfv P cs (some (t,o,s))=QgY P t cs o:=rfl
def QtY:QgY P T cs off=vpt (vt P T) cs off:=by
 unfold QgY vpt; cases vt P T with
 | none=>rfl
 | some o=>cases o<;>rfl
theorem Qxs:vpt (some (some n)) cs off=if off+n<=cs.length then some (.agg ((cs.drop off).take n)) else none:=rfl
def QvS:Qah P T (.pv (.sl xs)) (.pv (.lit (.int k i))) = QAU (QN P T) xs[i.toNat]? i:=by
 unfold QAU Qah
 cases QN P T with
 | none=>rfl
 | some e =>
   obtain⟨a,b,c⟩:=e
   cases a with
   | some n=>rfl
   | none=>cases h:xs[i.toNat]?<;>simp[Qk7,h]
def Qjn(h0:0<=i)(hl:c.length=sz)(hp:0<sz):QAU (some (none,e,sz)) (some c) i=some (.ip c):=by
 simp[QAU,h0,hl,hp]
def Qsx:Qah P T (.own b sz off len) (.pv (.lit (.int k i))) = QCL (QN P T) b sz off len i:=by
 unfold QCL Qah
 cases QN P T with
 | none=>rfl
 | some e =>
   obtain⟨a,b,c⟩:=e
   cases a<;>rfl
def QpT{sz b off len:Nat}{i:Int}(h0:0<=i)(hl:i<len):QCL (some (none,e,sz)) b sz off len i=some (.ptr b (off+i.toNat*sz)):=by
 simp[QCL,h0,hl]
def Qsw:Qah P T (.ptr b off) (.pv (.lit (.int k i))) = QCK (QN P T) b off i:=by
 unfold QCK Qah
 cases QN P T with
 | none=>rfl
 | some e =>
   obtain⟨a,b,c⟩:=e
   cases a<;>rfl
def QpS{n sz b off:Nat}{i:Int}(h0:0<=i)(hl:i<n):QCK (some (some n,e,sz)) b off i=some (.ptr b (off+i.toNat*sz)):=by
 simp[QCK,h0,hl]
def Qss:QcM P T (.agg cs) (.pv (.lit (.int k i))) = QCJ P (QN P T) cs i:=by
 unfold QCJ QcM
 cases QN P T with
 | none=>rfl
 | some e =>
   obtain⟨a,b,c⟩:=e
   cases a<;>rfl
def QpR{n sz:Nat}{i:Int}(h0:0<=i)(hl:i<n):QCJ P (some (some n,e,sz)) cs i=QgY P e cs (i.toNat*sz):=by
 simp[QCJ,h0,hl]
def Qsq:QcM P T (.pv (.str l)) (.pv (.lit (.int k i)))=QCI (Q6 P T) l[i.toNat]? i:=by
 unfold QCI QcM Q6
 cases P.underlying T with
 | none=>rfl
 | some u=>cases u<;>first | rfl | (cases h:l[i.toNat]?<;>simp[h])
def QpQ(h0:0<=i):QCI .str (some b) i=some (.pv (.lit (.int .u8 b.toNat))):=by
 simp[QCI,h0]
theorem QAl:QjF P op T (.pv (.lit (.int k a))) (.pv (.lit (.int k2 b)))=Qr op k a k2 b:=rfl
theorem QAk:QjF P op T (.pv (.str a)) (.pv (.str b))=QcP op a b:=rfl
def Qzz:Qr .add k a k b=some (.int k (k.wrap (a+b))):=by
 simp[Qr]
def Qzm:Qr .sub k a k b=some (.int k (k.wrap (a-b))):=by
 simp[Qr]
def Qzs:Qr .mul k a k b=some (.int k (k.wrap (a*b))):=by
 simp[Qr]
def Qzy:Qr .and k a k b=some (.int k (bits .and k a b)):=by
 simp[Qr]
def QBZ:Qr .or k a k b=some (.int k (bits .or k a b)):=by
 simp[Qr]
def Qzl:Qr .xor k a k b=some (.int k (bits .xor k a b)):=by
 simp[Qr]
def Qzx:Qr .eql k a k b=some (.bool (a==b)):=by
 simp[Qr]
def Qzr:Qr .neq k a k b=some (.bool (a != b)):=by
 simp[Qr]
def Qzt:Qr .lss k a k b=some (.bool (decide (a<b))):=by
 simp[Qr]
def Qzu:Qr .leq k a k b=some (.bool (decide (a<=b))):=by
 simp[Qr]
def Qzv:Qr .gtr k a k b=some (.bool (decide (b<a))):=by
 simp[Qr]
def Qzw:Qr .geq k a k b=some (.bool (decide (b<=a))):=by
 simp[Qr]
def Qzq(h:¬ b=0):Qr .quo k a k b=some (.int k (k.wrap (a.tdiv b))):=by
 simp[Qr,h]
def Qzp(h:¬ b=0):Qr .rem k a k b=some (.int k (a.tmod b)):=by
 simp[Qr,h]
def Qzo(h:¬ b<0):Qr .shl k a k2 b=some (.int k (k.wrap (a*2 ^ min b.toNat k.bits))):=by
 simp[Qr,h]
def Qzn(h:¬ b<0):Qr .shr k a k2 b=some (.int k (a.fdiv (2 ^ min b.toNat k.bits))):=by
 simp[Qr,h]
def QcR(h:a.length+b.length<=9223372036854775807):QcP .add a b=some (.str (a++b)):=by
 simp[QcP,h]
theorem Qx1:QcP .eql a b=some (.bool (a==b)):=rfl
theorem QxZ:QcP .neq a b=some (.bool (!(a==b))):=rfl
theorem QA5:vun .not (.pv (.lit (.bool b)))=some (.bool (!b)):=rfl
theorem QA4:vun .xor (.pv (.lit (.int .u32 n)))=some (.int .u32 (bits .xor .u32 4294967295 n)):=rfl
theorem QzW:Qdg (.tup ds) i=ds[i]?:=rfl
def QBS:Qph P T (.pv (.sl xs))=vlk (Q6 P T) (.int .i64 xs.length):=by
 unfold Qph vlk Q6
 cases P.underlying T with
 | none=>rfl
 | some u=>cases u<;>rfl
theorem QAS:vlk (.sl e) d=some d:=rfl
def Qzb:Qph P T (.pv (.slc xs))=vlk (Q6 P T) (.int .i64 xs.length):=by
 unfold Qph vlk Q6
 cases P.underlying T with
 | none=>rfl
 | some u=>cases u<;>rfl
def Qzc:Qph P T (.own k s o n)=vlk (Q6 P T) (.int .i64 n):=by
 unfold Qph vlk Q6
 cases P.underlying T with
 | none=>rfl
 | some u=>cases u<;>rfl
def Qza:Qph P T (.pv (.str l))=vls (Q6 P T) l:=by
 unfold Qph vls Q6
 cases P.underlying T with
 | none=>rfl
 | some u=>cases u<;>rfl
theorem Qxu:vls .str l=some (.int .i64 l.length):=rfl
theorem QCt:Qap P hp .len #[T] [x]=(Qph P T x).map fun d=>(d,hp):=rfl
theorem Qtv:Qap P hp .append #[s,t] [x,y]=Qcp P hp s t x y:=rfl
theorem QAs:Qcp P hp s t (.pv (.slc p)) y=QcQ P hp s t (.pv (.slc p)) y:=rfl
theorem QAu:Qcp P hp s t (.pv (.lit (.slice none 0 0))) y=QcQ P hp s t (.pv (.slc [])) y:=rfl
theorem QAt:Qcp P hp s t (.own k a b c) y=QcQ P hp s t (.own k a b c) y:=rfl
def QCr:Qap P hp .min ts [.pv (.lit (.int k a)),.pv (.lit (.int k2 b))]=some (.int k (if b<a then b else a),hp):=by
 simp[Qap,V.vmin]
def QCs:Qap P hp .max ts [.pv (.lit (.int k a)),.pv (.lit (.int k2 b))]=some (.int k (if b > a then b else a),hp):=by
 simp[Qap,V.vmax]
theorem QrK:V.parts ev #[]=[]:=rfl
theorem Qoo:V.parts ev ⟨(i,x)::r⟩=(i,ev x)::V.parts ev ⟨r⟩:=rfl
theorem Qv7:Qhn i []=[]:=rfl
theorem Qs0:Qhn i (d::r)=(i,d)::Qhn (i+1) r:=rfl
theorem QyX:Qay af f i []=true:=rfl
def Qvv:Qay af ([],b) i (g::r)=Qay af ([],b) (i+1) r:=by
 simp[Qay]
def QrR:Qay af f i (([],b)::r)=Qay af f (i+1) r:=by
 simp[Qay]
def QyW:Qay af ([k],b) i (([l],c)::r)=((!((c||b)&&(l==k))||af.toList.any fun e=>Region.binds .any e&&e.on==i)&&Qay af ([k],b) (i+1) r):=by
 simp only[Qay,List.any_cons,List.any_nil,Bool.or_false,List.contains,List.elem]
 cases h:(l==k)<;>simp
def Qwk:Qa9 P hp S T (.pv (.lit (.int k2 n))) = vci (Q6 P S) (Q6 P T) n hp:=by
 unfold Qa9 QcN vci Q6
 cases P.underlying S with
 | none=>rfl
 | some u=>cases P.underlying T with
   | none=>cases u<;>rfl
   | some t => cases u<;>cases t<;>try rfl
               all_goals (simp only[Qwp,Qlf,Qk7]; split<;>simp_all)
theorem QxI:vci (.int k0) (.int k) n hp=some (.int k (k.wrap n),hp):=rfl
theorem QB9:evG G S x=Qo G (S.ev x):=rfl
def QpC:QaL P all (o::r) K S=(S.fits o.dst=true/\QpE P all o r K S (QF all S o)):=by
 conv=>lhs; unfold QaL
 congr 1
 unfold QpE QeI
 cases QF all S o with
 | none=>rfl
 | some G=>cases G<;>rfl
theorem QqR:QpE P all o r K S (some G)=QeI P all o r K S G:=rfl
theorem QqN:QeI P all o r K S true=QnL P all o r K S (Qm (evG true S) o.op):=rfl
theorem Qob:QeI P all o r K S false=QaL P all r K (S.put o.dst (.tup [])):=rfl
theorem QqQ:QnL P all o r K S none=QpD P all o r K S (vop P (evG true S) S.hp o.op):=rfl
theorem QqP:QnL P all o r K S (some (g,args))=VCalls P g args S.hp (Qxn P all o r K S):=rfl
theorem QqO:QpD P all o r K S (some (d,hp))=QaL P all r K ((S.at hp).put o.dst (QdB o.guard true d)):=rfl
theorem Qyg:Qxn P all o r K S d hp=QaL P all r K ((S.at hp).put o.dst (QdB o.guard true d)):=rfl
def Qt8:vdr P all (o::r) fs K S=(S.fits o.dst=true/\QAZ P all o r fs K S (QF all S o)):=by
 conv=>lhs; unfold vdr
 congr 1
 unfold QAZ QnW
 cases QF all S o with
 | none=>rfl
 | some G=>cases G<;>rfl
theorem Qwe:QAZ P all o r fs K S (some G)=QnW P all o r fs K S G:=rfl
theorem Qwb:QnW P all o r fs K S true=QAY P all o r fs K S (Qm (evG true S) o.op):=rfl
theorem Qs8:QnW P all o r fs K S false=vdr P all r (fs++[([],false)]) K (S.put o.dst (.tup [])):=rfl
theorem Qwd:QAY P all o r fs K S none=QAX P all o r fs K S (QbW (evG true S) o.op) (vop P (evG true S) S.hp o.op):=rfl
theorem Qwc:QAX P all o r fs K S f (some (d,hp))=(Q8 o.op=true/\Qay o.after f 0 fs=true/\vdr P all r (fs++[f]) K ((S.at hp).put o.dst (QdB o.guard true d))):=rfl
def Qtm:Qy P (.cond c a b) Q S=Qpw P a b Q S (S.ev c):=by
 conv=>lhs; unfold Qy
 unfold Qpw
 rfl
theorem QnI:Qpw P a b Q S (.pv (.lit (.bool t)))=vbr P a b Q S t:=rfl
def Que:vbr P a b Q S true=Qy P a Q S:=by
 simp[vbr,Qub]
def Qp5:vbr P a b Q S false=Qy P b Q S:=by
 simp[vbr,Qub]
def QpG:QeJ P rs n R .ret S=QAD n S.hp R (QJ P S rs):=by
 unfold QeJ QAD; cases QJ P S rs<;>rfl
def Ql5:Qal P rs R .normal S=Qll S.hp R (QJ P S rs):=by
 unfold Qal Qll; cases QJ P S rs<;>rfl
def QvO:Qal P rs R .ret S=Qll S.hp R (QJ P S rs):=by
 unfold Qal Qll; cases QJ P S rs<;>rfl
def QpW:QAD n hp R (some d)=QpX R (frz n hp d) (Qbk n hp):=by
 simp only[QAD,QtL,QpX]<;>cases frz n hp d<;>cases Qbk n hp<;>rfl
theorem QnU:Qll hp R (some d)=R d hp:=rfl
theorem QnV:QpX R (some d) (some hp)=R d hp:=rfl
theorem QDJ:St.hp ⟨nt,base,tm,hp⟩=hp:=rfl
theorem Quw:QcJ P hp T (.pv p) lo hi mx=QbS P T (.pv p) lo hi mx:=rfl
def Qmb:Qbk 1 (⟨ty,true,cs⟩::r)=QzN ty (Qh (cs.map (QcF 1 (⟨ty,true,cs⟩::r)))):=by
 unfold Qbk QzN
 simp only[List.take_succ_cons,List.take_zero,Js,List.map_nil,if_true]
 cases Qh (cs.map (QcF 1 (⟨ty,true,cs⟩::r)))<;>rfl
theorem QoC:QzN ty (some cs)=some [⟨ty,true,cs⟩]:=rfl
def QlC (h1:0<=j):QbS P T (.pv (.sl xs)) none (some (.pv (.lit (.int k2 j)))) none = QnK (QN P T) xs 0 j.toNat:=by
 unfold QbS QnK
 simp only[Qk7,Qnc,Qpk,if_pos h1]
 cases QN P T with
 | none=>rfl
 | some e =>
   obtain⟨a,b,c⟩:=e
   cases a<;>rfl
def QlB (h0:0<=i):QbS P T (.pv (.sl xs)) (some (.pv (.lit (.int k i)))) none none = QnK (QN P T) xs i.toNat xs.length:=by
 unfold QbS QnK
 simp only[Qk7,Qnc,Qpk,if_pos h0]
 cases QN P T with
 | none=>rfl
 | some e =>
   obtain⟨a,b,c⟩:=e
   cases a<;>rfl
def QjR(h1:0<=j):QbS P T (.pv (.str xs)) none (some (.pv (.lit (.int k2 j)))) none=QwI (Q6 P T) xs 0 j.toNat:=by
 unfold QbS QwI Q6
 simp only[Qnc,Qpk,if_pos h1]
 cases P.underlying T with
 | none=>rfl
 | some u=>cases u<;>rfl
def QjQ(h0:0<=i):QbS P T (.pv (.str xs)) (some (.pv (.lit (.int k i)))) none none=QwI (Q6 P T) xs i.toNat xs.length:=by
 unfold QbS QwI Q6
 simp only[Qnc,Qpk,if_pos h0]
 cases P.underlying T with
 | none=>rfl
 | some u=>cases u<;>rfl
def Qg9(h0:0<=i)(h1:0<=j):QbS P T (.pv (.str xs)) (some (.pv (.lit (.int k i)))) (some (.pv (.lit (.int k2 j)))) none=QwI (Q6 P T) xs i.toNat j.toNat:=by
 unfold QbS QwI Q6
 simp only[Qnc,Qpk,if_pos h0,if_pos h1]
 cases P.underlying T with
 | none=>rfl
 | some u=>cases u<;>rfl
def QpA(h1:a<=b)(h2:b<=xs.length)(h3:xs[0]?.map J9=some sz):QnK (some (none,e,sz)) xs a b=some (.pv (.sl ((xs.take b).drop a))):=by
 simp[QnK,h1,h2,h3]
def Qpz(h1:a<=b)(h2:b<=xs.length):QwI .str xs a b=some (.pv (.str ((xs.take b).drop a))):=by
 simp[QwI,h1,h2]
def Qws:QjF P op T (.pv (.lit (.bool a))) (.pv (.lit (.bool b)))=vbb op (Q6 P T) a b:=by
 unfold QjF vbb Q6
 cases P.underlying T with
 | none=>cases op<;>rfl
 | some u=>cases u<;>cases op<;>rfl
theorem QxM:vbb .eql .bool a b=some (.bool (a==b)):=rfl
theorem QxL:vbb .neq .bool a b=some (.bool (!(a==b))):=rfl
def QAm:QjF P op T (.agg xs) (.agg ys)=vba op (vt P T) (QaG P 8 T) (P.eqGuardType P.depth T) xs ys:=by
 unfold QjF vba
 rfl
def QxP:vba .eql (some (some n)) (some l) false xs ys=(Q5 xs ys l).map fun b=>.bool b:=by
 simp only[vba]
 cases Q5 xs ys l<;>rfl
def QxO:vba .neq (some (some n)) (some l) false xs ys=(Q5 xs ys l).map fun b=>.bool (!b):=by
 simp only[vba]
 cases Q5 xs ys l<;>rfl
def QyR:Qka false x (.pv (.lit (.bool b))) = .bool b:=by
 cases x with
 | pv p=>cases p with
   | lit v=>cases v<;>rfl
   | _=>rfl
 | _=>rfl
def QyQ:Qka true (.pv (.lit (.bool b))) x = .bool b:=by
 cases x with
 | pv p=>cases p with
   | lit v=>cases v<;>rfl
   | _=>rfl
 | _=>rfl
theorem QrF:QlN (.tup ds)=[]:=rfl
@[congr] def Qxr(P:Program)(all:List Oper)(o:Oper)(r:List Oper)(K:St->Prop)(S:St)(h:g=g'):QpE P all o r K S g=QpE P all o r K S g':=by rw[h]
@[congr] def Qxo(P:Program)(all:List Oper)(o:Oper)(r:List Oper)(K:St->Prop)(S:St)(h:g=g'):QeI P all o r K S g=QeI P all o r K S g':=by rw[h]
@[congr] def Qxq(P:Program)(all:List Oper)(o:Oper)(r:List Oper)(K:St->Prop)(S:St)(h:c=c'):QnL P all o r K S c=QnL P all o r K S c':=by rw[h]
@[congr] def Qxp(P:Program)(all:List Oper)(o:Oper)(r:List Oper)(K:St->Prop)(S:St)(h:x=x'):QpD P all o r K S x=QpD P all o r K S x':=by rw[h]
@[congr] def QAH(P:Program)(all:List Oper)(o:Oper)(r:List Oper)(fs:List (List Nat×Bool))(K:St->Prop)(S:St)(h:g=g'):QAZ P all o r fs K S g=QAZ P all o r fs K S g':=by rw[h]
@[congr] def QAE(P:Program)(all:List Oper)(o:Oper)(r:List Oper)(fs:List (List Nat×Bool))(K:St->Prop)(S:St)(h:g=g'):QnW P all o r fs K S g=QnW P all o r fs K S g':=by rw[h]
@[congr] def QAG(P:Program)(all:List Oper)(o:Oper)(r:List Oper)(fs:List (List Nat×Bool))(K:St->Prop)(S:St)(h:c=c'):QAY P all o r fs K S c=QAY P all o r fs K S c':=by rw[h]
@[congr] def Qxh(P:Program)(a b:Code)(Q:Exit->St->Prop)(S:St)(h:c=c'):Qpw P a b Q S c=Qpw P a b Q S c':=by rw[h]
@[congr] def QA2(P:Program)(a b:Code)(Q:Exit->St->Prop)(S:St)(h:t=t'):vbr P a b Q S t=vbr P a b Q S t':=by rw[h]
@[congr] def QAC(n:Nat)(hp:Qa)(R:DV->Qa->Prop)(h:r=r'):QAD n hp R r=QAD n hp R r':=by rw[h]
@[congr] def Qxy(d:DV)(r:List (Nat×DV))(t:Nat)(h:b=b2):QnS b d r t=QnS b2 d r t:=by rw[h]
@[congr] def QxB(hp:Qa)(R:DV->Qa->Prop)(h:r=r'):Qll hp R r=Qll hp R r':=by rw[h]
@[congr] def QAF(P:Program)(all:List Oper)(o:Oper)(r:List Oper)(fs:List (List Nat×Bool))(K:St->Prop)(S:St)(h:f=f')(g:x=x'):QAX P all o r fs K S f x=QAX P all o r fs K S f' x':=by rw[h,g]
@[congr] def QxC(R:DV->Qa->Prop)(a:r=r')(b:h=h'):QpX R r h=QpX R r' h':=by rw[a,b]
@[congr] def QAB(P:Program)(all ops:List Oper)(K:St->Prop)(h:S=S'):QaL P all ops K S=QaL P all ops K S':=by rw[h]
@[congr] def QAW(P:Program)(all ops:List Oper)(fs:List (List Nat×Bool))(K:St->Prop)(h:S=S'):vdr P all ops fs K S=vdr P all ops fs K S':=by rw[h]
@[congr] def QxH(P:Program)(c:Code)(Q:Exit->St->Prop)(h:S=S'):Qy P c Q S=Qy P c Q S':=by rw[h]
end Go.V
namespace Go.V
abbrev Ret(d:DV):DV->Qa->Prop:=fun r h'=>h'=[]/\r.nums (fun _=>false)=true/\r=d
def Qac(c:VCalls P g args [] (Ret d))(ha:DV.nums.go (fun _=>false) args=true)(h:K d hp):VCalls P g args hp K:=
 (VCalls.pure (R:=fun r=>r=d) c ha).mono fun r h' e=>by obtain⟨rfl,rfl⟩:=e; exact h
def Qbl{g:FuncId}{args:List DV}{hp:Qa}{K:DV->Qa->Prop}{R:DV->Prop}(c:VCalls P g args [] fun r h'=>h'=[]/\r.nums (fun _=>false)=true/\R r)(ha:DV.nums.go (fun _=>false) args=true)(h:∀ r,R r->K r hp):VCalls P g args hp K:=
 (VCalls.pure c ha).mono fun r h' e=>by obtain⟨rfl,e⟩:=e; exact h r e
def Qt9(c:VCalls P g args [] (Ret d))(ha:DV.nums.go (fun _=>false) args=true)(hd:d.nums (fun _=>false)=true)(h:K d):vdc P g args K:=
 ⟨d,c.mono fun _ _ e=>⟨e.1,e.2.2⟩,ha,hd,h⟩
end Go.V
namespace Go.V
structure Gc(keep:List Nat)(S S':St):Prop where
 nt:S'.nt=S.nt
 base:S'.base=S.base
 low:∀ k,k<S.base->keep[k]?=some k
 nodup:keep.Nodup
 len:S'.hp.length=keep.length
 hp:∀ (i k:Nat),keep[i]?=some k->∃ B B',S.hp[k]?=some B/\S'.hp[i]?=some B'/\B'.ty=B.ty/\B'.live=B.live/\B'.cells=B.cells.map (DV.ren fun k=>keep.idxOf k)/\(B.live=true->DV.nums.go keep.contains B.cells=true)
 tm:∀ t,V.look S'.tm t=.any\/(V.look S'.tm t=(V.look S.tm t).ren (fun k=>keep.idxOf k)/\(V.look S.tm t).nums keep.contains=true)
def Sim.gc (h:Sim O β S a w) (g:Gc keep S S'):∃ β',Sim O β' S' a w:=by
 let β':Map:=⟨fun i=>(keep[i]?).bind β.f,β.X⟩
 have hO:O.hp.length=S.base:=h.base
 have back:∀ {i:Nat} {B':Blk},S'.hp[i]?=some B'->∃ k B,keep[i]?=some k/\S.hp[k]?=some B/\B'.ty=B.ty/\B'.live=B.live/\B'.cells=B.cells.map (DV.ren fun k=>keep.idxOf k)/\(B.live=true->DV.nums.go keep.contains B.cells=true)/\β'.f i=β.f k:=by
  intro i B' hi
  have hlt:i<keep.length:=by rw[<- g.len]; exact(Jc.1 hi).1
  have hk:keep[i]?=some keep[i]:=Jd hlt
  obtain⟨B,B'',h1,h2,h3,h4,h5,h6⟩:=g.hp i _ hk
  rw[hi] at h2
  cases h2
  exact⟨_,B,hk,h1,h3,h4,h5,h6,by simp[β',hk]⟩
 have hsub:∀ b,live β' S'.hp b->live β S.hp b:=by
  rintro b ⟨i,B',h1,h2,h3⟩
  obtain⟨k,B,_,k2,_,k4,_,_,k7⟩:=back h1
  exact⟨k,B,k2,by rw[<- k4]; exact h2,by rw[<- k7]; exact h3⟩
 have him:∀ b,img β' S'.hp b->img β S.hp b:=fun b hb=>hb.imp id (hsub b)
 have hσ:∀ k,keep.contains k=true->k<S.hp.length->keep.idxOf k<S'.hp.length/\β'.f (keep.idxOf k)=β.f k:=by
  intro k hk _
  have hm:k∈keep:=by simpa using hk
  have hlt:=JN hm
  refine⟨by rw[g.len]; exact hlt,?_⟩
  simp[β',Jd hlt]
 refine⟨β',h.defers,by rw[g.nt]; exact h.size,fun t=>?_,?_,?_,h.base.trans g.base.symm⟩
 ·rcases g.tm t with e | ⟨e,hn⟩
  ·rw[e]; exact .any _
  ·rw[e]; exact RelD.ren hσ him (h.tm t) hn
 ·have hh:=h.heap
  refine⟨fun i B' b h1 h2 h3=>?_,fun i B' h1 h2 h3=>?_,fun i j B B' b h1 h2 h3 h4 h5 h6=>?_,fun i B' b h1 h2 h3=>?_,hh.bound⟩
  ·obtain ⟨k,B,k1,k2,k3,k4,k5,k6,k7⟩:=back h1
   rw[k7] at h3
   have hl:B.live=true:=by rw[<- k4]; exact h2
   obtain⟨C,c1,c2,c3⟩:=hh.blk k B b k2 hl h3
   refine⟨C,by rw[k3]; exact c1,by rw[k5,JO]; exact c2,fun j d hd=>?_⟩
   rw[k5,Jg] at hd
   cases hx:B.cells[j]? with
   | none=>simp[hx] at hd
   | some x =>
     simp[hx] at hd
     subst hd
     obtain⟨o1,o2⟩:=c3 j x hx
     refine⟨?_,RelD.ren hσ him o2 (DV.nums_go (k6 hl) j x hx)⟩
     cases x<;>first | rfl | exact o1
  ·obtain ⟨k,B,k1,k2,k3,k4,k5,k6,k7⟩:=back h1
   rw[k7] at h3
   rw[k5,hh.none k B k2 (by rw[<- k4]; exact h2) h3]; rfl
  ·obtain ⟨k,D,k1,k2,k3,k4,k5,k6,k7⟩:=back h1
   obtain⟨k',D',l1,l2,l3,l4,l5,l6,l7⟩:=back h2
   rw[k7] at h5
   rw[l7] at h6
   have:=hh.inj k k' D D' b k2 l2 (by rw[<- k4]; exact h3) (by rw[<- l4]; exact h4) h5 h6
   subst this
   obtain⟨hi,e1⟩:=Jc.1 k1
   obtain⟨hj,e2⟩:=Jc.1 l1
   exact(List.getElem_inj g.nodup).1 (e1.trans e2.symm)
  ·obtain ⟨k,B,k1,k2,k3,k4,k5,k6,k7⟩:=back h1
   rw[k7] at h3
   exact hh.avoid k B b k2 (by rw[<- k4]; exact h2) h3
 ·have ev:=h.evo
  have hlow:∀ k,k<O.hp.length->β'.f k=β.f k:=fun k hk=>by simp[β',g.low k (by omega)]
  refine⟨ev.os,ev.tape,ev.output,ev.size,?_,fun k hk=>(hlow k hk).trans (ev.beta k hk),ev.same,ev.shape,fun b hb hl=>ev.im b hb (hsub b hl),ev.X⟩
  rw[g.len]
  by_cases h0:O.hp.length=0
  ·omega
  ·have:=g.low (O.hp.length - 1) (by omega)
   have:=(Jc.1 this).1
   omega
def QtT(S S':St):Prop:=Le S S'\/∃ keep,Gc keep S S'
def Sim.weak(h:Sim O β S a w)(g:QtT S S'):∃ β',Sim O β' S' a w:=by
 rcases g with g | ⟨keep,g⟩
 ·exact⟨β,h.le g⟩
 ·exact h.gc g
def Qg {c:Code} {Q:Exit->St->Prop} {ι:Type} (I:ι->St) (μ:ι->Nat) (i₀:ι) (h₀:QtT S (I i₀)) (round:∀ i,Qy P c (Qas Q fun S'=>∃ j,μ j < μ i/\QtT S' (I j)) (I i)):VLoop P c Q S:=by
 intro O β a w hs b k cs
 have key:∀ n β i a w,μ i = n->Sim O β (I i) a w ->
  ∃ e a' w',Ql1 O Q e a' w'/\Arrives P (lone (b.at a (.code c::.inLoop c::k)) cs w) b k cs e a' w':=by
  intro n
  induction n using JM with
  | _ n ih =>
    intro β i a w hn hs
    obtain⟨e,a₁,w₁,hq,harr⟩:=Qv c _ _ (round i) O β a w hs b (.inLoop c::k) cs
    obtain⟨β₁,S₁,hs₁,hq⟩:=hq
    cases e with
    | normal =>
      obtain⟨j,hlt,hle⟩:=hq
      obtain⟨β₂,hs₂⟩:=hs₁.weak hle
      obtain⟨e₂,a₂,w₂,hq₂,harr₂⟩:=ih (μ j) (hn▸hlt) β₂ j a₁ w₁ rfl hs₂
      exact⟨e₂,a₂,w₂,hq₂,.of_steps (Steps.trans harr (.one step_inLoop)) harr₂⟩
    | exit id=>exact⟨_,a₁,w₁,⟨β₁,S₁,hs₁,hq⟩,.pass (x:=.inLoop c) rfl (fun _ _=>.inl (by simp)) harr⟩
    | goto l=>exact⟨_,a₁,w₁,⟨β₁,S₁,hs₁,hq⟩,.pass (x:=.inLoop c) rfl (fun _ _=>.inl (by simp)) harr⟩
    | ret=>exact⟨_,a₁,w₁,⟨β₁,S₁,hs₁,hq⟩,.pass (x:=.inLoop c) rfl (fun _ _=>.inl (by simp)) harr⟩
    | panic ch=>exact⟨_,a₁,w₁,⟨β₁,S₁,hs₁,hq⟩,.pass (x:=.inLoop c) rfl (fun _ _=>.inl (by simp)) harr⟩
    | outgrown=>exact⟨_,a₁,w₁,⟨β₁,S₁,hs₁,hq⟩,.pass (x:=.inLoop c) rfl (fun _ _=>.inl (by simp)) harr⟩
 obtain⟨β₀,hs₀⟩:=hs.weak h₀
 obtain⟨e,a',w',hq,harr⟩:=key _ β₀ i₀ a w rfl hs₀
 exact⟨e,a',w',hq,.of_steps (.one step_loop) harr⟩
mutual
def Qe5 (σ:Nat->Nat):∀ (d:DV),d.nums (fun _=>false) = true->d.ren σ = d
 | .pv _,_=>rfl
 | .ptr _ _,h=>by simp[DV.nums] at h
 | .own _ _ _ _,h=>by simp[DV.nums] at h
 | .ownc _ _ _ _ _,h=>by simp[DV.nums] at h
 | .ip _,_=>rfl
 | .any,_=>rfl
 | .agg cs,h=>by simp only[DV.ren]; rw[Qbc σ cs h]
 | .tup cs,h=>by simp only[DV.ren]; rw[Qbc σ cs h]
 | .fn f a b,h=>by
   simp only[DV.nums,Jb] at h
   simp only[DV.ren]; rw[Qbc σ a h.1,Qbc σ b h.2]
 | .opt c d,h=>by simp only[DV.ren]; rw[Qe5 σ d h]
def Qbc (σ:Nat->Nat):∀ (ds:List DV),DV.nums.go (fun _=>false) ds = true->DV.ren.go σ ds = ds
 | [],_=>rfl
 | d :: r,h=>by
   simp only[DV.nums.go,Jb] at h
   simp only[DV.ren.go]; rw[Qe5 σ d h.1,Qbc σ r h.2]
end
mutual
def Qkk (p:Nat->Bool):∀ (d:DV),d.nums (fun _=>false) = true->d.nums p = true
 | .pv _,_=>rfl
 | .ptr _ _,h=>by simp[DV.nums] at h
 | .own _ _ _ _,h=>by simp[DV.nums] at h
 | .ownc _ _ _ _ _,h=>by simp[DV.nums] at h
 | .ip _,_=>rfl
 | .any,_=>rfl
 | .agg cs,h=>QP p cs h
 | .tup cs,h=>QP p cs h
 | .fn f a b,h=>by
   simp only[DV.nums,Jb] at h |-
   exact⟨QP p a h.1,QP p b h.2⟩
 | .opt c d,h=>Qkk p d h
def QP (p:Nat->Bool):∀ (ds:List DV),DV.nums.go (fun _=>false) ds = true->DV.nums.go p ds = true
 | [],_=>rfl
 | d :: r,h=>by
   simp only[DV.nums.go,Jb] at h |-
   exact⟨Qkk p d h.1,QP p r h.2⟩
end
def QCP(keep:List Nat)(tm:List (Nat×DV)):List (Nat×DV)->Prop
 | []=>True
 | (t,d)::r=>(d=(V.look tm t).ren (fun k=>keep.idxOf k)/\(V.look tm t).nums keep.contains=true)/\QCP keep tm r
def QjK:∀ {tm':List (Nat × DV)},QCP keep tm tm'->∀ t,V.look tm' t = .any\/(V.look tm' t = (V.look tm t).ren (fun k=>keep.idxOf k)/\(V.look tm t).nums keep.contains = true)
 | [],_,t=>.inl rfl
 | (a,d) :: r,h,t=>by
   simp only[V.look]
   split
   ·rename_i e; subst e; exact .inr h.1
   ·exact QjK h.2 t
def Qz9(keep:List Nat)(cs cs':List DV):Prop:=(DV.nums.go (fun _=>false) cs=true/\cs'=cs)\/(cs'=cs.map (DV.ren fun k=>keep.idxOf k)/\DV.nums.go keep.contains cs=true)
def QCW(keep:List Nat)(hp:Qa):List Nat->Qa->Prop
 | [],[]=>True
 | k::r,B'::r'=>(∃ B,hp[k]?=some B/\B'.ty=B.ty/\B'.live=B.live/\Qz9 keep B.cells B'.cells)/\QCW keep hp r r'
 | _,_=>False
def Qi0:∀ {l:List Nat} {hp':Qa},QCW keep hp l hp'->hp'.length = l.length/\∀ (i k:Nat),l[i]? = some k->∃ B B',hp[k]? = some B/\hp'[i]? = some B'/\B'.ty = B.ty/\B'.live = B.live/\B'.cells = B.cells.map (DV.ren fun k=>keep.idxOf k)/\(B.live = true->DV.nums.go keep.contains B.cells = true)
 | [],[],_=>⟨rfl,fun i k h=>by simp at h⟩
 | [],_::_,h=>h.elim
 | _::_,[],h=>h.elim
 | k0 :: r,B' :: r',h=>by
   obtain⟨⟨B,h1,h2,h3,h4⟩,h5⟩:=h
   obtain⟨g1,g2⟩:=Qi0 h5
   refine⟨by simp[g1],fun i k hk=>?_⟩
   cases i with
   | zero =>
     simp at hk
     subst hk
     refine⟨B,B',h1,rfl,h2,h3,?_⟩
     rcases h4 with⟨n,e⟩ | ⟨e,n⟩
     ·exact⟨by rw[e,<- DV.ren_go,Qbc _ _ n],fun _=>QP _ _ n⟩
     ·exact⟨e,fun _=>n⟩
   | succ i=>exact g2 i k (by simpa using hk)
def QzG(h1:S'.nt=S.nt)(h2:S'.base=S.base)(h3:keep.take S.base=Jk S.base)(h4:keep.Nodup)(h5:QCW keep S.hp keep S'.hp)(h6:QCP keep S.tm S'.tm):QtT S S':=
 .inr ⟨keep,h1,h2,fun k hk=>by
  have:(keep.take S.base)[k]?=some k:=by rw[h3]; simp[hk]
  rw[JQ] at this
  simpa [hk] using this,h4,(Qi0 h5).1,(Qi0 h5).2,QjK h6⟩
end Go.V
namespace Go.V
open Go.RowKit Go.WideShapes Go.ChangeShapes
def β0:Map:=⟨fun _=>none,fun _=>False⟩
def QvT(w:World):HeapRel w β0 []:=⟨by simp,by simp,by simp,by simp,fun _ h=>h.elim⟩
def QvH(hb:∃ fn,P.funcs[g]?=some fn/\fn.body.isNone=false)(c:VCalls P g ds [] (Ret (.bool true)))(h:RelL w β0 [] ds vs):
 Calls P g vs w fun e w'=>e=.returned (.bool true)/\Below w.heap.size w w':=by
 rcases c.run w β0 vs (QvT w) h with⟨_,_,_,_,h4⟩ | ⟨fn,_,_,h1,h2,_⟩
 rotate_left
 ·obtain ⟨fn',k1,k2⟩:=hb
  rw[h1] at k1
  cases k1
  rw[h2] at k2
  cases k2
 refine h4.mono fun e w' ⟨v,r,h',β',he,ev,_,hr,_,_,hd⟩=>?_
 subst hd
 obtain rfl:=Qi hr
 exact⟨he,ev.os,ev.tape,ev.output,ev.size,fun k hk=>ev.same k hk (by rintro⟨_,_,h,_⟩; simp at h)⟩
section
variable {H:Type} {enc:TypeId×Value->H} {P:Program}
theorem Qd0 (hl:laidOutB P = true) (hb:Below W.heap.size W W'):∀ {ts:List TypeId} {vs:List Value} {ds:List (DataW H)} {ps:List MemPlace},
 (ts.all fun t=>P.readableRec t&&decide (t<P.types.size))=true->DataW.TrodAll enc P W 0 (fun _=>true) true ts vs ds ps->(∀ x∈ps,x.block<W.heap.size)->(∀ x∈ps,sp x.block=true)->DataW.TrodAll enc P W' 0 sp true ts vs ds ps
 | [],_,_,_,_,h,_,_=>by
   obtain⟨rfl,rfl,rfl⟩:=trodAll_nil h
   exact rfl
 | t :: ts,_,_,_,hr,h,hlt,hs=>by
   obtain⟨v,vs1,d,ds1,a,b,rfl,rfl,rfl,h1,h2⟩:=trodAll_cons h
   simp only[List.all_cons,Jb,decide_eq_true_eq] at hr
   exact⟨a,b,WideElems.Trod_stays hl hr.1.1 hr.1.2 h1 (fun x hx=>hb.same (hlt x (Jj _ hx))) (fun x hx=>hs x (Jj _ hx)),
    Qd0 hl hb (by simpa using hr.2) h2 (fun x hx=>hlt x (Jh _ hx)) (fun x hx=>hs x (Jh _ hx)),rfl⟩
theorem QvI{f:Func}{s:ChangeSpec}{args:Array Value}(hW:DataW.Whole enc P f.params.toList s.vars apart W args.toList ds gs before)(hl:laidOutB P=true)(hts:(f.params.toList.all fun t=>P.readableRec t&&decide (t<P.types.size))=true)(hvs:s.vars=[])(hres:f.resultTypes=#[Tb])(hTb:P.underlying Tb=some .bool)(hr:(s.fn H ds).results=[.lit (.bool true)])(ha:(s.fn H ds).args=ds)(hv:(s.fn H ds).vars=[])(hb:Below W.heap.size W W'):s.post enc P f apart fresh handsOn again W args (.bool true) W':=by
 have hlt:∀ p∈before,p.block<W.heap.size:=fun p hp=>hW.lt p hp
 have hold:∀ p∈before,(fun b=>decide (b<W.heap.size)) p.block=true:=fun p hp=>by simpa using hlt p hp
 have hW2:=hW
 obtain⟨p,q,hA,hV,hpq,hz,hn⟩:=hW2
 rw[hvs] at hV
 obtain⟨rfl,rfl⟩:=trodVars_none hV
 have hpb:before=p:=by simpa using hpq
 subst hpb
 have hargs:∀ sp:Nat->Bool,(∀ x∈before,sp x.block=true)->DataW.TrodAll enc P W' 0 sp true f.params.toList args.toList (s.fn H (ds++[])).args before:=fun sp hs=>by
  rw[JY,ha]
  exact Qd0 hl hb hts hA hlt hs
 have hres':∀ (b:Nat) (sp:Nat->Bool) (hd:Bool),DataW.TrodAll enc P W' b sp hd f.resultTypes.toList ((Value.bool true).resultList f.resultTypes.size) (s.fn H (ds++[])).results []:=fun b sp hd=>by
  rw[JY,hr,hres]
  exact trodAll_mk1 (shut_bool hTb true)
 have hvars:∀ sp:Nat->Bool,DataW.TrodVars enc P W' sp s.vars (s.fn H (ds++[])).vars []:=fun sp=>by
  rw[JY,hv,hvs]; exact rfl
 refine⟨ds,[],before,[],before,[],hW,hres' _ _ _,hargs _ hold,hvars _,World.keptBut_mono (fun p hp=>⟨hp,?_⟩) (hb.frame (·∈before)),fun _=>?_⟩
 ·simpa using hp
 ·refine ⟨ok_one hres rfl (by simp [Value.okWide,hTb,Cell.okWide,Cell.ok]),_,_,([] ++ before) ++ [],⟨[] ++ before,[],trodAll_append (hargs _ (fun _ _=>rfl)) (hres' _ _ _),hvars _,rfl,?_,?_⟩,?_⟩
  ·intro b off hp
   have hin:MemPlace.cell b off∈before:=by simpa using hp
   rw[hb.frozen (hlt _ hin)]
   exact hz b off hin
  ·intro ha
   simpa using hn ha
  ·intro p hp _
   simpa using hp
def su8(l:List UInt8):List (List PV):=l.map fun b=>[.lit (.int .u8 b.toNat)]
theorem QB0{W:World}{a:Addr}(h:W.cell? a=some v):a.block<W.heap.size:=by
 by_cases hb:a.block<W.heap.size
 ·exact hb
 ·have:W.heap[a.block]? = none:=by simp; omega
  simp[World.cell?,this] at h
theorem QAr (ht:P.underlying t = some (.slice e)) (he:P.underlying e = some (.int .u8)) (hc:P.cellsOf e = 1) (hval:Value.okWide P W r b0 t v) (h:DataW.Trod enc P W 0 (fun _=>true) true t v d ps):
 ∃ l:List UInt8,RelD W β0 [] (.pv (.sl (su8 l))) v/\l.length<=maxLen:=by
 obtain⟨a0,len,cap,rfl⟩:=okWide_slice ht hval
 obtain⟨fuel,hf⟩:=h
 rcases open_ints ht he hc hf with⟨h1,_⟩ | ⟨a,len',cap',zs,h1,_,hl,hm,hz,_,hcell,hwf⟩
 ·simp [Value.cells] at h1
  obtain⟨rfl,rfl,rfl⟩:=h1
  exact⟨[],.pv _ _ (.sl [] none 0 1 (fun _ _=>undef) (Jw _) (JL _) (by simp) (by simp) (by simp) (by simp)),by simp⟩
 ·simp [Value.cells] at h1
  obtain⟨rfl,rfl,rfl⟩:=h1
  simp only[if_true] at hz
  have hsp:a.spot=none:=by
   simp[Value.okWide,ht,Cell.okWide,Cell.ok,World.has] at hval
   exact hval.2.2.2.1
  have hwf':∀ i,i<zs.length->0<=zs.getD i 0/\zs.getD i 0<=255:=fun i hi=>by
   have:=hwf _ (List.getElem_mem hi)
   have this:0<=zs[i]/\zs[i]<=255:=by
    simp only[Lit.wf,Jb,decide_eq_true_eq] at this
    exact this
   rw[Ji,Jd hi,J3]
   exact this
  let l:List UInt8:=(zs.take len).map fun n=>UInt8.ofNat n.toNat
  have hll:l.length=len:=by simp[l,hz]; omega
  have hgl:∀ i,i<len->(su8 l)[i]?=some [.lit (.int .u8 (zs.getD i 0))]:=fun i hi=>by
   have hi':i<zs.length:=by omega
   have:=hwf' i hi'
   rw[Ji,Jd hi',J3] at this |-
   simp only[su8,l,List.map_map,Jg,JQ,hi,if_true,Jd hi',JF,Function.comp]
   have e:((UInt8.ofNat (zs[i].toNat)).toNat:Int)=zs[i]:=by
    rw[UInt8.toNat_ofNat']; omega
   rw[e]
  have hsl:(su8 l).length=len:=by simp[su8,hll]
  have hat:∀ i,i < len->∃ ad,some a = some ad/\ad.block < W.heap.size/\¬ img β0 [] ad.block/\W.cell? (at_ ad (i * 1 + 0)) = some (.int .u8 (zs.getD i 0)):=fun i hi=>by
   have h:=hcell i (by omega)
   have hs:=World.cell?_spot h
   refine⟨a,rfl,?_,?_,?_⟩
   ·have:=QB0 h
    obtain⟨b,off,sp⟩:=a
    simp only at hsp
    subst hsp
    rw[add_plain] at this
    exact this
   ·rintro (h | ⟨_,_,h,_⟩)
    ·exact h
    ·simp at h
   ·have e:at_ a (i * 1 + 0) = a.add i:=by
     obtain⟨b,off,sp⟩:=a
     simp only at hsp
     subst hsp
     rw[add_plain]
     simp[at_]
    rw[e]; exact h
  refine⟨l,.pv _ _ ?_,by omega⟩
  have key:RelP W (img β0 []) (.sl (su8 l)) (.slice (some a) (su8 l).length cap):=by
   refine .sl (su8 l) (some a) cap 1 (fun i _=>.int .u8 (zs.getD i 0)) (by omega) hm (fun i c hi=>?_) (fun ad had _=>?_) (fun i j c d hi hj=>?_) (fun i j c d hi hj=>?_)
   ·have hlt:i < len:=by rw [<- hsl]; exact (Jc.1 hi).1
    rw[hgl i hlt] at hi; cases hi; rfl
   ·cases had
    exact hsp
   ·have hlt:i < len:=by rw [<- hsl]; exact (Jc.1 hi).1
    rw[hgl i hlt] at hi; cases hi
    cases j with
    | zero=>exact hat i hlt
    | succ j=>simp at hj
   ·have hlt:i < len:=by rw [<- hsl]; exact (Jc.1 hi).1
    rw[hgl i hlt] at hi; cases hi
    cases j with
    | zero=>simp at hj; subst hj; exact .lit _ rfl
    | succ j=>simp at hj
  rw[hsl] at key
  exact key
end
structure RelOf(W:World) where
 d:DV
 v:Value
 h:RelD W β0 [] d v
def Qrk(l:List (RelOf W)):RelL W β0 [] (l.map (·.d)) (l.map (·.v)).toArray:=by
 refine⟨by simp,fun i d hi=>?_⟩
 rw[Jg] at hi
 cases h:l[i]? with
 | none=>simp[h] at hi
 | some r=>simp[h] at hi; subst hi; simpa [Jv,h] using r.h
end Go.V
namespace Go.V
def CellV(P:Program)(u:TypeId)(d:DV):Prop:=
 (∃ k n,P.underlying u=some (.int k)/\d=.int k n/\(Lit.int k n).wf=true)\/(P.underlying u=some .bool/\∃ b,d=.bool b)\/(P.underlying u=some .string/\∃ s,d=.pv (.str s))
def CellV.int(h:CellV P u d)(hu:P.underlying u=some (.int k)):∃ n,d=.int k n/\(Lit.int k n).wf=true:=by
 rcases h with⟨k',n,h1,h2,h3⟩ | ⟨h1,_⟩ | ⟨h1,_⟩
 ·rw[hu] at h1; cases h1; exact⟨n,h2,h3⟩
 ·rw[hu] at h1; cases h1
 ·rw[hu] at h1; cases h1
def CellV.bool(h:CellV P u d)(hu:P.underlying u=some .bool):∃ b,d=.bool b:=by
 rcases h with⟨k',n,h1,h2,h3⟩ | ⟨h1,h2⟩ | ⟨h1,_⟩
 ·rw[hu] at h1; cases h1
 ·exact h2
 ·rw[hu] at h1; cases h1
def CellV.str(h:CellV P u d)(hu:P.underlying u=some .string):∃ s,d=.pv (.str s):=by
 rcases h with⟨k',n,h1,h2,h3⟩ | ⟨h1,_⟩ | ⟨h1,h2⟩
 ·rw[hu] at h1; cases h1
 ·rw[hu] at h1; cases h1
 ·exact h2
end Go.V
namespace Go.V
open Go.ChangeShapes Go.WideShapes Go.Deep
inductive PS | int (k:IntKind) | bool | str
inductive CK | pl (s:PS) | rows (r:List PS)
def Qmh {α:Type} (P:Program) (f:TypeId->Option (List α)):List Field->Nat->Option (List α)
 | [],_=>some []
 | g :: r,off=>match f g.type with
   | some x=>if g.offset=off/\P.cellsOf g.type=x.length then (Qmh P f r (off+x.length)).map (x++·) else none
   | none=>none
def QwU (P:Program):Nat->TypeId->Option (List PS)
 | 0,_=>none
 | n + 1,t=>match P.underlying t with
   | some (.int k)=>some [.int k]
   | some .bool=>some [.bool]
   | some .string=>some [.str]
   | some (.struct fs)=>match Qmh P (QwU P n) fs.toList 0 with
     | some x=>if P.cellsOf t=x.length then some x else none
     | none=>none
   | _=>none
def Qo3 (P:Program):Nat->TypeId->Option (List CK)
 | 0,_=>none
 | n + 1,t=>match P.underlying t with
   | some (.int k)=>some [.pl (.int k)]
   | some .bool=>some [.pl .bool]
   | some .string=>some [.pl .str]
   | some (.slice e)=>match QwU P n e with
     | some r=>if P.cellsOf e=r.length/\0<r.length then some [.rows r] else none
     | none=>none
   | some (.struct fs)=>match Qmh P (Qo3 P n) fs.toList 0 with
     | some x=>if P.cellsOf t=x.length then some x else none
     | none=>none
   | _=>none
section
variable {H:Type} {enc:TypeId×Value->H} {P:Program} {W:World} {spare:Nat->Bool} {held:Bool}
end
end Go.V
namespace Go.V
def Qdx(σ:Nat->Nat)(B:Blk):Blk:={ B with cells:=B.cells.map (DV.ren σ) }
def Qr9(hp:Qa)(sel:List Nat):Option Qa:=Qh (sel.map fun k=>(hp[k]?).map (Qdx fun j=>sel.idxOf j))
def Qnf(hp:Qa)(sel:List Nat):Bool:=sel.all fun k=>match hp[k]? with | some B=>!B.live||DV.nums.go sel.contains B.cells | none=>false
def back(sel:List Nat)(n:Nat)(i:Nat):Nat:=if i<sel.length then sel.getD i 0 else n+(i-sel.length)
def QQ(hp:Qa)(sel:List Nat)(h':Qa):Qa:=
 ((Jk hp.length).map fun k=>if sel.contains k then Qdx (back sel hp.length) (h'.getD (sel.idxOf k) default) else hp.getD k default)++(h'.drop sel.length).map (Qdx (back sel hp.length))
mutual
def Qei:∀ (d:DV),d.nums (fun _=>true)=true
 | .pv _=>rfl
 | .ptr _ _=>rfl
 | .own _ _ _ _=>rfl
 | .ownc _ _ _ _ _=>rfl
 | .ip _=>rfl
 | .any=>rfl
 | .agg cs=>QbH cs
 | .tup cs=>QbH cs
 | .fn f a b=>by simp only[DV.nums]; rw[QbH a,QbH b]; rfl
 | .opt c d=>Qei d
def QbH:∀ (ds:List DV),DV.nums.go (fun _=>true) ds=true
 | []=>rfl
 | d::r=>by simp only[DV.nums.go]; rw[Qei d,QbH r]; rfl
end
def Qrh{d:DV}(h:d.one=true):(d.ren σ).one=true:=by
 cases d<;>first | rfl | exact h
def Qia(hp:Qa)(sel:List Nat)(h':Qa):(QQ hp sel h').length=hp.length+(h'.length-sel.length):=by simp[QQ]
def Qpa(h:(QQ hp sel h')[k]?=some B):
 (k<hp.length/\¬ k∈sel/\hp[k]?=some B)\/(k<hp.length/\k∈sel/\B=Qdx (back sel hp.length) (h'.getD (sel.idxOf k) default)) \/
 (hp.length<=k/\∃ D,h'[sel.length+(k-hp.length)]?=some D/\B=Qdx (back sel hp.length) D):=by
 unfold QQ at h
 by_cases hk:k<hp.length
 ·rw [Jz (by simpa using hk),Jg,J0 hk] at h
  simp only[JF,Jn.injEq] at h
  by_cases hm:k∈sel
  ·rw [if_pos (by simpa using hm)] at h
   exact .inr (.inl ⟨hk,hm,h.symm⟩)
  ·rw [if_neg (by simpa using hm)] at h
   refine .inl ⟨hk,hm,?_⟩
   rw[<- h,Ji,Jd hk]; rfl
 ·rw [JE (by simpa using JV hk),Jg,List.getElem?_drop] at h
  simp only[JO,List.length_range] at h
  obtain⟨D,h1,h2⟩:=Qw h
  exact .inr (.inr ⟨JV hk,D,h1,h2.symm⟩)
def VCalls.frame(sel:List Nat)(hnd:sel.Nodup)(hl:Qr9 hp sel=some h0)(hok:Qnf hp sel=true)(c:VCalls P g args0 h0 R)(ha0:args0=args.map (DV.ren fun j=>sel.idxOf j))(ha:DV.nums.go sel.contains args=true):
 VCalls P g args hp fun r h2=>∃ r0 h',R r0 h'/\sel.length<=h'.length/\r=r0.ren (back sel hp.length)/\h2=QQ hp sel h':=by
 refine⟨fun w β vs hh hr=>?_⟩
 obtain⟨l1,l2⟩:=QD hl
 have hlen:h0.length=sel.length:=by rw[l1,JO]
 have hget:∀ {i:Nat} {B0:Blk},h0[i]?=some B0->∃ k B,sel[i]?=some k/\hp[k]?=some B/\B0=Qdx (fun j=>sel.idxOf j) B/\(B.live=true->DV.nums.go sel.contains B.cells=true):=by
  intro i B0 hi
  have h1:=l2 i B0 hi
  rw[Jg] at h1
  obtain⟨k,h2,h3⟩:=Qw h1
  obtain⟨B,h4,h5⟩:=Qw h3
  refine⟨k,B,h2,h4,h5.symm,fun hlv=>?_⟩
  have:=Je.1 hok k (JJ h2)
  rw[h4] at this
  simpa [hlv] using this
 have hsel:∀ k,k∈sel->∃ i,sel[i]?=some k/\i=sel.idxOf k/\i<sel.length:=fun k hk=>by
  have hlt:=JN hk
  exact⟨sel.idxOf k,by rw[Jd hlt]; simp,rfl,hlt⟩
 have hidx:∀ {i k:Nat},sel[i]?=some k->sel.idxOf k=i:=fun {i k} hi=>by
  obtain⟨hlt,e⟩:=Jc.1 hi
  rw[<- e]; exact hnd.idxOf_getElem i hlt
 let βc:Map:=⟨fun i=>(sel[i]?).bind β.f,fun b=>β.X b\/∃ k B,hp[k]?=some B/\B.live=true/\β.f k=some b/\¬ k∈sel⟩
 have livec:∀ b,live βc h0 b->live β hp b:=by
  rintro b ⟨i,B0,h1,h2,h3⟩
  obtain⟨k,B,k1,k2,k3,_⟩:=hget h1
  refine⟨k,B,k2,by rw[k3] at h2; exact h2,?_⟩
  simpa [βc,k1] using h3
 have himc:∀ b,img βc h0 b->img β hp b:=by
  rintro b ((h | ⟨k,B,h1,h2,h3,_⟩) | h)
  ·exact .inl h
  ·exact .inr ⟨k,B,h1,h2,h3⟩
  ·exact .inr (livec b h)
 have hσ:∀ k,sel.contains k=true->k<hp.length->sel.idxOf k<h0.length/\βc.f (sel.idxOf k)=β.f k:=fun k hk _=>by
  obtain⟨i,h1,h2,h3⟩:=hsel k (by simpa using hk)
  subst h2
  exact⟨by rw[hlen]; exact h3,by simp[βc,h1]⟩
 have hhc:HeapRel w βc h0:=by
  refine⟨fun i B0 b h1 h2 h3=>?_,fun i B0 h1 h2 h3=>?_,fun i j B0 B1 b h1 h2 h3 h4 h5 h6=>?_,fun i B0 b h1 h2 h3=>?_,fun b hb=>?_⟩
  ·obtain ⟨k,B,k1,k2,k3,k4⟩:=hget h1
   subst k3
   obtain⟨C,c1,c2,c3⟩:=hh.blk k B b k2 h2 (by simpa [βc,k1] using h3)
   refine⟨C,c1,by simpa [Qdx] using c2,fun j d hd=>?_⟩
   simp only[Qdx,Jg] at hd
   obtain⟨x,x1,x2⟩:=Qw hd
   subst x2
   obtain⟨o1,o2⟩:=c3 j x x1
   exact⟨Qrh o1,RelD.ren hσ himc o2 (DV.nums_go (k4 h2) j x x1)⟩
  ·obtain ⟨k,B,k1,k2,k3,k4⟩:=hget h1
   subst k3
   have:=hh.none k B k2 h2 (by simpa [βc,k1] using h3)
   simp[Qdx,this]
  ·obtain ⟨k,B,k1,k2,k3,k4⟩:=hget h1
   obtain⟨k',B',k1',k2',k3',k4'⟩:=hget h2
   subst k3 k3'
   have:=hh.inj k k' B B' b k2 k2' h3 h4 (by simpa [βc,k1] using h5) (by simpa [βc,k1'] using h6)
   subst this
   rw[<- hidx k1,<- hidx k1']
  ·obtain ⟨k,B,k1,k2,k3,k4⟩:=hget h1
   subst k3
   have hb:β.f k=some b:=by simpa [βc,k1] using h3
   rintro(hX | ⟨k',B',h1',h2',h3',h4'⟩)
   ·exact hh.avoid k B b k2 h2 hb hX
   ·have:=hh.inj k' k B' B b h1' k2 h2' h2 h3' hb
    subst this
    exact h4' (JJ k1)
  ·rcases hb with hb | ⟨k,B,h1,h2,h3,_⟩
   ·exact hh.bound b hb
   ·exact QbZ hh ⟨k,B,h1,h2,h3⟩
 have hargs:RelL w βc h0 args0 vs:=by
  refine⟨by rw[ha0,JO]; exact hr.1,fun i d hd=>?_⟩
  rw[ha0,Jg] at hd
  obtain⟨x,x1,x2⟩:=Qw hd
  subst x2
  exact RelD.ren hσ himc (hr.2 i x x1) (DV.nums_go ha i x x1)
 refine(c.run w βc vs hhc hargs).mono ?_
 rintro e w' ⟨v,r,h',β',rfl,ev,hh',hrel,hR⟩
 have hm:sel.length<=h'.length:=by rw[<- hlen]; exact ev.len
 let β2:Map:=⟨fun k=>if k<hp.length then β.f k else β'.f (sel.length+(k-hp.length)),β.X⟩
 have hf':∀ {i k:Nat},sel[i]?=some k->β'.f i=β.f k:=fun {i k} hi=>by
  have hlt:i<sel.length:=(Jc.1 hi).1
  rw[ev.beta i (by rw[hlen]; exact hlt)]
  simp[βc,hi]
 have hk':∀ {k:Nat},k∈sel->k<hp.length:=fun {k} hk=>by
  have:=Je.1 hok k hk
  cases h:hp[k]? with
  | none=>rw[h] at this; simp at this
  | some B=>exact(Jc.1 h).1
 -- what block k of the caller's is,QQ the call
 have cases3:∀ {k:Nat} {B:Blk},(QQ hp sel h')[k]?=some B->(¬ k∈sel/\hp[k]?=some B/\β2.f k=β.f k)\/(∃ i D,h'[i]?=some D/\B=Qdx (back sel hp.length) D/\β2.f k=β'.f i/\back sel hp.length i=k):=by
  intro k B hB
  rcases Qpa hB with⟨h1,h2,h3⟩ | ⟨h1,h2,h3⟩ | ⟨h1,D,h2,h3⟩
  ·exact .inl ⟨h2,h3,by simp[β2,h1]⟩
  ·obtain ⟨i,i1,i2,i3⟩:=hsel k h2
   have hlt:i<h'.length:=Jp i3 hm
   refine .inr ⟨i,h'[i],Jd hlt,?_,?_,?_⟩
   ·rw[h3,<- i2,Ji,Jd hlt]; rfl
   ·simp only[β2,h1,if_true]; exact(hf' i1).symm
   ·simp only [back,i3,if_true]
    rw[Ji,i1]; rfl
  ·refine .inr ⟨sel.length + (k - hp.length),D,h2,h3,?_,?_⟩
   ·simp only[β2]; rw[if_neg (by omega)]
   ·simp only[back]; rw[if_neg (by omega)]; omega
 have livelift:∀ b,live β2 (QQ hp sel h') b->(∃ k B,hp[k]?=some B/\B.live=true/\β.f k=some b/\¬ k∈sel)\/live β' h' b:=by
  rintro b ⟨k,B,h1,h2,h3⟩
  rcases cases3 h1 with⟨a1,a2,a3⟩ | ⟨i,D,a1,a2,a3,_⟩
  ·exact .inl ⟨k,B,a2,h2,by rw[<- a3]; exact h3,a1⟩
  ·exact .inr ⟨i,D,a1,by rw[a2] at h2; exact h2,by rw[<- a3]; exact h3⟩
 have himb:∀ b,img β2 (QQ hp sel h') b->img β' h' b:=by
  rintro b (h | h)
  ·exact .inl (by rw[ev.X]; exact .inl h)
  ·rcases livelift b h with h | h
   ·exact .inl (by rw[ev.X]; exact .inr h)
   ·exact .inr h
 have hτ:∀ k,(fun _=>true:Nat->Bool) k=true->k<h'.length->back sel hp.length k<(QQ hp sel h').length/\β2.f (back sel hp.length k)=β'.f k:=fun i _ hi=>by
  rw[Qia]
  by_cases hlt:i<sel.length
  ·have hs:sel[i]? = some sel[i]:=Jd hlt
   have e:back sel hp.length i=sel[i]:=by simp only[back,hlt,if_true]; rw[Ji,hs]; rfl
   have hk:=hk' (JJ hs)
   rw[e]
   exact⟨by omega,by simp only[β2,hk,if_true]; exact(hf' hs).symm⟩
  ·have e:back sel hp.length i = hp.length + (i - sel.length):=by simp only [back]; rw [if_neg hlt]
   rw[e]
   refine⟨by omega,?_⟩
   simp only[β2]
   rw[if_neg (by omega),show sel.length+(hp.length+(i-sel.length)-hp.length)=i by omega]
 have evo:Evo w β hp w' β2 (QQ hp sel h'):=by
  refine⟨ev.os,ev.tape,ev.output,ev.size,by rw[Qia]; omega,fun k hk=>by simp[β2,hk],fun b hb hn=>ev.same b hb (fun h=>hn (livec b h)),ev.shape,fun b hb h=>?_,rfl⟩
  rcases livelift b h with⟨k,B,h1,h2,h3,_⟩ | h
  ·exact⟨k,B,h1,h2,h3⟩
  ·exact livec b (ev.im b hb h)
 refine⟨v,r.ren (back sel hp.length),QQ hp sel h',β2,rfl,evo,?_,RelD.ren hτ himb hrel (Qei r),r,h',hR,hm,rfl,rfl⟩
 have outer:∀ {k:Nat} {B:Blk} {b:Nat},hp[k]?=some B->B.live=true->β.f k=some b->¬ k∈sel->β'.X b:=fun {k B b} h1 h2 h3 h4=>by
  rw[ev.X]; exact .inr ⟨k,B,h1,h2,h3,h4⟩
 refine⟨fun k B b h1 h2 h3=>?_,fun k B h1 h2 h3=>?_,fun j k B B' b h1 h2 h3 h4 h5 h6=>?_,fun k B b h1 h2 h3=>?_,fun b hb=>Jp (hh.bound b hb) ev.size⟩
 ·rcases cases3 h1 with ⟨a1,a2,a3⟩ | ⟨i,D,a1,a2,a3,_⟩
  ·rw [a3] at h3
   obtain⟨C,g1,g2,g3⟩:=hh.blk k B b a2 h2 h3
   have hb:=(Ja.1 g1).1
   have hsame:w'.heap[b]?=w.heap[b]?:=ev.same b hb fun hlv=>by
    obtain⟨i,B0,e1,e2,e3⟩:=hlv
    exact hhc.avoid i B0 b e1 e2 e3 (.inr ⟨k,B,a2,h2,h3,a1⟩)
   exact⟨C,by rw[hsame]; exact g1,g2,fun i d hd=>⟨(g3 i d hd).1,(g3 i d hd).2.mono evo⟩⟩
  ·subst a2
   obtain⟨C,g1,g2,g3⟩:=hh'.blk i D b a1 h2 (by rw[<- a3]; exact h3)
   refine⟨C,g1,by simpa [Qdx] using g2,fun j d hd=>?_⟩
   simp only[Qdx,Jg] at hd
   obtain⟨x,x1,x2⟩:=Qw hd
   subst x2
   exact⟨Qrh (g3 j x x1).1,RelD.ren hτ himb (g3 j x x1).2 (Qei x)⟩
 ·rcases cases3 h1 with ⟨a1,a2,a3⟩ | ⟨i,D,a1,a2,a3,_⟩
  ·exact hh.none k B a2 h2 (by rw[<- a3]; exact h3)
  ·subst a2
   have:=hh'.none i D a1 h2 (by rw[<- a3]; exact h3)
   simp[Qdx,this]
 ·rcases cases3 h1 with ⟨a1,a2,a3⟩ | ⟨i,D,a1,a2,a3,a4⟩<;>rcases cases3 h2 with ⟨b1,b2,b3⟩ | ⟨i',D',b1,b2,b3,b4⟩
  ·exact hh.inj j k B B' b a2 b2 h3 h4 (by rw[<- a3]; exact h5) (by rw[<- b3]; exact h6)
  ·exact absurd (outer a2 h3 (by rw[<- a3]; exact h5) a1) (hh'.avoid i' D' b b1 (by rw[b2] at h4; exact h4) (by rw[<- b3]; exact h6))
  ·exact absurd (outer b2 h4 (by rw[<- b3]; exact h6) b1) (hh'.avoid i D b a1 (by rw[a2] at h3; exact h3) (by rw[<- a3]; exact h5))
  ·have:=hh'.inj i i' D D' b a1 b1 (by rw [a2] at h3; exact h3) (by rw [b2] at h4; exact h4) (by rw [<- a3]; exact h5) (by rw [<- b3]; exact h6)
   subst this
   rw[<- a4,<- b4]
 ·rcases cases3 h1 with ⟨a1,a2,a3⟩ | ⟨i,D,a1,a2,a3,_⟩
  ·exact hh.avoid k B b a2 h2 (by rw[<- a3]; exact h3)
  ·intro hX
   exact hh'.avoid i D b a1 (by rw[a2] at h2; exact h2) (by rw[<- a3]; exact h3) (by rw[ev.X]; exact .inl hX)
def Qo9(hk:k<hp.length)(B:Blk)(r:Qa):QQ hp [k] (B::r)=hp.set k (Qdx (back [k] hp.length) B)++r.map (Qdx (back [k] hp.length)):=by
 unfold QQ
 congr 1
 apply JS
 intro j
 rw[Jg,List.getElem?_set]
 by_cases hj:j<hp.length
 ·rw [J0 hj,JF]
  by_cases e:k=j
  ·subst e; simp[hj]
  ·rw[if_neg e,if_neg (by simpa using fun h=>e h.symm),Ji,Jd hj]; rfl
 ·rw [Jt (by simpa using JV hj)]
  rw[if_neg (by omega),Jt (by omega)]; rfl
end Go.V
namespace Go.V
def Qbs (hev:∀ x ∈ o.operands.toList,ev' x = ev x):vop P ev' hp o = vop P ev hp o:=by
 by_cases hk:Q8 o=true
 ·exact QfZ hk hev
 ·cases o with
  | alloc T=>rfl
  | box T x=>simp[Op.operands] at hev; simp[vop,hev]
  | makeSlice T l c=>simp[Op.operands] at hev; simp[vop,hev]
  | buildSlice T n ps =>
    have mp:parts ev' ps=parts ev ps:=by
     unfold parts
     exact JC fun p hp=>by rw[hev p.2 (by simp[Op.operands]; exact⟨p.1,by simpa using hp⟩)]
    simp[vop,mp]
  | call c =>
    have h1:c.args.toList.map ev'=c.args.toList.map ev:=JC fun x hx=>hev x (by simp[Op.operands,Call.operands]; right; simpa using hx)
    simp only[vop,h1]
  | _=>first
    | (exact absurd rfl hk)
    | rfl
def St.only(S:St)(ts:List Nat):St:=⟨S.nt,S.hp.length,ts.map fun t=>(t,look S.tm t),S.hp⟩
def QiU {f:Nat->DV} {t:Nat}:∀ {ts:List Nat},look (ts.map fun t=>(t,f t)) t = if t ∈ ts then f t else .any
 | []=>rfl
 | a :: r=>by
   simp only[Js,look]
   by_cases h:a=t
   ·subst h; simp
   ·rw [if_neg h,QiU]
    by_cases hr:t∈r
    ·rw[if_pos hr,if_pos (Jf _ hr)]
    ·rw[if_neg hr,if_neg (by simp[hr]; exact fun e=>h e.symm)]
def Qed(S:St)(ts:List Nat)(t:Nat)(h:t∈ts):look (S.only ts).tm t=look S.tm t:=by
 show look (ts.map _) t=_
 rw[QiU,if_pos h]
def QpB(ht:∀ t∈o.looksAt ops,look S'.tm t=look S.tm t)(hn:S'.nt=S.nt)(hh:S'.hp=S.hp)(h:QaL P ops.toList [o] K S):
 QaL P ops.toList [o] (fun S1=>∃ d hp',S1=(S'.at hp').put o.dst d/\K ((S.at hp').put o.dst d)) S':=by
 unfold QaL at h |-
 obtain⟨hf,h⟩:=h
 refine⟨by unfold St.fits at hf |-; rw[hn]; exact hf,?_⟩
 rw[Qbb (S:=S) ht]
 split at h
 ·exact h.elim
 ·simp only [QaL] at h |-
  refine⟨.tup [],S.hp,?_,h⟩
  rw[<- hh]; rfl
 ·have hev:∀ x ∈ o.op.operands.toList,Qo true (S'.ev x) = Qo true (S.ev x):=fun x hx=>by rw [Qhm ht x hx]
  rw[QgO hev,Qbs hev,hh]
  split at h
  ·rename_i g args hc
   simp only[QaL] at h |-
   exact h.mono fun r h' hk=>⟨_,h',rfl,hk⟩
  ·split at h
   ·rename_i d hp' hv
    simp only[QaL] at h |-
    exact⟨_,_,rfl,h⟩
   ·exact h.elim
def Qle(hs:Sim O β S a w)(h:QaL P ops.toList [o] K S)(hn:∀ β' d v hp' w',Evo w β S.hp w' β' hp'->HeapRel w' β' hp'->RelD w' β' hp' d v->S.fits o.dst=true->K ((S.at hp').put o.dst d)->next (a.put o.dst v) w'):
 if Region.wanted o (yielded ops a.tmps) then o.wp P a w next Q\/(o.asks P a w/\LetsOut Q) else next (a.put o.dst undef) w:=by
 unfold QaL at h
 obtain⟨hf,h⟩:=h
 split at h
 ·exact h.elim
 ·rename_i hg
  rw[QO (ops:=ops) hs hg,if_neg (by simp)]
  exact hn β (.tup []) undef S.hp w (Evo.refl _ _ _) hs.heap (.tup [] #[] rfl (by simp)) hf (by simp only[QaL] at h; exact h)
 ·rename_i hg
  rw[QO (ops:=ops) hs hg,if_pos rfl]
  have hev:∀ x,RelD w β S.hp (Qo true (S.ev x)) (a.eval x):=fun x=>Qaq (hs.ev x) rfl
  split at h
  ·rename_i g args hc
   refine .inl (QgP hev hc hs.heap h (fun v r h' β' w' k1 k2 k3 k4=>?_))
   exact hn β' _ v h' w' k1 k2 (Qb8 k3) hf (by simpa only[QaL] using k4)
  ·split at h
   ·rename_i d hp' hv
    refine .inl (QbO (QaN hs.heap hev (fun _=>rfl) hv) (fun v w' β' k1 k2 k3=>?_))
    exact hn β' _ v hp' w' k1 k2 (Qb8 k3) hf (by simpa only[QaL] using h)
   ·exact h.elim
def Qem(o:Oper):Bool:=o.guard.isNone&&match o.op with | .alloc _ | .box .. | .buildSlice ..=>true | _=>false
def QtR(P:Program)(ev:Operand->DV)(o:Op):Option (DV×Blk):=
 match vop P ev [] o with
 | some (.ptr 0 0,[B])=>some (.ptr 0 0,B)
 | some (.own 0 sz 0 n,[B])=>some (.own 0 sz 0 n,B)
 | _=>none
def Qff(P:Program)(ev:Operand->DV)(o:Op):Prop:=
 match QtR P ev o with
 | some (_,B)=>B.live=true/\0<B.cells.length/\DV.nums.go (fun _=>false) B.cells=true/\DV.nums.go (fun _=>false) (o.operands.toList.map ev)=true
 | none=>False
def QoR(hc:Qem o=true)(h:QtR P ev o.op=some (d,B))(hp:Qa):vop P ev hp o.op=some (d.ren (fun _=>hp.length),hp++[B]):=by
 have key:∀ {x:Option (DV×Qa)},(match x with | some (.ptr 0 0,[B])=>some (.ptr 0 0,B) | some (.own 0 sz 0 n,[B])=>some (.own 0 sz 0 n,B) | _=>(none:Option (DV×Blk)))=some (d,B)->x=some (d,[B]):=by
  intro x hx
  split at hx
  ·simp at hx; obtain⟨rfl,rfl⟩:=hx; rfl
  ·simp at hx; obtain⟨rfl,rfl⟩:=hx; rfl
  ·simp at hx
 have h:=key h
 unfold Qem at hc
 simp only[Jb] at hc
 have hc:=hc.2
 split at hc
 ·rename_i T ho
  rw[ho] at h |-
  simp only[vop,Qf5] at h |-
  split at h
  ·split at h
   ·rename_i h1; simp at h; obtain⟨rfl,rfl⟩:=h; simp[DV.ren,h1]
   ·simp at h
  ·simp at h
 ·rename_i T x ho
  rw[ho] at h |-
  simp only[vop,QAI] at h |-
  split at h
  ·rename_i h1; simp at h; obtain⟨rfl,rfl⟩:=h; simp[DV.ren,h1]
  ·simp at h
 ·rename_i T n ps ho
  rw[ho] at h |-
  simp only[vop,Qa1] at h |-
  split at h
  ·split at h
   ·split at h
    ·rename_i h1
     obtain⟨cs,h2,h3⟩:=Qw h
     simp at h3
     obtain⟨rfl,rfl⟩:=h3
     rw[if_pos h1,h2]; simp[DV.ren]
    ·simp at h
   ·simp at h
  ·simp at h
 ·simp at hc
structure Resv(w:World)(β:Map)(hp:Qa)(d:DV)(B:Blk)(v:Value)(b:Nat):Prop where
 live:B.live=true
 nums:DV.nums.go (fun _=>false) B.cells=true
 out:β.X b
 blk:∃ C:Row,w.heap[b]?=some (.cells C.v B.ty C.m)/\B.cells.length<=C.v.size/\(∀ (i:Nat) (e:DV),B.cells[i]?=some e->e.one=true/\RelD w β hp e (C.v.getD i undef)) /\
  ((d=.ptr 0 0/\v=.pointer (some ⟨b,0,none⟩))\/∃ sz n cap,d=.own 0 sz 0 n/\v=.slice (some ⟨b,0,none⟩) n cap/\n<=cap/\cap<=maxLen/\cap*sz<=C.v.size)
def Resv.evo(h:Resv w β hp d B v b)(hh:HeapRel w β hp)(e:Evo w β hp w' β' hp'):Resv w' β' hp' d B v b:=by
 obtain⟨h1,h2,h3,C,c1,c2,c3,c4⟩:=h
 refine⟨h1,h2,by rw[e.X]; exact h3,C,?_,c2,fun i x hx=>⟨(c3 i x hx).1,(c3 i x hx).2.mono e⟩,c4⟩
 have hlt:=(Ja.1 c1).1
 rw[e.same b hlt (by rintro⟨k,D,k1,k2,k3⟩; exact hh.avoid k D b k1 k2 k3 h3)]
 exact c1
def QoQ (hh:HeapRel w β hp) (hev:∀ x ∈ o.op.operands.toList,RelD w β hp (ev x) (ρ x)) (hρ:∀ v,ρ (.const v) = v) (hc:Qff P ev o.op):
 ∃ d B v w' b,QtR P ev o.op = some (d,B)/\((execOp ρ o).run P w = .ok (.value v) w'\/((execOp ρ o).run P w = .ok .skip w'/\v = undef))/\w'.os = w.os/\w'.tape = w.tape/\w'.output = w.output/\w.heap.size<=w'.heap.size/\w.heap.size<=b/\b < w'.heap.size/\(∀ x,x < w.heap.size->w'.heap[x]? = w.heap[x]?) /\
   Resv w' ⟨β.f,fun x=>β.X x\/x=b⟩ hp d B v b:=by
 unfold Qff at hc
 cases hcr:QtR P ev o.op with
 | none=>rw[hcr] at hc; exact hc.elim
 | some db =>
   obtain⟨d,B⟩:=db
   rw[hcr] at hc
   obtain⟨c1,c2,c3,c4⟩:=hc
   let βe:Map:=⟨fun _=>none,img β hp⟩
   have hhe:HeapRel w βe []:=⟨by simp,by simp,by simp,by simp,fun b hb=>by
    rcases hb with hb | hb
    ·exact hh.bound b hb
    ·exact QbZ hh hb⟩
   have hime:∀ b,img βe [] b->img β hp b:=fun b hb=>by
    rcases hb with hb | ⟨k,D,h1,_⟩
    ·exact hb
    ·simp at h1
   -- only the operands are asked
   classical
   let ev2:Operand->DV:=fun x=>if x∈o.op.operands.toList then ev x else .any
   have hev2:∀ x,RelD w βe [] (ev2 x) (ρ x):=fun x=>by
    show RelD w βe [] (if x∈o.op.operands.toList then ev x else .any) (ρ x)
    split
    ·rename_i hx
     obtain⟨i,hi⟩:=List.mem_iff_getElem?.1 hx
     exact(hev x hx).closed (DV.nums_go c4 i (ev x) (by rw[Jg,hi]; rfl)) hime
    ·exact .any _
   have hvop:vop P ev2 [] o.op=vop P ev [] o.op:=Qbs fun x hx=>by show(if _ then _ else _)=_; rw[if_pos hx]
   have hv:vop P ev [] o.op=some (d,[B])/\(d=.ptr 0 0\/∃ sz n,d=.own 0 sz 0 n):=by
    unfold QtR at hcr
    split at hcr
    ·rename_i h; simp at hcr; obtain⟨rfl,rfl⟩:=hcr; exact⟨h,.inl rfl⟩
    ·rename_i h; simp at hcr; obtain⟨rfl,rfl⟩:=hcr; exact⟨h,.inr ⟨_,_,rfl⟩⟩
    ·simp at hcr
   obtain⟨v,w',β',h1,ev',hh',hrel⟩:=QaN hhe hev2 hρ (o:=o) (hvop.trans hv.1)
   have hold:∀ x,x<w.heap.size->w'.heap[x]?=w.heap[x]?:=fun x hx=>ev'.same x hx (by rintro⟨k,D,k1,_⟩; simp at k1)
   have hf:∃ b,β'.f 0=some b:=by
    cases hb:β'.f 0 with
    | some b=>exact⟨b,rfl⟩
    | none=>have:=hh'.none 0 B rfl c1 hb; rw[this] at c2; simp at c2
   obtain⟨b,hb⟩:=hf
   obtain⟨C,g1,g2,g3⟩:=hh'.blk 0 B b rfl c1 hb
   have hlb:live β' [B] b:=⟨0,B,rfl,c1,hb⟩
   have hge:w.heap.size<=b:=by
    by_cases hlt:b<w.heap.size
    ·obtain ⟨k,D,k1,_⟩:=ev'.im b hlt hlb
     simp at k1
    ·omega
   have him:∀ x,img (⟨β.f,fun x=>β.X x\/x=b⟩:Map) hp x->img β' [B] x:=by
    rintro x ((h | h) | h)
    ·exact .inl (by rw[ev'.X]; exact .inl h)
    ·rw[h]; exact .inr hlb
    ·exact .inl (by rw[ev'.X]; exact .inr h)
   refine⟨d,B,v,w',b,rfl,h1,ev'.os,ev'.tape,ev'.output,ev'.size,hge,(Ja.1 g1).1,hold,c1,c3,.inr rfl,C,g1,g2,fun i e he=>⟨(g3 i e he).1,(g3 i e he).2.closed (DV.nums_go c3 i e he) him⟩,?_⟩
   rcases hv.2 with rfl | ⟨sz,n,rfl⟩
   ·cases hrel with
    | ptr _ _ b' _ hb'=>rw[hb] at hb'; cases hb'; exact .inl ⟨rfl,rfl⟩
   ·cases hrel with
    | own _ _ _ _ cap b' C' T' m0 hk hm l1 l2 l3 l4 =>
      rw[hb] at hm; cases hm
      rw[g1] at l3; cases l3
      exact .inr ⟨sz,n,cap,rfl,rfl,l1,l2,by simpa using l4⟩
    | own0 _ _ a _ hm _=>rw[hb] at hm; cases hm
mutual
def QiH:∀ (d:DV),d.ren (fun k=>k)=d
 | .pv _=>rfl
 | .ptr _ _=>rfl
 | .own _ _ _ _=>rfl
 | .ownc _ _ _ _ _=>rfl
 | .ip _=>rfl
 | .any=>rfl
 | .agg cs=>by simp only[DV.ren]; rw[QbF cs]
 | .tup cs=>by simp only[DV.ren]; rw[QbF cs]
 | .fn f a b=>by simp only[DV.ren]; rw[QbF a,QbF b]
 | .opt c d=>by simp only[DV.ren]; rw[QiH d]
def QbF:∀ (ds:List DV),DV.ren.go (fun k=>k) ds=ds
 | []=>rfl
 | d::r=>by simp only[DV.ren.go]; rw[QiH d,QbF r]
end
def adopt(hh:HeapRel w β hp)(r:Resv w β hp d B v b):
 HeapRel w ⟨(ext β hp.length (some b)).f,fun x=>β.X x/\x≠b⟩ (hp++[B])/\(∀ e u,RelD w β hp e u->RelD w ⟨(ext β hp.length (some b)).f,fun x=>β.X x/\x≠b⟩ (hp++[B]) e u) /\
  RelD w ⟨(ext β hp.length (some b)).f,fun x=>β.X x/\x≠b⟩ (hp++[B]) (d.ren fun _=>hp.length) v /\
  (∀ x,live ⟨(ext β hp.length (some b)).f,fun x=>β.X x/\x≠b⟩ (hp++[B]) x->live β hp x\/x=b)/\(∀ k,k<hp.length->(ext β hp.length (some b)).f k=β.f k):=by
 obtain⟨r1,r2,r3,C,c1,c2,c3,c4⟩:=r
 have hlive:∀ x,live ⟨(ext β hp.length (some b)).f,fun x=>β.X x/\x≠b⟩ (hp++[B]) x->live β hp x\/x=b:=fun x hx=>(Qek (β:=β) r1).1 hx
 have himg:∀ x,img ⟨(ext β hp.length (some b)).f,fun x=>β.X x/\x≠b⟩ (hp++[B]) x->img β hp x:=by
  rintro x (⟨h,_⟩ | h)
  ·exact .inl h
  ·rcases hlive x h with h | rfl
   ·exact .inr h
   ·exact .inl r3
 have mono:∀ e u,RelD w β hp e u->RelD w ⟨(ext β hp.length (some b)).f,fun x=>β.X x/\x≠b⟩ (hp++[B]) e u:=fun e u h=>by
  have:=RelD.ren (σ:=fun k=>k) (p:=fun _=>true) (hp':=hp++[B]) (β':=⟨(ext β hp.length (some b)).f,fun x=>β.X x/\x≠b⟩) (fun k _ hk=>⟨by simp; omega,Qbf hk⟩) himg h (Qei e)
  rwa [QiH] at this
 have lt_of:∀ {k:Nat} {D:Blk},(hp++[B])[k]?=some D->(k<hp.length/\hp[k]?=some D/\(ext β hp.length (some b)).f k=β.f k)\/(k=hp.length/\D=B/\(ext β hp.length (some b)).f k=some b):=fun {k D} h=>by
  rcases J2 k hp.length with hlt | heq | hgt
  ·rw [Jz hlt] at h
   exact .inl ⟨hlt,h,Qbf hlt⟩
  ·subst heq
   simp at h
   exact .inr ⟨rfl,h.symm,by simp[ext]⟩
  ·rw [JE (by omega),Jt (by simp; omega)] at h
   simp at h
 refine⟨⟨fun k D x hk hD hx=>?_,fun k D hk hD hx=>?_,fun j k D D' x hj hk hD hD' h1 h2=>?_,fun k D x hk hD hx=>?_,fun x hx=>hh.bound x hx.1⟩,mono,?_,hlive,fun k hk=>Qbf hk⟩
 ·rcases lt_of hk with ⟨_,hk',he⟩ | ⟨rfl,rfl,he⟩
  ·have hx':β.f k = some x:=he.symm.trans hx
   obtain⟨C',g1,g2,g3⟩:=hh.blk k D x hk' hD hx'
   exact⟨C',g1,g2,fun i e he=>⟨(g3 i e he).1,mono _ _ (g3 i e he).2⟩⟩
  ·have hx':some b = some x:=he.symm.trans hx
   cases hx'
   exact⟨C,c1,c2,fun i e he=>⟨(c3 i e he).1,mono _ _ (c3 i e he).2⟩⟩
 ·rcases lt_of hk with ⟨_,hk',he⟩ | ⟨rfl,rfl,he⟩
  ·exact hh.none k D hk' hD (he.symm.trans hx)
  ·have hx':some b = none:=he.symm.trans hx
   cases hx'
 ·rcases lt_of hj with ⟨_,hj',hje⟩ | ⟨rfl,rfl,hje⟩<;>rcases lt_of hk with ⟨_,hk',hke⟩ | ⟨rfl,rfl,hke⟩
  ·exact hh.inj j k D D' x hj' hk' hD hD' (hje.symm.trans h1) (hke.symm.trans h2)
  ·have h2':some b = some x:=hke.symm.trans h2
   cases h2'
   exact absurd r3 (hh.avoid j D b hj' hD (hje.symm.trans h1))
  ·have h1':some b = some x:=hje.symm.trans h1
   cases h1'
   exact absurd r3 (hh.avoid k D' b hk' hD' (hke.symm.trans h2))
  ·rfl
 ·rcases lt_of hk with ⟨_,hk',he⟩ | ⟨rfl,rfl,he⟩
  ·rintro ⟨hX,_⟩
   exact hh.avoid k D x hk' hD (he.symm.trans hx) hX
  ·have hx':some b = some x:=he.symm.trans hx
   cases hx'
   rintro⟨_,hne⟩
   exact hne rfl
 ·have hfn:(ext β hp.length (some b)).f hp.length = some b:=by simp [ext]
  rcases c4 with⟨rfl,rfl⟩ | ⟨sz,n,cap,rfl,rfl,l1,l2,l3⟩
  ·exact .ptr _ 0 b (by simp) hfn
  ·exact .own _ sz 0 n cap b C.v B.ty _ (by simp) hfn l1 l2 c1 (by simpa using l3)
end Go.V
namespace Go.V
structure Seg where
 R:List Nat
 C:List Nat
 c:Nat
 F:List Nat
 H:List Nat
def pick(all:List Oper):List Nat->List Oper
 | []=>[]
 | i::r=>match all[i]? with | some o=>o::pick all r | none=>pick all r
def Qge(hp hp1:Qa):List Nat->Prop
 | []=>True
 | k::r=>hp1[k]?=hp[k]?/\Qge hp hp1 r
def QnC(S S1:St)(o:Oper)(G:Option Bool):Prop:=
 match G with
 | some G=>Qge S.hp S1.hp (QbW (fun x=>Qo G (S1.ev x)) o.op).1
 | none=>True
def Qhq(all:List Oper)(S S1:St):List Oper->Prop
 | []=>True
 | o::r=>QnC S S1 o (QF all S1 o)/\Qhq all S S1 r
def Qcx(P:Program)(S:St):List Oper->Prop
 | []=>True
 | o::r=>(S.fits o.dst=true/\Qff P (fun x=>Qo true (S.ev x)) o.op)/\Qcx P S r
def vsp(P:Program)(all:List Oper):List Seg->(St->Prop)->St->Prop
 | [],K,S=>K S
 | s::r,K,S=>Qcx P S (pick all s.R)/\QaL P all (pick all (s.C++[s.c])) (fun S1=>Qhq all S S1 (pick all s.F)/\QaL P all (pick all s.H) (vsp P all r K) S1) S
def bnd(ops:Array Oper)(j i:Nat):Bool:=match ops[j]? with | some o=>o.after.toList.any fun e=>Region.binds .any e&&e.on==i | none=>false
def dstOf(ops:Array Oper)(i:Nat):Option Nat:=match ops[i]? with | some o=>o.dst | none=>none
def Qhi(ops:Array Oper)(i t:Nat):Bool:=match ops[i]? with | some o=>(o.looksAt ops).contains t | none=>false
def QjH(ops:Array Oper)(i t:Nat):Bool:=Qhi ops i t||dstOf ops i==some t
def QeU(o:Oper):Bool:=Q8 o.op&&match o.op with | .store .. | .assign _=>false | _=>true
def isF(ops:Array Oper)(i:Nat):Bool:=match ops[i]? with | some o=>QeU o | none=>false
def isC(ops:Array Oper)(i:Nat):Bool:=match ops[i]? with | some o=>Qem o | none=>false
def QgB(ops:Array Oper):List Nat->Bool
 | []=>true
 | f::r=>r.all (fun g=>!bnd ops f g)&&QgB ops r
def nodup:List Nat->Bool
 | []=>true
 | a::r=>!r.contains a&&nodup r
def Qm7:List (Option Nat)->Bool
 | []=>true
 | a::r=>!r.contains a&&Qm7 r
def Seg.ok(ops:Array Oper)(fl:List Nat)(s:Seg)(r:List Seg):Bool :=
 decide (s.c<ops.size) &&
 fl.all (fun f=>s.F.contains f||bnd ops s.c f) &&
 fl.all (fun f=>!bnd ops f s.c&&r.all fun s'=>!bnd ops f s'.c) &&
 s.C.all (fun j=>bnd ops s.c j) &&
 ((s::r).flatMap (·.C)).all (fun j=>s.R.contains j||(((s::r).map (·.c))++(s::r).flatMap (·.H)).any fun i=>bnd ops j i) &&
 s.C.all (fun j=>isC ops j&&match dstOf ops j with
  | some t=>(Jk ops.size).all fun i=>i==j||!QjH ops i t||((s::r).map (·.c)).contains i
  | none=>false) &&
 s.H.all (fun f=>bnd ops f s.c||s.H.any fun g=>bnd ops f g) &&
 match r with | []=>true | s'::_=>bnd ops s'.c s.c
def QbC(ops:Array Oper):List Nat->List Seg->Bool
 | _,[]=>true
 | fl,s::r=>s.ok ops fl r&&QbC ops (fl++s.H) r
def QDy(ops:Array Oper)(Fl Sp Cr:List Nat):Bool :=
 (Jk ops.size).all (fun i=>Fl.contains i||Sp.contains i||Cr.contains i) &&
 Fl.all (fun f=>!Sp.contains f&&!Cr.contains f)&&Sp.all (fun c=>!Cr.contains c)&&nodup Fl&&nodup Sp&&nodup Cr&&Qm7 (Fl.map (dstOf ops))&&QgB ops Fl &&
 Fl.all (fun f=>isF ops f&&match dstOf ops f with
  | some t=>!Qhi ops f t&&(Jk ops.size).all fun i=>i==f||!QjH ops i t||bnd ops i f
  | none=>false) &&
 Sp.all (fun c=>match dstOf ops c with
  | some t=>Fl.all fun f=>!Qhi ops f t||bnd ops c f||bnd ops f c
  | none=>true) &&
 Cr.all (fun j=>(Jk ops.size).all fun i=>match dstOf ops i with
  | some t=>i==j||!Qhi ops j t||bnd ops j i
  | none=>true) &&
 (Jk ops.size).all (fun j=>match ops[j]? with | some o=>o.after.toList.all fun e=>!Region.binds .any e||decide (e.on<j) | none=>true)
def QiA(ops:Array Oper)(H0:List Nat)(segs:List Seg):Bool:=
 QDy ops (H0++segs.flatMap (·.H)) (segs.map (·.c)) (segs.flatMap (·.C))&&QbC ops H0 segs&&H0.all fun f=>(segs.map (·.c)).all fun c=>!bnd ops f c
structure Glob(ops:Array Oper)(Fl Sp Cr:List Nat):Prop where
 all:∀ i,i<ops.size->i∈Fl\/i∈Sp\/i∈Cr
 fs:∀ f∈Fl,¬ f∈Sp/\¬ f∈Cr
 sc:∀ c∈Sp,¬ c∈Cr
 nf:Fl.Nodup
 ns:Sp.Nodup
 nc:Cr.Nodup
 nd:∀ f g,f∈Fl->g∈Fl->dstOf ops f=dstOf ops g->f=g
 fo:QgB ops Fl=true
 fl:∀ f∈Fl,∃ o t,ops[f]?=some o/\QeU o=true/\o.dst=some t/\¬ t∈o.looksAt ops/\∀ i,i<ops.size->i≠f->QjH ops i t=true->bnd ops i f=true
 sp:∀ c∈Sp,∀ t,dstOf ops c=some t->∀ f∈Fl,Qhi ops f t=true->bnd ops c f=true\/bnd ops f c=true
 cr:∀ j∈Cr,∀ i t,i<ops.size->dstOf ops i=some t->i≠j->Qhi ops j t=true->bnd ops j i=true
 back:∀ j o,ops[j]?=some o->∀ e∈o.after,Region.binds .any e=true->e.on<j
def Qdr:∀ {l:List Nat},nodup l = true->l.Nodup
 | [],_=>List.nodup_nil
 | a :: r,h=>by
   simp only[nodup,Jb,Ju,JA,decide_eq_false_iff_not] at h
   exact JP.2 ⟨h.1,Qdr h.2⟩
def Qgy:∀ {l:List Nat},Qm7 (l.map (dstOf ops)) = true->∀ f g,f ∈ l->g ∈ l->dstOf ops f = dstOf ops g->f = g
 | [],_,f,g,h,_,_=>by simp at h
 | a :: r,hn,f,g,hf,hg,e=>by
   simp only[Js,Qm7,Jb,Ju,JA,decide_eq_false_iff_not] at hn
   rcases Jl.1 hf with e1 | hf2<;>rcases Jl.1 hg with e2 | hg2
   ·rw[e1,e2]
   ·subst e1; exact absurd (J7.2 ⟨g,hg2,e.symm⟩) hn.1
   ·subst e2; exact absurd (J7.2 ⟨f,hf2,e⟩) hn.1
   ·exact Qgy hn.2 f g hf2 hg2 e
def Qsz (h:QDy ops Fl Sp Cr = true):Glob ops Fl Sp Cr:=by
 simp only[QDy,Jb] at h
 obtain⟨⟨⟨⟨⟨⟨⟨⟨⟨⟨⟨h1,h2⟩,h3⟩,h4⟩,h5⟩,h6⟩,h7⟩,h8⟩,h9⟩,h10⟩,h11⟩,h12⟩:=h
 refine⟨fun i hi=>?_,fun f hf=>?_,fun c hc=>?_,Qdr h4,Qdr h5,Qdr h6,Qgy h7,h8,fun f hf=>?_,fun c hc t ht f hf hl=>?_,fun j hj i t hi ht hne hl=>?_,fun j o ho e he hb=>?_⟩
 ·have:=Je.1 h1 i (Jm.2 hi)
  simpa [or_assoc] using this
 ·have:=Je.1 h2 f hf
  simpa using this
 ·have:=Je.1 h3 c hc
  simpa using this
 ·have:=Je.1 h9 f hf
  simp only[Jb] at this
  obtain⟨k1,k2⟩:=this
  unfold isF at k1
  cases ho:ops[f]? with
  | none=>rw[ho] at k1; simp at k1
  | some o =>
    rw[ho] at k1
    simp only[dstOf,ho] at k2
    cases hd:o.dst with
    | none=>rw[hd] at k2; simp at k2
    | some t =>
      rw[hd] at k2
      simp only[Jb,Ju] at k2
      refine⟨o,t,rfl,k1,hd,?_,fun i hi hne hu=>?_⟩
      ·have:=k2.1
       simp only[Qhi,ho,JA,decide_eq_false_iff_not] at this
       exact this
      ·have:=Je.1 k2.2 i (Jm.2 hi)
       simp only[Jy,beq_iff_eq,Ju] at this
       rcases this with(h | h) | h
       ·exact absurd h hne
       ·rw[hu] at h; cases h
       ·exact h
 ·have:=Je.1 h10 c hc
  rw[ht] at this
  have:=Je.1 this f hf
  simp only[Jy,Ju] at this
  rcases this with(h | h) | h
  ·rw[hl] at h; cases h
  ·exact .inl h
  ·exact .inr h
 ·have:=Je.1 (Je.1 h11 j hj) i (Jm.2 hi)
  rw[ht] at this
  simp only[Jy,beq_iff_eq,Ju] at this
  rcases this with(h | h) | h
  ·exact absurd h hne
  ·rw[hl] at h; cases h
  ·exact h
 ·have hj:j < ops.size:=(Ja.1 ho).1
  have:=Je.1 h12 j (Jm.2 hj)
  rw[ho] at this
  have:=Je.1 this e (by simpa using he)
  simpa [hb] using this
structure SegOk(ops:Array Oper)(fl:List Nat)(s:Seg)(r:List Seg):Prop where
 lt:s.c<ops.size
 ff:∀ f∈fl,f∈s.F\/bnd ops s.c f=true
 fc:∀ f∈fl,bnd ops f s.c=false/\∀ s'∈r,bnd ops f s'.c=false
 cc:∀ j∈s.C,bnd ops s.c j=true
 rr:∀ j∈(s::r).flatMap (·.C),j∈s.R\/∃ i∈((s::r).map (·.c))++(s::r).flatMap (·.H),bnd ops j i=true
 cd:∀ j∈s.C,∃ o t,ops[j]?=some o/\Qem o=true/\o.dst=some t/\∀ i,i<ops.size->i≠j->QjH ops i t=true->i∈(s::r).map (·.c)
 hh:∀ f∈s.H,bnd ops f s.c=true\/∃ g∈s.H,bnd ops f g=true
 ch:∀ s' r',r=s'::r'->bnd ops s'.c s.c=true
def Qdi (h:s.ok ops fl r = true):SegOk ops fl s r:=by
 simp only[Seg.ok,Jb] at h
 obtain⟨⟨⟨⟨⟨⟨⟨h1,h2⟩,h3⟩,h4⟩,h5⟩,h6⟩,h7⟩,h8⟩:=h
 refine⟨of_decide_eq_true h1,fun f hf=>?_,fun f hf=>?_,fun j hj=>Je.1 h4 j hj,fun j hj=>?_,fun j hj=>?_,fun f hf=>?_,fun s' r' e=>?_⟩
 ·have:=Je.1 h2 f hf
  simpa using this
 ·have:=Je.1 h3 f hf
  simpa using this
 ·have:=Je.1 h5 j hj
  simp only[Jy,JA,decide_eq_true_eq,JD] at this
  exact this
 ·have:=Je.1 h6 j hj
  simp only[Jb] at this
  obtain⟨k1,k2⟩:=this
  unfold isC at k1
  cases ho:ops[j]? with
  | none=>rw[ho] at k1; simp at k1
  | some o =>
    rw[ho] at k1
    simp only[dstOf,ho] at k2
    cases hd:o.dst with
    | none=>rw[hd] at k2; simp at k2
    | some t =>
      rw[hd] at k2
      refine⟨o,t,rfl,k1,hd,fun i hi hne hu=>?_⟩
      have:=Je.1 k2 i (Jm.2 hi)
      simp only[Jy,beq_iff_eq,Ju,JA,decide_eq_true_eq] at this
      rcases this with(h | h) | h
      ·exact absurd h hne
      ·rw[hu] at h; cases h
      ·exact h
 ·have:=Je.1 h7 f hf
  simp only[Jy,JD] at this
  exact this
 ·subst e; exact h8
end Go.V
namespace Go.V
structure CInv(O:Org)(hid:Nat->Prop)(rb:Nat->Option Nat)(β:Map)(S:St)(a:Act)(w:World):Prop where
 defers:a.defers=O.ds
 size:a.tmps.size=S.nt
 tm:∀ t,¬ hid t->RelD w β S.hp (look S.tm t) (a.tmps.getD t undef)
 heap:HeapRel w β S.hp
 evo:Evo O.w O.β O.hp w ⟨β.f,O.β.X⟩ S.hp
 base:O.hp.length=S.base
 sub:∀ b,β.X b ↔ (O.β.X b\/∃ j,rb j=some b)
 rinj:∀ i j b,rb i=some b->rb j=some b->i=j
 rnew:∀ j b,rb j=some b->O.w.heap.size<=b/\¬ O.β.X b
def Evo.reX(e:Evo w β hp w' β' hp')(X:Nat->Prop):Evo w ⟨β.f,X⟩ hp w' ⟨β'.f,X⟩ hp':=
 ⟨e.os,e.tape,e.output,e.size,e.len,e.beta,e.same,e.shape,e.im,rfl⟩
def Qbn {a:Act} (hf:∀ u,dst = some u->u < a.tmps.size):(a.put dst v).tmps.getD t undef = if dst = some t then v else a.tmps.getD t undef:=by
 cases dst with
 | none=>simp[Act.put]
 | some u =>
   have hu:=hf u rfl
   by_cases h:u=t
   ·subst h; simp[Act.put,hu]
   ·have:¬ (some u = some t):=fun e=>h (Jn.inj e)
    rw[if_neg this]
    simp[Act.put,Jv,h]
def QfH{a:Act}:(a.put dst v).tmps.size=a.tmps.size:=by cases dst<;>simp[Act.put]
def QhP{a:Act}:(a.put dst v).defers=a.defers:=by cases dst<;>rfl
def Qar (S:St) (dst:Option Tmp) (d:DV) (t:Nat):look (S.put dst d).tm t = if dst = some t then d else look S.tm t:=by
 cases dst with
 | none=>simp[St.put]
 | some u =>
   by_cases h:u=t
   ·subst h; simp[St.put,look]
   ·have:¬ (some u = some t):=fun e=>h (Jn.inj e)
    rw[if_neg this]
    simp[St.put,look,h]
def CInv.step{O:Org}{hid:Nat->Prop}{rb:Nat->Option Nat}{β β':Map}{S:St}{a:Act}{w w':World}{hp':Qa}{dst:Option Tmp}{d:DV}{v:Value}(h:CInv O hid rb β S a w)(e:Evo w β S.hp w' β' hp')(hh:HeapRel w' β' hp')(hd:RelD w' β' hp' d v)(hf:S.fits dst=true) :
 CInv O (fun t=>hid t/\dst≠some t) rb β' ((S.at hp').put dst d) (a.put dst v) w':=by
 have hfit:∀ u,dst=some u->u<a.tmps.size:=fun u hu=>by rw[h.size]; subst hu; simpa [St.fits] using hf
 refine⟨by rw[QhP]; exact h.defers,by rw[QfH,St.put_nt]; exact h.size,fun t ht=>?_,by rw[St.put_hp]; exact hh,by rw[St.put_hp]; exact h.evo.trans (e.reX _),by rw[St.put_base]; exact h.base,fun b=>by rw[e.X]; exact h.sub b,h.rinj,h.rnew⟩
 rw[Qar,Qbn hfit,St.put_hp]
 by_cases hd':dst=some t
 ·rw[if_pos hd',if_pos hd']; exact hd
 ·rw [if_neg hd',if_neg hd']
  exact(h.tm t (fun hh=>ht ⟨hh,hd'⟩)).mono e
def CInv.hide(h:CInv O hid rb β S a w)(hs:∀ t,hid t->hid' t):CInv O hid' rb β S a w:=
 { h with tm:=fun t ht=>h.tm t (fun x=>ht (hs t x)) }
def CInv.only(h:CInv O hid rb β S a w)(ht:∀ t∈ts,¬ hid t):
 Sim ⟨w,β,S.hp,O.ds⟩ β (S.only ts) a w:=by
 refine⟨h.defers,h.size,fun t=>?_,h.heap,Evo.refl _ _ _,rfl⟩
 show RelD w β S.hp (look (ts.map fun t=>(t,look S.tm t)) t) _
 rw[QiU]
 split
 ·rename_i hm; exact h.tm t (ht t hm)
 ·exact .any _
def RelD.out (h:RelD w β hp d v) (hsz:w.heap.size<=w'.heap.size) (hs:∀ x,x < w.heap.size->w'.heap[x]? = w.heap[x]?) (hX:∀ b,b < w.heap.size->X b->β.X b):RelD w' ⟨β.f,X⟩ hp d v:=by
 have him:∀ b,b<w.heap.size->img ⟨β.f,X⟩ hp b->img β hp b:=by
  rintro b hb (h | h)
  ·exact .inl (hX b hb h)
  ·exact .inr h
 induction h with
 | pv p v h=>exact .pv p v (h.mono hsz (fun b hb _=>hs b hb) him)
 | ptr k off b h hb=>exact .ptr k off b h hb
 | own k sz off len cap b C T m h hb h1 h2 h3 h4=>exact .own k sz off len cap b C T m h hb h1 h2 (by rw[hs b (Ja.1 h3).1]; exact h3) h4
 | ownc k sz off len cap b o C T m h hb h1 h2 h3 h4 h5=>exact .ownc k sz off len cap b o C T m h hb h1 h2 (by rw[hs b (Ja.1 h3).1]; exact h3) h4 h5
 | own0 k sz a h hb ha=>exact .own0 k sz a h hb ha
 | ip cs ad val h1 h2 h3 =>
   refine .ip cs ad val h1 (fun j d hd=>?_) (fun j d hd=>(h3 j d hd).mono hsz (fun b hb _=>hs b hb) him)
   obtain⟨a,b,c⟩:=h2 j d hd
   exact⟨Jp a hsz,fun x=>b (him _ a x),by rw[QeC (w:=w) (a:=at_ ad j) (hs _ a)]; exact c⟩
 | agg ds vs h _ ih=>exact .agg ds vs h ih
 | fn f ds es vs us h h' _ _ ih ih'=>exact .fn f ds es vs us h h' ih ih'
 | tup ds vs h _ ih=>exact .tup ds vs h ih
 | opt c d v _ hf ih=>exact .opt c d v ih hf
 | any v=>exact .any v
def HeapRel.out(hh:HeapRel w β hp)(hsz:w.heap.size<=w'.heap.size)(hs:∀ x,x<w.heap.size->w'.heap[x]?=w.heap[x]?)(hX:∀ b,b<w.heap.size->X b->β.X b)(hb:∀ b,X b->b<w'.heap.size):HeapRel w' ⟨β.f,X⟩ hp:=by
 refine⟨fun k B b h1 h2 h3=>?_,hh.none,hh.inj,fun k B b h1 h2 h3 hx=>?_,hb⟩
 ·obtain ⟨C,g1,g2,g3⟩:=hh.blk k B b h1 h2 h3
  exact⟨C,by rw[hs b (Ja.1 g1).1]; exact g1,g2,fun i d hd=>⟨(g3 i d hd).1,(g3 i d hd).2.out hsz hs hX⟩⟩
 ·exact hh.avoid k B b h1 h2 h3 (hX b (QbZ hh ⟨k,B,h1,h2,h3⟩) hx)
def Resv.out'(h:Resv w β hp d B v b)(hsz:w.heap.size<=w'.heap.size)(hs:∀ x,x<w.heap.size->w'.heap[x]?=w.heap[x]?)(hX:∀ b,b<w.heap.size->X b->β.X b)(hXb:X b):Resv w' ⟨β.f,X⟩ hp d B v b:=by
 obtain⟨h1,h2,h3,C,c1,c2,c3,c4⟩:=h
 exact⟨h1,h2,hXb,C,by rw[hs b (Ja.1 c1).1]; exact c1,c2,fun i x hx=>⟨(c3 i x hx).1,(c3 i x hx).2.out hsz hs hX⟩,c4⟩
def CInv.reserve(h:CInv O hid rb β S a w)(hos:w'.os=w.os)(hta:w'.tape=w.tape)(hou:w'.output=w.output)(hsz:w.heap.size<=w'.heap.size)(hb:w.heap.size<=b)(hbl:b<w'.heap.size)(hs:∀ x,x<w.heap.size->w'.heap[x]?=w.heap[x]?)(hj:rb j=none)(ht:t<S.nt):CInv O (fun u=>hid u\/u=t) (fun i=>if i=j then some b else rb i) ⟨β.f,fun x=>β.X x\/x=b⟩ S (a.put (some t) v) w':=by
 have hX:∀ x,x<w.heap.size->(β.X x\/x=b)->β.X x:=fun x hx h=>h.elim id (fun e=>by omega)
 have hrb:∀ i c,rb i=some c->c<w.heap.size:=fun i c hc=>h.heap.bound c ((h.sub c).2 (.inr ⟨i,hc⟩))
 refine⟨h.defers,by rw[QfH]; exact h.size,fun u hu=>?_,h.heap.out hsz hs hX (fun x hx=>hx.elim (fun hx=>Jp (h.heap.bound x hx) hsz) (fun e=>by omega)),?_,h.base,fun x=>?_,fun i k c hi hk=>?_,fun i c hc=>?_⟩
 ·have hne:¬ (some t = some u):=fun e=>hu (.inr (Jn.inj e).symm)
  rw[Qbn (fun u hu=>by cases hu; rw[h.size]; exact ht),if_neg hne]
  exact(h.tm u (fun x=>hu (.inl x))).out hsz hs hX
 ·have e:Evo w ⟨β.f,O.β.X⟩ S.hp w' ⟨β.f,O.β.X⟩ S.hp:=⟨hos,hta,hou,hsz,Jw _,fun _ _=>rfl,fun x hx _=>hs x hx,fun x C T m hx=>⟨C,m,by rw [hs x (Ja.1 hx).1]; exact hx,rfl⟩,fun _ _ h=>h,rfl⟩
  exact h.evo.trans e
 ·show (β.X x\/x = b) ↔ _
  rw[h.sub x]
  constructor
  ·rintro ((h1 | ⟨i,hi⟩) | rfl)
   ·exact .inl h1
   ·refine .inr ⟨i,?_⟩
    show(if i=j then some b else rb i)=some x
    rw[if_neg (by intro e; subst e; rw[hj] at hi; cases hi)]; exact hi
   ·exact .inr ⟨j,by simp⟩
  ·rintro (h1 | ⟨i,hi⟩)
   ·exact .inl (.inl h1)
   ·by_cases e:i = j
    ·rw[if_pos e] at hi; cases hi; exact .inr rfl
    ·rw[if_neg e] at hi; exact .inl (.inr ⟨i,hi⟩)
 ·by_cases e1:i = j<;>by_cases e2:k = j
  ·rw[e1,e2]
  ·rw [if_pos e1] at hi
   rw[if_neg e2] at hk
   cases hi
   have:=hrb k b hk; omega
  ·rw [if_neg e1] at hi
   rw[if_pos e2] at hk
   cases hk
   have:=hrb i b hi; omega
  ·rw [if_neg e1] at hi
   rw[if_neg e2] at hk
   exact h.rinj i k c hi hk
 ·by_cases e:i = j
  ·rw [if_pos e] at hc
   cases hc
   refine⟨Nat.le_trans h.evo.size hb,fun hx=>?_⟩
   have:=h.heap.bound b ((h.sub b).2 (.inl hx)); omega
  ·rw[if_neg e] at hc; exact h.rnew i c hc
def CInv.adopt(h:CInv O hid rb β S a w)(hj:rb j=some b)(r:Resv w β S.hp d B (a.tmps.getD t undef) b):
 CInv O (fun u=>hid u/\u≠t) (fun i=>if i=j then none else rb i) ⟨(ext β S.hp.length (some b)).f,fun x=>β.X x/\x≠b⟩ ((S.at (S.hp++[B])).put (some t) (d.ren fun _=>S.hp.length)) a w:=by
 obtain⟨a1,a2,a3,a4,a5⟩:=V.adopt h.heap r
 obtain⟨n1,n2⟩:=h.rnew j b hj
 refine⟨h.defers,h.size,fun u hu=>?_,a1,?_,h.base,fun x=>?_,fun i k c hi hk=>?_,fun i c hc=>?_⟩
 ·rw [Qar]
  by_cases e:some t=some u
  ·cases e; rw[if_pos rfl]; exact a3
  ·rw [if_neg e]
   exact a2 _ _ (h.tm u (fun x=>hu ⟨x,fun e'=>e (by rw[e'])⟩))
 ·have e:=h.evo
  refine⟨e.os,e.tape,e.output,e.size,by show _<=(S.hp++[B]).length; have:=e.len; simp; omega,fun k hk=>(a5 k (Jp hk e.len)).trans (e.beta k hk),e.same,e.shape,fun x hx hl=>?_,rfl⟩
  rcases a4 x hl with h1 | h1
  ·exact e.im x hx h1
  ·omega
 ·show (β.X x/\x ≠ b) ↔ _
  rw[h.sub x]
  constructor
  ·rintro ⟨h1 | ⟨i,hi⟩,hne⟩
   ·exact .inl h1
   ·refine .inr ⟨i,?_⟩
    show(if i=j then none else rb i)=some x
    rw[if_neg (by intro e; subst e; rw[hj] at hi; cases hi; exact hne rfl)]; exact hi
  ·rintro (h1 | ⟨i,hi⟩)
   ·exact⟨.inl h1,fun e=>n2 (e▸h1)⟩
   ·by_cases e:i = j
    ·rw[if_pos e] at hi; cases hi
    ·rw [if_neg e] at hi
     exact⟨.inr ⟨i,hi⟩,fun e'=>e (h.rinj i j b (e'▸hi) hj)⟩
 ·by_cases e1:i = j
  ·rw[if_pos e1] at hi; cases hi
  ·by_cases e2:k = j
   ·rw[if_pos e2] at hk; cases hk
   ·rw [if_neg e1] at hi
    rw[if_neg e2] at hk
    exact h.rinj i k c hi hk
 ·by_cases e:i = j
  ·rw[if_pos e] at hc; cases hc
  ·rw[if_neg e] at hc; exact h.rnew i c hc
section
variable {P:Program} {ops:Array Oper}
def Ql8(ops:Array Oper)(fl cs:List Nat)(L:Array Bool)(t:Nat):Prop:=
 (∃ f∈fl,L.getD f false=false/\dstOf ops f=some t)\/∃ j∈cs,L.getD j false=true/\dstOf ops j=some t
def Pend (P:Program) (ops:Array Oper) (S:St) (f:Nat):Prop :=
 ∃ o t,ops[f]? = some o/\o.dst = some t/\t < S.nt/\∃ G,QF ops.toList S o = some G /\
   ((∃ d,vop P (fun x=>Qo G (S.ev x)) S.hp o.op=some (d,S.hp)/\look S.tm t=QdB o.guard G d)\/(G=false/\look S.tm t=.tup []))
def Rv(P:Program)(ops:Array Oper)(rb:Nat->Option Nat)(β:Map)(S:St)(a:Act)(w:World)(j:Nat):Prop:=
 ∃ o t d B b,ops[j]?=some o/\o.dst=some t/\rb j=some b/\QtR P (fun x=>Qo true (S.ev x)) o.op=some (d,B)/\Resv w β S.hp d B (a.tmps.getD t undef) b
structure MInv(P:Program)(ops:Array Oper)(O:Org)(fl:List Nat)(rs:List Seg)(rb:Nat->Option Nat)(β:Map)(S:St)(L:Array Bool)(a:Act)(w:World):Prop where
 lsz:L.size=ops.size
 core:CInv O (Ql8 ops fl (rs.flatMap (·.C)) L) rb β S a w
 cov:∀ i,i<ops.size->L.getD i false=true\/i∈fl++rs.flatMap (·.H)\/i∈rs.map (·.c)\/i∈rs.flatMap (·.C)
 sp:∀ c∈rs.map (·.c),L.getD c false=false
 flo:∀ f∈rs.flatMap (·.H),L.getD f false=false
 clo:∀ i o,ops[i]?=some o->L.getD i false=true->∀ e∈o.after,Region.binds .any e=true->L.getD e.on false=true
 rv:∀ j∈rs.flatMap (·.C),L.getD j false=true->Rv P ops rb β S a w j
 rbo:∀ j b,rb j=some b->j∈rs.flatMap (·.C)/\L.getD j false=true
 pend:∀ f∈fl,L.getD f false=false->Pend P ops S f
theorem Qdc(hj:ops[j]?=some o){L:Array Bool}(hd:∀ e∈o.after,Region.binds .any e=true->L.getD e.on false=true)(hb:bnd ops j i=true):L.getD i false=true:=by
 simp only[bnd,hj,JD,Jb,beq_iff_eq] at hb
 obtain⟨e,e1,e2,e3⟩:=hb
 rw[<- e3]; exact hd e (by simpa using e1) e2
theorem Q7(hj:ops[j]?=some o)(ht:t∈o.looksAt ops):QjH ops j t=true:=by
 simp[QjH,Qhi,hj,ht]
theorem Qnb(hj:ops[j]?=some o)(ht:t∈o.looksAt ops):Qhi ops j t=true:=by
 simp[Qhi,hj,ht]
theorem QaE(ht:dstOf ops j=some t):QjH ops j t=true:=by simp[QjH,ht]
theorem QeZ (h:QeU o = true) (ev:Operand->DV):Q8 o.op = true/\Qm ev o.op = none/\(QbW ev o.op).2 = false:=by
 unfold QeU at h
 simp only[Jb] at h
 refine⟨h.1,?_,?_⟩
 ·have h1:=h.1
  cases hop:o.op with
  | call c =>
    rw[hop] at h1
    simp only[Q8] at h1
    simp only[Qm]
    split
    ·rename_i f hc; rw[hc] at h1; simp at h1
    ·rfl
  | _=>rfl
 ·have h2:=h.2
  cases hop:o.op with
  | store T x y=>rw[hop] at h2; simp at h2
  | _=>rfl
theorem QkQ(h:Qem o=true)(ev:Operand->DV):Qm ev o.op=none/\o.guard=none:=by
 unfold Qem at h
 simp only[Jb] at h
 refine⟨?_,by simpa using h.1⟩
 have h2:=h.2
 split at h2
 ·rename_i ho; rw[ho]; rfl
 ·rename_i ho; rw[ho]; rfl
 ·rename_i ho; rw[ho]; rfl
 ·simp at h2
theorem seen{rs:List Seg}(g:Glob ops Fl Sp Cr)(hFl:∀ f∈fl,f∈Fl)(hcd:∀ j∈rs.flatMap (·.C),∃ o t,ops[j]?=some o/\Qem o=true/\o.dst=some t/\∀ i,i<ops.size->i≠j->QjH ops i t=true->i∈rs.map (·.c))(hi:ops[i]?=some o)(hd:∀ e∈o.after,Region.binds .any e=true->L.getD e.on false=true)(hu:QjH ops i t=true)(hns:¬ i∈rs.map (·.c))(hself:L.getD i false=false)(hnf:i∈fl->dstOf ops i≠some t):¬ Ql8 ops fl (rs.flatMap (·.C)) L t:=by
 have hilt:i<ops.size:=(Ja.1 hi).1
 rintro(⟨f,hf,hL,ht⟩ | ⟨j,hj,hL,ht⟩)
 ·obtain ⟨of,tf,h1,_,h2,_,h3⟩:=g.fl f (hFl f hf)
  have:tf=t:=by simp only[dstOf,h1] at ht; rw[h2] at ht; exact Jn.inj ht
  subst this
  by_cases e:i=f
  ·subst e; exact hnf hf ht
  ·have:=Qdc hi hd (h3 i hilt e hu)
   rw[hL] at this; cases this
 ·obtain ⟨oj,tj,h1,_,h2,h3⟩:=hcd j hj
  have:tj=t:=by simp only[dstOf,h1] at ht; rw[h2] at ht; exact Jn.inj ht
  subst this
  by_cases e:i=j
  ·subst e; rw[hself] at hL; cases hL
  ·exact hns (h3 i hilt e hu)
end
end Go.V
namespace Go.V
section
variable {P:Program} {ops:Array Oper}
structure Stat(ops:Array Oper)(Fl Sp Cr:List Nat)(fl:List Nat)(rs:List Seg):Prop where
 g:Glob ops Fl Sp Cr
 hFl:Fl=fl++rs.flatMap (·.H)
 hSp:∃ dn,Sp=dn++rs.map (·.c)
 hCr:∃ dn,Cr=dn++rs.flatMap (·.C)
 ok:QbC ops fl rs=true
variable {Fl Sp Cr fl:List Nat} {rs:List Seg}
theorem Stat.fl_sub(s:Stat ops Fl Sp Cr fl rs):∀ f∈fl,f∈Fl:=fun f hf=>by rw[s.hFl]; exact Jj _ hf
theorem Stat.sp_sub(s:Stat ops Fl Sp Cr fl rs):∀ c∈rs.map (·.c),c∈Sp:=fun c hc=>by obtain⟨dn,h⟩:=s.hSp; rw[h]; exact Jh _ hc
theorem Stat.cr_sub(s:Stat ops Fl Sp Cr fl rs):∀ c∈rs.flatMap (·.C),c∈Cr:=fun c hc=>by obtain⟨dn,h⟩:=s.hCr; rw[h]; exact Jh _ hc
theorem QcT:∀ {fl:List Nat} {rs:List Seg},QbC ops fl rs = true->∀ j ∈ rs.flatMap (·.C),∃ o t,ops[j]? = some o/\Qem o = true/\o.dst = some t/\∀ i,i < ops.size->i ≠ j->QjH ops i t = true->i ∈ rs.map (·.c)
 | fl,[],_,j,hj=>by simp at hj
 | fl,s :: r,h,j,hj=>by
   simp only[QbC,Jb] at h
   rw[Jr,JB] at hj
   rcases hj with hj | hj
   ·exact(Qdi h.1).cd j hj
   ·obtain ⟨o,t,h1,h2,h3,h4⟩:=QcT h.2 j hj
    exact⟨o,t,h1,h2,h3,fun i a b c=>by rw[Js]; exact Jf _ (h4 i a b c)⟩
theorem QjU:∀ {fl:List Nat} {rs:List Seg},QbC ops fl rs = true->∀ f ∈ rs.flatMap (·.H),(∃ c ∈ rs.map (·.c),bnd ops f c = true)\/∃ g ∈ rs.flatMap (·.H),bnd ops f g = true
 | fl,[],_,j,hj=>by simp at hj
 | fl,s :: r,h,f,hf=>by
   simp only[QbC,Jb] at h
   rw[Jr,JB] at hf
   rcases hf with hf | hf
   ·rcases (Qdi h.1).hh f hf with h1 | ⟨g,h1,h2⟩
    ·exact .inl ⟨s.c,by simp,h1⟩
    ·exact .inr ⟨g,by rw[Jr]; exact Jj _ h1,h2⟩
   ·rcases QjU h.2 f hf with ⟨c,h1,h2⟩ | ⟨g,h1,h2⟩
    ·exact .inl ⟨c,by rw[Js]; exact Jf _ h1,h2⟩
    ·exact .inr ⟨g,by rw[Jr]; exact Jh _ h1,h2⟩
theorem QjV:∀ {fl:List Nat} {s:Seg} {r:List Seg},QbC ops fl (s :: r) = true->∀ c ∈ r.map (·.c),∃ c' ∈ (s :: r).map (·.c),bnd ops c c' = true
 | fl,s,[],_,c,hc=>by simp at hc
 | fl,s,s' :: r',h,c,hc=>by
   simp only[QbC,Jb] at h
   rw[Js,Jl] at hc
   rcases hc with rfl | hc
   ·exact⟨s.c,by simp,(Qdi h.1).ch s' r' rfl⟩
   ·have h2:QbC ops (fl ++ s.H) (s' :: r') = true:=by simp only [QbC,Jb]; exact h.2
    obtain⟨c',h3,h4⟩:=QjV h2 c hc
    exact⟨c',by rw[Js]; exact Jf _ h3,h4⟩
theorem QiB{L:Array Bool}(h:j<L.size):(L.setIfInBounds j true).getD j false=true:=by simp[h]
theorem QoK(st:Stat ops Fl Sp Cr fl rs)(h:MInv P ops O fl rs rb β S L a w)(hf:f∈fl)(ho:ops[f]?=some o)(hL:L.getD f false=false)(hd:∀ e∈o.after,Region.binds .any e=true->L.getD e.on false=true)(hn:∀ β' a' w',MInv P ops O fl rs rb β' S (L.setIfInBounds f true) a' w'->next a' w'):
 if Region.wanted o (yielded ops a.tmps) then o.wp P a w next Q\/(o.asks P a w/\LetsOut Q) else next (a.put o.dst undef) w:=by
 have hflt:f<ops.size:=(Ja.1 ho).1
 obtain⟨o1,t,e1,hfl,hdst,hown,huse⟩:=st.g.fl f (st.fl_sub f hf)
 rw[ho] at e1; cases e1
 obtain⟨o2,t2,e2,hdst2,htn,G,hG,hval⟩:=h.pend f hf hL
 rw[ho] at e2; cases e2
 rw[hdst] at hdst2; cases hdst2
 have hdo:dstOf ops f=some t:=by simp[dstOf,ho,hdst]
 obtain⟨nSp,nCr⟩:=st.g.fs f (st.fl_sub f hf)
 have nsp:¬ f∈rs.map (·.c):=fun hc=>nSp (st.sp_sub f hc)
 have hcd:=QcT st.ok
 have hseen:∀ u∈o.looksAt ops,¬ Ql8 ops fl (rs.flatMap (·.C)) L u:=fun u hu=>
  seen st.g st.fl_sub hcd ho hd (Q7 ho hu) nsp hL (fun _ hd'=>by rw[hdo] at hd'; cases hd'; exact hown hu)
 have hs:=h.core.only hseen
 -- the new state of the region
 have fin:∀ β' w' v,Evo w β S.hp w' β' S.hp->HeapRel w' β' S.hp->RelD w' β' S.hp (look S.tm t) v->next (a.put o.dst v) w':=by
  intro β' w' v k1 k2 k3
  refine hn β' _ _ ?_
  have hsz:f<L.size:=by rw[h.lsz]; exact hflt
  have hself:=QiB hsz
  have hoth:∀ i,i≠f->(L.setIfInBounds f true).getD i false=L.getD i false:=fun i hi=>getD_set_ne false (Ne.symm hi)
  have hmono:∀ i,L.getD i false=true->(L.setIfInBounds f true).getD i false=true:=fun i hi=>getD_set_true hi
  have step:=h.core.step (dst:=o.dst) k1 k2 k3 (by rw[hdst]; simpa [St.fits] using htn)
  refine⟨by simp[h.lsz],?_,fun i hi=>(h.cov i hi).imp (hmono i) id,fun c hc=>?_,fun g hg=>?_,fun i oi hi hLi e he hb=>?_,fun j hj hLj=>?_,fun j b hb=>?_,fun g hg hLg=>?_⟩
  ·-- the slots
   refine⟨step.defers,by rw[QfH]; exact h.core.size,fun u hu=>?_,k2,?_,h.core.base,step.sub,step.rinj,step.rnew⟩
   ·by_cases hut:t = u
    ·subst hut
     rw[Qbn (fun x hx=>by rw[hdst] at hx; cases hx; rw[h.core.size]; exact htn),if_pos hdst]; exact k3
    ·rw [Qbn (fun x hx=>by rw [hdst] at hx; cases hx; rw [h.core.size]; exact htn),if_neg (by rw [hdst]; exact fun e=>hut (Jn.inj e))]
     refine(h.core.tm u fun hid=>hu ?_).mono k1
     rcases hid with⟨g,hg,hLg,hgd⟩ | ⟨j,hj,hLj,hjd⟩
     ·refine .inl ⟨g,hg,?_,hgd⟩
      by_cases e:g=f
      ·subst e; rw[hdo] at hgd; exact absurd (Jn.inj hgd) hut
      ·rw[hoth g e]; exact hLg
     ·exact .inr ⟨j,hj,hmono j hLj,hjd⟩
   ·have:=step.evo; rw[St.put_hp] at this; exact this
  ·rw[hoth c (fun e=>nsp (e▸hc))]; exact h.sp c hc
  ·rw [hoth g (fun e=>by
    subst e
    have hn:=st.g.nf; rw[st.hFl] at hn
    exact(JT.1 hn).2.2 _ hf _ hg rfl)]
   exact h.flo g hg
  ·by_cases e':i = f
   ·subst e'; rw[ho] at hi; cases hi; exact hmono _ (hd e he hb)
   ·rw[hoth i e'] at hLi; exact hmono _ (h.clo i oi hi hLi e he hb)
  ·have hjf:j ≠ f:=fun e=>nCr (st.cr_sub j hj |> fun x=>e ▸ x)
   rw[hoth j hjf] at hLj
   obtain⟨oj,tj,d,B,b,q1,q2,q3,q4,q5⟩:=h.rv j hj hLj
   refine⟨oj,tj,d,B,b,q1,q2,q3,q4,?_⟩
   have hne:¬ (o.dst=some tj):=fun e=>by
    obtain⟨oj',tj',r1,_,r2,r3⟩:=hcd j hj
    rw[q1] at r1; cases r1
    rw[q2] at r2; cases r2
    exact nsp (r3 f hflt hjf.symm (QaE (by simp[dstOf,ho,e])))
   rw[Qbn (fun x hx=>by rw[hdst] at hx; cases hx; rw[h.core.size]; exact htn),if_neg hne]
   exact q5.evo h.core.heap k1
  ·obtain ⟨r1,r2⟩:=h.rbo j b hb
   exact⟨r1,hmono j r2⟩
  ·have hgf:g ≠ f:=fun e=>by subst e; rw [hself] at hLg; cases hLg
   rw[hoth g hgf] at hLg
   exact h.pend g hg hLg
 have hgd:QF ops.toList (S.only (o.looksAt ops)) o=some G:=by
  rw[Qbb (S:=S) (fun u hu=>Qed S _ u hu)]; exact hG
 have hw:=QO (ops:=ops) hs hgd
 rw[hw]
 obtain⟨hk,hcall,hft⟩:=QeZ hfl (fun x=>Qo G (S.ev x))
 cases hGv:G with
 | true =>
   subst hGv
   rw[if_pos rfl]
   rcases hval with⟨d,hv,hl⟩ | ⟨h0,_⟩
   ·have hev:∀ x,RelD w β S.hp (Qo true ((S.only (o.looksAt ops)).ev x)) (a.eval x):=fun x=>Qaq (hs.ev x) rfl
    have hv':vop P (fun x=>Qo true ((S.only (o.looksAt ops)).ev x)) S.hp o.op=some (d,S.hp):=by
     rw[Qbs (ev:=fun x=>Qo true (S.ev x)) (fun x hx=>by show Qo true _=Qo true _; rw[Qhm (S:=S) (fun u hu=>Qed S _ u hu) x hx])]
     exact hv
    refine .inl (QbO (QaN h.core.heap hev (fun _=>rfl) hv') (fun v w' β' k1 k2 k3=>fin β' w' v k1 k2 ?_))
    rw[hl]
    cases o.guard with
    | none=>exact k3
    | some _=>exact .opt true d v (fun _=>k3) (by simp)
   ·cases h0
 | false =>
   subst hGv
   rw[if_neg (by simp)]
   refine fin β w undef (Evo.refl _ _ _) h.core.heap ?_
   rcases hval with⟨d,_,hl⟩ | ⟨_,hl⟩
   ·rw [hl]
    cases hgd':o.guard with
    | none=>simp[QF,hgd'] at hG
    | some _=>exact .opt false d undef (by simp) (fun _=>rfl)
   ·rw[hl]; exact .tup [] #[] rfl (by simp)
theorem Qtc(st:Stat ops Fl Sp Cr fl rs)(h:MInv P ops O fl rs rb β S L a w)(hj:j∈rs.flatMap (·.C))(ho:ops[j]?=some o)(hL:L.getD j false=false)(hd:∀ e∈o.after,Region.binds .any e=true->L.getD e.on false=true)(hfit:S.fits o.dst=true)(hc:Qff P (fun x=>Qo true (S.ev x)) o.op)(hn:∀ rb' β' a' w',MInv P ops O fl rs rb' β' S (L.setIfInBounds j true) a' w'->next a' w'):
 if Region.wanted o (yielded ops a.tmps) then o.wp P a w next Q\/(o.asks P a w/\LetsOut Q) else next (a.put o.dst undef) w:=by
 have hjlt:j<ops.size:=(Ja.1 ho).1
 have hcd:=QcT st.ok
 obtain⟨o1,t,e1,hcr,hdst,huse⟩:=hcd j hj
 rw[ho] at e1; cases e1
 have hdo:dstOf ops j=some t:=by simp[dstOf,ho,hdst]
 have htn:t<S.nt:=by rw[hdst] at hfit; simpa [St.fits] using hfit
 have nSp:¬ j∈Sp:=fun hs=>st.g.sc j hs (st.cr_sub j hj)
 have nsp:¬ j∈rs.map (·.c):=fun hs=>nSp (st.sp_sub j hs)
 have nFl:¬ j∈Fl:=fun hf=>(st.g.fs j hf).2 (st.cr_sub j hj)
 have hseen:∀ u∈o.looksAt ops,¬ Ql8 ops fl (rs.flatMap (·.C)) L u:=fun u hu=>
  seen st.g st.fl_sub hcd ho hd (Q7 ho hu) nsp hL (fun hf=>absurd (st.fl_sub j hf) nFl)
 have hs:=h.core.only hseen
 obtain⟨_,hgn⟩:=QkQ hcr (fun x=>S.ev x)
 have hgd:QF ops.toList (S.only (o.looksAt ops)) o=some true:=by simp[QF,hgn]
 have hw:=QO (ops:=ops) hs hgd
 rw[hw,if_pos rfl]
 have hev:∀ x∈o.op.operands.toList,RelD w β S.hp (Qo true (S.ev x)) (a.eval x):=fun x hx=>by
  have:=hs.ev x
  rw[Qhm (S:=S) (fun u hu=>Qed S _ u hu) x hx] at this
  exact Qaq this rfl
 obtain⟨d,B,v,w',b,c1,c2,c3,c4,c5,c6,c7,c8,c9,c10⟩:=QoQ (β:=β) h.core.heap hev (fun _=>rfl) hc
 have hrb:rb j=none:=by
  cases hr:rb j with
  | none=>rfl
  | some x=>have:=(h.rbo j x hr).2; rw[hL] at this; cases this
 have core:=h.core.reserve (v:=v) c3 c4 c5 c6 c7 c8 c9 hrb htn
 have hnext:next (a.put o.dst v) w':=by
  rw[hdst]
  refine hn (fun i=>if i=j then some b else rb i) ⟨β.f,fun x=>β.X x\/x=b⟩ _ _ ?_
  have hsz:j<L.size:=by rw[h.lsz]; exact hjlt
  have hself:=QiB hsz
  have hoth:∀ i,i≠j->(L.setIfInBounds j true).getD i false=L.getD i false:=fun i hi=>getD_set_ne false (Ne.symm hi)
  have hmono:∀ i,L.getD i false=true->(L.setIfInBounds j true).getD i false=true:=fun i hi=>getD_set_true hi
  refine⟨by simp[h.lsz],core.hide fun u hu=>?_,fun i hi=>(h.cov i hi).imp (hmono i) id,fun c hc=>?_,fun g hg=>?_,fun i oi hi hLi e he hb=>?_,fun i hi hLi=>?_,fun i b' hb'=>?_,fun g hg hLg=>?_⟩
  ·rcases hu with (⟨f,hf,hLf,hfd⟩ | ⟨i,hi,hLi,hid⟩) | rfl
   ·exact .inl ⟨f,hf,by rw[hoth f (fun e=>nFl (e▸st.fl_sub f hf))]; exact hLf,hfd⟩
   ·exact .inr ⟨i,hi,hmono i hLi,hid⟩
   ·exact .inr ⟨j,hj,hself,hdo⟩
  ·rw[hoth c (fun e=>nsp (e▸hc))]; exact h.sp c hc
  ·rw[hoth g (fun e=>nFl (by rw[<- e,st.hFl]; exact Jh _ hg))]; exact h.flo g hg
  ·by_cases e':i = j
   ·subst e'; rw[ho] at hi; cases hi; exact hmono _ (hd e he hb)
   ·rw[hoth i e'] at hLi; exact hmono _ (h.clo i oi hi hLi e he hb)
  ·by_cases e:i = j
   ·subst e
    exact⟨o,t,d,B,b,ho,hdst,by simp,c1,by rw[Qbn (fun x hx=>by cases hx; rw[h.core.size]; exact htn),if_pos rfl]; exact c10⟩
   ·rw [hoth i e] at hLi
    obtain⟨oi,ti,di,Bi,bi,q1,q2,q3,q4,q5⟩:=h.rv i hi hLi
    refine⟨oi,ti,di,Bi,bi,q1,q2,by show(if i=j then some b else rb i)=some bi; rw[if_neg e]; exact q3,q4,?_⟩
    have hne:¬ (some t=some ti):=fun et=>by
     cases et
     obtain⟨oi',ti',r1,_,r2,r3⟩:=hcd i hi
     rw[q1] at r1; cases r1
     rw[q2] at r2; cases r2
     exact nsp (r3 j hjlt (Ne.symm e) (QaE hdo))
    rw[Qbn (fun x hx=>by cases hx; rw[h.core.size]; exact htn),if_neg hne]
    exact q5.out' c6 c9 (fun x hx hX=>hX.elim id (fun e=>by omega)) (.inl q5.out)
  ·by_cases e:i = j
   ·subst e; exact⟨hj,hself⟩
   ·have hb':(if i = j then some b else rb i) = some b':=hb'
    rw[if_neg e] at hb'
    obtain⟨r1,r2⟩:=h.rbo i b' hb'
    exact⟨r1,hmono i r2⟩
  ·have hgj:g ≠ j:=fun e=>nFl (e ▸ st.fl_sub g hg)
   rw[hoth g hgj] at hLg
   exact h.pend g hg hLg
 refine .inl ?_
 unfold Oper.wp
 rcases c2 with c2 | ⟨c2,rfl⟩
 ·rw[c2]; exact hnext
 ·rw[c2]; exact hnext
end
end Go.V
namespace Go.V
section
variable {P:Program} {ops:Array Oper}
theorem QdM (all:List Oper):∀ (a b:List Nat),pick all (a ++ b) = pick all a ++ pick all b
 | [],_=>rfl
 | i :: r,b=>by
   simp only[JI,pick]
   cases all[i]? with
   | none=>exact QdM all r b
   | some o=>simp only[JI]; rw[QdM all r b]
theorem QfI (h:all[i]? = some o):∀ {l:List Nat},i ∈ l->o ∈ pick all l
 | [],hm=>by simp at hm
 | a :: r,hm=>by
   simp only[pick]
   rcases Jl.1 hm with rfl | hm
   ·rw[h]; exact List.mem_cons_self
   ·cases all[a]? with
    | none=>exact QfI h hm
    | some o'=>exact Jf _ (QfI h hm)
theorem Qb5{i:Nat}(h:ops[i]?=some o):ops.toList[i]?=some o:=by simpa using h
theorem QoH(h:∀ x∈o.operands.toList,ev' x=ev x):QbW ev' o=QbW ev o:=by
 cases o<;>first | rfl | (simp only[QbW]; rw[h _ (by simp[Op.operands])])
theorem Qh3(h:∀ x∈o.operands.toList,ev' x=ev x):QtR P ev' o=QtR P ev o:=by
 unfold QtR; rw[Qbs h]
theorem Pend.move(h:Pend P ops S f)(ho:ops[f]?=some o)(hd:o.dst=some t)(hfl:QeU o=true)(hl:∀ u∈o.looksAt ops,look S2.tm u=look S.tm u)(ht:look S2.tm t=look S.tm t)(hn:S2.nt=S.nt)(hh:∀ G,QF ops.toList S o=some G->∀ k∈(QbW (fun x=>Qo G (S.ev x)) o.op).1,S2.hp[k]?=S.hp[k]?):Pend P ops S2 f:=by
 obtain⟨o1,t1,e1,e2,e3,G,e4,e5⟩:=h
 rw[ho] at e1; cases e1
 rw[hd] at e2; cases e2
 refine⟨o,t,ho,hd,by rw[hn]; exact e3,G,by rw[Qbb hl]; exact e4,?_⟩
 rcases e5 with⟨d,h1,h2⟩ | ⟨h1,h2⟩
 ·refine .inl ⟨d,?_,by rw [ht]; exact h2⟩
  rw[Qbs (ev:=fun x=>Qo G (S.ev x)) (fun x hx=>by show Qo G _=Qo G _; rw[Qhm hl x hx])]
  obtain⟨k1,_,k3⟩:=QeZ hfl (fun x=>Qo G (S.ev x))
  rcases QcL (hp':=S2.hp) k1 (hh G e4) h1 with⟨_,_,r⟩ | ⟨r,_⟩
  ·exact r
  ·rw[k3] at r; cases r
 ·exact .inr ⟨h1,by rw[ht]; exact h2⟩
theorem QgC:∀ {l:List Nat} {S:St},(∀ f ∈ l,∃ o t,ops[f]? = some o/\QeU o = true/\o.dst = some t/\¬ t ∈ o.looksAt ops)->(l.Pairwise fun f g=>∀ t,dstOf ops g = some t->QjH ops f t = false)->QaL P ops.toList (pick ops.toList l) K S ->
 ∃ S2,K S2/\S2.hp=S.hp/\S2.nt=S.nt/\S2.base=S.base/\(∀ t,(∀ f∈l,dstOf ops f≠some t)->look S2.tm t=look S.tm t)/\∀ f∈l,Pend P ops S2 f
 | [],S,_,_,h=>⟨S,h,rfl,rfl,rfl,fun _ _=>rfl,by simp⟩
 | f :: l, S,hf,hp,h=>by
   obtain⟨o,t,ho,hfl,hd,hown⟩:=hf f (by simp)
   have hdo:dstOf ops f=some t:=by simp[dstOf,ho,hd]
   rw[J1] at hp
   simp only[pick,Qb5 ho] at h
   unfold QaL at h
   obtain⟨hfit,h⟩:=h
   have htn:t<S.nt:=by rw[hd] at hfit; simpa [St.fits] using hfit
   -- QQ the first
   have go : ∀ d,Pend P ops (S.put (some t) d) f->QaL P ops.toList (pick ops.toList l) K (S.put (some t) d)->∃ S2,K S2/\S2.hp = S.hp/\S2.nt = S.nt/\S2.base = S.base/\(∀ t,(∀ f' ∈ f :: l,dstOf ops f' ≠ some t)->look S2.tm t = look S.tm t)/\∀ f' ∈ f :: l,Pend P ops S2 f':=by
    intro d hpend hr
    obtain⟨S2,k1,k2,k3,k4,k5,k6⟩:=QgC (fun g hg=>hf g (Jf _ hg)) hp.2 hr
    refine⟨S2,k1,k2,k3,k4,fun u hu=>?_,fun g hg=>?_⟩
    ·rw[k5 u (fun g hg=>hu g (Jf _ hg)),Qar,if_neg (fun e=>hu f (by simp) (by rw[hdo]; exact e))]
    ·rcases Jl.1 hg with rfl | hg
     ·have keep:∀ u,QjH ops g u = true->look S2.tm u = look (S.put (some t) d).tm u:=fun u hu=>k5 u fun g' hg' e=>by
       have:=hp.1 g' hg' u e
       rw[hu] at this; cases this
      exact hpend.move ho hd hfl (fun u hu=>keep u (Q7 ho hu)) (keep t (QaE hdo)) k3 (fun _ _ k _=>by rw[k2])
     ·exact k6 g hg
   have hl:∀ d,∀ u∈o.looksAt ops,look (S.put (some t) d).tm u=look S.tm u:=fun d u hu=>by rw[Qar,if_neg (fun e=>hown (by cases e; exact hu))]
   split at h
   ·exact h.elim
   ·rename_i hG
    rw[hd] at h
    exact go _ ⟨o,t,ho,hd,htn,false,by rw[Qbb (hl _)]; exact hG,.inr ⟨rfl,by rw[Qar,if_pos rfl]⟩⟩ h
   ·rename_i hG
    obtain⟨c1,c2,c3⟩:=QeZ hfl (fun x=>Qo true (S.ev x))
    rw[c2] at h
    simp only at h
    split at h
    ·rename_i d hp' hv
     have hhp:hp'=S.hp:=by
      rcases QcL (hp':=S.hp) c1 (fun _ _=>rfl) hv with⟨_,r,_⟩ | ⟨r,_⟩
      ·exact r
      ·rw[c3] at r; cases r
     subst hhp
     have hS:(S.at S.hp).put o.dst (QdB o.guard true d)=S.put (some t) (QdB o.guard true d):=by rw[hd]; rfl
     rw[hS] at h
     refine go _ ⟨o,t,ho,hd,htn,true,by rw[Qbb (hl _)]; exact hG,.inl ⟨d,?_,by rw[Qar,if_pos rfl]⟩⟩ h
     rw[Qbs (ev:=fun x=>Qo true (S.ev x)) (fun x hx=>by show Qo true _=Qo true _; rw[Qhm (hl _) x hx])]
     exact hv
    ·exact h.elim
theorem Qk3:∀ {l:List Nat} {rb:Nat->Option Nat} {β:Map} {S:St},CInv O (Ql8 ops fl (l ++ cs) L) rb β S a w->(∀ j ∈ l ++ cs,L.getD j false = true->Rv P ops rb β S a w j) ->
 (∀ j b,rb j=some b->j∈l++cs/\L.getD j false=true)->(∀ j∈l,L.getD j false=true)->(∀ j∈l++cs,∃ o t,ops[j]?=some o/\Qem o=true/\o.dst=some t/\∀ i∈l++cs,i≠j->QjH ops i t=false) ->
 (l++cs).Nodup->QaL P ops.toList (pick ops.toList l++rest) K S ->
 ∃ rb' β' S',QaL P ops.toList rest K S'/\CInv O (Ql8 ops fl cs L) rb' β' S' a w/\(∀ j∈cs,L.getD j false=true->Rv P ops rb' β' S' a w j)/\(∀ j b,rb' j=some b->j∈cs/\L.getD j false=true)/\S'.nt=S.nt/\(∀ t,(∀ j∈l,dstOf ops j≠some t)->look S'.tm t=look S.tm t)
 | [],rb,β,S,core,rv,rbo,_,_,_,h=>⟨rb,β,S,h,core,rv,rbo,rfl,fun _ _=>rfl⟩
 | j :: l,rb,β,S,core,rv,rbo,hl,hcd,hnd,h=>by
   obtain⟨o,t,ho,hcr,hd,huse⟩:=hcd j (by simp)
   have hdo:dstOf ops j=some t:=by simp[dstOf,ho,hd]
   rw[JI,JP] at hnd
   obtain⟨o1,t1,d,B,b,e1,e2,e3,e4,e5⟩:=rv j (by simp) (hl j (by simp))
   rw[ho] at e1; cases e1
   rw[hd] at e2; cases e2
   simp only[pick,Qb5 ho,JI] at h
   unfold QaL at h
   obtain⟨hfit,h⟩:=h
   obtain⟨hcall,hgn⟩:=QkQ hcr (fun x=>Qo true (S.ev x))
   have hG:QF ops.toList S o=some true:=by simp[QF,hgn]
   rw[hG] at h
   simp only at h
   rw[hcall,QoR hcr e4 S.hp] at h
   simp only[hd,hgn,QdB] at h
   have hne:∀ i∈l++cs,i≠j:=fun i hi e=>hnd.1 (e▸hi)
   have hcore:=core.adopt (t:=t) e3 e5
   obtain⟨a1,a2,a3,a4,a5⟩:=V.adopt core.heap e5
   have hlook:∀ i∈l++cs,∀ oi,ops[i]?=some oi->∀ u∈oi.looksAt ops,look ((S.at (S.hp++[B])).put (some t) (d.ren fun _=>S.hp.length)).tm u=look S.tm u:=fun i hi oi hoi u hu=>by
    rw[Qar,if_neg (fun e=>by
     cases e
     have:=huse i (Jf _ hi) (hne i hi)
     rw[Q7 hoi hu] at this; cases this)]
    rfl
   obtain⟨rb',β',S',k1,k2,k3,k4,k5,k6⟩:=Qk3 (l:=l) (cs:=cs) (rest:=rest) (K:=K)
    (hcore.hide fun u hu=>by
     rcases hu with⟨hu | ⟨i,hi,hLi,hid⟩,hut⟩
     ·exact .inl hu
     ·refine .inr ⟨i,?_,hLi,hid⟩
      rcases Jl.1 hi with rfl | hi
      ·rw[hdo] at hid; exact absurd (Jn.inj hid).symm hut
      ·exact hi)
    (fun i hi hLi=>by
     obtain⟨oi,ti,di,Bi,bi,q1,q2,q3,q4,q5⟩:=rv i (Jf _ hi) hLi
     refine⟨oi,ti,di,Bi,bi,q1,q2,by show(if i=j then none else rb i)=some bi; rw[if_neg (hne i hi)]; exact q3,?_,?_⟩
     ·rw [Qh3 (ev:=fun x=>Qo true (S.ev x)) (fun x hx=>by show Qo true _ = Qo true _; rw [Qhm (hlook i hi oi q1) x hx])]
      exact q4
     ·obtain ⟨r1,r2,r3,C,r4,r5,r6,r7⟩:=q5
      exact⟨r1,r2,⟨r3,fun e=>hne i hi (core.rinj i j b (e▸q3) e3)⟩,C,r4,r5,fun k x hx=>⟨(r6 k x hx).1,a2 _ _ (r6 k x hx).2⟩,r7⟩)
    (fun i c hc=>by
     have hc:(if i=j then none else rb i)=some c:=hc
     by_cases e:i=j
     ·rw[if_pos e] at hc; cases hc
     ·rw [if_neg e] at hc
      obtain⟨r1,r2⟩:=rbo i c hc
      rcases Jl.1 r1 with rfl | r1
      ·exact absurd rfl e
      ·exact⟨r1,r2⟩)
    (fun i hi=>hl i (Jf _ hi))
    (fun i hi=>by
     obtain⟨oi,ti,q1,q2,q3,q4⟩:=hcd i (Jf _ hi)
     exact⟨oi,ti,q1,q2,q3,fun k hk hki=>q4 k (Jf _ hk) hki⟩)
    hnd.2 h
   refine⟨rb',β',S',k1,k2,k3,k4,k5,fun u hu=>?_⟩
   rw[k6 u (fun i hi=>hu i (Jf _ hi)),Qar,if_neg (fun e=>hu j (by simp) (by rw[hdo]; exact e))]
   rfl
theorem Qc1 (g:Glob ops Fl Sp Cr):∀ {l:List Nat},(∀ f ∈ l,f ∈ Fl)->QgB ops l = true->l.Nodup->l.Pairwise fun f g=>∀ t,dstOf ops g = some t->QjH ops f t = false
 | [],_,_,_=>List.Pairwise.nil
 | f :: r,hm,hi,hn=>by
   simp only[QgB,Jb] at hi
   rw[JP] at hn
   refine J1.2 ⟨fun x hx t ht=>?_,Qc1 g (fun x hx=>hm x (Jf _ hx)) hi.2 hn.2⟩
   obtain⟨o,u,h1,_,h2,_,h3⟩:=g.fl x (hm x (Jf _ hx))
   have:u=t:=by simp only[dstOf,h1] at ht; rw[h2] at ht; exact Jn.inj ht
   subst this
   cases hu:QjH ops f u with
   | false=>rfl
   | true =>
     obtain⟨of,_,hof,_⟩:=g.fl f (hm f (by simp))
     have:=h3 f (Ja.1 hof).1 (fun e=>hn.1 (e▸hx)) hu
     have hb:=Je.1 hi.1 x hx
     rw[this] at hb; cases hb
end
end Go.V
namespace Go.V
section
variable {P:Program} {ops:Array Oper} {Fl Sp Cr fl:List Nat}
theorem QhG:∀ {l:List Nat},Qge hp hp1 l->∀ k ∈ l,hp1[k]? = hp[k]?
 | [],_,k,hk=>by simp at hk
 | a :: r,h,k,hk=>by
   rcases Jl.1 hk with rfl | hk
   ·exact h.1
   ·exact QhG h.2 k hk
theorem Qk2:∀ {l:List Oper},Qhq all S S1 l->∀ o ∈ l,QnC S S1 o (QF all S1 o)
 | [],_,o,ho=>by simp at ho
 | a :: r,h,o,ho=>by
   rcases Jl.1 ho with rfl | ho
   ·exact h.1
   ·exact Qk2 h.2 o ho
theorem QgN:∀ {l:List Oper},Qcx P S l->∀ o ∈ l,S.fits o.dst = true/\Qff P (fun x=>Qo true (S.ev x)) o.op
 | [],_,o,ho=>by simp at ho
 | a :: r,h,o,ho=>by
   rcases Jl.1 ho with rfl | ho
   ·exact h.1
   ·exact QgN h.2 o ho
theorem Qn3 (st:Stat ops Fl Sp Cr fl (s :: r)) (h:MInv P ops O fl (s :: r) rb β S L a w) (ho:ops[s.c]? = some o) (hd:∀ e ∈ o.after,Region.binds .any e = true->L.getD e.on false = true) (hv:vsp P ops.toList (s :: r) K S) (hn:∀ rb' β' S' a' w',MInv P ops O (fl ++ s.H) r rb' β' S' (L.setIfInBounds s.c true) a' w'->vsp P ops.toList r K S'->next a' w'):
 if Region.wanted o (yielded ops a.tmps) then o.wp P a w next Q\/(o.asks P a w/\LetsOut Q) else next (a.put o.dst undef) w:=by
 have hclt:s.c<ops.size:=(Ja.1 ho).1
 have hL:L.getD s.c false=false:=h.sp s.c (by simp)
 have hsegs:=st.ok
 simp only[QbC,Jb] at hsegs
 have so:=Qdi hsegs.1
 have hcd:=QcT st.ok
 have hcdr:=QcT hsegs.2
 have hcs:(s::r).flatMap (·.C)=s.C++r.flatMap (·.C):=Jr
 have hHs:(s::r).flatMap (·.H)=s.H++r.flatMap (·.H):=Jr
 have hSpn:((s::r).map (·.c)).Nodup:=by obtain⟨dn,e⟩:=st.hSp; have:=st.g.ns; rw[e] at this; exact(JT.1 this).2.1
 rw[Js,JP] at hSpn
 have hCrn:((s::r).flatMap (·.C)).Nodup:=by obtain⟨dn,e⟩:=st.hCr; have:=st.g.nc; rw[e] at this; exact(JT.1 this).2.1
 have hcSp:s.c∈Sp:=st.sp_sub s.c (by simp)
 have hcFl:¬ s.c∈Fl:=fun hf=>(st.g.fs _ hf).1 hcSp
 have hcCr:¬ s.c∈Cr:=st.g.sc _ hcSp
 have crSp:∀ j∈(s::r).flatMap (·.C),¬ j∈(s::r).map (·.c):=fun j hj hs=>st.g.sc j (st.sp_sub j hs) (st.cr_sub j hj)
 have flSp:∀ f∈Fl,¬ f∈(s::r).map (·.c):=fun f hf hs=>(st.g.fs f hf).1 (st.sp_sub f hs)
 have hHFl:∀ f∈s.H,f∈Fl:=fun f hf=>by rw[st.hFl,hHs]; exact Jh _ (Jj _ hf)
 unfold vsp at hv
 obtain⟨_,hv⟩:=hv
 rw[QdM] at hv
 have hpc:pick ops.toList [s.c]=[o]:=by simp only[pick,Qb5 ho]
 rw[hpc] at hv
 have hCL:∀ j∈s.C,L.getD j false=true:=fun j hj=>Qdc ho hd (so.cc j hj)
 have hcore:=h.core
 rw[hcs] at hcore
 obtain ⟨rb',β',S',k1,k2,k3,k4,k5,k6⟩:=Qk3 (l:=s.C) (cs:=r.flatMap (·.C)) hcore (by rw [<- hcs]; exact h.rv) (by rw [<- hcs]; exact h.rbo) hCL
  (by
   rw[<- hcs]
   intro j hj
   obtain⟨oj,tj,q1,q2,q3,q4⟩:=hcd j hj
   refine⟨oj,tj,q1,q2,q3,fun i hi hne=>?_⟩
   cases hu:QjH ops i tj with
   | false=>rfl
   | true =>
     obtain⟨oi,_,p1,_⟩:=hcd i hi
     exact absurd (q4 i (Ja.1 p1).1 hne hu) (crSp i hi))
  (by rw[<- hcs]; exact hCrn) hv
 -- the operation itself
 have hseen:∀ u∈o.looksAt ops,¬ Ql8 ops fl (r.flatMap (·.C)) L u:=fun u hu=>
  seen st.g st.fl_sub hcdr ho hd (Q7 ho hu) hSpn.1 hL (fun hf=>absurd (st.fl_sub _ hf) hcFl)
 have hs:=k2.only hseen
 have hrun:=QpB (S':=S'.only (o.looksAt ops)) (fun t ht=>Qed S' _ t ht) rfl rfl k1
 refine Qle hs hrun (fun β2 d v hp2 w2 e1 e2 e3 hfit hK=>?_)
 obtain⟨d',hp',heq,hag,hrunH⟩:=hK
 have hfit':S'.fits o.dst=true:=hfit
 have hhp:hp'=hp2:=by
  have:=congrArg St.hp heq
  rw[St.put_hp,St.put_hp] at this
  exact this.symm
 subst hhp
 have hS1:(S'.at hp').put o.dst d' = (S'.at hp').put o.dst d:=by
  cases hdd:o.dst with
  | none=>rfl
  | some t =>
    rw[hdd] at heq
    have:=congrArg St.tm heq
    simp only[St.put,List.cons.injEq,Prod.mk.injEq] at this
    rw[this.1.2]
 rw[hS1] at hag hrunH
 have step:=k2.step e1 e2 e3 hfit'
 generalize hS1e:(S'.at hp').put o.dst d=S1 at hag hrunH step
 have l1:∀ t,o.dst≠some t->look S1.tm t=look S'.tm t:=fun t ht=>by rw[<- hS1e,Qar,if_neg ht]; rfl
 have n1:S1.nt=S'.nt:=by rw[<- hS1e,St.put_nt]; rfl
 have h1hp:S1.hp=hp':=by rw[<- hS1e,St.put_hp]; rfl
 have hpairAll:=Qc1 st.g (fun f hf=>hf) st.g.fo st.g.nf
 rw[st.hFl,hHs,<- JU,JK] at hpairAll
 obtain⟨hpair1,_,_⟩:=hpairAll
 rw[JK] at hpair1
 obtain⟨_,hpairH,hpairX⟩:=hpair1
 obtain⟨S2,m1,m2,m3,m4,m5,m6⟩:=QgC (fun f hf=>by obtain⟨of,tf,q1,q2,q3,q4,_⟩:=st.g.fl f (hHFl f hf); exact⟨of,tf,q1,q2,q3,q4⟩) hpairH hrunH
 refine hn rb' β2 S2 _ _ ?_ m1
 have hsz:s.c<L.size:=by rw[h.lsz]; exact hclt
 have hself:=QiB hsz
 have hoth:∀ i,i≠s.c->(L.setIfInBounds s.c true).getD i false=L.getD i false:=fun i hi=>getD_set_ne false (Ne.symm hi)
 have hmono:∀ i,L.getD i false=true->(L.setIfInBounds s.c true).getD i false=true:=fun i hi=>getD_set_true hi
 have hHL:∀ f∈s.H,L.getD f false=false:=fun f hf=>h.flo f (by rw[hHs]; exact Jj _ hf)
 have hcdo:∀ t,o.dst=some t->dstOf ops s.c=some t:=fun t ht=>by simp[dstOf,ho,ht]
 -- slots of others that this operation does not write
 have keepF:∀ f∈fl,L.getD f false=false->∀ of,ops[f]?=some of->∀ u∈of.looksAt ops,look S2.tm u=look S.tm u/\look S1.tm u=look S.tm u:=by
  intro f hf hLf of hof u hu
  have a1:o.dst≠some u:=fun e=>by
   rcases st.g.sp s.c hcSp u (hcdo u e) f (st.fl_sub f hf) (Qnb hof hu) with hb | hb
   ·have:=Qdc ho hd hb; rw[hLf] at this; cases this
   ·rw[(so.fc f hf).1] at hb; cases hb
  have a2:∀ j∈s.C,dstOf ops j≠some u:=fun j hj e=>by
   obtain⟨oj,tj,q1,q2,q3,q4⟩:=so.cd j hj
   have:tj=u:=by simp only[dstOf,q1] at e; rw[q3] at e; exact Jn.inj e
   subst this
   exact flSp f (st.fl_sub f hf) (q4 f (Ja.1 hof).1 (fun e=>(st.g.fs f (st.fl_sub f hf)).2 (e▸st.cr_sub j (by rw[hcs]; exact Jj _ hj))) (Q7 hof hu))
  have a3:∀ g∈s.H,dstOf ops g≠some u:=fun g hg e=>by
   have:=hpairX f hf g hg u e
   rw[Q7 hof hu] at this; cases this
  exact⟨(m5 u a3).trans ((l1 u a1).trans (k6 u a2)),(l1 u a1).trans (k6 u a2)⟩
 have keepD:∀ f∈fl,L.getD f false=false->∀ t,dstOf ops f=some t->f<ops.size->look S2.tm t=look S.tm t:=by
  intro f hf hLf t ht hflt
  have a1:o.dst≠some t:=fun e=>by
   obtain⟨of,tf,q1,_,q2,_,q3⟩:=st.g.fl f (st.fl_sub f hf)
   have:tf=t:=by simp only[dstOf,q1] at ht; rw[q2] at ht; exact Jn.inj ht
   subst this
   have:=Qdc ho hd (q3 s.c hclt (fun e=>hcFl (e▸st.fl_sub f hf)) (QaE (hcdo tf e)))
   rw[hLf] at this; cases this
  have a2:∀ j∈s.C,dstOf ops j≠some t:=fun j hj e=>by
   obtain⟨oj,tj,q1,q2,q3,q4⟩:=so.cd j hj
   have:tj=t:=by simp only[dstOf,q1] at e; rw[q3] at e; exact Jn.inj e
   subst this
   exact flSp f (st.fl_sub f hf) (q4 f hflt (fun e=>(st.g.fs f (st.fl_sub f hf)).2 (e▸st.cr_sub j (by rw[hcs]; exact Jj _ hj))) (QaE ht))
  have a3:∀ g∈s.H,dstOf ops g≠some t:=fun g hg e=>by
   have:=hpairX f hf g hg t e
   rw[QaE ht] at this; cases this
  exact(m5 t a3).trans ((l1 t a1).trans (k6 t a2))
 have keepC:∀ j∈r.flatMap (·.C),L.getD j false=true->∀ oj,ops[j]?=some oj->∀ u∈oj.looksAt ops,look S2.tm u=look S'.tm u:=by
  intro j hj hLj oj hoj u hu
  have hjc:j∈(s::r).flatMap (·.C):=by rw[hcs]; exact Jh _ hj
  have hdj:=h.clo j oj hoj hLj
  have a1:o.dst≠some u:=fun e=>by
   have:=Qdc hoj hdj (st.g.cr j (st.cr_sub j hjc) s.c u hclt (hcdo u e) (fun e=>hcCr (e▸st.cr_sub j hjc)) (Qnb hoj hu))
   rw[hL] at this; cases this
  have a3:∀ g∈s.H,dstOf ops g≠some u:=fun g hg e=>by
   obtain⟨og,tg,q1,_,q2,_,q3⟩:=st.g.fl g (hHFl g hg)
   have:tg=u:=by simp only[dstOf,q1] at e; rw[q2] at e; exact Jn.inj e
   subst this
   have:=Qdc hoj hdj (q3 j (Ja.1 hoj).1 (fun e=>(st.g.fs g (hHFl g hg)).2 (e▸st.cr_sub j hjc)) (Q7 hoj hu))
   rw[hHL g hg] at this; cases this
  exact(m5 u a3).trans (l1 u a1)
 have hfitu:∀ u,o.dst=some u->u<a.tmps.size:=fun u hu=>by rw[k2.size]; rw[hu] at hfit'; simpa [St.fits] using hfit'
 refine⟨by simp[h.lsz],?_,fun i hi=>?_,fun c hc=>?_,fun g hg=>?_,fun i oi hi hLi e he hb=>?_,fun j hj hLj=>?_,fun j b hb=>?_,fun f hf hLf=>?_⟩
 ·refine ⟨step.defers,by rw [m3]; exact step.size,fun t ht=>?_,by rw [m2]; exact step.heap,by rw [m2]; exact step.evo,by rw [m4]; exact step.base,step.sub,step.rinj,step.rnew⟩
  have a3:∀ g∈s.H,dstOf ops g≠some t:=fun g hg e=>ht (.inl ⟨g,Jh _ hg,by rw[hoth g (fun e=>hcFl (e▸hHFl g hg))]; exact hHL g hg,e⟩)
  rw[m5 t a3,m2]
  refine step.tm t fun⟨hid,_⟩=>ht ?_
  rcases hid with⟨f,hf,hLf,hfd⟩ | ⟨j,hj,hLj,hjd⟩
  ·exact .inl ⟨f,Jj _ hf,by rw[hoth f (fun e=>hcFl (e▸st.fl_sub f hf))]; exact hLf,hfd⟩
  ·exact .inr ⟨j,hj,hmono j hLj,hjd⟩
 ·rcases h.cov i hi with hc | hc | hc | hc
  ·exact .inl (hmono i hc)
  ·rw[hHs,<- JU] at hc; exact .inr (.inl hc)
  ·rw [Js,Jl] at hc
   rcases hc with rfl | hc
   ·exact .inl hself
   ·exact .inr (.inr (.inl hc))
  ·rw [hcs,JB] at hc
   rcases hc with hc | hc
   ·exact .inl (hmono i (hCL i hc))
   ·exact .inr (.inr (.inr hc))
 ·rw[hoth c (fun e=>hSpn.1 (e▸hc))]; exact h.sp c (by rw[Js]; exact Jf _ hc)
 ·rw [hoth g (fun e=>hcFl (by rw [<- e,st.hFl,hHs]; exact Jh _ (Jh _ hg)))]
  exact h.flo g (by rw[hHs]; exact Jh _ hg)
 ·by_cases e':i = s.c
  ·subst e'; rw[ho] at hi; cases hi; exact hmono _ (hd e he hb)
  ·rw[hoth i e'] at hLi; exact hmono _ (h.clo i oi hi hLi e he hb)
 ·have hjc:j ∈ (s :: r).flatMap (·.C):=by rw [hcs]; exact Jh _ hj
  have hjne:j≠s.c:=fun e=>hcCr (e▸st.cr_sub j hjc)
  rw[hoth j hjne] at hLj
  obtain⟨oj,tj,dj,B,b,q1,q2,q3,q4,q5⟩:=k3 j hj hLj
  refine⟨oj,tj,dj,B,b,q1,q2,q3,?_,?_⟩
  ·rw [Qh3 (ev:=fun x=>Qo true (S'.ev x)) (fun x hx=>by show Qo true _ = Qo true _; rw [Qhm (keepC j hj hLj oj q1) x hx])]
   exact q4
  ·have hne:¬ (o.dst = some tj):=fun e=>by
    obtain⟨oj',tj',r1,_,r2,r3⟩:=hcdr j hj
    rw[q1] at r1; cases r1
    rw[q2] at r2; cases r2
    exact hSpn.1 (r3 s.c hclt hjne.symm (QaE (hcdo tj e)))
   rw[Qbn hfitu,if_neg hne,m2,h1hp]
   exact q5.evo k2.heap e1
 ·obtain ⟨r1,r2⟩:=k4 j b hb
  exact⟨r1,hmono j r2⟩
 ·rcases JB.1 hf with hf | hf
  ·have hfne:f ≠ s.c:=fun e=>hcFl (e ▸ st.fl_sub f hf)
   rw[hoth f hfne] at hLf
   obtain⟨of,tf,q1,q2,q3,_,_⟩:=st.g.fl f (st.fl_sub f hf)
   have hflt:f<ops.size:=(Ja.1 q1).1
   refine(h.pend f hf hLf).move q1 q3 q2 (fun u hu=>(keepF f hf hLf of q1 u hu).1) (keepD f hf hLf tf (by simp[dstOf,q1,q3]) hflt) (m3.trans (n1.trans k5)) (fun G hG k hk=>?_)
   have hF:f∈s.F:=by
    rcases so.ff f hf with hF | hb
    ·exact hF
    ·have:=Qdc ho hd hb; rw[hLf] at this; cases this
   have hag1:=Qk2 hag of (QfI (Qb5 q1) hF)
   have hg1:QF ops.toList S1 of=some G:=by rw[Qbb (S:=S) (fun u hu=>(keepF f hf hLf of q1 u hu).2)]; exact hG
   rw[hg1] at hag1
   have hft:QbW (fun x=>Qo G (S1.ev x)) of.op=QbW (fun x=>Qo G (S.ev x)) of.op:=QoH fun x hx=>by rw[Qhm (S:=S) (fun u hu=>(keepF f hf hLf of q1 u hu).2) x hx]
   have:=QhG hag1 k (by rw[hft]; exact hk)
   rw[m2]; exact this
  ·exact m6 f hf
theorem Qlc (hK:∀ β S a w,Sim O β S a w->K S->Q .normal a w):∀ (fuel:Nat) (L:Array Bool) (a:Act) (w:World) (fl:List Nat) (rs:List Seg) (rb:Nat->Option Nat) (β:Map) (S:St),
 (Jk ops.size).countP (fun i=>!L.getD i false)<=fuel->Stat ops Fl Sp Cr fl rs->MInv P ops O fl rs rb β S L a w->vsp P ops.toList rs K S->wpAny P .any ops Q fuel L a w:=by
 have done : ∀ (L:Array Bool) (a:Act) (w:World) (fl:List Nat) (rs:List Seg) (rb:Nat->Option Nat) (β:Map) (S:St),Region.ready .any ops L = []->Stat ops Fl Sp Cr fl rs->MInv P ops O fl rs rb β S L a w->vsp P ops.toList rs K S->Q .normal a w:=by
  intro L a w fl rs rb β S hready st h hv
  have all:∀ i,i < ops.size->L.getD i false = true:=by
   intro i
   induction i using JM with
   | _ i ih =>
     intro hlt
     cases hl:L.getD i false with
     | true=>rfl
     | false =>
       have ho:ops[i]?=some ops[i]:=JR hlt
       have hmem:i∈Region.ready .any ops L:=by
        rw[mem_ready]
        have hsz:i<L.size:=by rw[h.lsz]; exact hlt
        refine⟨by simpa [hsz] using hl,ops[i],ho,fun e he hb=>?_⟩
        have hlt':=st.g.back i _ ho e he hb
        exact ih e.on hlt' (J6 hlt' hlt)
       rw[hready] at hmem
       cases hmem
  cases rs with
  | cons s r =>
    have h1:=h.sp s.c (by simp)
    have hs:=st.ok
    simp only[QbC,Jb] at hs
    have h2:=all s.c (Qdi hs.1).lt
    rw[h1] at h2; cases h2
  | nil =>
    have hrb:∀ j b,rb j≠some b:=fun j b hb=>by have:=(h.rbo j b hb).1; simp at this
    have hβ:β=⟨β.f,O.β.X⟩:=by
     obtain⟨f,X⟩:=β
     have:X=O.β.X:=by
      funext b
      exact propext ((h.core.sub b).trans ⟨fun x=>x.elim id (fun⟨j,hj⟩=>absurd hj (hrb j b)),.inl⟩)
     rw[this]
    refine hK β S a w ⟨h.core.defers,h.core.size,fun t=>h.core.tm t ?_,h.core.heap,by have:=h.core.evo; rw[<- hβ] at this; exact this,h.core.base⟩ hv
    rintro(⟨f,hf,hL,hd⟩ | ⟨j,hj,_⟩)
    ·obtain ⟨of,_,q1,_⟩:=st.g.fl f (st.fl_sub f hf)
     have:=all f (Ja.1 q1).1
     rw[hL] at this; cases this
    ·simp at hj
 intro fuel
 induction fuel with
 | zero =>
   intro L a w fl rs rb β S hc st h hv
   have hready:Region.ready .any ops L=[]:=by
    apply JH.2
    intro j hj
    obtain⟨h0,o,ho,_⟩:=mem_ready.1 hj
    have hlt:j<ops.size:=(Ja.1 ho).1
    have:0<(Jk ops.size).countP (fun i=>!L.getD i false):=by
     rw[JZ]
     refine⟨j,Jm.2 hlt,?_⟩
     have hsz:j<L.size:=by rw[h.lsz]; exact hlt
     simp[hsz] at h0 |-
     exact h0
    omega
   exact⟨hready,done L a w fl rs rb β S hready st h hv⟩
 | succ fuel ih =>
   intro L a w fl rs rb β S hc st h hv
   refine⟨fun hready=>done L a w fl rs rb β S hready st h hv,fun j hj=>?_⟩
   obtain⟨h0,o,ho,hd⟩:=mem_ready.1 hj
   have hlt:j<ops.size:=(Ja.1 ho).1
   have hsz:j<L.size:=by rw[h.lsz]; exact hlt
   have hL:L.getD j false=false:=by simp[hsz] at h0 |-; exact h0
   have hcnt:(Jk ops.size).countP (fun i=>!(L.setIfInBounds j true).getD i false)<=fuel:=by
    have:(Jk ops.size).countP (fun i=>!(L.setIfInBounds j true).getD i false)<(Jk ops.size).countP (fun i=>!L.getD i false):=by
     refine Qez (Jm.2 hlt) (by rw[hL]; rfl) (by simp[hsz]) (fun i hp=>?_)
     by_cases hij:i=j
     ·rw[hij,hL]; rfl
     ·rw[getD_set_ne false (Ne.symm hij)] at hp; exact hp
    omega
   unfold wpOp
   rw[ho]
   simp only
   have dep:∀ i,bnd ops j i=true->L.getD i false=true:=fun i hb=>Qdc ho hd hb
   rcases h.cov j hlt with hx | hx | hx | hx
   ·rw[hL] at hx; cases hx
   ·rcases JB.1 hx with hf | hf
    ·exact QoK st h hf ho hL hd fun β' a' w' h'=>ih _ a' w' fl rs rb β' S hcnt st h' hv
    ·exfalso
     rcases QjU st.ok j hf with⟨c,h1,h2⟩ | ⟨g,h1,h2⟩
     ·have:=dep c h2; rw[h.sp c h1] at this; cases this
     ·have:=dep g h2; rw[h.flo g h1] at this; cases this
   ·cases rs with
    | nil=>simp at hx
    | cons s r =>
      rw[Js,Jl] at hx
      rcases hx with rfl | hx
      ·have st':Stat ops Fl Sp Cr (fl ++ s.H) r:=by
        have hs:=st.ok
        simp only[QbC,Jb] at hs
        obtain⟨dn,e1⟩:=st.hSp
        obtain⟨dn',e2⟩:=st.hCr
        exact⟨st.g,by rw[st.hFl,Jr,JU],⟨dn++[s.c],by rw[e1]; simp⟩,⟨dn'++s.C,by rw[e2,Jr]; simp⟩,hs.2⟩
       exact Qn3 st h ho hd hv fun rb' β' S' a' w' h' hv'=>ih _ a' w' (fl++s.H) r rb' β' S' hcnt st' h' hv'
      ·exfalso
       obtain⟨c',h1,h2⟩:=QjV st.ok j hx
       have:=dep c' h2; rw[h.sp c' h1] at this; cases this
   ·cases rs with
    | nil=>simp at hx
    | cons s r =>
      have hs:=st.ok
      simp only[QbC,Jb] at hs
      rcases(Qdi hs.1).rr j hx with hR | ⟨i,hi,hb⟩
      ·have hv2:=hv
       unfold vsp at hv2
       obtain⟨f1,f2⟩:=QgN hv2.1 o (QfI (Qb5 ho) hR)
       exact Qtc st h hx ho hL hd f1 f2 fun rb' β' a' w' h'=>ih _ a' w' fl (s::r) rb' β' S hcnt st h' hv
      ·exfalso
       have:=dep i hb
       rcases JB.1 hi with hi | hi
       ·rw[h.sp i hi] at this; cases this
       ·rw[h.flo i hi] at this; cases this
theorem Qhv(H0:List Nat)(segs:List Seg)(hok:QiA ops H0 segs=true)(h:QaL P ops.toList (pick ops.toList H0) (vsp P ops.toList segs (Q .normal)) S)(hs:Sim O β S a w):
 wpAny P .any ops (Ql1 O Q) ops.size (Jo ops.size false) a { w with drawn:=w.drawn+1 }:=by
 simp only[QiA,Jb] at hok
 obtain⟨⟨hg,hsg⟩,_⟩:=hok
 have g:=Qsz hg
 have hpair:=Qc1 g (fun f hf=>hf) g.fo g.nf
 rw[JK] at hpair
 obtain⟨S2,m1,m2,m3,m4,m5,m6⟩:=QgC (fun f hf=>by obtain⟨of,tf,q1,q2,q3,q4,_⟩:=g.fl f (Jj _ hf); exact⟨of,tf,q1,q2,q3,q4⟩) hpair.1 h
 have e:Evo w β S.hp w.drew β S.hp:=Qbq w β S.hp
 have hfalse:∀ i,(Jo ops.size false).getD i false=false:=fun i=>by
  by_cases hi:i<ops.size<;>simp[hi]
 have st:Stat ops (H0++segs.flatMap (·.H)) (segs.map (·.c)) (segs.flatMap (·.C)) H0 segs:=⟨g,rfl,⟨[],rfl⟩,⟨[],rfl⟩,hsg⟩
 refine Qlc (O:=O) (Q:=Ql1 O Q) (fun β S a w hs hk=>⟨β,S,hs,hk⟩) ops.size (Jo ops.size false) a _ H0 segs (fun _=>none) β S2 ?_ st ?_ m1
 ·have:=JX (p:=fun i=>!(Jo ops.size false).getD i false) (l:=Jk ops.size)
  simpa using this
 ·refine ⟨by simp,⟨hs.defers,by rw [m3]; exact hs.size,fun t ht=>?_,by rw [m2]; exact hs.heap.drew,?_,by rw [m4]; exact hs.base,fun b=>?_,fun i j b hi=>(by cases hi),fun j b hj=>(by cases hj)⟩,fun i hi=>?_,fun c _=>hfalse c,fun f _=>hfalse f,fun i o _ hl=>?_,fun j _ hl=>?_,fun j b hb=>(by cases hb),fun f hf _=>m6 f hf⟩
  ·have a3:∀ f ∈ H0,dstOf ops f ≠ some t:=fun f hf e=>ht (.inl ⟨f,hf,hfalse f,e⟩)
   rw[m5 t a3,m2]
   exact(hs.tm t).mono e
  ·rw [m2]
   have ev:=hs.evo.trans e
   have hX:β.X=O.β.X:=ev.X
   have:=ev.reX O.β.X
   exact this
  ·have hX:β.X = O.β.X:=hs.evo.X
   rw[hX]
   exact⟨.inl,fun x=>x.elim (fun h=>h) (fun⟨j,hj⟩=>(by cases hj))⟩
  ·rcases g.all i hi with hx | hx | hx
   ·exact .inr (.inl hx)
   ·exact .inr (.inr (.inl hx))
   ·exact .inr (.inr (.inr hx))
  ·rw[hfalse] at hl; cases hl
  ·rw[hfalse] at hl; cases hl
theorem Qc{id:Nat}(H0:List Nat)(segs:List Seg)(hm:P.follows .mixedOrders=true)(hok:QiA ops H0 segs=true)(h:QaL P ops.toList (pick ops.toList H0) (vsp P ops.toList segs (Q .normal)) S):VDraw P id ops Q S:=
 fun _ _ _ _ hs=>wp_region_any hm (Qhv H0 segs hok h hs)
end
end Go.V
namespace Go.V
def QyS(o:Option Oper)(l:List Oper):List Oper:=match o with | some o=>o::l | none=>l
def QAx(P:Program)(all:List Oper)(l:List Oper)(K:St->Prop)(S:St):Prop:=QaL P all l K S
def QCH(P:Program)(all:List Oper)(F H:List Nat)(r:List Seg)(K:St->Prop)(S S1:St):Prop:=Qhq all S S1 (pick all F)/\QAx P all (pick all H) (vsp P all r K) S1
def QAA(A B:Prop):Prop:=A/\B
def Qwh(x:Option (DV×Qa)):Option (DV×Blk):=match x with
 | some (.ptr 0 0,[B])=>some (.ptr 0 0,B)
 | some (.own 0 sz 0 n,[B])=>some (.own 0 sz 0 n,B)
 | _=>none
def Qmk(x:Option (DV×Blk))(l:List DV):Prop:=match x with
 | some (_,B)=>B.live=true/\0<B.cells.length/\DV.nums.go (fun _=>false) B.cells=true/\DV.nums.go (fun _=>false) l=true
 | none=>False
theorem Qvs:pick all []=[]:=rfl
def QrI:pick all (i::r)=QyS all[i]? (pick all r):=by
 cases h:all[i]?<;>simp[pick,QyS,h]
theorem Qom:QyS (some o) l=o::l:=rfl
def Qxk:vsp P all [] K S=K S:=by rw[vsp]
def QtV:vsp P all (⟨R,C,c,F,H⟩::r) K S=QAA (Qcx P S (pick all R)) (QAx P all (pick all (C++[c])) (QCH P all F H r K S) S):=by
 rw[vsp]; rfl
def Qpy:QAA True B=B:=by simp[QAA]
theorem Qxl:QAx P all l K S=QaL P all l K S:=rfl
theorem Qxm:QCH P all F H r K S S1=QAA (Qhq all S S1 (pick all F)) (QAx P all (pick all H) (vsp P all r K) S1):=rfl
@[congr] def QAz(h:A=A'):QAA A B=QAA A' B:=by rw[h]
@[congr] def QAw(P:Program)(all:List Oper)(K:St->Prop)(S:St)(h:l=l'):QAx P all l K S=QAx P all l' K S:=by rw[h]
@[congr] theorem QAO(P:Program)(all:List Oper)(segs:List Seg)(K:St->Prop)(S:St):vsp P all segs K S=vsp P all segs K S:=rfl
@[congr] theorem QAy(P:Program)(all:List Oper)(F H:List Nat)(r:List Seg)(K:St->Prop)(S S1:St):QCH P all F H r K S S1=QCH P all F H r K S S1:=rfl
theorem Qtb:Qcx P S []=True:=rfl
theorem QoP:Qcx P S (o::r)=((S.fits o.dst=true/\Qff P (evG true S) o.op)/\Qcx P S r):=rfl
def Qtd:Qff P ev o=Qmk (Qwh (vop P ev [] o)) (o.operands.toList.map ev):=by
 unfold Qff Qmk QtR Qwh; rfl
theorem Qte:Qwh (some (.ptr 0 0,[B]))=some (.ptr 0 0,B):=rfl
theorem Qtf:Qwh (some (.own 0 sz 0 n,[B]))=some (.own 0 sz 0 n,B):=rfl
theorem QkR:Qmk (some (d,⟨T,b,cs⟩)) l=(b=true/\0<cs.length/\DV.nums.go (fun _=>false) cs=true/\DV.nums.go (fun _=>false) l=true):=rfl
theorem QtG:Qhq all S S1 []=True:=rfl
theorem Qpe:Qhq all S S1 (o::r)=(QnC S S1 o (QF all S1 o)/\Qhq all S S1 r):=rfl
theorem Qmt:QnC S S1 o (some G)=Qge S.hp S1.hp (QbW (evG G S1) o.op).1:=rfl
theorem Qn7:Qge hp hp1 []=True:=rfl
theorem QlD:Qge hp hp1 (k::r)=(hp1[k]?=hp[k]?/\Qge hp hp1 r):=rfl
end Go.V
