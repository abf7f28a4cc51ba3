/-
  Contracts of functions and plain laws. No condition.
-/
import Derived.Test.YtepdccfgnafgcaaGreatV1
import Derived.Orders
import Derived.Carry
import Derived.Deep.Slices
import Derived.OpenShut
set_option linter.unusedSimpArgs false
set_option linter.unusedVariables false
set_option linter.defProp false
set_option maxRecDepth 100000
set_option maxHeartbeats 8000000
set_option autoImplicit true
set_option relaxedAutoImplicit true
open Array renaming getElem?_eq_some_iff->Ja,replicate->Jo,getD_eq_getD_getElem?->Jv,getElem?_eq_getElem->JR
open Bool renaming and_eq_true->Jb,not_eq_true'->Ju,or_eq_true->Jy
open List renaming getElem?_eq_some_iff->Jc,getElem?_eq_getElem->Jd,all_eq_true->Je,mem_cons_of_mem->Jf,getElem?_map->Jg,mem_append_right->Jh,getD_eq_getElem?_getD->Ji,mem_append_left->Jj,range->Jk,mem_cons->Jl,mem_range->Jm,getElem?_set_ne->Jq,flatMap_cons->Jr,map_cons->Js,getElem?_eq_none->Jt,getElem?_append_left->Jz,contains_eq_mem->JA,mem_append->JB,map_congr_left->JC,any_eq_true->JD,getElem?_append_right->JE,getElem?_set_self->JG,eq_nil_iff_forall_not_mem->JH,cons_append->JI,mem_of_getElem?->JJ,pairwise_append->JK,idxOf_lt_length_of_mem->JN,length_map->JO,nodup_cons->JP,getElem?_take->JQ,ext_getElem?->JS,nodup_append->JT,append_assoc->JU,length_eq_one_iff->JW,countP_le_length->JX,append_nil->JY,countP_pos_iff->JZ,getElem?_range->J0,pairwise_cons->J1,mem_map->J7,length->J9
open Nat renaming lt_of_lt_of_le->Jp,le_refl->Jw,zero_le->JL,strongRecOn->JM,le_of_not_lt->JV,lt_trichotomy->J2,not_lt_zero->J4,le_total->J5,lt_trans->J6,le_zero->J8
open Option renaming some->Jn,map_some->JF,getD_some->J3
namespace Go.V
def QmL(P:Program)(S:St):ResultVar->Option DV
 | .tmp t=>some (look S.tm t)
 | .cell a T=>Qeq P S.hp T (look S.tm a)
def QY(P:Program)(S:St)(rs:List ResultVar):Option DV:=
 match Qi (rs.map (QmL P S)) with
 | some [d]=>some d
 | some ds=>some (.tup ds)
 | none=>none
def QoM(tmps:Array Value):ResultVar->Sem Value
 | .tmp t=>pure (tmps.getD t undef)
 | .cell a t=>do loadVar t (<- asAddr (tmps.getD a undef))
theorem Qql(fn:Func)(tmps:Array Value):results fn tmps=(do
 let vs <- fn.results.mapM (QoM tmps)
 pure (if h:vs.size=1 then vs[0] else .tuple vs)):=rfl
def QpK (h:Sim O β S a w) (hr:QmL P S r = some d):
 ∃ v,(QoM a.tmps r).run P w=.ok v w/\RelD w β S.hp d v:=by
 cases r with
 | tmp t =>
   simp[QmL] at hr
   subst hr
   exact⟨_,rfl,h.tm t⟩
 | cell ad T =>
   simp only[QmL] at hr
   obtain⟨v,h1,h2⟩:=QgG (P:=P) h.heap (h.tm ad) hr
   refine⟨v,?_,h2⟩
   have hrel:=h.tm ad
   simp only[QoM]
   generalize a.tmps.getD ad undef=u at hrel h1 |-
   generalize look S.tm ad=e at hrel hr
   cases hrel with
   | ptr k off b hk hm=>simpa [Instr.loadAt,Instr.sureAddr,asAddr] using h1
   | ip cs ad' val h1' h2' h3'=>simpa [Instr.loadAt,Instr.sureAddr,asAddr] using h1
   | _=>simp[Qeq] at hr
def Qd3 (h:Sim O β S a w) (hr:QY P S fn.results.toList = some d):
 ∃ v,(results fn a.tmps).run P w=.ok v w/\RelD w β S.hp d v:=by
 have key:∀ (rs:List ResultVar) (ds:List DV),Qi (rs.map (QmL P S)) = some ds->∃ vs:List Value,
  (rs.mapM (QoM a.tmps)).run P w=.ok vs w/\RelL w β S.hp ds vs.toArray:=by
  intro rs
  induction rs with
  | nil=>intro ds h; simp[Qi] at h; subst h; exact⟨[],by simp,by simp[RelL]⟩
  | cons r rs ih =>
    intro ds hds
    cases h1:QmL P S r with
    | none=>simp[Qi,h1] at hds
    | some d =>
      cases h2:Qi (rs.map (QmL P S)) with
      | none=>simp[Qi,h1,h2] at hds
      | some ds' =>
        simp[Qi,h1,h2] at hds
        subst hds
        obtain⟨vs,e1,e2,e3⟩:=ih ds' h2
        obtain⟨v,e4,e5⟩:=QpK (P:=P) h h1
        refine⟨v::vs,?_,by simpa using e2,fun i d hi=>?_⟩
        ·rw [List.mapM_cons]
         simp only[Sem.run_bind,e4,Result.andThen_ok,e1,Sem.run_pure]
        ·cases i with
         | zero=>simp at hi; subst hi; simpa using e5
         | succ i =>
           have:=e3 i d (by simpa using hi)
           simpa [Jv] using this
 unfold QY at hr
 cases hds:Qi (fn.results.toList.map (QmL P S)) with
 | none=>simp[hds] at hr
 | some ds =>
   obtain⟨vs,e1,e2⟩:=key _ _ hds
   have hrun:∀ v,(if h:vs.toArray.size=1 then vs.toArray[0] else Value.tuple vs.toArray)=v->(results fn a.tmps).run P w=.ok v w:=by
    intro v hv
    rw[Qql,Array.mapM_eq_mapM_toList]
    simp only[Sem.run_bind,Sem.run_map]
    rw[e1]
    simp only[Result.andThen_ok,Sem.run_pure]
    rw[<- hv]
   rw[hds] at hr
   split at hr
   ·rename_i d' he
    simp at hr he
    subst hr he
    have hl:vs.length=1:=by have:=e2.1; simpa using this.symm
    obtain⟨v,rfl⟩:=JW.1 hl
    exact⟨v,hrun v (by simp),by have:=e2.2 0 d' rfl; simpa using this⟩
   ·rename_i ds' hne he
    simp at hr he
    subst hr he
    refine⟨.tuple vs.toArray,hrun _ ?_,.tup _ _ e2.1 e2.2⟩
    rw[dif_neg]
    intro h1
    have hl:ds.length=1:=by rw[e2.1]; exact h1
    obtain⟨x,hx⟩:=JW.1 hl
    exact hne x hx
   ·simp at hr
def QbB(n:Nat)(hp:Qa):Option Qa:=
 Qi ((hp.take n).map fun B=>if B.live then (Qi (B.cells.map (QcU n hp))).map fun cs=>{ B with cells:=cs } else some { B with cells:=[] })
def Qv9(n:Nat)(hp:Qa)(d:DV)(R:DV->Qa->Prop):Prop:=
 match frz n hp d,QbB n hp with
 | some d',some hp'=>R d' hp'
 | _,_=>False
def Qc4 (P:Program) (rs:List ResultVar) (n:Nat) (R:DV->Qa->Prop) (e:Exit) (S:St):Prop :=
 match e with
 | .normal | .ret=>match QY P S rs with
   | some d=>Qv9 n S.hp d R
   | none=>False
 | _=>False
def Qa4 (P:Program) (rs:List ResultVar) (R:DV->Qa->Prop) (e:Exit) (S:St):Prop :=
 match e with
 | .normal | .ret=>match QY P S rs with
   | some d=>R d S.hp
   | none=>False
 | _=>False
def QdA (hh:HeapRel w β hp) (hn:n<=hp.length) (hd:RelD w β hp d v) (h:Qv9 n hp d R):
 ∃ d' hp',R d' hp'/\RelD w β hp' d' v/\HeapRel w β hp'/\hp'.length=n/\∀ b,live β hp' b->live β hp b:=by
 unfold Qv9 at h
 split at h
 ·rename_i d' hp' h1 h2
  unfold QbB at h2
  obtain⟨g1,g2⟩:=QH h2
  have hlen:hp'.length=n:=by rw[g1]; simp; omega
  have at_:∀ {k:Nat} {B':Blk},hp'[k]? = some B'->∃ B,k < n/\hp[k]? = some B/\B'.ty = B.ty/\B'.live = B.live/\(B.live = true->Qi (B.cells.map (QcU n hp)) = some B'.cells):=by
   intro k B' hk
   have g3:=g2 k B' hk
   rw[Jg,JQ] at g3
   split at g3
   ·rename_i hkn
    cases hb:hp[k]? with
    | none=>simp[hb] at g3
    | some B =>
      simp only[hb,JF,Jn.injEq] at g3
      refine⟨B,hkn,rfl,?_⟩
      split at g3
      ·rename_i hl
       cases hc:Qi (B.cells.map (QcU n hp)) with
       | none=>simp[hc] at g3
       | some cs=>simp[hc] at g3; subst g3; exact⟨rfl,rfl,fun _=>rfl⟩
      ·rename_i hl
       simp at g3
       subst g3
       exact⟨rfl,rfl,fun h=>absurd h hl⟩
   ·simp at g3
  have hsub:∀ b,live β hp' b->live β hp b:=by
   rintro b ⟨k,B',k1,k2,k3⟩
   obtain⟨B,_,q1,_,q2,_⟩:=at_ k1
   exact⟨k,B,q1,by rw[<- q2]; exact k2,k3⟩
  have hlv:Leaves w β hp n (img β hp'):=by
   refine⟨fun b hb=>hb.imp id (hsub b),fun k B b hk h1 h2 h3 hb=>?_⟩
   rcases hb with hb | ⟨j,D',j1,j2,j3⟩
   ·exact hh.avoid k B b h1 h2 h3 hb
   ·obtain ⟨D,q0,q1,_,q2,_⟩:=at_ j1
    have:=hh.inj k j B D b h1 q1 h2 (by rw[<- q2]; exact j2) h3 j3
    omega
  refine⟨d',hp',h,QuP hh hlv (fun _ _=>rfl) (by omega) hd h1,?_,hlen,hsub⟩
  refine⟨fun k B' b hk hl hb=>?_,fun k B' hk hl hb=>?_,fun i j B B' b hi hj h1 h2 h3 h4=>?_,fun k B' b hk hl hb=>?_,hh.bound⟩
  ·obtain ⟨B,_,q1,q2,q3,q4⟩:=at_ hk
   have hl':B.live=true:=by rw[<- q3]; exact hl
   obtain⟨C,c1,c2,c3⟩:=hh.blk k B b q1 hl' hb
   have hcs:=q4 hl'
   obtain⟨e1,e2⟩:=QH hcs
   refine⟨C,by rw[q2]; exact c1,by rw[e1]; simpa using c2,fun i x hx=>?_⟩
   have e3:=e2 i x hx
   rw[Jg] at e3
   cases hc:B.cells[i]? with
   | none=>simp[hc] at e3
   | some y =>
     simp[hc] at e3
     refine⟨?_,QcA hh hlv (fun _ _=>rfl) (by omega) (c3 i y hc).2 e3⟩
     have hy:=(c3 i y hc).1
     unfold QcU at e3
     split at e3
     ·split at e3
      ·simp at e3; subst e3; rfl
      ·cases hz:Qih n hp 4 (.own _ _ _ _) with
       | none=>rw[hz] at e3; simp at e3
       | some p=>rw[hz] at e3; simp at e3; subst e3; rfl
     ·split at e3
      ·simp at e3; subst e3; rfl
      ·simp at e3
     ·simp at e3; subst e3; rfl
     ·simp at e3
     ·simp[DV.one] at hy
     ·simp at e3; subst e3; rfl
     ·simp at e3
  ·obtain ⟨B,_,q1,q2,q3,q4⟩:=at_ hk
   have hl':B.live=true:=by rw[<- q3]; exact hl
   have:=hh.none k B q1 hl' hb
   have hcs:=q4 hl'
   rw[this] at hcs
   simp[Qi] at hcs
   exact hcs
  ·obtain ⟨D,_,q1,_,q3,_⟩:=at_ hi
   obtain⟨D',_,q1',_,q3',_⟩:=at_ hj
   exact hh.inj i j D D' b q1 q1' (by rw[<- q3]; exact h1) (by rw[<- q3']; exact h2) h3 h4
  ·obtain ⟨D,_,q1,_,q3,_⟩:=at_ hk
   exact hh.avoid k D b q1 (by rw[<- q3]; exact hl) hb
 ·exact h.elim
def QhT:Nat->List DV->List (Nat×DV)
 | _,[]=>[]
 | i,d::r=>(i,d)::QhT (i+1) r
def QlW:∀ {i t:Nat},look (QhT i ds) t = if i<=t then (ds[t - i]?).getD .any else .any:=by
 induction ds with
 | nil=>intro i t; simp[QhT,look]
 | cons d r ih =>
   intro i t
   simp only[QhT,look]
   split
   ·rename_i h; subst h; simp
   ·rename_i h
    rw[ih]
    by_cases h1:i+1<=t
    ·rw [if_pos h1,if_pos (by omega)]
     have:t-i=(t-(i+1))+1:=by omega
     rw[this]; simp
    ·rw[if_neg h1,if_neg (by omega)]
def Qfe (hf:P.funcs[g]? = some fn) (hb:fn.body = some c) (hname:(fn.name == "runtime.NumGoroutine") = false) (hn:args.length<=fn.ntmps) (hp:∀ e S,post e S->(e = .normal\/e = .ret)/\∃ d,QY P S fn.results.toList = some d/\((h.length<=S.hp.length->Qv9 h.length S.hp d R)\/R d S.hp)) (hc:VWp P c post ⟨fn.ntmps,h.length,QhT 0 args,h⟩):VCalls P g args h R:=by
 refine⟨fun w β vs hh ha=>.inl ⟨fn,hf,hname,by rw[hb]; rfl,?_⟩⟩
 refine calls_of_wp hf hb ?_
 have hsz:vs.size=args.length:=ha.1.symm
 have hs:Sim ⟨w,β,h,[]⟩ β ⟨fn.ntmps,h.length,QhT 0 args,h⟩ { tmps:=vs ++ Jo (fn.ntmps - vs.size) undef,defers:=[] } w:=by
  refine⟨rfl,by simp; omega,fun t=>?_,hh,Evo.refl w β h,rfl⟩
  rw[QlW,if_pos (JL _),Nat.sub_zero]
  cases ht:args[t]? with
  | none=>exact .any _
  | some d =>
    have hlt:t<vs.size:=by rw[hsz]; exact(Jc.1 ht).1
    have e:(vs++Jo (fn.ntmps-vs.size) undef).getD t undef=vs.getD t undef:=by
     simp only[Jv]; rw[Array.getElem?_append_left hlt]
    show RelD w β h d ((vs++Jo (fn.ntmps-vs.size) undef).getD t undef)
    rw[e]
    exact ha.2 t d ht
 refine wp_mono (hc _ β _ w hs) fun e a' w' hq=>?_
 obtain⟨β',S',hs',hq⟩:=hq
 obtain⟨he,d,hr,hend⟩:=hp e S' hq
 obtain⟨v,r1,r2⟩:=Qd3 hs' hr
 have hlen:h.length<=S'.hp.length:=hs'.evo.len
 have fin:∃ v' r h' β'',Ending.returned v=.returned v'/\Evo w β h w' β'' h'/\HeapRel w' β'' h'/\RelD w' β'' h' r v'/\R r h':=by
  rcases hend with hend | hend
  ·obtain ⟨d',hp',k1,k2,k3,k4,k5⟩:=QdA hs'.heap hlen r2 (hend hlen)
   refine⟨v,d',hp',β',rfl,?_,k3,k2,k1⟩
   have ev:=hs'.evo
   exact⟨ev.os,ev.tape,ev.output,ev.size,by omega,ev.beta,ev.same,ev.shape,fun b hb hl=>ev.im b hb (k5 b hl),ev.X⟩
  ·exact⟨v,d,S'.hp,β',rfl,hs'.evo,hs'.heap,r2,hend⟩
 rcases he with rfl | rfl
 ·exact⟨hs'.defers,v,r1,fin⟩
 ·exact⟨hs'.defers,v,r1,fin⟩
def QkU(hf:P.funcs[g]?=some fn)(hb:fn.body=some c)(hname:(fn.name == "runtime.NumGoroutine")=false)(hn:args.length<=fn.ntmps)(hp:∀ e S,post e S->(e=.normal\/e=.ret)/\∃ d,QY P S fn.results.toList=some d/\((h.length<=S.hp.length->Qv9 h.length S.hp d R)\/R d S.hp))(hc:QC P c post ⟨fn.ntmps,h.length,QhT 0 args,h⟩):VCalls P g args h R:=
 Qfe hf hb hname hn hp (QA c _ _ hc)
def Qm5(hf:P.funcs[g]?=some fn)(hb:fn.body=some c)(hname:(fn.name == "runtime.NumGoroutine")=false)(hn:args.length<=fn.ntmps)(hc:QC P c (Qc4 P fn.results.toList h.length R) ⟨fn.ntmps,h.length,QhT 0 args,h⟩):VCalls P g args h R:=by
 refine QkU hf hb hname hn (fun e S hq=>?_) hc
 unfold Qc4 at hq
 split at hq
 ·split at hq
  ·rename_i d hd; exact⟨.inl rfl,d,hd,.inl fun _=>hq⟩
  ·exact hq.elim
 ·split at hq
  ·rename_i d hd; exact⟨.inr rfl,d,hd,.inl fun _=>hq⟩
  ·exact hq.elim
 ·exact hq.elim
def QO(hf:P.funcs[g]?=some fn)(hb:fn.body=some c)(hname:(fn.name == "runtime.NumGoroutine")=false)(hn:args.length<=fn.ntmps)(hc:QC P c (Qa4 P fn.results.toList R) ⟨fn.ntmps,h.length,QhT 0 args,h⟩):VCalls P g args h R:=by
 refine QkU hf hb hname hn (fun e S hq=>?_) hc
 unfold Qa4 at hq
 split at hq
 ·split at hq
  ·rename_i d hd; exact⟨.inl rfl,d,hd,.inr hq⟩
  ·exact hq.elim
 ·split at hq
  ·rename_i d hd; exact⟨.inr rfl,d,hd,.inr hq⟩
  ·exact hq.elim
 ·exact hq.elim
def QGP(tm:List (Nat×DV)):List (Nat×DV)->Prop
 | []=>True
 | (t,d)::r=>look tm t=d/\QGP tm r
def QG9:Qa->Qa->Prop
 | _,[]=>True
 | B::r,B'::r'=>B'=B/\QG9 r r'
 | [],_::_=>False
def Qsq(n:Nat):List (Nat×DV)->Prop
 | []=>True
 | (_,d)::r=>d.refs n=true/\Qsq n r
def QuF(n:Nat):Qa->Prop
 | []=>True
 | B::r=>(B.live=true->DV.refs.go n B.cells=true)/\QuF n r
def Le(S S':St):Prop:=S'.nt=S.nt/\S'.base=S.base/\S'.base<=S'.hp.length/\QGP S.tm S'.tm/\QG9 S.hp S'.hp/\(S'.hp.length=S.hp.length\/(Qsq S'.hp.length S'.tm/\QuF S'.hp.length S'.hp))
def QgP:∀ {tm':List (Nat × DV)},QGP tm tm'->∀ t,look tm' t = look tm t\/look tm' t = .any
 | [],_,t=>.inr rfl
 | (a,d) :: r,h,t=>by
   simp only[look]
   split
   ·rename_i e; subst e; exact .inl h.1.symm
   ·exact QgP h.2 t
def Qpg:∀ {hp hp':Qa},QG9 hp hp'->hp'.length<=hp.length/\∀ (k:Nat) (B:Blk),hp'[k]? = some B->hp[k]? = some B
 | hp,[],_=>⟨JL _,by simp⟩
 | B :: r,B' :: r',h=>by
   obtain⟨h1,h2⟩:=Qpg h.2
   refine⟨by simpa using h1,fun k D hk=>?_⟩
   cases k with
   | zero=>simp at hk |-; rw[<- hk]; exact h.1.symm
   | succ k=>simpa using h2 k D (by simpa using hk)
 | [],_::_,h=>h.elim
def QgO:∀ {tm:List (Nat × DV)},Qsq n tm->∀ t,(look tm t).refs n = true
 | [],_,t=>rfl
 | (a,d) :: r,h,t=>by
   simp only[look]
   split
   ·exact h.1
   ·exact QgO h.2 t
def QiU:∀ {hp:Qa},QuF n hp->∀ (k:Nat) (B:Blk),hp[k]?=some B->B.live=true->DV.refs.go n B.cells=true
 | [],_,k,B,h,_=>by simp at h
 | D::r,h,0,B,hk,hl=>by simp at hk; subst hk; exact h.1 hl
 | D::r,h,k+1,B,hk,hl=>QiU h.2 k B (by simpa using hk) hl
def Sim.le (h:Sim O β S a w) (hle:Le S S'):Sim O β S' a w:=by
 obtain⟨h1,hb1,hb2,h2,h3,h4⟩:=hle
 have hO:O.hp.length<=S'.hp.length:=by rw[h.base,<- hb1]; exact hb2
 obtain⟨hl,hg⟩:=Qpg h3
 have hsub:∀ b,live β S'.hp b->live β S.hp b:=fun b ⟨k,B,k1,k2,k3⟩=>⟨k,B,hg k B k1,k2,k3⟩
 have him:∀ b,img β S'.hp b->img β S.hp b:=fun b hb=>hb.imp id (hsub b)
 rcases h4 with h4 | ⟨h4,h5⟩
 ·have heq:S'.hp = S.hp:=by
   apply JS
   intro k
   by_cases hk:k<S'.hp.length
   ·rw[Jd hk]; exact(hg k _ (Jd hk)).symm
   ·rw[Jt (by omega),Jt (by omega)]
  refine⟨h.defers,by rw[h1]; exact h.size,fun t=>?_,by rw[heq]; exact h.heap,by rw[heq]; exact h.evo,h.base.trans hb1.symm⟩
  rw[heq]
  rcases QgP h2 t with e | e
  ·rw[e]; exact h.tm t
  ·rw[e]; exact .any _
 ·refine ⟨h.defers,by rw [h1]; exact h.size,fun t=>?_,?_,?_,h.base.trans hb1.symm⟩
  ·have hr:=QgO h4 t
   rcases QgP h2 t with e | e
   ·rw[e] at hr |-; exact(h.tm t).drop hr him
   ·rw[e]; exact .any _
  ·have hh:=h.heap
   refine⟨fun k B b k1 k2 k3=>?_,fun k B k1 k2 k3=>hh.none k B (hg k B k1) k2 k3,fun i j B B' b i1 j1 i2 j2=>hh.inj i j B B' b (hg i B i1) (hg j B' j1) i2 j2,fun k B b k1=>hh.avoid k B b (hg k B k1),hh.bound⟩
   obtain⟨C,c1,c2,c3⟩:=hh.blk k B b (hg k B k1) k2 k3
   exact⟨C,c1,c2,fun i d hd=>⟨(c3 i d hd).1,(c3 i d hd).2.drop (DV.refs_go (QiU h5 k B k1 k2) i d hd) him⟩⟩
  ·have ev:=h.evo
   exact⟨ev.os,ev.tape,ev.output,ev.size,hO,ev.beta,ev.same,ev.shape,fun b hb hl=>ev.im b hb (hsub b hl),ev.X⟩
def VWp.le(h:VWp P c Q S')(hle:Le S S'):VWp P c Q S:=fun O β a w hs=>h O β a w (hs.le hle)
def VWp.mono(h:VWp P c Q S)(hq:∀ e S,Q e S->Q' e S):VWp P c Q' S:=
 fun O β a w hs=>wp_mono (h O β a w hs) fun e _ _ ⟨β',S',k,q⟩=>⟨β',S',k,hq e S' q⟩
def QpR {c:Code} {Q:Exit->St->Prop} {ι:Type} (I:ι->St) (μ:ι->Nat) (i₀:ι) (h₀:Le S (I i₀)) (round:∀ i,QC P c (Qag Q fun S'=>∃ j,μ j < μ i/\Le S' (I j)) (I i)):VLoop P c Q S:=by
 intro O β a w hs b k cs
 have key:∀ n β i a w,μ i = n->Sim O β (I i) a w ->
  ∃ e a' w',Ql1 O Q e a' w'/\Arrives P (lone (b.at a (.code c::.inLoop c::k)) cs w) b k cs e a' w':=by
  intro n
  induction n using JM with
  | _ n ih =>
    intro β i a w hn hs
    obtain⟨e,a₁,w₁,hq,harr⟩:=QA c _ _ (round i) O β a w hs b (.inLoop c::k) cs
    obtain⟨β₁,S₁,hs₁,hq⟩:=hq
    cases e with
    | normal =>
      obtain⟨j,hlt,hle⟩:=hq
      obtain⟨e₂,a₂,w₂,hq₂,harr₂⟩:=ih (μ j) (hn▸hlt) β₁ j a₁ w₁ rfl (hs₁.le hle)
      exact⟨e₂,a₂,w₂,hq₂,.of_steps (Steps.trans harr (.one step_inLoop)) harr₂⟩
    | exit id=>exact⟨_,a₁,w₁,⟨β₁,S₁,hs₁,hq⟩,.pass (x:=.inLoop c) rfl (fun _ _=>.inl (by simp)) harr⟩
    | goto l=>exact⟨_,a₁,w₁,⟨β₁,S₁,hs₁,hq⟩,.pass (x:=.inLoop c) rfl (fun _ _=>.inl (by simp)) harr⟩
    | ret=>exact⟨_,a₁,w₁,⟨β₁,S₁,hs₁,hq⟩,.pass (x:=.inLoop c) rfl (fun _ _=>.inl (by simp)) harr⟩
    | panic ch=>exact⟨_,a₁,w₁,⟨β₁,S₁,hs₁,hq⟩,.pass (x:=.inLoop c) rfl (fun _ _=>.inl (by simp)) harr⟩
    | outgrown=>exact⟨_,a₁,w₁,⟨β₁,S₁,hs₁,hq⟩,.pass (x:=.inLoop c) rfl (fun _ _=>.inl (by simp)) harr⟩
 obtain⟨e,a',w',hq,harr⟩:=key _ β i₀ a w rfl (hs.le h₀)
 exact⟨e,a',w',hq,.of_steps (.one step_loop) harr⟩
def DV.ren(σ:Nat->Nat):DV->DV
 | .ptr k off=>.ptr (σ k) off
 | .own k sz off len=>.own (σ k) sz off len
 | .ownc k sz off len cap=>.ownc (σ k) sz off len cap
 | .pv p=>.pv p
 | .ip cs=>.ip cs
 | .any=>.any
 | .agg cs=>.agg (go σ cs)
 | .tup cs=>.tup (go σ cs)
 | .fn f a b=>.fn f (go σ a) (go σ b)
 | .opt c d=>.opt c (d.ren σ)
where
 go (σ:Nat->Nat):List DV->List DV
  | []=>[]
  | d::r=>d.ren σ::go σ r
def DV.nums(p:Nat->Bool):DV->Bool
 | .ptr k _ | .own k _ _ _ | .ownc k _ _ _ _=>p k
 | .pv _ | .ip _ | .any=>true
 | .agg cs | .tup cs=>go p cs
 | .fn _ a b=>go p a&&go p b
 | .opt _ d=>d.nums p
where
 go (p:Nat->Bool):List DV->Bool
  | []=>true
  | d::r=>d.nums p&&go p r
def DV.nums_go (h:DV.nums.go p ds = true):∀ (i:Nat) (d:DV),ds[i]? = some d->d.nums p = true:=by
 induction ds with
 | nil=>intro i d h; simp at h
 | cons x r ih =>
   simp only[DV.nums.go,Jb] at h
   intro i d hd
   cases i with
   | zero=>simp at hd; subst hd; exact h.1
   | succ i=>exact ih h.2 i d (by simpa using hd)
def DV.ren_go(σ:Nat->Nat)(ds:List DV):DV.ren.go σ ds=ds.map (DV.ren σ):=by
 induction ds with
 | nil=>rfl
 | cons x r ih=>simp[DV.ren.go,ih]
def RelD.ren (hσ:∀ k,p k = true->k < hp.length->σ k < hp'.length/\β'.f (σ k) = β.f k) (him:∀ b,img β' hp' b->img β hp b) (h:RelD w β hp d v) (hr:d.nums p = true):RelD w β' hp' (d.ren σ) v:=by
 induction h with
 | pv q v h=>exact .pv q v (h.mono (Jw _) (fun _ _ _=>rfl) (fun b _=>him b))
 | ptr k off b h hb =>
   obtain⟨h1,h2⟩:=hσ k (by simpa [DV.nums] using hr) h
   exact .ptr _ off b h1 (h2.trans hb)
 | own k sz off len cap b C T m h hb h1 h2 h3 h4 =>
   obtain⟨g1,g2⟩:=hσ k (by simpa [DV.nums] using hr) h
   exact .own _ sz off len cap b C T m g1 (g2.trans hb) h1 h2 h3 h4
 | ownc k sz off len cap b o C T m h hb h1 h2 h3 h4 h5 =>
   obtain⟨g1,g2⟩:=hσ k (by simpa [DV.nums] using hr) h
   exact .ownc _ sz off len cap b o C T m g1 (g2.trans hb) h1 h2 h3 h4 h5
 | own0 k sz a h hb ha =>
   obtain⟨g1,g2⟩:=hσ k (by simpa [DV.nums] using hr) h
   exact .own0 _ sz a g1 (g2.trans hb) ha
 | ip cs ad val h1 h2 h3 =>
   exact .ip cs ad val h1 (fun j d hd=>⟨(h2 j d hd).1,fun x=>(h2 j d hd).2.1 (him _ x),(h2 j d hd).2.2⟩) (fun j d hd=>(h3 j d hd).mono (Jw _) (fun _ _ _=>rfl) (fun b _=>him b))
 | agg ds vs h _ ih =>
   simp only[DV.ren,DV.ren_go]
   have hr':DV.nums.go p ds=true:=by simpa [DV.nums] using hr
   refine .agg _ vs (by simpa using h) (fun i d hd=>?_)
   rw[Jg] at hd
   cases hx:ds[i]? with
   | none=>simp[hx] at hd
   | some x=>simp[hx] at hd; subst hd; exact ih i x hx (DV.nums_go hr' i x hx)
 | tup ds vs h _ ih =>
   simp only[DV.ren,DV.ren_go]
   have hr':DV.nums.go p ds=true:=by simpa [DV.nums] using hr
   refine .tup _ vs (by simpa using h) (fun i d hd=>?_)
   rw[Jg] at hd
   cases hx:ds[i]? with
   | none=>simp[hx] at hd
   | some x=>simp[hx] at hd; subst hd; exact ih i x hx (DV.nums_go hr' i x hx)
 | fn f ds es vs us h h' _ _ ih ih' =>
   simp only[DV.ren,DV.ren_go]
   have hr':DV.nums.go p ds=true/\DV.nums.go p es=true:=by simpa [DV.nums] using hr
   refine .fn f _ _ vs us (by simpa using h) (by simpa using h') (fun i d hd=>?_) (fun i d hd=>?_)
   ·rw [Jg] at hd
    cases hx:ds[i]? with
    | none=>simp[hx] at hd
    | some x=>simp[hx] at hd; subst hd; exact ih i x hx (DV.nums_go hr'.1 i x hx)
   ·rw [Jg] at hd
    cases hx:es[i]? with
    | none=>simp[hx] at hd
    | some x=>simp[hx] at hd; subst hd; exact ih' i x hx (DV.nums_go hr'.2 i x hx)
 | opt c d v _ hf ih=>exact .opt c _ v (fun hc=>ih hc (by simpa [DV.nums] using hr)) hf
 | any v=>exact .any v
def VCalls.pure {g:FuncId} {args:List DV} {hp:Qa} {R:DV->Prop} (c:VCalls P g args [] fun r h'=>h' = []/\r.nums (fun _=>false) = true/\R r) (ha:DV.nums.go (fun _=>false) args = true):VCalls P g args hp fun r h'=>h' = hp/\R r:=by
 refine⟨fun w β vs hh hr=>?_⟩
 have hsame:∀ (σ:Nat->Nat),(fun _:Nat=>false)=fun _=>false:=fun _=>rfl
 have Qd5:∀ {w:World} {β β':Map} {hp hp':Qa} {d:DV} {v:Value},RelD w β hp d v->d.nums (fun _=>false) = true->(∀ b,img β' hp' b->img β hp b)->RelD w β' hp' d v:=by
  intro w β β' hp hp' d v h hn him
  induction h with
  | pv q v h=>exact .pv q v (h.mono (Jw _) (fun _ _ _=>rfl) (fun b _=>him b))
  | ptr k off b h hb=>simp[DV.nums] at hn
  | own=>simp[DV.nums] at hn
  | own0=>simp[DV.nums] at hn
  | ownc=>simp[DV.nums] at hn
  | ip cs ad val h1 h2 h3 =>
    exact .ip cs ad val h1 (fun j d hd=>⟨(h2 j d hd).1,fun x=>(h2 j d hd).2.1 (him _ x),(h2 j d hd).2.2⟩) (fun j d hd=>(h3 j d hd).mono (Jw _) (fun _ _ _=>rfl) (fun b _=>him b))
  | agg ds vs h _ ih=>exact .agg _ vs h (fun i d hd=>ih i d hd (DV.nums_go (by simpa [DV.nums] using hn) i d hd))
  | tup ds vs h _ ih=>exact .tup _ vs h (fun i d hd=>ih i d hd (DV.nums_go (by simpa [DV.nums] using hn) i d hd))
  | fn f ds es vs us h h' _ _ ih ih' =>
    have hr':DV.nums.go (fun _=>false) ds=true/\DV.nums.go (fun _=>false) es=true:=by simpa [DV.nums] using hn
    exact .fn f _ _ vs us h h' (fun i d hd=>ih i d hd (DV.nums_go hr'.1 i d hd)) (fun i d hd=>ih' i d hd (DV.nums_go hr'.2 i d hd))
  | opt c d v _ hf ih=>exact .opt c _ v (fun hc=>ih hc (by simpa [DV.nums] using hn)) hf
  | any v=>exact .any v
 let βc:Map:=⟨β.f,img β hp⟩
 have himc:∀ b,img βc [] b->img β hp b:=fun b hb=>by
  rcases hb with hb | ⟨k,B,h1,_⟩
  ·exact hb
  ·simp at h1
 have hhc:HeapRel w βc []:=⟨by simp,by simp,by simp,by simp,fun b hb=>by
  rcases hb with hb | hb
  ·exact hh.bound b hb
  ·exact Qcg hh hb⟩
 refine(c.run w βc vs hhc ⟨hr.1,fun i d hd=>Qd5 (hr.2 i d hd) (DV.nums_go ha i d hd) himc⟩).mono ?_
 rintro e w' ⟨v,r,h',β',rfl,ev,hh',hrel,rfl,hn,hR⟩
 have heap_same:∀ b,b<w.heap.size->w'.heap[b]?=w.heap[b]?:=fun b hb=>ev.same b hb (by rintro⟨k,B,h1,_⟩; simp at h1)
 have e:Evo w β hp w' β hp:=⟨ev.os,ev.tape,ev.output,ev.size,Jw _,fun _ _=>rfl,fun b hb _=>heap_same b hb,fun b C T m h=>⟨C,m,by rw[heap_same b (Ja.1 h).1]; exact h,rfl⟩,fun _ _ h=>h,rfl⟩
 have him':∀ b,img β hp b->img β' [] b:=fun b hb=>.inl (by rw[ev.X]; exact hb)
 refine⟨v,r,hp,β,rfl,e,?_,Qd5 hrel hn him',rfl,hR⟩
 refine⟨fun k B b h1 h2 h3=>?_,hh.none,hh.inj,hh.avoid,fun b hb=>Jp (hh.bound b hb) ev.size⟩
 obtain⟨C,g1,g2,g3⟩:=hh.blk k B b h1 h2 h3
 exact⟨C,by rw[heap_same b (Ja.1 g1).1]; exact g1,g2,fun i d hd=>⟨(g3 i d hd).1,(g3 i d hd).2.mono e⟩⟩
end Go.V
namespace Go.V
end Go.V
namespace Go.V
def QmR(h : -9223372036854775808<=n/\n<=9223372036854775807):IntKind.i64.wrap n=n:=by rw[IntKind.wrap_i64]; omega
def QpC(h:0<=n/\n<=255):IntKind.u8.wrap n=n:=by rw[IntKind.wrap_u8]; omega
def QHf[Decidable p](h:p):decide p=true:=decide_eq_true h
def QHg[Decidable p](h:¬ p):decide p=false:=decide_eq_false h
def Quw{a b:Int}(h:a=b):(a==b)=true:=by simp[h]
def Qux{a b:Int}(h:¬ a=b):(a==b)=false:=by simp[h]
def Quu{a b:Int}(h:¬ a=b):(a != b)=true:=by simp[h]
def Quv{a b:Int}(h:a=b):(a != b)=false:=by simp[h]
def QDy(b:Bool):(b==true)=b:=by cases b<;>rfl
def QDz(b:Bool):(b==false)=!b:=by cases b<;>rfl
end Go.V
namespace Go.V
def Qae:Op->Bool
 | .move _ | .assign _ | .pick .. | .load .. | .store .. | .nilCheck _ | .binOp .. | .unOp .. | .convert .. | .makeFunc .. | .slice .. | .fieldAddr .. | .field .. | .indexAddr .. | .index .. | .extract .. | .build ..=>true
 | .call c=>match c.callee with
   | .builtin .len | .builtin .min | .builtin .max | .builtin .cap | .builtin .unsafeSliceData=>true
   | _=>false
 | _=>false
def Qci(ev:Operand->DV):Op->List Nat×Bool
 | .load _ a=>(match ev a with | .ptr k _=>[k] | _=>[],false)
 | .store _ a _=>(match ev a with | .ptr k _=>[k] | _=>[],true)
 | .convert _ _ x=>(match ev x with | .own k _ _ _=>[k] | .ptr k _=>[k] | _=>[],false)
 | .slice _ x _ _ _=>(match ev x with | .ptr k _=>[k] | _=>[],false)
 | _=>([],false)
def Qm0 (hf:∀ k off,a = .ptr k off->hp'[k]? = hp[k]?):Qeq P hp' T a = Qeq P hp T a:=by
 cases a with
 | ptr k off =>
   have:Qh hp' k=Qh hp k:=by simp[Qh,hf k off rfl]
   simp only[Qeq,this]
 | _=>rfl
def QpF(hf:∀ k a b c,x=.own k a b c->hp'[k]?=hp[k]?):QmV hp' sz x=QmV hp sz x:=by
 unfold QmV
 split
 ·rename_i k a b c
  have:Qh hp' k=Qh hp k:=by simp[Qh,hf k a b c rfl]
  rw[this]
 all_goals rfl
def QgF (hk:Qae o = true) (hev:∀ x ∈ o.operands.toList,ev' x = ev x):vop P ev' hp o = vop P ev hp o:=by
 have mp:∀ (ps:Array (Nat×Operand)),(∀ x∈(ps.toList.map (·.2)).toArray.toList,ev' x=ev x)->parts ev' ps=parts ev ps:=fun ps hps=>by
  unfold parts
  exact JC fun p hp=>by rw[hps p.2 (by simp; exact⟨p.1,by simpa using hp⟩)]
 have ml:∀ (xs:Array Operand),(∀ x∈xs.toList,ev' x=ev x)->xs.toList.map ev'=xs.toList.map ev:=fun xs hxs=>JC hxs
 have mo:∀ (x:Option Operand),(∀ y∈x.toArray.toList,ev' y=ev y)->x.map ev'=x.map ev:=fun x hx=>by cases x<;>simp_all
 cases o with
 | build T ps=>simp only[vop,mp ps (by simpa [Op.operands] using hev)]
 | makeFunc f xs ys =>
   have h1:=ml xs (fun x hx=>hev x (by simp[Op.operands]; left; simpa using hx))
   have h2:=ml ys (fun x hx=>hev x (by simp[Op.operands]; right; simpa using hx))
   simp only[vop,h1,h2]
 | call c =>
   have h1:c.args.toList.map ev'=c.args.toList.map ev:=ml c.args (fun x hx=>hev x (by simp[Op.operands,Call.operands]; right; simpa using hx))
   simp only[vop,h1]
 | slice T x lo hi mx =>
   have h0:=hev x (by simp[Op.operands])
   have h1:=mo lo (fun y hy=>hev y (by simp[Op.operands] at hy |-; simp[hy]))
   have h2:=mo hi (fun y hy=>hev y (by simp[Op.operands] at hy |-; simp[hy]))
   have h3:=mo mx (fun y hy=>hev y (by simp[Op.operands] at hy |-; simp[hy]))
   simp only[vop,h0,h1,h2,h3]
 | _=>first
   | (simp[Qae] at hk; done)
   | (simp[Op.operands] at hev; simp[vop,hev]; done)
def Qji(hf:∀ k off,a=.ptr k off->hp'[k]?=hp[k]?):Qcb P hp' T a lo hi mx=Qcb P hp T a lo hi mx:=by
 unfold Qcb
 split
 ·rename_i k off
  have:Qh hp' k=Qh hp k:=by simp[Qh,hf k off rfl]
  simp only[QgB,this]
 ·rfl
def Qc5 (hk:Qae o = true) (hf:∀ k ∈ (Qci ev o).1,hp'[k]? = hp[k]?) (h:vop P ev hp o = some (d,h1)):
 ((Qci ev o).2=false/\h1=hp/\vop P ev hp' o=some (d,hp')) \/
 ((Qci ev o).2=true/\∃ k cs,(Qci ev o).1=[k]/\h1=Qv hp k cs/\vop P ev hp' o=some (d,Qv hp' k cs)):=by
 have fin:∀ {x:Option DV},x.map (fun d=>(d,hp))=some (d,h1)->h1=hp/\x.map (fun d=>(d,hp'))=some (d,hp'):=fun {x} hx=>by
  obtain⟨d',e1,e2⟩:=Qz hx
  simp at e2
  exact⟨e2.2.symm,by simp[e1,e2.1]⟩
 cases o with
 | store T a x =>
   refine .inr ⟨rfl,?_⟩
   simp only[vop] at h |-
   obtain⟨h2,e1,e2⟩:=Qz h
   simp at e2
   obtain⟨rfl,rfl⟩:=e2
   cases ha:ev a with
   | ptr k off =>
     rw[ha] at e1
     have hfk:=hf k (by simp[Qci,ha])
     have hb:Qh hp' k=Qh hp k:=by simp[Qh,hfk]
     refine⟨k,?_⟩
     simp only[Qci,ha,QfJ,hb] at e1 |-
     split at e1
     ·rename_i cs q1 q2
      split at e1
      ·rename_i hc; simp at e1; exact⟨_,trivial,e1.symm,by simp[hc]⟩
      ·simp at e1
     ·rename_i cs n q1 q2
      split at e1
      ·rename_i ds hds
       split at e1
       ·rename_i hc; simp at e1; exact⟨_,trivial,e1.symm,by simp[hc]⟩
       ·simp at e1
      ·simp at e1
     ·simp at e1
   | _=>rw[ha] at e1; simp[QfJ] at e1
 | load T a =>
   simp only[vop] at h |-
   rw[Qm0 (hp':=hp') (fun k off hko=>hf k (by simp[Qci,hko]))]
   exact .inl ⟨rfl,fin h⟩
 | slice T x lo hi mx =>
   simp only[vop] at h |-
   rw[Qji (hp':=hp') (fun k off hko=>hf k (by simp[Qci,hko]))]
   exact .inl ⟨rfl,fin h⟩
 | convert S T x =>
   have hsr:Qzm hp' (ev x)=Qzm hp (ev x):=by
    have:=QpF (hp:=hp) (hp':=hp') (sz:=1) (x:=ev x) fun k a b c hk=>hf k (by simp[Qci,hk])
    unfold Qzm
    split
    ·rfl
    ·exact this
   have hcp:∀ k off,ev x=.ptr k off->QdB P hp' S T k off=QdB P hp S T k off:=fun k off hk=>by
    have hfk:=hf k (by simp[Qci,hk])
    unfold QdB
    rw[hfk]
   simp only[vop,Qm3] at h |-
   split at h
   ·rename_i k off hk
    rw[<- hcp k off hk] at h
    exact .inl ⟨rfl,fin h⟩
   ·simp only [Qbs,hsr] at h |-
    exact .inl ⟨rfl,fin h⟩
 | call c =>
   refine .inl ⟨rfl,?_⟩
   simp only[Qae] at hk
   simp only[vop] at h |-
   split at h
   ·rename_i b hb
    rw[hb] at hk
    unfold Qas at h |-
    split at h<;>first
     | (exact fin h)
     | (simp at hk; done)
     | (simp at h; done)
   ·simp at h
 | move x | assign x=>simp only[vop] at h |-; simp at h; exact .inl ⟨rfl,h.2.symm,by simp[h.1]⟩
 | makeFunc f a b=>simp only[vop] at h |-; simp at h; exact .inl ⟨rfl,h.2.symm,by simp[h.1]⟩
 | pick c a b =>
   simp only[vop] at h |-
   refine .inl ⟨rfl,?_⟩
   split at h
   ·rename_i t ht; simp at h; exact⟨h.2.symm,by simp[h.1]⟩
   ·simp at h
 | nilCheck x =>
   simp only[vop] at h |-
   refine .inl ⟨rfl,?_⟩
   split at h
   ·simp at h; exact⟨h.2.symm,by simp[h.1]⟩
   ·simp at h; exact⟨h.2.symm,by simp[h.1]⟩
   ·simp at h
 | _=>first
   | (simp[Qae] at hk; done)
   | (simp only[vop] at h |-; exact .inl ⟨rfl,fin h⟩)
def QaH(after:Array Edge)(f:List Nat×Bool):Nat->List (List Nat×Bool)->Bool
 | _,[]=>true
 | i,g::r=>(!((g.2||f.2)&&g.1.any fun k=>f.1.contains k)||after.toList.any fun e=>Region.binds .any e&&e.on==i)&&QaH after f (i+1) r
def vdr (P:Program) (all:List Oper):List Oper->List (List Nat × Bool)->(St->Prop)->St->Prop
 | [],_,K,S=>K S
 | o :: r, fs,K,S =>
   S.fits o.dst=true /\
   match QK all S o with
   | none=>False
   | some false=>vdr P all r (fs++[([],false)]) K (S.put o.dst (.tup []))
   | some true =>
     match Qq (fun x=>Qs true (S.ev x)) o.op with
     | some (g,args)=>∃ d,(VCalls P g args [] fun r h=>h=[]/\r=d)/\DV.nums.go (fun _=>false) args=true/\d.nums (fun _=>false)=true/\vdr P all r (fs++[([],false)]) K (S.put o.dst (Qde o.guard true d))
     | none =>
       match vop P (fun x=>Qs true (S.ev x)) S.hp o.op with
       | some (d,hp')=>Qae o.op=true/\QaH o.after (Qci (fun x=>Qs true (S.ev x)) o.op) 0 fs=true /\
        vdr P all r (fs++[Qci (fun x=>Qs true (S.ev x)) o.op]) K ((S.at hp').put o.dst (Qde o.guard true d))
       | none=>False
def QmJ(P:Program)(all:List Oper)(S:St)(o:Oper)(S':St)(f:List Nat×Bool):Prop :=
 S.fits o.dst=true/\∃ G,QK all S o=some G /\
  ((∃ g args d,Qq (fun x=>Qs G (S.ev x)) o.op = some (g,args)/\(G = true->VCalls P g args [] fun r h=>h = []/\r = d)/\DV.nums.go (fun _=>false) args = true/\d.nums (fun _=>false) = true/\S' = S.put o.dst (Qde o.guard G d)/\f = ([],false)) \/
   (∃ d hp',Qq (fun x=>Qs G (S.ev x)) o.op=none/\vop P (fun x=>Qs G (S.ev x)) S.hp o.op=some (d,hp')/\Qae o.op=true/\S'=(S.at (bif G then hp' else S.hp)).put o.dst (Qde o.guard G d)/\f=Qci (fun x=>Qs G (S.ev x)) o.op) \/
   (G=false/\S'=S.put o.dst (.tup [])/\f=([],false)))
def Qrh(f g:List Nat×Bool):Prop:=(g.2=true\/f.2=true)/\∃ k,k∈g.1/\k∈f.1
def Qhe:∀ {fs:List (List Nat × Bool)} {n:Nat},QaH after f n fs = true->∀ (i:Nat) (g:List Nat × Bool),fs[i]? = some g->Qrh f g->∃ e ∈ after,Region.binds .any e = true/\e.on = n + i
 | [],n,_,i,g,h,_=>by simp at h
 | g0 :: r,n,hok,i,g,h,hc=>by
   simp only[QaH,Jb] at hok
   cases i with
   | zero =>
     simp at h
     subst h
     obtain⟨h1,k,h2,h3⟩:=hc
     have hand:((g0.2||f.2)&&g0.1.any fun k=>f.1.contains k)=true:=by
      simp only[Jb,Jy,JD,List.contains_iff_mem]
      exact⟨h1,k,h2,h3⟩
     have:=hok.1
     rw[hand] at this
     simp only[Bool.not_true,Bool.false_or,JD,Jb,beq_iff_eq] at this
     obtain⟨e,e1,e2,e3⟩:=this
     exact⟨e,by simpa using e1,e2,by omega⟩
   | succ i =>
     obtain⟨e,e1,e2,e3⟩:=Qhe hok.2 i g (by simpa using h) hc
     exact⟨e,e1,e2,by omega⟩
def Qer:∀ (rest pre:List Oper) (fs:List (List Nat × Bool)) (S:St),all = pre ++ rest->fs.length = pre.length->vdr P all rest fs K S ->
 ∃ (T:Nat->St) (F:Nat->List Nat × Bool),(∀ i f,fs[i]? = some f->F i = f)/\T pre.length = S/\K (T all.length) /\
   ∀ j,pre.length<=j->j<all.length->∃ o,all[j]?=some o/\QmJ P all (T j) o (T (j+1)) (F j)/\∀ i,i<j->Qrh (F j) (F i)->∃ e∈o.after,Region.binds .any e=true/\e.on=i
 | [],pre,fs,S,hall,hfs,h=>by
   refine⟨fun _=>S,fun i=>fs.getD i ([],false),fun i f hf=>by simp[Ji,hf],rfl,h,fun j h1 h2=>?_⟩
   subst hall
   simp at h2
   omega
 | o :: r, pre,fs,S,hall,hfs,h=>by
   have hlt:pre.length<all.length:=by rw[hall]; simp
   have hat:all[pre.length]?=some o:=by rw[hall]; simp
   unfold vdr at h
   obtain⟨hf,h⟩:=h
   have go : ∀ (S1:St) (f:List Nat × Bool),vdr P all r (fs ++ [f]) K S1->QmJ P all S o S1 f->(∀ i,i < pre.length->∀ g,fs[i]? = some g->Qrh f g->∃ e ∈ o.after,Region.binds .any e = true/\e.on = i) ->
    ∃ (T:Nat->St) (F:Nat->List Nat × Bool),(∀ i f,fs[i]? = some f->F i = f)/\T pre.length = S/\K (T all.length) /\
      ∀ j,pre.length<=j->j<all.length->∃ o,all[j]?=some o/\QmJ P all (T j) o (T (j+1)) (F j)/\∀ i,i<j->Qrh (F j) (F i)->∃ e∈o.after,Region.binds .any e=true/\e.on=i:=by
    intro S1 f hr hstep hcl
    obtain⟨T,F,h1,h2,h3,h4⟩:=Qer r (pre++[o]) (fs++[f]) S1 (by rw[hall]; simp) (by simp[hfs]) hr
    simp only[List.length_append,List.length_singleton] at h2 h4
    have hF:F pre.length=f:=h1 _ f (by rw[<- hfs]; simp)
    have hFs:∀ i g,fs[i]?=some g->F i=g:=fun i g hg=>h1 i g (by rw[Jz (Jc.1 hg).1]; exact hg)
    refine⟨fun j=>if j=pre.length then S else T j,F,hFs,by simp,?_,fun j g1 g2=>?_⟩
    ·show K (if all.length = pre.length then S else T all.length)
     rw[if_neg (by omega)]
     exact h3
    ·by_cases hj:j = pre.length
     ·subst hj
      refine⟨o,hat,?_,fun i hi hc=>?_⟩
      ·show QmJ P all (if pre.length = pre.length then S else T pre.length) o (if pre.length + 1 = pre.length then S else T (pre.length + 1)) (F pre.length)
       rw[if_pos rfl,if_neg (by omega),h2,hF]
       exact hstep
      ·have hi':i < fs.length:=by omega
       rw[hF,hFs i _ (Jd hi')] at hc
       exact hcl i hi _ (Jd hi') hc
     ·obtain ⟨o',e1,e2,e3⟩:=h4 j (by omega) g2
      refine⟨o',e1,?_,e3⟩
      show QmJ P all (if j=pre.length then S else T j) o' (if j+1=pre.length then S else T (j+1)) (F j)
      rw[if_neg hj,if_neg (by omega)]
      exact e2
   have nocl:∀ g:List Nat×Bool,¬ Qrh ([],false) g:=fun g ⟨_,k,_,hk⟩=>by simp at hk
   split at h
   ·exact h.elim
   ·rename_i hg
    exact go _ _ h ⟨hf,false,hg,.inr (.inr ⟨rfl,rfl,rfl⟩)⟩ (fun i _ g _ hcl=>absurd hcl (nocl g))
   ·rename_i hg
    split at h
    ·rename_i g args hc
     obtain⟨d,k1,k2,k3,k4⟩:=h
     exact go _ _ k4 ⟨hf,true,hg,.inl ⟨g,args,d,hc,fun _=>k1,k2,k3,rfl,rfl⟩⟩ (fun i _ g _ hcl=>absurd hcl (nocl g))
    ·rename_i hc
     split at h
     ·rename_i d hp' hv
      obtain⟨k1,k2,k3⟩:=h
      refine go _ _ k3 ⟨hf,true,hg,.inr (.inl ⟨d,hp',hc,hv,k1,rfl,rfl⟩)⟩ (fun i _ g hg' hcl=>?_)
      obtain⟨e,e1,e2,e3⟩:=Qhe k2 i g hg' hcl
      exact⟨e,e1,e2,by omega⟩
     ·exact h.elim
def Qe3(ops:Array Oper):Bool :=
 (Jk ops.size).all fun j=>
  match ops[j]? with
  | none=>true
  | some oj=>(oj.after.toList.all fun e=>!Region.binds .any e||decide (e.on<j))&&(Jk j).all fun i=>
   match ops[i]? with
   | none=>true
   | some oi=>oi.apart ops oj||oj.after.toList.any fun e=>Region.binds .any e&&e.on==i
def Qbp(h:Qe3 ops=true)(hj:ops[j]?=some oj):
 (∀ e∈oj.after,Region.binds .any e=true->e.on<j)/\∀ i oi,i<j->ops[i]?=some oi->oi.apart ops oj=true\/∃ e∈oj.after,Region.binds .any e=true/\e.on=i:=by
 have hlt:j<ops.size:=(Ja.1 hj).1
 have h1:=Je.1 h j (Jm.2 hlt)
 rw[hj] at h1
 simp only[Jb] at h1
 refine⟨fun e he hb=>?_,fun i oi hi ho=>?_⟩
 ·have:=Je.1 h1.1 e (by simpa using he)
  simpa [hb] using this
 ·have:=Je.1 h1.2 i (Jm.2 hi)
  rw[ho] at this
  simp only[Jy,JD,Jb,beq_iff_eq] at this
  rcases this with h | ⟨e,e1,e2,e3⟩
  ·exact .inl h
  ·exact .inr ⟨e,by simpa using e1,e2,e3⟩
def Qe4:∀ {l:List Nat} {j:Nat},j ∈ l->p j = true->p' j = false->(∀ i,p' i = true->p i = true)->l.countP p' < l.countP p
 | a :: l,j,hm,h1,h2,h3=>by
   have mono:∀ l:List Nat,l.countP p'<=l.countP p:=fun l=>List.countP_mono_left fun x _ hx=>h3 x hx
   simp only[List.countP_cons]
   rcases Jl.1 hm with rfl | hm
   ·simp only [h1,h2,if_true,Bool.false_eq_true,if_false]
    have:=mono l
    omega
   ·have:=Qe4 hm h1 h2 h3
    have h4:(if p' a=true then 1 else 0)<=(if p a=true then 1 else 0):=by
     by_cases h:p' a=true
     ·simp[h,h3 a h]
     ·simp[h]
    omega
section
variable {P:Program} {ops:Array Oper} {T:Nat->St} {F:Nat->List Nat×Bool}
def wT(ops:Array Oper)(i t:Nat):Prop:=∃ o,ops[i]?=some o/\o.dst=some t
def wB(F:Nat->List Nat×Bool)(i k:Nat):Prop:=(F i).2=true/\k∈(F i).1
structure Steps(P:Program)(ops:Array Oper)(T:Nat->St)(F:Nat->List Nat×Bool):Prop where
 step:∀ j,j<ops.size->∃ o,ops[j]?=some o/\QmJ P ops.toList (T j) o (T (j+1)) (F j)/\∀ i,i<j->Qrh (F j) (F i)->∃ e∈o.after,Region.binds .any e=true/\e.on=i
 ok:Qe3 ops=true
theorem St.put_hp(S:St)(dst:Option Tmp)(d:DV):(S.put dst d).hp=S.hp:=by cases dst<;>rfl
theorem St.put_nt(S:St)(dst:Option Tmp)(d:DV):(S.put dst d).nt=S.nt:=by cases dst<;>rfl
theorem St.put_base(S:St)(dst:Option Tmp)(d:DV):(S.put dst d).base=S.base:=by cases dst<;>rfl
theorem St.put_look (S:St) (dst:Option Tmp) (d:DV) (t:Nat) (h:dst ≠ some t):V.look (S.put dst d).tm t = V.look S.tm t:=by
 cases dst with
 | none=>rfl
 | some u =>
   simp only[St.put,V.look]
   rw[if_neg]
   intro e
   exact h (by rw[e])
theorem QeA (h:QmJ P all S o S' f):
 S'.nt=S.nt/\S'.base=S.base/\S'.hp.length=S.hp.length/\(∀ t,o.dst≠some t->V.look S'.tm t=V.look S.tm t)/\(∀ k,¬ (f.2=true/\k∈f.1)->S'.hp[k]?=S.hp[k]?):=by
 obtain⟨_,G,_,h⟩:=h
 rcases h with⟨g,args,d,_,_,_,_,rfl,rfl⟩ | ⟨d,hp',_,hv,hk,rfl,rfl⟩ | ⟨_,rfl,rfl⟩
 ·exact⟨St.put_nt ..,St.put_base ..,by rw[St.put_hp],fun t ht=>St.put_look _ _ _ t ht,fun k _=>by rw[St.put_hp]⟩
 ·have key:(bif G then hp' else S.hp).length = S.hp.length/\∀ k,¬ ((Qci (fun x=>Qs G (S.ev x)) o.op).2 = true/\k ∈ (Qci (fun x=>Qs G (S.ev x)) o.op).1)->(bif G then hp' else S.hp)[k]? = S.hp[k]?:=by
   cases G with
   | false=>exact⟨rfl,fun k _=>rfl⟩
   | true =>
     simp only[cond_true]
     rcases Qc5 (hp':=S.hp) hk (fun k _=>rfl) hv with⟨e1,e2,_⟩ | ⟨e1,k0,cs,e2,e3,_⟩
     ·rw[e2]; exact⟨rfl,fun k _=>rfl⟩
     ·rw [e3]
      refine⟨?_,fun k hk=>?_⟩
      ·unfold Qv; split<;>simp
      ·rw [e1,e2] at hk
       have hne:k0≠k:=fun h=>hk ⟨rfl,by simp[h]⟩
       unfold Qv
       split
       ·rw[Jq hne]
       ·rfl
  exact⟨St.put_nt ..,St.put_base ..,by rw[St.put_hp]; exact key.1,fun t ht=>(St.put_look _ _ _ t ht).trans rfl,fun k hk=>by rw[St.put_hp]; exact key.2 k hk⟩
 ·exact⟨St.put_nt ..,St.put_base ..,by rw[St.put_hp],fun t ht=>St.put_look _ _ _ t ht,fun k _=>by rw[St.put_hp]⟩
theorem Qey (h:Steps P ops T F):∀ b,a<=b->b<=ops.size->(∀ i,a<=i->i < b->¬ wT ops i t)->V.look (T b).tm t = V.look (T a).tm t
 | 0,h1,_,_=>by rw[J8.1 h1]
 | b + 1,h1,h2,h3=>by
   by_cases he:a=b+1
   ·rw[he]
   ·obtain ⟨o,ho,hs,_⟩:=h.step b (by omega)
    rw[(QeA hs).2.2.2.1 t (fun hd=>h3 b (by omega) (by omega) ⟨o,ho,hd⟩)]
    exact Qey h b (by omega) (by omega) (fun i hi1 hi2=>h3 i hi1 (by omega))
theorem QeS (h:Steps P ops T F):∀ b,a<=b->b<=ops.size->(∀ i,a<=i->i < b->¬ wB F i k)->(T b).hp[k]? = (T a).hp[k]?
 | 0,h1,_,_=>by rw[J8.1 h1]
 | b + 1,h1,h2,h3=>by
   by_cases he:a=b+1
   ·rw[he]
   ·obtain ⟨o,ho,hs,_⟩:=h.step b (by omega)
    rw[(QeA hs).2.2.2.2 k (fun hd=>h3 b (by omega) (by omega) hd)]
    exact QeS h b (by omega) (by omega) (fun i hi1 hi2=>h3 i hi1 (by omega))
theorem QcB (h:Steps P ops T F):∀ j,j<=ops.size->(T j).nt = (T 0).nt/\(T j).base = (T 0).base/\(T j).hp.length = (T 0).hp.length
 | 0,_=>⟨rfl,rfl,rfl⟩
 | j + 1,hj=>by
   obtain⟨o,ho,hs,_⟩:=h.step j (by omega)
   obtain⟨e1,e2,e3,_⟩:=QeA hs
   obtain⟨f1,f2,f3⟩:=QcB h j (by omega)
   exact⟨e1.trans f1,e2.trans f2,e3.trans f3⟩
structure Inv(O:Org)(ops:Array Oper)(T:Nat->St)(F:Nat->List Nat×Bool)(listed:Array Bool)(S:St):Prop where
 size:listed.size=ops.size
 nt:S.nt=(T 0).nt
 base:S.base=(T 0).base
 len:S.hp.length=(T 0).hp.length
 closed:∀ i o,ops[i]?=some o->listed.getD i false=true->∀ e∈o.after,Region.binds .any e=true->listed.getD e.on false=true
 tm:∀ t,∃ m,m<=ops.size/\V.look S.tm t=V.look (T m).tm t/\(∀ i,i<m->wT ops i t->listed.getD i false=true)/\(∀ i,m<=i->wT ops i t->listed.getD i false=false)
 hp:∀ k,∃ m,m<=ops.size/\S.hp[k]?=(T m).hp[k]?/\(∀ i,i<m->wB F i k->listed.getD i false=true)/\(∀ i,m<=i->i<ops.size->wB F i k->listed.getD i false=false)
theorem Qut (h:Steps P ops T F) (hi:Inv O ops T F listed S) (hj:ops[j]? = some oj) (hun:listed.getD j false = false) (hr:∀ e ∈ oj.after,Region.binds .any e = true->listed.getD e.on false = true) (ht:t ∈ oj.looksAt ops\/oj.dst = some t):V.look S.tm t = V.look (T j).tm t/\(∀ i,i < j->wT ops i t->listed.getD i false = true)/\(∀ i,j<=i->wT ops i t->listed.getD i false = false):=by
 have hjlt:j<ops.size:=(Ja.1 hj).1
 have before:∀ i,i<j->wT ops i t->listed.getD i false=true:=by
  rintro i hij ⟨oi,hoi,hd⟩
  rcases(Qbp h.ok hj).2 i oi hij hoi with ha | ⟨e,e1,e2,e3⟩
  ·obtain ⟨a1,a2,_⟩:=Oper.apart_spec ha
   rcases ht with ht | ht
   ·exact absurd ht (a1 t hd)
   ·exact absurd ht (a2 t hd)
  ·rw[<- e3]; exact hr e e1 e2
 have QW:∀ i,j<=i->wT ops i t->listed.getD i false = false:=by
  rintro i hij ⟨oi,hoi,hd⟩
  by_cases hij':i=j
  ·rw[hij']; exact hun
  ·rcases (Qbp h.ok hoi).2 j oj (by omega) hj with ha | ⟨e,e1,e2,e3⟩
   ·obtain ⟨_,a2,a3⟩:=Oper.apart_spec ha
    rcases ht with ht | ht
    ·exact absurd ht (a3 t hd)
    ·exact absurd hd (a2 t ht)
   ·cases hl:listed.getD i false with
    | false=>rfl
    | true =>
      have:=hi.closed i oi hoi hl e e1 e2
      rw[e3,hun] at this
      cases this
 refine⟨?_,before,QW⟩
 obtain⟨m,hm,e,h1,h2⟩:=hi.tm t
 rw[e]
 rcases J5 m j with hmj | hmj
 ·exact(Qey h j hmj (by omega) (fun i h3 h4 hw=>by have:=before i h4 hw; rw[h2 i h3 hw] at this; cases this)).symm
 ·exact Qey h m hmj hm (fun i h3 h4 hw=>by have:=h1 i h4 hw; rw[QW i h3 hw] at this; cases this)
theorem Qmb (h:Steps P ops T F) (hi:Inv O ops T F listed S) (hj:ops[j]? = some oj) (hun:listed.getD j false = false) (hr:∀ e ∈ oj.after,Region.binds .any e = true->listed.getD e.on false = true) (hk:k ∈ (F j).1):(S.hp[k]? = (T j).hp[k]?)/\((F j).2 = true->(∀ i,i < j->wB F i k->listed.getD i false = true)/\(∀ i,j<=i->i < ops.size->wB F i k->listed.getD i false = false)):=by
 have hjlt:j<ops.size:=(Ja.1 hj).1
 obtain⟨o',ho',_,hcl⟩:=h.step j hjlt
 rw[hj] at ho'
 simp at ho'
 subst ho'
 have before:∀ i,i<j->wB F i k->listed.getD i false=true:=by
  rintro i hij ⟨hw,hki⟩
  obtain⟨e,e1,e2,e3⟩:=hcl i hij ⟨.inl hw,k,hki,hk⟩
  rw[<- e3]; exact hr e e1 e2
 have QW:∀ i,j<=i->i < ops.size->wB F i k->listed.getD i false = false:=by
  rintro i hij hilt ⟨hw,hki⟩
  by_cases hij':i=j
  ·rw[hij']; exact hun
  ·obtain ⟨oi,hoi,_,hcli⟩:=h.step i hilt
   obtain⟨e,e1,e2,e3⟩:=hcli j (by omega) ⟨.inr hw,k,hk,hki⟩
   cases hl:listed.getD i false with
   | false=>rfl
   | true =>
     have:=hi.closed i oi hoi hl e e1 e2
     rw[e3,hun] at this
     cases this
 refine⟨?_,fun _=>⟨before,QW⟩⟩
 obtain⟨m,hm,e,h1,h2⟩:=hi.hp k
 rw[e]
 rcases J5 m j with hmj | hmj
 ·exact(QeS h j hmj (by omega) (fun i h3 h4 hw=>by have:=before i h4 hw; rw[h2 i h3 (by omega) hw] at this; cases this)).symm
 ·exact QeS h m hmj hm (fun i h3 h4 hw=>by have:=h1 i h4 hw; rw[QW i h3 (by omega) hw] at this; cases this)
theorem Qki(h:Steps P ops T F)(hi:Inv O ops T F listed S)(hj:ops[j]?=some oj)(hun:listed.getD j false=false)(hr:∀ e∈oj.after,Region.binds .any e=true->listed.getD e.on false=true)(hnt:S1.nt=S.nt)(hbase:S1.base=S.base)(hlen:S1.hp.length=S.hp.length)(htm:∀ t,oj.dst≠some t->V.look S1.tm t=V.look S.tm t)(htm':∀ t,oj.dst=some t->V.look S1.tm t=V.look (T (j+1)).tm t)(hhp:∀ k,¬ wB F j k->S1.hp[k]?=S.hp[k]?)(hhp':∀ k,wB F j k->S1.hp[k]?=(T (j+1)).hp[k]?):Inv O ops T F (listed.setIfInBounds j true) S1:=by
 have hjlt:j<ops.size:=(Ja.1 hj).1
 have hjl:j<listed.size:=by rw[hi.size]; exact hjlt
 have hself:(listed.setIfInBounds j true).getD j false=true:=by simp[hjl]
 have hoth:∀ i,i≠j->(listed.setIfInBounds j true).getD i false=listed.getD i false:=fun i hij=>getD_set_ne false (Ne.symm hij)
 refine⟨by simp[hi.size],hnt.trans hi.nt,hbase.trans hi.base,hlen.trans hi.len,fun i o hio hl e he hb=>?_,fun t=>?_,fun k=>?_⟩
 ·by_cases hij:i = j
  ·subst hij
   rw[hj] at hio
   simp at hio
   subst hio
   exact getD_set_true (hr e he hb)
  ·rw [hoth i hij] at hl
   exact getD_set_true (hi.closed i o hio hl e he hb)
 ·by_cases ht:oj.dst = some t
  ·obtain ⟨_,h1,h2⟩:=Qut h hi hj hun hr (.inr ht)
   refine⟨j+1,by omega,htm' t ht,fun i hij hw=>?_,fun i hij hw=>?_⟩
   ·by_cases he:i = j
    ·rw[he]; exact hself
    ·rw[hoth i he]; exact h1 i (by omega) hw
   ·rw[hoth i (by omega)]; exact h2 i (by omega) hw
  ·obtain ⟨m,hm,e,h1,h2⟩:=hi.tm t
   have hne:∀ i,wT ops i t->i≠j:=by
    rintro i ⟨o,ho,hd⟩ rfl
    rw[hj] at ho
    simp at ho
    subst ho
    exact ht hd
   exact⟨m,hm,(htm t ht).trans e,fun i hi' hw=>by rw[hoth i (hne i hw)]; exact h1 i hi' hw,fun i hi' hw=>by rw[hoth i (hne i hw)]; exact h2 i hi' hw⟩
 ·by_cases hk:wB F j k
  ·obtain ⟨_,h12⟩:=Qmb h hi hj hun hr hk.2
   obtain⟨h1,h2⟩:=h12 hk.1
   refine⟨j+1,by omega,hhp' k hk,fun i hij hw=>?_,fun i hij hlt hw=>?_⟩
   ·by_cases he:i = j
    ·rw[he]; exact hself
    ·rw[hoth i he]; exact h1 i (by omega) hw
   ·rw[hoth i (by omega)]; exact h2 i (by omega) hlt hw
  ·obtain ⟨m,hm,e,h1,h2⟩:=hi.hp k
   have hne:∀ i,wB F i k->i≠j:=fun i hw he=>hk (he▸hw)
   exact⟨m,hm,(hhp k hk).trans e,fun i hi' hw=>by rw[hoth i (hne i hw)]; exact h1 i hi' hw,fun i hi' hlt hw=>by rw[hoth i (hne i hw)]; exact h2 i hi' hlt hw⟩
theorem QAg(h1:S.nt=S'.nt)(h2:S.base=S'.base)(h3:S.hp=S'.hp)(hs:Sim O β S a w)(ht:∀ t,V.look S.tm t=V.look S'.tm t):Sim O β S' a w:=
 ⟨hs.defers,by rw[<- h1]; exact hs.size,fun t=>by rw[<- ht t,<- h3]; exact hs.tm t,by rw[<- h3]; exact hs.heap,by rw[<- h3]; exact hs.evo,by rw[<- h2]; exact hs.base⟩
theorem Qbv (h:∀ t ∈ o.looksAt ops,V.look S'.tm t = V.look S.tm t):QK ops.toList S' o = QK ops.toList S o:=by
 unfold QK
 cases hg:o.guard with
 | none=>rfl
 | some jw =>
   obtain⟨j,want⟩:=jw
   simp only
   cases hb:(ops.toList[j]?.bind (·.dst)) with
   | none=>rfl
   | some t =>
     have hb':(ops[j]?).bind (·.dst)=some t:=by simpa using hb
     have:V.look S'.tm t=V.look S.tm t:=h t (by simp[Oper.looksAt,hg,hb'])
     simp only[JF,this]
theorem Qik{S S':St}{o:Oper}(h:∀ t∈o.looksAt ops,V.look S'.tm t=V.look S.tm t):∀ x∈o.op.operands.toList,S'.ev x=S.ev x:=by
 intro x hx
 cases x with
 | tmp t=>exact h t (by simp only[Oper.looksAt,JB,List.mem_filterMap]; exact .inl ⟨.tmp t,hx,rfl⟩)
 | _=>rfl
theorem QhF (h:∀ x ∈ o.operands.toList,ev' x = ev x):Qq ev' o = Qq ev o:=by
 cases o with
 | call c =>
   simp only[Qq]
   cases hc:c.callee with
   | value f =>
     have hf:ev' f=ev f:=h f (by simp[Op.operands,Call.operands,hc])
     have ha:c.args.toList.map ev'=c.args.toList.map ev:=JC fun x hx=>h x (by simp[Op.operands,Call.operands]; right; simpa using hx)
     simp only[hf,ha]
   | _=>rfl
 | _=>rfl
theorem Qd2 (h:Steps P ops T F) (hK:∀ β a w,Sim O β (T ops.size) a w->Q .normal a w):∀ (fuel:Nat) (listed:Array Bool) (a:Act) (w:World) (β:Map) (S:St),
 (Jk ops.size).countP (fun i=>!listed.getD i false)<=fuel->Sim O β S a w->Inv O ops T F listed S->wpAny P .any ops Q fuel listed a w:=by
 have done : ∀ (listed:Array Bool) (a:Act) (w:World) (β:Map) (S:St),Region.ready .any ops listed = []->Sim O β S a w->Inv O ops T F listed S->Q .normal a w:=by
  intro listed a w β S hready hs hi
  have all:∀ i,i < ops.size->listed.getD i false = true:=by
   intro i
   induction i using JM with
   | _ i ih =>
     intro hlt
     cases hl:listed.getD i false with
     | true=>rfl
     | false =>
       have ho:ops[i]?=some ops[i]:=JR hlt
       have hmem:i∈Region.ready .any ops listed:=by
        rw[mem_ready]
        refine⟨?_,ops[i],ho,fun e he hb=>ih e.on ((Qbp h.ok ho).1 e he hb) (J6 ((Qbp h.ok ho).1 e he hb) hlt)⟩
        have hsz:i<listed.size:=by rw[hi.size]; exact hlt
        simpa [hsz] using hl
       rw[hready] at hmem
       cases hmem
  obtain⟨f1,f2,f3⟩:=QcB h ops.size (Jw _)
  have lt_of:∀ i t,wT ops i t->i<ops.size:=fun i t ⟨o,ho,_⟩=>(Ja.1 ho).1
  refine hK β a w (QAg (S:=S) (hi.nt.trans f1.symm) (hi.base.trans f2.symm) ?_ hs (fun t=>?_))
  ·apply JS
   intro k
   obtain⟨m,hm,e,_,h2⟩:=hi.hp k
   rw[e]
   exact(QeS h ops.size hm (Jw _) (fun i h3 h4 hw=>by have:=h2 i h3 h4 hw; rw[all i h4] at this; cases this)).symm
  ·obtain ⟨m,hm,e,_,h2⟩:=hi.tm t
   rw[e]
   exact(Qey h ops.size hm (Jw _) (fun i h3 h4 hw=>by have:=h2 i h3 hw; rw[all i h4] at this; cases this)).symm
 intro fuel
 induction fuel with
 | zero =>
   intro listed a w β S hc hs hi
   have hready:Region.ready .any ops listed=[]:=by
    apply JH.2
    intro j hj
    obtain⟨h0,o,ho,_⟩:=mem_ready.1 hj
    have hlt:j<ops.size:=(Ja.1 ho).1
    have:0<(Jk ops.size).countP (fun i=>!listed.getD i false):=by
     rw[JZ]
     refine⟨j,Jm.2 hlt,?_⟩
     have hsz:j<listed.size:=by rw[hi.size]; exact hlt
     simp[hsz] at h0 |-
     exact h0
    omega
   exact⟨hready,done listed a w β S hready hs hi⟩
 | succ fuel ih =>
   intro listed a w β S hc hs hi
   refine⟨fun hready=>done listed a w β S hready hs hi,fun j hj=>?_⟩
   obtain⟨h0,oj,hoj,hr⟩:=mem_ready.1 hj
   have hlt:j<ops.size:=(Ja.1 hoj).1
   have hsz:j<listed.size:=by rw[hi.size]; exact hlt
   have hun:listed.getD j false=false:=by simp[hsz] at h0 |-; exact h0
   obtain⟨o',ho',hstep,_⟩:=h.step j hlt
   rw[hoj] at ho'
   simp at ho'
   subst ho'
   have htm:∀ t∈oj.looksAt ops,V.look S.tm t=V.look (T j).tm t:=fun t ht=>(Qut h hi hoj hun hr (.inl ht)).1
   have heff:=QeA hstep
   obtain⟨hf,G,hg,hcase⟩:=hstep
   obtain⟨f1,f2,f3⟩:=QcB h j (by omega)
   have hf':S.fits oj.dst=true:=by
    unfold St.fits at hf |-
    rw[hi.nt,<- f1]; exact hf
   have hg':QK ops.toList S oj=some G:=by rw[Qbv htm]; exact hg
   have hw:=QS (ops:=ops) hs hg'
   have hevS:∀ x∈oj.op.operands.toList,Qs G (S.ev x)=Qs G ((T j).ev x):=fun x hx=>by rw[Qik htm x hx]
   have hev:G=true->∀ x,RelD w β S.hp (Qs G (S.ev x)) (a.eval x):=fun hG x=>Qaq (hs.ev x) hG
   have hcnt:(Jk ops.size).countP (fun i=>!(listed.setIfInBounds j true).getD i false)<=fuel:=by
    have:(Jk ops.size).countP (fun i=>!(listed.setIfInBounds j true).getD i false)<(Jk ops.size).countP (fun i=>!listed.getD i false):=by
     refine Qe4 (Jm.2 hlt) (by rw[hun]; rfl) (by simp[hsz]) (fun i hp=>?_)
     by_cases hij:i=j
     ·rw[hij,hun]; rfl
     ·rw[getD_set_ne false (Ne.symm hij)] at hp; exact hp
    omega
   unfold wpOp
   simp only[hoj,hw]
   -- what stands QW this operation
   have next:∀ (β1:Map) (a1:Act) (w1:World) (S1:St),Sim O β1 S1 a1 w1->S1.nt=S.nt->S1.base=S.base->S1.hp.length=S.hp.length->(∀ t,oj.dst≠some t->V.look S1.tm t=V.look S.tm t)->(∀ t,oj.dst=some t->V.look S1.tm t=V.look (T (j+1)).tm t) ->
    (∀ k,¬ wB F j k->S1.hp[k]?=S.hp[k]?)->(∀ k,wB F j k->S1.hp[k]?=(T (j+1)).hp[k]?)->wpAny P .any ops Q fuel (listed.setIfInBounds j true) a1 w1:=
    fun β1 a1 w1 S1 k0 k1 k2 k3 k4 k5 k6 k7=>ih _ a1 w1 β1 S1 hcnt k0 (Qki h hi hoj hun hr k1 k2 k3 k4 k5 k6 k7)
   have putlook:∀ (S0:St) (d:DV) t,oj.dst=some t->V.look (S0.put oj.dst d).tm t=d:=fun S0 d t ht=>by rw[ht]; simp[St.put,V.look]
   rcases hcase with⟨g,args,d,hc,hcalls,ha,hd,hT,hF⟩ | ⟨d,hp',hc,hv,hk,hT,hF⟩ | ⟨rfl,hT,hF⟩
   ·have nb:∀ k,¬ wB F j k:=fun k hk=>by have:=hk.1; rw [hF] at this; cases this
    have fin:∀ (β1:Map) (a1:Act) (w1:World),Sim O β1 (S.put oj.dst (Qde oj.guard G d)) a1 w1->wpAny P .any ops Q fuel (listed.setIfInBounds j true) a1 w1:=fun β1 a1 w1 k0=>
     next β1 a1 w1 _ k0 (St.put_nt ..) (St.put_base ..) (by rw[St.put_hp]) (fun t ht=>St.put_look _ _ _ t ht) (fun t ht=>by rw[hT,putlook _ _ t ht,putlook _ _ t ht]) (fun k _=>by rw[St.put_hp]) (fun k hk=>absurd hk (nb k))
    cases hG:G with
    | true =>
      subst hG
      rw[if_pos rfl]
      have hc':Qq (fun x=>Qs true (S.ev x)) oj.op=some (g,args):=by rw[QhF hevS]; exact hc
      refine .inl (QhG (hev rfl) hc' hs.heap ((VCalls.pure ((hcalls rfl).mono fun r h' ⟨e1,e2⟩=>⟨e1,by rw[e2]; exact hd,e2⟩) ha).mono fun r h' hh=>hh) (fun v r h' β' w' k1 k2 k3 k4=>?_))
      obtain⟨rfl,rfl⟩:=k4
      refine fin β' _ _ (hs.step k1 k2 (d:=Qde oj.guard true r) ?_ hf')
      cases oj.guard with
      | none=>exact k3
      | some _=>exact .opt true r v (fun _=>k3) (by simp)
    | false =>
      subst hG
      rw[if_neg (by simp)]
      refine fin β _ _ (hs.skip (d:=Qde oj.guard false d) ?_ hf')
      cases hgd:oj.guard with
      | none=>simp[QK,hgd] at hg
      | some _=>exact .opt false d undef (by simp) (fun _=>rfl)
   ·have hfoot:∀ k ∈ (Qci (fun x=>Qs G ((T j).ev x)) oj.op).1,S.hp[k]? = (T j).hp[k]?:=fun k hk'=>by
     rw[<- hF] at hk'
     exact(Qmb h hi hoj hun hr hk').1
    have hcong:vop P (fun x=>Qs G (S.ev x)) S.hp oj.op=vop P (fun x=>Qs G ((T j).ev x)) S.hp oj.op:=QgF hk hevS
    cases hG:G with
    | true =>
      subst hG
      rw[if_pos rfl]
      simp only[cond_true] at hT
      have hdr:∀ {β':Map} {h':Qa} {w':World} {v:Value},RelD w' β' h' d v->RelD w' β' h' (Qde oj.guard true d) v:=fun {β' h' w' v} k3=>by
       cases oj.guard with
       | none=>exact k3
       | some _=>exact .opt true d v (fun _=>k3) (by simp)
      rcases Qc5 (hp':=S.hp) hk hfoot hv with⟨w0,e1,e2⟩ | ⟨w1,k0,cs,e0,e1,e2⟩
      ·rw [<- hcong] at e2
       subst e1
       have nb:∀ k,¬ wB F j k:=fun k hk=>by have:=hk.1; rw[hF,w0] at this; cases this
       refine .inl (QbZ (Qa5 hs.heap (hev rfl) (fun _=>rfl) e2) (fun v w' β' k1 k2 k3=>?_))
       exact next β' _ _ _ (hs.step k1 k2 (hdr k3) hf') (St.put_nt ..) (St.put_base ..) (by rw[St.put_hp]) (fun t ht=>St.put_look _ _ _ t ht) (fun t ht=>by rw[hT,putlook _ _ t ht,putlook _ _ t ht])
        (fun k _=>by rw[St.put_hp]) (fun k hk=>absurd hk (nb k))
      ·rw [<- hcong] at e2
       subst e1
       refine .inl (QbZ (Qa5 hs.heap (hev rfl) (fun _=>rfl) e2) (fun v w' β' k1 k2 k3=>?_))
       have hwk:∀ k,wB F j k ↔ k=k0:=fun k=>by unfold wB; rw[hF,w1,e0]; simp
       refine next β' _ _ _ (hs.step k1 k2 (hdr k3) hf') (St.put_nt ..) (St.put_base ..) (by rw[St.put_hp]; show(Qv S.hp k0 cs).length=_; unfold Qv; split<;>simp) (fun t ht=>St.put_look _ _ _ t ht) (fun t ht=>by rw[hT,putlook _ _ t ht,putlook _ _ t ht]) (fun k hk=>?_) (fun k hk=>?_)
       ·rw [St.put_hp]
        show(Qv S.hp k0 cs)[k]?=_
        have hne:k0≠k:=fun he=>hk ((hwk k).2 he.symm)
        unfold Qv
        split
        ·rw[Jq hne]
        ·rfl
       ·rw [(hwk k).1 hk,hT,St.put_hp,St.put_hp]
        show(Qv S.hp k0 cs)[k0]?=(Qv (T j).hp k0 cs)[k0]?
        have hsame:S.hp[k0]?=(T j).hp[k0]?:=hfoot k0 (by rw[e0]; simp)
        unfold Qv
        rw[hsame]
        cases hB:(T j).hp[k0]? with
        | none=>simp only; rw[hsame]
        | some B =>
          have l1:k0<(T j).hp.length:=(Jc.1 hB).1
          have l2:k0<S.hp.length:=(Jc.1 (hsame.trans hB)).1
          simp only
          rw[JG l1,JG l2]
    | false =>
      subst hG
      rw[if_neg (by simp)]
      simp only[cond_false] at hT
      refine next β _ _ (S.put oj.dst (Qde oj.guard false d)) (hs.skip (d:=Qde oj.guard false d) ?_ hf') (St.put_nt ..) (St.put_base ..) (by rw[St.put_hp]) (fun t ht=>St.put_look _ _ _ t ht) (fun t ht=>by rw[hT,putlook _ _ t ht,putlook _ _ t ht]) (fun k _=>by rw[St.put_hp]) (fun k hk=>?_)
      ·cases hgd:oj.guard with
       | none=>simp[QK,hgd] at hg
       | some _=>exact .opt false d undef (by simp) (fun _=>rfl)
      ·rw [hT,St.put_hp,St.put_hp]
       exact(Qmb h hi hoj hun hr hk.2).1
   ·have nb:∀ k,¬ wB F j k:=fun k hk=>by have:=hk.1; rw [hF] at this; cases this
    rw[if_neg (by simp)]
    exact next β _ _ _ (hs.skip (.tup [] #[] rfl (by simp)) hf') (St.put_nt ..) (St.put_base ..) (by rw[St.put_hp]) (fun t ht=>St.put_look _ _ _ t ht) (fun t ht=>by rw[hT,putlook _ _ t ht,putlook _ _ t ht]) (fun k _=>by rw[St.put_hp]) (fun k hk=>absurd hk (nb k))
end
def Qby {id:Nat} (hm:P.follows .mixedOrders = true) (hB:Qe3 ops = true) (h:vdr P ops.toList ops.toList [] (Q .normal) S):VDraw P id ops Q S:=by
 intro O β a w hs
 obtain⟨T,F,_,h2,h3,h4⟩:=Qer ops.toList [] [] S rfl rfl h
 simp only[List.length_nil] at h2
 have hsteps:Steps P ops T F:=⟨fun j hj=>by
  obtain⟨o,e1,e2,e3⟩:=h4 j (JL _) (by simpa using hj)
  exact⟨o,by simpa using e1,e2,e3⟩,hB⟩
 have hs':Sim O β (T 0) a { w with drawn:=w.drawn+1 }:=by
  rw[h2]
  have e:Evo w β S.hp w.drew β S.hp:=QbF w β S.hp
  exact⟨hs.defers,hs.size,fun t=>(hs.tm t).mono e,hs.heap.drew,hs.evo.trans e,hs.base⟩
 refine wp_region_any hm (Qd2 (O:=O) (Q:=Ql1 O Q) hsteps (fun β a w hk=>⟨β,_,hk,by simpa using h3⟩) ops.size (Jo ops.size false) a _ β (T 0) ?_ hs' ?_)
 ·have:=JX (p:=fun i=>!(Jo ops.size false).getD i false) (l:=Jk ops.size)
  simpa using this
 ·have hfalse:∀ i,(Jo ops.size false).getD i false = false:=fun i=>by
   by_cases hi:i<ops.size
   ·simp[hi]
   ·simp[hi]
  refine⟨by simp,rfl,rfl,rfl,fun i o _ hl=>?_,fun t=>⟨0,JL _,rfl,fun i hi=>absurd hi (J4 _),fun i _ _=>hfalse i⟩,fun k=>⟨0,JL _,rfl,fun i hi=>absurd hi (J4 _),fun i _ _ _=>hfalse i⟩⟩
  rw[hfalse] at hl
  cases hl
end Go.V
namespace Go.V
def RelD.closed (h:RelD w β hp d v) (hn:d.nums (fun _=>false) = true) (him:∀ b,img β' hp' b->img β hp b):RelD w β' hp' d v:=by
 induction h with
 | pv q v h=>exact .pv q v (h.mono (Jw _) (fun _ _ _=>rfl) (fun b _=>him b))
 | ptr k off b h hb=>simp[DV.nums] at hn
 | own=>simp[DV.nums] at hn
 | own0=>simp[DV.nums] at hn
 | ownc=>simp[DV.nums] at hn
 | ip cs ad val h1 h2 h3 =>
   exact .ip cs ad val h1 (fun j d hd=>⟨(h2 j d hd).1,fun x=>(h2 j d hd).2.1 (him _ x),(h2 j d hd).2.2⟩) (fun j d hd=>(h3 j d hd).mono (Jw _) (fun _ _ _=>rfl) (fun b _=>him b))
 | agg ds vs h _ ih=>exact .agg _ vs h (fun i d hd=>ih i d hd (DV.nums_go (by simpa [DV.nums] using hn) i d hd))
 | tup ds vs h _ ih=>exact .tup _ vs h (fun i d hd=>ih i d hd (DV.nums_go (by simpa [DV.nums] using hn) i d hd))
 | fn f ds es vs us h h' _ _ ih ih' =>
   have hr':DV.nums.go (fun _=>false) ds=true/\DV.nums.go (fun _=>false) es=true:=by simpa [DV.nums] using hn
   exact .fn f _ _ vs us h h' (fun i d hd=>ih i d hd (DV.nums_go hr'.1 i d hd)) (fun i d hd=>ih' i d hd (DV.nums_go hr'.2 i d hd))
 | opt c d v _ hf ih=>exact .opt c _ v (fun hc=>ih hc (by simpa [DV.nums] using hn)) hf
 | any v=>exact .any v
def VCalls.ptr1 {g:FuncId} {args:List DV} {hp:Qa} {k:Nat} {B:Blk} {R:DV->Blk->Prop} (hk:hp[k]? = some B) (hl:B.live = true) (hB:DV.nums.go (fun _=>false) B.cells = true) (c:VCalls P g (args.map (DV.ren fun _=>0)) [B] fun r h'=>∃ B',h' = [B']/\B'.live = true/\DV.nums.go (fun _=>false) B'.cells = true/\r.nums (fun _=>false) = true/\R r B') (ha:DV.nums.go (fun i=>i == k) args = true):VCalls P g args hp fun r h'=>∃ B',h' = hp.set k B'/\B'.live = true/\DV.nums.go (fun _=>false) B'.cells = true/\R r B':=by
 refine⟨fun w β vs hh hr=>?_⟩
 have hklt:k<hp.length:=(Jc.1 hk).1
 let βc:Map:=⟨fun i=>if i=0 then β.f k else none,fun b=>img β hp b/\β.f k≠some b⟩
 have livec:∀ b,live βc [B] b ↔ β.f k=some b:=fun b=>by
  constructor
  ·rintro ⟨i,D,h1,h2,h3⟩
   cases i with
   | zero=>exact h3
   | succ i=>simp at h1
  ·intro h
   exact⟨0,B,rfl,hl,h⟩
 have livek:∀ b,β.f k=some b->live β hp b:=fun b hb=>⟨k,B,hk,hl,hb⟩
 have himc:∀ b,img βc [B] b->img β hp b:=fun b hb=>by
  rcases hb with hb | hb
  ·exact hb.1
  ·exact .inr (livek b ((livec b).1 hb))
 have himc':∀ b,img β hp b->img βc [B] b:=fun b hb=>by
  by_cases h:β.f k=some b
  ·exact .inr ((livec b).2 h)
  ·exact .inl ⟨hb,h⟩
 have hhc:HeapRel w βc [B]:=by
  refine⟨fun i D b h1 h2 h3=>?_,fun i D h1 h2 h3=>?_,fun i j D D' b h1 h2 _ _ _ _=>?_,fun i D b h1 h2 h3=>?_,fun b hb=>?_⟩
  ·cases i with
   | zero =>
     simp at h1
     subst h1
     obtain⟨C,g1,g2,g3⟩:=hh.blk k B b hk hl h3
     exact⟨C,g1,g2,fun i d hd=>⟨(g3 i d hd).1,(g3 i d hd).2.closed (DV.nums_go hB i d hd) himc⟩⟩
   | succ i=>simp at h1
  ·cases i with
   | zero=>simp at h1; subst h1; exact hh.none k B hk hl h3
   | succ i=>simp at h1
  ·cases i<;>cases j<;>simp_all
  ·cases i with
   | zero=>exact fun hX=>hX.2 h3
   | succ i=>simp at h1
  ·rcases hb.1 with hb | hb
   ·exact hh.bound b hb
   ·exact Qcg hh hb
 have hargs:RelL w βc [B] (args.map (DV.ren fun _=>0)) vs:=by
  refine⟨by simpa using hr.1,fun i d hd=>?_⟩
  rw[Jg] at hd
  cases hx:args[i]? with
  | none=>simp[hx] at hd
  | some x =>
    simp[hx] at hd
    subst hd
    exact RelD.ren (p:=fun i=>i==k) (fun j hj _=>⟨by simp,by simp at hj; simp[βc,hj]⟩) himc (hr.2 i x hx) (DV.nums_go ha i x hx)
 refine(c.run w βc vs hhc hargs).mono ?_
 rintro e w' ⟨v,r,h',β',rfl,ev,hh',hrel,B',rfl,hl',hB',hrn,hR⟩
 have hf0:β'.f 0=β.f k:=ev.beta 0 (by simp)
 have hset:(hp.set k B')[k]?=some B':=JG hklt
 have lives:∀ b,live β (hp.set k B') b->live β hp b:=by
  rintro b ⟨j,D,h1,h2,h3⟩
  by_cases hj:j=k
  ·subst hj; exact livek b h3
  ·rw[Jq (by omega)] at h1; exact⟨j,D,h1,h2,h3⟩
 have e:Evo w β hp w' β (hp.set k B'):=by
  refine⟨ev.os,ev.tape,ev.output,ev.size,by simp,fun _ _=>rfl,fun b hb hn=>ev.same b hb (fun h=>hn (livek b ((livec b).1 h))),ev.shape,fun b _ h=>lives b h,rfl⟩
 have him':∀ b,img β (hp.set k B') b->img β' [B'] b:=fun b hb=>by
  by_cases h:β.f k=some b
  ·exact .inr ⟨0,B',rfl,hl',hf0.trans h⟩
  ·refine .inl ?_
   rw[ev.X]
   exact⟨hb.imp id (lives b),h⟩
 refine⟨v,r,hp.set k B',β,rfl,e,?_,hrel.closed hrn him',B',rfl,hl',hB',hR⟩
 refine⟨fun j D b h1 h2 h3=>?_,fun j D h1 h2 h3=>?_,fun i j D D' b h1 h2 h3 h4 h5 h6=>?_,fun j D b h1 h2 h3=>?_,fun b hb=>Jp (hh.bound b hb) ev.size⟩
 ·by_cases hj:j = k
  ·subst hj
   rw[hset] at h1
   simp at h1
   subst h1
   obtain⟨C,g1,g2,g3⟩:=hh'.blk 0 B' b rfl hl' (hf0.trans h3)
   exact⟨C,g1,g2,fun i d hd=>⟨(g3 i d hd).1,(g3 i d hd).2.closed (DV.nums_go hB' i d hd) him'⟩⟩
  ·rw [Jq (by omega)] at h1
   obtain⟨C,g1,g2,g3⟩:=hh.blk j D b h1 h2 h3
   have hne:β.f k≠some b:=fun h=>hj (hh.inj j k D B b h1 hk h2 hl h3 h)
   have hsame:=ev.same b (Ja.1 g1).1 (fun h=>hne ((livec b).1 h))
   exact⟨C,by rw[hsame]; exact g1,g2,fun i d hd=>⟨(g3 i d hd).1,(g3 i d hd).2.mono e⟩⟩
 ·by_cases hj:j = k
  ·subst hj
   rw[hset] at h1
   simp at h1
   subst h1
   exact hh'.none 0 B' rfl hl' (hf0.trans h3)
  ·rw [Jq (by omega)] at h1
   exact hh.none j D h1 h2 h3
 ·have back:∀ {i:Nat} {D:Blk},(hp.set k B')[i]? = some D->D.live = true->∃ D0,hp[i]? = some D0/\D0.live = true:=fun {i D} h1 h2=>by
   by_cases hi:i=k
   ·subst hi; exact⟨B,hk,hl⟩
   ·rw[Jq (by omega)] at h1; exact⟨D,h1,h2⟩
  obtain⟨D0,q1,q2⟩:=back h1 h3
  obtain⟨D1,q3,q4⟩:=back h2 h4
  exact hh.inj i j D0 D1 b q1 q3 q2 q4 h5 h6
 ·by_cases hj:j = k
  ·subst hj; exact hh.avoid j B b hk hl h3
  ·rw[Jq (by omega)] at h1; exact hh.avoid j D b h1 h2 h3
def DV.flat:DV->Bool
 | .pv (.lit _) | .pv (.str _)=>true
 | .agg cs | .tup cs=>go cs
 | _=>false
where
 go:List DV->Bool
  | []=>true
  | d::r=>d.flat&&go r
def DV.flat_go (h:DV.flat.go ds = true):∀ (i:Nat) (d:DV),ds[i]? = some d->d.flat = true:=by
 induction ds with
 | nil=>intro i d h; simp at h
 | cons x r ih =>
   simp only[DV.flat.go,Jb] at h
   intro i d hd
   cases i with
   | zero=>simp at hd; subst hd; exact h.1
   | succ i=>exact ih h.2 i d (by simpa using hd)
def RelD.flat (h:RelD w β hp d v) (hf:d.flat = true):RelD w' β' hp' d v:=by
 induction h with
 | pv q v h=>cases h with
   | lit _ h=>exact .pv _ _ (.lit _ h)
   | str l=>exact .pv _ _ (.str l)
   | _=>simp[DV.flat] at hf
 | agg ds vs h _ ih=>exact .agg _ vs h (fun i d hd=>ih i d hd (DV.flat_go (by simpa [DV.flat] using hf) i d hd))
 | tup ds vs h _ ih=>exact .tup _ vs h (fun i d hd=>ih i d hd (DV.flat_go (by simpa [DV.flat] using hf) i d hd))
 | _=>simp[DV.flat] at hf
def VCalls.new {g:FuncId} {args:List DV} {hp:Qa} {R:Blk->Prop} (c:VCalls P g args [] fun r h'=>∃ B,h' = [B]/\r = .ptr 0 0/\B.live = true/\DV.nums.go (fun _=>false) B.cells = true/\R B) (ha:DV.nums.go (fun _=>false) args = true):VCalls P g args hp fun r h'=>∃ B,h' = hp ++ [B]/\r = .ptr hp.length 0/\B.live = true/\DV.nums.go (fun _=>false) B.cells = true/\R B:=by
 refine⟨fun w β vs hh hr=>?_⟩
 let βc:Map:=⟨fun _=>none,img β hp⟩
 have himc:∀ b,img βc [] b->img β hp b:=fun b hb=>by
  rcases hb with hb | ⟨k,B,h1,_⟩
  ·exact hb
  ·simp at h1
 have hhc:HeapRel w βc []:=⟨by simp,by simp,by simp,by simp,fun b hb=>by
  rcases hb with hb | hb
  ·exact hh.bound b hb
  ·exact Qcg hh hb⟩
 refine(c.run w βc vs hhc ⟨hr.1,fun i d hd=>(hr.2 i d hd).closed (DV.nums_go ha i d hd) himc⟩).mono ?_
 rintro e w' ⟨v,r,h',β',rfl,ev,hh',hrel,B,rfl,rfl,hl,hB,hR⟩
 have heap_same:∀ b,b<w.heap.size->w'.heap[b]?=w.heap[b]?:=fun b hb=>ev.same b hb (by rintro⟨k,B,h1,_⟩; simp at h1)
 cases hrel with
 | ptr _ _ b0 _ hb0 =>
   obtain⟨C0,c1,c2,c3⟩:=hh'.blk 0 B b0 rfl hl hb0
   have hnew:¬ b0<w.heap.size:=fun hlt=>by
    have:=ev.im b0 hlt ⟨0,B,rfl,hl,hb0⟩
    obtain⟨k,D,h1,_⟩:=this
    simp at h1
   have e:Evo w β hp w' (ext β hp.length (some b0)) (hp++[B]):=by
    refine⟨ev.os,ev.tape,ev.output,ev.size,by simp,fun k hk=>QaO hk,fun b hb _=>heap_same b hb,fun b C T m h=>⟨C,m,by rw[heap_same b (Ja.1 h).1]; exact h,rfl⟩,fun b hb h=>?_,rfl⟩
    rcases(QeO hl).1 h with h | h
    ·exact h
    ·omega
   have him':∀ b,img β hp b->img β' [B] b:=fun b hb=>.inl (by rw[ev.X]; exact hb)
   have him2:∀ b,img (ext β hp.length (some b0)) (hp++[B]) b->img β' [B] b:=fun b hb=>by
    rcases hb with hb | hb
    ·exact him' b (.inl hb)
    ·rcases (QeO hl).1 hb with hb | hb
     ·exact him' b (.inr hb)
     ·rw[hb]; exact .inr ⟨0,B,rfl,hl,hb0⟩
   refine⟨_,.ptr hp.length 0,hp++[B],ext β hp.length (some b0),rfl,e,?_,.ptr _ _ b0 (by simp) (by simp[ext]),B,rfl,rfl,hl,hB,hR⟩
   have lt_of:∀ {k:Nat} {D:Blk},(hp++[B])[k]?=some D->(k<hp.length/\hp[k]?=some D/\(ext β hp.length (some b0)).f k=β.f k)\/(k=hp.length/\D=B/\(ext β hp.length (some b0)).f k=some b0):=fun {k D} h=>by
    rcases J2 k hp.length with hlt | heq | hgt
    ·rw [Jz hlt] at h
     exact .inl ⟨hlt,h,QaO hlt⟩
    ·subst heq
     simp at h
     exact .inr ⟨rfl,h.symm,by simp[ext]⟩
    ·rw [JE (by omega),Jt (by simp; omega)] at h
     simp at h
   refine⟨fun k D b hk hD hb=>?_,fun k D hk hD hb=>?_,fun j k D D' b hj hk hD hD' h1 h2=>?_,fun k D b hk hD hb=>?_,fun b hb=>Jp (hh.bound b hb) ev.size⟩
   ·rcases lt_of hk with ⟨_,hk',he⟩ | ⟨rfl,rfl,he⟩
    ·rw [he] at hb
     obtain⟨C,g1,g2,g3⟩:=hh.blk k D b hk' hD hb
     exact⟨C,by rw[heap_same b (Ja.1 g1).1]; exact g1,g2,fun i d hd=>⟨(g3 i d hd).1,(g3 i d hd).2.mono e⟩⟩
    ·rw [he] at hb
     simp at hb
     subst hb
     exact⟨C0,c1,c2,fun i d hd=>⟨(c3 i d hd).1,(c3 i d hd).2.closed (DV.nums_go hB i d hd) him2⟩⟩
   ·rcases lt_of hk with ⟨_,hk',he⟩ | ⟨rfl,rfl,he⟩
    ·exact hh.none k D hk' hD (by rw[<- he]; exact hb)
    ·rw[he] at hb; simp at hb
   ·rcases lt_of hj with ⟨_,hj',hje⟩ | ⟨rfl,rfl,hje⟩<;>rcases lt_of hk with ⟨_,hk',hke⟩ | ⟨rfl,rfl,hke⟩
    ·exact hh.inj j k D D' b hj' hk' hD hD' (by rw[<- hje]; exact h1) (by rw[<- hke]; exact h2)
    ·exfalso
     rw[hke] at h2
     simp at h2
     exact hnew (h2▸Qcg hh ⟨j,D,hj',hD,by rw[<- hje]; exact h1⟩)
    ·exfalso
     rw[hje] at h1
     simp at h1
     exact hnew (h1▸Qcg hh ⟨k,D',hk',hD',by rw[<- hke]; exact h2⟩)
    ·rfl
   ·rcases lt_of hk with ⟨_,hk',he⟩ | ⟨rfl,rfl,he⟩
    ·exact hh.avoid k D b hk' hD (by rw[<- he]; exact hb)
    ·rw [he] at hb
     simp at hb
     intro hX
     exact hnew (hb▸hh.bound b hX)
end Go.V
namespace Go.V
def QD5(c a b:DV)(hp:Qa):Option (DV×Qa):=
 match c with
 | .pv (.lit (.bool t))=>some (QlH t (Qs t a) (Qs (!t) b),hp)
 | _=>none
def QHB(x:DV)(hp:Qa):Option (DV×Qa):=
 match x with
 | .ptr k off=>some (.ptr k off,hp)
 | .ip cs=>some (.ip cs,hp)
 | _=>none
def Qnw(x:DV):List Nat:=match x with | .ptr k _=>[k] | _=>[]
def QES(x:DV):List Nat:=match x with | .own k _ _ _=>[k] | .ptr k _=>[k] | _=>[]
def QHE(f:DV)(args:List DV):Option (FuncId×List DV):=
 match f with
 | .fn (.func g) first cap=>some (g,first++args++cap)
 | _=>none
def QGj(d:Option DV)(want:Bool):Option Bool:=
 match d with
 | some (.pv (.lit (.bool b)))=>some (b==want)
 | some (.opt g (.pv (.lit (.bool b))))=>some (g&&(b==want))
 | some (.opt false (.tup _))=>some false
 | some (.tup [])=>some false
 | _=>none
def evG(G:Bool)(S:St)(x:Operand):DV:=Qs G (S.ev x)
def QAA(P:Program)(all:List Oper)(o:Oper)(r:List Oper)(K:St->Prop)(S:St)(d:DV)(hp:Qa):Prop:=Qar P all r K ((S.at hp).put o.dst (Qde o.guard true d))
def QrI(P:Program)(all:List Oper)(o:Oper)(r:List Oper)(K:St->Prop)(S:St)(x:Option (DV×Qa)):Prop:=
 match x with
 | some (d,hp)=>Qar P all r K ((S.at hp).put o.dst (Qde o.guard true d))
 | none=>False
def QpJ(P:Program)(all:List Oper)(o:Oper)(r:List Oper)(K:St->Prop)(S:St)(c:Option (FuncId×List DV)):Prop:=
 match c with
 | some (g,args)=>VCalls P g args S.hp (QAA P all o r K S)
 | none=>QrI P all o r K S (vop P (evG true S) S.hp o.op)
def Qfa(P:Program)(all:List Oper)(o:Oper)(r:List Oper)(K:St->Prop)(S:St)(G:Bool):Prop:=
 match G with
 | false=>Qar P all r K (S.put o.dst (.tup []))
 | true=>QpJ P all o r K S (Qq (evG true S) o.op)
def QrJ(P:Program)(all:List Oper)(o:Oper)(r:List Oper)(K:St->Prop)(S:St)(g:Option Bool):Prop:=
 match g with
 | none=>False
 | some G=>Qfa P all o r K S G
def vdc(P:Program)(g:FuncId)(args:List DV)(K:DV->Prop):Prop:=∃ d,(VCalls P g args [] fun r h=>h=[]/\r=d)/\DV.nums.go (fun _=>false) args=true/\d.nums (fun _=>false)=true/\K d
def QH6(P:Program)(all:List Oper)(o:Oper)(r:List Oper)(fs:List (List Nat×Bool))(K:St->Prop)(S:St)(d:DV):Prop:=vdr P all r (fs++[([],false)]) K (S.put o.dst (Qde o.guard true d))
def QEb(P:Program)(all:List Oper)(o:Oper)(r:List Oper)(fs:List (List Nat×Bool))(K:St->Prop)(S:St)(f:List Nat×Bool)(x:Option (DV×Qa)):Prop:=
 match x with
 | some (d,hp)=>Qae o.op=true/\QaH o.after f 0 fs=true/\vdr P all r (fs++[f]) K ((S.at hp).put o.dst (Qde o.guard true d))
 | none=>False
def QEc(P:Program)(all:List Oper)(o:Oper)(r:List Oper)(fs:List (List Nat×Bool))(K:St->Prop)(S:St)(c:Option (FuncId×List DV)):Prop:=
 match c with
 | some (g,args)=>vdc P g args (QH6 P all o r fs K S)
 | none=>QEb P all o r fs K S (Qci (evG true S) o.op) (vop P (evG true S) S.hp o.op)
def QpW(P:Program)(all:List Oper)(o:Oper)(r:List Oper)(fs:List (List Nat×Bool))(K:St->Prop)(S:St)(G:Bool):Prop:=
 match G with
 | false=>vdr P all r (fs++[([],false)]) K (S.put o.dst (.tup []))
 | true=>QEc P all o r fs K S (Qq (evG true S) o.op)
def QEd(P:Program)(all:List Oper)(o:Oper)(r:List Oper)(fs:List (List Nat×Bool))(K:St->Prop)(S:St)(g:Option Bool):Prop:=
 match g with
 | none=>False
 | some G=>QpW P all o r fs K S G
def vbr(P:Program)(a b:Code)(Q:Exit->St->Prop)(S:St)(t:Bool):Prop:=QwL t (QC P a Q S) (QC P b Q S)
def Qrx(P:Program)(a b:Code)(Q:Exit->St->Prop)(S:St)(c:DV):Prop:=match c with | .pv (.lit (.bool t))=>vbr P a b Q S t | _=>False
def QwH(n:Nat)(hp:Qa)(R:DV->Qa->Prop)(r:Option DV):Prop:=match r with | some d=>Qv9 n hp d R | none=>False
def Qr6(hp:Qa)(R:DV->Qa->Prop)(r:Option DV):Prop:=match r with | some d=>R d hp | none=>False
def Qr7(R:DV->Qa->Prop)(r:Option DV)(h:Option Qa):Prop:=match r,h with | some d,some hp=>R d hp | _,_=>False
def QmO(n:Nat)(hp:Qa)(d:DV):Option DV:=match d with | .agg es=>(Qi (es.map (QcU n hp))).map .agg | d=>QcU n hp d
def vld(b:Option (List DV))(t:Option (Option Nat))(off:Nat):Option DV:=
 match b,t with
 | some cs,some none=>cs[off]?
 | some cs,some (some n)=>if off+n<=cs.length then some (.agg ((cs.drop off).take n)) else none
 | _,_=>none
def QGB(cs:List PV)(t:Option (Option Nat)):Option DV:=
 match t with
 | some none=>cs[0]?.map .pv
 | some (some n)=>if n<=cs.length then some (.agg ((cs.take n).map .pv)) else none
 | none=>none
def vst (hp:Qa) (k:Nat) (b:Option (List DV)) (t:Option (Option Nat)) (off:Nat) (d:DV):Option Qa :=
 match b,t with
 | some cs,some none=>if off<cs.length/\d.one=true then some (Qv hp k (cs.set off d)) else none
 | some cs,some (some n) =>
   match d with
   | .agg ds=>if off+n<=cs.length/\ds.length=n/\Qp ds=true then some (Qv hp k (splice cs off ds)) else none
   | _=>none
 | _,_=>none
def QpS(b:Bool)(d:DV)(r:List (Nat×DV))(t:Nat):DV:=bif b then d else V.look r t
def QGA(b g:Bool)(d:DV):DV:=bif b then d else .opt g d
inductive VK | int (k:IntKind) | str | arr (n:Nat) | sl (e:TypeId) | bool | other
def Qab(P:Program)(T:TypeId):VK:=
 match P.underlying T with
 | some (.int k)=>.int k
 | some .string=>.str
 | some (.array n _)=>.arr n
 | some (.slice e)=>.sl e
 | some .bool=>.bool
 | _=>.other
def QCW(ty:TypeId)(x:Option (List DV)):Option Qa:=match x with | some cs=>some [⟨ty,true,cs⟩] | none=>none
def Qri(e:Option (Option Nat×TypeId×Nat))(xs:List (List PV))(a b:Nat):Option DV:=
 match e with
 | some (none,_,sz)=>if a<=b/\b<=xs.length/\(xs=[]\/(xs[0]?.map J9)=some sz) then some (.pv (.sl ((xs.take b).drop a))) else none
 | _=>none
def QzH(u:VK)(xs:List UInt8)(a b:Nat):Option DV:=match u with | .str=>if a<=b/\b<=xs.length then some (.pv (.str ((xs.take b).drop a))) else none | _=>none
def vba (op:BinOp) (t:Option (Option Nat)) (l:Option (List (Nat × Nat))) (g:Bool) (xs ys:List DV):Option DV :=
 match t,l with
 | some (some _),some l =>
   if g then none else
   match op,QQ xs ys l with
   | .eql,some b=>some (.bool b)
   | .neq,some b=>some (.bool (!b))
   | _,_=>none
 | _,_=>none
def QGC(f:Option (TypeId×Nat×Nat))(k off:Nat):Option DV:=match f with | some (_,o,s)=>if s=0 then none else some (.ptr k (off+o)) | none=>none
def QGD(f:Option (TypeId×Nat×Nat))(cs:List PV):Option DV:=match f with | some (_,o,s)=>if s=0 then none else some (.ip (cs.drop o)) | none=>none
def vfv(P:Program)(cs:List DV)(f:Option (TypeId×Nat×Nat)):Option DV:=match f with | some (t,o,_)=>QhV P t cs o | none=>none
def vpt(t:Option (Option Nat))(cs:List DV)(off:Nat):Option DV:=
 match t with
 | some none=>cs[off]?
 | some (some n)=>if off+n<=cs.length then some (.agg ((cs.drop off).take n)) else none
 | none=>none
def QD9(e:Option (Option Nat×TypeId×Nat))(c:Option (List PV))(i:Int):Option DV:=
 match e,c with
 | some (none,_,sz),some c=>if 0<=i/\c.length=sz/\0<sz then some (.ip c) else none
 | _,_=>none
def QGi(e:Option (Option Nat×TypeId×Nat))(b sz' off len:Nat)(i:Int):Option DV:=
 match e with
 | some (none,_,sz)=>if sz'=sz/\0<=i/\i<len then some (.ptr b (off+i.toNat*sz)) else none
 | _=>none
def QGh(e:Option (Option Nat×TypeId×Nat))(b off:Nat)(i:Int):Option DV:=
 match e with
 | some (some n,_,sz)=>if 0<=i/\i<n then some (.ptr b (off+i.toNat*sz)) else none
 | _=>none
def QGg(P:Program)(e:Option (Option Nat×TypeId×Nat))(cs:List DV)(i:Int):Option DV:=
 match e with
 | some (some n,t,sz)=>if 0<=i/\i<n then QhV P t cs (i.toNat*sz) else none
 | _=>none
def QGf(u:VK)(b:Option UInt8)(i:Int):Option DV:=
 match u,b with
 | .str,some b=>if 0<=i then some (.pv (.lit (.int .u8 b.toNat))) else none
 | _,_=>none
def vlk(u:VK)(d:DV):Option DV:=match u with | .sl _=>some d | .arr n=>some (.int .i64 n) | _=>none
def vls(u:VK)(l:List UInt8):Option DV:=match u with | .str=>some (.int .i64 l.length) | .arr n=>some (.int .i64 n) | _=>none
def vci(s t:VK)(n:Int)(hp:Qa):Option (DV×Qa):=match s,t with | .int _,.int k=>some (.int k (k.wrap n),hp) | _,_=>none
def QGN(hp:Qa)(T:TypeId)(z:Option (List DV)):Option (DV×Qa):=match z with | some cs=>if Qp cs=true then some (.ptr hp.length 0,hp++[⟨T,true,cs⟩]) else none | none=>none
def QA2 (by_:Option Nat) (z:Option (List DV)) (B:Option Blk) (hp:Qa) (e:TypeId) (sz k sz' off n cap:Nat) (l:Int):Option (DV × Qa) :=
 match by_,z,B with
 | some by_,some z,some B =>
   if 0<l/\l<=1000000000/\0<sz/\z.length=sz/\Qp z=true/\0<by_/\(n+l.toNat)*by_<=140737488355328/\B.live=true/\B.ty=e/\sz'=sz/\off+n*sz<=B.cells.length/\cap<n+l.toNat then
    some (.own hp.length sz 0 (n+l.toNat),hp++[⟨e,true,(B.cells.drop off).take (n*sz)++mk z l.toNat⟩])
   else none
 | _,_,_=>none
def QA3(P:Program)(v:Option (Option Nat×TypeId×Nat))(u:VK)(hp:Qa)(k sz' off n cap:Nat)(l:Int):Option (DV×Qa):=
 match v,u with
 | some (none,e,sz),.int _=>QA2 (QaQ P e) (QR P e) hp[k]? hp e sz k sz' off n cap l
 | _,_=>none
def vck(u:VK)(n:Nat):Option DV:=match u with | .sl _=>some (.int .i64 n) | _=>none
def Qwp(e:Option (Option Nat×TypeId×Nat))(k sz off len b:Nat):Option DV:=
 match e with
 | some (none,_,_)=>if b<=len then some (.own k sz off b) else none
 | _=>none
def QDN(e:Option (Option Nat×TypeId×Nat))(k sz off len a b:Nat):Option DV:=
 match e with
 | some (none,_,s)=>if a<len/\a<=b/\b<=len/\s=sz then some (.own k sz (off+a*sz) (b-a)) else if a=len/\b=len then some (.pv (.sl [])) else none
 | _=>none
def Qws(e:Option (Option Nat×TypeId×Nat))(k sz off cap b:Nat):Option DV:=
 match e with
 | some (none,_,s)=>if b<=cap/\s=sz then some (.ownc k sz off b cap) else none
 | _=>none
def QDO(e:Option (Option Nat×TypeId×Nat))(k sz off cap a b:Nat):Option DV:=
 match e with
 | some (none,_,s)=>if a<=b/\b<=cap/\s=sz then some (.ownc k sz (off+a*sz) (b-a) (cap-a)) else none
 | _=>none
def Qwr(e:Option (Option Nat×TypeId×Nat))(k sz off cap a b c:Nat):Option DV:=
 match e with
 | some (none,_,s)=>if a<=b/\b<=c/\c<=cap/\s=sz then some (.ownc k sz (off+a*sz) (b-a) (c-a)) else none
 | _=>none
def QD6(op:BinOp)(u:Option TypeDesc)(b:Option Bool):Option DV:=match u with | some (.slice _)=>QrV op b | _=>none
def QGJ(z cs:Option (List DV))(hp:Qa)(k sz off len:Nat):Option (DV×Qa):=
 match z,cs with
 | some z,some cs=>if z.length=sz/\0<sz/\off+len*sz<=cs.length/\Qp z=true then some (.tup [],Qv hp k (splice cs off (mk z len))) else none
 | _,_=>none
def QGK(P:Program)(v:Option (Option Nat×TypeId×Nat))(hp:Qa)(k sz off len:Nat):Option (DV×Qa):=
 match v with
 | some (none,e,_)=>QGJ (QR P e) (Qh hp k) hp k sz off len
 | _=>none
def QgD(h:G=true->Qfa P all o r K S true)(h':G=false->Qfa P all o r K S false):Qfa P all o r K S G:=by cases G; exact h' rfl; exact h rfl
def Qiz(h:G=true->QpW P all o r fs K S true)(h':G=false->QpW P all o r fs K S false):QpW P all o r fs K S G:=by cases G; exact h' rfl; exact h rfl
def QM(h:t=true->QC P a Q S)(h':t=false->QC P b Q S):vbr P a b Q S t:=⟨h,h'⟩
theorem Qwy:vop P ev hp (.move x)=some (ev x,hp):=rfl
theorem Qk1:Qq ev (.move x)=none:=rfl
theorem QnD:Qae (.move x)=true:=rfl
theorem Qu5:Qci ev (.move x)=([],false):=rfl
theorem QpN:vop P ev hp (.assign x)=some (ev x,hp):=rfl
theorem Qh0:Qq ev (.assign x)=none:=rfl
theorem Qj5:Qae (.assign x)=true:=rfl
theorem Qn0:Qci ev (.assign x)=([],false):=rfl
theorem Qwx:vop P ev hp (.pick c a b)=QD5 (ev c) (ev a) (ev b) hp:=rfl
theorem Qk0:Qq ev (.pick c a b)=none:=rfl
theorem QnC:Qae (.pick c a b)=true:=rfl
theorem Qu4:Qci ev (.pick c a b)=([],false):=rfl
theorem QrT:vop P ev hp (.alloc T)=QgN P hp T:=rfl
theorem Qjx:Qq ev (.alloc T)=none:=rfl
theorem QAG:vop P ev hp (.box T x)=QDX hp T (ev x):=rfl
theorem Qm6:Qq ev (.box T x)=none:=rfl
theorem QrR:vop P ev hp (.build T ps)=(Qk5 P T (V.parts ev ps)).map fun d=>(d,hp):=rfl
theorem Qjv:Qq ev (.build T ps)=none:=rfl
theorem QlS:Qae (.build T ps)=true:=rfl
theorem QqO:Qci ev (.build T ps)=([],false):=rfl
theorem QhW:vop P ev hp (.buildSlice T n ps)=Qbi P hp T n (V.parts ev ps):=rfl
theorem Qes:Qq ev (.buildSlice T n ps)=none:=rfl
theorem Qwz:vop P ev hp (.load T a)=(Qeq P hp T (ev a)).map fun d=>(d,hp):=rfl
theorem Qk2:Qq ev (.load T a)=none:=rfl
theorem QnE:Qae (.load T a)=true:=rfl
theorem QrN:vop P ev hp (.store T a x)=(QfJ P hp T (ev a) (ev x)).map fun h=>(.tup [],h):=rfl
theorem Qjr:Qq ev (.store T a x)=none:=rfl
theorem QlQ:Qae (.store T a x)=true:=rfl
theorem QkM:vop P ev hp (.nilCheck x)=QHB (ev x) hp:=rfl
theorem Qf6:Qq ev (.nilCheck x)=none:=rfl
theorem Qhd:Qae (.nilCheck x)=true:=rfl
theorem Qkn:Qci ev (.nilCheck x)=([],false):=rfl
theorem QrS:vop P ev hp (.binOp op T x y yT)=(Qk6 P op T (ev x) y (ev y)).map fun d=>(d,hp):=rfl
theorem Qjw:Qq ev (.binOp op T x y yT)=none:=rfl
theorem QlT:Qae (.binOp op T x y yT)=true:=rfl
theorem QqP:Qci ev (.binOp op T x y yT)=([],false):=rfl
theorem Qww:vop P ev hp (.unOp op T x)=(vun op (ev x)).map fun d=>(d,hp):=rfl
theorem QkZ:Qq ev (.unOp op T x)=none:=rfl
theorem Qu3:Qci ev (.unOp op T x)=([],false):=rfl
theorem QmX:vop P ev hp (.convert S T x)=Qm3 P hp S T (ev x):=rfl
theorem QgK:Qq ev (.convert S T x)=none:=rfl
theorem Qia:Qae (.convert S T x)=true:=rfl
theorem QkN:vop P ev hp (.makeFunc f first cap)=some (.fn f (first.toList.map ev) (cap.toList.map ev),hp):=rfl
theorem Qf7:Qq ev (.makeFunc f first cap)=none:=rfl
theorem Qjk:vop P ev hp (.makeSlice T l c)=QrY P hp T (ev l) (ev c):=rfl
theorem Qff:Qq ev (.makeSlice T l c)=none:=rfl
theorem QrO:vop P ev hp (.slice T x lo hi mx)=(Qcb P hp T (ev x) (lo.map ev) (hi.map ev) (mx.map ev)).map fun d=>(d,hp):=rfl
theorem Qjs:Qq ev (.slice T x lo hi mx)=none:=rfl
theorem QlR:Qae (.slice T x lo hi mx)=true:=rfl
theorem Qjm:vop P ev hp (.fieldAddr T x f)=(Qao P T f (ev x)).map fun d=>(d,hp):=rfl
theorem Qfh:Qq ev (.fieldAddr T x f)=none:=rfl
theorem Qgb:Qae (.fieldAddr T x f)=true:=rfl
theorem Qij:Qci ev (.fieldAddr T x f)=([],false):=rfl
theorem QrQ:vop P ev hp (.field T x f)=(Qea P T f (ev x)).map fun d=>(d,hp):=rfl
theorem Qju:Qq ev (.field T x f)=none:=rfl
theorem Qjl:vop P ev hp (.indexAddr T x i)=(Qan P T (ev x) (ev i)).map fun d=>(d,hp):=rfl
theorem Qfg:Qq ev (.indexAddr T x i)=none:=rfl
theorem Qga:Qae (.indexAddr T x i)=true:=rfl
theorem Qii:Qci ev (.indexAddr T x i)=([],false):=rfl
theorem QrP:vop P ev hp (.index T x i)=(Qc6 P T (ev x) (ev i)).map fun d=>(d,hp):=rfl
theorem Qjt:Qq ev (.index T x i)=none:=rfl
theorem QmW:vop P ev hp (.extract x i)=(Qdz (ev x) i).map fun d=>(d,hp):=rfl
theorem QgJ:Qq ev (.extract x i)=none:=rfl
theorem Qmm:Qci ev (.extract x i)=([],false):=rfl
theorem Qu6:Qci ev (.load T a)=(Qnw (ev a),false):=rfl
theorem QqL:Qci ev (.store T a x)=(Qnw (ev a),true):=rfl
theorem Qmn:Qci ev (.convert S T x)=(QES (ev x),false):=rfl
theorem QqM:Qci ev (.slice T x lo hi mx)=(Qnw (ev x),false):=rfl
theorem Qu7:Qci ev (.call c)=([],false):=rfl
theorem Qqv:Qae (.call ⟨.builtin .len,a,t⟩)=true:=rfl
theorem QmY:vop P ev hp (.call ⟨.builtin b,a,t⟩)=Qas P hp b t (a.toList.map ev):=rfl
theorem QgL:Qq ev (.call ⟨.builtin b,a,t⟩)=none:=rfl
theorem Qjq:Qq ev (.call ⟨.value f,a,t⟩)=QHE (ev f) (a.toList.map ev):=rfl
theorem QAX:QHE (.fn (.func g) first cap) args=some (g,first++args++cap):=rfl
theorem QtQ:Qnw (.ptr k off)=[k]:=rfl
theorem Qx5:Qnw (.ip cs)=[]:=rfl
theorem QDk:Qm3 P hp S T (.pv p)=Qbs P hp S T (.pv p):=rfl
theorem QC0:QcU n hp (.fn f [] [])=some (.fn f [] []):=rfl
theorem Qzp:Qk6 P op T a (.tmp t) b=Qwb P op T a b:=rfl
theorem Qzs:Qk6 P op T a (.const (.int k n)) b=Qwb P op T a b:=rfl
theorem Qzq:Qk6 P op T a (.const (.string s)) b=Qwb P op T a b:=rfl
theorem Qzr:Qk6 P op T a (.const (.slice none 0 0)) b=QD6 op (P.underlying T) (QqC a):=rfl
theorem QwB:QD6 op (some (.slice e)) b=QrV op b:=rfl
theorem QrU:QrV .eql (some b)=some (.bool b):=rfl
theorem Qur:QqC (.pv (.lit (.slice ad n c)))=some ad.isNone:=rfl
theorem Qsd:QGK P (some (none,e,s)) hp k sz off len=QGJ (QR P e) (Qh hp k) hp k sz off len:=rfl
theorem Qsc:QGJ (some z) (some cs) hp k sz off len=if z.length=sz/\0<sz/\off+len*sz<=cs.length/\Qp z=true then some (.tup [],Qv hp k (splice cs off (mk z len))) else none:=rfl
theorem Qzt:Qas P hp .clear #[T] [x]=Qfd P hp T x:=rfl
theorem QDn:Qfd P hp T (.own k sz off len)=QGK P (QE P T) hp k sz off len:=rfl
theorem Qzh:Qfd P hp T (.ownc k sz off len cap)=QGK P (QE P T) hp k sz off len:=rfl
theorem Qzc:Qm3 P hp S T (.own k a b c)=Qbs P hp S T (.own k a b c):=rfl
theorem Qyc:QES (.pv p)=[]:=rfl
theorem QwA:QHB (.ptr k off) hp=some (.ptr k off,hp):=rfl
theorem QpM:QD5 (.pv (.lit (.bool t))) x y hp=some (QlH t (Qs t x) (Qs (!t) y),hp):=rfl
theorem Qw1:Qs G (.pv p)=.pv p:=rfl
theorem QsB:Qs G (.ptr k o)=.ptr k o:=rfl
theorem QsC:Qs G (.own k a b c)=.own k a b c:=rfl
theorem Qw2:Qs G (.ip cs)=.ip cs:=rfl
theorem QsE:Qs G (.agg cs)=.agg cs:=rfl
theorem QsA:Qs G (.tup cs)=.tup cs:=rfl
theorem Qw3:Qs G (.fn f a b)=.fn f a b:=rfl
def QsD:Qs G (.opt g d)=QGA (!G||g) g d:=by
 unfold Qs QGA
 cases G<;>cases g<;>rfl
theorem Qry:QGA true g d=d:=rfl
theorem QtZ:Qde none G d=d:=rfl
theorem QtY:Qde (some g) G d=.opt G d:=rfl
theorem Qqq:QlH t (.pv (.lit (.bool p))) (.pv (.lit (.bool q)))=.bool (bif t then p else q):=rfl
theorem QFt:St.ev ⟨nt,base,tm,hp⟩ (.tmp t)=V.look tm t:=rfl
theorem QyZ:St.ev S (.const v)=Qcf v:=rfl
theorem QC9:St.ev S (.func f)=.fn (.func f) [] []:=rfl
theorem QnG:Qcf (.int k n)=.pv (.lit (.int k n)):=rfl
theorem QlU:Qcf (.bool b)=.pv (.lit (.bool b)):=rfl
theorem Qib:Qcf (.string s)=.pv (.str s.data.toList):=rfl
theorem Qj6:Qcf (.slice none 0 0)=.pv (.slc []):=rfl
theorem Qhf:Qcf .nilFunc=.pv (.lit .nilFunc):=rfl
theorem Qx1:St.put ⟨nt,base,tm,hp⟩ (some t) d=⟨nt,base,(t,d)::tm,hp⟩:=rfl
theorem Qx2:St.put S none d=S:=rfl
theorem QHm:St.at ⟨nt,base,tm,hp⟩ hp2=⟨nt,base,tm,hp2⟩:=rfl
theorem Qu9:St.fits ⟨nt,base,tm,hp⟩ (some t)=decide (t<nt):=rfl
theorem Qva:St.fits S none=true:=rfl
def Quc:V.look ((a,d)::r) t=QpS (a==t) d r t:=by
 unfold QpS
 simp only[V.look,Bool.cond_eq_ite,beq_iff_eq]
theorem QAL:QpS true d r t=d:=rfl
theorem QAM:QpS false d r t=V.look r t:=rfl
theorem QqF:QK all S ⟨dst,op,ty,pos,af,none⟩=some true:=rfl
theorem QqE:QK all S ⟨dst,op,ty,pos,af,some (j,want)⟩=QGj ((all[j]?.bind (·.dst)).map (V.look S.tm)) want:=rfl
theorem Qr4:QGj (some (.pv (.lit (.bool b)))) want=some (b==want):=rfl
theorem QwF:QGj (some (.opt g (.pv (.lit (.bool b))))) want=some (g&&(b==want)):=rfl
theorem Qr3:QGj (some (.tup [])) want=some false:=rfl
theorem Qwt:Qar P all [] K S=K S:=rfl
theorem QAS:vdr P all [] fs K S=K S:=rfl
def QvB:QC P .skip Q S=Q .normal S:=(rfl)
def Qn6{id:Nat}:QC P (.region id ops false) Q S=Qar P ops.toList ops.toList (Q .normal) S:=(rfl)
def QvE{id:Nat}:QC P (.region id ops true) Q S=VDraw P id ops Q S:=(rfl)
def Qze:QC P (.seq a b) Q S=QC P a (Qag Q (QC P b Q)) S:=(rfl)
def Qq1{id:Nat}:QC P (.block id c) Q S=QC P c (QaG id Q) S:=(rfl)
def QvC:QC P (.loop c) Q S=VLoop P c Q S:=(rfl)
def QvD{id:Nat}:QC P (.exit id) Q S=Q (.exit id) S:=(rfl)
def Qzf:QC P .ret Q S=Q .ret S:=(rfl)
theorem Qhb:Qag Q K .normal S=K S:=rfl
theorem QlO:Qag Q K .ret S=Q .ret S:=rfl
theorem Qj2{id:Nat}:Qag Q K (.exit id) S=Q (.exit id) S:=rfl
theorem Qh9{id:Nat}:QaG id Q .normal S=Q .normal S:=rfl
theorem QnB{id:Nat}:QaG id Q .ret S=Q .ret S:=rfl
theorem QlP{id id2:Nat}:QaG id Q (.exit id2) S=if id2=id then Q .normal S else Q (.exit id2) S:=rfl
theorem QCT:frz n hp (.agg cs)=(Qi (cs.map (QcU n hp))).map .agg:=rfl
theorem QFo:frz n hp (.pv p)=some (.pv p):=rfl
theorem Qp2:Qs G (.ownc k a b c d)=.ownc k a b c d:=rfl
theorem QCS:frz n hp (.own k a b c)=QcU n hp (.own k a b c):=rfl
def QCR:frz n hp (.tup cs)=(Qi (cs.map (QmO n hp))).map .tup:=by
 simp only[frz]; congr 2
theorem QyP:QmO n hp (.agg cs)=(Qi (cs.map (QcU n hp))).map .agg:=rfl
theorem QCU:QmO n hp (.pv p)=some (.pv p):=rfl
theorem QyO:QmO n hp (.own k a b c)=QcU n hp (.own k a b c):=rfl
theorem QCZ:QcU n hp (.pv p)=some (.pv p):=rfl
theorem QyT:QcU n hp (.own k a b c)=if k<n then some (.own k a b c) else (Qih n hp 4 (.own k a b c)).map .pv:=rfl
theorem Qob:Qi ([]:List (Option α))=some []:=rfl
theorem QfZ:Qi (some a::r)=(Qi r).map (a::·):=rfl
def Qmk:QbB 0 hp=some []:=by
 simp[QbB,Qi]
def QBO:QY P S [r]=QmL P S r:=by
 unfold QY; cases h:QmL P S r<;>simp[Qi,h]
def QBN:QY P S (r :: s :: rs) = (Qi ((r :: s :: rs).map (QmL P S))).map .tup:=by
 unfold QY
 cases h:Qi ((r::s::rs).map (QmL P S)) with
 | none=>rfl
 | some ds =>
   have hl:=(QH h).1
   match ds,hl with
   | a::b::t,_=>rfl
theorem Qwu:QmL P S (.tmp t)=some (V.look S.tm t):=rfl
theorem QrK:QmL P S (.cell a T)=Qeq P S.hp T (V.look S.tm a):=rfl
def Qym:Qeq P hp T (.ptr k off)=vld (Qh hp k) (vt P T) off:=by
 unfold vld; rfl
theorem QCj:Qeq P hp T (.ip cs)=QGB cs (vt P T):=rfl
theorem QAO:vld (some cs) (some none) off=cs[off]?:=rfl
theorem QAP:vld (some cs) (some (some n)) off=if off+n<=cs.length then some (.agg ((cs.drop off).take n)) else none:=rfl
theorem QwD:QGB cs (some none)=cs[0]?.map .pv:=rfl
theorem QwE:QGB cs (some (some n))=if n<=cs.length then some (.agg ((cs.take n).map .pv)) else none:=rfl
def QsF:QfJ P hp T (.ptr k off) d=vst hp k (Qh hp k) (vt P T) off d:=by
 unfold vst; rfl
theorem QAu:vst hp k (some cs) (some none) off d=if off<cs.length/\d.one=true then some (Qv hp k (cs.set off d)) else none:=rfl
theorem QAv:vst hp k (some cs) (some (some n)) off (.agg ds)=if off+n<=cs.length/\ds.length=n/\Qp ds=true then some (Qv hp k (splice cs off ds)) else none:=rfl
def Qkw(h:hp[k]?=some ⟨ty,true,cs⟩):Qh hp k=some cs:=by
 simp[Qh,h]
theorem Qzn:Qh (⟨ty,true,cs⟩::r) 0=some cs:=rfl
theorem Qzo:Qh (B::r) (k+1)=Qh r k:=rfl
theorem Qxa:Qv (⟨ty,l,cs⟩::r) 0 ds=⟨ty,l,ds⟩::r:=rfl
def Qxb:Qv (B::r) (k+1) ds=B::Qv r k ds:=by
 unfold Qv
 simp only[List.getElem?_cons_succ]
 cases r[k]?<;>rfl
theorem QFN:QDX hp T d=if Qp (QcE d)=true then some (.ptr hp.length 0,hp++[⟨T,true,QcE d⟩]) else none:=rfl
def Qzz:QgN P hp T=QGN hp T (QR P T):=by
 unfold QgN QGN; cases QR P T<;>rfl
theorem Qsj:QGN hp T (some cs)=if Qp cs=true then some (.ptr hp.length 0,hp++[⟨T,true,cs⟩]) else none:=rfl
theorem Qre:Qp []=true:=rfl
theorem Qod:Qp (d::r)=(d.one&&Qp r):=rfl
theorem QEU:DV.one (.pv p)=true:=rfl
theorem QB7:DV.one (.own k a b c)=true:=rfl
theorem QEV:DV.one (.fn f a b)=true:=rfl
def Qvd:Qao P T f (.ptr k off)=QGC (Qf P T f) k off:=by
 simp only[Qao,QGC]; cases Qf P T f<;>rfl
theorem Qr8:QGC (some (t,o,s)) k off=if s=0 then none else some (.ptr k (off+o)):=rfl
def QyY:Qao P T f (.ip cs)=QGD (Qf P T f) cs:=by
 simp only[Qao,QGD]; cases Qf P T f<;>rfl
theorem Qr9:QGD (some (t,o,s)) cs=if s=0 then none else some (.ip (cs.drop o)):=rfl
def QqR:Qea P T f (.agg cs)=vfv P cs (Qf P T f):=by
 simp only[Qea,vfv]; cases Qf P T f<;>rfl
theorem QwG:vfv P cs (some (t,o,s))=QhV P t cs o:=rfl
def Qwv:QhV P T cs off=vpt (vt P T) cs off:=by
 unfold QhV vpt; cases vt P T with
 | none=>rfl
 | some o=>cases o<;>rfl
theorem QAF:vpt (some (some n)) cs off=if off+n<=cs.length then some (.agg ((cs.drop off).take n)) else none:=rfl
def QyD:Qan P T (.pv (.sl xs)) (.pv (.lit (.int k i))) = QD9 (QE P T) xs[i.toNat]? i:=by
 unfold QD9 Qan
 cases QE P T with
 | none=>rfl
 | some e =>
   obtain⟨a,b,c⟩:=e
   cases a with
   | some n=>rfl
   | none=>cases h:xs[i.toNat]?<;>simp[Qlo,h]
def QkP(h0:0<=i)(hl:c.length=sz)(hp:0<sz):QD9 (some (none,e,sz)) (some c) i=some (.ip c):=by
 simp[QD9,h0,hl,hp]
def QuE:Qan P T (.own b sz off len) (.pv (.lit (.int k i))) = QGi (QE P T) b sz off len i:=by
 unfold QGi Qan
 cases QE P T with
 | none=>rfl
 | some e =>
   obtain⟨a,b,c⟩:=e
   cases a<;>rfl
def Qr2{sz b off len:Nat}{i:Int}(h0:0<=i)(hl:i<len):QGi (some (none,e,sz)) b sz off len i=some (.ptr b (off+i.toNat*sz)):=by
 simp[QGi,h0,hl]
def QuD:Qan P T (.ptr b off) (.pv (.lit (.int k i))) = QGh (QE P T) b off i:=by
 unfold QGh Qan
 cases QE P T with
 | none=>rfl
 | some e =>
   obtain⟨a,b,c⟩:=e
   cases a<;>rfl
def Qr1{n sz b off:Nat}{i:Int}(h0:0<=i)(hl:i<n):QGh (some (some n,e,sz)) b off i=some (.ptr b (off+i.toNat*sz)):=by
 simp[QGh,h0,hl]
def QuA:Qc6 P T (.agg cs) (.pv (.lit (.int k i))) = QGg P (QE P T) cs i:=by
 unfold QGg Qc6
 cases QE P T with
 | none=>rfl
 | some e =>
   obtain⟨a,b,c⟩:=e
   cases a<;>rfl
def Qr0{n sz:Nat}{i:Int}(h0:0<=i)(hl:i<n):QGg P (some (some n,e,sz)) cs i=QhV P e cs (i.toNat*sz):=by
 simp[QGg,h0,hl]
def Quz:Qc6 P T (.pv (.str l)) (.pv (.lit (.int k i)))=QGf (Qab P T) l[i.toNat]? i:=by
 unfold QGf Qc6 Qab
 cases P.underlying T with
 | none=>rfl
 | some u=>cases u<;>first | rfl | (cases h:l[i.toNat]?<;>simp[h])
def QrZ(h0:0<=i):QGf .str (some b) i=some (.pv (.lit (.int .u8 b.toNat))):=by
 simp[QGf,h0]
theorem QDv:Qwb P op T (.pv (.lit (.int k a))) (.pv (.lit (.int k2 b)))=QB op k a k2 b:=rfl
theorem QDu:Qwb P op T (.pv (.str a)) (.pv (.str b))=Qc9 op a b:=rfl
def QCI:QB .add k a k b=some (.int k (k.wrap (a+b))):=by
 simp[QB]
def QCw:QB .sub k a k b=some (.int k (k.wrap (a-b))):=by
 simp[QB]
def QCB:QB .mul k a k b=some (.int k (k.wrap (a*b))):=by
 simp[QB]
def QCH:QB .and k a k b=some (.int k (bits .and k a b)):=by
 simp[QB]
def QFf:QB .or k a k b=some (.int k (bits .or k a b)):=by
 simp[QB]
def QCv:QB .xor k a k b=some (.int k (bits .xor k a b)):=by
 simp[QB]
def QCG:QB .eql k a k b=some (.bool (a==b)):=by
 simp[QB]
def QCA:QB .neq k a k b=some (.bool (a != b)):=by
 simp[QB]
def QCC:QB .lss k a k b=some (.bool (decide (a<b))):=by
 simp[QB]
def QCD:QB .leq k a k b=some (.bool (decide (a<=b))):=by
 simp[QB]
def QCE:QB .gtr k a k b=some (.bool (decide (b<a))):=by
 simp[QB]
def QCF:QB .geq k a k b=some (.bool (decide (b<=a))):=by
 simp[QB]
def QCz(h:¬ b=0):QB .rem k a k b=some (.int k (a.tmod b)):=by
 simp[QB,h]
def QCy(h:¬ b<0):QB .shl k a k2 b=some (.int k (k.wrap (a*2 ^ min b.toNat k.bits))):=by
 simp[QB,h]
def QCx(h:¬ b<0):QB .shr k a k2 b=some (.int k (a.fdiv (2 ^ min b.toNat k.bits))):=by
 simp[QB,h]
def Qdb(h:a.length+b.length<=9223372036854775807):Qc9 .add a b=some (.str (a++b)):=by
 simp[Qc9,h]
theorem QBe:Qc9 .eql a b=some (.bool (a==b)):=rfl
theorem QBc:Qc9 .neq a b=some (.bool (!(a==b))):=rfl
theorem QEl:vun .not (.pv (.lit (.bool b)))=some (.bool (!b)):=rfl
theorem QEk:vun .xor (.pv (.lit (.int .u32 n)))=some (.int .u32 (bits .xor .u32 4294967295 n)):=rfl
theorem QC7:Qdz (.tup ds) i=ds[i]?:=rfl
def QE8:Qoi P T (.pv (.sl xs))=vlk (Qab P T) (.int .i64 xs.length):=by
 unfold Qoi vlk Qab
 cases P.underlying T with
 | none=>rfl
 | some u=>cases u<;>rfl
theorem QD8:vlk (.sl e) d=some d:=rfl
def QCo:Qoi P T (.pv (.slc xs))=vlk (Qab P T) (.int .i64 xs.length):=by
 unfold Qoi vlk Qab
 cases P.underlying T with
 | none=>rfl
 | some u=>cases u<;>rfl
def QCp:Qoi P T (.own k s o n)=vlk (Qab P T) (.int .i64 n):=by
 unfold Qoi vlk Qab
 cases P.underlying T with
 | none=>rfl
 | some u=>cases u<;>rfl
def QCn:Qoi P T (.pv (.str l))=vls (Qab P T) l:=by
 unfold Qoi vls Qab
 cases P.underlying T with
 | none=>rfl
 | some u=>cases u<;>rfl
theorem QAK:vls .str l=some (.int .i64 l.length):=rfl
theorem QFQ:Qas P hp .len #[T] [x]=(Qoi P T x).map fun d=>(d,hp):=rfl
theorem QvR:Qas P hp .append #[s,t] [x,y]=Qb2 P hp s t x y:=rfl
theorem QDC:Qb2 P hp s t (.pv (.slc p)) y=Qec P hp s t (.pv (.slc p)) y:=rfl
theorem QDD:Qb2 P hp s t (.own k a b c) y=Qec P hp s t (.own k a b c) y:=rfl
theorem QFV:Qb2 P hp s t (.ownc k a b c d) (.ownc k2 a2 b2 c2 d2)=Qew P hp s t k a b c d (.ownc k2 a2 b2 c2 d2):=rfl
def QFU:Qb2 P hp s t (.ownc k a b c d) (.pv (.lit (.int kn l))) = QA3 P (QE P s) (Qab P t) hp k a b c d l:=by
 show Qev _ _ _ _ _ _ _ _ _ _=_
 unfold Qev QA3 Qus Qab
 cases QE P s with
 | none=>cases P.underlying t with
   | none=>rfl
   | some u=>cases u<;>rfl
 | some e =>
   obtain⟨a,b,c⟩:=e
   cases a with
   | some n=>cases P.underlying t with
     | none=>rfl
     | some u=>cases u<;>rfl
   | none=>cases P.underlying t with
     | none=>rfl
     | some u=>cases u<;>rfl
theorem Qp0:QA3 P (some (none,e,sz)) (.int kn) hp k a b c d l=QA2 (QaQ P e) (QR P e) hp[k]? hp e sz k a b c d l:=rfl
def Qwo(h1:a=len)(h2:b=len):QDN (some (none,e,sz)) k sz off len a b=some (.pv (.sl [])):=by
 subst h1 h2
 simp[QDN]
theorem QFR:Qas P hp .cap #[T] [x]=(vcap P T x).map fun d=>(d,hp):=rfl
def Qzj:vcap P T (.ownc k a b c d)=vck (Qab P T) d:=by
 unfold vcap vck Qab
 cases P.underlying T with
 | none=>rfl
 | some u=>cases u<;>rfl
theorem QEe:vck (.sl e) d=some (.int .i64 d):=rfl
theorem QFC:QfL P hp s (.own k a b c) (.own k2 a2 b2 c2)=Qsa P hp s (.own k a b c) (.own k2 a2 b2 c2):=rfl
theorem QFD:QfL P hp s (.own k a b c) (.ownc k2 a2 b2 c2 d2)=QgH P hp s (.own k a b c) (.ownc k2 a2 b2 c2 d2):=rfl
theorem QFE:QfL P hp s (.ownc k a b c d) (.own k2 a2 b2 c2)=QgH P hp s (.ownc k a b c d) (.own k2 a2 b2 c2):=rfl
theorem QFF:QfL P hp s (.ownc k a b c d) (.ownc k2 a2 b2 c2 d2)=QgH P hp s (.ownc k a b c d) (.ownc k2 a2 b2 c2 d2):=rfl
def Qyo:Qoi P T (.ownc k s o n c)=vlk (Qab P T) (.int .i64 n):=by
 unfold Qoi vlk Qab
 cases P.underlying T with
 | none=>rfl
 | some u=>cases u<;>rfl
theorem Qp5:Qcb P hp T (.ownc k a b c d) lo hi mx=Q5 P T (.ownc k a b c d) lo hi mx:=rfl
def Qln (h1:0<=j):Q5 P T (.own k sz off len) none (some (.pv (.lit (.int k2 j)))) none = Qwp (QE P T) k sz off len j.toNat:=by
 unfold Q5 Qwp
 simp only[Qif,Qkl,if_pos h1]
 cases QE P T with
 | none=>rfl
 | some e =>
   obtain⟨a,b,c⟩:=e
   cases a<;>first | rfl | (simp only[if_pos h1]; done) | (simp only[if_pos h1]; rfl) | (simp; done)
def Qlm (h0:0<=i):Q5 P T (.own k sz off len) (some (.pv (.lit (.int k1 i)))) none none = QDN (QE P T) k sz off len i.toNat len:=by
 unfold Q5 QDN
 simp only[Qif,Qkl,if_pos h0]
 cases QE P T with
 | none=>rfl
 | some e =>
   obtain⟨a,b,c⟩:=e
   cases a<;>first | rfl | (simp only[if_pos h0]; done) | (simp only[if_pos h0]; rfl) | (simp; done)
def QjH (h1:0<=j):Q5 P T (.ownc k sz off len cap) none (some (.pv (.lit (.int k2 j)))) none = Qws (QE P T) k sz off cap j.toNat:=by
 unfold Q5 Qws
 simp only[Qif,Qkl,if_pos h1]
 cases QE P T with
 | none=>rfl
 | some e =>
   obtain⟨a,b,c⟩:=e
   cases a<;>first | rfl | (simp only[if_pos h1]; done) | (simp only[if_pos h1]; rfl) | (simp; done)
def QjG (h0:0<=i):Q5 P T (.ownc k sz off len cap) (some (.pv (.lit (.int k1 i)))) none none = QDO (QE P T) k sz off cap i.toNat len:=by
 unfold Q5 QDO
 simp only[Qif,Qkl,if_pos h0]
 cases QE P T with
 | none=>rfl
 | some e =>
   obtain⟨a,b,c⟩:=e
   cases a<;>first | rfl | (simp only[if_pos h0]; done) | (simp only[if_pos h0]; rfl) | (simp; done)
def QgU (h0:0<=i) (h1:0<=j):Q5 P T (.ownc k sz off len cap) (some (.pv (.lit (.int k1 i)))) (some (.pv (.lit (.int k2 j)))) none = QDO (QE P T) k sz off cap i.toNat j.toNat:=by
 unfold Q5 QDO
 simp only[Qif,Qkl,if_pos h0,if_pos h1]
 cases QE P T with
 | none=>rfl
 | some e =>
   obtain⟨a,b,c⟩:=e
   cases a<;>first | rfl | (simp only[if_pos h0,if_pos h1]; done) | (simp only[if_pos h0,if_pos h1]; rfl) | (simp; done)
def Qll (h0:0<=i) (h1:0<=j) (h2:0<=m):Q5 P T (.ownc k sz off len cap) (some (.pv (.lit (.int k1 i)))) (some (.pv (.lit (.int k2 j)))) (some (.pv (.lit (.int k3 m)))) = Qwr (QE P T) k sz off cap i.toNat j.toNat m.toNat:=by
 unfold Q5 Qwr
 simp only[Qif,Qkl,if_pos h0,if_pos h1,if_pos h2]
 cases QE P T with
 | none=>rfl
 | some e =>
   obtain⟨a,b,c⟩:=e
   cases a<;>first | rfl | (simp only[if_pos h0,if_pos h1,if_pos h2]; done) | (simp only[if_pos h0,if_pos h1,if_pos h2]; rfl) | (simp; done)
def QpG(h:b<=len):Qwp (some (none,e,s)) k sz off len b=some (.own k sz off b):=by
 simp[Qwp,h]
def QrB(h1:a<len)(h2:a<=b)(h3:b<=len):QDN (some (none,e,sz)) k sz off len a b=some (.own k sz (off+a*sz) (b-a)):=by
 simp[QDN,h1,h2,h3]
def QpI(h:b<=cap):Qws (some (none,e,sz)) k sz off cap b=some (.ownc k sz off b cap):=by
 simp[Qws,h]
def QrE(h1:a<=b)(h2:b<=cap):QDO (some (none,e,sz)) k sz off cap a b=some (.ownc k sz (off+a*sz) (b-a) (cap-a)):=by
 simp[QDO,h1,h2]
def QpH(h1:a<=b)(h2:b<=c)(h3:c<=cap):Qwr (some (none,e,sz)) k sz off cap a b c=some (.ownc k sz (off+a*sz) (b-a) (c-a)):=by
 simp[Qwr,h1,h2,h3]
theorem QDx:Qas P hp .copy #[s,t] [x,y]=QfL P hp s x y:=rfl
def QFO:Qas P hp .min ts [.pv (.lit (.int k a)),.pv (.lit (.int k2 b))]=some (.int k (if b<a then b else a),hp):=by
 simp[Qas,V.vmin]
def QFP:Qas P hp .max ts [.pv (.lit (.int k a)),.pv (.lit (.int k2 b))]=some (.int k (if b > a then b else a),hp):=by
 simp[Qas,V.vmax]
theorem QtV:V.parts ev #[]=[]:=rfl
theorem Qqu:V.parts ev ⟨(i,x)::r⟩=(i,ev x)::V.parts ev ⟨r⟩:=rfl
theorem Qy0:QhT i []=[]:=rfl
theorem Qve:QhT i (d::r)=(i,d)::QhT (i+1) r:=rfl
theorem QB9:QaH af f i []=true:=rfl
def Qye:QaH af ([],b) i (g::r)=QaH af ([],b) (i+1) r:=by
 simp[QaH]
def Qt2:QaH af f i (([],b)::r)=QaH af f (i+1) r:=by
 simp[QaH]
def QB8:QaH af ([k],b) i (([l],c)::r)=((!((c||b)&&(l==k))||af.toList.any fun e=>Region.binds .any e&&e.on==i)&&QaH af ([k],b) (i+1) r):=by
 simp only[QaH,List.any_cons,List.any_nil,Bool.or_false,List.contains,List.elem]
 cases h:(l==k)<;>simp
def Qzd:Qbs P hp S T (.pv (.lit (.int k2 n))) = vci (Qab P S) (Qab P T) n hp:=by
 unfold Qbs Qc7 vci Qab
 cases P.underlying S with
 | none=>rfl
 | some u=>cases P.underlying T with
   | none=>cases u<;>rfl
   | some t => cases u<;>cases t<;>try rfl
               all_goals (simp only[Qzm,QmV,Qlo]; split<;>simp_all)
theorem QAW:vci (.int k0) (.int k) n hp=some (.int k (k.wrap n),hp):=rfl
theorem QFv:evG G S x=Qs G (S.ev x):=rfl
def QrH:Qar P all (o::r) K S=(S.fits o.dst=true/\QrJ P all o r K S (QK all S o)):=by
 conv=>lhs; unfold Qar
 congr 1
 unfold QrJ Qfa
 cases QK all S o with
 | none=>rfl
 | some G=>cases G<;>rfl
theorem QsV:QrJ P all o r K S (some G)=Qfa P all o r K S G:=rfl
theorem QsR:Qfa P all o r K S true=QpJ P all o r K S (Qq (evG true S) o.op):=rfl
theorem Qqg:Qfa P all o r K S false=Qar P all r K (S.put o.dst (.tup [])):=rfl
theorem QsU:QpJ P all o r K S none=QrI P all o r K S (vop P (evG true S) S.hp o.op):=rfl
theorem QsT:QpJ P all o r K S (some (g,args))=VCalls P g args S.hp (QAA P all o r K S):=rfl
theorem QsS:QrI P all o r K S (some (d,hp))=Qar P all r K ((S.at hp).put o.dst (Qde o.guard true d)):=rfl
theorem QBq:QAA P all o r K S d hp=Qar P all r K ((S.at hp).put o.dst (Qde o.guard true d)):=rfl
def QwI:vdr P all (o::r) fs K S=(S.fits o.dst=true/\QEd P all o r fs K S (QK all S o)):=by
 conv=>lhs; unfold vdr
 congr 1
 unfold QEd QpW
 cases QK all S o with
 | none=>rfl
 | some G=>cases G<;>rfl
theorem Qy8:QEd P all o r fs K S (some G)=QpW P all o r fs K S G:=rfl
theorem Qy5:QpW P all o r fs K S true=QEc P all o r fs K S (Qq (evG true S) o.op):=rfl
theorem Qvn:QpW P all o r fs K S false=vdr P all r (fs++[([],false)]) K (S.put o.dst (.tup [])):=rfl
theorem Qy7:QEc P all o r fs K S none=QEb P all o r fs K S (Qci (evG true S) o.op) (vop P (evG true S) S.hp o.op):=rfl
theorem Qy6:QEb P all o r fs K S f (some (d,hp))=(Qae o.op=true/\QaH o.after f 0 fs=true/\vdr P all r (fs++[f]) K ((S.at hp).put o.dst (Qde o.guard true d))):=rfl
def QvF:QC P (.cond c a b) Q S=Qrx P a b Q S (S.ev c):=by
 conv=>lhs; unfold QC
 unfold Qrx
 rfl
theorem QpE:Qrx P a b Q S (.pv (.lit (.bool t)))=vbr P a b Q S t:=rfl
def QwN:vbr P a b Q S true=QC P a Q S:=by
 simp[vbr,QwL]
def Qsh:vbr P a b Q S false=QC P b Q S:=by
 simp[vbr,QwL]
def QkL:Qc4 P rs n R .normal S=QwH n S.hp R (QY P S rs):=by
 unfold Qc4 QwH; cases QY P S rs<;>rfl
def QrL:Qc4 P rs n R .ret S=QwH n S.hp R (QY P S rs):=by
 unfold Qc4 QwH; cases QY P S rs<;>rfl
def Qyx:Qa4 P rs R .ret S=Qr6 S.hp R (QY P S rs):=by
 unfold Qa4 Qr6; cases QY P S rs<;>rfl
def Qr5:QwH n hp R (some d)=Qr7 R (frz n hp d) (QbB n hp):=by
 simp only[QwH,Qv9,Qr7]<;>cases frz n hp d<;>cases QbB n hp<;>rfl
theorem QpU:Qr6 hp R (some d)=R d hp:=rfl
theorem QpV:Qr7 R (some d) (some hp)=R d hp:=rfl
theorem QHn:St.hp ⟨nt,base,tm,hp⟩=hp:=rfl
theorem Qw9:Qcb P hp T (.pv p) lo hi mx=Q5 P T (.pv p) lo hi mx:=rfl
theorem QsH:Qcb P hp T (.own k a b c) lo hi mx=Q5 P T (.own k a b c) lo hi mx:=rfl
def QnW:QbB 1 (⟨ty,true,cs⟩::r)=QCW ty (Qi (cs.map (QcU 1 (⟨ty,true,cs⟩::r)))):=by
 unfold QbB QCW
 simp only[List.take_succ_cons,List.take_zero,Js,List.map_nil,if_true]
 cases Qi (cs.map (QcU 1 (⟨ty,true,cs⟩::r)))<;>rfl
theorem QqJ:QCW ty (some cs)=some [⟨ty,true,cs⟩]:=rfl
def Qnk (h1:0<=j):Q5 P T (.pv (.sl xs)) none (some (.pv (.lit (.int k2 j)))) none = Qri (QE P T) xs 0 j.toNat:=by
 unfold Q5 Qri
 simp only[Qlo,Qif,Qkl,if_pos h1]
 cases QE P T with
 | none=>rfl
 | some e =>
   obtain⟨a,b,c⟩:=e
   cases a<;>rfl
def Qnj (h0:0<=i):Q5 P T (.pv (.sl xs)) (some (.pv (.lit (.int k i)))) none none = Qri (QE P T) xs i.toNat xs.length:=by
 unfold Q5 Qri
 simp only[Qlo,Qif,Qkl,if_pos h0]
 cases QE P T with
 | none=>rfl
 | some e =>
   obtain⟨a,b,c⟩:=e
   cases a<;>rfl
def Qlk(h1:0<=j):Q5 P T (.pv (.str xs)) none (some (.pv (.lit (.int k2 j)))) none=QzH (Qab P T) xs 0 j.toNat:=by
 unfold Q5 QzH Qab
 simp only[Qif,Qkl,if_pos h1]
 cases P.underlying T with
 | none=>rfl
 | some u=>cases u<;>rfl
def Qlj(h0:0<=i):Q5 P T (.pv (.str xs)) (some (.pv (.lit (.int k i)))) none none=QzH (Qab P T) xs i.toNat xs.length:=by
 unfold Q5 QzH Qab
 simp only[Qif,Qkl,if_pos h0]
 cases P.underlying T with
 | none=>rfl
 | some u=>cases u<;>rfl
def Qh5(h0:0<=i)(h1:0<=j):Q5 P T (.pv (.str xs)) (some (.pv (.lit (.int k i)))) (some (.pv (.lit (.int k2 j)))) none=QzH (Qab P T) xs i.toNat j.toNat:=by
 unfold Q5 QzH Qab
 simp only[Qif,Qkl,if_pos h0,if_pos h1]
 cases P.underlying T with
 | none=>rfl
 | some u=>cases u<;>rfl
def QrC(h1:a<=b)(h2:b<=xs.length)(h3:xs[0]?.map J9=some sz):Qri (some (none,e,sz)) xs a b=some (.pv (.sl ((xs.take b).drop a))):=by
 simp[Qri,h1,h2,h3]
def QrA(h1:a<=b)(h2:b<=xs.length):QzH .str xs a b=some (.pv (.str ((xs.take b).drop a))):=by
 simp[QzH,h1,h2]
def QDw:Qwb P op T (.agg xs) (.agg ys)=vba op (vt P T) (QaY P 8 T) (P.eqGuardType P.depth T) xs ys:=by
 unfold Qwb vba
 rfl
def QA1:vba .eql (some (some n)) (some l) false xs ys=(QQ xs ys l).map fun b=>.bool b:=by
 simp only[vba]
 cases QQ xs ys l<;>rfl
def QA0:vba .neq (some (some n)) (some l) false xs ys=(QQ xs ys l).map fun b=>.bool (!b):=by
 simp only[vba]
 cases QQ xs ys l<;>rfl
def QB3:QlH false x (.pv (.lit (.bool b))) = .bool b:=by
 cases x with
 | pv p=>cases p with
   | lit v=>cases v<;>rfl
   | _=>rfl
 | _=>rfl
def QB2:QlH true (.pv (.lit (.bool b))) x = .bool b:=by
 cases x with
 | pv p=>cases p with
   | lit v=>cases v<;>rfl
   | _=>rfl
 | _=>rfl
theorem QtP:Qnw (.tup ds)=[]:=rfl
@[congr] def QAE(P:Program)(all:List Oper)(o:Oper)(r:List Oper)(K:St->Prop)(S:St)(h:g=g'):QrJ P all o r K S g=QrJ P all o r K S g':=by rw[h]
@[congr] def QAB(P:Program)(all:List Oper)(o:Oper)(r:List Oper)(K:St->Prop)(S:St)(h:g=g'):Qfa P all o r K S g=Qfa P all o r K S g':=by rw[h]
@[congr] def QAD(P:Program)(all:List Oper)(o:Oper)(r:List Oper)(K:St->Prop)(S:St)(h:c=c'):QpJ P all o r K S c=QpJ P all o r K S c':=by rw[h]
@[congr] def QAC(P:Program)(all:List Oper)(o:Oper)(r:List Oper)(K:St->Prop)(S:St)(h:x=x'):QrI P all o r K S x=QrI P all o r K S x':=by rw[h]
@[congr] def QDW(P:Program)(all:List Oper)(o:Oper)(r:List Oper)(fs:List (List Nat×Bool))(K:St->Prop)(S:St)(h:g=g'):QEd P all o r fs K S g=QEd P all o r fs K S g':=by rw[h]
@[congr] def QDS(P:Program)(all:List Oper)(o:Oper)(r:List Oper)(fs:List (List Nat×Bool))(K:St->Prop)(S:St)(h:g=g'):QpW P all o r fs K S g=QpW P all o r fs K S g':=by rw[h]
@[congr] def QDV(P:Program)(all:List Oper)(o:Oper)(r:List Oper)(fs:List (List Nat×Bool))(K:St->Prop)(S:St)(h:c=c'):QEc P all o r fs K S c=QEc P all o r fs K S c':=by rw[h]
@[congr] def QAt(P:Program)(a b:Code)(Q:Exit->St->Prop)(S:St)(h:c=c'):Qrx P a b Q S c=Qrx P a b Q S c':=by rw[h]
@[congr] def QEh(P:Program)(a b:Code)(Q:Exit->St->Prop)(S:St)(h:t=t'):vbr P a b Q S t=vbr P a b Q S t':=by rw[h]
@[congr] def QDR(n:Nat)(hp:Qa)(R:DV->Qa->Prop)(h:r=r'):QwH n hp R r=QwH n hp R r':=by rw[h]
@[congr] def QAN(d:DV)(r:List (Nat×DV))(t:Nat)(h:b=b2):QpS b d r t=QpS b2 d r t:=by rw[h]
@[congr] def QAQ(hp:Qa)(R:DV->Qa->Prop)(h:r=r'):Qr6 hp R r=Qr6 hp R r':=by rw[h]
@[congr] def QDU(P:Program)(all:List Oper)(o:Oper)(r:List Oper)(fs:List (List Nat×Bool))(K:St->Prop)(S:St)(h:f=f')(g:x=x'):QEb P all o r fs K S f x=QEb P all o r fs K S f' x':=by rw[h,g]
@[congr] def QAR(R:DV->Qa->Prop)(a:r=r')(b:h=h'):Qr7 R r h=Qr7 R r' h':=by rw[a,b]
@[congr] def QDP(P:Program)(all ops:List Oper)(K:St->Prop)(h:S=S'):Qar P all ops K S=Qar P all ops K S':=by rw[h]
@[congr] def QEa(P:Program)(all ops:List Oper)(fs:List (List Nat×Bool))(K:St->Prop)(h:S=S'):vdr P all ops fs K S=vdr P all ops fs K S':=by rw[h]
@[congr] def QAV(P:Program)(c:Code)(Q:Exit->St->Prop)(h:S=S'):QC P c Q S=QC P c Q S':=by rw[h]
end Go.V
namespace Go.V
abbrev Ret(d:DV):DV->Qa->Prop:=fun r h'=>h'=[]/\r.nums (fun _=>false)=true/\r=d
def Qav(c:VCalls P g args [] (Ret d))(ha:DV.nums.go (fun _=>false) args=true)(h:K d hp):VCalls P g args hp K:=
 (VCalls.pure (R:=fun r=>r=d) c ha).mono fun r h' e=>by obtain⟨rfl,rfl⟩:=e; exact h
def Qoj{g:FuncId}{args:List DV}{hp:Qa}{K:DV->Qa->Prop}{R:DV->Prop}(c:VCalls P g args [] fun r h'=>h'=[]/\r.nums (fun _=>false)=true/\R r)(ha:DV.nums.go (fun _=>false) args=true)(h:∀ r,R r->K r hp):VCalls P g args hp K:=
 (VCalls.pure c ha).mono fun r h' e=>by obtain⟨rfl,e⟩:=e; exact h r e
def QwJ(c:VCalls P g args [] (Ret d))(ha:DV.nums.go (fun _=>false) args=true)(hd:d.nums (fun _=>false)=true)(h:K d):vdc P g args K:=
 ⟨d,c.mono fun _ _ e=>⟨e.1,e.2.2⟩,ha,hd,h⟩
end Go.V
namespace Go.V
structure Gc(keep:List Nat)(S S':St):Prop where
 nt:S'.nt=S.nt
 base:S'.base=S.base
 low:∀ k,k<S.base->keep[k]?=some k
 nodup:keep.Nodup
 len:S'.hp.length=keep.length
 hp:∀ (i k:Nat),keep[i]?=some k->∃ B B',S.hp[k]?=some B/\S'.hp[i]?=some B'/\B'.ty=B.ty/\B'.live=B.live/\B'.cells=B.cells.map (DV.ren fun k=>keep.idxOf k)/\(B.live=true->DV.nums.go keep.contains B.cells=true)
 tm:∀ t,V.look S'.tm t=.any\/(V.look S'.tm t=(V.look S.tm t).ren (fun k=>keep.idxOf k)/\(V.look S.tm t).nums keep.contains=true)
def Sim.gc (h:Sim O β S a w) (g:Gc keep S S'):∃ β',Sim O β' S' a w:=by
 let β':Map:=⟨fun i=>(keep[i]?).bind β.f,β.X⟩
 have hO:O.hp.length=S.base:=h.base
 have back:∀ {i:Nat} {B':Blk},S'.hp[i]?=some B'->∃ k B,keep[i]?=some k/\S.hp[k]?=some B/\B'.ty=B.ty/\B'.live=B.live/\B'.cells=B.cells.map (DV.ren fun k=>keep.idxOf k)/\(B.live=true->DV.nums.go keep.contains B.cells=true)/\β'.f i=β.f k:=by
  intro i B' hi
  have hlt:i<keep.length:=by rw[<- g.len]; exact(Jc.1 hi).1
  have hk:keep[i]?=some keep[i]:=Jd hlt
  obtain⟨B,B'',h1,h2,h3,h4,h5,h6⟩:=g.hp i _ hk
  rw[hi] at h2
  cases h2
  exact⟨_,B,hk,h1,h3,h4,h5,h6,by simp[β',hk]⟩
 have hsub:∀ b,live β' S'.hp b->live β S.hp b:=by
  rintro b ⟨i,B',h1,h2,h3⟩
  obtain⟨k,B,_,k2,_,k4,_,_,k7⟩:=back h1
  exact⟨k,B,k2,by rw[<- k4]; exact h2,by rw[<- k7]; exact h3⟩
 have him:∀ b,img β' S'.hp b->img β S.hp b:=fun b hb=>hb.imp id (hsub b)
 have hσ:∀ k,keep.contains k=true->k<S.hp.length->keep.idxOf k<S'.hp.length/\β'.f (keep.idxOf k)=β.f k:=by
  intro k hk _
  have hm:k∈keep:=by simpa using hk
  have hlt:=JN hm
  refine⟨by rw[g.len]; exact hlt,?_⟩
  simp[β',Jd hlt]
 refine⟨β',h.defers,by rw[g.nt]; exact h.size,fun t=>?_,?_,?_,h.base.trans g.base.symm⟩
 ·rcases g.tm t with e | ⟨e,hn⟩
  ·rw[e]; exact .any _
  ·rw[e]; exact RelD.ren hσ him (h.tm t) hn
 ·have hh:=h.heap
  refine⟨fun i B' b h1 h2 h3=>?_,fun i B' h1 h2 h3=>?_,fun i j B B' b h1 h2 h3 h4 h5 h6=>?_,fun i B' b h1 h2 h3=>?_,hh.bound⟩
  ·obtain ⟨k,B,k1,k2,k3,k4,k5,k6,k7⟩:=back h1
   rw[k7] at h3
   have hl:B.live=true:=by rw[<- k4]; exact h2
   obtain⟨C,c1,c2,c3⟩:=hh.blk k B b k2 hl h3
   refine⟨C,by rw[k3]; exact c1,by rw[k5,JO]; exact c2,fun j d hd=>?_⟩
   rw[k5,Jg] at hd
   cases hx:B.cells[j]? with
   | none=>simp[hx] at hd
   | some x =>
     simp[hx] at hd
     subst hd
     obtain⟨o1,o2⟩:=c3 j x hx
     refine⟨?_,RelD.ren hσ him o2 (DV.nums_go (k6 hl) j x hx)⟩
     cases x<;>first | rfl | exact o1
  ·obtain ⟨k,B,k1,k2,k3,k4,k5,k6,k7⟩:=back h1
   rw[k7] at h3
   rw[k5,hh.none k B k2 (by rw[<- k4]; exact h2) h3]; rfl
  ·obtain ⟨k,D,k1,k2,k3,k4,k5,k6,k7⟩:=back h1
   obtain⟨k',D',l1,l2,l3,l4,l5,l6,l7⟩:=back h2
   rw[k7] at h5
   rw[l7] at h6
   have:=hh.inj k k' D D' b k2 l2 (by rw[<- k4]; exact h3) (by rw[<- l4]; exact h4) h5 h6
   subst this
   obtain⟨hi,e1⟩:=Jc.1 k1
   obtain⟨hj,e2⟩:=Jc.1 l1
   exact(List.getElem_inj g.nodup).1 (e1.trans e2.symm)
  ·obtain ⟨k,B,k1,k2,k3,k4,k5,k6,k7⟩:=back h1
   rw[k7] at h3
   exact hh.avoid k B b k2 (by rw[<- k4]; exact h2) h3
 ·have ev:=h.evo
  have hlow:∀ k,k<O.hp.length->β'.f k=β.f k:=fun k hk=>by simp[β',g.low k (by omega)]
  refine⟨ev.os,ev.tape,ev.output,ev.size,?_,fun k hk=>(hlow k hk).trans (ev.beta k hk),ev.same,ev.shape,fun b hb hl=>ev.im b hb (hsub b hl),ev.X⟩
  rw[g.len]
  by_cases h0:O.hp.length=0
  ·omega
  ·have:=g.low (O.hp.length - 1) (by omega)
   have:=(Jc.1 this).1
   omega
def Qro(S S':St):Prop:=Le S S'\/∃ keep,Gc keep S S'
def Sim.weak(h:Sim O β S a w)(g:Qro S S'):∃ β',Sim O β' S' a w:=by
 rcases g with g | ⟨keep,g⟩
 ·exact⟨β,h.le g⟩
 ·exact h.gc g
def Qj {c:Code} {Q:Exit->St->Prop} {ι:Type} (I:ι->St) (μ:ι->Nat) (i₀:ι) (h₀:Qro S (I i₀)) (round:∀ i,QC P c (Qag Q fun S'=>∃ j,μ j < μ i/\Qro S' (I j)) (I i)):VLoop P c Q S:=by
 intro O β a w hs b k cs
 have key:∀ n β i a w,μ i = n->Sim O β (I i) a w ->
  ∃ e a' w',Ql1 O Q e a' w'/\Arrives P (lone (b.at a (.code c::.inLoop c::k)) cs w) b k cs e a' w':=by
  intro n
  induction n using JM with
  | _ n ih =>
    intro β i a w hn hs
    obtain⟨e,a₁,w₁,hq,harr⟩:=QA c _ _ (round i) O β a w hs b (.inLoop c::k) cs
    obtain⟨β₁,S₁,hs₁,hq⟩:=hq
    cases e with
    | normal =>
      obtain⟨j,hlt,hle⟩:=hq
      obtain⟨β₂,hs₂⟩:=hs₁.weak hle
      obtain⟨e₂,a₂,w₂,hq₂,harr₂⟩:=ih (μ j) (hn▸hlt) β₂ j a₁ w₁ rfl hs₂
      exact⟨e₂,a₂,w₂,hq₂,.of_steps (Steps.trans harr (.one step_inLoop)) harr₂⟩
    | exit id=>exact⟨_,a₁,w₁,⟨β₁,S₁,hs₁,hq⟩,.pass (x:=.inLoop c) rfl (fun _ _=>.inl (by simp)) harr⟩
    | goto l=>exact⟨_,a₁,w₁,⟨β₁,S₁,hs₁,hq⟩,.pass (x:=.inLoop c) rfl (fun _ _=>.inl (by simp)) harr⟩
    | ret=>exact⟨_,a₁,w₁,⟨β₁,S₁,hs₁,hq⟩,.pass (x:=.inLoop c) rfl (fun _ _=>.inl (by simp)) harr⟩
    | panic ch=>exact⟨_,a₁,w₁,⟨β₁,S₁,hs₁,hq⟩,.pass (x:=.inLoop c) rfl (fun _ _=>.inl (by simp)) harr⟩
    | outgrown=>exact⟨_,a₁,w₁,⟨β₁,S₁,hs₁,hq⟩,.pass (x:=.inLoop c) rfl (fun _ _=>.inl (by simp)) harr⟩
 obtain⟨β₀,hs₀⟩:=hs.weak h₀
 obtain⟨e,a',w',hq,harr⟩:=key _ β₀ i₀ a w rfl hs₀
 exact⟨e,a',w',hq,.of_steps (.one step_loop) harr⟩
mutual
def Qd5 (σ:Nat->Nat):∀ (d:DV),d.nums (fun _=>false) = true->d.ren σ = d
 | .pv _,_=>rfl
 | .ptr _ _,h=>by simp[DV.nums] at h
 | .own _ _ _ _,h=>by simp[DV.nums] at h
 | .ownc _ _ _ _ _,h=>by simp[DV.nums] at h
 | .ip _,_=>rfl
 | .any,_=>rfl
 | .agg cs,h=>by simp only[DV.ren]; rw[QaK σ cs h]
 | .tup cs,h=>by simp only[DV.ren]; rw[QaK σ cs h]
 | .fn f a b,h=>by
   simp only[DV.nums,Jb] at h
   simp only[DV.ren]; rw[QaK σ a h.1,QaK σ b h.2]
 | .opt c d,h=>by simp only[DV.ren]; rw[Qd5 σ d h]
def QaK (σ:Nat->Nat):∀ (ds:List DV),DV.nums.go (fun _=>false) ds = true->DV.ren.go σ ds = ds
 | [],_=>rfl
 | d :: r,h=>by
   simp only[DV.nums.go,Jb] at h
   simp only[DV.ren.go]; rw[Qd5 σ d h.1,QaK σ r h.2]
end
mutual
def Qhg (p:Nat->Bool):∀ (d:DV),d.nums (fun _=>false) = true->d.nums p = true
 | .pv _,_=>rfl
 | .ptr _ _,h=>by simp[DV.nums] at h
 | .own _ _ _ _,h=>by simp[DV.nums] at h
 | .ownc _ _ _ _ _,h=>by simp[DV.nums] at h
 | .ip _,_=>rfl
 | .any,_=>rfl
 | .agg cs,h=>QZ p cs h
 | .tup cs,h=>QZ p cs h
 | .fn f a b,h=>by
   simp only[DV.nums,Jb] at h |-
   exact⟨QZ p a h.1,QZ p b h.2⟩
 | .opt c d,h=>Qhg p d h
def QZ (p:Nat->Bool):∀ (ds:List DV),DV.nums.go (fun _=>false) ds = true->DV.nums.go p ds = true
 | [],_=>rfl
 | d :: r,h=>by
   simp only[DV.nums.go,Jb] at h |-
   exact⟨Qhg p d h.1,QZ p r h.2⟩
end
def QGo(keep:List Nat)(tm:List (Nat×DV)):List (Nat×DV)->Prop
 | []=>True
 | (t,d)::r=>(d=(V.look tm t).ren (fun k=>keep.idxOf k)/\(V.look tm t).nums keep.contains=true)/\QGo keep tm r
def Qlb:∀ {tm':List (Nat × DV)},QGo keep tm tm'->∀ t,V.look tm' t = .any\/(V.look tm' t = (V.look tm t).ren (fun k=>keep.idxOf k)/\(V.look tm t).nums keep.contains = true)
 | [],_,t=>.inl rfl
 | (a,d) :: r,h,t=>by
   simp only[V.look]
   split
   ·rename_i e; subst e; exact .inr h.1
   ·exact Qlb h.2 t
def QDp(keep:List Nat)(cs cs':List DV):Prop:=(DV.nums.go (fun _=>false) cs=true/\cs'=cs)\/(cs'=cs.map (DV.ren fun k=>keep.idxOf k)/\DV.nums.go keep.contains cs=true)
def QGt(keep:List Nat)(hp:Qa):List Nat->Qa->Prop
 | [],[]=>True
 | k::r,B'::r'=>(∃ B,hp[k]?=some B/\B'.ty=B.ty/\B'.live=B.live/\QDp keep B.cells B'.cells)/\QGt keep hp r r'
 | _,_=>False
def Qkk:∀ {l:List Nat} {hp':Qa},QGt keep hp l hp'->hp'.length = l.length/\∀ (i k:Nat),l[i]? = some k->∃ B B',hp[k]? = some B/\hp'[i]? = some B'/\B'.ty = B.ty/\B'.live = B.live/\B'.cells = B.cells.map (DV.ren fun k=>keep.idxOf k)/\(B.live = true->DV.nums.go keep.contains B.cells = true)
 | [],[],_=>⟨rfl,fun i k h=>by simp at h⟩
 | [],_::_,h=>h.elim
 | _::_,[],h=>h.elim
 | k0 :: r,B' :: r',h=>by
   obtain⟨⟨B,h1,h2,h3,h4⟩,h5⟩:=h
   obtain⟨g1,g2⟩:=Qkk h5
   refine⟨by simp[g1],fun i k hk=>?_⟩
   cases i with
   | zero =>
     simp at hk
     subst hk
     refine⟨B,B',h1,rfl,h2,h3,?_⟩
     rcases h4 with⟨n,e⟩ | ⟨e,n⟩
     ·exact⟨by rw[e,<- DV.ren_go,QaK _ _ n],fun _=>QZ _ _ n⟩
     ·exact⟨e,fun _=>n⟩
   | succ i=>exact g2 i k (by simpa using hk)
def QuM(h1:S'.nt=S.nt)(h2:S'.base=S.base)(h3:keep.take S.base=Jk S.base)(h4:keep.Nodup)(h5:QGt keep S.hp keep S'.hp)(h6:QGo keep S.tm S'.tm):Qro S S':=
 .inr ⟨keep,h1,h2,fun k hk=>by
  have:(keep.take S.base)[k]?=some k:=by rw[h3]; simp[hk]
  rw[JQ] at this
  simpa [hk] using this,h4,(Qkk h5).1,(Qkk h5).2,Qlb h6⟩
end Go.V
namespace Go.V
open Go.RowKit Go.WideShapes Go.ChangeShapes
def β0:Map:=⟨fun _=>none,fun _=>False⟩
def QyF(w:World):HeapRel w β0 []:=⟨by simp,by simp,by simp,by simp,fun _ h=>h.elim⟩
def Qyp(hb:∃ fn,P.funcs[g]?=some fn/\fn.body.isNone=false)(c:VCalls P g ds [] (Ret (.bool true)))(h:RelL w β0 [] ds vs):
 Calls P g vs w fun e w'=>e=.returned (.bool true)/\Below w.heap.size w w':=by
 rcases c.run w β0 vs (QyF w) h with⟨_,_,_,_,h4⟩ | ⟨fn,_,_,h1,h2,_⟩
 rotate_left
 ·obtain ⟨fn',k1,k2⟩:=hb
  rw[h1] at k1
  cases k1
  rw[h2] at k2
  cases k2
 refine h4.mono fun e w' ⟨v,r,h',β',he,ev,_,hr,_,_,hd⟩=>?_
 subst hd
 obtain rfl:=Qk hr
 exact⟨he,ev.os,ev.tape,ev.output,ev.size,fun k hk=>ev.same k hk (by rintro⟨_,_,h,_⟩; simp at h)⟩
section
variable {H:Type} {enc:TypeId×Value->H} {P:Program}
theorem Qex (hl:laidOutB P = true) (hb:Below W.heap.size W W'):∀ {ts:List TypeId} {vs:List Value} {ds:List (DataW H)} {ps:List MemPlace},
 (ts.all fun t=>P.readableRec t&&decide (t<P.types.size))=true->DataW.TrodAll enc P W 0 (fun _=>true) true ts vs ds ps->(∀ x∈ps,x.block<W.heap.size)->(∀ x∈ps,sp x.block=true)->DataW.TrodAll enc P W' 0 sp true ts vs ds ps
 | [],_,_,_,_,h,_,_=>by
   obtain⟨rfl,rfl,rfl⟩:=trodAll_nil h
   exact rfl
 | t :: ts,_,_,_,hr,h,hlt,hs=>by
   obtain⟨v,vs1,d,ds1,a,b,rfl,rfl,rfl,h1,h2⟩:=trodAll_cons h
   simp only[List.all_cons,Jb,decide_eq_true_eq] at hr
   exact⟨a,b,WideElems.Trod_stays hl hr.1.1 hr.1.2 h1 (fun x hx=>hb.same (hlt x (Jj _ hx))) (fun x hx=>hs x (Jj _ hx)),
    Qex hl hb (by simpa using hr.2) h2 (fun x hx=>hlt x (Jh _ hx)) (fun x hx=>hs x (Jh _ hx)),rfl⟩
theorem Qyq{f:Func}{s:ChangeSpec}{args:Array Value}(hW:DataW.Whole enc P f.params.toList s.vars apart W args.toList ds gs before)(hl:laidOutB P=true)(hts:(f.params.toList.all fun t=>P.readableRec t&&decide (t<P.types.size))=true)(hvs:s.vars=[])(hres:f.resultTypes=#[Tb])(hTb:P.underlying Tb=some .bool)(hr:(s.fn H ds).results=[.lit (.bool true)])(ha:(s.fn H ds).args=ds)(hv:(s.fn H ds).vars=[])(hb:Below W.heap.size W W'):s.post enc P f apart fresh handsOn again W args (.bool true) W':=by
 have hlt:∀ p∈before,p.block<W.heap.size:=fun p hp=>hW.lt p hp
 have hold:∀ p∈before,(fun b=>decide (b<W.heap.size)) p.block=true:=fun p hp=>by simpa using hlt p hp
 have hW2:=hW
 obtain⟨p,q,hA,hV,hpq,hz,hn⟩:=hW2
 rw[hvs] at hV
 obtain⟨rfl,rfl⟩:=trodVars_none hV
 have hpb:before=p:=by simpa using hpq
 subst hpb
 have hargs:∀ sp:Nat->Bool,(∀ x∈before,sp x.block=true)->DataW.TrodAll enc P W' 0 sp true f.params.toList args.toList (s.fn H (ds++[])).args before:=fun sp hs=>by
  rw[JY,ha]
  exact Qex hl hb hts hA hlt hs
 have hres':∀ (b:Nat) (sp:Nat->Bool) (hd:Bool),DataW.TrodAll enc P W' b sp hd f.resultTypes.toList ((Value.bool true).resultList f.resultTypes.size) (s.fn H (ds++[])).results []:=fun b sp hd=>by
  rw[JY,hr,hres]
  exact trodAll_mk1 (shut_bool hTb true)
 have hvars:∀ sp:Nat->Bool,DataW.TrodVars enc P W' sp s.vars (s.fn H (ds++[])).vars []:=fun sp=>by
  rw[JY,hv,hvs]; exact rfl
 refine⟨ds,[],before,[],before,[],hW,hres' _ _ _,hargs _ hold,hvars _,World.keptBut_mono (fun p hp=>⟨hp,?_⟩) (hb.frame (·∈before)),fun _=>?_⟩
 ·simpa using hp
 ·refine ⟨ok_one hres rfl (by simp [Value.okWide,hTb,Cell.okWide,Cell.ok]),_,_,([] ++ before) ++ [],⟨[] ++ before,[],trodAll_append (hargs _ (fun _ _=>rfl)) (hres' _ _ _),hvars _,rfl,?_,?_⟩,?_⟩
  ·intro b off hp
   have hin:MemPlace.cell b off∈before:=by simpa using hp
   rw[hb.frozen (hlt _ hin)]
   exact hz b off hin
  ·intro ha
   simpa using hn ha
  ·intro p hp _
   simpa using hp
def su8(l:List UInt8):List (List PV):=l.map fun b=>[.lit (.int .u8 b.toNat)]
theorem QFk{W:World}{a:Addr}(h:W.cell? a=some v):a.block<W.heap.size:=by
 by_cases hb:a.block<W.heap.size
 ·exact hb
 ·have:W.heap[a.block]? = none:=by simp; omega
  simp[World.cell?,this] at h
theorem QDB (ht:P.underlying t = some (.slice e)) (he:P.underlying e = some (.int .u8)) (hc:P.cellsOf e = 1) (hval:Value.okWide P W r b0 t v) (h:DataW.Trod enc P W 0 (fun _=>true) true t v d ps):
 ∃ l:List UInt8,RelD W β0 [] (.pv (.sl (su8 l))) v/\l.length<=maxLen:=by
 obtain⟨a0,len,cap,rfl⟩:=okWide_slice ht hval
 obtain⟨fuel,hf⟩:=h
 rcases open_ints ht he hc hf with⟨h1,_⟩ | ⟨a,len',cap',zs,h1,_,hl,hm,hz,_,hcell,hwf⟩
 ·simp [Value.cells] at h1
  obtain⟨rfl,rfl,rfl⟩:=h1
  exact⟨[],.pv _ _ (.sl [] none 0 1 (fun _ _=>undef) (Jw _) (JL _) (by simp) (by simp) (by simp) (by simp)),by simp⟩
 ·simp [Value.cells] at h1
  obtain⟨rfl,rfl,rfl⟩:=h1
  simp only[if_true] at hz
  have hsp:a.spot=none:=by
   simp[Value.okWide,ht,Cell.okWide,Cell.ok,World.has] at hval
   exact hval.2.2.2.1
  have hwf':∀ i,i<zs.length->0<=zs.getD i 0/\zs.getD i 0<=255:=fun i hi=>by
   have:=hwf _ (List.getElem_mem hi)
   have this:0<=zs[i]/\zs[i]<=255:=by
    simp only[Lit.wf,Jb,decide_eq_true_eq] at this
    exact this
   rw[Ji,Jd hi,J3]
   exact this
  let l:List UInt8:=(zs.take len).map fun n=>UInt8.ofNat n.toNat
  have hll:l.length=len:=by simp[l,hz]; omega
  have hgl:∀ i,i<len->(su8 l)[i]?=some [.lit (.int .u8 (zs.getD i 0))]:=fun i hi=>by
   have hi':i<zs.length:=by omega
   have:=hwf' i hi'
   rw[Ji,Jd hi',J3] at this |-
   simp only[su8,l,List.map_map,Jg,JQ,hi,if_true,Jd hi',JF,Function.comp]
   have e:((UInt8.ofNat (zs[i].toNat)).toNat:Int)=zs[i]:=by
    rw[UInt8.toNat_ofNat']; omega
   rw[e]
  have hsl:(su8 l).length=len:=by simp[su8,hll]
  have hat:∀ i,i < len->∃ ad,some a = some ad/\ad.block < W.heap.size/\¬ img β0 [] ad.block/\W.cell? (at_ ad (i * 1 + 0)) = some (.int .u8 (zs.getD i 0)):=fun i hi=>by
   have h:=hcell i (by omega)
   have hs:=World.cell?_spot h
   refine⟨a,rfl,?_,?_,?_⟩
   ·have:=QFk h
    obtain⟨b,off,sp⟩:=a
    simp only at hsp
    subst hsp
    rw[add_plain] at this
    exact this
   ·rintro (h | ⟨_,_,h,_⟩)
    ·exact h
    ·simp at h
   ·have e:at_ a (i * 1 + 0) = a.add i:=by
     obtain⟨b,off,sp⟩:=a
     simp only at hsp
     subst hsp
     rw[add_plain]
     simp[at_]
    rw[e]; exact h
  refine⟨l,.pv _ _ ?_,by omega⟩
  have key:RelP W (img β0 []) (.sl (su8 l)) (.slice (some a) (su8 l).length cap):=by
   refine .sl (su8 l) (some a) cap 1 (fun i _=>.int .u8 (zs.getD i 0)) (by omega) hm (fun i c hi=>?_) (fun ad had _=>?_) (fun i j c d hi hj=>?_) (fun i j c d hi hj=>?_)
   ·have hlt:i < len:=by rw [<- hsl]; exact (Jc.1 hi).1
    rw[hgl i hlt] at hi; cases hi; rfl
   ·cases had
    exact hsp
   ·have hlt:i < len:=by rw [<- hsl]; exact (Jc.1 hi).1
    rw[hgl i hlt] at hi; cases hi
    cases j with
    | zero=>exact hat i hlt
    | succ j=>simp at hj
   ·have hlt:i < len:=by rw [<- hsl]; exact (Jc.1 hi).1
    rw[hgl i hlt] at hi; cases hi
    cases j with
    | zero=>simp at hj; subst hj; exact .lit _ rfl
    | succ j=>simp at hj
  rw[hsl] at key
  exact key
end
structure RelOf(W:World) where
 d:DV
 v:Value
 h:RelD W β0 [] d v
def Qtq(l:List (RelOf W)):RelL W β0 [] (l.map (·.d)) (l.map (·.v)).toArray:=by
 refine⟨by simp,fun i d hi=>?_⟩
 rw[Jg] at hi
 cases h:l[i]? with
 | none=>simp[h] at hi
 | some r=>simp[h] at hi; subst hi; simpa [Jv,h] using r.h
end Go.V
namespace Go.V
def CellV(P:Program)(u:TypeId)(d:DV):Prop:=
 (∃ k n,P.underlying u=some (.int k)/\d=.int k n/\(Lit.int k n).wf=true)\/(P.underlying u=some .bool/\∃ b,d=.bool b)\/(P.underlying u=some .string/\∃ s,d=.pv (.str s))
def CellV.int(h:CellV P u d)(hu:P.underlying u=some (.int k)):∃ n,d=.int k n/\(Lit.int k n).wf=true:=by
 rcases h with⟨k',n,h1,h2,h3⟩ | ⟨h1,_⟩ | ⟨h1,_⟩
 ·rw[hu] at h1; cases h1; exact⟨n,h2,h3⟩
 ·rw[hu] at h1; cases h1
 ·rw[hu] at h1; cases h1
def CellV.bool(h:CellV P u d)(hu:P.underlying u=some .bool):∃ b,d=.bool b:=by
 rcases h with⟨k',n,h1,h2,h3⟩ | ⟨h1,h2⟩ | ⟨h1,_⟩
 ·rw[hu] at h1; cases h1
 ·exact h2
 ·rw[hu] at h1; cases h1
def CellV.str(h:CellV P u d)(hu:P.underlying u=some .string):∃ s,d=.pv (.str s):=by
 rcases h with⟨k',n,h1,h2,h3⟩ | ⟨h1,_⟩ | ⟨h1,h2⟩
 ·rw[hu] at h1; cases h1
 ·rw[hu] at h1; cases h1
 ·exact h2
end Go.V
namespace Go.V
open Go.ChangeShapes Go.WideShapes Go.Deep
inductive PS | int (k:IntKind) | bool | str
inductive CK | pl (s:PS) | rows (r:List PS)
def Qn2 {α:Type} (P:Program) (f:TypeId->Option (List α)):List Field->Nat->Option (List α)
 | [],_=>some []
 | g :: r,off=>match f g.type with
   | some x=>if g.offset=off/\P.cellsOf g.type=x.length then (Qn2 P f r (off+x.length)).map (x++·) else none
   | none=>none
def QzW (P:Program):Nat->TypeId->Option (List PS)
 | 0,_=>none
 | n + 1,t=>match P.underlying t with
   | some (.int k)=>some [.int k]
   | some .bool=>some [.bool]
   | some .string=>some [.str]
   | some (.struct fs)=>match Qn2 P (QzW P n) fs.toList 0 with
     | some x=>if P.cellsOf t=x.length then some x else none
     | none=>none
   | _=>none
def Qq5 (P:Program):Nat->TypeId->Option (List CK)
 | 0,_=>none
 | n + 1,t=>match P.underlying t with
   | some (.int k)=>some [.pl (.int k)]
   | some .bool=>some [.pl .bool]
   | some .string=>some [.pl .str]
   | some (.slice e)=>match QzW P n e with
     | some r=>if P.cellsOf e=r.length/\0<r.length then some [.rows r] else none
     | none=>none
   | some (.struct fs)=>match Qn2 P (Qq5 P n) fs.toList 0 with
     | some x=>if P.cellsOf t=x.length then some x else none
     | none=>none
   | _=>none
section
variable {H:Type} {enc:TypeId×Value->H} {P:Program} {W:World} {spare:Nat->Bool} {held:Bool}
end
end Go.V
namespace Go.V
def QcV(σ:Nat->Nat)(B:Blk):Blk:={ B with cells:=B.cells.map (DV.ren σ) }
def Ql2(hp:Qa)(sel:List Nat):Option Qa:=Qi (sel.map fun k=>(hp[k]?).map (QcV fun j=>sel.idxOf j))
def QiS(hp:Qa)(sel:List Nat):Bool:=sel.all fun k=>match hp[k]? with | some B=>!B.live||DV.nums.go sel.contains B.cells | none=>false
def back(sel:List Nat)(n:Nat)(i:Nat):Nat:=if i<sel.length then sel.getD i 0 else n+(i-sel.length)
def QW(hp:Qa)(sel:List Nat)(h':Qa):Qa:=
 ((Jk hp.length).map fun k=>if sel.contains k then QcV (back sel hp.length) (h'.getD (sel.idxOf k) default) else hp.getD k default)++(h'.drop sel.length).map (QcV (back sel hp.length))
mutual
def QeN:∀ (d:DV),d.nums (fun _=>true)=true
 | .pv _=>rfl
 | .ptr _ _=>rfl
 | .own _ _ _ _=>rfl
 | .ownc _ _ _ _ _=>rfl
 | .ip _=>rfl
 | .any=>rfl
 | .agg cs=>QbW cs
 | .tup cs=>QbW cs
 | .fn f a b=>by simp only[DV.nums]; rw[QbW a,QbW b]; rfl
 | .opt c d=>QeN d
def QbW:∀ (ds:List DV),DV.nums.go (fun _=>true) ds=true
 | []=>rfl
 | d::r=>by simp only[DV.nums.go]; rw[QeN d,QbW r]; rfl
end
def Qtm{d:DV}(h:d.one=true):(d.ren σ).one=true:=by
 cases d<;>first | rfl | exact h
def Qjb(hp:Qa)(sel:List Nat)(h':Qa):(QW hp sel h').length=hp.length+(h'.length-sel.length):=by simp[QW]
def Qrb(h:(QW hp sel h')[k]?=some B):
 (k<hp.length/\¬ k∈sel/\hp[k]?=some B)\/(k<hp.length/\k∈sel/\B=QcV (back sel hp.length) (h'.getD (sel.idxOf k) default)) \/
 (hp.length<=k/\∃ D,h'[sel.length+(k-hp.length)]?=some D/\B=QcV (back sel hp.length) D):=by
 unfold QW at h
 by_cases hk:k<hp.length
 ·rw [Jz (by simpa using hk),Jg,J0 hk] at h
  simp only[JF,Jn.injEq] at h
  by_cases hm:k∈sel
  ·rw [if_pos (by simpa using hm)] at h
   exact .inr (.inl ⟨hk,hm,h.symm⟩)
  ·rw [if_neg (by simpa using hm)] at h
   refine .inl ⟨hk,hm,?_⟩
   rw[<- h,Ji,Jd hk]; rfl
 ·rw [JE (by simpa using JV hk),Jg,List.getElem?_drop] at h
  simp only[JO,List.length_range] at h
  obtain⟨D,h1,h2⟩:=Qz h
  exact .inr (.inr ⟨JV hk,D,h1,h2.symm⟩)
def VCalls.frame(sel:List Nat)(hnd:sel.Nodup)(hl:Ql2 hp sel=some h0)(hok:QiS hp sel=true)(c:VCalls P g args0 h0 R)(ha0:args0=args.map (DV.ren fun j=>sel.idxOf j))(ha:DV.nums.go sel.contains args=true):
 VCalls P g args hp fun r h2=>∃ r0 h',R r0 h'/\sel.length<=h'.length/\r=r0.ren (back sel hp.length)/\h2=QW hp sel h':=by
 refine⟨fun w β vs hh hr=>?_⟩
 obtain⟨l1,l2⟩:=QH hl
 have hlen:h0.length=sel.length:=by rw[l1,JO]
 have hget:∀ {i:Nat} {B0:Blk},h0[i]?=some B0->∃ k B,sel[i]?=some k/\hp[k]?=some B/\B0=QcV (fun j=>sel.idxOf j) B/\(B.live=true->DV.nums.go sel.contains B.cells=true):=by
  intro i B0 hi
  have h1:=l2 i B0 hi
  rw[Jg] at h1
  obtain⟨k,h2,h3⟩:=Qz h1
  obtain⟨B,h4,h5⟩:=Qz h3
  refine⟨k,B,h2,h4,h5.symm,fun hlv=>?_⟩
  have:=Je.1 hok k (JJ h2)
  rw[h4] at this
  simpa [hlv] using this
 have hsel:∀ k,k∈sel->∃ i,sel[i]?=some k/\i=sel.idxOf k/\i<sel.length:=fun k hk=>by
  have hlt:=JN hk
  exact⟨sel.idxOf k,by rw[Jd hlt]; simp,rfl,hlt⟩
 have hidx:∀ {i k:Nat},sel[i]?=some k->sel.idxOf k=i:=fun {i k} hi=>by
  obtain⟨hlt,e⟩:=Jc.1 hi
  rw[<- e]; exact hnd.idxOf_getElem i hlt
 let βc:Map:=⟨fun i=>(sel[i]?).bind β.f,fun b=>β.X b\/∃ k B,hp[k]?=some B/\B.live=true/\β.f k=some b/\¬ k∈sel⟩
 have livec:∀ b,live βc h0 b->live β hp b:=by
  rintro b ⟨i,B0,h1,h2,h3⟩
  obtain⟨k,B,k1,k2,k3,_⟩:=hget h1
  refine⟨k,B,k2,by rw[k3] at h2; exact h2,?_⟩
  simpa [βc,k1] using h3
 have himc:∀ b,img βc h0 b->img β hp b:=by
  rintro b ((h | ⟨k,B,h1,h2,h3,_⟩) | h)
  ·exact .inl h
  ·exact .inr ⟨k,B,h1,h2,h3⟩
  ·exact .inr (livec b h)
 have hσ:∀ k,sel.contains k=true->k<hp.length->sel.idxOf k<h0.length/\βc.f (sel.idxOf k)=β.f k:=fun k hk _=>by
  obtain⟨i,h1,h2,h3⟩:=hsel k (by simpa using hk)
  subst h2
  exact⟨by rw[hlen]; exact h3,by simp[βc,h1]⟩
 have hhc:HeapRel w βc h0:=by
  refine⟨fun i B0 b h1 h2 h3=>?_,fun i B0 h1 h2 h3=>?_,fun i j B0 B1 b h1 h2 h3 h4 h5 h6=>?_,fun i B0 b h1 h2 h3=>?_,fun b hb=>?_⟩
  ·obtain ⟨k,B,k1,k2,k3,k4⟩:=hget h1
   subst k3
   obtain⟨C,c1,c2,c3⟩:=hh.blk k B b k2 h2 (by simpa [βc,k1] using h3)
   refine⟨C,c1,by simpa [QcV] using c2,fun j d hd=>?_⟩
   simp only[QcV,Jg] at hd
   obtain⟨x,x1,x2⟩:=Qz hd
   subst x2
   obtain⟨o1,o2⟩:=c3 j x x1
   exact⟨Qtm o1,RelD.ren hσ himc o2 (DV.nums_go (k4 h2) j x x1)⟩
  ·obtain ⟨k,B,k1,k2,k3,k4⟩:=hget h1
   subst k3
   have:=hh.none k B k2 h2 (by simpa [βc,k1] using h3)
   simp[QcV,this]
  ·obtain ⟨k,B,k1,k2,k3,k4⟩:=hget h1
   obtain⟨k',B',k1',k2',k3',k4'⟩:=hget h2
   subst k3 k3'
   have:=hh.inj k k' B B' b k2 k2' h3 h4 (by simpa [βc,k1] using h5) (by simpa [βc,k1'] using h6)
   subst this
   rw[<- hidx k1,<- hidx k1']
  ·obtain ⟨k,B,k1,k2,k3,k4⟩:=hget h1
   subst k3
   have hb:β.f k=some b:=by simpa [βc,k1] using h3
   rintro(hX | ⟨k',B',h1',h2',h3',h4'⟩)
   ·exact hh.avoid k B b k2 h2 hb hX
   ·have:=hh.inj k' k B' B b h1' k2 h2' h2 h3' hb
    subst this
    exact h4' (JJ k1)
  ·rcases hb with hb | ⟨k,B,h1,h2,h3,_⟩
   ·exact hh.bound b hb
   ·exact Qcg hh ⟨k,B,h1,h2,h3⟩
 have hargs:RelL w βc h0 args0 vs:=by
  refine⟨by rw[ha0,JO]; exact hr.1,fun i d hd=>?_⟩
  rw[ha0,Jg] at hd
  obtain⟨x,x1,x2⟩:=Qz hd
  subst x2
  exact RelD.ren hσ himc (hr.2 i x x1) (DV.nums_go ha i x x1)
 refine(c.run w βc vs hhc hargs).mono ?_
 rintro e w' ⟨v,r,h',β',rfl,ev,hh',hrel,hR⟩
 have hm:sel.length<=h'.length:=by rw[<- hlen]; exact ev.len
 let β2:Map:=⟨fun k=>if k<hp.length then β.f k else β'.f (sel.length+(k-hp.length)),β.X⟩
 have hf':∀ {i k:Nat},sel[i]?=some k->β'.f i=β.f k:=fun {i k} hi=>by
  have hlt:i<sel.length:=(Jc.1 hi).1
  rw[ev.beta i (by rw[hlen]; exact hlt)]
  simp[βc,hi]
 have hk':∀ {k:Nat},k∈sel->k<hp.length:=fun {k} hk=>by
  have:=Je.1 hok k hk
  cases h:hp[k]? with
  | none=>rw[h] at this; simp at this
  | some B=>exact(Jc.1 h).1
 -- what block k of the caller's is,QW the call
 have cases3:∀ {k:Nat} {B:Blk},(QW hp sel h')[k]?=some B->(¬ k∈sel/\hp[k]?=some B/\β2.f k=β.f k)\/(∃ i D,h'[i]?=some D/\B=QcV (back sel hp.length) D/\β2.f k=β'.f i/\back sel hp.length i=k):=by
  intro k B hB
  rcases Qrb hB with⟨h1,h2,h3⟩ | ⟨h1,h2,h3⟩ | ⟨h1,D,h2,h3⟩
  ·exact .inl ⟨h2,h3,by simp[β2,h1]⟩
  ·obtain ⟨i,i1,i2,i3⟩:=hsel k h2
   have hlt:i<h'.length:=Jp i3 hm
   refine .inr ⟨i,h'[i],Jd hlt,?_,?_,?_⟩
   ·rw[h3,<- i2,Ji,Jd hlt]; rfl
   ·simp only[β2,h1,if_true]; exact(hf' i1).symm
   ·simp only [back,i3,if_true]
    rw[Ji,i1]; rfl
  ·refine .inr ⟨sel.length + (k - hp.length),D,h2,h3,?_,?_⟩
   ·simp only[β2]; rw[if_neg (by omega)]
   ·simp only[back]; rw[if_neg (by omega)]; omega
 have livelift:∀ b,live β2 (QW hp sel h') b->(∃ k B,hp[k]?=some B/\B.live=true/\β.f k=some b/\¬ k∈sel)\/live β' h' b:=by
  rintro b ⟨k,B,h1,h2,h3⟩
  rcases cases3 h1 with⟨a1,a2,a3⟩ | ⟨i,D,a1,a2,a3,_⟩
  ·exact .inl ⟨k,B,a2,h2,by rw[<- a3]; exact h3,a1⟩
  ·exact .inr ⟨i,D,a1,by rw[a2] at h2; exact h2,by rw[<- a3]; exact h3⟩
 have himb:∀ b,img β2 (QW hp sel h') b->img β' h' b:=by
  rintro b (h | h)
  ·exact .inl (by rw[ev.X]; exact .inl h)
  ·rcases livelift b h with h | h
   ·exact .inl (by rw[ev.X]; exact .inr h)
   ·exact .inr h
 have hτ:∀ k,(fun _=>true:Nat->Bool) k=true->k<h'.length->back sel hp.length k<(QW hp sel h').length/\β2.f (back sel hp.length k)=β'.f k:=fun i _ hi=>by
  rw[Qjb]
  by_cases hlt:i<sel.length
  ·have hs:sel[i]? = some sel[i]:=Jd hlt
   have e:back sel hp.length i=sel[i]:=by simp only[back,hlt,if_true]; rw[Ji,hs]; rfl
   have hk:=hk' (JJ hs)
   rw[e]
   exact⟨by omega,by simp only[β2,hk,if_true]; exact(hf' hs).symm⟩
  ·have e:back sel hp.length i = hp.length + (i - sel.length):=by simp only [back]; rw [if_neg hlt]
   rw[e]
   refine⟨by omega,?_⟩
   simp only[β2]
   rw[if_neg (by omega),show sel.length+(hp.length+(i-sel.length)-hp.length)=i by omega]
 have evo:Evo w β hp w' β2 (QW hp sel h'):=by
  refine⟨ev.os,ev.tape,ev.output,ev.size,by rw[Qjb]; omega,fun k hk=>by simp[β2,hk],fun b hb hn=>ev.same b hb (fun h=>hn (livec b h)),ev.shape,fun b hb h=>?_,rfl⟩
  rcases livelift b h with⟨k,B,h1,h2,h3,_⟩ | h
  ·exact⟨k,B,h1,h2,h3⟩
  ·exact livec b (ev.im b hb h)
 refine⟨v,r.ren (back sel hp.length),QW hp sel h',β2,rfl,evo,?_,RelD.ren hτ himb hrel (QeN r),r,h',hR,hm,rfl,rfl⟩
 have outer:∀ {k:Nat} {B:Blk} {b:Nat},hp[k]?=some B->B.live=true->β.f k=some b->¬ k∈sel->β'.X b:=fun {k B b} h1 h2 h3 h4=>by
  rw[ev.X]; exact .inr ⟨k,B,h1,h2,h3,h4⟩
 refine⟨fun k B b h1 h2 h3=>?_,fun k B h1 h2 h3=>?_,fun j k B B' b h1 h2 h3 h4 h5 h6=>?_,fun k B b h1 h2 h3=>?_,fun b hb=>Jp (hh.bound b hb) ev.size⟩
 ·rcases cases3 h1 with ⟨a1,a2,a3⟩ | ⟨i,D,a1,a2,a3,_⟩
  ·rw [a3] at h3
   obtain⟨C,g1,g2,g3⟩:=hh.blk k B b a2 h2 h3
   have hb:=(Ja.1 g1).1
   have hsame:w'.heap[b]?=w.heap[b]?:=ev.same b hb fun hlv=>by
    obtain⟨i,B0,e1,e2,e3⟩:=hlv
    exact hhc.avoid i B0 b e1 e2 e3 (.inr ⟨k,B,a2,h2,h3,a1⟩)
   exact⟨C,by rw[hsame]; exact g1,g2,fun i d hd=>⟨(g3 i d hd).1,(g3 i d hd).2.mono evo⟩⟩
  ·subst a2
   obtain⟨C,g1,g2,g3⟩:=hh'.blk i D b a1 h2 (by rw[<- a3]; exact h3)
   refine⟨C,g1,by simpa [QcV] using g2,fun j d hd=>?_⟩
   simp only[QcV,Jg] at hd
   obtain⟨x,x1,x2⟩:=Qz hd
   subst x2
   exact⟨Qtm (g3 j x x1).1,RelD.ren hτ himb (g3 j x x1).2 (QeN x)⟩
 ·rcases cases3 h1 with ⟨a1,a2,a3⟩ | ⟨i,D,a1,a2,a3,_⟩
  ·exact hh.none k B a2 h2 (by rw[<- a3]; exact h3)
  ·subst a2
   have:=hh'.none i D a1 h2 (by rw[<- a3]; exact h3)
   simp[QcV,this]
 ·rcases cases3 h1 with ⟨a1,a2,a3⟩ | ⟨i,D,a1,a2,a3,a4⟩<;>rcases cases3 h2 with ⟨b1,b2,b3⟩ | ⟨i',D',b1,b2,b3,b4⟩
  ·exact hh.inj j k B B' b a2 b2 h3 h4 (by rw[<- a3]; exact h5) (by rw[<- b3]; exact h6)
  ·exact absurd (outer a2 h3 (by rw[<- a3]; exact h5) a1) (hh'.avoid i' D' b b1 (by rw[b2] at h4; exact h4) (by rw[<- b3]; exact h6))
  ·exact absurd (outer b2 h4 (by rw[<- b3]; exact h6) b1) (hh'.avoid i D b a1 (by rw[a2] at h3; exact h3) (by rw[<- a3]; exact h5))
  ·have:=hh'.inj i i' D D' b a1 b1 (by rw [a2] at h3; exact h3) (by rw [b2] at h4; exact h4) (by rw [<- a3]; exact h5) (by rw [<- b3]; exact h6)
   subst this
   rw[<- a4,<- b4]
 ·rcases cases3 h1 with ⟨a1,a2,a3⟩ | ⟨i,D,a1,a2,a3,_⟩
  ·exact hh.avoid k B b a2 h2 (by rw[<- a3]; exact h3)
  ·intro hX
   exact hh'.avoid i D b a1 (by rw[a2] at h2; exact h2) (by rw[<- a3]; exact h3) (by rw[ev.X]; exact .inl hX)
def Qra(hk:k<hp.length)(B:Blk)(r:Qa):QW hp [k] (B::r)=hp.set k (QcV (back [k] hp.length) B)++r.map (QcV (back [k] hp.length)):=by
 unfold QW
 congr 1
 apply JS
 intro j
 rw[Jg,List.getElem?_set]
 by_cases hj:j<hp.length
 ·rw [J0 hj,JF]
  by_cases e:k=j
  ·subst e; simp[hj]
  ·rw[if_neg e,if_neg (by simpa using fun h=>e h.symm),Ji,Jd hj]; rfl
 ·rw [Jt (by simpa using JV hj)]
  rw[if_neg (by omega),Jt (by omega)]; rfl
end Go.V
namespace Go.V
def QbH (hev:∀ x ∈ o.operands.toList,ev' x = ev x):vop P ev' hp o = vop P ev hp o:=by
 by_cases hk:Qae o=true
 ·exact QgF hk hev
 ·cases o with
  | alloc T=>rfl
  | box T x=>simp[Op.operands] at hev; simp[vop,hev]
  | makeSlice T l c=>simp[Op.operands] at hev; simp[vop,hev]
  | buildSlice T n ps =>
    have mp:parts ev' ps=parts ev ps:=by
     unfold parts
     exact JC fun p hp=>by rw[hev p.2 (by simp[Op.operands]; exact⟨p.1,by simpa using hp⟩)]
    simp[vop,mp]
  | call c =>
    have h1:c.args.toList.map ev'=c.args.toList.map ev:=JC fun x hx=>hev x (by simp[Op.operands,Call.operands]; right; simpa using hx)
    simp only[vop,h1]
  | _=>first
    | (exact absurd rfl hk)
    | rfl
def St.only(S:St)(ts:List Nat):St:=⟨S.nt,S.hp.length,ts.map fun t=>(t,look S.tm t),S.hp⟩
def Qke {f:Nat->DV} {t:Nat}:∀ {ts:List Nat},look (ts.map fun t=>(t,f t)) t = if t ∈ ts then f t else .any
 | []=>rfl
 | a :: r=>by
   simp only[Js,look]
   by_cases h:a=t
   ·subst h; simp
   ·rw [if_neg h,Qke]
    by_cases hr:t∈r
    ·rw[if_pos hr,if_pos (Jf _ hr)]
    ·rw[if_neg hr,if_neg (by simp[hr]; exact fun e=>h e.symm)]
def QeJ(S:St)(ts:List Nat)(t:Nat)(h:t∈ts):look (S.only ts).tm t=look S.tm t:=by
 show look (ts.map _) t=_
 rw[Qke,if_pos h]
def QrG(ht:∀ t∈o.looksAt ops,look S'.tm t=look S.tm t)(hn:S'.nt=S.nt)(hh:S'.hp=S.hp)(h:Qar P ops.toList [o] K S):
 Qar P ops.toList [o] (fun S1=>∃ d hp',S1=(S'.at hp').put o.dst d/\K ((S.at hp').put o.dst d)) S':=by
 unfold Qar at h |-
 obtain⟨hf,h⟩:=h
 refine⟨by unfold St.fits at hf |-; rw[hn]; exact hf,?_⟩
 rw[Qbv (S:=S) ht]
 split at h
 ·exact h.elim
 ·simp only [Qar] at h |-
  refine⟨.tup [],S.hp,?_,h⟩
  rw[<- hh]; rfl
 ·have hev:∀ x ∈ o.op.operands.toList,Qs true (S'.ev x) = Qs true (S.ev x):=fun x hx=>by rw [Qik ht x hx]
  rw[QhF hev,QbH hev,hh]
  split at h
  ·rename_i g args hc
   simp only[Qar] at h |-
   exact h.mono fun r h' hk=>⟨_,h',rfl,hk⟩
  ·split at h
   ·rename_i d hp' hv
    simp only[Qar] at h |-
    exact⟨_,_,rfl,h⟩
   ·exact h.elim
def QmU(hs:Sim O β S a w)(h:Qar P ops.toList [o] K S)(hn:∀ β' d v hp' w',Evo w β S.hp w' β' hp'->HeapRel w' β' hp'->RelD w' β' hp' d v->S.fits o.dst=true->K ((S.at hp').put o.dst d)->next (a.put o.dst v) w'):
 if Region.wanted o (yielded ops a.tmps) then o.wp P a w next Q\/(o.asks P a w/\LetsOut Q) else next (a.put o.dst undef) w:=by
 unfold Qar at h
 obtain⟨hf,h⟩:=h
 split at h
 ·exact h.elim
 ·rename_i hg
  rw[QS (ops:=ops) hs hg,if_neg (by simp)]
  exact hn β (.tup []) undef S.hp w (Evo.refl _ _ _) hs.heap (.tup [] #[] rfl (by simp)) hf (by simp only[Qar] at h; exact h)
 ·rename_i hg
  rw[QS (ops:=ops) hs hg,if_pos rfl]
  have hev:∀ x,RelD w β S.hp (Qs true (S.ev x)) (a.eval x):=fun x=>Qaq (hs.ev x) rfl
  split at h
  ·rename_i g args hc
   refine .inl (QhG hev hc hs.heap h (fun v r h' β' w' k1 k2 k3 k4=>?_))
   exact hn β' _ v h' w' k1 k2 (Qa9 k3) hf (by simpa only[Qar] using k4)
  ·split at h
   ·rename_i d hp' hv
    refine .inl (QbZ (Qa5 hs.heap hev (fun _=>rfl) hv) (fun v w' β' k1 k2 k3=>?_))
    exact hn β' _ v hp' w' k1 k2 (Qa9 k3) hf (by simpa only[Qar] using h)
   ·exact h.elim
def QeQ(o:Oper):Bool:=o.guard.isNone&&match o.op with | .alloc _ | .box .. | .buildSlice ..=>true | _=>false
def Qwf(P:Program)(ev:Operand->DV)(o:Op):Option (DV×Blk):=
 match vop P ev [] o with
 | some (.ptr 0 0,[B])=>some (.ptr 0 0,B)
 | some (.own 0 sz 0 n,[B])=>some (.own 0 sz 0 n,B)
 | _=>none
def QfW(P:Program)(ev:Operand->DV)(o:Op):Prop:=
 match Qwf P ev o with
 | some (_,B)=>B.live=true/\0<B.cells.length/\DV.nums.go (fun _=>false) B.cells=true/\DV.nums.go (fun _=>false) (o.operands.toList.map ev)=true
 | none=>False
def QqY(hc:QeQ o=true)(h:Qwf P ev o.op=some (d,B))(hp:Qa):vop P ev hp o.op=some (d.ren (fun _=>hp.length),hp++[B]):=by
 have key:∀ {x:Option (DV×Qa)},(match x with | some (.ptr 0 0,[B])=>some (.ptr 0 0,B) | some (.own 0 sz 0 n,[B])=>some (.own 0 sz 0 n,B) | _=>(none:Option (DV×Blk)))=some (d,B)->x=some (d,[B]):=by
  intro x hx
  split at hx
  ·simp at hx; obtain⟨rfl,rfl⟩:=hx; rfl
  ·simp at hx; obtain⟨rfl,rfl⟩:=hx; rfl
  ·simp at hx
 have h:=key h
 unfold QeQ at hc
 simp only[Jb] at hc
 have hc:=hc.2
 split at hc
 ·rename_i T ho
  rw[ho] at h |-
  simp only[vop,QgN] at h |-
  split at h
  ·split at h
   ·rename_i h1; simp at h; obtain⟨rfl,rfl⟩:=h; simp[DV.ren,h1]
   ·simp at h
  ·simp at h
 ·rename_i T x ho
  rw[ho] at h |-
  simp only[vop,QDX] at h |-
  split at h
  ·rename_i h1; simp at h; obtain⟨rfl,rfl⟩:=h; simp[DV.ren,h1]
  ·simp at h
 ·rename_i T n ps ho
  rw[ho] at h |-
  simp only[vop,Qbi] at h |-
  split at h
  ·split at h
   ·split at h
    ·rename_i h1
     obtain⟨cs,h2,h3⟩:=Qz h
     simp at h3
     obtain⟨rfl,rfl⟩:=h3
     rw[if_pos h1,h2]; simp[DV.ren]
    ·simp at h
   ·simp at h
  ·simp at h
 ·simp at hc
structure Resv(w:World)(β:Map)(hp:Qa)(d:DV)(B:Blk)(v:Value)(b:Nat):Prop where
 live:B.live=true
 nums:DV.nums.go (fun _=>false) B.cells=true
 out:β.X b
 blk:∃ C:Row,w.heap[b]?=some (.cells C.v B.ty C.m)/\B.cells.length<=C.v.size/\(∀ (i:Nat) (e:DV),B.cells[i]?=some e->e.one=true/\RelD w β hp e (C.v.getD i undef)) /\
  ((d=.ptr 0 0/\v=.pointer (some ⟨b,0,none⟩))\/∃ sz n cap,d=.own 0 sz 0 n/\v=.slice (some ⟨b,0,none⟩) n cap/\n<=cap/\cap<=maxLen/\cap*sz<=C.v.size)
def Resv.evo(h:Resv w β hp d B v b)(hh:HeapRel w β hp)(e:Evo w β hp w' β' hp'):Resv w' β' hp' d B v b:=by
 obtain⟨h1,h2,h3,C,c1,c2,c3,c4⟩:=h
 refine⟨h1,h2,by rw[e.X]; exact h3,C,?_,c2,fun i x hx=>⟨(c3 i x hx).1,(c3 i x hx).2.mono e⟩,c4⟩
 have hlt:=(Ja.1 c1).1
 rw[e.same b hlt (by rintro⟨k,D,k1,k2,k3⟩; exact hh.avoid k D b k1 k2 k3 h3)]
 exact c1
def QqX (hh:HeapRel w β hp) (hev:∀ x ∈ o.op.operands.toList,RelD w β hp (ev x) (ρ x)) (hρ:∀ v,ρ (.const v) = v) (hc:QfW P ev o.op):
 ∃ d B v w' b,Qwf P ev o.op = some (d,B)/\((execOp ρ o).run P w = .ok (.value v) w'\/((execOp ρ o).run P w = .ok .skip w'/\v = undef))/\w'.os = w.os/\w'.tape = w.tape/\w'.output = w.output/\w.heap.size<=w'.heap.size/\w.heap.size<=b/\b < w'.heap.size/\(∀ x,x < w.heap.size->w'.heap[x]? = w.heap[x]?) /\
   Resv w' ⟨β.f,fun x=>β.X x\/x=b⟩ hp d B v b:=by
 unfold QfW at hc
 cases hcr:Qwf P ev o.op with
 | none=>rw[hcr] at hc; exact hc.elim
 | some db =>
   obtain⟨d,B⟩:=db
   rw[hcr] at hc
   obtain⟨c1,c2,c3,c4⟩:=hc
   let βe:Map:=⟨fun _=>none,img β hp⟩
   have hhe:HeapRel w βe []:=⟨by simp,by simp,by simp,by simp,fun b hb=>by
    rcases hb with hb | hb
    ·exact hh.bound b hb
    ·exact Qcg hh hb⟩
   have hime:∀ b,img βe [] b->img β hp b:=fun b hb=>by
    rcases hb with hb | ⟨k,D,h1,_⟩
    ·exact hb
    ·simp at h1
   -- only the operands are asked
   classical
   let ev2:Operand->DV:=fun x=>if x∈o.op.operands.toList then ev x else .any
   have hev2:∀ x,RelD w βe [] (ev2 x) (ρ x):=fun x=>by
    show RelD w βe [] (if x∈o.op.operands.toList then ev x else .any) (ρ x)
    split
    ·rename_i hx
     obtain⟨i,hi⟩:=List.mem_iff_getElem?.1 hx
     exact(hev x hx).closed (DV.nums_go c4 i (ev x) (by rw[Jg,hi]; rfl)) hime
    ·exact .any _
   have hvop:vop P ev2 [] o.op=vop P ev [] o.op:=QbH fun x hx=>by show(if _ then _ else _)=_; rw[if_pos hx]
   have hv:vop P ev [] o.op=some (d,[B])/\(d=.ptr 0 0\/∃ sz n,d=.own 0 sz 0 n):=by
    unfold Qwf at hcr
    split at hcr
    ·rename_i h; simp at hcr; obtain⟨rfl,rfl⟩:=hcr; exact⟨h,.inl rfl⟩
    ·rename_i h; simp at hcr; obtain⟨rfl,rfl⟩:=hcr; exact⟨h,.inr ⟨_,_,rfl⟩⟩
    ·simp at hcr
   obtain⟨v,w',β',h1,ev',hh',hrel⟩:=Qa5 hhe hev2 hρ (o:=o) (hvop.trans hv.1)
   have hold:∀ x,x<w.heap.size->w'.heap[x]?=w.heap[x]?:=fun x hx=>ev'.same x hx (by rintro⟨k,D,k1,_⟩; simp at k1)
   have hf:∃ b,β'.f 0=some b:=by
    cases hb:β'.f 0 with
    | some b=>exact⟨b,rfl⟩
    | none=>have:=hh'.none 0 B rfl c1 hb; rw[this] at c2; simp at c2
   obtain⟨b,hb⟩:=hf
   obtain⟨C,g1,g2,g3⟩:=hh'.blk 0 B b rfl c1 hb
   have hlb:live β' [B] b:=⟨0,B,rfl,c1,hb⟩
   have hge:w.heap.size<=b:=by
    by_cases hlt:b<w.heap.size
    ·obtain ⟨k,D,k1,_⟩:=ev'.im b hlt hlb
     simp at k1
    ·omega
   have him:∀ x,img (⟨β.f,fun x=>β.X x\/x=b⟩:Map) hp x->img β' [B] x:=by
    rintro x ((h | h) | h)
    ·exact .inl (by rw[ev'.X]; exact .inl h)
    ·rw[h]; exact .inr hlb
    ·exact .inl (by rw[ev'.X]; exact .inr h)
   refine⟨d,B,v,w',b,rfl,h1,ev'.os,ev'.tape,ev'.output,ev'.size,hge,(Ja.1 g1).1,hold,c1,c3,.inr rfl,C,g1,g2,fun i e he=>⟨(g3 i e he).1,(g3 i e he).2.closed (DV.nums_go c3 i e he) him⟩,?_⟩
   rcases hv.2 with rfl | ⟨sz,n,rfl⟩
   ·cases hrel with
    | ptr _ _ b' _ hb'=>rw[hb] at hb'; cases hb'; exact .inl ⟨rfl,rfl⟩
   ·cases hrel with
    | own _ _ _ _ cap b' C' T' m0 hk hm l1 l2 l3 l4 =>
      rw[hb] at hm; cases hm
      rw[g1] at l3; cases l3
      exact .inr ⟨sz,n,cap,rfl,rfl,l1,l2,by simpa using l4⟩
    | own0 _ _ a _ hm _=>rw[hb] at hm; cases hm
mutual
def QjS:∀ (d:DV),d.ren (fun k=>k)=d
 | .pv _=>rfl
 | .ptr _ _=>rfl
 | .own _ _ _ _=>rfl
 | .ownc _ _ _ _ _=>rfl
 | .ip _=>rfl
 | .any=>rfl
 | .agg cs=>by simp only[DV.ren]; rw[QbT cs]
 | .tup cs=>by simp only[DV.ren]; rw[QbT cs]
 | .fn f a b=>by simp only[DV.ren]; rw[QbT a,QbT b]
 | .opt c d=>by simp only[DV.ren]; rw[QjS d]
def QbT:∀ (ds:List DV),DV.ren.go (fun k=>k) ds=ds
 | []=>rfl
 | d::r=>by simp only[DV.ren.go]; rw[QjS d,QbT r]
end
def adopt(hh:HeapRel w β hp)(r:Resv w β hp d B v b):
 HeapRel w ⟨(ext β hp.length (some b)).f,fun x=>β.X x/\x≠b⟩ (hp++[B])/\(∀ e u,RelD w β hp e u->RelD w ⟨(ext β hp.length (some b)).f,fun x=>β.X x/\x≠b⟩ (hp++[B]) e u) /\
  RelD w ⟨(ext β hp.length (some b)).f,fun x=>β.X x/\x≠b⟩ (hp++[B]) (d.ren fun _=>hp.length) v /\
  (∀ x,live ⟨(ext β hp.length (some b)).f,fun x=>β.X x/\x≠b⟩ (hp++[B]) x->live β hp x\/x=b)/\(∀ k,k<hp.length->(ext β hp.length (some b)).f k=β.f k):=by
 obtain⟨r1,r2,r3,C,c1,c2,c3,c4⟩:=r
 have hlive:∀ x,live ⟨(ext β hp.length (some b)).f,fun x=>β.X x/\x≠b⟩ (hp++[B]) x->live β hp x\/x=b:=fun x hx=>(QeO (β:=β) r1).1 hx
 have himg:∀ x,img ⟨(ext β hp.length (some b)).f,fun x=>β.X x/\x≠b⟩ (hp++[B]) x->img β hp x:=by
  rintro x (⟨h,_⟩ | h)
  ·exact .inl h
  ·rcases hlive x h with h | rfl
   ·exact .inr h
   ·exact .inl r3
 have mono:∀ e u,RelD w β hp e u->RelD w ⟨(ext β hp.length (some b)).f,fun x=>β.X x/\x≠b⟩ (hp++[B]) e u:=fun e u h=>by
  have:=RelD.ren (σ:=fun k=>k) (p:=fun _=>true) (hp':=hp++[B]) (β':=⟨(ext β hp.length (some b)).f,fun x=>β.X x/\x≠b⟩) (fun k _ hk=>⟨by simp; omega,QaO hk⟩) himg h (QeN e)
  rwa [QjS] at this
 have lt_of:∀ {k:Nat} {D:Blk},(hp++[B])[k]?=some D->(k<hp.length/\hp[k]?=some D/\(ext β hp.length (some b)).f k=β.f k)\/(k=hp.length/\D=B/\(ext β hp.length (some b)).f k=some b):=fun {k D} h=>by
  rcases J2 k hp.length with hlt | heq | hgt
  ·rw [Jz hlt] at h
   exact .inl ⟨hlt,h,QaO hlt⟩
  ·subst heq
   simp at h
   exact .inr ⟨rfl,h.symm,by simp[ext]⟩
  ·rw [JE (by omega),Jt (by simp; omega)] at h
   simp at h
 refine⟨⟨fun k D x hk hD hx=>?_,fun k D hk hD hx=>?_,fun j k D D' x hj hk hD hD' h1 h2=>?_,fun k D x hk hD hx=>?_,fun x hx=>hh.bound x hx.1⟩,mono,?_,hlive,fun k hk=>QaO hk⟩
 ·rcases lt_of hk with ⟨_,hk',he⟩ | ⟨rfl,rfl,he⟩
  ·have hx':β.f k = some x:=he.symm.trans hx
   obtain⟨C',g1,g2,g3⟩:=hh.blk k D x hk' hD hx'
   exact⟨C',g1,g2,fun i e he=>⟨(g3 i e he).1,mono _ _ (g3 i e he).2⟩⟩
  ·have hx':some b = some x:=he.symm.trans hx
   cases hx'
   exact⟨C,c1,c2,fun i e he=>⟨(c3 i e he).1,mono _ _ (c3 i e he).2⟩⟩
 ·rcases lt_of hk with ⟨_,hk',he⟩ | ⟨rfl,rfl,he⟩
  ·exact hh.none k D hk' hD (he.symm.trans hx)
  ·have hx':some b = none:=he.symm.trans hx
   cases hx'
 ·rcases lt_of hj with ⟨_,hj',hje⟩ | ⟨rfl,rfl,hje⟩<;>rcases lt_of hk with ⟨_,hk',hke⟩ | ⟨rfl,rfl,hke⟩
  ·exact hh.inj j k D D' x hj' hk' hD hD' (hje.symm.trans h1) (hke.symm.trans h2)
  ·have h2':some b = some x:=hke.symm.trans h2
   cases h2'
   exact absurd r3 (hh.avoid j D b hj' hD (hje.symm.trans h1))
  ·have h1':some b = some x:=hje.symm.trans h1
   cases h1'
   exact absurd r3 (hh.avoid k D' b hk' hD' (hke.symm.trans h2))
  ·rfl
 ·rcases lt_of hk with ⟨_,hk',he⟩ | ⟨rfl,rfl,he⟩
  ·rintro ⟨hX,_⟩
   exact hh.avoid k D x hk' hD (he.symm.trans hx) hX
  ·have hx':some b = some x:=he.symm.trans hx
   cases hx'
   rintro⟨_,hne⟩
   exact hne rfl
 ·have hfn:(ext β hp.length (some b)).f hp.length = some b:=by simp [ext]
  rcases c4 with⟨rfl,rfl⟩ | ⟨sz,n,cap,rfl,rfl,l1,l2,l3⟩
  ·exact .ptr _ 0 b (by simp) hfn
  ·exact .own _ sz 0 n cap b C.v B.ty _ (by simp) hfn l1 l2 c1 (by simpa using l3)
end Go.V
namespace Go.V
structure Seg where
 R:List Nat
 C:List Nat
 c:Nat
 F:List Nat
 H:List Nat
def pick(all:List Oper):List Nat->List Oper
 | []=>[]
 | i::r=>match all[i]? with | some o=>o::pick all r | none=>pick all r
def QgW(hp hp1:Qa):List Nat->Prop
 | []=>True
 | k::r=>hp1[k]?=hp[k]?/\QgW hp hp1 r
def QpA(S S1:St)(o:Oper)(G:Option Bool):Prop:=
 match G with
 | some G=>QgW S.hp S1.hp (Qci (fun x=>Qs G (S1.ev x)) o.op).1
 | none=>True
def Qio(all:List Oper)(S S1:St):List Oper->Prop
 | []=>True
 | o::r=>QpA S S1 o (QK all S1 o)/\Qio all S S1 r
def QcR(P:Program)(S:St):List Oper->Prop
 | []=>True
 | o::r=>(S.fits o.dst=true/\QfW P (fun x=>Qs true (S.ev x)) o.op)/\QcR P S r
def vsp(P:Program)(all:List Oper):List Seg->(St->Prop)->St->Prop
 | [],K,S=>K S
 | s::r,K,S=>QcR P S (pick all s.R)/\Qar P all (pick all (s.C++[s.c])) (fun S1=>Qio all S S1 (pick all s.F)/\Qar P all (pick all s.H) (vsp P all r K) S1) S
def bnd(ops:Array Oper)(j i:Nat):Bool:=match ops[j]? with | some o=>o.after.toList.any fun e=>Region.binds .any e&&e.on==i | none=>false
def dstOf(ops:Array Oper)(i:Nat):Option Nat:=match ops[i]? with | some o=>o.dst | none=>none
def Qie(ops:Array Oper)(i t:Nat):Bool:=match ops[i]? with | some o=>(o.looksAt ops).contains t | none=>false
def Qk8(ops:Array Oper)(i t:Nat):Bool:=Qie ops i t||dstOf ops i==some t
def Qfp(o:Oper):Bool:=Qae o.op&&match o.op with | .store .. | .assign _=>false | _=>true
def isF(ops:Array Oper)(i:Nat):Bool:=match ops[i]? with | some o=>Qfp o | none=>false
def isC(ops:Array Oper)(i:Nat):Bool:=match ops[i]? with | some o=>QeQ o | none=>false
def Qhq(ops:Array Oper):List Nat->Bool
 | []=>true
 | f::r=>r.all (fun g=>!bnd ops f g)&&Qhq ops r
def nodup:List Nat->Bool
 | []=>true
 | a::r=>!r.contains a&&nodup r
def Qo1:List (Option Nat)->Bool
 | []=>true
 | a::r=>!r.contains a&&Qo1 r
def Seg.ok(ops:Array Oper)(fl:List Nat)(s:Seg)(r:List Seg):Bool :=
 decide (s.c<ops.size) &&
 fl.all (fun f=>s.F.contains f||bnd ops s.c f) &&
 fl.all (fun f=>!bnd ops f s.c&&r.all fun s'=>!bnd ops f s'.c) &&
 s.C.all (fun j=>bnd ops s.c j) &&
 ((s::r).flatMap (·.C)).all (fun j=>s.R.contains j||(((s::r).map (·.c))++(s::r).flatMap (·.H)).any fun i=>bnd ops j i) &&
 s.C.all (fun j=>isC ops j&&match dstOf ops j with
  | some t=>(Jk ops.size).all fun i=>i==j||!Qk8 ops i t||((s::r).map (·.c)).contains i
  | none=>false) &&
 s.H.all (fun f=>bnd ops f s.c||s.H.any fun g=>bnd ops f g) &&
 match r with | []=>true | s'::_=>bnd ops s'.c s.c
def QbQ(ops:Array Oper):List Nat->List Seg->Bool
 | _,[]=>true
 | fl,s::r=>s.ok ops fl r&&QbQ ops (fl++s.H) r
def QHa(ops:Array Oper)(Fl Sp Cr:List Nat):Bool :=
 (Jk ops.size).all (fun i=>Fl.contains i||Sp.contains i||Cr.contains i) &&
 Fl.all (fun f=>!Sp.contains f&&!Cr.contains f)&&Sp.all (fun c=>!Cr.contains c)&&nodup Fl&&nodup Sp&&nodup Cr&&Qo1 (Fl.map (dstOf ops))&&Qhq ops Fl &&
 Fl.all (fun f=>isF ops f&&match dstOf ops f with
  | some t=>!Qie ops f t&&(Jk ops.size).all fun i=>i==f||!Qk8 ops i t||bnd ops i f
  | none=>false) &&
 Sp.all (fun c=>match dstOf ops c with
  | some t=>Fl.all fun f=>!Qie ops f t||bnd ops c f||bnd ops f c
  | none=>true) &&
 Cr.all (fun j=>(Jk ops.size).all fun i=>match dstOf ops i with
  | some t=>i==j||!Qie ops j t||bnd ops j i
  | none=>true) &&
 (Jk ops.size).all (fun j=>match ops[j]? with | some o=>o.after.toList.all fun e=>!Region.binds .any e||decide (e.on<j) | none=>true)
def QjF(ops:Array Oper)(H0:List Nat)(segs:List Seg):Bool:=
 QHa ops (H0++segs.flatMap (·.H)) (segs.map (·.c)) (segs.flatMap (·.C))&&QbQ ops H0 segs&&H0.all fun f=>(segs.map (·.c)).all fun c=>!bnd ops f c
structure Glob(ops:Array Oper)(Fl Sp Cr:List Nat):Prop where
 all:∀ i,i<ops.size->i∈Fl\/i∈Sp\/i∈Cr
 fs:∀ f∈Fl,¬ f∈Sp/\¬ f∈Cr
 sc:∀ c∈Sp,¬ c∈Cr
 nf:Fl.Nodup
 ns:Sp.Nodup
 nc:Cr.Nodup
 nd:∀ f g,f∈Fl->g∈Fl->dstOf ops f=dstOf ops g->f=g
 fo:Qhq ops Fl=true
 fl:∀ f∈Fl,∃ o t,ops[f]?=some o/\Qfp o=true/\o.dst=some t/\¬ t∈o.looksAt ops/\∀ i,i<ops.size->i≠f->Qk8 ops i t=true->bnd ops i f=true
 sp:∀ c∈Sp,∀ t,dstOf ops c=some t->∀ f∈Fl,Qie ops f t=true->bnd ops c f=true\/bnd ops f c=true
 cr:∀ j∈Cr,∀ i t,i<ops.size->dstOf ops i=some t->i≠j->Qie ops j t=true->bnd ops j i=true
 back:∀ j o,ops[j]?=some o->∀ e∈o.after,Region.binds .any e=true->e.on<j
def QdP:∀ {l:List Nat},nodup l = true->l.Nodup
 | [],_=>List.nodup_nil
 | a :: r,h=>by
   simp only[nodup,Jb,Ju,JA,decide_eq_false_iff_not] at h
   exact JP.2 ⟨h.1,QdP h.2⟩
def Qhm:∀ {l:List Nat},Qo1 (l.map (dstOf ops)) = true->∀ f g,f ∈ l->g ∈ l->dstOf ops f = dstOf ops g->f = g
 | [],_,f,g,h,_,_=>by simp at h
 | a :: r,hn,f,g,hf,hg,e=>by
   simp only[Js,Qo1,Jb,Ju,JA,decide_eq_false_iff_not] at hn
   rcases Jl.1 hf with e1 | hf2<;>rcases Jl.1 hg with e2 | hg2
   ·rw[e1,e2]
   ·subst e1; exact absurd (J7.2 ⟨g,hg2,e.symm⟩) hn.1
   ·subst e2; exact absurd (J7.2 ⟨f,hf2,e⟩) hn.1
   ·exact Qhm hn.2 f g hf2 hg2 e
def QuI (h:QHa ops Fl Sp Cr = true):Glob ops Fl Sp Cr:=by
 simp only[QHa,Jb] at h
 obtain⟨⟨⟨⟨⟨⟨⟨⟨⟨⟨⟨h1,h2⟩,h3⟩,h4⟩,h5⟩,h6⟩,h7⟩,h8⟩,h9⟩,h10⟩,h11⟩,h12⟩:=h
 refine⟨fun i hi=>?_,fun f hf=>?_,fun c hc=>?_,QdP h4,QdP h5,QdP h6,Qhm h7,h8,fun f hf=>?_,fun c hc t ht f hf hl=>?_,fun j hj i t hi ht hne hl=>?_,fun j o ho e he hb=>?_⟩
 ·have:=Je.1 h1 i (Jm.2 hi)
  simpa [or_assoc] using this
 ·have:=Je.1 h2 f hf
  simpa using this
 ·have:=Je.1 h3 c hc
  simpa using this
 ·have:=Je.1 h9 f hf
  simp only[Jb] at this
  obtain⟨k1,k2⟩:=this
  unfold isF at k1
  cases ho:ops[f]? with
  | none=>rw[ho] at k1; simp at k1
  | some o =>
    rw[ho] at k1
    simp only[dstOf,ho] at k2
    cases hd:o.dst with
    | none=>rw[hd] at k2; simp at k2
    | some t =>
      rw[hd] at k2
      simp only[Jb,Ju] at k2
      refine⟨o,t,rfl,k1,hd,?_,fun i hi hne hu=>?_⟩
      ·have:=k2.1
       simp only[Qie,ho,JA,decide_eq_false_iff_not] at this
       exact this
      ·have:=Je.1 k2.2 i (Jm.2 hi)
       simp only[Jy,beq_iff_eq,Ju] at this
       rcases this with(h | h) | h
       ·exact absurd h hne
       ·rw[hu] at h; cases h
       ·exact h
 ·have:=Je.1 h10 c hc
  rw[ht] at this
  have:=Je.1 this f hf
  simp only[Jy,Ju] at this
  rcases this with(h | h) | h
  ·rw[hl] at h; cases h
  ·exact .inl h
  ·exact .inr h
 ·have:=Je.1 (Je.1 h11 j hj) i (Jm.2 hi)
  rw[ht] at this
  simp only[Jy,beq_iff_eq,Ju] at this
  rcases this with(h | h) | h
  ·exact absurd h hne
  ·rw[hl] at h; cases h
  ·exact h
 ·have hj:j < ops.size:=(Ja.1 ho).1
  have:=Je.1 h12 j (Jm.2 hj)
  rw[ho] at this
  have:=Je.1 this e (by simpa using he)
  simpa [hb] using this
structure SegOk(ops:Array Oper)(fl:List Nat)(s:Seg)(r:List Seg):Prop where
 lt:s.c<ops.size
 ff:∀ f∈fl,f∈s.F\/bnd ops s.c f=true
 fc:∀ f∈fl,bnd ops f s.c=false/\∀ s'∈r,bnd ops f s'.c=false
 cc:∀ j∈s.C,bnd ops s.c j=true
 rr:∀ j∈(s::r).flatMap (·.C),j∈s.R\/∃ i∈((s::r).map (·.c))++(s::r).flatMap (·.H),bnd ops j i=true
 cd:∀ j∈s.C,∃ o t,ops[j]?=some o/\QeQ o=true/\o.dst=some t/\∀ i,i<ops.size->i≠j->Qk8 ops i t=true->i∈(s::r).map (·.c)
 hh:∀ f∈s.H,bnd ops f s.c=true\/∃ g∈s.H,bnd ops f g=true
 ch:∀ s' r',r=s'::r'->bnd ops s'.c s.c=true
def QdD (h:s.ok ops fl r = true):SegOk ops fl s r:=by
 simp only[Seg.ok,Jb] at h
 obtain⟨⟨⟨⟨⟨⟨⟨h1,h2⟩,h3⟩,h4⟩,h5⟩,h6⟩,h7⟩,h8⟩:=h
 refine⟨of_decide_eq_true h1,fun f hf=>?_,fun f hf=>?_,fun j hj=>Je.1 h4 j hj,fun j hj=>?_,fun j hj=>?_,fun f hf=>?_,fun s' r' e=>?_⟩
 ·have:=Je.1 h2 f hf
  simpa using this
 ·have:=Je.1 h3 f hf
  simpa using this
 ·have:=Je.1 h5 j hj
  simp only[Jy,JA,decide_eq_true_eq,JD] at this
  exact this
 ·have:=Je.1 h6 j hj
  simp only[Jb] at this
  obtain⟨k1,k2⟩:=this
  unfold isC at k1
  cases ho:ops[j]? with
  | none=>rw[ho] at k1; simp at k1
  | some o =>
    rw[ho] at k1
    simp only[dstOf,ho] at k2
    cases hd:o.dst with
    | none=>rw[hd] at k2; simp at k2
    | some t =>
      rw[hd] at k2
      refine⟨o,t,rfl,k1,hd,fun i hi hne hu=>?_⟩
      have:=Je.1 k2 i (Jm.2 hi)
      simp only[Jy,beq_iff_eq,Ju,JA,decide_eq_true_eq] at this
      rcases this with(h | h) | h
      ·exact absurd h hne
      ·rw[hu] at h; cases h
      ·exact h
 ·have:=Je.1 h7 f hf
  simp only[Jy,JD] at this
  exact this
 ·subst e; exact h8
end Go.V
namespace Go.V
structure CInv(O:Org)(hid:Nat->Prop)(rb:Nat->Option Nat)(β:Map)(S:St)(a:Act)(w:World):Prop where
 defers:a.defers=O.ds
 size:a.tmps.size=S.nt
 tm:∀ t,¬ hid t->RelD w β S.hp (look S.tm t) (a.tmps.getD t undef)
 heap:HeapRel w β S.hp
 evo:Evo O.w O.β O.hp w ⟨β.f,O.β.X⟩ S.hp
 base:O.hp.length=S.base
 sub:∀ b,β.X b ↔ (O.β.X b\/∃ j,rb j=some b)
 rinj:∀ i j b,rb i=some b->rb j=some b->i=j
 rnew:∀ j b,rb j=some b->O.w.heap.size<=b/\¬ O.β.X b
def Evo.reX(e:Evo w β hp w' β' hp')(X:Nat->Prop):Evo w ⟨β.f,X⟩ hp w' ⟨β'.f,X⟩ hp':=
 ⟨e.os,e.tape,e.output,e.size,e.len,e.beta,e.same,e.shape,e.im,rfl⟩
def QbC {a:Act} (hf:∀ u,dst = some u->u < a.tmps.size):(a.put dst v).tmps.getD t undef = if dst = some t then v else a.tmps.getD t undef:=by
 cases dst with
 | none=>simp[Act.put]
 | some u =>
   have hu:=hf u rfl
   by_cases h:u=t
   ·subst h; simp[Act.put,hu]
   ·have:¬ (some u = some t):=fun e=>h (Jn.inj e)
    rw[if_neg this]
    simp[Act.put,Jv,h]
def QdK{a:Act}:(a.put dst v).tmps.size=a.tmps.size:=by cases dst<;>simp[Act.put]
def Qct{a:Act}:(a.put dst v).defers=a.defers:=by cases dst<;>rfl
def Qaz (S:St) (dst:Option Tmp) (d:DV) (t:Nat):look (S.put dst d).tm t = if dst = some t then d else look S.tm t:=by
 cases dst with
 | none=>simp[St.put]
 | some u =>
   by_cases h:u=t
   ·subst h; simp[St.put,look]
   ·have:¬ (some u = some t):=fun e=>h (Jn.inj e)
    rw[if_neg this]
    simp[St.put,look,h]
def CInv.step{O:Org}{hid:Nat->Prop}{rb:Nat->Option Nat}{β β':Map}{S:St}{a:Act}{w w':World}{hp':Qa}{dst:Option Tmp}{d:DV}{v:Value}(h:CInv O hid rb β S a w)(e:Evo w β S.hp w' β' hp')(hh:HeapRel w' β' hp')(hd:RelD w' β' hp' d v)(hf:S.fits dst=true) :
 CInv O (fun t=>hid t/\dst≠some t) rb β' ((S.at hp').put dst d) (a.put dst v) w':=by
 have hfit:∀ u,dst=some u->u<a.tmps.size:=fun u hu=>by rw[h.size]; subst hu; simpa [St.fits] using hf
 refine⟨by rw[Qct]; exact h.defers,by rw[QdK,St.put_nt]; exact h.size,fun t ht=>?_,by rw[St.put_hp]; exact hh,by rw[St.put_hp]; exact h.evo.trans (e.reX _),by rw[St.put_base]; exact h.base,fun b=>by rw[e.X]; exact h.sub b,h.rinj,h.rnew⟩
 rw[Qaz,QbC hfit,St.put_hp]
 by_cases hd':dst=some t
 ·rw[if_pos hd',if_pos hd']; exact hd
 ·rw [if_neg hd',if_neg hd']
  exact(h.tm t (fun hh=>ht ⟨hh,hd'⟩)).mono e
def CInv.hide(h:CInv O hid rb β S a w)(hs:∀ t,hid t->hid' t):CInv O hid' rb β S a w:=
 { h with tm:=fun t ht=>h.tm t (fun x=>ht (hs t x)) }
def CInv.only(h:CInv O hid rb β S a w)(ht:∀ t∈ts,¬ hid t):
 Sim ⟨w,β,S.hp,O.ds⟩ β (S.only ts) a w:=by
 refine⟨h.defers,h.size,fun t=>?_,h.heap,Evo.refl _ _ _,rfl⟩
 show RelD w β S.hp (look (ts.map fun t=>(t,look S.tm t)) t) _
 rw[Qke]
 split
 ·rename_i hm; exact h.tm t (ht t hm)
 ·exact .any _
def RelD.out (h:RelD w β hp d v) (hsz:w.heap.size<=w'.heap.size) (hs:∀ x,x < w.heap.size->w'.heap[x]? = w.heap[x]?) (hX:∀ b,b < w.heap.size->X b->β.X b):RelD w' ⟨β.f,X⟩ hp d v:=by
 have him:∀ b,b<w.heap.size->img ⟨β.f,X⟩ hp b->img β hp b:=by
  rintro b hb (h | h)
  ·exact .inl (hX b hb h)
  ·exact .inr h
 induction h with
 | pv p v h=>exact .pv p v (h.mono hsz (fun b hb _=>hs b hb) him)
 | ptr k off b h hb=>exact .ptr k off b h hb
 | own k sz off len cap b C T m h hb h1 h2 h3 h4=>exact .own k sz off len cap b C T m h hb h1 h2 (by rw[hs b (Ja.1 h3).1]; exact h3) h4
 | ownc k sz off len cap b o C T m h hb h1 h2 h3 h4 h5=>exact .ownc k sz off len cap b o C T m h hb h1 h2 (by rw[hs b (Ja.1 h3).1]; exact h3) h4 h5
 | own0 k sz a h hb ha=>exact .own0 k sz a h hb ha
 | ip cs ad val h1 h2 h3 =>
   refine .ip cs ad val h1 (fun j d hd=>?_) (fun j d hd=>(h3 j d hd).mono hsz (fun b hb _=>hs b hb) him)
   obtain⟨a,b,c⟩:=h2 j d hd
   exact⟨Jp a hsz,fun x=>b (him _ a x),by rw[Qdv (w:=w) (a:=at_ ad j) (hs _ a)]; exact c⟩
 | agg ds vs h _ ih=>exact .agg ds vs h ih
 | fn f ds es vs us h h' _ _ ih ih'=>exact .fn f ds es vs us h h' ih ih'
 | tup ds vs h _ ih=>exact .tup ds vs h ih
 | opt c d v _ hf ih=>exact .opt c d v ih hf
 | any v=>exact .any v
def HeapRel.out(hh:HeapRel w β hp)(hsz:w.heap.size<=w'.heap.size)(hs:∀ x,x<w.heap.size->w'.heap[x]?=w.heap[x]?)(hX:∀ b,b<w.heap.size->X b->β.X b)(hb:∀ b,X b->b<w'.heap.size):HeapRel w' ⟨β.f,X⟩ hp:=by
 refine⟨fun k B b h1 h2 h3=>?_,hh.none,hh.inj,fun k B b h1 h2 h3 hx=>?_,hb⟩
 ·obtain ⟨C,g1,g2,g3⟩:=hh.blk k B b h1 h2 h3
  exact⟨C,by rw[hs b (Ja.1 g1).1]; exact g1,g2,fun i d hd=>⟨(g3 i d hd).1,(g3 i d hd).2.out hsz hs hX⟩⟩
 ·exact hh.avoid k B b h1 h2 h3 (hX b (Qcg hh ⟨k,B,h1,h2,h3⟩) hx)
def Resv.out'(h:Resv w β hp d B v b)(hsz:w.heap.size<=w'.heap.size)(hs:∀ x,x<w.heap.size->w'.heap[x]?=w.heap[x]?)(hX:∀ b,b<w.heap.size->X b->β.X b)(hXb:X b):Resv w' ⟨β.f,X⟩ hp d B v b:=by
 obtain⟨h1,h2,h3,C,c1,c2,c3,c4⟩:=h
 exact⟨h1,h2,hXb,C,by rw[hs b (Ja.1 c1).1]; exact c1,c2,fun i x hx=>⟨(c3 i x hx).1,(c3 i x hx).2.out hsz hs hX⟩,c4⟩
def CInv.reserve(h:CInv O hid rb β S a w)(hos:w'.os=w.os)(hta:w'.tape=w.tape)(hou:w'.output=w.output)(hsz:w.heap.size<=w'.heap.size)(hb:w.heap.size<=b)(hbl:b<w'.heap.size)(hs:∀ x,x<w.heap.size->w'.heap[x]?=w.heap[x]?)(hj:rb j=none)(ht:t<S.nt):CInv O (fun u=>hid u\/u=t) (fun i=>if i=j then some b else rb i) ⟨β.f,fun x=>β.X x\/x=b⟩ S (a.put (some t) v) w':=by
 have hX:∀ x,x<w.heap.size->(β.X x\/x=b)->β.X x:=fun x hx h=>h.elim id (fun e=>by omega)
 have hrb:∀ i c,rb i=some c->c<w.heap.size:=fun i c hc=>h.heap.bound c ((h.sub c).2 (.inr ⟨i,hc⟩))
 refine⟨h.defers,by rw[QdK]; exact h.size,fun u hu=>?_,h.heap.out hsz hs hX (fun x hx=>hx.elim (fun hx=>Jp (h.heap.bound x hx) hsz) (fun e=>by omega)),?_,h.base,fun x=>?_,fun i k c hi hk=>?_,fun i c hc=>?_⟩
 ·have hne:¬ (some t = some u):=fun e=>hu (.inr (Jn.inj e).symm)
  rw[QbC (fun u hu=>by cases hu; rw[h.size]; exact ht),if_neg hne]
  exact(h.tm u (fun x=>hu (.inl x))).out hsz hs hX
 ·have e:Evo w ⟨β.f,O.β.X⟩ S.hp w' ⟨β.f,O.β.X⟩ S.hp:=⟨hos,hta,hou,hsz,Jw _,fun _ _=>rfl,fun x hx _=>hs x hx,fun x C T m hx=>⟨C,m,by rw [hs x (Ja.1 hx).1]; exact hx,rfl⟩,fun _ _ h=>h,rfl⟩
  exact h.evo.trans e
 ·show (β.X x\/x = b) ↔ _
  rw[h.sub x]
  constructor
  ·rintro ((h1 | ⟨i,hi⟩) | rfl)
   ·exact .inl h1
   ·refine .inr ⟨i,?_⟩
    show(if i=j then some b else rb i)=some x
    rw[if_neg (by intro e; subst e; rw[hj] at hi; cases hi)]; exact hi
   ·exact .inr ⟨j,by simp⟩
  ·rintro (h1 | ⟨i,hi⟩)
   ·exact .inl (.inl h1)
   ·by_cases e:i = j
    ·rw[if_pos e] at hi; cases hi; exact .inr rfl
    ·rw[if_neg e] at hi; exact .inl (.inr ⟨i,hi⟩)
 ·by_cases e1:i = j<;>by_cases e2:k = j
  ·rw[e1,e2]
  ·rw [if_pos e1] at hi
   rw[if_neg e2] at hk
   cases hi
   have:=hrb k b hk; omega
  ·rw [if_neg e1] at hi
   rw[if_pos e2] at hk
   cases hk
   have:=hrb i b hi; omega
  ·rw [if_neg e1] at hi
   rw[if_neg e2] at hk
   exact h.rinj i k c hi hk
 ·by_cases e:i = j
  ·rw [if_pos e] at hc
   cases hc
   refine⟨Nat.le_trans h.evo.size hb,fun hx=>?_⟩
   have:=h.heap.bound b ((h.sub b).2 (.inl hx)); omega
  ·rw[if_neg e] at hc; exact h.rnew i c hc
def CInv.adopt(h:CInv O hid rb β S a w)(hj:rb j=some b)(r:Resv w β S.hp d B (a.tmps.getD t undef) b):
 CInv O (fun u=>hid u/\u≠t) (fun i=>if i=j then none else rb i) ⟨(ext β S.hp.length (some b)).f,fun x=>β.X x/\x≠b⟩ ((S.at (S.hp++[B])).put (some t) (d.ren fun _=>S.hp.length)) a w:=by
 obtain⟨a1,a2,a3,a4,a5⟩:=V.adopt h.heap r
 obtain⟨n1,n2⟩:=h.rnew j b hj
 refine⟨h.defers,h.size,fun u hu=>?_,a1,?_,h.base,fun x=>?_,fun i k c hi hk=>?_,fun i c hc=>?_⟩
 ·rw [Qaz]
  by_cases e:some t=some u
  ·cases e; rw[if_pos rfl]; exact a3
  ·rw [if_neg e]
   exact a2 _ _ (h.tm u (fun x=>hu ⟨x,fun e'=>e (by rw[e'])⟩))
 ·have e:=h.evo
  refine⟨e.os,e.tape,e.output,e.size,by show _<=(S.hp++[B]).length; have:=e.len; simp; omega,fun k hk=>(a5 k (Jp hk e.len)).trans (e.beta k hk),e.same,e.shape,fun x hx hl=>?_,rfl⟩
  rcases a4 x hl with h1 | h1
  ·exact e.im x hx h1
  ·omega
 ·show (β.X x/\x ≠ b) ↔ _
  rw[h.sub x]
  constructor
  ·rintro ⟨h1 | ⟨i,hi⟩,hne⟩
   ·exact .inl h1
   ·refine .inr ⟨i,?_⟩
    show(if i=j then none else rb i)=some x
    rw[if_neg (by intro e; subst e; rw[hj] at hi; cases hi; exact hne rfl)]; exact hi
  ·rintro (h1 | ⟨i,hi⟩)
   ·exact⟨.inl h1,fun e=>n2 (e▸h1)⟩
   ·by_cases e:i = j
    ·rw[if_pos e] at hi; cases hi
    ·rw [if_neg e] at hi
     exact⟨.inr ⟨i,hi⟩,fun e'=>e (h.rinj i j b (e'▸hi) hj)⟩
 ·by_cases e1:i = j
  ·rw[if_pos e1] at hi; cases hi
  ·by_cases e2:k = j
   ·rw[if_pos e2] at hk; cases hk
   ·rw [if_neg e1] at hi
    rw[if_neg e2] at hk
    exact h.rinj i k c hi hk
 ·by_cases e:i = j
  ·rw[if_pos e] at hc; cases hc
  ·rw[if_neg e] at hc; exact h.rnew i c hc
section
variable {P:Program} {ops:Array Oper}
def QnS(ops:Array Oper)(fl cs:List Nat)(L:Array Bool)(t:Nat):Prop:=
 (∃ f∈fl,L.getD f false=false/\dstOf ops f=some t)\/∃ j∈cs,L.getD j false=true/\dstOf ops j=some t
def Pend (P:Program) (ops:Array Oper) (S:St) (f:Nat):Prop :=
 ∃ o t,ops[f]? = some o/\o.dst = some t/\t < S.nt/\∃ G,QK ops.toList S o = some G /\
   ((∃ d,vop P (fun x=>Qs G (S.ev x)) S.hp o.op=some (d,S.hp)/\look S.tm t=Qde o.guard G d)\/(G=false/\look S.tm t=.tup []))
def Rv(P:Program)(ops:Array Oper)(rb:Nat->Option Nat)(β:Map)(S:St)(a:Act)(w:World)(j:Nat):Prop:=
 ∃ o t d B b,ops[j]?=some o/\o.dst=some t/\rb j=some b/\Qwf P (fun x=>Qs true (S.ev x)) o.op=some (d,B)/\Resv w β S.hp d B (a.tmps.getD t undef) b
structure MInv(P:Program)(ops:Array Oper)(O:Org)(fl:List Nat)(rs:List Seg)(rb:Nat->Option Nat)(β:Map)(S:St)(L:Array Bool)(a:Act)(w:World):Prop where
 lsz:L.size=ops.size
 core:CInv O (QnS ops fl (rs.flatMap (·.C)) L) rb β S a w
 cov:∀ i,i<ops.size->L.getD i false=true\/i∈fl++rs.flatMap (·.H)\/i∈rs.map (·.c)\/i∈rs.flatMap (·.C)
 sp:∀ c∈rs.map (·.c),L.getD c false=false
 flo:∀ f∈rs.flatMap (·.H),L.getD f false=false
 clo:∀ i o,ops[i]?=some o->L.getD i false=true->∀ e∈o.after,Region.binds .any e=true->L.getD e.on false=true
 rv:∀ j∈rs.flatMap (·.C),L.getD j false=true->Rv P ops rb β S a w j
 rbo:∀ j b,rb j=some b->j∈rs.flatMap (·.C)/\L.getD j false=true
 pend:∀ f∈fl,L.getD f false=false->Pend P ops S f
theorem Qdw(hj:ops[j]?=some o){L:Array Bool}(hd:∀ e∈o.after,Region.binds .any e=true->L.getD e.on false=true)(hb:bnd ops j i=true):L.getD i false=true:=by
 simp only[bnd,hj,JD,Jb,beq_iff_eq] at hb
 obtain⟨e,e1,e2,e3⟩:=hb
 rw[<- e3]; exact hd e (by simpa using e1) e2
theorem Qad(hj:ops[j]?=some o)(ht:t∈o.looksAt ops):Qk8 ops j t=true:=by
 simp[Qk8,Qie,hj,ht]
theorem Qo5(hj:ops[j]?=some o)(ht:t∈o.looksAt ops):Qie ops j t=true:=by
 simp[Qie,hj,ht]
theorem QaT(ht:dstOf ops j=some t):Qk8 ops j t=true:=by simp[Qk8,ht]
theorem Qfu (h:Qfp o = true) (ev:Operand->DV):Qae o.op = true/\Qq ev o.op = none/\(Qci ev o.op).2 = false:=by
 unfold Qfp at h
 simp only[Jb] at h
 refine⟨h.1,?_,?_⟩
 ·have h1:=h.1
  cases hop:o.op with
  | call c =>
    rw[hop] at h1
    simp only[Qae] at h1
    simp only[Qq]
    split
    ·rename_i f hc; rw[hc] at h1; simp at h1
    ·rfl
  | _=>rfl
 ·have h2:=h.2
  cases hop:o.op with
  | store T x y=>rw[hop] at h2; simp at h2
  | _=>rfl
theorem Qmv(h:QeQ o=true)(ev:Operand->DV):Qq ev o.op=none/\o.guard=none:=by
 unfold QeQ at h
 simp only[Jb] at h
 refine⟨?_,by simpa using h.1⟩
 have h2:=h.2
 split at h2
 ·rename_i ho; rw[ho]; rfl
 ·rename_i ho; rw[ho]; rfl
 ·rename_i ho; rw[ho]; rfl
 ·simp at h2
theorem seen{rs:List Seg}(g:Glob ops Fl Sp Cr)(hFl:∀ f∈fl,f∈Fl)(hcd:∀ j∈rs.flatMap (·.C),∃ o t,ops[j]?=some o/\QeQ o=true/\o.dst=some t/\∀ i,i<ops.size->i≠j->Qk8 ops i t=true->i∈rs.map (·.c))(hi:ops[i]?=some o)(hd:∀ e∈o.after,Region.binds .any e=true->L.getD e.on false=true)(hu:Qk8 ops i t=true)(hns:¬ i∈rs.map (·.c))(hself:L.getD i false=false)(hnf:i∈fl->dstOf ops i≠some t):¬ QnS ops fl (rs.flatMap (·.C)) L t:=by
 have hilt:i<ops.size:=(Ja.1 hi).1
 rintro(⟨f,hf,hL,ht⟩ | ⟨j,hj,hL,ht⟩)
 ·obtain ⟨of,tf,h1,_,h2,_,h3⟩:=g.fl f (hFl f hf)
  have:tf=t:=by simp only[dstOf,h1] at ht; rw[h2] at ht; exact Jn.inj ht
  subst this
  by_cases e:i=f
  ·subst e; exact hnf hf ht
  ·have:=Qdw hi hd (h3 i hilt e hu)
   rw[hL] at this; cases this
 ·obtain ⟨oj,tj,h1,_,h2,h3⟩:=hcd j hj
  have:tj=t:=by simp only[dstOf,h1] at ht; rw[h2] at ht; exact Jn.inj ht
  subst this
  by_cases e:i=j
  ·subst e; rw[hself] at hL; cases hL
  ·exact hns (h3 i hilt e hu)
end
end Go.V
namespace Go.V
section
variable {P:Program} {ops:Array Oper}
structure Stat(ops:Array Oper)(Fl Sp Cr:List Nat)(fl:List Nat)(rs:List Seg):Prop where
 g:Glob ops Fl Sp Cr
 hFl:Fl=fl++rs.flatMap (·.H)
 hSp:∃ dn,Sp=dn++rs.map (·.c)
 hCr:∃ dn,Cr=dn++rs.flatMap (·.C)
 ok:QbQ ops fl rs=true
variable {Fl Sp Cr fl:List Nat} {rs:List Seg}
theorem Stat.fl_sub(s:Stat ops Fl Sp Cr fl rs):∀ f∈fl,f∈Fl:=fun f hf=>by rw[s.hFl]; exact Jj _ hf
theorem Stat.sp_sub(s:Stat ops Fl Sp Cr fl rs):∀ c∈rs.map (·.c),c∈Sp:=fun c hc=>by obtain⟨dn,h⟩:=s.hSp; rw[h]; exact Jh _ hc
theorem Stat.cr_sub(s:Stat ops Fl Sp Cr fl rs):∀ c∈rs.flatMap (·.C),c∈Cr:=fun c hc=>by obtain⟨dn,h⟩:=s.hCr; rw[h]; exact Jh _ hc
theorem Qdc:∀ {fl:List Nat} {rs:List Seg},QbQ ops fl rs = true->∀ j ∈ rs.flatMap (·.C),∃ o t,ops[j]? = some o/\QeQ o = true/\o.dst = some t/\∀ i,i < ops.size->i ≠ j->Qk8 ops i t = true->i ∈ rs.map (·.c)
 | fl,[],_,j,hj=>by simp at hj
 | fl,s :: r,h,j,hj=>by
   simp only[QbQ,Jb] at h
   rw[Jr,JB] at hj
   rcases hj with hj | hj
   ·exact(QdD h.1).cd j hj
   ·obtain ⟨o,t,h1,h2,h3,h4⟩:=Qdc h.2 j hj
    exact⟨o,t,h1,h2,h3,fun i a b c=>by rw[Js]; exact Jf _ (h4 i a b c)⟩
theorem Qls:∀ {fl:List Nat} {rs:List Seg},QbQ ops fl rs = true->∀ f ∈ rs.flatMap (·.H),(∃ c ∈ rs.map (·.c),bnd ops f c = true)\/∃ g ∈ rs.flatMap (·.H),bnd ops f g = true
 | fl,[],_,j,hj=>by simp at hj
 | fl,s :: r,h,f,hf=>by
   simp only[QbQ,Jb] at h
   rw[Jr,JB] at hf
   rcases hf with hf | hf
   ·rcases (QdD h.1).hh f hf with h1 | ⟨g,h1,h2⟩
    ·exact .inl ⟨s.c,by simp,h1⟩
    ·exact .inr ⟨g,by rw[Jr]; exact Jj _ h1,h2⟩
   ·rcases Qls h.2 f hf with ⟨c,h1,h2⟩ | ⟨g,h1,h2⟩
    ·exact .inl ⟨c,by rw[Js]; exact Jf _ h1,h2⟩
    ·exact .inr ⟨g,by rw[Jr]; exact Jh _ h1,h2⟩
theorem Qlt:∀ {fl:List Nat} {s:Seg} {r:List Seg},QbQ ops fl (s :: r) = true->∀ c ∈ r.map (·.c),∃ c' ∈ (s :: r).map (·.c),bnd ops c c' = true
 | fl,s,[],_,c,hc=>by simp at hc
 | fl,s,s' :: r',h,c,hc=>by
   simp only[QbQ,Jb] at h
   rw[Js,Jl] at hc
   rcases hc with rfl | hc
   ·exact⟨s.c,by simp,(QdD h.1).ch s' r' rfl⟩
   ·have h2:QbQ ops (fl ++ s.H) (s' :: r') = true:=by simp only [QbQ,Jb]; exact h.2
    obtain⟨c',h3,h4⟩:=Qlt h2 c hc
    exact⟨c',by rw[Js]; exact Jf _ h3,h4⟩
theorem QjI{L:Array Bool}(h:j<L.size):(L.setIfInBounds j true).getD j false=true:=by simp[h]
theorem QqQ(st:Stat ops Fl Sp Cr fl rs)(h:MInv P ops O fl rs rb β S L a w)(hf:f∈fl)(ho:ops[f]?=some o)(hL:L.getD f false=false)(hd:∀ e∈o.after,Region.binds .any e=true->L.getD e.on false=true)(hn:∀ β' a' w',MInv P ops O fl rs rb β' S (L.setIfInBounds f true) a' w'->next a' w'):
 if Region.wanted o (yielded ops a.tmps) then o.wp P a w next Q\/(o.asks P a w/\LetsOut Q) else next (a.put o.dst undef) w:=by
 have hflt:f<ops.size:=(Ja.1 ho).1
 obtain⟨o1,t,e1,hfl,hdst,hown,huse⟩:=st.g.fl f (st.fl_sub f hf)
 rw[ho] at e1; cases e1
 obtain⟨o2,t2,e2,hdst2,htn,G,hG,hval⟩:=h.pend f hf hL
 rw[ho] at e2; cases e2
 rw[hdst] at hdst2; cases hdst2
 have hdo:dstOf ops f=some t:=by simp[dstOf,ho,hdst]
 obtain⟨nSp,nCr⟩:=st.g.fs f (st.fl_sub f hf)
 have nsp:¬ f∈rs.map (·.c):=fun hc=>nSp (st.sp_sub f hc)
 have hcd:=Qdc st.ok
 have hseen:∀ u∈o.looksAt ops,¬ QnS ops fl (rs.flatMap (·.C)) L u:=fun u hu=>
  seen st.g st.fl_sub hcd ho hd (Qad ho hu) nsp hL (fun _ hd'=>by rw[hdo] at hd'; cases hd'; exact hown hu)
 have hs:=h.core.only hseen
 -- the new state of the region
 have fin:∀ β' w' v,Evo w β S.hp w' β' S.hp->HeapRel w' β' S.hp->RelD w' β' S.hp (look S.tm t) v->next (a.put o.dst v) w':=by
  intro β' w' v k1 k2 k3
  refine hn β' _ _ ?_
  have hsz:f<L.size:=by rw[h.lsz]; exact hflt
  have hself:=QjI hsz
  have hoth:∀ i,i≠f->(L.setIfInBounds f true).getD i false=L.getD i false:=fun i hi=>getD_set_ne false (Ne.symm hi)
  have hmono:∀ i,L.getD i false=true->(L.setIfInBounds f true).getD i false=true:=fun i hi=>getD_set_true hi
  have step:=h.core.step (dst:=o.dst) k1 k2 k3 (by rw[hdst]; simpa [St.fits] using htn)
  refine⟨by simp[h.lsz],?_,fun i hi=>(h.cov i hi).imp (hmono i) id,fun c hc=>?_,fun g hg=>?_,fun i oi hi hLi e he hb=>?_,fun j hj hLj=>?_,fun j b hb=>?_,fun g hg hLg=>?_⟩
  ·-- the slots
   refine⟨step.defers,by rw[QdK]; exact h.core.size,fun u hu=>?_,k2,?_,h.core.base,step.sub,step.rinj,step.rnew⟩
   ·by_cases hut:t = u
    ·subst hut
     rw[QbC (fun x hx=>by rw[hdst] at hx; cases hx; rw[h.core.size]; exact htn),if_pos hdst]; exact k3
    ·rw [QbC (fun x hx=>by rw [hdst] at hx; cases hx; rw [h.core.size]; exact htn),if_neg (by rw [hdst]; exact fun e=>hut (Jn.inj e))]
     refine(h.core.tm u fun hid=>hu ?_).mono k1
     rcases hid with⟨g,hg,hLg,hgd⟩ | ⟨j,hj,hLj,hjd⟩
     ·refine .inl ⟨g,hg,?_,hgd⟩
      by_cases e:g=f
      ·subst e; rw[hdo] at hgd; exact absurd (Jn.inj hgd) hut
      ·rw[hoth g e]; exact hLg
     ·exact .inr ⟨j,hj,hmono j hLj,hjd⟩
   ·have:=step.evo; rw[St.put_hp] at this; exact this
  ·rw[hoth c (fun e=>nsp (e▸hc))]; exact h.sp c hc
  ·rw [hoth g (fun e=>by
    subst e
    have hn:=st.g.nf; rw[st.hFl] at hn
    exact(JT.1 hn).2.2 _ hf _ hg rfl)]
   exact h.flo g hg
  ·by_cases e':i = f
   ·subst e'; rw[ho] at hi; cases hi; exact hmono _ (hd e he hb)
   ·rw[hoth i e'] at hLi; exact hmono _ (h.clo i oi hi hLi e he hb)
  ·have hjf:j ≠ f:=fun e=>nCr (st.cr_sub j hj |> fun x=>e ▸ x)
   rw[hoth j hjf] at hLj
   obtain⟨oj,tj,d,B,b,q1,q2,q3,q4,q5⟩:=h.rv j hj hLj
   refine⟨oj,tj,d,B,b,q1,q2,q3,q4,?_⟩
   have hne:¬ (o.dst=some tj):=fun e=>by
    obtain⟨oj',tj',r1,_,r2,r3⟩:=hcd j hj
    rw[q1] at r1; cases r1
    rw[q2] at r2; cases r2
    exact nsp (r3 f hflt hjf.symm (QaT (by simp[dstOf,ho,e])))
   rw[QbC (fun x hx=>by rw[hdst] at hx; cases hx; rw[h.core.size]; exact htn),if_neg hne]
   exact q5.evo h.core.heap k1
  ·obtain ⟨r1,r2⟩:=h.rbo j b hb
   exact⟨r1,hmono j r2⟩
  ·have hgf:g ≠ f:=fun e=>by subst e; rw [hself] at hLg; cases hLg
   rw[hoth g hgf] at hLg
   exact h.pend g hg hLg
 have hgd:QK ops.toList (S.only (o.looksAt ops)) o=some G:=by
  rw[Qbv (S:=S) (fun u hu=>QeJ S _ u hu)]; exact hG
 have hw:=QS (ops:=ops) hs hgd
 rw[hw]
 obtain⟨hk,hcall,hft⟩:=Qfu hfl (fun x=>Qs G (S.ev x))
 cases hGv:G with
 | true =>
   subst hGv
   rw[if_pos rfl]
   rcases hval with⟨d,hv,hl⟩ | ⟨h0,_⟩
   ·have hev:∀ x,RelD w β S.hp (Qs true ((S.only (o.looksAt ops)).ev x)) (a.eval x):=fun x=>Qaq (hs.ev x) rfl
    have hv':vop P (fun x=>Qs true ((S.only (o.looksAt ops)).ev x)) S.hp o.op=some (d,S.hp):=by
     rw[QbH (ev:=fun x=>Qs true (S.ev x)) (fun x hx=>by show Qs true _=Qs true _; rw[Qik (S:=S) (fun u hu=>QeJ S _ u hu) x hx])]
     exact hv
    refine .inl (QbZ (Qa5 h.core.heap hev (fun _=>rfl) hv') (fun v w' β' k1 k2 k3=>fin β' w' v k1 k2 ?_))
    rw[hl]
    cases o.guard with
    | none=>exact k3
    | some _=>exact .opt true d v (fun _=>k3) (by simp)
   ·cases h0
 | false =>
   subst hGv
   rw[if_neg (by simp)]
   refine fin β w undef (Evo.refl _ _ _) h.core.heap ?_
   rcases hval with⟨d,_,hl⟩ | ⟨_,hl⟩
   ·rw [hl]
    cases hgd':o.guard with
    | none=>simp[QK,hgd'] at hG
    | some _=>exact .opt false d undef (by simp) (fun _=>rfl)
   ·rw[hl]; exact .tup [] #[] rfl (by simp)
theorem Qvv(st:Stat ops Fl Sp Cr fl rs)(h:MInv P ops O fl rs rb β S L a w)(hj:j∈rs.flatMap (·.C))(ho:ops[j]?=some o)(hL:L.getD j false=false)(hd:∀ e∈o.after,Region.binds .any e=true->L.getD e.on false=true)(hfit:S.fits o.dst=true)(hc:QfW P (fun x=>Qs true (S.ev x)) o.op)(hn:∀ rb' β' a' w',MInv P ops O fl rs rb' β' S (L.setIfInBounds j true) a' w'->next a' w'):
 if Region.wanted o (yielded ops a.tmps) then o.wp P a w next Q\/(o.asks P a w/\LetsOut Q) else next (a.put o.dst undef) w:=by
 have hjlt:j<ops.size:=(Ja.1 ho).1
 have hcd:=Qdc st.ok
 obtain⟨o1,t,e1,hcr,hdst,huse⟩:=hcd j hj
 rw[ho] at e1; cases e1
 have hdo:dstOf ops j=some t:=by simp[dstOf,ho,hdst]
 have htn:t<S.nt:=by rw[hdst] at hfit; simpa [St.fits] using hfit
 have nSp:¬ j∈Sp:=fun hs=>st.g.sc j hs (st.cr_sub j hj)
 have nsp:¬ j∈rs.map (·.c):=fun hs=>nSp (st.sp_sub j hs)
 have nFl:¬ j∈Fl:=fun hf=>(st.g.fs j hf).2 (st.cr_sub j hj)
 have hseen:∀ u∈o.looksAt ops,¬ QnS ops fl (rs.flatMap (·.C)) L u:=fun u hu=>
  seen st.g st.fl_sub hcd ho hd (Qad ho hu) nsp hL (fun hf=>absurd (st.fl_sub j hf) nFl)
 have hs:=h.core.only hseen
 obtain⟨_,hgn⟩:=Qmv hcr (fun x=>S.ev x)
 have hgd:QK ops.toList (S.only (o.looksAt ops)) o=some true:=by simp[QK,hgn]
 have hw:=QS (ops:=ops) hs hgd
 rw[hw,if_pos rfl]
 have hev:∀ x∈o.op.operands.toList,RelD w β S.hp (Qs true (S.ev x)) (a.eval x):=fun x hx=>by
  have:=hs.ev x
  rw[Qik (S:=S) (fun u hu=>QeJ S _ u hu) x hx] at this
  exact Qaq this rfl
 obtain⟨d,B,v,w',b,c1,c2,c3,c4,c5,c6,c7,c8,c9,c10⟩:=QqX (β:=β) h.core.heap hev (fun _=>rfl) hc
 have hrb:rb j=none:=by
  cases hr:rb j with
  | none=>rfl
  | some x=>have:=(h.rbo j x hr).2; rw[hL] at this; cases this
 have core:=h.core.reserve (v:=v) c3 c4 c5 c6 c7 c8 c9 hrb htn
 have hnext:next (a.put o.dst v) w':=by
  rw[hdst]
  refine hn (fun i=>if i=j then some b else rb i) ⟨β.f,fun x=>β.X x\/x=b⟩ _ _ ?_
  have hsz:j<L.size:=by rw[h.lsz]; exact hjlt
  have hself:=QjI hsz
  have hoth:∀ i,i≠j->(L.setIfInBounds j true).getD i false=L.getD i false:=fun i hi=>getD_set_ne false (Ne.symm hi)
  have hmono:∀ i,L.getD i false=true->(L.setIfInBounds j true).getD i false=true:=fun i hi=>getD_set_true hi
  refine⟨by simp[h.lsz],core.hide fun u hu=>?_,fun i hi=>(h.cov i hi).imp (hmono i) id,fun c hc=>?_,fun g hg=>?_,fun i oi hi hLi e he hb=>?_,fun i hi hLi=>?_,fun i b' hb'=>?_,fun g hg hLg=>?_⟩
  ·rcases hu with (⟨f,hf,hLf,hfd⟩ | ⟨i,hi,hLi,hid⟩) | rfl
   ·exact .inl ⟨f,hf,by rw[hoth f (fun e=>nFl (e▸st.fl_sub f hf))]; exact hLf,hfd⟩
   ·exact .inr ⟨i,hi,hmono i hLi,hid⟩
   ·exact .inr ⟨j,hj,hself,hdo⟩
  ·rw[hoth c (fun e=>nsp (e▸hc))]; exact h.sp c hc
  ·rw[hoth g (fun e=>nFl (by rw[<- e,st.hFl]; exact Jh _ hg))]; exact h.flo g hg
  ·by_cases e':i = j
   ·subst e'; rw[ho] at hi; cases hi; exact hmono _ (hd e he hb)
   ·rw[hoth i e'] at hLi; exact hmono _ (h.clo i oi hi hLi e he hb)
  ·by_cases e:i = j
   ·subst e
    exact⟨o,t,d,B,b,ho,hdst,by simp,c1,by rw[QbC (fun x hx=>by cases hx; rw[h.core.size]; exact htn),if_pos rfl]; exact c10⟩
   ·rw [hoth i e] at hLi
    obtain⟨oi,ti,di,Bi,bi,q1,q2,q3,q4,q5⟩:=h.rv i hi hLi
    refine⟨oi,ti,di,Bi,bi,q1,q2,by show(if i=j then some b else rb i)=some bi; rw[if_neg e]; exact q3,q4,?_⟩
    have hne:¬ (some t=some ti):=fun et=>by
     cases et
     obtain⟨oi',ti',r1,_,r2,r3⟩:=hcd i hi
     rw[q1] at r1; cases r1
     rw[q2] at r2; cases r2
     exact nsp (r3 j hjlt (Ne.symm e) (QaT hdo))
    rw[QbC (fun x hx=>by cases hx; rw[h.core.size]; exact htn),if_neg hne]
    exact q5.out' c6 c9 (fun x hx hX=>hX.elim id (fun e=>by omega)) (.inl q5.out)
  ·by_cases e:i = j
   ·subst e; exact⟨hj,hself⟩
   ·have hb':(if i = j then some b else rb i) = some b':=hb'
    rw[if_neg e] at hb'
    obtain⟨r1,r2⟩:=h.rbo i b' hb'
    exact⟨r1,hmono i r2⟩
  ·have hgj:g ≠ j:=fun e=>nFl (e ▸ st.fl_sub g hg)
   rw[hoth g hgj] at hLg
   exact h.pend g hg hLg
 refine .inl ?_
 unfold Oper.wp
 rcases c2 with c2 | ⟨c2,rfl⟩
 ·rw[c2]; exact hnext
 ·rw[c2]; exact hnext
end
end Go.V
namespace Go.V
section
variable {P:Program} {ops:Array Oper}
theorem Qej (all:List Oper):∀ (a b:List Nat),pick all (a ++ b) = pick all a ++ pick all b
 | [],_=>rfl
 | i :: r,b=>by
   simp only[JI,pick]
   cases all[i]? with
   | none=>exact Qej all r b
   | some o=>simp only[JI]; rw[Qej all r b]
theorem Qgq (h:all[i]? = some o):∀ {l:List Nat},i ∈ l->o ∈ pick all l
 | [],hm=>by simp at hm
 | a :: r,hm=>by
   simp only[pick]
   rcases Jl.1 hm with rfl | hm
   ·rw[h]; exact List.mem_cons_self
   ·cases all[a]? with
    | none=>exact Qgq h hm
    | some o'=>exact Jf _ (Qgq h hm)
theorem Qco{i:Nat}(h:ops[i]?=some o):ops.toList[i]?=some o:=by simpa using h
theorem QqN(h:∀ x∈o.operands.toList,ev' x=ev x):Qci ev' o=Qci ev o:=by
 cases o<;>first | rfl | (simp only[Qci]; rw[h _ (by simp[Op.operands])])
theorem Qi5(h:∀ x∈o.operands.toList,ev' x=ev x):Qwf P ev' o=Qwf P ev o:=by
 unfold Qwf; rw[QbH h]
theorem Pend.move(h:Pend P ops S f)(ho:ops[f]?=some o)(hd:o.dst=some t)(hfl:Qfp o=true)(hl:∀ u∈o.looksAt ops,look S2.tm u=look S.tm u)(ht:look S2.tm t=look S.tm t)(hn:S2.nt=S.nt)(hh:∀ G,QK ops.toList S o=some G->∀ k∈(Qci (fun x=>Qs G (S.ev x)) o.op).1,S2.hp[k]?=S.hp[k]?):Pend P ops S2 f:=by
 obtain⟨o1,t1,e1,e2,e3,G,e4,e5⟩:=h
 rw[ho] at e1; cases e1
 rw[hd] at e2; cases e2
 refine⟨o,t,ho,hd,by rw[hn]; exact e3,G,by rw[Qbv hl]; exact e4,?_⟩
 rcases e5 with⟨d,h1,h2⟩ | ⟨h1,h2⟩
 ·refine .inl ⟨d,?_,by rw [ht]; exact h2⟩
  rw[QbH (ev:=fun x=>Qs G (S.ev x)) (fun x hx=>by show Qs G _=Qs G _; rw[Qik hl x hx])]
  obtain⟨k1,_,k3⟩:=Qfu hfl (fun x=>Qs G (S.ev x))
  rcases Qc5 (hp':=S2.hp) k1 (hh G e4) h1 with⟨_,_,r⟩ | ⟨r,_⟩
  ·exact r
  ·rw[k3] at r; cases r
 ·exact .inr ⟨h1,by rw[ht]; exact h2⟩
theorem Qhs:∀ {l:List Nat} {S:St},(∀ f ∈ l,∃ o t,ops[f]? = some o/\Qfp o = true/\o.dst = some t/\¬ t ∈ o.looksAt ops)->(l.Pairwise fun f g=>∀ t,dstOf ops g = some t->Qk8 ops f t = false)->Qar P ops.toList (pick ops.toList l) K S ->
 ∃ S2,K S2/\S2.hp=S.hp/\S2.nt=S.nt/\S2.base=S.base/\(∀ t,(∀ f∈l,dstOf ops f≠some t)->look S2.tm t=look S.tm t)/\∀ f∈l,Pend P ops S2 f
 | [],S,_,_,h=>⟨S,h,rfl,rfl,rfl,fun _ _=>rfl,by simp⟩
 | f :: l, S,hf,hp,h=>by
   obtain⟨o,t,ho,hfl,hd,hown⟩:=hf f (by simp)
   have hdo:dstOf ops f=some t:=by simp[dstOf,ho,hd]
   rw[J1] at hp
   simp only[pick,Qco ho] at h
   unfold Qar at h
   obtain⟨hfit,h⟩:=h
   have htn:t<S.nt:=by rw[hd] at hfit; simpa [St.fits] using hfit
   -- QW the first
   have go : ∀ d,Pend P ops (S.put (some t) d) f->Qar P ops.toList (pick ops.toList l) K (S.put (some t) d)->∃ S2,K S2/\S2.hp = S.hp/\S2.nt = S.nt/\S2.base = S.base/\(∀ t,(∀ f' ∈ f :: l,dstOf ops f' ≠ some t)->look S2.tm t = look S.tm t)/\∀ f' ∈ f :: l,Pend P ops S2 f':=by
    intro d hpend hr
    obtain⟨S2,k1,k2,k3,k4,k5,k6⟩:=Qhs (fun g hg=>hf g (Jf _ hg)) hp.2 hr
    refine⟨S2,k1,k2,k3,k4,fun u hu=>?_,fun g hg=>?_⟩
    ·rw[k5 u (fun g hg=>hu g (Jf _ hg)),Qaz,if_neg (fun e=>hu f (by simp) (by rw[hdo]; exact e))]
    ·rcases Jl.1 hg with rfl | hg
     ·have keep:∀ u,Qk8 ops g u = true->look S2.tm u = look (S.put (some t) d).tm u:=fun u hu=>k5 u fun g' hg' e=>by
       have:=hp.1 g' hg' u e
       rw[hu] at this; cases this
      exact hpend.move ho hd hfl (fun u hu=>keep u (Qad ho hu)) (keep t (QaT hdo)) k3 (fun _ _ k _=>by rw[k2])
     ·exact k6 g hg
   have hl:∀ d,∀ u∈o.looksAt ops,look (S.put (some t) d).tm u=look S.tm u:=fun d u hu=>by rw[Qaz,if_neg (fun e=>hown (by cases e; exact hu))]
   split at h
   ·exact h.elim
   ·rename_i hG
    rw[hd] at h
    exact go _ ⟨o,t,ho,hd,htn,false,by rw[Qbv (hl _)]; exact hG,.inr ⟨rfl,by rw[Qaz,if_pos rfl]⟩⟩ h
   ·rename_i hG
    obtain⟨c1,c2,c3⟩:=Qfu hfl (fun x=>Qs true (S.ev x))
    rw[c2] at h
    simp only at h
    split at h
    ·rename_i d hp' hv
     have hhp:hp'=S.hp:=by
      rcases Qc5 (hp':=S.hp) c1 (fun _ _=>rfl) hv with⟨_,r,_⟩ | ⟨r,_⟩
      ·exact r
      ·rw[c3] at r; cases r
     subst hhp
     have hS:(S.at S.hp).put o.dst (Qde o.guard true d)=S.put (some t) (Qde o.guard true d):=by rw[hd]; rfl
     rw[hS] at h
     refine go _ ⟨o,t,ho,hd,htn,true,by rw[Qbv (hl _)]; exact hG,.inl ⟨d,?_,by rw[Qaz,if_pos rfl]⟩⟩ h
     rw[QbH (ev:=fun x=>Qs true (S.ev x)) (fun x hx=>by show Qs true _=Qs true _; rw[Qik (hl _) x hx])]
     exact hv
    ·exact h.elim
theorem QmH:∀ {l:List Nat} {rb:Nat->Option Nat} {β:Map} {S:St},CInv O (QnS ops fl (l ++ cs) L) rb β S a w->(∀ j ∈ l ++ cs,L.getD j false = true->Rv P ops rb β S a w j) ->
 (∀ j b,rb j=some b->j∈l++cs/\L.getD j false=true)->(∀ j∈l,L.getD j false=true)->(∀ j∈l++cs,∃ o t,ops[j]?=some o/\QeQ o=true/\o.dst=some t/\∀ i∈l++cs,i≠j->Qk8 ops i t=false) ->
 (l++cs).Nodup->Qar P ops.toList (pick ops.toList l++rest) K S ->
 ∃ rb' β' S',Qar P ops.toList rest K S'/\CInv O (QnS ops fl cs L) rb' β' S' a w/\(∀ j∈cs,L.getD j false=true->Rv P ops rb' β' S' a w j)/\(∀ j b,rb' j=some b->j∈cs/\L.getD j false=true)/\S'.nt=S.nt/\(∀ t,(∀ j∈l,dstOf ops j≠some t)->look S'.tm t=look S.tm t)
 | [],rb,β,S,core,rv,rbo,_,_,_,h=>⟨rb,β,S,h,core,rv,rbo,rfl,fun _ _=>rfl⟩
 | j :: l,rb,β,S,core,rv,rbo,hl,hcd,hnd,h=>by
   obtain⟨o,t,ho,hcr,hd,huse⟩:=hcd j (by simp)
   have hdo:dstOf ops j=some t:=by simp[dstOf,ho,hd]
   rw[JI,JP] at hnd
   obtain⟨o1,t1,d,B,b,e1,e2,e3,e4,e5⟩:=rv j (by simp) (hl j (by simp))
   rw[ho] at e1; cases e1
   rw[hd] at e2; cases e2
   simp only[pick,Qco ho,JI] at h
   unfold Qar at h
   obtain⟨hfit,h⟩:=h
   obtain⟨hcall,hgn⟩:=Qmv hcr (fun x=>Qs true (S.ev x))
   have hG:QK ops.toList S o=some true:=by simp[QK,hgn]
   rw[hG] at h
   simp only at h
   rw[hcall,QqY hcr e4 S.hp] at h
   simp only[hd,hgn,Qde] at h
   have hne:∀ i∈l++cs,i≠j:=fun i hi e=>hnd.1 (e▸hi)
   have hcore:=core.adopt (t:=t) e3 e5
   obtain⟨a1,a2,a3,a4,a5⟩:=V.adopt core.heap e5
   have hlook:∀ i∈l++cs,∀ oi,ops[i]?=some oi->∀ u∈oi.looksAt ops,look ((S.at (S.hp++[B])).put (some t) (d.ren fun _=>S.hp.length)).tm u=look S.tm u:=fun i hi oi hoi u hu=>by
    rw[Qaz,if_neg (fun e=>by
     cases e
     have:=huse i (Jf _ hi) (hne i hi)
     rw[Qad hoi hu] at this; cases this)]
    rfl
   obtain⟨rb',β',S',k1,k2,k3,k4,k5,k6⟩:=QmH (l:=l) (cs:=cs) (rest:=rest) (K:=K)
    (hcore.hide fun u hu=>by
     rcases hu with⟨hu | ⟨i,hi,hLi,hid⟩,hut⟩
     ·exact .inl hu
     ·refine .inr ⟨i,?_,hLi,hid⟩
      rcases Jl.1 hi with rfl | hi
      ·rw[hdo] at hid; exact absurd (Jn.inj hid).symm hut
      ·exact hi)
    (fun i hi hLi=>by
     obtain⟨oi,ti,di,Bi,bi,q1,q2,q3,q4,q5⟩:=rv i (Jf _ hi) hLi
     refine⟨oi,ti,di,Bi,bi,q1,q2,by show(if i=j then none else rb i)=some bi; rw[if_neg (hne i hi)]; exact q3,?_,?_⟩
     ·rw [Qi5 (ev:=fun x=>Qs true (S.ev x)) (fun x hx=>by show Qs true _ = Qs true _; rw [Qik (hlook i hi oi q1) x hx])]
      exact q4
     ·obtain ⟨r1,r2,r3,C,r4,r5,r6,r7⟩:=q5
      exact⟨r1,r2,⟨r3,fun e=>hne i hi (core.rinj i j b (e▸q3) e3)⟩,C,r4,r5,fun k x hx=>⟨(r6 k x hx).1,a2 _ _ (r6 k x hx).2⟩,r7⟩)
    (fun i c hc=>by
     have hc:(if i=j then none else rb i)=some c:=hc
     by_cases e:i=j
     ·rw[if_pos e] at hc; cases hc
     ·rw [if_neg e] at hc
      obtain⟨r1,r2⟩:=rbo i c hc
      rcases Jl.1 r1 with rfl | r1
      ·exact absurd rfl e
      ·exact⟨r1,r2⟩)
    (fun i hi=>hl i (Jf _ hi))
    (fun i hi=>by
     obtain⟨oi,ti,q1,q2,q3,q4⟩:=hcd i (Jf _ hi)
     exact⟨oi,ti,q1,q2,q3,fun k hk hki=>q4 k (Jf _ hk) hki⟩)
    hnd.2 h
   refine⟨rb',β',S',k1,k2,k3,k4,k5,fun u hu=>?_⟩
   rw[k6 u (fun i hi=>hu i (Jf _ hi)),Qaz,if_neg (fun e=>hu j (by simp) (by rw[hdo]; exact e))]
   rfl
theorem Qdk (g:Glob ops Fl Sp Cr):∀ {l:List Nat},(∀ f ∈ l,f ∈ Fl)->Qhq ops l = true->l.Nodup->l.Pairwise fun f g=>∀ t,dstOf ops g = some t->Qk8 ops f t = false
 | [],_,_,_=>List.Pairwise.nil
 | f :: r,hm,hi,hn=>by
   simp only[Qhq,Jb] at hi
   rw[JP] at hn
   refine J1.2 ⟨fun x hx t ht=>?_,Qdk g (fun x hx=>hm x (Jf _ hx)) hi.2 hn.2⟩
   obtain⟨o,u,h1,_,h2,_,h3⟩:=g.fl x (hm x (Jf _ hx))
   have:u=t:=by simp only[dstOf,h1] at ht; rw[h2] at ht; exact Jn.inj ht
   subst this
   cases hu:Qk8 ops f u with
   | false=>rfl
   | true =>
     obtain⟨of,_,hof,_⟩:=g.fl f (hm f (by simp))
     have:=h3 f (Ja.1 hof).1 (fun e=>hn.1 (e▸hx)) hu
     have hb:=Je.1 hi.1 x hx
     rw[this] at hb; cases hb
end
end Go.V
namespace Go.V
section
variable {P:Program} {ops:Array Oper} {Fl Sp Cr fl:List Nat}
theorem QiI:∀ {l:List Nat},QgW hp hp1 l->∀ k ∈ l,hp1[k]? = hp[k]?
 | [],_,k,hk=>by simp at hk
 | a :: r,h,k,hk=>by
   rcases Jl.1 hk with rfl | hk
   ·exact h.1
   ·exact QiI h.2 k hk
theorem QmG:∀ {l:List Oper},Qio all S S1 l->∀ o ∈ l,QpA S S1 o (QK all S1 o)
 | [],_,o,ho=>by simp at ho
 | a :: r,h,o,ho=>by
   rcases Jl.1 ho with rfl | ho
   ·exact h.1
   ·exact QmG h.2 o ho
theorem QhD:∀ {l:List Oper},QcR P S l->∀ o ∈ l,S.fits o.dst = true/\QfW P (fun x=>Qs true (S.ev x)) o.op
 | [],_,o,ho=>by simp at ho
 | a :: r,h,o,ho=>by
   rcases Jl.1 ho with rfl | ho
   ·exact h.1
   ·exact QhD h.2 o ho
theorem Qp3 (st:Stat ops Fl Sp Cr fl (s :: r)) (h:MInv P ops O fl (s :: r) rb β S L a w) (ho:ops[s.c]? = some o) (hd:∀ e ∈ o.after,Region.binds .any e = true->L.getD e.on false = true) (hv:vsp P ops.toList (s :: r) K S) (hn:∀ rb' β' S' a' w',MInv P ops O (fl ++ s.H) r rb' β' S' (L.setIfInBounds s.c true) a' w'->vsp P ops.toList r K S'->next a' w'):
 if Region.wanted o (yielded ops a.tmps) then o.wp P a w next Q\/(o.asks P a w/\LetsOut Q) else next (a.put o.dst undef) w:=by
 have hclt:s.c<ops.size:=(Ja.1 ho).1
 have hL:L.getD s.c false=false:=h.sp s.c (by simp)
 have hsegs:=st.ok
 simp only[QbQ,Jb] at hsegs
 have so:=QdD hsegs.1
 have hcd:=Qdc st.ok
 have hcdr:=Qdc hsegs.2
 have hcs:(s::r).flatMap (·.C)=s.C++r.flatMap (·.C):=Jr
 have hHs:(s::r).flatMap (·.H)=s.H++r.flatMap (·.H):=Jr
 have hSpn:((s::r).map (·.c)).Nodup:=by obtain⟨dn,e⟩:=st.hSp; have:=st.g.ns; rw[e] at this; exact(JT.1 this).2.1
 rw[Js,JP] at hSpn
 have hCrn:((s::r).flatMap (·.C)).Nodup:=by obtain⟨dn,e⟩:=st.hCr; have:=st.g.nc; rw[e] at this; exact(JT.1 this).2.1
 have hcSp:s.c∈Sp:=st.sp_sub s.c (by simp)
 have hcFl:¬ s.c∈Fl:=fun hf=>(st.g.fs _ hf).1 hcSp
 have hcCr:¬ s.c∈Cr:=st.g.sc _ hcSp
 have crSp:∀ j∈(s::r).flatMap (·.C),¬ j∈(s::r).map (·.c):=fun j hj hs=>st.g.sc j (st.sp_sub j hs) (st.cr_sub j hj)
 have flSp:∀ f∈Fl,¬ f∈(s::r).map (·.c):=fun f hf hs=>(st.g.fs f hf).1 (st.sp_sub f hs)
 have hHFl:∀ f∈s.H,f∈Fl:=fun f hf=>by rw[st.hFl,hHs]; exact Jh _ (Jj _ hf)
 unfold vsp at hv
 obtain⟨_,hv⟩:=hv
 rw[Qej] at hv
 have hpc:pick ops.toList [s.c]=[o]:=by simp only[pick,Qco ho]
 rw[hpc] at hv
 have hCL:∀ j∈s.C,L.getD j false=true:=fun j hj=>Qdw ho hd (so.cc j hj)
 have hcore:=h.core
 rw[hcs] at hcore
 obtain ⟨rb',β',S',k1,k2,k3,k4,k5,k6⟩:=QmH (l:=s.C) (cs:=r.flatMap (·.C)) hcore (by rw [<- hcs]; exact h.rv) (by rw [<- hcs]; exact h.rbo) hCL
  (by
   rw[<- hcs]
   intro j hj
   obtain⟨oj,tj,q1,q2,q3,q4⟩:=hcd j hj
   refine⟨oj,tj,q1,q2,q3,fun i hi hne=>?_⟩
   cases hu:Qk8 ops i tj with
   | false=>rfl
   | true =>
     obtain⟨oi,_,p1,_⟩:=hcd i hi
     exact absurd (q4 i (Ja.1 p1).1 hne hu) (crSp i hi))
  (by rw[<- hcs]; exact hCrn) hv
 -- the operation itself
 have hseen:∀ u∈o.looksAt ops,¬ QnS ops fl (r.flatMap (·.C)) L u:=fun u hu=>
  seen st.g st.fl_sub hcdr ho hd (Qad ho hu) hSpn.1 hL (fun hf=>absurd (st.fl_sub _ hf) hcFl)
 have hs:=k2.only hseen
 have hrun:=QrG (S':=S'.only (o.looksAt ops)) (fun t ht=>QeJ S' _ t ht) rfl rfl k1
 refine QmU hs hrun (fun β2 d v hp2 w2 e1 e2 e3 hfit hK=>?_)
 obtain⟨d',hp',heq,hag,hrunH⟩:=hK
 have hfit':S'.fits o.dst=true:=hfit
 have hhp:hp'=hp2:=by
  have:=congrArg St.hp heq
  rw[St.put_hp,St.put_hp] at this
  exact this.symm
 subst hhp
 have hS1:(S'.at hp').put o.dst d' = (S'.at hp').put o.dst d:=by
  cases hdd:o.dst with
  | none=>rfl
  | some t =>
    rw[hdd] at heq
    have:=congrArg St.tm heq
    simp only[St.put,List.cons.injEq,Prod.mk.injEq] at this
    rw[this.1.2]
 rw[hS1] at hag hrunH
 have step:=k2.step e1 e2 e3 hfit'
 generalize hS1e:(S'.at hp').put o.dst d=S1 at hag hrunH step
 have l1:∀ t,o.dst≠some t->look S1.tm t=look S'.tm t:=fun t ht=>by rw[<- hS1e,Qaz,if_neg ht]; rfl
 have n1:S1.nt=S'.nt:=by rw[<- hS1e,St.put_nt]; rfl
 have h1hp:S1.hp=hp':=by rw[<- hS1e,St.put_hp]; rfl
 have hpairAll:=Qdk st.g (fun f hf=>hf) st.g.fo st.g.nf
 rw[st.hFl,hHs,<- JU,JK] at hpairAll
 obtain⟨hpair1,_,_⟩:=hpairAll
 rw[JK] at hpair1
 obtain⟨_,hpairH,hpairX⟩:=hpair1
 obtain⟨S2,m1,m2,m3,m4,m5,m6⟩:=Qhs (fun f hf=>by obtain⟨of,tf,q1,q2,q3,q4,_⟩:=st.g.fl f (hHFl f hf); exact⟨of,tf,q1,q2,q3,q4⟩) hpairH hrunH
 refine hn rb' β2 S2 _ _ ?_ m1
 have hsz:s.c<L.size:=by rw[h.lsz]; exact hclt
 have hself:=QjI hsz
 have hoth:∀ i,i≠s.c->(L.setIfInBounds s.c true).getD i false=L.getD i false:=fun i hi=>getD_set_ne false (Ne.symm hi)
 have hmono:∀ i,L.getD i false=true->(L.setIfInBounds s.c true).getD i false=true:=fun i hi=>getD_set_true hi
 have hHL:∀ f∈s.H,L.getD f false=false:=fun f hf=>h.flo f (by rw[hHs]; exact Jj _ hf)
 have hcdo:∀ t,o.dst=some t->dstOf ops s.c=some t:=fun t ht=>by simp[dstOf,ho,ht]
 -- slots of others that this operation does not write
 have keepF:∀ f∈fl,L.getD f false=false->∀ of,ops[f]?=some of->∀ u∈of.looksAt ops,look S2.tm u=look S.tm u/\look S1.tm u=look S.tm u:=by
  intro f hf hLf of hof u hu
  have a1:o.dst≠some u:=fun e=>by
   rcases st.g.sp s.c hcSp u (hcdo u e) f (st.fl_sub f hf) (Qo5 hof hu) with hb | hb
   ·have:=Qdw ho hd hb; rw[hLf] at this; cases this
   ·rw[(so.fc f hf).1] at hb; cases hb
  have a2:∀ j∈s.C,dstOf ops j≠some u:=fun j hj e=>by
   obtain⟨oj,tj,q1,q2,q3,q4⟩:=so.cd j hj
   have:tj=u:=by simp only[dstOf,q1] at e; rw[q3] at e; exact Jn.inj e
   subst this
   exact flSp f (st.fl_sub f hf) (q4 f (Ja.1 hof).1 (fun e=>(st.g.fs f (st.fl_sub f hf)).2 (e▸st.cr_sub j (by rw[hcs]; exact Jj _ hj))) (Qad hof hu))
  have a3:∀ g∈s.H,dstOf ops g≠some u:=fun g hg e=>by
   have:=hpairX f hf g hg u e
   rw[Qad hof hu] at this; cases this
  exact⟨(m5 u a3).trans ((l1 u a1).trans (k6 u a2)),(l1 u a1).trans (k6 u a2)⟩
 have keepD:∀ f∈fl,L.getD f false=false->∀ t,dstOf ops f=some t->f<ops.size->look S2.tm t=look S.tm t:=by
  intro f hf hLf t ht hflt
  have a1:o.dst≠some t:=fun e=>by
   obtain⟨of,tf,q1,_,q2,_,q3⟩:=st.g.fl f (st.fl_sub f hf)
   have:tf=t:=by simp only[dstOf,q1] at ht; rw[q2] at ht; exact Jn.inj ht
   subst this
   have:=Qdw ho hd (q3 s.c hclt (fun e=>hcFl (e▸st.fl_sub f hf)) (QaT (hcdo tf e)))
   rw[hLf] at this; cases this
  have a2:∀ j∈s.C,dstOf ops j≠some t:=fun j hj e=>by
   obtain⟨oj,tj,q1,q2,q3,q4⟩:=so.cd j hj
   have:tj=t:=by simp only[dstOf,q1] at e; rw[q3] at e; exact Jn.inj e
   subst this
   exact flSp f (st.fl_sub f hf) (q4 f hflt (fun e=>(st.g.fs f (st.fl_sub f hf)).2 (e▸st.cr_sub j (by rw[hcs]; exact Jj _ hj))) (QaT ht))
  have a3:∀ g∈s.H,dstOf ops g≠some t:=fun g hg e=>by
   have:=hpairX f hf g hg t e
   rw[QaT ht] at this; cases this
  exact(m5 t a3).trans ((l1 t a1).trans (k6 t a2))
 have keepC:∀ j∈r.flatMap (·.C),L.getD j false=true->∀ oj,ops[j]?=some oj->∀ u∈oj.looksAt ops,look S2.tm u=look S'.tm u:=by
  intro j hj hLj oj hoj u hu
  have hjc:j∈(s::r).flatMap (·.C):=by rw[hcs]; exact Jh _ hj
  have hdj:=h.clo j oj hoj hLj
  have a1:o.dst≠some u:=fun e=>by
   have:=Qdw hoj hdj (st.g.cr j (st.cr_sub j hjc) s.c u hclt (hcdo u e) (fun e=>hcCr (e▸st.cr_sub j hjc)) (Qo5 hoj hu))
   rw[hL] at this; cases this
  have a3:∀ g∈s.H,dstOf ops g≠some u:=fun g hg e=>by
   obtain⟨og,tg,q1,_,q2,_,q3⟩:=st.g.fl g (hHFl g hg)
   have:tg=u:=by simp only[dstOf,q1] at e; rw[q2] at e; exact Jn.inj e
   subst this
   have:=Qdw hoj hdj (q3 j (Ja.1 hoj).1 (fun e=>(st.g.fs g (hHFl g hg)).2 (e▸st.cr_sub j hjc)) (Qad hoj hu))
   rw[hHL g hg] at this; cases this
  exact(m5 u a3).trans (l1 u a1)
 have hfitu:∀ u,o.dst=some u->u<a.tmps.size:=fun u hu=>by rw[k2.size]; rw[hu] at hfit'; simpa [St.fits] using hfit'
 refine⟨by simp[h.lsz],?_,fun i hi=>?_,fun c hc=>?_,fun g hg=>?_,fun i oi hi hLi e he hb=>?_,fun j hj hLj=>?_,fun j b hb=>?_,fun f hf hLf=>?_⟩
 ·refine ⟨step.defers,by rw [m3]; exact step.size,fun t ht=>?_,by rw [m2]; exact step.heap,by rw [m2]; exact step.evo,by rw [m4]; exact step.base,step.sub,step.rinj,step.rnew⟩
  have a3:∀ g∈s.H,dstOf ops g≠some t:=fun g hg e=>ht (.inl ⟨g,Jh _ hg,by rw[hoth g (fun e=>hcFl (e▸hHFl g hg))]; exact hHL g hg,e⟩)
  rw[m5 t a3,m2]
  refine step.tm t fun⟨hid,_⟩=>ht ?_
  rcases hid with⟨f,hf,hLf,hfd⟩ | ⟨j,hj,hLj,hjd⟩
  ·exact .inl ⟨f,Jj _ hf,by rw[hoth f (fun e=>hcFl (e▸st.fl_sub f hf))]; exact hLf,hfd⟩
  ·exact .inr ⟨j,hj,hmono j hLj,hjd⟩
 ·rcases h.cov i hi with hc | hc | hc | hc
  ·exact .inl (hmono i hc)
  ·rw[hHs,<- JU] at hc; exact .inr (.inl hc)
  ·rw [Js,Jl] at hc
   rcases hc with rfl | hc
   ·exact .inl hself
   ·exact .inr (.inr (.inl hc))
  ·rw [hcs,JB] at hc
   rcases hc with hc | hc
   ·exact .inl (hmono i (hCL i hc))
   ·exact .inr (.inr (.inr hc))
 ·rw[hoth c (fun e=>hSpn.1 (e▸hc))]; exact h.sp c (by rw[Js]; exact Jf _ hc)
 ·rw [hoth g (fun e=>hcFl (by rw [<- e,st.hFl,hHs]; exact Jh _ (Jh _ hg)))]
  exact h.flo g (by rw[hHs]; exact Jh _ hg)
 ·by_cases e':i = s.c
  ·subst e'; rw[ho] at hi; cases hi; exact hmono _ (hd e he hb)
  ·rw[hoth i e'] at hLi; exact hmono _ (h.clo i oi hi hLi e he hb)
 ·have hjc:j ∈ (s :: r).flatMap (·.C):=by rw [hcs]; exact Jh _ hj
  have hjne:j≠s.c:=fun e=>hcCr (e▸st.cr_sub j hjc)
  rw[hoth j hjne] at hLj
  obtain⟨oj,tj,dj,B,b,q1,q2,q3,q4,q5⟩:=k3 j hj hLj
  refine⟨oj,tj,dj,B,b,q1,q2,q3,?_,?_⟩
  ·rw [Qi5 (ev:=fun x=>Qs true (S'.ev x)) (fun x hx=>by show Qs true _ = Qs true _; rw [Qik (keepC j hj hLj oj q1) x hx])]
   exact q4
  ·have hne:¬ (o.dst = some tj):=fun e=>by
    obtain⟨oj',tj',r1,_,r2,r3⟩:=hcdr j hj
    rw[q1] at r1; cases r1
    rw[q2] at r2; cases r2
    exact hSpn.1 (r3 s.c hclt hjne.symm (QaT (hcdo tj e)))
   rw[QbC hfitu,if_neg hne,m2,h1hp]
   exact q5.evo k2.heap e1
 ·obtain ⟨r1,r2⟩:=k4 j b hb
  exact⟨r1,hmono j r2⟩
 ·rcases JB.1 hf with hf | hf
  ·have hfne:f ≠ s.c:=fun e=>hcFl (e ▸ st.fl_sub f hf)
   rw[hoth f hfne] at hLf
   obtain⟨of,tf,q1,q2,q3,_,_⟩:=st.g.fl f (st.fl_sub f hf)
   have hflt:f<ops.size:=(Ja.1 q1).1
   refine(h.pend f hf hLf).move q1 q3 q2 (fun u hu=>(keepF f hf hLf of q1 u hu).1) (keepD f hf hLf tf (by simp[dstOf,q1,q3]) hflt) (m3.trans (n1.trans k5)) (fun G hG k hk=>?_)
   have hF:f∈s.F:=by
    rcases so.ff f hf with hF | hb
    ·exact hF
    ·have:=Qdw ho hd hb; rw[hLf] at this; cases this
   have hag1:=QmG hag of (Qgq (Qco q1) hF)
   have hg1:QK ops.toList S1 of=some G:=by rw[Qbv (S:=S) (fun u hu=>(keepF f hf hLf of q1 u hu).2)]; exact hG
   rw[hg1] at hag1
   have hft:Qci (fun x=>Qs G (S1.ev x)) of.op=Qci (fun x=>Qs G (S.ev x)) of.op:=QqN fun x hx=>by rw[Qik (S:=S) (fun u hu=>(keepF f hf hLf of q1 u hu).2) x hx]
   have:=QiI hag1 k (by rw[hft]; exact hk)
   rw[m2]; exact this
  ·exact m6 f hf
theorem QmS (hK:∀ β S a w,Sim O β S a w->K S->Q .normal a w):∀ (fuel:Nat) (L:Array Bool) (a:Act) (w:World) (fl:List Nat) (rs:List Seg) (rb:Nat->Option Nat) (β:Map) (S:St),
 (Jk ops.size).countP (fun i=>!L.getD i false)<=fuel->Stat ops Fl Sp Cr fl rs->MInv P ops O fl rs rb β S L a w->vsp P ops.toList rs K S->wpAny P .any ops Q fuel L a w:=by
 have done : ∀ (L:Array Bool) (a:Act) (w:World) (fl:List Nat) (rs:List Seg) (rb:Nat->Option Nat) (β:Map) (S:St),Region.ready .any ops L = []->Stat ops Fl Sp Cr fl rs->MInv P ops O fl rs rb β S L a w->vsp P ops.toList rs K S->Q .normal a w:=by
  intro L a w fl rs rb β S hready st h hv
  have all:∀ i,i < ops.size->L.getD i false = true:=by
   intro i
   induction i using JM with
   | _ i ih =>
     intro hlt
     cases hl:L.getD i false with
     | true=>rfl
     | false =>
       have ho:ops[i]?=some ops[i]:=JR hlt
       have hmem:i∈Region.ready .any ops L:=by
        rw[mem_ready]
        have hsz:i<L.size:=by rw[h.lsz]; exact hlt
        refine⟨by simpa [hsz] using hl,ops[i],ho,fun e he hb=>?_⟩
        have hlt':=st.g.back i _ ho e he hb
        exact ih e.on hlt' (J6 hlt' hlt)
       rw[hready] at hmem
       cases hmem
  cases rs with
  | cons s r =>
    have h1:=h.sp s.c (by simp)
    have hs:=st.ok
    simp only[QbQ,Jb] at hs
    have h2:=all s.c (QdD hs.1).lt
    rw[h1] at h2; cases h2
  | nil =>
    have hrb:∀ j b,rb j≠some b:=fun j b hb=>by have:=(h.rbo j b hb).1; simp at this
    have hβ:β=⟨β.f,O.β.X⟩:=by
     obtain⟨f,X⟩:=β
     have:X=O.β.X:=by
      funext b
      exact propext ((h.core.sub b).trans ⟨fun x=>x.elim id (fun⟨j,hj⟩=>absurd hj (hrb j b)),.inl⟩)
     rw[this]
    refine hK β S a w ⟨h.core.defers,h.core.size,fun t=>h.core.tm t ?_,h.core.heap,by have:=h.core.evo; rw[<- hβ] at this; exact this,h.core.base⟩ hv
    rintro(⟨f,hf,hL,hd⟩ | ⟨j,hj,_⟩)
    ·obtain ⟨of,_,q1,_⟩:=st.g.fl f (st.fl_sub f hf)
     have:=all f (Ja.1 q1).1
     rw[hL] at this; cases this
    ·simp at hj
 intro fuel
 induction fuel with
 | zero =>
   intro L a w fl rs rb β S hc st h hv
   have hready:Region.ready .any ops L=[]:=by
    apply JH.2
    intro j hj
    obtain⟨h0,o,ho,_⟩:=mem_ready.1 hj
    have hlt:j<ops.size:=(Ja.1 ho).1
    have:0<(Jk ops.size).countP (fun i=>!L.getD i false):=by
     rw[JZ]
     refine⟨j,Jm.2 hlt,?_⟩
     have hsz:j<L.size:=by rw[h.lsz]; exact hlt
     simp[hsz] at h0 |-
     exact h0
    omega
   exact⟨hready,done L a w fl rs rb β S hready st h hv⟩
 | succ fuel ih =>
   intro L a w fl rs rb β S hc st h hv
   refine⟨fun hready=>done L a w fl rs rb β S hready st h hv,fun j hj=>?_⟩
   obtain⟨h0,o,ho,hd⟩:=mem_ready.1 hj
   have hlt:j<ops.size:=(Ja.1 ho).1
   have hsz:j<L.size:=by rw[h.lsz]; exact hlt
   have hL:L.getD j false=false:=by simp[hsz] at h0 |-; exact h0
   have hcnt:(Jk ops.size).countP (fun i=>!(L.setIfInBounds j true).getD i false)<=fuel:=by
    have:(Jk ops.size).countP (fun i=>!(L.setIfInBounds j true).getD i false)<(Jk ops.size).countP (fun i=>!L.getD i false):=by
     refine Qe4 (Jm.2 hlt) (by rw[hL]; rfl) (by simp[hsz]) (fun i hp=>?_)
     by_cases hij:i=j
     ·rw[hij,hL]; rfl
     ·rw[getD_set_ne false (Ne.symm hij)] at hp; exact hp
    omega
   unfold wpOp
   rw[ho]
   simp only
   have dep:∀ i,bnd ops j i=true->L.getD i false=true:=fun i hb=>Qdw ho hd hb
   rcases h.cov j hlt with hx | hx | hx | hx
   ·rw[hL] at hx; cases hx
   ·rcases JB.1 hx with hf | hf
    ·exact QqQ st h hf ho hL hd fun β' a' w' h'=>ih _ a' w' fl rs rb β' S hcnt st h' hv
    ·exfalso
     rcases Qls st.ok j hf with⟨c,h1,h2⟩ | ⟨g,h1,h2⟩
     ·have:=dep c h2; rw[h.sp c h1] at this; cases this
     ·have:=dep g h2; rw[h.flo g h1] at this; cases this
   ·cases rs with
    | nil=>simp at hx
    | cons s r =>
      rw[Js,Jl] at hx
      rcases hx with rfl | hx
      ·have st':Stat ops Fl Sp Cr (fl ++ s.H) r:=by
        have hs:=st.ok
        simp only[QbQ,Jb] at hs
        obtain⟨dn,e1⟩:=st.hSp
        obtain⟨dn',e2⟩:=st.hCr
        exact⟨st.g,by rw[st.hFl,Jr,JU],⟨dn++[s.c],by rw[e1]; simp⟩,⟨dn'++s.C,by rw[e2,Jr]; simp⟩,hs.2⟩
       exact Qp3 st h ho hd hv fun rb' β' S' a' w' h' hv'=>ih _ a' w' (fl++s.H) r rb' β' S' hcnt st' h' hv'
      ·exfalso
       obtain⟨c',h1,h2⟩:=Qlt st.ok j hx
       have:=dep c' h2; rw[h.sp c' h1] at this; cases this
   ·cases rs with
    | nil=>simp at hx
    | cons s r =>
      have hs:=st.ok
      simp only[QbQ,Jb] at hs
      rcases(QdD hs.1).rr j hx with hR | ⟨i,hi,hb⟩
      ·have hv2:=hv
       unfold vsp at hv2
       obtain⟨f1,f2⟩:=QhD hv2.1 o (Qgq (Qco ho) hR)
       exact Qvv st h hx ho hL hd f1 f2 fun rb' β' a' w' h'=>ih _ a' w' fl (s::r) rb' β' S hcnt st h' hv
      ·exfalso
       have:=dep i hb
       rcases JB.1 hi with hi | hi
       ·rw[h.sp i hi] at this; cases this
       ·rw[h.flo i hi] at this; cases this
theorem Qiw(H0:List Nat)(segs:List Seg)(hok:QjF ops H0 segs=true)(h:Qar P ops.toList (pick ops.toList H0) (vsp P ops.toList segs (Q .normal)) S)(hs:Sim O β S a w):
 wpAny P .any ops (Ql1 O Q) ops.size (Jo ops.size false) a { w with drawn:=w.drawn+1 }:=by
 simp only[QjF,Jb] at hok
 obtain⟨⟨hg,hsg⟩,_⟩:=hok
 have g:=QuI hg
 have hpair:=Qdk g (fun f hf=>hf) g.fo g.nf
 rw[JK] at hpair
 obtain⟨S2,m1,m2,m3,m4,m5,m6⟩:=Qhs (fun f hf=>by obtain⟨of,tf,q1,q2,q3,q4,_⟩:=g.fl f (Jj _ hf); exact⟨of,tf,q1,q2,q3,q4⟩) hpair.1 h
 have e:Evo w β S.hp w.drew β S.hp:=QbF w β S.hp
 have hfalse:∀ i,(Jo ops.size false).getD i false=false:=fun i=>by
  by_cases hi:i<ops.size<;>simp[hi]
 have st:Stat ops (H0++segs.flatMap (·.H)) (segs.map (·.c)) (segs.flatMap (·.C)) H0 segs:=⟨g,rfl,⟨[],rfl⟩,⟨[],rfl⟩,hsg⟩
 refine QmS (O:=O) (Q:=Ql1 O Q) (fun β S a w hs hk=>⟨β,S,hs,hk⟩) ops.size (Jo ops.size false) a _ H0 segs (fun _=>none) β S2 ?_ st ?_ m1
 ·have:=JX (p:=fun i=>!(Jo ops.size false).getD i false) (l:=Jk ops.size)
  simpa using this
 ·refine ⟨by simp,⟨hs.defers,by rw [m3]; exact hs.size,fun t ht=>?_,by rw [m2]; exact hs.heap.drew,?_,by rw [m4]; exact hs.base,fun b=>?_,fun i j b hi=>(by cases hi),fun j b hj=>(by cases hj)⟩,fun i hi=>?_,fun c _=>hfalse c,fun f _=>hfalse f,fun i o _ hl=>?_,fun j _ hl=>?_,fun j b hb=>(by cases hb),fun f hf _=>m6 f hf⟩
  ·have a3:∀ f ∈ H0,dstOf ops f ≠ some t:=fun f hf e=>ht (.inl ⟨f,hf,hfalse f,e⟩)
   rw[m5 t a3,m2]
   exact(hs.tm t).mono e
  ·rw [m2]
   have ev:=hs.evo.trans e
   have hX:β.X=O.β.X:=ev.X
   have:=ev.reX O.β.X
   exact this
  ·have hX:β.X = O.β.X:=hs.evo.X
   rw[hX]
   exact⟨.inl,fun x=>x.elim (fun h=>h) (fun⟨j,hj⟩=>(by cases hj))⟩
  ·rcases g.all i hi with hx | hx | hx
   ·exact .inr (.inl hx)
   ·exact .inr (.inr (.inl hx))
   ·exact .inr (.inr (.inr hx))
  ·rw[hfalse] at hl; cases hl
  ·rw[hfalse] at hl; cases hl
theorem Qb{id:Nat}(H0:List Nat)(segs:List Seg)(hm:P.follows .mixedOrders=true)(hok:QjF ops H0 segs=true)(h:Qar P ops.toList (pick ops.toList H0) (vsp P ops.toList segs (Q .normal)) S):VDraw P id ops Q S:=
 fun _ _ _ _ hs=>wp_region_any hm (Qiw H0 segs hok h hs)
end
end Go.V
