/-
  Contracts of functions and plain laws. No condition.
-/
import Derived.Test.YtalibkpienbliaaGreatV1
import Derived.Orders
import Derived.Carry
import Derived.Deep.Slices
import Derived.OpenShut
set_option linter.unusedSimpArgs false
set_option linter.unusedVariables false
set_option linter.defProp false
set_option maxRecDepth 100000
set_option maxHeartbeats 8000000
set_option autoImplicit true
set_option relaxedAutoImplicit true
open Array renaming getElem?_eq_some_iff->Ja,replicate->Jo,getD_eq_getD_getElem?->Jv,getElem?_eq_getElem->JQ
open Bool renaming and_eq_true->Jb,not_eq_true'->Ju,or_eq_true->Jx
open List renaming getElem?_eq_some_iff->Jc,getElem?_eq_getElem->Jd,all_eq_true->Je,mem_cons_of_mem->Jf,getElem?_map->Jg,mem_append_right->Jh,getD_eq_getElem?_getD->Ji,mem_append_left->Jj,range->Jk,mem_cons->Jl,mem_range->Jm,getElem?_set_ne->Jq,flatMap_cons->Jr,map_cons->Js,getElem?_eq_none->Jt,getElem?_append_left->Jy,contains_eq_mem->Jz,mem_append->JA,map_congr_left->JB,any_eq_true->JC,getElem?_append_right->JD,getElem?_set_self->JF,eq_nil_iff_forall_not_mem->JG,cons_append->JH,mem_of_getElem?->JI,pairwise_append->JJ,idxOf_lt_length_of_mem->JM,length_map->JN,nodup_cons->JO,getElem?_take->JP,ext_getElem?->JR,nodup_append->JS,append_assoc->JT,length_eq_one_iff->JV,countP_le_length->JW,append_nil->JX,countP_pos_iff->JY,getElem?_range->JZ,pairwise_cons->J0,mem_map->J6,length->J8
open Nat renaming lt_of_lt_of_le->Jp,le_refl->Jw,zero_le->JK,strongRecOn->JL,le_of_not_lt->JU,lt_trichotomy->J1,not_lt_zero->J3,le_total->J4,lt_trans->J5,le_zero->J7
open Option renaming some->Jn,map_some->JE,getD_some->J2
namespace Go.V
def cK(P:Program)(S:St):ResultVar->Option DV
 |.tmp t=>some (look S.tm t)
 |.cell a T=>eD P S.hp T (look S.tm a)
def QQ(P:Program)(S:St)(rs:List ResultVar):Option DV:=
 match Qi (rs.map (cK P S)) with
 |some [d]=>some d
 |some ds=>some (.tup ds)
 |none=>none
def sd(tmps:Array Value):ResultVar->Sem Value
 |.tmp t=>pure (tmps.getD t undef)
 |.cell a t=>do loadVar t (<-asAddr (tmps.getD a undef))
theorem Sw(fn:Func)(tmps:Array Value):results fn tmps=(do
 let vs <-fn.results.mapM (sd tmps)
 pure (if h:vs.size=1 then vs[0] else .tuple vs)):=rfl
def Sx (h:Sim O β S a w) (hr:cK P S r = some d):
 ∃v,(sd a.tmps r).run P w=.ok v w/\RelD w β S.hp d v:=by
 cases r with
 |tmp t =>
   simp[cK] at hr;subst hr;exact⟨_,rfl,h.tm t⟩
 |cell ad T =>
   simp only[cK] at hr;obtain⟨v,h1,h2⟩:=Di (P:=P) h.heap (h.tm ad) hr;refine⟨v,?_,h2⟩;have hrel:=h.tm ad;simp only[sd];generalize a.tmps.getD ad undef=u at hrel h1 |-;generalize look S.tm ad=e at hrel hr;cases hrel with
   |ptr k off b hk hm=>simpa [Instr.loadAt,Instr.sureAddr,asAddr] using h1
   |ip cs ad' val h1' h2' h3'=>simpa [Instr.loadAt,Instr.sureAddr,asAddr] using h1
   |_=>simp[eD] at hr
def wA (h:Sim O β S a w) (hr:QQ P S fn.results.toList = some d):
 ∃v,(results fn a.tmps).run P w=.ok v w/\RelD w β S.hp d v:=by
 have key:∀(rs:List ResultVar) (ds:List DV),Qi (rs.map (cK P S)) = some ds->∃vs:List Value,
  (rs.mapM (sd a.tmps)).run P w=.ok vs w/\RelL w β S.hp ds vs.toArray:=by
  intro rs;induction rs with
  |nil=>intro ds h;simp[Qi] at h;subst h;exact⟨[],vv,by simp[RelL]⟩
  |cons r rs ih =>
    intro ds hds;cases h1:cK P S r with
    |none=>simp[Qi,h1] at hds
    |some d =>
      cases h2:Qi (rs.map (cK P S)) with
      |none=>simp[Qi,h1,h2] at hds
      |some ds' =>
        simp[Qi,h1,h2] at hds;subst hds;obtain⟨vs,e1,e2,e3⟩:=ih ds' h2;obtain⟨v,e4,e5⟩:=Sx (P:=P) h h1;refine⟨v::vs,?_,by simpa using e2,fun i d hi=>?_⟩
        ·rw [List.mapM_cons];simp only[Sem.run_bind,e4,Result.andThen_ok,e1,Sem.run_pure]
        ·cases i with
         |zero=>simp at hi;subst hi;simpa using e5
         |succ i =>
           have:=e3 i d (by simpa using hi);simpa [Jv] using this
 unfold QQ at hr;cases hds:Qi (fn.results.toList.map (cK P S)) with
 |none=>simp[hds] at hr
 |some ds =>
   obtain⟨vs,e1,e2⟩:=key _ _ hds
   have hrun:∀v,(if h:vs.toArray.size=1 then vs.toArray[0] else Value.tuple vs.toArray)=v->(results fn a.tmps).run P w=.ok v w:=by
    intro v hv;rw[Sw,Array.mapM_eq_mapM_toList];simp only[Sem.run_bind,Sem.run_map];rw[e1];simp only[Result.andThen_ok,Sem.run_pure];rw[<-hv]
   rw[hds] at hr;split at hr
   ·rename_i d' he;simp at hr he;subst hr he;have hl:vs.length=1:=by have:=e2.1;simpa using this.symm
    obtain⟨v,rfl⟩:=JV.1 hl;exact⟨v,hrun v vv,by have:=e2.2 0 d' rfl;simpa using this⟩
   ·rename_i ds' hne he;simp at hr he;subst hr he;refine⟨.tuple vs.toArray,hrun _ ?_,.tup _ _ e2.1 e2.2⟩;rw[dif_neg];intro h1;have hl:ds.length=1:=by rw[e2.1];exact h1
    obtain⟨x,hx⟩:=JV.1 hl;exact hne x hx
   ·simp at hr
def fw(n:Nat)(hp:Qb):Option Qb:=
 Qi ((hp.take n).map fun B=>if B.live then (Qi (B.cells.map (aD n hp))).map fun cs=>{ B with cells:=cs } else some { B with cells:=[] })
def gA(n:Nat)(hp:Qb)(d:DV)(R:DV->Qb->Prop):Prop:=
 match frz n hp d,fw n hp with
 |some d',some hp'=>R d' hp'
 |_,_=>False
def eG (P:Program) (rs:List ResultVar) (n:Nat) (R:DV->Qb->Prop) (e:Exit) (S:St):Prop :=
 match e with
 |.normal|.ret=>match QQ P S rs with
   |some d=>gA n S.hp d R
   |none=>False
 |_=>False
def gB (P:Program) (rs:List ResultVar) (R:DV->Qb->Prop) (e:Exit) (S:St):Prop :=
 match e with
 |.normal|.ret=>match QQ P S rs with
   |some d=>R d S.hp
   |none=>False
 |_=>False
def se (hh:HeapRel w β hp) (hn:n<=hp.length) (hd:RelD w β hp d v) (h:gA n hp d R):
 ∃d' hp',R d' hp'/\RelD w β hp' d' v/\HeapRel w β hp'/\hp'.length=n/\∀b,live β hp' b->live β hp b:=by
 unfold gA at h;split at h
 ·rename_i d' hp' h1 h2;unfold fw at h2;obtain⟨g1,g2⟩:=QE h2;have hlen:hp'.length=n:=by rw[g1];simp;omega
  have at_:∀{k:Nat} {B':Blk},hp'[k]? = some B'->∃B,k < n/\hp[k]? = some B/\B'.ty = B.ty/\B'.live = B.live/\(B.live = true->Qi (B.cells.map (aD n hp)) = some B'.cells):=by
   intro k B' hk;have g3:=g2 k B' hk;rw[Jg,JP] at g3;split at g3
   ·rename_i hkn;cases hb:hp[k]? with
    |none=>simp[hb] at g3
    |some B =>
      simp only[hb,JE,Jn.injEq] at g3;refine⟨B,hkn,rfl,?_⟩;split at g3
      ·rename_i hl;cases hc:Qi (B.cells.map (aD n hp)) with
       |none=>simp[hc] at g3
       |some cs=>simp[hc] at g3;subst g3;exact⟨rfl,rfl,fun _=>rfl⟩
      ·rename_i hl;simp at g3;subst g3;exact⟨rfl,rfl,fun h=>absurd h hl⟩
   ·simp at g3
  have hsub:∀b,live β hp' b->live β hp b:=by
   rintro b ⟨k,B',k1,k2,k3⟩;obtain⟨B,_,q1,_,q2,_⟩:=at_ k1;exact⟨k,B,q1,by rw[<-q2];exact k2,k3⟩
  have hlv:Leaves w β hp n (img β hp'):=by
   refine⟨fun b hb=>hb.imp id (hsub b),fun k B b hk h1 h2 h3 hb=>?_⟩;rcases hb with hb|⟨j,D',j1,j2,j3⟩
   ·exact hh.avoid k B b h1 h2 h3 hb
   ·obtain ⟨D,q0,q1,_,q2,_⟩:=at_ j1;have:=hh.inj k j B D b h1 q1 h2 (by rw[<-q2];exact j2) h3 j3;omega
  refine⟨d',hp',h,R2 hh hlv (fun _ _=>rfl) vz hd h1,?_,hlen,hsub⟩;refine⟨fun k B' b hk hl hb=>?_,fun k B' hk hl hb=>?_,fun i j B B' b hi hj h1 h2 h3 h4=>?_,fun k B' b hk hl hb=>?_,hh.bound⟩
  ·obtain ⟨B,_,q1,q2,q3,q4⟩:=at_ hk;have hl':B.live=true:=by rw[<-q3];exact hl
   obtain⟨C,c1,c2,c3⟩:=hh.blk k B b q1 hl' hb;have hcs:=q4 hl';obtain⟨e1,e2⟩:=QE hcs;refine⟨C,by rw[q2];exact c1,by rw[e1];simpa using c2,fun i x hx=>?_⟩;have e3:=e2 i x hx;rw[Jg] at e3;cases hc:B.cells[i]? with
   |none=>simp[hc] at e3
   |some y =>
     simp[hc] at e3;refine⟨?_,oT hh hlv (fun _ _=>rfl) vz (c3 i y hc).2 e3⟩;have hy:=(c3 i y hc).1;unfold aD at e3;split at e3
     ·split at e3
      ·simp at e3;subst e3;rfl
      ·cases hz:bH n hp 4 (.own _ _ _ _) with
       |none=>rw[hz] at e3;simp at e3
       |some p=>rw[hz] at e3;simp at e3;subst e3;rfl
     ·split at e3
      ·simp at e3;subst e3;rfl
      ·simp at e3
     ·simp at e3;subst e3;rfl
     ·simp at e3
     ·simp[DV.one] at hy
     ·simp at e3;subst e3;rfl
     ·simp at e3
  ·obtain ⟨B,_,q1,q2,q3,q4⟩:=at_ hk;have hl':B.live=true:=by rw[<-q3];exact hl
   have:=hh.none k B q1 hl' hb;have hcs:=q4 hl';rw[this] at hcs;simp[Qi] at hcs;exact hcs
  ·obtain ⟨D,_,q1,_,q3,_⟩:=at_ hi;obtain⟨D',_,q1',_,q3',_⟩:=at_ hj;exact hh.inj i j D D' b q1 q1' (by rw[<-q3];exact h1) (by rw[<-q3'];exact h2) h3 h4
  ·obtain ⟨D,_,q1,_,q3,_⟩:=at_ hk;exact hh.avoid k D b q1 (by rw[<-q3];exact hl) hb
 ·exact h.elim
def bj:Nat->List DV->List (Nat×DV)
 |_,[]=>[]
 |i,d::r=>(i,d)::bj (i+1) r
def wC:∀{i t:Nat},look (bj i ds) t = if i<=t then (ds[t - i]?).getD .any else .any:=by
 induction ds with
 |nil=>intro i t;simp[bj,look]
 |cons d r ih =>
   intro i t;simp only[bj,look];split
   ·rename_i h;subst h;simp
   ·rename_i h;rw[ih];by_cases h1:i+1<=t
    ·rw [if_pos h1,if_pos vz];have:t-i=(t-(i+1))+1:=vz;rw[this];simp
    ·rw[if_neg h1,if_neg vz]
def wD (hf:P.funcs[g]? = some fn) (hb:fn.body = some c) (hname:(fn.name == "runtime.NumGoroutine") = false) (hn:args.length<=fn.ntmps) (hp:∀ e S,post e S->(e = .normal\/e = .ret)/\∃ d,QQ P S fn.results.toList = some d/\((h.length<=S.hp.length->gA h.length S.hp d R)\/R d S.hp)) (hc:VWp P c post ⟨fn.ntmps,h.length,bj 0 args,h⟩):VCalls P g args h R:=by
 refine⟨fun w β vs hh ha=>.inl ⟨fn,hf,hname,by rw[hb];rfl,?_⟩⟩;refine calls_of_wp hf hb ?_;have hsz:vs.size=args.length:=ha.1.symm
 have hs:Sim ⟨w,β,h,[]⟩ β ⟨fn.ntmps,h.length,bj 0 args,h⟩ { tmps:=vs ++ Jo (fn.ntmps - vs.size) undef,defers:=[] } w:=by
  refine⟨rfl,vg,fun t=>?_,hh,Evo.refl w β h,rfl⟩;rw[wC,if_pos (JK _),Nat.sub_zero];cases ht:args[t]? with
  |none=>exact .any _
  |some d =>
    have hlt:t<vs.size:=by rw[hsz];exact(Jc.1 ht).1
    have e:(vs++Jo (fn.ntmps-vs.size) undef).getD t undef=vs.getD t undef:=by
     simp only[Jv];rw[Array.getElem?_append_left hlt]
    show RelD w β h d ((vs++Jo (fn.ntmps-vs.size) undef).getD t undef)
    rw[e];exact ha.2 t d ht
 refine wp_mono (hc _ β _ w hs) fun e a' w' hq=>?_;obtain⟨β',S',hs',hq⟩:=hq;obtain⟨he,d,hr,hend⟩:=hp e S' hq;obtain⟨v,r1,r2⟩:=wA hs' hr;have hlen:h.length<=S'.hp.length:=hs'.evo.len
 have fin:∃v' r h' β'',Ending.returned v=.returned v'/\Evo w β h w' β'' h'/\HeapRel w' β'' h'/\RelD w' β'' h' r v'/\R r h':=by
  rcases hend with hend|hend
  ·obtain ⟨d',hp',k1,k2,k3,k4,k5⟩:=se hs'.heap hlen r2 (hend hlen);refine⟨v,d',hp',β',rfl,?_,k3,k2,k1⟩;have ev:=hs'.evo;exact⟨ev.os,ev.tape,ev.output,ev.size,vz,ev.beta,ev.same,ev.shape,fun b hb hl=>ev.im b hb (k5 b hl),ev.X⟩
  ·exact⟨v,d,S'.hp,β',rfl,hs'.evo,hs'.heap,r2,hend⟩
 rcases he with rfl|rfl
 ·exact⟨hs'.defers,v,r1,fin⟩
 ·exact⟨hs'.defers,v,r1,fin⟩
def DU(hf:P.funcs[g]?=some fn)(hb:fn.body=some c)(hname:(fn.name == "runtime.NumGoroutine")=false)(hn:args.length<=fn.ntmps)(hp:∀ e S,post e S->(e=.normal\/e=.ret)/\∃ d,QQ P S fn.results.toList=some d/\((h.length<=S.hp.length->gA h.length S.hp d R)\/R d S.hp))(hc:QH P c post ⟨fn.ntmps,h.length,bj 0 args,h⟩):VCalls P g args h R:=
 wD hf hb hname hn hp (Qx c _ _ hc)
def DW(hf:P.funcs[g]?=some fn)(hb:fn.body=some c)(hname:(fn.name == "runtime.NumGoroutine")=false)(hn:args.length<=fn.ntmps)(hc:QH P c (eG P fn.results.toList h.length R) ⟨fn.ntmps,h.length,bj 0 args,h⟩):VCalls P g args h R:=by
 refine DU hf hb hname hn (fun e S hq=>?_) hc;unfold eG at hq;grind
def lA(hf:P.funcs[g]?=some fn)(hb:fn.body=some c)(hname:(fn.name == "runtime.NumGoroutine")=false)(hn:args.length<=fn.ntmps)(hc:QH P c (gB P fn.results.toList R) ⟨fn.ntmps,h.length,bj 0 args,h⟩):VCalls P g args h R:=by
 refine DU hf hb hname hn (fun e S hq=>?_) hc;unfold gB at hq;grind
def wE(tm:List (Nat×DV)):List (Nat×DV)->Prop
 |[]=>True
 |(t,d)::r=>look tm t=d/\wE tm r
def wF:Qb->Qb->Prop
 |_,[]=>True
 |B::r,B'::r'=>B'=B/\wF r r'
 |[],_::_=>False
def wG(n:Nat):List (Nat×DV)->Prop
 |[]=>True
 |(_,d)::r=>d.refs n=true/\wG n r
def wH(n:Nat):Qb->Prop
 |[]=>True
 |B::r=>(B.live=true->DV.refs.go n B.cells=true)/\wH n r
def Le(S S':St):Prop:=S'.nt=S.nt/\S'.base=S.base/\S'.base<=S'.hp.length/\wE S.tm S'.tm/\wF S.hp S'.hp/\(S'.hp.length=S.hp.length\/(wG S'.hp.length S'.tm/\wH S'.hp.length S'.hp))
def wI:∀{tm':List (Nat × DV)},wE tm tm'->∀t,look tm' t = look tm t\/look tm' t = .any
 |[],_,t=>.inr rfl
 |(a,d) :: r,h,t=>by
   simp only[look];split
   ·rename_i e;subst e;exact .inl h.1.symm
   ·exact wI h.2 t
def DX:∀{hp hp':Qb},wF hp hp'->hp'.length<=hp.length/\∀(k:Nat) (B:Blk),hp'[k]? = some B->hp[k]? = some B
 |hp,[],_=>⟨JK _,vv⟩
 |B :: r,B' :: r',h=>by
   obtain⟨h1,h2⟩:=DX h.2;refine⟨by simpa using h1,fun k D hk=>?_⟩;cases k with
   |zero=>simp at hk |-;rw[<-hk];exact h.1.symm
   |succ k=>simpa using h2 k D (by simpa using hk)
 |[],_::_,h=>h.elim
def DY:∀{tm:List (Nat × DV)},wG n tm->∀t,(look tm t).refs n = true
 |[],_,t=>rfl
 |(a,d) :: r,h,t=>by
   simp only[look];split
   ·exact h.1
   ·exact DY h.2 t
def DZ:∀{hp:Qb},wH n hp->∀(k:Nat) (B:Blk),hp[k]?=some B->B.live=true->DV.refs.go n B.cells=true
 |[],_,k,B,h,_=>by simp at h
 |D::r,h,0,B,hk,hl=>by simp at hk;subst hk;exact h.1 hl
 |D::r,h,k+1,B,hk,hl=>DZ h.2 k B (by simpa using hk) hl
def Sim.le (h:Sim O β S a w) (hle:Le S S'):Sim O β S' a w:=by
 obtain⟨h1,hb1,hb2,h2,h3,h4⟩:=hle;have hO:O.hp.length<=S'.hp.length:=by rw[h.base,<-hb1];exact hb2
 obtain⟨hl,hg⟩:=DX h3;have hsub:∀b,live β S'.hp b->live β S.hp b:=fun b ⟨k,B,k1,k2,k3⟩=>⟨k,B,hg k B k1,k2,k3⟩
 have him:∀b,img β S'.hp b->img β S.hp b:=fun b hb=>hb.imp id (hsub b);rcases h4 with h4|⟨h4,h5⟩
 ·have heq:S'.hp = S.hp:=by
   apply JR
   intro k;by_cases hk:k<S'.hp.length
   ·rw[Jd hk];exact(hg k _ (Jd hk)).symm
   ·rw[Jt vz,Jt vz]
  refine⟨h.defers,by rw[h1];exact h.size,fun t=>?_,by rw[heq];exact h.heap,by rw[heq];exact h.evo,h.base.trans hb1.symm⟩;rw[heq];rcases wI h2 t with e|e
  ·rw[e];exact h.tm t
  ·rw[e];exact .any _
 ·refine ⟨h.defers,by rw [h1];exact h.size,fun t=>?_,?_,?_,h.base.trans hb1.symm⟩
  ·have hr:=DY h4 t;rcases wI h2 t with e|e
   ·rw[e] at hr |-;exact(h.tm t).drop hr him
   ·rw[e];exact .any _
  ·have hh:=h.heap;refine⟨fun k B b k1 k2 k3=>?_,fun k B k1 k2 k3=>hh.none k B (hg k B k1) k2 k3,fun i j B B' b i1 j1 i2 j2=>hh.inj i j B B' b (hg i B i1) (hg j B' j1) i2 j2,fun k B b k1=>hh.avoid k B b (hg k B k1),hh.bound⟩;obtain⟨C,c1,c2,c3⟩:=hh.blk k B b (hg k B k1) k2 k3;exact⟨C,c1,c2,fun i d hd=>⟨(c3 i d hd).1,(c3 i d hd).2.drop (DV.refs_go (DZ h5 k B k1 k2) i d hd) him⟩⟩
  ·have ev:=h.evo;exact⟨ev.os,ev.tape,ev.output,ev.size,hO,ev.beta,ev.same,ev.shape,fun b hb hl=>ev.im b hb (hsub b hl),ev.X⟩
def VWp.le(h:VWp P c Q S')(hle:Le S S'):VWp P c Q S:=fun O β a w hs=>h O β a w (hs.le hle)
def VWp.mono(h:VWp P c Q S)(hq:∀e S,Q e S->Q' e S):VWp P c Q' S:=
 fun O β a w hs=>wp_mono (h O β a w hs) fun e _ _ ⟨β',S',k,q⟩=>⟨β',S',k,hq e S' q⟩
def nk {c:Code} {Q:Exit->St->Prop} {ι:Type} (I:ι->St) (μ:ι->Nat) (i₀:ι) (h₀:Le S (I i₀)) (round:∀i,QH P c (fe Q fun S'=>∃j,μ j < μ i/\Le S' (I j)) (I i)):VLoop P c Q S:=by
 intro O β a w hs b k cs
 have key:∀n β i a w,μ i = n->Sim O β (I i) a w ->
  ∃e a' w',du O Q e a' w'/\Arrives P (lone (b.at a (.code c::.inLoop c::k)) cs w) b k cs e a' w':=by
  intro n;induction n using JL with
  |_ n ih =>
    intro β i a w hn hs;obtain⟨e,a₁,w₁,hq,harr⟩:=Qx c _ _ (round i) O β a w hs b (.inLoop c::k) cs;obtain⟨β₁,S₁,hs₁,hq⟩:=hq;cases e with
    |normal =>
      obtain⟨j,hlt,hle⟩:=hq;obtain⟨e₂,a₂,w₂,hq₂,harr₂⟩:=ih (μ j) (hn▸hlt) β₁ j a₁ w₁ rfl (hs₁.le hle);exact⟨e₂,a₂,w₂,hq₂,.of_steps (Steps.trans harr (.one step_inLoop)) harr₂⟩
    |exit id=>exact⟨_,a₁,w₁,⟨β₁,S₁,hs₁,hq⟩,.pass (x:=.inLoop c) rfl (fun _ _=>.inl vv) harr⟩
    |goto l=>exact⟨_,a₁,w₁,⟨β₁,S₁,hs₁,hq⟩,.pass (x:=.inLoop c) rfl (fun _ _=>.inl vv) harr⟩
    |ret=>exact⟨_,a₁,w₁,⟨β₁,S₁,hs₁,hq⟩,.pass (x:=.inLoop c) rfl (fun _ _=>.inl vv) harr⟩
    |panic ch=>exact⟨_,a₁,w₁,⟨β₁,S₁,hs₁,hq⟩,.pass (x:=.inLoop c) rfl (fun _ _=>.inl vv) harr⟩
    |outgrown=>exact⟨_,a₁,w₁,⟨β₁,S₁,hs₁,hq⟩,.pass (x:=.inLoop c) rfl (fun _ _=>.inl vv) harr⟩
 obtain⟨e,a',w',hq,harr⟩:=key _ β i₀ a w rfl (hs.le h₀);exact⟨e,a',w',hq,.of_steps (.one step_loop) harr⟩
def DV.ren(σ:Nat->Nat):DV->DV
 |.ptr k off=>.ptr (σ k) off
 |.own k sz off len=>.own (σ k) sz off len
 |.ownc k sz off len cap=>.ownc (σ k) sz off len cap
 |.pv p=>.pv p
 |.ip cs=>.ip cs
 |.any=>.any
 |.agg cs=>.agg (go σ cs)
 |.tup cs=>.tup (go σ cs)
 |.fn f a b=>.fn f (go σ a) (go σ b)
 |.opt c d=>.opt c (d.ren σ)
where
 go (σ:Nat->Nat):List DV->List DV
  |[]=>[]
  |d::r=>d.ren σ::go σ r
def DV.nums(p:Nat->Bool):DV->Bool
 |.ptr k _|.own k _ _ _|.ownc k _ _ _ _=>p k
 |.pv _|.ip _|.any=>true
 |.agg cs|.tup cs=>go p cs
 |.fn _ a b=>go p a&&go p b
 |.opt _ d=>d.nums p
where
 go (p:Nat->Bool):List DV->Bool
  |[]=>true
  |d::r=>d.nums p&&go p r
def DV.nums_go (h:DV.nums.go p ds = true):∀(i:Nat) (d:DV),ds[i]? = some d->d.nums p = true:=by
 induction ds with
 |nil=>intro i d h;simp at h
 |cons x r ih =>
   simp only[DV.nums.go,Jb] at h;intro i d hd;cases i with
   |zero=>simp at hd;subst hd;exact h.1
   |succ i=>exact ih h.2 i d (by simpa using hd)
def DV.ren_go(σ:Nat->Nat)(ds:List DV):DV.ren.go σ ds=ds.map (DV.ren σ):=by
 induction ds with
 |nil=>rfl
 |cons x r ih=>simp[DV.ren.go,ih]
def RelD.ren (hσ:∀k,p k = true->k < hp.length->σ k < hp'.length/\β'.f (σ k) = β.f k) (him:∀b,img β' hp' b->img β hp b) (h:RelD w β hp d v) (hr:d.nums p = true):RelD w β' hp' (d.ren σ) v:=by
 induction h with
 |pv q v h=>exact .pv q v (h.mono (Jw _) (fun _ _ _=>rfl) (fun b _=>him b))
 |ptr k off b h hb =>
   obtain⟨h1,h2⟩:=hσ k (by simpa [DV.nums] using hr) h;exact .ptr _ off b h1 (h2.trans hb)
 |own k sz off len cap b C T m h hb h1 h2 h3 h4 =>
   obtain⟨g1,g2⟩:=hσ k (by simpa [DV.nums] using hr) h;exact .own _ sz off len cap b C T m g1 (g2.trans hb) h1 h2 h3 h4
 |ownc k sz off len cap b o C T m h hb h1 h2 h3 h4 h5 =>
   obtain⟨g1,g2⟩:=hσ k (by simpa [DV.nums] using hr) h;exact .ownc _ sz off len cap b o C T m g1 (g2.trans hb) h1 h2 h3 h4 h5
 |own0 k sz a h hb ha =>
   obtain⟨g1,g2⟩:=hσ k (by simpa [DV.nums] using hr) h;exact .own0 _ sz a g1 (g2.trans hb) ha
 |ip cs ad val h1 h2 h3 =>
   exact .ip cs ad val h1 (fun j d hd=>⟨(h2 j d hd).1,fun x=>(h2 j d hd).2.1 (him _ x),(h2 j d hd).2.2⟩) (fun j d hd=>(h3 j d hd).mono (Jw _) (fun _ _ _=>rfl) (fun b _=>him b))
 |agg ds vs h _ ih =>
   simp only[DV.ren,DV.ren_go];have hr':DV.nums.go p ds=true:=by simpa [DV.nums] using hr
   refine .agg _ vs (by simpa using h) (fun i d hd=>?_);rw[Jg] at hd;cases hx:ds[i]? with
   |none=>simp[hx] at hd
   |some x=>simp[hx] at hd;subst hd;exact ih i x hx (DV.nums_go hr' i x hx)
 |tup ds vs h _ ih =>
   simp only[DV.ren,DV.ren_go];have hr':DV.nums.go p ds=true:=by simpa [DV.nums] using hr
   refine .tup _ vs (by simpa using h) (fun i d hd=>?_);rw[Jg] at hd;cases hx:ds[i]? with
   |none=>simp[hx] at hd
   |some x=>simp[hx] at hd;subst hd;exact ih i x hx (DV.nums_go hr' i x hx)
 |fn f ds es vs us h h' _ _ ih ih' =>
   simp only[DV.ren,DV.ren_go];have hr':DV.nums.go p ds=true/\DV.nums.go p es=true:=by simpa [DV.nums] using hr
   refine .fn f _ _ vs us (by simpa using h) (by simpa using h') (fun i d hd=>?_) (fun i d hd=>?_)
   ·rw [Jg] at hd;cases hx:ds[i]? with
    |none=>simp[hx] at hd
    |some x=>simp[hx] at hd;subst hd;exact ih i x hx (DV.nums_go hr'.1 i x hx)
   ·rw [Jg] at hd;cases hx:es[i]? with
    |none=>simp[hx] at hd
    |some x=>simp[hx] at hd;subst hd;exact ih' i x hx (DV.nums_go hr'.2 i x hx)
 |opt c d v _ hf ih=>exact .opt c _ v (fun hc=>ih hc (by simpa [DV.nums] using hr)) hf
 |any v=>exact .any v
def VCalls.pure {g:FuncId} {args:List DV} {hp:Qb} {R:DV->Prop} (c:VCalls P g args [] fun r h'=>h' = []/\r.nums (fun _=>false) = true/\R r) (ha:DV.nums.go (fun _=>false) args = true):VCalls P g args hp fun r h'=>h' = hp/\R r:=by
 refine⟨fun w β vs hh hr=>?_⟩;have hsame:∀(σ:Nat->Nat),(fun _:Nat=>false)=fun _=>false:=fun _=>rfl
 have iJ:∀{w:World} {β β':Map} {hp hp':Qb} {d:DV} {v:Value},RelD w β hp d v->d.nums (fun _=>false) = true->(∀b,img β' hp' b->img β hp b)->RelD w β' hp' d v:=by
  intro w β β' hp hp' d v h hn him;induction h with
  |pv q v h=>exact .pv q v (h.mono (Jw _) (fun _ _ _=>rfl) (fun b _=>him b))
  |ptr k off b h hb=>simp[DV.nums] at hn
  |own=>simp[DV.nums] at hn
  |own0=>simp[DV.nums] at hn
  |ownc=>simp[DV.nums] at hn
  |ip cs ad val h1 h2 h3 =>
    exact .ip cs ad val h1 (fun j d hd=>⟨(h2 j d hd).1,fun x=>(h2 j d hd).2.1 (him _ x),(h2 j d hd).2.2⟩) (fun j d hd=>(h3 j d hd).mono (Jw _) (fun _ _ _=>rfl) (fun b _=>him b))
  |agg ds vs h _ ih=>exact .agg _ vs h (fun i d hd=>ih i d hd (DV.nums_go (by simpa [DV.nums] using hn) i d hd))
  |tup ds vs h _ ih=>exact .tup _ vs h (fun i d hd=>ih i d hd (DV.nums_go (by simpa [DV.nums] using hn) i d hd))
  |fn f ds es vs us h h' _ _ ih ih' =>
    have hr':DV.nums.go (fun _=>false) ds=true/\DV.nums.go (fun _=>false) es=true:=by simpa [DV.nums] using hn
    exact .fn f _ _ vs us h h' (fun i d hd=>ih i d hd (DV.nums_go hr'.1 i d hd)) (fun i d hd=>ih' i d hd (DV.nums_go hr'.2 i d hd))
  |opt c d v _ hf ih=>exact .opt c _ v (fun hc=>ih hc (by simpa [DV.nums] using hn)) hf
  |any v=>exact .any v
 let βc:Map:=⟨β.f,img β hp⟩
 have himc:∀b,img βc [] b->img β hp b:=fun b hb=>by
  rcases hb with hb|⟨k,B,h1,_⟩
  ·exact hb
  ·simp at h1
 have hhc:HeapRel w βc []:=⟨vv,vv,vv,vv,fun b hb=>by
  rcases hb with hb|hb
  ·exact hh.bound b hb
  ·exact gY hh hb⟩
 refine(c.run w βc vs hhc ⟨hr.1,fun i d hd=>iJ (hr.2 i d hd) (DV.nums_go ha i d hd) himc⟩).mono ?_;rintro e w' ⟨v,r,h',β',rfl,ev,hh',hrel,rfl,hn,hR⟩;have heap_same:∀b,b<w.heap.size->w'.heap[b]?=w.heap[b]?:=fun b hb=>ev.same b hb (by rintro⟨k,B,h1,_⟩;simp at h1);have e:Evo w β hp w' β hp:=⟨ev.os,ev.tape,ev.output,ev.size,Jw _,fun _ _=>rfl,fun b hb _=>heap_same b hb,fun b C T m h=>⟨C,m,by rw[heap_same b (Ja.1 h).1];exact h,rfl⟩,fun _ _ h=>h,rfl⟩
 have him':∀b,img β hp b->img β' [] b:=fun b hb=>.inl (by rw[ev.X];exact hb);refine⟨v,r,hp,β,rfl,e,?_,iJ hrel hn him',rfl,hR⟩;refine⟨fun k B b h1 h2 h3=>?_,hh.none,hh.inj,hh.avoid,fun b hb=>Jp (hh.bound b hb) ev.size⟩;obtain⟨C,g1,g2,g3⟩:=hh.blk k B b h1 h2 h3;exact⟨C,by rw[heap_same b (Ja.1 g1).1];exact g1,g2,fun i d hd=>⟨(g3 i d hd).1,(g3 i d hd).2.mono e⟩⟩
end Go.V
namespace Go.V
end Go.V
namespace Go.V
def Sy(h : -9223372036854775808<=n/\n<=9223372036854775807):IntKind.i64.wrap n=n:=by rw[IntKind.wrap_i64];omega
def Sz(h:0<=n/\n<=255):IntKind.u8.wrap n=n:=by rw[IntKind.wrap_u8];omega
def SA[Decidable p](h:p):decide p=true:=decide_eq_true h
def SB[Decidable p](h:¬p):decide p=false:=decide_eq_false h
def SC{a b:Int}(h:a=b):(a==b)=true:=by simp[h]
def SD{a b:Int}(h:¬a=b):(a==b)=false:=by simp[h]
def SE{a b:Int}(h:¬a=b):(a != b)=true:=by simp[h]
def SF{a b:Int}(h:a=b):(a != b)=false:=by simp[h]
def SG(b:Bool):(b==true)=b:=by cases b<;>rfl
def SH(b:Bool):(b==false)=!b:=by cases b<;>rfl
end Go.V
namespace Go.V
def bf:Op->Bool
 |.move _|.assign _|.pick ..|.load ..|.store ..|.nilCheck _|.binOp ..|.unOp ..|.convert ..|.makeFunc ..|.slice ..|.fieldAddr ..|.field ..|.indexAddr ..|.index ..|.extract ..|.build ..=>true
 |.call c=>match c.callee with
   |.builtin .len|.builtin .min|.builtin .max|.builtin .cap|.builtin .unsafeSliceData=>true
   |_=>false
 |_=>false
def ax(ev:Operand->DV):Op->List Nat×Bool
 |.load _ a=>(match ev a with|.ptr k _=>[k]|_=>[],false)
 |.store _ a _=>(match ev a with|.ptr k _=>[k]|_=>[],true)
 |.convert _ _ x=>(match ev x with|.own k _ _ _=>[k]|.ptr k _=>[k]|_=>[],false)
 |.slice _ x _ _ _=>(match ev x with|.ptr k _=>[k]|_=>[],false)
 |_=>([],false)
def SJ (hf:∀k off,a = .ptr k off->hp'[k]? = hp[k]?):eD P hp' T a = eD P hp T a:=by
 cases a with
 |ptr k off =>
   have:Qc hp' k=Qc hp k:=by simp[Qc,hf k off rfl]
   simp only[eD,this]
 |_=>rfl
def SK(hf:∀k a b c,x=.own k a b c->hp'[k]?=hp[k]?):dM hp' sz x=dM hp sz x:=by
 unfold dM;split
 ·rename_i k a b c;have:Qc hp' k=Qc hp k:=by simp[Qc,hf k a b c rfl]
  rw[this]
 all_goals rfl
def wJ (hk:bf o = true) (hev:∀x ∈ o.operands.toList,ev' x = ev x):vop P ev' hp o = vop P ev hp o:=by
 have mp:∀(ps:Array (Nat×Operand)),(∀x∈(ps.toList.map (·.2)).toArray.toList,ev' x=ev x)->parts ev' ps=parts ev ps:=fun ps hps=>by
  unfold parts;exact JB fun p hp=>by rw[hps p.2 (by simp;exact⟨p.1,by simpa using hp⟩)]
 have ml:∀(xs:Array Operand),(∀x∈xs.toList,ev' x=ev x)->xs.toList.map ev'=xs.toList.map ev:=fun xs hxs=>JB hxs;have mo:∀(x:Option Operand),(∀y∈x.toArray.toList,ev' y=ev y)->x.map ev'=x.map ev:=fun x hx=>by cases x<;>simp_all
 cases o with
 |build T ps=>simp only[vop,mp ps (by simpa [Op.operands] using hev)]
 |makeFunc f xs ys =>
   have h1:=ml xs (fun x hx=>hev x (by simp[Op.operands];left;simpa using hx));have h2:=ml ys (fun x hx=>hev x (by simp[Op.operands];right;simpa using hx));simp only[vop,h1,h2]
 |call c =>
   have h1:c.args.toList.map ev'=c.args.toList.map ev:=ml c.args (fun x hx=>hev x (by simp[Op.operands,Call.operands];right;simpa using hx));simp only[vop,h1]
 |slice T x lo hi mx =>
   have h0:=hev x (by simp[Op.operands]);have h1:=mo lo (fun y hy=>hev y (by simp[Op.operands] at hy |-;simp[hy]));have h2:=mo hi (fun y hy=>hev y (by simp[Op.operands] at hy |-;simp[hy]));have h3:=mo mx (fun y hy=>hev y (by simp[Op.operands] at hy |-;simp[hy]));simp only[vop,h0,h1,h2,h3]
 |_=>first
   |(simp[bf] at hk;done)
   |(simp[Op.operands] at hev;simp[vop,hev];done)
def SL(hf:∀k off,a=.ptr k off->hp'[k]?=hp[k]?):iT P hp' T a lo hi mx=iT P hp T a lo hi mx:=by
 unfold iT;split
 ·rename_i k off;have:Qc hp' k=Qc hp k:=by simp[Qc,hf k off rfl]
  simp only[wh,this]
 ·rfl
def o0 (hk:bf o = true) (hf:∀k ∈ (ax ev o).1,hp'[k]? = hp[k]?) (h:vop P ev hp o = some (d,h1)):
 ((ax ev o).2=false/\h1=hp/\vop P ev hp' o=some (d,hp')) \/
 ((ax ev o).2=true/\∃k cs,(ax ev o).1=[k]/\h1=Qm hp k cs/\vop P ev hp' o=some (d,Qm hp' k cs)):=by
 have fin:∀{x:Option DV},x.map (fun d=>(d,hp))=some (d,h1)->h1=hp/\x.map (fun d=>(d,hp'))=some (d,hp'):=fun {x} hx=>by
  obtain⟨d',e1,e2⟩:=QF hx;simp at e2;exact⟨e2.2.symm,by simp[e1,e2.1]⟩
 cases o with
 |store T a x =>
   refine .inr ⟨rfl,?_⟩;simp only[vop] at h |-;obtain⟨h2,e1,e2⟩:=QF h;simp at e2;obtain⟨rfl,rfl⟩:=e2;cases ha:ev a with
   |ptr k off =>
     rw[ha] at e1;have hfk:=hf k (by simp[ax,ha]);have hb:Qc hp' k=Qc hp k:=by simp[Qc,hfk]
     refine⟨k,?_⟩;simp only[ax,ha,jE,hb] at e1 |-;split at e1
     ·rename_i cs q1 q2;split at e1
      ·rename_i hc;simp at e1;exact⟨_,trivial,e1.symm,by simp[hc]⟩
      ·simp at e1
     ·rename_i cs n q1 q2;split at e1
      ·rename_i ds hds;split at e1
       ·rename_i hc;simp at e1;exact⟨_,trivial,e1.symm,by simp[hc]⟩
       ·simp at e1
      ·simp at e1
     ·simp at e1
   |_=>rw[ha] at e1;simp[jE] at e1
 |load T a =>
   simp only[vop] at h |-;rw[SJ (hp':=hp') (fun k off hko=>hf k (by simp[ax,hko]))];exact .inl ⟨rfl,fin h⟩
 |slice T x lo hi mx =>
   simp only[vop] at h |-;rw[SL (hp':=hp') (fun k off hko=>hf k (by simp[ax,hko]))];exact .inl ⟨rfl,fin h⟩
 |convert S T x =>
   have hsr:iS hp' (ev x)=iS hp (ev x):=by
    have:=SK (hp:=hp) (hp':=hp') (sz:=1) (x:=ev x) fun k a b c hk=>hf k (by simp[ax,hk]);unfold iS;split
    ·rfl
    ·exact this
   have hcp:∀k off,ev x=.ptr k off->mN P hp' S T k off=mN P hp S T k off:=fun k off hk=>by
    have hfk:=hf k (by simp[ax,hk]);unfold mN;rw[hfk]
   simp only[vop,kZ] at h |-;split at h
   ·rename_i k off hk;rw[<-hcp k off hk] at h;exact .inl ⟨rfl,fin h⟩
   ·simp only [ib,hsr] at h |-;exact .inl ⟨rfl,fin h⟩
 |call c =>
   refine .inl ⟨rfl,?_⟩;simp only[bf] at hk;simp only[vop] at h |-;split at h
   ·rename_i b hb;rw[hb] at hk;unfold gz at h |-
    split at h<;>first
     |(exact fin h)
     |(simp at hk;done)
     |(simp at h;done)
   ·simp at h
 |move x|assign x=>simp only[vop] at h |-;simp at h;exact .inl ⟨rfl,h.2.symm,by simp[h.1]⟩
 |makeFunc f a b=>simp only[vop] at h |-;simp at h;exact .inl ⟨rfl,h.2.symm,by simp[h.1]⟩
 |pick c a b =>
   simp only[vop] at h |-;refine .inl ⟨rfl,?_⟩;split at h
   ·rename_i t ht;simp at h;exact⟨h.2.symm,by simp[h.1]⟩
   ·simp at h
 |nilCheck x =>
   simp only[vop] at h |-;refine .inl ⟨rfl,?_⟩;split at h
   ·simp at h;exact⟨h.2.symm,by simp[h.1]⟩
   ·simp at h;exact⟨h.2.symm,by simp[h.1]⟩
   ·simp at h
 |_=>first
   |(simp[bf] at hk;done)
   |(simp only[vop] at h |-;exact .inl ⟨rfl,fin h⟩)
def QX(after:Array Edge)(f:List Nat×Bool):Nat->List (List Nat×Bool)->Bool
 |_,[]=>true
 |i,g::r=>(!((g.2||f.2)&&g.1.any fun k=>f.1.contains k)||after.toList.any fun e=>Region.binds .any e&&e.on==i)&&QX after f (i+1) r
def vdr (P:Program) (all:List Oper):List Oper->List (List Nat × Bool)->(St->Prop)->St->Prop
 |[],_,K,S=>K S
 |o :: r, fs,K,S =>
   S.fits o.dst=true /\
   match QJ all S o with
   |none=>False
   |some false=>vdr P all r (fs++[([],false)]) K (S.put o.dst (.tup []))
   |some true =>
     match Qo (fun x=>Qn true (S.ev x)) o.op with
     |some (g,args)=>∃d,(VCalls P g args [] fun r h=>h=[]/\r=d)/\DV.nums.go (fun _=>false) args=true/\d.nums (fun _=>false)=true/\vdr P all r (fs++[([],false)]) K (S.put o.dst (aw o.guard true d))
     |none =>
       match vop P (fun x=>Qn true (S.ev x)) S.hp o.op with
       |some (d,hp')=>bf o.op=true/\QX o.after (ax (fun x=>Qn true (S.ev x)) o.op) 0 fs=true /\
        vdr P all r (fs++[ax (fun x=>Qn true (S.ev x)) o.op]) K ((S.at hp').put o.dst (aw o.guard true d))
       |none=>False
def jM(P:Program)(all:List Oper)(S:St)(o:Oper)(S':St)(f:List Nat×Bool):Prop :=
 S.fits o.dst=true/\∃G,QJ all S o=some G /\
  ((∃ g args d,Qo (fun x=>Qn G (S.ev x)) o.op = some (g,args)/\(G = true->VCalls P g args [] fun r h=>h = []/\r = d)/\DV.nums.go (fun _=>false) args = true/\d.nums (fun _=>false) = true/\S' = S.put o.dst (aw o.guard G d)/\f = ([],false)) \/
   (∃d hp',Qo (fun x=>Qn G (S.ev x)) o.op=none/\vop P (fun x=>Qn G (S.ev x)) S.hp o.op=some (d,hp')/\bf o.op=true/\S'=(S.at (bif G then hp' else S.hp)).put o.dst (aw o.guard G d)/\f=ax (fun x=>Qn G (S.ev x)) o.op) \/
   (G=false/\S'=S.put o.dst (.tup [])/\f=([],false)))
def mS(f g:List Nat×Bool):Prop:=(g.2=true\/f.2=true)/\∃k,k∈g.1/\k∈f.1
def D3:∀{fs:List (List Nat × Bool)} {n:Nat},QX after f n fs = true->∀(i:Nat) (g:List Nat × Bool),fs[i]? = some g->mS f g->∃e ∈ after,Region.binds .any e = true/\e.on = n + i
 |[],n,_,i,g,h,_=>by simp at h
 |g0 :: r,n,hok,i,g,h,hc=>by
   simp only[QX,Jb] at hok;cases i with
   |zero =>
     simp at h;subst h;obtain⟨h1,k,h2,h3⟩:=hc
     have hand:((g0.2||f.2)&&g0.1.any fun k=>f.1.contains k)=true:=by
      simp only[Jb,Jx,JC,List.contains_iff_mem];exact⟨h1,k,h2,h3⟩
     have:=hok.1;rw[hand] at this;simp only[Bool.not_true,Bool.false_or,JC,Jb,beq_iff_eq] at this;obtain⟨e,e1,e2,e3⟩:=this;exact⟨e,by simpa using e1,e2,vz⟩
   |succ i =>
     obtain⟨e,e1,e2,e3⟩:=D3 hok.2 i g (by simpa using h) hc;exact⟨e,e1,e2,vz⟩
def o5:∀(rest pre:List Oper) (fs:List (List Nat × Bool)) (S:St),all = pre ++ rest->fs.length = pre.length->vdr P all rest fs K S ->
 ∃(T:Nat->St) (F:Nat->List Nat × Bool),(∀i f,fs[i]? = some f->F i = f)/\T pre.length = S/\K (T all.length) /\
   ∀j,pre.length<=j->j<all.length->∃o,all[j]?=some o/\jM P all (T j) o (T (j+1)) (F j)/\∀i,i<j->mS (F j) (F i)->∃e∈o.after,Region.binds .any e=true/\e.on=i
 |[],pre,fs,S,hall,hfs,h=>by
   refine⟨fun _=>S,fun i=>fs.getD i ([],false),fun i f hf=>by simp[Ji,hf],rfl,h,fun j h1 h2=>?_⟩;subst hall;simp at h2;omega
 |o :: r, pre,fs,S,hall,hfs,h=>by
   have hlt:pre.length<all.length:=by rw[hall];simp
   have hat:all[pre.length]?=some o:=by rw[hall];simp
   unfold vdr at h;obtain⟨hf,h⟩:=h
   have go : ∀(S1:St) (f:List Nat × Bool),vdr P all r (fs ++ [f]) K S1->jM P all S o S1 f->(∀i,i < pre.length->∀g,fs[i]? = some g->mS f g->∃e ∈ o.after,Region.binds .any e = true/\e.on = i) ->
    ∃(T:Nat->St) (F:Nat->List Nat × Bool),(∀i f,fs[i]? = some f->F i = f)/\T pre.length = S/\K (T all.length) /\
      ∀j,pre.length<=j->j<all.length->∃o,all[j]?=some o/\jM P all (T j) o (T (j+1)) (F j)/\∀i,i<j->mS (F j) (F i)->∃e∈o.after,Region.binds .any e=true/\e.on=i:=by
    intro S1 f hr hstep hcl;obtain⟨T,F,h1,h2,h3,h4⟩:=o5 r (pre++[o]) (fs++[f]) S1 (by rw[hall];simp) (by simp[hfs]) hr;simp only[List.length_append,List.length_singleton] at h2 h4;have hF:F pre.length=f:=h1 _ f (by rw[<-hfs];simp);have hFs:∀i g,fs[i]?=some g->F i=g:=fun i g hg=>h1 i g (by rw[Jy (Jc.1 hg).1];exact hg);refine⟨fun j=>if j=pre.length then S else T j,F,hFs,vv,?_,fun j g1 g2=>?_⟩
    ·show K (if all.length = pre.length then S else T all.length)
     rw[if_neg vz];exact h3
    ·by_cases hj:j = pre.length
     ·subst hj;refine⟨o,hat,?_,fun i hi hc=>?_⟩
      ·show jM P all (if pre.length = pre.length then S else T pre.length) o (if pre.length + 1 = pre.length then S else T (pre.length + 1)) (F pre.length)
       rw[if_pos rfl,if_neg vz,h2,hF];exact hstep
      ·have hi':i < fs.length:=vz;rw[hF,hFs i _ (Jd hi')] at hc;exact hcl i hi _ (Jd hi') hc
     ·obtain ⟨o',e1,e2,e3⟩:=h4 j vz g2;refine⟨o',e1,?_,e3⟩;show jM P all (if j=pre.length then S else T j) o' (if j+1=pre.length then S else T (j+1)) (F j)
      rw[if_neg hj,if_neg vz];exact e2
   have nocl:∀g:List Nat×Bool,¬mS ([],false) g:=fun g ⟨_,k,_,hk⟩=>by simp at hk
   split at h
   ·exact h.elim
   ·rename_i hg;exact go _ _ h ⟨hf,false,hg,.inr (.inr ⟨rfl,rfl,rfl⟩)⟩ (fun i _ g _ hcl=>absurd hcl (nocl g))
   ·rename_i hg;split at h
    ·rename_i g args hc;obtain⟨d,k1,k2,k3,k4⟩:=h;exact go _ _ k4 ⟨hf,true,hg,.inl ⟨g,args,d,hc,fun _=>k1,k2,k3,rfl,rfl⟩⟩ (fun i _ g _ hcl=>absurd hcl (nocl g))
    ·rename_i hc;split at h
     ·rename_i d hp' hv;obtain⟨k1,k2,k3⟩:=h;refine go _ _ k3 ⟨hf,true,hg,.inr (.inl ⟨d,hp',hc,hv,k1,rfl,rfl⟩)⟩ (fun i _ g hg' hcl=>?_);obtain⟨e,e1,e2,e3⟩:=D3 k2 i g hg' hcl;exact⟨e,e1,e2,vz⟩
     ·exact h.elim
def iW(ops:Array Oper):Bool :=
 (Jk ops.size).all fun j=>
  match ops[j]? with
  |none=>true
  |some oj=>(oj.after.toList.all fun e=>!Region.binds .any e||decide (e.on<j))&&(Jk j).all fun i=>
   match ops[i]? with
   |none=>true
   |some oi=>oi.apart ops oj||oj.after.toList.any fun e=>Region.binds .any e&&e.on==i
def mT(h:iW ops=true)(hj:ops[j]?=some oj):
 (∀e∈oj.after,Region.binds .any e=true->e.on<j)/\∀i oi,i<j->ops[i]?=some oi->oi.apart ops oj=true\/∃e∈oj.after,Region.binds .any e=true/\e.on=i:=by
 have hlt:j<ops.size:=(Ja.1 hj).1;have h1:=Je.1 h j (Jm.2 hlt);grind
def sf:∀{l:List Nat} {j:Nat},j ∈ l->p j = true->p' j = false->(∀i,p' i = true->p i = true)->l.countP p' < l.countP p
 |a :: l,j,hm,h1,h2,h3=>by
   have mono:∀l:List Nat,l.countP p'<=l.countP p:=fun l=>List.countP_mono_left fun x _ hx=>h3 x hx;simp only[List.countP_cons];rcases Jl.1 hm with rfl|hm
   ·simp only [h1,h2,if_true,Bool.false_eq_true,if_false];have:=mono l;omega
   ·have:=sf hm h1 h2 h3
    have h4:(if p' a=true then 1 else 0)<=(if p a=true then 1 else 0):=by
     by_cases h:p' a=true
     ·simp[h,h3 a h]
     ·simp[h]
    omega
section
variable {P:Program} {ops:Array Oper} {T:Nat->St} {F:Nat->List Nat×Bool}
def wT(ops:Array Oper)(i t:Nat):Prop:=∃o,ops[i]?=some o/\o.dst=some t
def wB(F:Nat->List Nat×Bool)(i k:Nat):Prop:=(F i).2=true/\k∈(F i).1
structure Steps(P:Program)(ops:Array Oper)(T:Nat->St)(F:Nat->List Nat×Bool):Prop where
 step:∀j,j<ops.size->∃o,ops[j]?=some o/\jM P ops.toList (T j) o (T (j+1)) (F j)/\∀i,i<j->mS (F j) (F i)->∃e∈o.after,Region.binds .any e=true/\e.on=i
 ok:iW ops=true
theorem St.put_hp(S:St)(dst:Option Tmp)(d:DV):(S.put dst d).hp=S.hp:=by cases dst<;>rfl
theorem St.put_nt(S:St)(dst:Option Tmp)(d:DV):(S.put dst d).nt=S.nt:=by cases dst<;>rfl
theorem St.put_base(S:St)(dst:Option Tmp)(d:DV):(S.put dst d).base=S.base:=by cases dst<;>rfl
theorem St.put_look (S:St) (dst:Option Tmp) (d:DV) (t:Nat) (h:dst ≠ some t):V.look (S.put dst d).tm t = V.look S.tm t:=by
 cases dst with
 |none=>rfl
 |some u =>
   simp only[St.put,V.look];rw[if_neg];intro e;exact h (by rw[e])
theorem o6 (h:jM P all S o S' f):
 S'.nt=S.nt/\S'.base=S.base/\S'.hp.length=S.hp.length/\(∀t,o.dst≠some t->V.look S'.tm t=V.look S.tm t)/\(∀k,¬(f.2=true/\k∈f.1)->S'.hp[k]?=S.hp[k]?):=by
 obtain⟨_,G,_,h⟩:=h;rcases h with⟨g,args,d,_,_,_,_,rfl,rfl⟩|⟨d,hp',_,hv,hk,rfl,rfl⟩|⟨_,rfl,rfl⟩
 ·exact⟨St.put_nt ..,St.put_base ..,by rw[St.put_hp],fun t ht=>St.put_look _ _ _ t ht,fun k _=>by rw[St.put_hp]⟩
 ·have key:(bif G then hp' else S.hp).length = S.hp.length/\∀k,¬((ax (fun x=>Qn G (S.ev x)) o.op).2 = true/\k ∈ (ax (fun x=>Qn G (S.ev x)) o.op).1)->(bif G then hp' else S.hp)[k]? = S.hp[k]?:=by
   cases G with
   |false=>exact⟨rfl,fun k _=>rfl⟩
   |true =>
     simp only[cond_true];rcases o0 (hp':=S.hp) hk (fun k _=>rfl) hv with⟨e1,e2,_⟩|⟨e1,k0,cs,e2,e3,_⟩
     ·rw[e2];exact⟨rfl,fun k _=>rfl⟩
     ·rw [e3];refine⟨?_,fun k hk=>?_⟩
      ·unfold Qm;split<;>simp
      ·rw [e1,e2] at hk;have hne:k0≠k:=fun h=>hk ⟨rfl,by simp[h]⟩;unfold Qm;split
       ·rw[Jq hne]
       ·rfl
  exact⟨St.put_nt ..,St.put_base ..,by rw[St.put_hp];exact key.1,fun t ht=>(St.put_look _ _ _ t ht).trans rfl,fun k hk=>by rw[St.put_hp];exact key.2 k hk⟩
 ·exact⟨St.put_nt ..,St.put_base ..,by rw[St.put_hp],fun t ht=>St.put_look _ _ _ t ht,fun k _=>by rw[St.put_hp]⟩
theorem o7 (h:Steps P ops T F):∀b,a<=b->b<=ops.size->(∀i,a<=i->i < b->¬wT ops i t)->V.look (T b).tm t = V.look (T a).tm t
 |0,h1,_,_=>by rw[J7.1 h1]
 |b + 1,h1,h2,h3=>by
   by_cases he:a=b+1
   ·rw[he]
   ·obtain ⟨o,ho,hs,_⟩:=h.step b vz;rw[(o6 hs).2.2.2.1 t (fun hd=>h3 b vz vz ⟨o,ho,hd⟩)];exact o7 h b vz vz (fun i hi1 hi2=>h3 i hi1 vz)
theorem o8 (h:Steps P ops T F):∀b,a<=b->b<=ops.size->(∀i,a<=i->i < b->¬wB F i k)->(T b).hp[k]? = (T a).hp[k]?
 |0,h1,_,_=>by rw[J7.1 h1]
 |b + 1,h1,h2,h3=>by
   by_cases he:a=b+1
   ·rw[he]
   ·obtain ⟨o,ho,hs,_⟩:=h.step b vz;rw[(o6 hs).2.2.2.2 k (fun hd=>h3 b vz vz hd)];exact o8 h b vz vz (fun i hi1 hi2=>h3 i hi1 vz)
theorem o9 (h:Steps P ops T F):∀j,j<=ops.size->(T j).nt = (T 0).nt/\(T j).base = (T 0).base/\(T j).hp.length = (T 0).hp.length
 |0,_=>⟨rfl,rfl,rfl⟩
 |j + 1,hj=>by
   obtain⟨o,ho,hs,_⟩:=h.step j vz;obtain⟨e1,e2,e3,_⟩:=o6 hs;obtain⟨f1,f2,f3⟩:=o9 h j vz;exact⟨e1.trans f1,e2.trans f2,e3.trans f3⟩
structure Inv(O:Org)(ops:Array Oper)(T:Nat->St)(F:Nat->List Nat×Bool)(listed:Array Bool)(S:St):Prop where
 size:listed.size=ops.size
 nt:S.nt=(T 0).nt
 base:S.base=(T 0).base
 len:S.hp.length=(T 0).hp.length
 closed:∀i o,ops[i]?=some o->listed.getD i false=true->∀e∈o.after,Region.binds .any e=true->listed.getD e.on false=true
 tm:∀t,∃m,m<=ops.size/\V.look S.tm t=V.look (T m).tm t/\(∀i,i<m->wT ops i t->listed.getD i false=true)/\(∀i,m<=i->wT ops i t->listed.getD i false=false)
 hp:∀k,∃m,m<=ops.size/\S.hp[k]?=(T m).hp[k]?/\(∀i,i<m->wB F i k->listed.getD i false=true)/\(∀i,m<=i->i<ops.size->wB F i k->listed.getD i false=false)
theorem wK (h:Steps P ops T F) (hi:Inv O ops T F listed S) (hj:ops[j]? = some oj) (hun:listed.getD j false = false) (hr:∀e ∈ oj.after,Region.binds .any e = true->listed.getD e.on false = true) (ht:t ∈ oj.looksAt ops\/oj.dst = some t):V.look S.tm t = V.look (T j).tm t/\(∀i,i < j->wT ops i t->listed.getD i false = true)/\(∀i,j<=i->wT ops i t->listed.getD i false = false):=by
 have hjlt:j<ops.size:=(Ja.1 hj).1
 have before:∀i,i<j->wT ops i t->listed.getD i false=true:=by
  rintro i hij ⟨oi,hoi,hd⟩;rcases(mT h.ok hj).2 i oi hij hoi with ha|⟨e,e1,e2,e3⟩
  ·obtain ⟨a1,a2,_⟩:=Oper.apart_spec ha;rcases ht with ht|ht
   ·exact absurd ht (a1 t hd)
   ·exact absurd ht (a2 t hd)
  ·rw[<-e3];exact hr e e1 e2
 have Q6:∀i,j<=i->wT ops i t->listed.getD i false = false:=by
  rintro i hij ⟨oi,hoi,hd⟩;by_cases hij':i=j
  ·rw[hij'];exact hun
  ·rcases (mT h.ok hoi).2 j oj vz hj with ha|⟨e,e1,e2,e3⟩
   ·obtain ⟨_,a2,a3⟩:=Oper.apart_spec ha;rcases ht with ht|ht
    ·exact absurd ht (a3 t hd)
    ·exact absurd hd (a2 t ht)
   ·cases hl:listed.getD i false with
    |false=>rfl
    |true =>
      have:=hi.closed i oi hoi hl e e1 e2;rw[e3,hun] at this;cases this
 refine⟨?_,before,Q6⟩;obtain⟨m,hm,e,h1,h2⟩:=hi.tm t;rw[e];rcases J4 m j with hmj|hmj
 ·exact(o7 h j hmj vz (fun i h3 h4 hw=>by have:=before i h4 hw;rw[h2 i h3 hw] at this;cases this)).symm
 ·exact o7 h m hmj hm (fun i h3 h4 hw=>by have:=h1 i h4 hw;rw[Q6 i h3 hw] at this;cases this)
theorem pa (h:Steps P ops T F) (hi:Inv O ops T F listed S) (hj:ops[j]? = some oj) (hun:listed.getD j false = false) (hr:∀e ∈ oj.after,Region.binds .any e = true->listed.getD e.on false = true) (hk:k ∈ (F j).1):(S.hp[k]? = (T j).hp[k]?)/\((F j).2 = true->(∀i,i < j->wB F i k->listed.getD i false = true)/\(∀i,j<=i->i < ops.size->wB F i k->listed.getD i false = false)):=by
 have hjlt:j<ops.size:=(Ja.1 hj).1;obtain⟨o',ho',_,hcl⟩:=h.step j hjlt;rw[hj] at ho';simp at ho';subst ho'
 have before:∀i,i<j->wB F i k->listed.getD i false=true:=by
  rintro i hij ⟨hw,hki⟩;obtain⟨e,e1,e2,e3⟩:=hcl i hij ⟨.inl hw,k,hki,hk⟩;rw[<-e3];exact hr e e1 e2
 have Q6:∀i,j<=i->i < ops.size->wB F i k->listed.getD i false = false:=by
  rintro i hij hilt ⟨hw,hki⟩;by_cases hij':i=j
  ·rw[hij'];exact hun
  ·obtain ⟨oi,hoi,_,hcli⟩:=h.step i hilt;obtain⟨e,e1,e2,e3⟩:=hcli j vz ⟨.inr hw,k,hk,hki⟩;cases hl:listed.getD i false with
   |false=>rfl
   |true =>
     have:=hi.closed i oi hoi hl e e1 e2;rw[e3,hun] at this;cases this
 refine⟨?_,fun _=>⟨before,Q6⟩⟩;obtain⟨m,hm,e,h1,h2⟩:=hi.hp k;rw[e];rcases J4 m j with hmj|hmj
 ·exact(o8 h j hmj vz (fun i h3 h4 hw=>by have:=before i h4 hw;rw[h2 i h3 vz hw] at this;cases this)).symm
 ·exact o8 h m hmj hm (fun i h3 h4 hw=>by have:=h1 i h4 hw;rw[Q6 i h3 vz hw] at this;cases this)
theorem rL(h:Steps P ops T F)(hi:Inv O ops T F listed S)(hj:ops[j]?=some oj)(hun:listed.getD j false=false)(hr:∀e∈oj.after,Region.binds .any e=true->listed.getD e.on false=true)(hnt:S1.nt=S.nt)(hbase:S1.base=S.base)(hlen:S1.hp.length=S.hp.length)(htm:∀t,oj.dst≠some t->V.look S1.tm t=V.look S.tm t)(htm':∀t,oj.dst=some t->V.look S1.tm t=V.look (T (j+1)).tm t)(hhp:∀k,¬wB F j k->S1.hp[k]?=S.hp[k]?)(hhp':∀k,wB F j k->S1.hp[k]?=(T (j+1)).hp[k]?):Inv O ops T F (listed.setIfInBounds j true) S1:=by
 have hjlt:j<ops.size:=(Ja.1 hj).1;have hjl:j<listed.size:=by rw[hi.size];exact hjlt
 have hself:(listed.setIfInBounds j true).getD j false=true:=by simp[hjl]
 have hoth:∀i,i≠j->(listed.setIfInBounds j true).getD i false=listed.getD i false:=fun i hij=>getD_set_ne false (Ne.symm hij);refine⟨by simp[hi.size],hnt.trans hi.nt,hbase.trans hi.base,hlen.trans hi.len,fun i o hio hl e he hb=>?_,fun t=>?_,fun k=>?_⟩
 ·by_cases hij:i = j
  ·subst hij;rw[hj] at hio;simp at hio;subst hio;exact getD_set_true (hr e he hb)
  ·rw [hoth i hij] at hl;exact getD_set_true (hi.closed i o hio hl e he hb)
 ·by_cases ht:oj.dst = some t
  ·obtain ⟨_,h1,h2⟩:=wK h hi hj hun hr (.inr ht);refine⟨j+1,vz,htm' t ht,fun i hij hw=>?_,fun i hij hw=>?_⟩
   ·by_cases he:i = j
    ·rw[he];exact hself
    ·rw[hoth i he];exact h1 i vz hw
   ·rw[hoth i vz];exact h2 i vz hw
  ·obtain ⟨m,hm,e,h1,h2⟩:=hi.tm t
   have hne:∀i,wT ops i t->i≠j:=by
    rintro i ⟨o,ho,hd⟩ rfl;rw[hj] at ho;simp at ho;subst ho;exact ht hd
   exact⟨m,hm,(htm t ht).trans e,fun i hi' hw=>by rw[hoth i (hne i hw)];exact h1 i hi' hw,fun i hi' hw=>by rw[hoth i (hne i hw)];exact h2 i hi' hw⟩
 ·by_cases hk:wB F j k
  ·obtain ⟨_,h12⟩:=pa h hi hj hun hr hk.2;obtain⟨h1,h2⟩:=h12 hk.1;refine⟨j+1,vz,hhp' k hk,fun i hij hw=>?_,fun i hij hlt hw=>?_⟩
   ·by_cases he:i = j
    ·rw[he];exact hself
    ·rw[hoth i he];exact h1 i vz hw
   ·rw[hoth i vz];exact h2 i vz hlt hw
  ·obtain ⟨m,hm,e,h1,h2⟩:=hi.hp k;have hne:∀i,wB F i k->i≠j:=fun i hw he=>hk (he▸hw);exact⟨m,hm,(hhp k hk).trans e,fun i hi' hw=>by rw[hoth i (hne i hw)];exact h1 i hi' hw,fun i hi' hlt hw=>by rw[hoth i (hne i hw)];exact h2 i hi' hlt hw⟩
theorem D4(h1:S.nt=S'.nt)(h2:S.base=S'.base)(h3:S.hp=S'.hp)(hs:Sim O β S a w)(ht:∀t,V.look S.tm t=V.look S'.tm t):Sim O β S' a w:=
 ⟨hs.defers,by rw[<-h1];exact hs.size,fun t=>by rw[<-ht t,<-h3];exact hs.tm t,by rw[<-h3];exact hs.heap,by rw[<-h3];exact hs.evo,by rw[<-h2];exact hs.base⟩
theorem jN (h:∀t ∈ o.looksAt ops,V.look S'.tm t = V.look S.tm t):QJ ops.toList S' o = QJ ops.toList S o:=by
 unfold QJ;cases hg:o.guard with
 |none=>rfl
 |some jw =>
   obtain⟨j,want⟩:=jw;simp only
   cases hb:(ops.toList[j]?.bind (·.dst)) with
   |none=>rfl
   |some t =>
     have hb':(ops[j]?).bind (·.dst)=some t:=by simpa using hb
     have:V.look S'.tm t=V.look S.tm t:=h t (by simp[Oper.looksAt,hg,hb']);simp only[JE,this]
theorem ie{S S':St}{o:Oper}(h:∀t∈o.looksAt ops,V.look S'.tm t=V.look S.tm t):∀x∈o.op.operands.toList,S'.ev x=S.ev x:=by
 intro x hx;cases x with
 |tmp t=>exact h t (by simp only[Oper.looksAt,JA,List.mem_filterMap];exact .inl ⟨.tmp t,hx,rfl⟩)
 |_=>rfl
theorem wL (h:∀x ∈ o.operands.toList,ev' x = ev x):Qo ev' o = Qo ev o:=by
 cases o with
 |call c =>
   simp only[Qo];cases hc:c.callee with
   |value f =>
     have hf:ev' f=ev f:=h f (by simp[Op.operands,Call.operands,hc]);have ha:c.args.toList.map ev'=c.args.toList.map ev:=JB fun x hx=>h x (by simp[Op.operands,Call.operands];right;simpa using hx);simp only[hf,ha]
   |_=>rfl
 |_=>rfl
theorem wM (h:Steps P ops T F) (hK:∀β a w,Sim O β (T ops.size) a w->Q .normal a w):∀(fuel:Nat) (listed:Array Bool) (a:Act) (w:World) (β:Map) (S:St),
 (Jk ops.size).countP (fun i=>!listed.getD i false)<=fuel->Sim O β S a w->Inv O ops T F listed S->wpAny P .any ops Q fuel listed a w:=by
 have done : ∀(listed:Array Bool) (a:Act) (w:World) (β:Map) (S:St),Region.ready .any ops listed = []->Sim O β S a w->Inv O ops T F listed S->Q .normal a w:=by
  intro listed a w β S hready hs hi
  have all:∀i,i < ops.size->listed.getD i false = true:=by
   intro i;induction i using JL with
   |_ i ih =>
     intro hlt;cases hl:listed.getD i false with
     |true=>rfl
     |false =>
       have ho:ops[i]?=some ops[i]:=JQ hlt
       have hmem:i∈Region.ready .any ops listed:=by
        rw[mem_ready];refine⟨?_,ops[i],ho,fun e he hb=>ih e.on ((mT h.ok ho).1 e he hb) (J5 ((mT h.ok ho).1 e he hb) hlt)⟩;have hsz:i<listed.size:=by rw[hi.size];exact hlt
        simpa [hsz] using hl
       rw[hready] at hmem;cases hmem
  obtain⟨f1,f2,f3⟩:=o9 h ops.size (Jw _);have lt_of:∀i t,wT ops i t->i<ops.size:=fun i t ⟨o,ho,_⟩=>(Ja.1 ho).1;refine hK β a w (D4 (S:=S) (hi.nt.trans f1.symm) (hi.base.trans f2.symm) ?_ hs (fun t=>?_))
  ·apply JR
   intro k;obtain⟨m,hm,e,_,h2⟩:=hi.hp k;rw[e];exact(o8 h ops.size hm (Jw _) (fun i h3 h4 hw=>by have:=h2 i h3 h4 hw;rw[all i h4] at this;cases this)).symm
  ·obtain ⟨m,hm,e,_,h2⟩:=hi.tm t;rw[e];exact(o7 h ops.size hm (Jw _) (fun i h3 h4 hw=>by have:=h2 i h3 hw;rw[all i h4] at this;cases this)).symm
 intro fuel;induction fuel with
 |zero =>
   intro listed a w β S hc hs hi
   have hready:Region.ready .any ops listed=[]:=by
    apply JG.2
    intro j hj;obtain⟨h0,o,ho,_⟩:=mem_ready.1 hj;have hlt:j<ops.size:=(Ja.1 ho).1
    have:0<(Jk ops.size).countP (fun i=>!listed.getD i false):=by
     rw[JY];refine⟨j,Jm.2 hlt,?_⟩;have hsz:j<listed.size:=by rw[hi.size];exact hlt
     simp[hsz] at h0 |-;exact h0
    omega
   exact⟨hready,done listed a w β S hready hs hi⟩
 |succ fuel ih =>
   intro listed a w β S hc hs hi;refine⟨fun hready=>done listed a w β S hready hs hi,fun j hj=>?_⟩;obtain⟨h0,oj,hoj,hr⟩:=mem_ready.1 hj;have hlt:j<ops.size:=(Ja.1 hoj).1;have hsz:j<listed.size:=by rw[hi.size];exact hlt
   have hun:listed.getD j false=false:=by simp[hsz] at h0 |-;exact h0
   obtain⟨o',ho',hstep,_⟩:=h.step j hlt;rw[hoj] at ho';simp at ho';subst ho';have htm:∀t∈oj.looksAt ops,V.look S.tm t=V.look (T j).tm t:=fun t ht=>(wK h hi hoj hun hr (.inl ht)).1;have heff:=o6 hstep;obtain⟨hf,G,hg,hcase⟩:=hstep;obtain⟨f1,f2,f3⟩:=o9 h j vz
   have hf':S.fits oj.dst=true:=by
    unfold St.fits at hf |-;rw[hi.nt,<-f1];exact hf
   have hg':QJ ops.toList S oj=some G:=by rw[jN htm];exact hg
   have hw:=QS (ops:=ops) hs hg';have hevS:∀x∈oj.op.operands.toList,Qn G (S.ev x)=Qn G ((T j).ev x):=fun x hx=>by rw[ie htm x hx]
   have hev:G=true->∀x,RelD w β S.hp (Qn G (S.ev x)) (a.eval x):=fun hG x=>gy (hs.ev x) hG
   have hcnt:(Jk ops.size).countP (fun i=>!(listed.setIfInBounds j true).getD i false)<=fuel:=by
    have:(Jk ops.size).countP (fun i=>!(listed.setIfInBounds j true).getD i false)<(Jk ops.size).countP (fun i=>!listed.getD i false):=by
     refine sf (Jm.2 hlt) (by rw[hun];rfl) (by simp[hsz]) (fun i hp=>?_);by_cases hij:i=j
     ·rw[hij,hun];rfl
     ·rw[getD_set_ne false (Ne.symm hij)] at hp;exact hp
    omega
   unfold wpOp;simp only[hoj,hw]
   -- what stands Q6 this operation
   have next:∀(β1:Map) (a1:Act) (w1:World) (S1:St),Sim O β1 S1 a1 w1->S1.nt=S.nt->S1.base=S.base->S1.hp.length=S.hp.length->(∀t,oj.dst≠some t->V.look S1.tm t=V.look S.tm t)->(∀t,oj.dst=some t->V.look S1.tm t=V.look (T (j+1)).tm t) ->
    (∀k,¬wB F j k->S1.hp[k]?=S.hp[k]?)->(∀k,wB F j k->S1.hp[k]?=(T (j+1)).hp[k]?)->wpAny P .any ops Q fuel (listed.setIfInBounds j true) a1 w1:=
    fun β1 a1 w1 S1 k0 k1 k2 k3 k4 k5 k6 k7=>ih _ a1 w1 β1 S1 hcnt k0 (rL h hi hoj hun hr k1 k2 k3 k4 k5 k6 k7)
   have putlook:∀(S0:St) (d:DV) t,oj.dst=some t->V.look (S0.put oj.dst d).tm t=d:=fun S0 d t ht=>by rw[ht];simp[St.put,V.look]
   rcases hcase with⟨g,args,d,hc,hcalls,ha,hd,hT,hF⟩|⟨d,hp',hc,hv,hk,hT,hF⟩|⟨rfl,hT,hF⟩
   ·have nb:∀k,¬wB F j k:=fun k hk=>by have:=hk.1;rw [hF] at this;cases this
    have fin:∀(β1:Map) (a1:Act) (w1:World),Sim O β1 (S.put oj.dst (aw oj.guard G d)) a1 w1->wpAny P .any ops Q fuel (listed.setIfInBounds j true) a1 w1:=fun β1 a1 w1 k0=>
     next β1 a1 w1 _ k0 (St.put_nt ..) (St.put_base ..) (by rw[St.put_hp]) (fun t ht=>St.put_look _ _ _ t ht) (fun t ht=>by rw[hT,putlook _ _ t ht,putlook _ _ t ht]) (fun k _=>by rw[St.put_hp]) (fun k hk=>absurd hk (nb k))
    cases hG:G with
    |true =>
      subst hG;rw[if_pos rfl];have hc':Qo (fun x=>Qn true (S.ev x)) oj.op=some (g,args):=by rw[wL hevS];exact hc
      refine .inl (wo (hev rfl) hc' hs.heap ((VCalls.pure ((hcalls rfl).mono fun r h' ⟨e1,e2⟩=>⟨e1,by rw[e2];exact hd,e2⟩) ha).mono fun r h' hh=>hh) (fun v r h' β' w' k1 k2 k3 k4=>?_));obtain⟨rfl,rfl⟩:=k4;refine fin β' _ _ (hs.step k1 k2 (d:=aw oj.guard true r) ?_ hf');cases oj.guard with
      |none=>exact k3
      |some _=>exact .opt true r v (fun _=>k3) vv
    |false =>
      subst hG;rw[if_neg vv];refine fin β _ _ (hs.skip (d:=aw oj.guard false d) ?_ hf');cases hgd:oj.guard with
      |none=>simp[QJ,hgd] at hg
      |some _=>exact .opt false d undef vv (fun _=>rfl)
   ·have hfoot:∀k ∈ (ax (fun x=>Qn G ((T j).ev x)) oj.op).1,S.hp[k]? = (T j).hp[k]?:=fun k hk'=>by
     rw[<-hF] at hk';exact(pa h hi hoj hun hr hk').1
    have hcong:vop P (fun x=>Qn G (S.ev x)) S.hp oj.op=vop P (fun x=>Qn G ((T j).ev x)) S.hp oj.op:=wJ hk hevS;cases hG:G with
    |true =>
      subst hG;rw[if_pos rfl];simp only[cond_true] at hT
      have hdr:∀{β':Map} {h':Qb} {w':World} {v:Value},RelD w' β' h' d v->RelD w' β' h' (aw oj.guard true d) v:=fun {β' h' w' v} k3=>by
       cases oj.guard with
       |none=>exact k3
       |some _=>exact .opt true d v (fun _=>k3) vv
      rcases o0 (hp':=S.hp) hk hfoot hv with⟨w0,e1,e2⟩|⟨w1,k0,cs,e0,e1,e2⟩
      ·rw [<-hcong] at e2;subst e1;have nb:∀k,¬wB F j k:=fun k hk=>by have:=hk.1;rw[hF,w0] at this;cases this
       refine .inl (oZ (iV hs.heap (hev rfl) (fun _=>rfl) e2) (fun v w' β' k1 k2 k3=>?_))
       exact next β' _ _ _ (hs.step k1 k2 (hdr k3) hf') (St.put_nt ..) (St.put_base ..) (by rw[St.put_hp]) (fun t ht=>St.put_look _ _ _ t ht) (fun t ht=>by rw[hT,putlook _ _ t ht,putlook _ _ t ht])
        (fun k _=>by rw[St.put_hp]) (fun k hk=>absurd hk (nb k))
      ·rw [<-hcong] at e2;subst e1;refine .inl (oZ (iV hs.heap (hev rfl) (fun _=>rfl) e2) (fun v w' β' k1 k2 k3=>?_));have hwk:∀k,wB F j k ↔ k=k0:=fun k=>by unfold wB;rw[hF,w1,e0];simp
       refine next β' _ _ _ (hs.step k1 k2 (hdr k3) hf') (St.put_nt ..) (St.put_base ..) (by rw[St.put_hp];show(Qm S.hp k0 cs).length=_;unfold Qm;split<;>simp) (fun t ht=>St.put_look _ _ _ t ht) (fun t ht=>by rw[hT,putlook _ _ t ht,putlook _ _ t ht]) (fun k hk=>?_) (fun k hk=>?_)
       ·rw [St.put_hp];show(Qm S.hp k0 cs)[k]?=_
        have hne:k0≠k:=fun he=>hk ((hwk k).2 he.symm);unfold Qm;split
        ·rw[Jq hne]
        ·rfl
       ·rw [(hwk k).1 hk,hT,St.put_hp,St.put_hp];show(Qm S.hp k0 cs)[k0]?=(Qm (T j).hp k0 cs)[k0]?
        have hsame:S.hp[k0]?=(T j).hp[k0]?:=hfoot k0 (by rw[e0];simp);unfold Qm;rw[hsame];cases hB:(T j).hp[k0]? with
        |none=>simp only;rw[hsame]
        |some B =>
          have l1:k0<(T j).hp.length:=(Jc.1 hB).1;have l2:k0<S.hp.length:=(Jc.1 (hsame.trans hB)).1;simp only
          rw[JF l1,JF l2]
    |false =>
      subst hG;rw[if_neg vv];simp only[cond_false] at hT;refine next β _ _ (S.put oj.dst (aw oj.guard false d)) (hs.skip (d:=aw oj.guard false d) ?_ hf') (St.put_nt ..) (St.put_base ..) (by rw[St.put_hp]) (fun t ht=>St.put_look _ _ _ t ht) (fun t ht=>by rw[hT,putlook _ _ t ht,putlook _ _ t ht]) (fun k _=>by rw[St.put_hp]) (fun k hk=>?_)
      ·cases hgd:oj.guard with
       |none=>simp[QJ,hgd] at hg
       |some _=>exact .opt false d undef vv (fun _=>rfl)
      ·rw [hT,St.put_hp,St.put_hp];exact(pa h hi hoj hun hr hk.2).1
   ·have nb:∀k,¬wB F j k:=fun k hk=>by have:=hk.1;rw [hF] at this;cases this
    rw[if_neg vv];exact next β _ _ _ (hs.skip (.tup [] #[] rfl vv) hf') (St.put_nt ..) (St.put_base ..) (by rw[St.put_hp]) (fun t ht=>St.put_look _ _ _ t ht) (fun t ht=>by rw[hT,putlook _ _ t ht,putlook _ _ t ht]) (fun k _=>by rw[St.put_hp]) (fun k hk=>absurd hk (nb k))
end
def eO {id:Nat} (hm:P.follows .mixedOrders = true) (hB:iW ops = true) (h:vdr P ops.toList ops.toList [] (Q .normal) S):VDraw P id ops Q S:=by
 intro O β a w hs;obtain⟨T,F,_,h2,h3,h4⟩:=o5 ops.toList [] [] S rfl rfl h;simp only[List.length_nil] at h2
 have hsteps:Steps P ops T F:=⟨fun j hj=>by
  obtain⟨o,e1,e2,e3⟩:=h4 j (JK _) (by simpa using hj)
  exact⟨o,by simpa using e1,e2,e3⟩,hB⟩
 have hs':Sim O β (T 0) a { w with drawn:=w.drawn+1 }:=by
  rw[h2];have e:Evo w β S.hp w.drew β S.hp:=ia w β S.hp;exact⟨hs.defers,hs.size,fun t=>(hs.tm t).mono e,hs.heap.drew,hs.evo.trans e,hs.base⟩
 refine wp_region_any hm (wM (O:=O) (Q:=du O Q) hsteps (fun β a w hk=>⟨β,_,hk,by simpa using h3⟩) ops.size (Jo ops.size false) a _ β (T 0) ?_ hs' ?_)
 ·have:=JW (p:=fun i=>!(Jo ops.size false).getD i false) (l:=Jk ops.size);simpa using this
 ·have hfalse:∀i,(Jo ops.size false).getD i false = false:=fun i=>by
   by_cases hi:i<ops.size
   ·simp[hi]
   ·simp[hi]
  refine⟨vv,rfl,rfl,rfl,fun i o _ hl=>?_,fun t=>⟨0,JK _,rfl,fun i hi=>absurd hi (J3 _),fun i _ _=>hfalse i⟩,fun k=>⟨0,JK _,rfl,fun i hi=>absurd hi (J3 _),fun i _ _ _=>hfalse i⟩⟩;rw[hfalse] at hl;cases hl
end Go.V
namespace Go.V
def RelD.closed (h:RelD w β hp d v) (hn:d.nums (fun _=>false) = true) (him:∀b,img β' hp' b->img β hp b):RelD w β' hp' d v:=by
 induction h with
 |pv q v h=>exact .pv q v (h.mono (Jw _) (fun _ _ _=>rfl) (fun b _=>him b))
 |ptr k off b h hb=>simp[DV.nums] at hn
 |own=>simp[DV.nums] at hn
 |own0=>simp[DV.nums] at hn
 |ownc=>simp[DV.nums] at hn
 |ip cs ad val h1 h2 h3 =>
   exact .ip cs ad val h1 (fun j d hd=>⟨(h2 j d hd).1,fun x=>(h2 j d hd).2.1 (him _ x),(h2 j d hd).2.2⟩) (fun j d hd=>(h3 j d hd).mono (Jw _) (fun _ _ _=>rfl) (fun b _=>him b))
 |agg ds vs h _ ih=>exact .agg _ vs h (fun i d hd=>ih i d hd (DV.nums_go (by simpa [DV.nums] using hn) i d hd))
 |tup ds vs h _ ih=>exact .tup _ vs h (fun i d hd=>ih i d hd (DV.nums_go (by simpa [DV.nums] using hn) i d hd))
 |fn f ds es vs us h h' _ _ ih ih' =>
   have hr':DV.nums.go (fun _=>false) ds=true/\DV.nums.go (fun _=>false) es=true:=by simpa [DV.nums] using hn
   exact .fn f _ _ vs us h h' (fun i d hd=>ih i d hd (DV.nums_go hr'.1 i d hd)) (fun i d hd=>ih' i d hd (DV.nums_go hr'.2 i d hd))
 |opt c d v _ hf ih=>exact .opt c _ v (fun hc=>ih hc (by simpa [DV.nums] using hn)) hf
 |any v=>exact .any v
def VCalls.ptr1 {g:FuncId} {args:List DV} {hp:Qb} {k:Nat} {B:Blk} {R:DV->Blk->Prop} (hk:hp[k]? = some B) (hl:B.live = true) (hB:DV.nums.go (fun _=>false) B.cells = true) (c:VCalls P g (args.map (DV.ren fun _=>0)) [B] fun r h'=>∃B',h' = [B']/\B'.live = true/\DV.nums.go (fun _=>false) B'.cells = true/\r.nums (fun _=>false) = true/\R r B') (ha:DV.nums.go (fun i=>i == k) args = true):VCalls P g args hp fun r h'=>∃B',h' = hp.set k B'/\B'.live = true/\DV.nums.go (fun _=>false) B'.cells = true/\R r B':=by
 refine⟨fun w β vs hh hr=>?_⟩;have hklt:k<hp.length:=(Jc.1 hk).1;let βc:Map:=⟨fun i=>if i=0 then β.f k else none,fun b=>img β hp b/\β.f k≠some b⟩
 have livec:∀b,live βc [B] b ↔ β.f k=some b:=fun b=>by
  constructor
  ·rintro ⟨i,D,h1,h2,h3⟩;cases i with
   |zero=>exact h3
   |succ i=>simp at h1
  ·intro h;exact⟨0,B,rfl,hl,h⟩
 have livek:∀b,β.f k=some b->live β hp b:=fun b hb=>⟨k,B,hk,hl,hb⟩
 have himc:∀b,img βc [B] b->img β hp b:=fun b hb=>by
  rcases hb with hb|hb
  ·exact hb.1
  ·exact .inr (livek b ((livec b).1 hb))
 have himc':∀b,img β hp b->img βc [B] b:=fun b hb=>by
  by_cases h:β.f k=some b
  ·exact .inr ((livec b).2 h)
  ·exact .inl ⟨hb,h⟩
 have hhc:HeapRel w βc [B]:=by
  refine⟨fun i D b h1 h2 h3=>?_,fun i D h1 h2 h3=>?_,fun i j D D' b h1 h2 _ _ _ _=>?_,fun i D b h1 h2 h3=>?_,fun b hb=>?_⟩
  ·cases i with
   |zero =>
     simp at h1;subst h1;obtain⟨C,g1,g2,g3⟩:=hh.blk k B b hk hl h3;exact⟨C,g1,g2,fun i d hd=>⟨(g3 i d hd).1,(g3 i d hd).2.closed (DV.nums_go hB i d hd) himc⟩⟩
   |succ i=>simp at h1
  ·cases i with
   |zero=>simp at h1;subst h1;exact hh.none k B hk hl h3
   |succ i=>simp at h1
  ·cases i<;>cases j<;>simp_all
  ·cases i with
   |zero=>exact fun hX=>hX.2 h3
   |succ i=>simp at h1
  ·rcases hb.1 with hb|hb
   ·exact hh.bound b hb
   ·exact gY hh hb
 have hargs:RelL w βc [B] (args.map (DV.ren fun _=>0)) vs:=by
  refine⟨by simpa using hr.1,fun i d hd=>?_⟩;rw[Jg] at hd;cases hx:args[i]? with
  |none=>simp[hx] at hd
  |some x =>
    simp[hx] at hd;subst hd;exact RelD.ren (p:=fun i=>i==k) (fun j hj _=>⟨vv,by simp at hj;simp[βc,hj]⟩) himc (hr.2 i x hx) (DV.nums_go ha i x hx)
 refine(c.run w βc vs hhc hargs).mono ?_;rintro e w' ⟨v,r,h',β',rfl,ev,hh',hrel,B',rfl,hl',hB',hrn,hR⟩;have hf0:β'.f 0=β.f k:=ev.beta 0 vv;have hset:(hp.set k B')[k]?=some B':=JF hklt
 have lives:∀b,live β (hp.set k B') b->live β hp b:=by
  rintro b ⟨j,D,h1,h2,h3⟩;by_cases hj:j=k
  ·subst hj;exact livek b h3
  ·rw[Jq vz] at h1;exact⟨j,D,h1,h2,h3⟩
 have e:Evo w β hp w' β (hp.set k B'):=by
  refine⟨ev.os,ev.tape,ev.output,ev.size,vv,fun _ _=>rfl,fun b hb hn=>ev.same b hb (fun h=>hn (livek b ((livec b).1 h))),ev.shape,fun b _ h=>lives b h,rfl⟩
 have him':∀b,img β (hp.set k B') b->img β' [B'] b:=fun b hb=>by
  by_cases h:β.f k=some b
  ·exact .inr ⟨0,B',rfl,hl',hf0.trans h⟩
  ·refine .inl ?_;rw[ev.X];exact⟨hb.imp id (lives b),h⟩
 refine⟨v,r,hp.set k B',β,rfl,e,?_,hrel.closed hrn him',B',rfl,hl',hB',hR⟩;refine⟨fun j D b h1 h2 h3=>?_,fun j D h1 h2 h3=>?_,fun i j D D' b h1 h2 h3 h4 h5 h6=>?_,fun j D b h1 h2 h3=>?_,fun b hb=>Jp (hh.bound b hb) ev.size⟩
 ·by_cases hj:j = k
  ·subst hj;rw[hset] at h1;simp at h1;subst h1;obtain⟨C,g1,g2,g3⟩:=hh'.blk 0 B' b rfl hl' (hf0.trans h3);exact⟨C,g1,g2,fun i d hd=>⟨(g3 i d hd).1,(g3 i d hd).2.closed (DV.nums_go hB' i d hd) him'⟩⟩
  ·rw [Jq vz] at h1;obtain⟨C,g1,g2,g3⟩:=hh.blk j D b h1 h2 h3;have hne:β.f k≠some b:=fun h=>hj (hh.inj j k D B b h1 hk h2 hl h3 h);have hsame:=ev.same b (Ja.1 g1).1 (fun h=>hne ((livec b).1 h));exact⟨C,by rw[hsame];exact g1,g2,fun i d hd=>⟨(g3 i d hd).1,(g3 i d hd).2.mono e⟩⟩
 ·by_cases hj:j = k
  ·subst hj;rw[hset] at h1;simp at h1;subst h1;exact hh'.none 0 B' rfl hl' (hf0.trans h3)
  ·rw [Jq vz] at h1;exact hh.none j D h1 h2 h3
 ·have back:∀{i:Nat} {D:Blk},(hp.set k B')[i]? = some D->D.live = true->∃D0,hp[i]? = some D0/\D0.live = true:=fun {i D} h1 h2=>by
   by_cases hi:i=k
   ·subst hi;exact⟨B,hk,hl⟩
   ·rw[Jq vz] at h1;exact⟨D,h1,h2⟩
  obtain⟨D0,q1,q2⟩:=back h1 h3;obtain⟨D1,q3,q4⟩:=back h2 h4;exact hh.inj i j D0 D1 b q1 q3 q2 q4 h5 h6
 ·by_cases hj:j = k
  ·subst hj;exact hh.avoid j B b hk hl h3
  ·rw[Jq vz] at h1;exact hh.avoid j D b h1 h2 h3
def DV.flat:DV->Bool
 |.pv (.lit _)|.pv (.str _)=>true
 |.agg cs|.tup cs=>go cs
 |_=>false
where
 go:List DV->Bool
  |[]=>true
  |d::r=>d.flat&&go r
def DV.flat_go (h:DV.flat.go ds = true):∀(i:Nat) (d:DV),ds[i]? = some d->d.flat = true:=by
 induction ds with
 |nil=>intro i d h;simp at h
 |cons x r ih =>
   simp only[DV.flat.go,Jb] at h;intro i d hd;cases i with
   |zero=>simp at hd;subst hd;exact h.1
   |succ i=>exact ih h.2 i d (by simpa using hd)
def RelD.flat (h:RelD w β hp d v) (hf:d.flat = true):RelD w' β' hp' d v:=by
 induction h with
 |pv q v h=>cases h with
   |lit _ h=>exact .pv _ _ (.lit _ h)
   |str l=>exact .pv _ _ (.str l)
   |_=>simp[DV.flat] at hf
 |agg ds vs h _ ih=>exact .agg _ vs h (fun i d hd=>ih i d hd (DV.flat_go (by simpa [DV.flat] using hf) i d hd))
 |tup ds vs h _ ih=>exact .tup _ vs h (fun i d hd=>ih i d hd (DV.flat_go (by simpa [DV.flat] using hf) i d hd))
 |_=>simp[DV.flat] at hf
def VCalls.new {g:FuncId} {args:List DV} {hp:Qb} {R:Blk->Prop} (c:VCalls P g args [] fun r h'=>∃B,h' = [B]/\r = .ptr 0 0/\B.live = true/\DV.nums.go (fun _=>false) B.cells = true/\R B) (ha:DV.nums.go (fun _=>false) args = true):VCalls P g args hp fun r h'=>∃B,h' = hp ++ [B]/\r = .ptr hp.length 0/\B.live = true/\DV.nums.go (fun _=>false) B.cells = true/\R B:=by
 refine⟨fun w β vs hh hr=>?_⟩;let βc:Map:=⟨fun _=>none,img β hp⟩
 have himc:∀b,img βc [] b->img β hp b:=fun b hb=>by
  rcases hb with hb|⟨k,B,h1,_⟩
  ·exact hb
  ·simp at h1
 have hhc:HeapRel w βc []:=⟨vv,vv,vv,vv,fun b hb=>by
  rcases hb with hb|hb
  ·exact hh.bound b hb
  ·exact gY hh hb⟩
 refine(c.run w βc vs hhc ⟨hr.1,fun i d hd=>(hr.2 i d hd).closed (DV.nums_go ha i d hd) himc⟩).mono ?_;rintro e w' ⟨v,r,h',β',rfl,ev,hh',hrel,B,rfl,rfl,hl,hB,hR⟩;have heap_same:∀b,b<w.heap.size->w'.heap[b]?=w.heap[b]?:=fun b hb=>ev.same b hb (by rintro⟨k,B,h1,_⟩;simp at h1);cases hrel with
 |ptr _ _ b0 _ hb0 =>
   obtain⟨C0,c1,c2,c3⟩:=hh'.blk 0 B b0 rfl hl hb0
   have hnew:¬b0<w.heap.size:=fun hlt=>by
    have:=ev.im b0 hlt ⟨0,B,rfl,hl,hb0⟩;obtain⟨k,D,h1,_⟩:=this;simp at h1
   have e:Evo w β hp w' (ext β hp.length (some b0)) (hp++[B]):=by
    refine⟨ev.os,ev.tape,ev.output,ev.size,vv,fun k hk=>cG hk,fun b hb _=>heap_same b hb,fun b C T m h=>⟨C,m,by rw[heap_same b (Ja.1 h).1];exact h,rfl⟩,fun b hb h=>?_,rfl⟩;rcases(rT hl).1 h with h|h
    ·exact h
    ·omega
   have him':∀b,img β hp b->img β' [B] b:=fun b hb=>.inl (by rw[ev.X];exact hb)
   have him2:∀b,img (ext β hp.length (some b0)) (hp++[B]) b->img β' [B] b:=fun b hb=>by
    rcases hb with hb|hb
    ·exact him' b (.inl hb)
    ·rcases (rT hl).1 hb with hb|hb
     ·exact him' b (.inr hb)
     ·rw[hb];exact .inr ⟨0,B,rfl,hl,hb0⟩
   refine⟨_,.ptr hp.length 0,hp++[B],ext β hp.length (some b0),rfl,e,?_,.ptr _ _ b0 vv (by simp[ext]),B,rfl,rfl,hl,hB,hR⟩
   have lt_of:∀{k:Nat} {D:Blk},(hp++[B])[k]?=some D->(k<hp.length/\hp[k]?=some D/\(ext β hp.length (some b0)).f k=β.f k)\/(k=hp.length/\D=B/\(ext β hp.length (some b0)).f k=some b0):=fun {k D} h=>by
    rcases J1 k hp.length with hlt|heq|hgt
    ·rw [Jy hlt] at h;exact .inl ⟨hlt,h,cG hlt⟩
    ·subst heq;simp at h;exact .inr ⟨rfl,h.symm,by simp[ext]⟩
    ·rw [JD vz,Jt vg] at h;simp at h
   refine⟨fun k D b hk hD hb=>?_,fun k D hk hD hb=>?_,fun j k D D' b hj hk hD hD' h1 h2=>?_,fun k D b hk hD hb=>?_,fun b hb=>Jp (hh.bound b hb) ev.size⟩
   ·rcases lt_of hk with ⟨_,hk',he⟩|⟨rfl,rfl,he⟩
    ·rw [he] at hb;obtain⟨C,g1,g2,g3⟩:=hh.blk k D b hk' hD hb;exact⟨C,by rw[heap_same b (Ja.1 g1).1];exact g1,g2,fun i d hd=>⟨(g3 i d hd).1,(g3 i d hd).2.mono e⟩⟩
    ·rw [he] at hb;simp at hb;subst hb;exact⟨C0,c1,c2,fun i d hd=>⟨(c3 i d hd).1,(c3 i d hd).2.closed (DV.nums_go hB i d hd) him2⟩⟩
   ·rcases lt_of hk with ⟨_,hk',he⟩|⟨rfl,rfl,he⟩
    ·exact hh.none k D hk' hD (by rw[<-he];exact hb)
    ·rw[he] at hb;simp at hb
   ·rcases lt_of hj with ⟨_,hj',hje⟩|⟨rfl,rfl,hje⟩<;>rcases lt_of hk with ⟨_,hk',hke⟩|⟨rfl,rfl,hke⟩
    ·exact hh.inj j k D D' b hj' hk' hD hD' (by rw[<-hje];exact h1) (by rw[<-hke];exact h2)
    ·exfalso;rw[hke] at h2;simp at h2;exact hnew (h2▸gY hh ⟨j,D,hj',hD,by rw[<-hje];exact h1⟩)
    ·exfalso;rw[hje] at h1;simp at h1;exact hnew (h1▸gY hh ⟨k,D',hk',hD',by rw[<-hke];exact h2⟩)
    ·rfl
   ·rcases lt_of hk with ⟨_,hk',he⟩|⟨rfl,rfl,he⟩
    ·exact hh.avoid k D b hk' hD (by rw[<-he];exact hb)
    ·rw [he] at hb;simp at hb;intro hX;exact hnew (hb▸hh.bound b hX)
end Go.V
namespace Go.V
def D5(c a b:DV)(hp:Qb):Option (DV×Qb):=
 match c with
 |.pv (.lit (.bool t))=>some (jK t (Qn t a) (Qn (!t) b),hp)
 |_=>none
def D6(x:DV)(hp:Qb):Option (DV×Qb):=
 match x with
 |.ptr k off=>some (.ptr k off,hp)
 |.ip cs=>some (.ip cs,hp)
 |_=>none
def k9(x:DV):List Nat:=match x with|.ptr k _=>[k]|_=>[]
def D7(x:DV):List Nat:=match x with|.own k _ _ _=>[k]|.ptr k _=>[k]|_=>[]
def D8(f:DV)(args:List DV):Option (FuncId×List DV):=
 match f with
 |.fn (.func g) first cap=>some (g,first++args++cap)
 |_=>none
def sg(d:Option DV)(want:Bool):Option Bool:=
 match d with
 |some (.pv (.lit (.bool b)))=>some (b==want)
 |some (.opt g (.pv (.lit (.bool b))))=>some (g&&(b==want))
 |some (.opt false (.tup _))=>some false
 |some (.tup [])=>some false
 |_=>none
def evG(G:Bool)(S:St)(x:Operand):DV:=Qn G (S.ev x)
def wN(P:Program)(all:List Oper)(o:Oper)(r:List Oper)(K:St->Prop)(S:St)(d:DV)(hp:Qb):Prop:=an P all r K ((S.at hp).put o.dst (aw o.guard true d))
def pc(P:Program)(all:List Oper)(o:Oper)(r:List Oper)(K:St->Prop)(S:St)(x:Option (DV×Qb)):Prop:=
 match x with
 |some (d,hp)=>an P all r K ((S.at hp).put o.dst (aw o.guard true d))
 |none=>False
def mU(P:Program)(all:List Oper)(o:Oper)(r:List Oper)(K:St->Prop)(S:St)(c:Option (FuncId×List DV)):Prop:=
 match c with
 |some (g,args)=>VCalls P g args S.hp (wN P all o r K S)
 |none=>pc P all o r K S (vop P (evG true S) S.hp o.op)
def fg(P:Program)(all:List Oper)(o:Oper)(r:List Oper)(K:St->Prop)(S:St)(G:Bool):Prop:=
 match G with
 |false=>an P all r K (S.put o.dst (.tup []))
 |true=>mU P all o r K S (Qo (evG true S) o.op)
def pd(P:Program)(all:List Oper)(o:Oper)(r:List Oper)(K:St->Prop)(S:St)(g:Option Bool):Prop:=
 match g with
 |none=>False
 |some G=>fg P all o r K S G
def vdc(P:Program)(g:FuncId)(args:List DV)(K:DV->Prop):Prop:=∃d,(VCalls P g args [] fun r h=>h=[]/\r=d)/\DV.nums.go (fun _=>false) args=true/\d.nums (fun _=>false)=true/\K d
def SM(P:Program)(all:List Oper)(o:Oper)(r:List Oper)(fs:List (List Nat×Bool))(K:St->Prop)(S:St)(d:DV):Prop:=vdr P all r (fs++[([],false)]) K (S.put o.dst (aw o.guard true d))
def pe(P:Program)(all:List Oper)(o:Oper)(r:List Oper)(fs:List (List Nat×Bool))(K:St->Prop)(S:St)(f:List Nat×Bool)(x:Option (DV×Qb)):Prop:=
 match x with
 |some (d,hp)=>bf o.op=true/\QX o.after f 0 fs=true/\vdr P all r (fs++[f]) K ((S.at hp).put o.dst (aw o.guard true d))
 |none=>False
def pf(P:Program)(all:List Oper)(o:Oper)(r:List Oper)(fs:List (List Nat×Bool))(K:St->Prop)(S:St)(c:Option (FuncId×List DV)):Prop:=
 match c with
 |some (g,args)=>vdc P g args (SM P all o r fs K S)
 |none=>pe P all o r fs K S (ax (evG true S) o.op) (vop P (evG true S) S.hp o.op)
def fh(P:Program)(all:List Oper)(o:Oper)(r:List Oper)(fs:List (List Nat×Bool))(K:St->Prop)(S:St)(G:Bool):Prop:=
 match G with
 |false=>vdr P all r (fs++[([],false)]) K (S.put o.dst (.tup []))
 |true=>pf P all o r fs K S (Qo (evG true S) o.op)
def ph(P:Program)(all:List Oper)(o:Oper)(r:List Oper)(fs:List (List Nat×Bool))(K:St->Prop)(S:St)(g:Option Bool):Prop:=
 match g with
 |none=>False
 |some G=>fh P all o r fs K S G
def vbr(P:Program)(a b:Code)(Q:Exit->St->Prop)(S:St)(t:Bool):Prop:=rZ t (QH P a Q S) (QH P b Q S)
def pj(P:Program)(a b:Code)(Q:Exit->St->Prop)(S:St)(c:DV):Prop:=match c with|.pv (.lit (.bool t))=>vbr P a b Q S t|_=>False
def mV(n:Nat)(hp:Qb)(R:DV->Qb->Prop)(r:Option DV):Prop:=match r with|some d=>gA n hp d R|none=>False
def pk(hp:Qb)(R:DV->Qb->Prop)(r:Option DV):Prop:=match r with|some d=>R d hp|none=>False
def pn(R:DV->Qb->Prop)(r:Option DV)(h:Option Qb):Prop:=match r,h with|some d,some hp=>R d hp|_,_=>False
def fP(n:Nat)(hp:Qb)(d:DV):Option DV:=match d with|.agg es=>(Qi (es.map (aD n hp))).map .agg|d=>aD n hp d
def vld(b:Option (List DV))(t:Option (Option Nat))(off:Nat):Option DV:=
 match b,t with
 |some cs,some none=>cs[off]?
 |some cs,some (some n)=>if off+n<=cs.length then some (.agg ((cs.drop off).take n)) else none
 |_,_=>none
def wO(cs:List PV)(t:Option (Option Nat)):Option DV:=
 match t with
 |some none=>cs[0]?.map .pv
 |some (some n)=>if n<=cs.length then some (.agg ((cs.take n).map .pv)) else none
 |none=>none
def vst (hp:Qb) (k:Nat) (b:Option (List DV)) (t:Option (Option Nat)) (off:Nat) (d:DV):Option Qb :=
 match b,t with
 |some cs,some none=>if off<cs.length/\d.one=true then some (Qm hp k (cs.set off d)) else none
 |some cs,some (some n) =>
   match d with
   |.agg ds=>if off+n<=cs.length/\ds.length=n/\Qp ds=true then some (Qm hp k (splice cs off ds)) else none
   |_=>none
 |_,_=>none
def mW(b:Bool)(d:DV)(r:List (Nat×DV))(t:Nat):DV:=bif b then d else V.look r t
def wP(b g:Bool)(d:DV):DV:=bif b then d else .opt g d
inductive VK|int (k:IntKind)|str|arr (n:Nat)|sl (e:TypeId)|bool|other
def aB(P:Program)(T:TypeId):VK:=
 match P.underlying T with
 |some (.int k)=>.int k
 |some .string=>.str
 |some (.array n _)=>.arr n
 |some (.slice e)=>.sl e
 |some .bool=>.bool
 |_=>.other
def wQ(ty:TypeId)(x:Option (List DV)):Option Qb:=match x with|some cs=>some [⟨ty,true,cs⟩]|none=>none
def cO(e:Option (Option Nat×TypeId×Nat))(xs:List (List PV))(a b:Nat):Option DV:=
 match e with
 |some (none,_,sz)=>if a<=b/\b<=xs.length/\(xs=[]\/(xs[0]?.map J8)=some sz) then some (.pv (.sl ((xs.take b).drop a))) else none
 |_=>none
def jO(u:VK)(xs:List UInt8)(a b:Nat):Option DV:=match u with|.str=>if a<=b/\b<=xs.length then some (.pv (.str ((xs.take b).drop a))) else none|_=>none
def vba (op:BinOp) (t:Option (Option Nat)) (l:Option (List (Nat × Nat))) (g:Bool) (xs ys:List DV):Option DV :=
 match t,l with
 |some (some _),some l =>
   if g then none else
   match op,QZ xs ys l with
   |.eql,some b=>some (.bool b)
   |.neq,some b=>some (.bool (!b))
   |_,_=>none
 |_,_=>none
def wR(f:Option (TypeId×Nat×Nat))(k off:Nat):Option DV:=match f with|some (_,o,s)=>if s=0 then none else some (.ptr k (off+o))|none=>none
def wS(f:Option (TypeId×Nat×Nat))(cs:List PV):Option DV:=match f with|some (_,o,s)=>if s=0 then none else some (.ip (cs.drop o))|none=>none
def vfv(P:Program)(cs:List DV)(f:Option (TypeId×Nat×Nat)):Option DV:=match f with|some (t,o,_)=>hE P t cs o|none=>none
def vpt(t:Option (Option Nat))(cs:List DV)(off:Nat):Option DV:=
 match t with
 |some none=>cs[off]?
 |some (some n)=>if off+n<=cs.length then some (.agg ((cs.drop off).take n)) else none
 |none=>none
def nK(e:Option (Option Nat×TypeId×Nat))(c:Option (List PV))(i:Int):Option DV:=
 match e,c with
 |some (none,_,sz),some c=>if 0<=i/\c.length=sz/\0<sz then some (.ip c) else none
 |_,_=>none
def si(e:Option (Option Nat×TypeId×Nat))(b sz' off len:Nat)(i:Int):Option DV:=
 match e with
 |some (none,_,sz)=>if sz'=sz/\0<=i/\i<len then some (.ptr b (off+i.toNat*sz)) else none
 |_=>none
def sj(e:Option (Option Nat×TypeId×Nat))(b off:Nat)(i:Int):Option DV:=
 match e with
 |some (some n,_,sz)=>if 0<=i/\i<n then some (.ptr b (off+i.toNat*sz)) else none
 |_=>none
def sq(P:Program)(e:Option (Option Nat×TypeId×Nat))(cs:List DV)(i:Int):Option DV:=
 match e with
 |some (some n,t,sz)=>if 0<=i/\i<n then hE P t cs (i.toNat*sz) else none
 |_=>none
def su(u:VK)(b:Option UInt8)(i:Int):Option DV:=
 match u,b with
 |.str,some b=>if 0<=i then some (.pv (.lit (.int .u8 b.toNat))) else none
 |_,_=>none
def vlk(u:VK)(d:DV):Option DV:=match u with|.sl _=>some d|.arr n=>some (.int .i64 n)|_=>none
def vls(u:VK)(l:List UInt8):Option DV:=match u with|.str=>some (.int .i64 l.length)|.arr n=>some (.int .i64 n)|_=>none
def vci(s t:VK)(n:Int)(hp:Qb):Option (DV×Qb):=match s,t with|.int _,.int k=>some (.int k (k.wrap n),hp)|_,_=>none
def wU(hp:Qb)(T:TypeId)(z:Option (List DV)):Option (DV×Qb):=match z with|some cs=>if Qp cs=true then some (.ptr hp.length 0,hp++[⟨T,true,cs⟩]) else none|none=>none
def sw(e:Option (Option Nat×TypeId×Nat))(k sz off len b:Nat):Option DV:=
 match e with
 |some (none,_,_)=>if b<=len then some (.own k sz off b) else none
 |_=>none
def mX(e:Option (Option Nat×TypeId×Nat))(k sz off len a b:Nat):Option DV:=
 match e with
 |some (none,_,s)=>if a<len/\a<=b/\b<=len/\s=sz then some (.own k sz (off+a*sz) (b-a)) else if a=len/\b=len then some (.pv (.sl [])) else none
 |_=>none
def D9(op:BinOp)(u:Option TypeDesc)(b:Option Bool):Option DV:=match u with|some (.slice _)=>oX op b|_=>none
def yu(h:G=true->fg P all o r K S true)(h':G=false->fg P all o r K S false):fg P all o r K S G:=by cases G;exact h' rfl;exact h rfl
def yv(h:G=true->fh P all o r fs K S true)(h':G=false->fh P all o r fs K S false):fh P all o r fs K S G:=by cases G;exact h' rfl;exact h rfl
def fN(h:t=true->QH P a Q S)(h':t=false->QH P b Q S):vbr P a b Q S t:=⟨h,h'⟩
theorem SN:vop P ev hp (.move x)=some (ev x,hp):=rfl
theorem SO:Qo ev (.move x)=none:=rfl
theorem SP:bf (.move x)=true:=rfl
theorem SQ:ax ev (.move x)=([],false):=rfl
theorem SR:vop P ev hp (.assign x)=some (ev x,hp):=rfl
theorem SS:Qo ev (.assign x)=none:=rfl
theorem SU:bf (.assign x)=true:=rfl
theorem SV:ax ev (.assign x)=([],false):=rfl
theorem SW:vop P ev hp (.pick c a b)=D5 (ev c) (ev a) (ev b) hp:=rfl
theorem SX:Qo ev (.pick c a b)=none:=rfl
theorem SY:bf (.pick c a b)=true:=rfl
theorem SZ:ax ev (.pick c a b)=([],false):=rfl
theorem S4:vop P ev hp (.alloc T)=kW P hp T:=rfl
theorem S5:Qo ev (.alloc T)=none:=rfl
theorem S6:vop P ev hp (.box T x)=mF hp T (ev x):=rfl
theorem S7:Qo ev (.box T x)=none:=rfl
theorem S8:vop P ev hp (.build T ps)=(oJ P T (V.parts ev ps)).map fun d=>(d,hp):=rfl
theorem S9:Qo ev (.build T ps)=none:=rfl
theorem Ta:bf (.build T ps)=true:=rfl
theorem Tc:ax ev (.build T ps)=([],false):=rfl
theorem Td:vop P ev hp (.buildSlice T n ps)=mJ P hp T n (V.parts ev ps):=rfl
theorem Te:Qo ev (.buildSlice T n ps)=none:=rfl
theorem Tf:vop P ev hp (.load T a)=(eD P hp T (ev a)).map fun d=>(d,hp):=rfl
theorem Tg:Qo ev (.load T a)=none:=rfl
theorem Th:bf (.load T a)=true:=rfl
theorem Ti:vop P ev hp (.store T a x)=(jE P hp T (ev a) (ev x)).map fun h=>(.tup [],h):=rfl
theorem Tj:Qo ev (.store T a x)=none:=rfl
theorem Tk:bf (.store T a x)=true:=rfl
theorem Tl:vop P ev hp (.nilCheck x)=D6 (ev x) hp:=rfl
theorem Tm:Qo ev (.nilCheck x)=none:=rfl
theorem Tn:bf (.nilCheck x)=true:=rfl
theorem Tp:ax ev (.nilCheck x)=([],false):=rfl
theorem Tq:vop P ev hp (.binOp op T x y yT)=(jL P op T (ev x) y (ev y)).map fun d=>(d,hp):=rfl
theorem Tt:Qo ev (.binOp op T x y yT)=none:=rfl
theorem Tu:bf (.binOp op T x y yT)=true:=rfl
theorem Tv:ax ev (.binOp op T x y yT)=([],false):=rfl
theorem Tw:vop P ev hp (.unOp op T x)=(vun op (ev x)).map fun d=>(d,hp):=rfl
theorem Ty:Qo ev (.unOp op T x)=none:=rfl
theorem TA:ax ev (.unOp op T x)=([],false):=rfl
theorem TB:vop P ev hp (.convert S T x)=kZ P hp S T (ev x):=rfl
theorem TC:Qo ev (.convert S T x)=none:=rfl
theorem TD:bf (.convert S T x)=true:=rfl
theorem TE:vop P ev hp (.makeFunc f first cap)=some (.fn f (first.toList.map ev) (cap.toList.map ev),hp):=rfl
theorem TF:Qo ev (.makeFunc f first cap)=none:=rfl
theorem TG:vop P ev hp (.makeSlice T l c)=oN P hp T (ev l) (ev c):=rfl
theorem TH:Qo ev (.makeSlice T l c)=none:=rfl
theorem TI:vop P ev hp (.slice T x lo hi mx)=(iT P hp T (ev x) (lo.map ev) (hi.map ev) (mx.map ev)).map fun d=>(d,hp):=rfl
theorem TJ:Qo ev (.slice T x lo hi mx)=none:=rfl
theorem TK:bf (.slice T x lo hi mx)=true:=rfl
theorem TL:vop P ev hp (.fieldAddr T x f)=(g8 P T f (ev x)).map fun d=>(d,hp):=rfl
theorem TM:Qo ev (.fieldAddr T x f)=none:=rfl
theorem TN:bf (.fieldAddr T x f)=true:=rfl
theorem TO:ax ev (.fieldAddr T x f)=([],false):=rfl
theorem TP:vop P ev hp (.field T x f)=(kX P T f (ev x)).map fun d=>(d,hp):=rfl
theorem TQ:Qo ev (.field T x f)=none:=rfl
theorem TR:vop P ev hp (.indexAddr T x i)=(g9 P T (ev x) (ev i)).map fun d=>(d,hp):=rfl
theorem TS:Qo ev (.indexAddr T x i)=none:=rfl
theorem TT:bf (.indexAddr T x i)=true:=rfl
theorem TU:ax ev (.indexAddr T x i)=([],false):=rfl
theorem TV:vop P ev hp (.index T x i)=(jF P T (ev x) (ev i)).map fun d=>(d,hp):=rfl
theorem TY:Qo ev (.index T x i)=none:=rfl
theorem TZ:vop P ev hp (.extract x i)=(mM (ev x) i).map fun d=>(d,hp):=rfl
theorem T3:Qo ev (.extract x i)=none:=rfl
theorem T4:bf (.extract x i)=true:=rfl
theorem T5:ax ev (.extract x i)=([],false):=rfl
theorem T6:ax ev (.load T a)=(k9 (ev a),false):=rfl
theorem T7:ax ev (.store T a x)=(k9 (ev a),true):=rfl
theorem T8:ax ev (.convert S T x)=(D7 (ev x),false):=rfl
theorem T9:ax ev (.slice T x lo hi mx)=(k9 (ev x),false):=rfl
theorem Us:ax ev (.call c)=([],false):=rfl
theorem Ut:bf (.call ⟨.builtin .len,a,t⟩)=true:=rfl
theorem Uu:vop P ev hp (.call ⟨.builtin b,a,t⟩)=gz P hp b t (a.toList.map ev):=rfl
theorem Uv:Qo ev (.call ⟨.builtin b,a,t⟩)=none:=rfl
theorem Uw:Qo ev (.call ⟨.value f,a,t⟩)=D8 (ev f) (a.toList.map ev):=rfl
theorem Ux:D8 (.fn (.func g) first cap) args=some (g,first++args++cap):=rfl
theorem Uy:k9 (.ptr k off)=[k]:=rfl
theorem Uz:k9 (.ip cs)=[]:=rfl
theorem UA:kZ P hp S T (.pv p)=ib P hp S T (.pv p):=rfl
theorem UB:aD n hp (.fn f [] [])=some (.fn f [] []):=rfl
theorem UC:jL P op T a (.tmp t) b=ic P op T a b:=rfl
theorem UD:jL P op T a (.const (.int k n)) b=ic P op T a b:=rfl
theorem UE:jL P op T a (.const (.string s)) b=ic P op T a b:=rfl
theorem UF:jL P op T a (.const (.slice none 0 0)) b=D9 op (P.underlying T) (mQ a):=rfl
theorem UG:D9 op (some (.slice e)) b=oX op b:=rfl
theorem UH:oX .eql (some b)=some (.bool b):=rfl
theorem UI:mQ (.pv (.lit (.slice ad n c)))=some ad.isNone:=rfl
theorem UJ:kZ P hp S T (.own k a b c)=ib P hp S T (.own k a b c):=rfl
theorem UK:D7 (.pv p)=[]:=rfl
theorem UL:D6 (.ptr k off) hp=some (.ptr k off,hp):=rfl
theorem UM:D5 (.pv (.lit (.bool t))) x y hp=some (jK t (Qn t x) (Qn (!t) y),hp):=rfl
theorem UN:Qn G (.pv p)=.pv p:=rfl
theorem UO:Qn G (.ptr k o)=.ptr k o:=rfl
theorem UP:Qn G (.own k a b c)=.own k a b c:=rfl
theorem UQ:Qn G (.ip cs)=.ip cs:=rfl
theorem UR:Qn G (.agg cs)=.agg cs:=rfl
theorem US:Qn G (.tup cs)=.tup cs:=rfl
theorem UT:Qn G (.fn f a b)=.fn f a b:=rfl
def UU:Qn G (.opt g d)=wP (!G||g) g d:=by
 unfold Qn wP;grind
theorem UV:wP true g d=d:=rfl
theorem UW:aw none G d=d:=rfl
theorem UX:aw (some g) G d=.opt G d:=rfl
theorem UY:jK t (.pv (.lit (.bool p))) (.pv (.lit (.bool q)))=.bool (bif t then p else q):=rfl
theorem UZ:St.ev ⟨nt,base,tm,hp⟩ (.tmp t)=V.look tm t:=rfl
theorem U0:St.ev S (.const v)=iP v:=rfl
theorem U1:St.ev S (.func f)=.fn (.func f) [] []:=rfl
theorem U2:iP (.int k n)=.pv (.lit (.int k n)):=rfl
theorem U3:iP (.bool b)=.pv (.lit (.bool b)):=rfl
theorem U4:iP (.string s)=.pv (.str s.data.toList):=rfl
theorem U5:iP (.slice none 0 0)=.pv (.slc []):=rfl
theorem U6:St.put ⟨nt,base,tm,hp⟩ (some t) d=⟨nt,base,(t,d)::tm,hp⟩:=rfl
theorem U7:St.put S none d=S:=rfl
theorem U8:St.at ⟨nt,base,tm,hp⟩ hp2=⟨nt,base,tm,hp2⟩:=rfl
theorem U9:St.fits ⟨nt,base,tm,hp⟩ (some t)=decide (t<nt):=rfl
theorem Va:St.fits S none=true:=rfl
def Vb:V.look ((a,d)::r) t=mW (a==t) d r t:=by
 unfold mW;simp only[V.look,Bool.cond_eq_ite,beq_iff_eq]
theorem Vc:mW true d r t=d:=rfl
theorem Vd:mW false d r t=V.look r t:=rfl
theorem Ve:QJ all S ⟨dst,op,ty,pos,af,none⟩=some true:=rfl
theorem Vf:QJ all S ⟨dst,op,ty,pos,af,some (j,want)⟩=sg ((all[j]?.bind (·.dst)).map (V.look S.tm)) want:=rfl
theorem Vg:sg (some (.pv (.lit (.bool b)))) want=some (b==want):=rfl
theorem Vh:sg (some (.opt g (.pv (.lit (.bool b))))) want=some (g&&(b==want)):=rfl
theorem Vi:sg (some (.tup [])) want=some false:=rfl
theorem Vj:an P all [] K S=K S:=rfl
theorem Vk:vdr P all [] fs K S=K S:=rfl
def Vl:QH P .skip Q S=Q .normal S:=(rfl)
def Vm{id:Nat}:QH P (.region id ops false) Q S=an P ops.toList ops.toList (Q .normal) S:=(rfl)
def Vn{id:Nat}:QH P (.region id ops true) Q S=VDraw P id ops Q S:=(rfl)
def Vo:QH P (.seq a b) Q S=QH P a (fe Q (QH P b Q)) S:=(rfl)
def Vp{id:Nat}:QH P (.block id c) Q S=QH P c (eE id Q) S:=(rfl)
def Vq:QH P (.loop c) Q S=VLoop P c Q S:=(rfl)
def Vr{id:Nat}:QH P (.exit id) Q S=Q (.exit id) S:=(rfl)
def Vs:QH P .ret Q S=Q .ret S:=(rfl)
theorem Vt:fe Q K .normal S=K S:=rfl
theorem Vu:fe Q K .ret S=Q .ret S:=rfl
theorem Vv{id:Nat}:fe Q K (.exit id) S=Q (.exit id) S:=rfl
theorem Vw{id:Nat}:eE id Q .normal S=Q .normal S:=rfl
theorem Vx{id:Nat}:eE id Q .ret S=Q .ret S:=rfl
theorem Vy{id id2:Nat}:eE id Q (.exit id2) S=if id2=id then Q .normal S else Q (.exit id2) S:=rfl
theorem Vz:frz n hp (.agg cs)=(Qi (cs.map (aD n hp))).map .agg:=rfl
theorem VA:frz n hp (.pv p)=some (.pv p):=rfl
theorem VB:frz n hp (.own k a b c)=aD n hp (.own k a b c):=rfl
def VC:frz n hp (.tup cs)=(Qi (cs.map (fP n hp))).map .tup:=by
 simp only[frz];congr 2
theorem VD:fP n hp (.agg cs)=(Qi (cs.map (aD n hp))).map .agg:=rfl
theorem VE:fP n hp (.pv p)=some (.pv p):=rfl
theorem VF:fP n hp (.own k a b c)=aD n hp (.own k a b c):=rfl
theorem VG:aD n hp (.pv p)=some (.pv p):=rfl
theorem VH:aD n hp (.own k a b c)=if k<n then some (.own k a b c) else (bH n hp 4 (.own k a b c)).map .pv:=rfl
theorem VI:Qi ([]:List (Option α))=some []:=rfl
theorem yh:Qi (some a::r)=(Qi r).map (a::·):=rfl
def VJ:fw 0 hp=some []:=by
 simp[fw,Qi]
def VL:QQ P S [r]=cK P S r:=by
 unfold QQ;cases h:cK P S r<;>simp[Qi,h]
def VM:QQ P S (r :: s :: rs) = (Qi ((r :: s :: rs).map (cK P S))).map .tup:=by
 unfold QQ;cases h:Qi ((r::s::rs).map (cK P S)) with
 |none=>rfl
 |some ds =>
   have hl:=(QE h).1;match ds,hl with
   |a::b::t,_=>rfl
theorem VN:cK P S (.tmp t)=some (V.look S.tm t):=rfl
theorem VO:cK P S (.cell a T)=eD P S.hp T (V.look S.tm a):=rfl
def VQ:eD P hp T (.ptr k off)=vld (Qc hp k) (vt P T) off:=by
 unfold vld;rfl
theorem VS:eD P hp T (.ip cs)=wO cs (vt P T):=rfl
theorem VT:vld (some cs) (some none) off=cs[off]?:=rfl
theorem VU:vld (some cs) (some (some n)) off=if off+n<=cs.length then some (.agg ((cs.drop off).take n)) else none:=rfl
theorem VV:wO cs (some none)=cs[0]?.map .pv:=rfl
theorem VW:wO cs (some (some n))=if n<=cs.length then some (.agg ((cs.take n).map .pv)) else none:=rfl
def VX:jE P hp T (.ptr k off) d=vst hp k (Qc hp k) (vt P T) off d:=by
 unfold vst;rfl
theorem VY:vst hp k (some cs) (some none) off d=if off<cs.length/\d.one=true then some (Qm hp k (cs.set off d)) else none:=rfl
theorem VZ:vst hp k (some cs) (some (some n)) off (.agg ds)=if off+n<=cs.length/\ds.length=n/\Qp ds=true then some (Qm hp k (splice cs off ds)) else none:=rfl
def iL(h:hp[k]?=some ⟨ty,true,cs⟩):Qc hp k=some cs:=by
 simp[Qc,h]
theorem V0:Qc (⟨ty,true,cs⟩::r) 0=some cs:=rfl
theorem V1:Qc (B::r) (k+1)=Qc r k:=rfl
theorem V3:Qm (⟨ty,l,cs⟩::r) 0 ds=⟨ty,l,ds⟩::r:=rfl
def V4:Qm (B::r) (k+1) ds=B::Qm r k ds:=by
 unfold Qm;grind
theorem V5:mF hp T d=if Qp (fa d)=true then some (.ptr hp.length 0,hp++[⟨T,true,fa d⟩]) else none:=rfl
def V6:kW P hp T=wU hp T (QO P T):=by
 unfold kW wU;cases QO P T<;>rfl
theorem V7:wU hp T (some cs)=if Qp cs=true then some (.ptr hp.length 0,hp++[⟨T,true,cs⟩]) else none:=rfl
theorem V8:Qp []=true:=rfl
theorem V9:Qp (d::r)=(d.one&&Qp r):=rfl
theorem Wa:DV.one (.pv p)=true:=rfl
theorem Wb:DV.one (.own k a b c)=true:=rfl
theorem Wc:DV.one (.fn f a b)=true:=rfl
def Wd:g8 P T f (.ptr k off)=wR (Qg P T f) k off:=by
 simp only[g8,wR];cases Qg P T f<;>rfl
theorem We:wR (some (t,o,s)) k off=if s=0 then none else some (.ptr k (off+o)):=rfl
def Wg:g8 P T f (.ip cs)=wS (Qg P T f) cs:=by
 simp only[g8,wS];cases Qg P T f<;>rfl
theorem Wh:wS (some (t,o,s)) cs=if s=0 then none else some (.ip (cs.drop o)):=rfl
def Wi:kX P T f (.agg cs)=vfv P cs (Qg P T f):=by
 simp only[kX,vfv];cases Qg P T f<;>rfl
theorem Wj:vfv P cs (some (t,o,s))=hE P t cs o:=rfl
def Wl:hE P T cs off=vpt (vt P T) cs off:=by
 unfold hE vpt;cases vt P T with
 |none=>rfl
 |some o=>cases o<;>rfl
theorem Wm:vpt (some (some n)) cs off=if off+n<=cs.length then some (.agg ((cs.drop off).take n)) else none:=rfl
def Wn:g9 P T (.pv (.sl xs)) (.pv (.lit (.int k i))) = nK (QL P T) xs[i.toNat]? i:=by
 unfold nK g9;cases QL P T with
 |none=>rfl
 |some e =>
   obtain⟨a,b,c⟩:=e;cases a with
   |some n=>rfl
   |none=>cases h:xs[i.toNat]?<;>simp[cX,h]
def yg(h0:0<=i)(hl:c.length=sz)(hp:0<sz):nK (some (none,e,sz)) (some c) i=some (.ip c):=by
 simp[nK,h0,hl,hp]
def Wo:g9 P T (.own b sz off len) (.pv (.lit (.int k i))) = si (QL P T) b sz off len i:=by
 unfold si g9;grind
def Wp{sz b off len:Nat}{i:Int}(h0:0<=i)(hl:i<len):si (some (none,e,sz)) b sz off len i=some (.ptr b (off+i.toNat*sz)):=by
 simp[si,h0,hl]
def Wq:g9 P T (.ptr b off) (.pv (.lit (.int k i))) = sj (QL P T) b off i:=by
 unfold sj g9;cases QL P T with
 |none=>rfl
 |some e =>
   obtain⟨a,b,c⟩:=e;cases a<;>rfl
def Wr{n sz b off:Nat}{i:Int}(h0:0<=i)(hl:i<n):sj (some (some n,e,sz)) b off i=some (.ptr b (off+i.toNat*sz)):=by
 simp[sj,h0,hl]
def Ws:jF P T (.agg cs) (.pv (.lit (.int k i))) = sq P (QL P T) cs i:=by
 unfold sq jF;grind
def Wt{n sz:Nat}{i:Int}(h0:0<=i)(hl:i<n):sq P (some (some n,e,sz)) cs i=hE P e cs (i.toNat*sz):=by
 simp[sq,h0,hl]
def Wu:jF P T (.pv (.str l)) (.pv (.lit (.int k i)))=su (aB P T) l[i.toNat]? i:=by
 unfold su jF aB;grind
def Wv(h0:0<=i):su .str (some b) i=some (.pv (.lit (.int .u8 b.toNat))):=by
 simp[su,h0]
theorem Ww:ic P op T (.pv (.lit (.int k a))) (.pv (.lit (.int k2 b)))=Qz op k a k2 b:=rfl
theorem Wx:ic P op T (.pv (.str a)) (.pv (.str b))=jI op a b:=rfl
def Wy:Qz .add k a k b=some (.int k (k.wrap (a+b))):=by
 simp[Qz]
def Wz:Qz .sub k a k b=some (.int k (k.wrap (a-b))):=by
 simp[Qz]
def WA:Qz .mul k a k b=some (.int k (k.wrap (a*b))):=by
 simp[Qz]
def WB:Qz .and k a k b=some (.int k (bits .and k a b)):=by
 simp[Qz]
def WC:Qz .or k a k b=some (.int k (bits .or k a b)):=by
 simp[Qz]
def WD:Qz .xor k a k b=some (.int k (bits .xor k a b)):=by
 simp[Qz]
def WE:Qz .eql k a k b=some (.bool (a==b)):=by
 simp[Qz]
def WG:Qz .neq k a k b=some (.bool (a != b)):=by
 simp[Qz]
def WH:Qz .lss k a k b=some (.bool (decide (a<b))):=by
 simp[Qz]
def WI:Qz .leq k a k b=some (.bool (decide (a<=b))):=by
 simp[Qz]
def WJ:Qz .gtr k a k b=some (.bool (decide (b<a))):=by
 simp[Qz]
def WK:Qz .geq k a k b=some (.bool (decide (b<=a))):=by
 simp[Qz]
def WL(h:¬b=0):Qz .rem k a k b=some (.int k (a.tmod b)):=by
 simp[Qz,h]
def WM(h:¬b<0):Qz .shl k a k2 b=some (.int k (k.wrap (a*2 ^ min b.toNat k.bits))):=by
 simp[Qz,h]
def WN(h:¬b<0):Qz .shr k a k2 b=some (.int k (a.fdiv (2 ^ min b.toNat k.bits))):=by
 simp[Qz,h]
def ji(h:a.length+b.length<=9223372036854775807):jI .add a b=some (.str (a++b)):=by
 simp[jI,h]
theorem WO:jI .eql a b=some (.bool (a==b)):=rfl
theorem WQ:jI .neq a b=some (.bool (!(a==b))):=rfl
theorem WR:vun .not (.pv (.lit (.bool b)))=some (.bool (!b)):=rfl
theorem WS:vun .xor (.pv (.lit (.int .u32 n)))=some (.int .u32 (bits .xor .u32 4294967295 n)):=rfl
theorem WT:mM (.tup ds) i=ds[i]?:=rfl
def WU:fL P T (.pv (.sl xs))=vlk (aB P T) (.int .i64 xs.length):=by
 unfold fL vlk aB;cases P.underlying T with
 |none=>rfl
 |some u=>cases u<;>rfl
theorem WV:vlk (.sl e) d=some d:=rfl
def WW:fL P T (.pv (.slc xs))=vlk (aB P T) (.int .i64 xs.length):=by
 unfold fL vlk aB;cases P.underlying T with
 |none=>rfl
 |some u=>cases u<;>rfl
def WX:fL P T (.own k s o n)=vlk (aB P T) (.int .i64 n):=by
 unfold fL vlk aB;grind
def WY:fL P T (.pv (.str l))=vls (aB P T) l:=by
 unfold fL vls aB;cases P.underlying T with
 |none=>rfl
 |some u=>cases u<;>rfl
theorem WZ:vls .str l=some (.int .i64 l.length):=rfl
theorem W0:gz P hp .len #[T] [x]=(fL P T x).map fun d=>(d,hp):=rfl
theorem W1:gz P hp .append #[s,t] [x,y]=mP P hp s t x y:=rfl
theorem W2:mP P hp s t (.pv (.slc p)) y=kY P hp s t (.pv (.slc p)) y:=rfl
theorem W3:mP P hp s t (.own k a b c) y=kY P hp s t (.own k a b c) y:=rfl
def W4(h1:a=len)(h2:b=len):mX (some (none,e,sz)) k sz off len a b=some (.pv (.sl [])):=by
 subst h1 h2;simp[mX]
def W5 (h1:0<=j):bW P T (.own k sz off len) none (some (.pv (.lit (.int k2 j)))) none = sw (QL P T) k sz off len j.toNat:=by
 unfold bW sw;simp only[cY,dL,if_pos h1];grind
def W6 (h0:0<=i):bW P T (.own k sz off len) (some (.pv (.lit (.int k1 i)))) none none = mX (QL P T) k sz off len i.toNat len:=by
 unfold bW mX;simp only[cY,dL,if_pos h0];grind
def W7(h:b<=len):sw (some (none,e,s)) k sz off len b=some (.own k sz off b):=by
 simp[sw,h]
def W8(h1:a<len)(h2:a<=b)(h3:b<=len):mX (some (none,e,sz)) k sz off len a b=some (.own k sz (off+a*sz) (b-a)):=by
 simp[mX,h1,h2,h3]
def W9:gz P hp .min ts [.pv (.lit (.int k a)),.pv (.lit (.int k2 b))]=some (.int k (if b<a then b else a),hp):=by
 simp[gz,V.vmin]
def Xa:gz P hp .max ts [.pv (.lit (.int k a)),.pv (.lit (.int k2 b))]=some (.int k (if b > a then b else a),hp):=by
 simp[gz,V.vmax]
theorem Xb:V.parts ev #[]=[]:=rfl
theorem Xc:V.parts ev ⟨(i,x)::r⟩=(i,ev x)::V.parts ev ⟨r⟩:=rfl
theorem Xd:bj i []=[]:=rfl
theorem Xe:bj i (d::r)=(i,d)::bj (i+1) r:=rfl
theorem Xf:QX af f i []=true:=rfl
def Xg:QX af ([],b) i (g::r)=QX af ([],b) (i+1) r:=by
 simp[QX]
def Ea:QX af f i (([],b)::r)=QX af f (i+1) r:=by
 simp[QX]
def Xh:QX af ([k],b) i (([l],c)::r)=((!((c||b)&&(l==k))||af.toList.any fun e=>Region.binds .any e&&e.on==i)&&QX af ([k],b) (i+1) r):=by
 simp only[QX,List.any_cons,List.any_nil,Bool.or_false,List.contains,List.elem];grind
def Xi:ib P hp S T (.pv (.lit (.int k2 n))) = vci (aB P S) (aB P T) n hp:=by
 unfold ib oQ vci aB;cases P.underlying S with
 |none=>rfl
 |some u=>cases P.underlying T with
   |none=>cases u<;>rfl
   | some t => cases u<;>cases t<;>try rfl
               all_goals (simp only[iS,dM,cX];split<;>simp_all)
theorem Xj:vci (.int k0) (.int k) n hp=some (.int k (k.wrap n),hp):=rfl
theorem Xk:evG G S x=Qn G (S.ev x):=rfl
def Xl:an P all (o::r) K S=(S.fits o.dst=true/\pd P all o r K S (QJ all S o)):=by
 conv=>lhs;unfold an
 congr 1;unfold pd fg;cases QJ all S o with
 |none=>rfl
 |some G=>cases G<;>rfl
theorem Xm:pd P all o r K S (some G)=fg P all o r K S G:=rfl
theorem Xn:fg P all o r K S true=mU P all o r K S (Qo (evG true S) o.op):=rfl
theorem Xo:fg P all o r K S false=an P all r K (S.put o.dst (.tup [])):=rfl
theorem Xp:mU P all o r K S none=pc P all o r K S (vop P (evG true S) S.hp o.op):=rfl
theorem Xq:mU P all o r K S (some (g,args))=VCalls P g args S.hp (wN P all o r K S):=rfl
theorem Xr:pc P all o r K S (some (d,hp))=an P all r K ((S.at hp).put o.dst (aw o.guard true d)):=rfl
theorem Xs:wN P all o r K S d hp=an P all r K ((S.at hp).put o.dst (aw o.guard true d)):=rfl
def Xt:vdr P all (o::r) fs K S=(S.fits o.dst=true/\ph P all o r fs K S (QJ all S o)):=by
 conv=>lhs;unfold vdr
 congr 1;unfold ph fh;cases QJ all S o with
 |none=>rfl
 |some G=>cases G<;>rfl
theorem Xu:ph P all o r fs K S (some G)=fh P all o r fs K S G:=rfl
theorem Xv:fh P all o r fs K S true=pf P all o r fs K S (Qo (evG true S) o.op):=rfl
theorem Xw:fh P all o r fs K S false=vdr P all r (fs++[([],false)]) K (S.put o.dst (.tup [])):=rfl
theorem Xx:pf P all o r fs K S none=pe P all o r fs K S (ax (evG true S) o.op) (vop P (evG true S) S.hp o.op):=rfl
theorem Xy:pe P all o r fs K S f (some (d,hp))=(bf o.op=true/\QX o.after f 0 fs=true/\vdr P all r (fs++[f]) K ((S.at hp).put o.dst (aw o.guard true d))):=rfl
def Xz:QH P (.cond c a b) Q S=pj P a b Q S (S.ev c):=by
 conv=>lhs;unfold QH
 unfold pj;rfl
theorem XA:pj P a b Q S (.pv (.lit (.bool t)))=vbr P a b Q S t:=rfl
def XB:vbr P a b Q S true=QH P a Q S:=by
 simp[vbr,rZ]
def XC:vbr P a b Q S false=QH P b Q S:=by
 simp[vbr,rZ]
def XD:eG P rs n R .ret S=mV n S.hp R (QQ P S rs):=by
 unfold eG mV;cases QQ P S rs<;>rfl
def XE:gB P rs R .ret S=pk S.hp R (QQ P S rs):=by
 unfold gB pk;cases QQ P S rs<;>rfl
def XF:mV n hp R (some d)=pn R (frz n hp d) (fw n hp):=by
 simp only[mV,gA,pn]<;>cases frz n hp d<;>cases fw n hp<;>rfl
theorem XG:pk hp R (some d)=R d hp:=rfl
theorem XH:pn R (some d) (some hp)=R d hp:=rfl
theorem XI:St.hp ⟨nt,base,tm,hp⟩=hp:=rfl
theorem XJ:iT P hp T (.pv p) lo hi mx=bW P T (.pv p) lo hi mx:=rfl
theorem XK:iT P hp T (.own k a b c) lo hi mx=bW P T (.own k a b c) lo hi mx:=rfl
def XL:fw 1 (⟨ty,true,cs⟩::r)=wQ ty (Qi (cs.map (aD 1 (⟨ty,true,cs⟩::r)))):=by
 unfold fw wQ;simp only[List.take_succ_cons,List.take_zero,Js,List.map_nil,if_true];cases Qi (cs.map (aD 1 (⟨ty,true,cs⟩::r)))<;>rfl
theorem XM:wQ ty (some cs)=some [⟨ty,true,cs⟩]:=rfl
def XN (h1:0<=j):bW P T (.pv (.sl xs)) none (some (.pv (.lit (.int k2 j)))) none = cO (QL P T) xs 0 j.toNat:=by
 unfold bW cO;simp only[cX,cY,dL,if_pos h1];grind
def XO (h0:0<=i):bW P T (.pv (.sl xs)) (some (.pv (.lit (.int k i)))) none none = cO (QL P T) xs i.toNat xs.length:=by
 unfold bW cO;simp only[cX,cY,dL,if_pos h0];grind
def XP (h0:0<=i):bW P T (.pv (.slc xs)) (some (.pv (.lit (.int k i)))) none none = cO (QL P T) xs i.toNat xs.length:=by
 unfold bW cO;simp only[cX,cY,dL,if_pos h0];grind
def XQ(h1:0<=j):bW P T (.pv (.str xs)) none (some (.pv (.lit (.int k2 j)))) none=jO (aB P T) xs 0 j.toNat:=by
 unfold bW jO aB;simp only[cY,dL,if_pos h1];grind
def XR(h0:0<=i):bW P T (.pv (.str xs)) (some (.pv (.lit (.int k i)))) none none=jO (aB P T) xs i.toNat xs.length:=by
 unfold bW jO aB;simp only[cY,dL,if_pos h0];grind
def XS(h0:0<=i)(h1:0<=j):bW P T (.pv (.str xs)) (some (.pv (.lit (.int k i)))) (some (.pv (.lit (.int k2 j)))) none=jO (aB P T) xs i.toNat j.toNat:=by
 unfold bW jO aB;simp only[cY,dL,if_pos h0,if_pos h1];grind
def XT(h1:a<=b)(h2:b<=xs.length)(h3:xs[0]?.map J8=some sz):cO (some (none,e,sz)) xs a b=some (.pv (.sl ((xs.take b).drop a))):=by
 simp[cO,h1,h2,h3]
def XU:cO (some (none,e,sz)) [] 0 0=some (.pv (.sl [])):=by
 simp[cO]
def XV(h1:a<=b)(h2:b<=xs.length):jO .str xs a b=some (.pv (.str ((xs.take b).drop a))):=by
 simp[jO,h1,h2]
def XW:ic P op T (.agg xs) (.agg ys)=vba op (vt P T) (bJ P 8 T) (P.eqGuardType P.depth T) xs ys:=by
 unfold ic vba;rfl
def XX:vba .eql (some (some n)) (some l) false xs ys=(QZ xs ys l).map fun b=>.bool b:=by
 simp only[vba];cases QZ xs ys l<;>rfl
def XY:vba .neq (some (some n)) (some l) false xs ys=(QZ xs ys l).map fun b=>.bool (!b):=by
 simp only[vba];cases QZ xs ys l<;>rfl
def XZ:jK false x (.pv (.lit (.bool b))) = .bool b:=by
 cases x with
 |pv p=>cases p with
   |lit v=>cases v<;>rfl
   |_=>rfl
 |_=>rfl
def X0:jK true (.pv (.lit (.bool b))) x = .bool b:=by
 cases x with
 |pv p=>cases p with
   |lit v=>cases v<;>rfl
   |_=>rfl
 |_=>rfl
theorem X3:k9 (.tup ds)=[]:=rfl
@[congr] def Z6(P:Program)(all:List Oper)(o:Oper)(r:List Oper)(K:St->Prop)(S:St)(h:g=g'):pd P all o r K S g=pd P all o r K S g':=by rw[h]
@[congr] def Z7(P:Program)(all:List Oper)(o:Oper)(r:List Oper)(K:St->Prop)(S:St)(h:g=g'):fg P all o r K S g=fg P all o r K S g':=by rw[h]
@[congr] def Z8(P:Program)(all:List Oper)(o:Oper)(r:List Oper)(K:St->Prop)(S:St)(h:c=c'):mU P all o r K S c=mU P all o r K S c':=by rw[h]
@[congr] def Z9(P:Program)(all:List Oper)(o:Oper)(r:List Oper)(K:St->Prop)(S:St)(h:x=x'):pc P all o r K S x=pc P all o r K S x':=by rw[h]
@[congr] def QGg(P:Program)(all:List Oper)(o:Oper)(r:List Oper)(fs:List (List Nat×Bool))(K:St->Prop)(S:St)(h:g=g'):ph P all o r fs K S g=ph P all o r fs K S g':=by rw[h]
@[congr] def QGc(P:Program)(all:List Oper)(o:Oper)(r:List Oper)(fs:List (List Nat×Bool))(K:St->Prop)(S:St)(h:g=g'):fh P all o r fs K S g=fh P all o r fs K S g':=by rw[h]
@[congr] def QGf(P:Program)(all:List Oper)(o:Oper)(r:List Oper)(fs:List (List Nat×Bool))(K:St->Prop)(S:St)(h:c=c'):pf P all o r fs K S c=pf P all o r fs K S c':=by rw[h]
@[congr] def QCK(P:Program)(a b:Code)(Q:Exit->St->Prop)(S:St)(h:c=c'):pj P a b Q S c=pj P a b Q S c':=by rw[h]
@[congr] def QGD(P:Program)(a b:Code)(Q:Exit->St->Prop)(S:St)(h:t=t'):vbr P a b Q S t=vbr P a b Q S t':=by rw[h]
@[congr] def QGa(n:Nat)(hp:Qb)(R:DV->Qb->Prop)(h:r=r'):mV n hp R r=mV n hp R r':=by rw[h]
@[congr] def QC3(d:DV)(r:List (Nat×DV))(t:Nat)(h:b=b2):mW b d r t=mW b2 d r t:=by rw[h]
@[congr] def QC6(hp:Qb)(R:DV->Qb->Prop)(h:r=r'):pk hp R r=pk hp R r':=by rw[h]
@[congr] def QGe(P:Program)(all:List Oper)(o:Oper)(r:List Oper)(fs:List (List Nat×Bool))(K:St->Prop)(S:St)(h:f=f')(g:x=x'):pe P all o r fs K S f x=pe P all o r fs K S f' x':=by rw[h,g]
@[congr] def QC7(R:DV->Qb->Prop)(a:r=r')(b:h=h'):pn R r h=pn R r' h':=by rw[a,b]
@[congr] def QF8(P:Program)(all ops:List Oper)(K:St->Prop)(h:S=S'):an P all ops K S=an P all ops K S':=by rw[h]
@[congr] def QGx(P:Program)(all ops:List Oper)(fs:List (List Nat×Bool))(K:St->Prop)(h:S=S'):vdr P all ops fs K S=vdr P all ops fs K S':=by rw[h]
@[congr] def QDd(P:Program)(c:Code)(Q:Exit->St->Prop)(h:S=S'):QH P c Q S=QH P c Q S':=by rw[h]
end Go.V
namespace Go.V
abbrev Ret(d:DV):DV->Qb->Prop:=fun r h'=>h'=[]/\r.nums (fun _=>false)=true/\r=d
def bZ(c:VCalls P g args [] (Ret d))(ha:DV.nums.go (fun _=>false) args=true)(h:K d hp):VCalls P g args hp K:=
 (VCalls.pure (R:=fun r=>r=d) c ha).mono fun r h' e=>by obtain⟨rfl,rfl⟩:=e;exact h
def X4{g:FuncId}{args:List DV}{hp:Qb}{K:DV->Qb->Prop}{R:DV->Prop}(c:VCalls P g args [] fun r h'=>h'=[]/\r.nums (fun _=>false)=true/\R r)(ha:DV.nums.go (fun _=>false) args=true)(h:∀r,R r->K r hp):VCalls P g args hp K:=
 (VCalls.pure c ha).mono fun r h' e=>by obtain⟨rfl,e⟩:=e;exact h r e
def X5(c:VCalls P g args [] (Ret d))(ha:DV.nums.go (fun _=>false) args=true)(hd:d.nums (fun _=>false)=true)(h:K d):vdc P g args K:=
 ⟨d,c.mono fun _ _ e=>⟨e.1,e.2.2⟩,ha,hd,h⟩
end Go.V
namespace Go.V
structure Gc(keep:List Nat)(S S':St):Prop where
 nt:S'.nt=S.nt
 base:S'.base=S.base
 low:∀k,k<S.base->keep[k]?=some k
 nodup:keep.Nodup
 len:S'.hp.length=keep.length
 hp:∀(i k:Nat),keep[i]?=some k->∃B B',S.hp[k]?=some B/\S'.hp[i]?=some B'/\B'.ty=B.ty/\B'.live=B.live/\B'.cells=B.cells.map (DV.ren fun k=>keep.idxOf k)/\(B.live=true->DV.nums.go keep.contains B.cells=true)
 tm:∀t,V.look S'.tm t=.any\/(V.look S'.tm t=(V.look S.tm t).ren (fun k=>keep.idxOf k)/\(V.look S.tm t).nums keep.contains=true)
def Sim.gc (h:Sim O β S a w) (g:Gc keep S S'):∃β',Sim O β' S' a w:=by
 let β':Map:=⟨fun i=>(keep[i]?).bind β.f,β.X⟩
 have hO:O.hp.length=S.base:=h.base
 have back:∀{i:Nat} {B':Blk},S'.hp[i]?=some B'->∃k B,keep[i]?=some k/\S.hp[k]?=some B/\B'.ty=B.ty/\B'.live=B.live/\B'.cells=B.cells.map (DV.ren fun k=>keep.idxOf k)/\(B.live=true->DV.nums.go keep.contains B.cells=true)/\β'.f i=β.f k:=by
  intro i B' hi;have hlt:i<keep.length:=by rw[<-g.len];exact(Jc.1 hi).1
  have hk:keep[i]?=some keep[i]:=Jd hlt;obtain⟨B,B'',h1,h2,h3,h4,h5,h6⟩:=g.hp i _ hk;rw[hi] at h2;cases h2;exact⟨_,B,hk,h1,h3,h4,h5,h6,by simp[β',hk]⟩
 have hsub:∀b,live β' S'.hp b->live β S.hp b:=by
  rintro b ⟨i,B',h1,h2,h3⟩;obtain⟨k,B,_,k2,_,k4,_,_,k7⟩:=back h1;exact⟨k,B,k2,by rw[<-k4];exact h2,by rw[<-k7];exact h3⟩
 have him:∀b,img β' S'.hp b->img β S.hp b:=fun b hb=>hb.imp id (hsub b)
 have hσ:∀k,keep.contains k=true->k<S.hp.length->keep.idxOf k<S'.hp.length/\β'.f (keep.idxOf k)=β.f k:=by
  intro k hk _;have hm:k∈keep:=by simpa using hk
  have hlt:=JM hm;refine⟨by rw[g.len];exact hlt,?_⟩;simp[β',Jd hlt]
 refine⟨β',h.defers,by rw[g.nt];exact h.size,fun t=>?_,?_,?_,h.base.trans g.base.symm⟩
 ·rcases g.tm t with e|⟨e,hn⟩
  ·rw[e];exact .any _
  ·rw[e];exact RelD.ren hσ him (h.tm t) hn
 ·have hh:=h.heap;refine⟨fun i B' b h1 h2 h3=>?_,fun i B' h1 h2 h3=>?_,fun i j B B' b h1 h2 h3 h4 h5 h6=>?_,fun i B' b h1 h2 h3=>?_,hh.bound⟩
  ·obtain ⟨k,B,k1,k2,k3,k4,k5,k6,k7⟩:=back h1;rw[k7] at h3;have hl:B.live=true:=by rw[<-k4];exact h2
   obtain⟨C,c1,c2,c3⟩:=hh.blk k B b k2 hl h3;refine⟨C,by rw[k3];exact c1,by rw[k5,JN];exact c2,fun j d hd=>?_⟩;rw[k5,Jg] at hd;cases hx:B.cells[j]? with
   |none=>simp[hx] at hd
   |some x =>
     simp[hx] at hd;subst hd;obtain⟨o1,o2⟩:=c3 j x hx;refine⟨?_,RelD.ren hσ him o2 (DV.nums_go (k6 hl) j x hx)⟩;cases x<;>first|rfl|exact o1
  ·obtain ⟨k,B,k1,k2,k3,k4,k5,k6,k7⟩:=back h1;rw[k7] at h3;rw[k5,hh.none k B k2 (by rw[<-k4];exact h2) h3];rfl
  ·obtain ⟨k,D,k1,k2,k3,k4,k5,k6,k7⟩:=back h1;obtain⟨k',D',l1,l2,l3,l4,l5,l6,l7⟩:=back h2;rw[k7] at h5;rw[l7] at h6;have:=hh.inj k k' D D' b k2 l2 (by rw[<-k4];exact h3) (by rw[<-l4];exact h4) h5 h6;subst this;obtain⟨hi,e1⟩:=Jc.1 k1;obtain⟨hj,e2⟩:=Jc.1 l1;exact(List.getElem_inj g.nodup).1 (e1.trans e2.symm)
  ·obtain ⟨k,B,k1,k2,k3,k4,k5,k6,k7⟩:=back h1;rw[k7] at h3;exact hh.avoid k B b k2 (by rw[<-k4];exact h2) h3
 ·have ev:=h.evo;have hlow:∀k,k<O.hp.length->β'.f k=β.f k:=fun k hk=>by simp[β',g.low k vz]
  refine⟨ev.os,ev.tape,ev.output,ev.size,?_,fun k hk=>(hlow k hk).trans (ev.beta k hk),ev.same,ev.shape,fun b hb hl=>ev.im b hb (hsub b hl),ev.X⟩;rw[g.len];by_cases h0:O.hp.length=0
  ·omega
  ·have:=g.low (O.hp.length - 1) vz;have:=(Jc.1 this).1;omega
def gC(S S':St):Prop:=Le S S'\/∃keep,Gc keep S S'
def Sim.weak(h:Sim O β S a w)(g:gC S S'):∃β',Sim O β' S' a w:=by
 rcases g with g|⟨keep,g⟩
 ·exact⟨β,h.le g⟩
 ·exact h.gc g
def Qj {c:Code} {Q:Exit->St->Prop} {ι:Type} (I:ι->St) (μ:ι->Nat) (i₀:ι) (h₀:gC S (I i₀)) (round:∀i,QH P c (fe Q fun S'=>∃j,μ j < μ i/\gC S' (I j)) (I i)):VLoop P c Q S:=by
 intro O β a w hs b k cs
 have key:∀n β i a w,μ i = n->Sim O β (I i) a w ->
  ∃e a' w',du O Q e a' w'/\Arrives P (lone (b.at a (.code c::.inLoop c::k)) cs w) b k cs e a' w':=by
  intro n;induction n using JL with
  |_ n ih =>
    intro β i a w hn hs;obtain⟨e,a₁,w₁,hq,harr⟩:=Qx c _ _ (round i) O β a w hs b (.inLoop c::k) cs;obtain⟨β₁,S₁,hs₁,hq⟩:=hq;cases e with
    |normal =>
      obtain⟨j,hlt,hle⟩:=hq;obtain⟨β₂,hs₂⟩:=hs₁.weak hle;obtain⟨e₂,a₂,w₂,hq₂,harr₂⟩:=ih (μ j) (hn▸hlt) β₂ j a₁ w₁ rfl hs₂;exact⟨e₂,a₂,w₂,hq₂,.of_steps (Steps.trans harr (.one step_inLoop)) harr₂⟩
    |exit id=>exact⟨_,a₁,w₁,⟨β₁,S₁,hs₁,hq⟩,.pass (x:=.inLoop c) rfl (fun _ _=>.inl vv) harr⟩
    |goto l=>exact⟨_,a₁,w₁,⟨β₁,S₁,hs₁,hq⟩,.pass (x:=.inLoop c) rfl (fun _ _=>.inl vv) harr⟩
    |ret=>exact⟨_,a₁,w₁,⟨β₁,S₁,hs₁,hq⟩,.pass (x:=.inLoop c) rfl (fun _ _=>.inl vv) harr⟩
    |panic ch=>exact⟨_,a₁,w₁,⟨β₁,S₁,hs₁,hq⟩,.pass (x:=.inLoop c) rfl (fun _ _=>.inl vv) harr⟩
    |outgrown=>exact⟨_,a₁,w₁,⟨β₁,S₁,hs₁,hq⟩,.pass (x:=.inLoop c) rfl (fun _ _=>.inl vv) harr⟩
 obtain⟨β₀,hs₀⟩:=hs.weak h₀;obtain⟨e,a',w',hq,harr⟩:=key _ β₀ i₀ a w rfl hs₀;exact⟨e,a',w',hq,.of_steps (.one step_loop) harr⟩
mutual
def iJ (σ:Nat->Nat):∀(d:DV),d.nums (fun _=>false) = true->d.ren σ = d
 |.pv _,_=>rfl
 |.ptr _ _,h=>by simp[DV.nums] at h
 |.own _ _ _ _,h=>by simp[DV.nums] at h
 |.ownc _ _ _ _ _,h=>by simp[DV.nums] at h
 |.ip _,_=>rfl
 |.any,_=>rfl
 |.agg cs,h=>by simp only[DV.ren];rw[ig σ cs h]
 |.tup cs,h=>by simp only[DV.ren];rw[ig σ cs h]
 |.fn f a b,h=>by
   simp only[DV.nums,Jb] at h;simp only[DV.ren];rw[ig σ a h.1,ig σ b h.2]
 |.opt c d,h=>by simp only[DV.ren];rw[iJ σ d h]
def ig (σ:Nat->Nat):∀(ds:List DV),DV.nums.go (fun _=>false) ds = true->DV.ren.go σ ds = ds
 |[],_=>rfl
 |d :: r,h=>by
   simp only[DV.nums.go,Jb] at h;simp only[DV.ren.go];rw[iJ σ d h.1,ig σ r h.2]
end
mutual
def Eb (p:Nat->Bool):∀(d:DV),d.nums (fun _=>false) = true->d.nums p = true
 |.pv _,_=>rfl
 |.ptr _ _,h=>by simp[DV.nums] at h
 |.own _ _ _ _,h=>by simp[DV.nums] at h
 |.ownc _ _ _ _ _,h=>by simp[DV.nums] at h
 |.ip _,_=>rfl
 |.any,_=>rfl
 |.agg cs,h=>Q0 p cs h
 |.tup cs,h=>Q0 p cs h
 |.fn f a b,h=>by
   simp only[DV.nums,Jb] at h |-;exact⟨Q0 p a h.1,Q0 p b h.2⟩
 |.opt c d,h=>Eb p d h
def Q0 (p:Nat->Bool):∀(ds:List DV),DV.nums.go (fun _=>false) ds = true->DV.nums.go p ds = true
 |[],_=>rfl
 |d :: r,h=>by
   simp only[DV.nums.go,Jb] at h |-;exact⟨Eb p d h.1,Q0 p r h.2⟩
end
def sx(keep:List Nat)(tm:List (Nat×DV)):List (Nat×DV)->Prop
 |[]=>True
 |(t,d)::r=>(d=(V.look tm t).ren (fun k=>keep.idxOf k)/\(V.look tm t).nums keep.contains=true)/\sx keep tm r
def Ec:∀{tm':List (Nat × DV)},sx keep tm tm'->∀t,V.look tm' t = .any\/(V.look tm' t = (V.look tm t).ren (fun k=>keep.idxOf k)/\(V.look tm t).nums keep.contains = true)
 |[],_,t=>.inl rfl
 |(a,d) :: r,h,t=>by
   simp only[V.look];split
   ·rename_i e;subst e;exact .inr h.1
   ·exact Ec h.2 t
def X6(keep:List Nat)(cs cs':List DV):Prop:=(DV.nums.go (fun _=>false) cs=true/\cs'=cs)\/(cs'=cs.map (DV.ren fun k=>keep.idxOf k)/\DV.nums.go keep.contains cs=true)
def sy(keep:List Nat)(hp:Qb):List Nat->Qb->Prop
 |[],[]=>True
 |k::r,B'::r'=>(∃B,hp[k]?=some B/\B'.ty=B.ty/\B'.live=B.live/\X6 keep B.cells B'.cells)/\sy keep hp r r'
 |_,_=>False
def wV:∀{l:List Nat} {hp':Qb},sy keep hp l hp'->hp'.length = l.length/\∀(i k:Nat),l[i]? = some k->∃B B',hp[k]? = some B/\hp'[i]? = some B'/\B'.ty = B.ty/\B'.live = B.live/\B'.cells = B.cells.map (DV.ren fun k=>keep.idxOf k)/\(B.live = true->DV.nums.go keep.contains B.cells = true)
 |[],[],_=>⟨rfl,fun i k h=>by simp at h⟩
 |[],_::_,h=>h.elim
 |_::_,[],h=>h.elim
 |k0 :: r,B' :: r',h=>by
   obtain⟨⟨B,h1,h2,h3,h4⟩,h5⟩:=h;obtain⟨g1,g2⟩:=wV h5;refine⟨by simp[g1],fun i k hk=>?_⟩;cases i with
   |zero =>
     simp at hk;subst hk;refine⟨B,B',h1,rfl,h2,h3,?_⟩;rcases h4 with⟨n,e⟩|⟨e,n⟩
     ·exact⟨by rw[e,<-DV.ren_go,ig _ _ n],fun _=>Q0 _ _ n⟩
     ·exact⟨e,fun _=>n⟩
   |succ i=>exact g2 i k (by simpa using hk)
def xB(h1:S'.nt=S.nt)(h2:S'.base=S.base)(h3:keep.take S.base=Jk S.base)(h4:keep.Nodup)(h5:sy keep S.hp keep S'.hp)(h6:sx keep S.tm S'.tm):gC S S':=
 .inr ⟨keep,h1,h2,fun k hk=>by
  have:(keep.take S.base)[k]?=some k:=by rw[h3];simp[hk]
  rw[JP] at this
  simpa [hk] using this,h4,(wV h5).1,(wV h5).2,Ec h6⟩
end Go.V
namespace Go.V
open Go.RowKit Go.WideShapes Go.ChangeShapes
def β0:Map:=⟨fun _=>none,fun _=>False⟩
def X7(w:World):HeapRel w β0 []:=⟨vv,vv,vv,vv,fun _ h=>h.elim⟩
def X8(hb:∃fn,P.funcs[g]?=some fn/\fn.body.isNone=false)(c:VCalls P g ds [] (Ret (.bool true)))(h:RelL w β0 [] ds vs):
 Calls P g vs w fun e w'=>e=.returned (.bool true)/\Below w.heap.size w w':=by
 rcases c.run w β0 vs (X7 w) h with⟨_,_,_,_,h4⟩|⟨fn,_,_,h1,h2,_⟩;rotate_left
 ·obtain ⟨fn',k1,k2⟩:=hb;rw[h1] at k1;cases k1;rw[h2] at k2;cases k2
 refine h4.mono fun e w' ⟨v,r,h',β',he,ev,_,hr,_,_,hd⟩=>?_;subst hd;obtain rfl:=Qk hr;exact⟨he,ev.os,ev.tape,ev.output,ev.size,fun k hk=>ev.same k hk (by rintro⟨_,_,h,_⟩;simp at h)⟩
section
variable {H:Type} {enc:TypeId×Value->H} {P:Program}
theorem Ed (hl:laidOutB P = true) (hb:Below W.heap.size W W'):∀{ts:List TypeId} {vs:List Value} {ds:List (DataW H)} {ps:List MemPlace},
 (ts.all fun t=>P.readableRec t&&decide (t<P.types.size))=true->DataW.TrodAll enc P W 0 (fun _=>true) true ts vs ds ps->(∀x∈ps,x.block<W.heap.size)->(∀x∈ps,sp x.block=true)->DataW.TrodAll enc P W' 0 sp true ts vs ds ps
 |[],_,_,_,_,h,_,_=>by
   obtain⟨rfl,rfl,rfl⟩:=trodAll_nil h;exact rfl
 |t :: ts,_,_,_,hr,h,hlt,hs=>by
   obtain⟨v,vs1,d,ds1,a,b,rfl,rfl,rfl,h1,h2⟩:=trodAll_cons h;simp only[List.all_cons,Jb,decide_eq_true_eq] at hr
   exact⟨a,b,WideElems.Trod_stays hl hr.1.1 hr.1.2 h1 (fun x hx=>hb.same (hlt x (Jj _ hx))) (fun x hx=>hs x (Jj _ hx)),
    Ed hl hb (by simpa using hr.2) h2 (fun x hx=>hlt x (Jh _ hx)) (fun x hx=>hs x (Jh _ hx)),rfl⟩
theorem X9{f:Func}{s:ChangeSpec}{args:Array Value}(hW:DataW.Whole enc P f.params.toList s.vars apart W args.toList ds gs before)(hl:laidOutB P=true)(hts:(f.params.toList.all fun t=>P.readableRec t&&decide (t<P.types.size))=true)(hvs:s.vars=[])(hres:f.resultTypes=#[Tb])(hTb:P.underlying Tb=some .bool)(hr:(s.fn H ds).results=[.lit (.bool true)])(ha:(s.fn H ds).args=ds)(hv:(s.fn H ds).vars=[])(hb:Below W.heap.size W W'):s.post enc P f apart fresh handsOn again W args (.bool true) W':=by
 have hlt:∀p∈before,p.block<W.heap.size:=fun p hp=>hW.lt p hp;have hold:∀p∈before,(fun b=>decide (b<W.heap.size)) p.block=true:=fun p hp=>by simpa using hlt p hp
 have hW2:=hW;obtain⟨p,q,hA,hV,hpq,hz,hn⟩:=hW2;rw[hvs] at hV;obtain⟨rfl,rfl⟩:=trodVars_none hV;have hpb:before=p:=by simpa using hpq
 subst hpb
 have hargs:∀sp:Nat->Bool,(∀x∈before,sp x.block=true)->DataW.TrodAll enc P W' 0 sp true f.params.toList args.toList (s.fn H (ds++[])).args before:=fun sp hs=>by
  rw[JX,ha];exact Ed hl hb hts hA hlt hs
 have hres':∀(b:Nat) (sp:Nat->Bool) (hd:Bool),DataW.TrodAll enc P W' b sp hd f.resultTypes.toList ((Value.bool true).resultList f.resultTypes.size) (s.fn H (ds++[])).results []:=fun b sp hd=>by
  rw[JX,hr,hres];exact trodAll_mk1 (shut_bool hTb true)
 have hvars:∀sp:Nat->Bool,DataW.TrodVars enc P W' sp s.vars (s.fn H (ds++[])).vars []:=fun sp=>by
  rw[JX,hv,hvs];exact rfl
 refine⟨ds,[],before,[],before,[],hW,hres' _ _ _,hargs _ hold,hvars _,World.keptBut_mono (fun p hp=>⟨hp,?_⟩) (hb.frame (·∈before)),fun _=>?_⟩
 ·simpa using hp
 ·refine ⟨ok_one hres rfl (by simp [Value.okWide,hTb,Cell.okWide,Cell.ok]),_,_,([] ++ before) ++ [],⟨[] ++ before,[],trodAll_append (hargs _ (fun _ _=>rfl)) (hres' _ _ _),hvars _,rfl,?_,?_⟩,?_⟩
  ·intro b off hp;have hin:MemPlace.cell b off∈before:=by simpa using hp
   rw[hb.frozen (hlt _ hin)];exact hz b off hin
  ·intro ha;simpa using hn ha
  ·intro p hp _;simpa using hp
def su8(l:List UInt8):List (List PV):=l.map fun b=>[.lit (.int .u8 b.toNat)]
theorem Ya{W:World}{a:Addr}(h:W.cell? a=some v):a.block<W.heap.size:=by
 by_cases hb:a.block<W.heap.size
 ·exact hb
 ·have:W.heap[a.block]? = none:=vg;simp[World.cell?,this] at h
theorem Yb (ht:P.underlying t = some (.slice e)) (he:P.underlying e = some (.int .u8)) (hc:P.cellsOf e = 1) (hval:Value.okWide P W r b0 t v) (h:DataW.Trod enc P W 0 (fun _=>true) true t v d ps):
 ∃l:List UInt8,RelD W β0 [] (.pv (.sl (su8 l))) v/\l.length<=maxLen:=by
 obtain⟨a0,len,cap,rfl⟩:=okWide_slice ht hval;obtain⟨fuel,hf⟩:=h;rcases open_ints ht he hc hf with⟨h1,_⟩|⟨a,len',cap',zs,h1,_,hl,hm,hz,_,hcell,hwf⟩
 ·simp [Value.cells] at h1;obtain⟨rfl,rfl,rfl⟩:=h1;exact⟨[],.pv _ _ (.sl [] none 0 1 (fun _ _=>undef) (Jw _) (JK _) vv vv vv vv),vv⟩
 ·simp [Value.cells] at h1;obtain⟨rfl,rfl,rfl⟩:=h1;simp only[if_true] at hz
  have hsp:a.spot=none:=by
   simp[Value.okWide,ht,Cell.okWide,Cell.ok,World.has] at hval;exact hval.2.2.2.1
  have hwf':∀i,i<zs.length->0<=zs.getD i 0/\zs.getD i 0<=255:=fun i hi=>by
   have:=hwf _ (List.getElem_mem hi)
   have this:0<=zs[i]/\zs[i]<=255:=by
    simp only[Lit.wf,Jb,decide_eq_true_eq] at this;exact this
   rw[Ji,Jd hi,J2];exact this
  let l:List UInt8:=(zs.take len).map fun n=>UInt8.ofNat n.toNat
  have hll:l.length=len:=by simp[l,hz];omega
  have hgl:∀i,i<len->(su8 l)[i]?=some [.lit (.int .u8 (zs.getD i 0))]:=fun i hi=>by
   have hi':i<zs.length:=vz;have:=hwf' i hi';rw[Ji,Jd hi',J2] at this |-;simp only[su8,l,List.map_map,Jg,JP,hi,if_true,Jd hi',JE,Function.comp]
   have e:((UInt8.ofNat (zs[i].toNat)).toNat:Int)=zs[i]:=by
    rw[UInt8.toNat_ofNat'];omega
   rw[e]
  have hsl:(su8 l).length=len:=by simp[su8,hll]
  have hat:∀i,i < len->∃ad,some a = some ad/\ad.block < W.heap.size/\¬img β0 [] ad.block/\W.cell? (at_ ad (i * 1 + 0)) = some (.int .u8 (zs.getD i 0)):=fun i hi=>by
   have h:=hcell i vz;have hs:=World.cell?_spot h;refine⟨a,rfl,?_,?_,?_⟩
   ·have:=Ya h;obtain⟨b,off,sp⟩:=a;simp only at hsp
    subst hsp;rw[add_plain] at this;exact this
   ·rintro (h|⟨_,_,h,_⟩)
    ·exact h
    ·simp at h
   ·have e:at_ a (i * 1 + 0) = a.add i:=by
     obtain⟨b,off,sp⟩:=a;simp only at hsp
     subst hsp;rw[add_plain];simp[at_]
    rw[e];exact h
  refine⟨l,.pv _ _ ?_,vz⟩
  have key:RelP W (img β0 []) (.sl (su8 l)) (.slice (some a) (su8 l).length cap):=by
   refine .sl (su8 l) (some a) cap 1 (fun i _=>.int .u8 (zs.getD i 0)) vz hm (fun i c hi=>?_) (fun ad had _=>?_) (fun i j c d hi hj=>?_) (fun i j c d hi hj=>?_)
   ·have hlt:i < len:=by rw [<-hsl];exact (Jc.1 hi).1
    rw[hgl i hlt] at hi;cases hi;rfl
   ·cases had;exact hsp
   ·have hlt:i < len:=by rw [<-hsl];exact (Jc.1 hi).1
    rw[hgl i hlt] at hi;cases hi;cases j with
    |zero=>exact hat i hlt
    |succ j=>simp at hj
   ·have hlt:i < len:=by rw [<-hsl];exact (Jc.1 hi).1
    rw[hgl i hlt] at hi;cases hi;cases j with
    |zero=>simp at hj;subst hj;exact .lit _ rfl
    |succ j=>simp at hj
  rw[hsl] at key;exact key
end
structure RelOf(W:World) where
 d:DV
 v:Value
 h:RelD W β0 [] d v
def Yc(l:List (RelOf W)):RelL W β0 [] (l.map (·.d)) (l.map (·.v)).toArray:=by
 refine⟨vv,fun i d hi=>?_⟩;rw[Jg] at hi;cases h:l[i]? with
 |none=>simp[h] at hi
 |some r=>simp[h] at hi;subst hi;simpa [Jv,h] using r.h
end Go.V
namespace Go.V
def CellV(P:Program)(u:TypeId)(d:DV):Prop:=
 (∃k n,P.underlying u=some (.int k)/\d=.int k n/\(Lit.int k n).wf=true)\/(P.underlying u=some .bool/\∃b,d=.bool b)\/(P.underlying u=some .string/\∃s,d=.pv (.str s))
def CellV.int(h:CellV P u d)(hu:P.underlying u=some (.int k)):∃n,d=.int k n/\(Lit.int k n).wf=true:=by
 rcases h with⟨k',n,h1,h2,h3⟩|⟨h1,_⟩|⟨h1,_⟩
 ·rw[hu] at h1;cases h1;exact⟨n,h2,h3⟩
 ·rw[hu] at h1;cases h1
 ·rw[hu] at h1;cases h1
def CellV.bool(h:CellV P u d)(hu:P.underlying u=some .bool):∃b,d=.bool b:=by
 rcases h with⟨k',n,h1,h2,h3⟩|⟨h1,h2⟩|⟨h1,_⟩
 ·rw[hu] at h1;cases h1
 ·exact h2
 ·rw[hu] at h1;cases h1
def CellV.str(h:CellV P u d)(hu:P.underlying u=some .string):∃s,d=.pv (.str s):=by
 rcases h with⟨k',n,h1,h2,h3⟩|⟨h1,_⟩|⟨h1,h2⟩
 ·rw[hu] at h1;cases h1
 ·rw[hu] at h1;cases h1
 ·exact h2
end Go.V
namespace Go.V
open Go.ChangeShapes Go.WideShapes Go.Deep
inductive PS|int (k:IntKind)|bool|str
inductive CK|pl (s:PS)|rows (r:List PS)
def wW {α:Type} (P:Program) (f:TypeId->Option (List α)):List Field->Nat->Option (List α)
 |[],_=>some []
 |g :: r,off=>match f g.type with
   |some x=>if g.offset=off/\P.cellsOf g.type=x.length then (wW P f r (off+x.length)).map (x++·) else none
   |none=>none
def Ee (P:Program):Nat->TypeId->Option (List PS)
 |0,_=>none
 |n + 1,t=>match P.underlying t with
   |some (.int k)=>some [.int k]
   |some .bool=>some [.bool]
   |some .string=>some [.str]
   |some (.struct fs)=>match wW P (Ee P n) fs.toList 0 with
     |some x=>if P.cellsOf t=x.length then some x else none
     |none=>none
   |_=>none
def l9 (P:Program):Nat->TypeId->Option (List CK)
 |0,_=>none
 |n + 1,t=>match P.underlying t with
   |some (.int k)=>some [.pl (.int k)]
   |some .bool=>some [.pl .bool]
   |some .string=>some [.pl .str]
   |some (.slice e)=>match Ee P n e with
     |some r=>if P.cellsOf e=r.length/\0<r.length then some [.rows r] else none
     |none=>none
   |some (.struct fs)=>match wW P (l9 P n) fs.toList 0 with
     |some x=>if P.cellsOf t=x.length then some x else none
     |none=>none
   |_=>none
section
variable {H:Type} {enc:TypeId×Value->H} {P:Program} {W:World} {spare:Nat->Bool} {held:Bool}
end
end Go.V
namespace Go.V
def aG(σ:Nat->Nat)(B:Blk):Blk:={ B with cells:=B.cells.map (DV.ren σ) }
def od(hp:Qb)(sel:List Nat):Option Qb:=Qi (sel.map fun k=>(hp[k]?).map (aG fun j=>sel.idxOf j))
def l8(hp:Qb)(sel:List Nat):Bool:=sel.all fun k=>match hp[k]? with|some B=>!B.live||DV.nums.go sel.contains B.cells|none=>false
def back(sel:List Nat)(n:Nat)(i:Nat):Nat:=if i<sel.length then sel.getD i 0 else n+(i-sel.length)
def Q6(hp:Qb)(sel:List Nat)(h':Qb):Qb:=
 ((Jk hp.length).map fun k=>if sel.contains k then aG (back sel hp.length) (h'.getD (sel.idxOf k) default) else hp.getD k default)++(h'.drop sel.length).map (aG (back sel hp.length))
mutual
def po:∀(d:DV),d.nums (fun _=>true)=true
 |.pv _=>rfl
 |.ptr _ _=>rfl
 |.own _ _ _ _=>rfl
 |.ownc _ _ _ _ _=>rfl
 |.ip _=>rfl
 |.any=>rfl
 |.agg cs=>pq cs
 |.tup cs=>pq cs
 |.fn f a b=>by simp only[DV.nums];rw[pq a,pq b];rfl
 |.opt c d=>po d
def pq:∀(ds:List DV),DV.nums.go (fun _=>true) ds=true
 |[]=>rfl
 |d::r=>by simp only[DV.nums.go];rw[po d,pq r];rfl
end
def Ef{d:DV}(h:d.one=true):(d.ren σ).one=true:=by
 cases d<;>first|rfl|exact h
def Eg(hp:Qb)(sel:List Nat)(h':Qb):(Q6 hp sel h').length=hp.length+(h'.length-sel.length):=by simp[Q6]
def Yd(h:(Q6 hp sel h')[k]?=some B):
 (k<hp.length/\¬k∈sel/\hp[k]?=some B)\/(k<hp.length/\k∈sel/\B=aG (back sel hp.length) (h'.getD (sel.idxOf k) default)) \/
 (hp.length<=k/\∃D,h'[sel.length+(k-hp.length)]?=some D/\B=aG (back sel hp.length) D):=by
 unfold Q6 at h;grind
def VCalls.frame(sel:List Nat)(hnd:sel.Nodup)(hl:od hp sel=some h0)(hok:l8 hp sel=true)(c:VCalls P g args0 h0 R)(ha0:args0=args.map (DV.ren fun j=>sel.idxOf j))(ha:DV.nums.go sel.contains args=true):
 VCalls P g args hp fun r h2=>∃r0 h',R r0 h'/\sel.length<=h'.length/\r=r0.ren (back sel hp.length)/\h2=Q6 hp sel h':=by
 refine⟨fun w β vs hh hr=>?_⟩;obtain⟨l1,l2⟩:=QE hl;have hlen:h0.length=sel.length:=by rw[l1,JN]
 have hget:∀{i:Nat} {B0:Blk},h0[i]?=some B0->∃k B,sel[i]?=some k/\hp[k]?=some B/\B0=aG (fun j=>sel.idxOf j) B/\(B.live=true->DV.nums.go sel.contains B.cells=true):=by
  intro i B0 hi;have h1:=l2 i B0 hi;rw[Jg] at h1;obtain⟨k,h2,h3⟩:=QF h1;obtain⟨B,h4,h5⟩:=QF h3;refine⟨k,B,h2,h4,h5.symm,fun hlv=>?_⟩;have:=Je.1 hok k (JI h2);rw[h4] at this;simpa [hlv] using this
 have hsel:∀k,k∈sel->∃i,sel[i]?=some k/\i=sel.idxOf k/\i<sel.length:=fun k hk=>by
  have hlt:=JM hk;exact⟨sel.idxOf k,by rw[Jd hlt];simp,rfl,hlt⟩
 have hidx:∀{i k:Nat},sel[i]?=some k->sel.idxOf k=i:=fun {i k} hi=>by
  obtain⟨hlt,e⟩:=Jc.1 hi;rw[<-e];exact hnd.idxOf_getElem i hlt
 let βc:Map:=⟨fun i=>(sel[i]?).bind β.f,fun b=>β.X b\/∃k B,hp[k]?=some B/\B.live=true/\β.f k=some b/\¬k∈sel⟩
 have livec:∀b,live βc h0 b->live β hp b:=by
  rintro b ⟨i,B0,h1,h2,h3⟩;obtain⟨k,B,k1,k2,k3,_⟩:=hget h1;refine⟨k,B,k2,by rw[k3] at h2;exact h2,?_⟩;simpa [βc,k1] using h3
 have himc:∀b,img βc h0 b->img β hp b:=by
  rintro b ((h|⟨k,B,h1,h2,h3,_⟩)|h)
  ·exact .inl h
  ·exact .inr ⟨k,B,h1,h2,h3⟩
  ·exact .inr (livec b h)
 have hσ:∀k,sel.contains k=true->k<hp.length->sel.idxOf k<h0.length/\βc.f (sel.idxOf k)=β.f k:=fun k hk _=>by
  obtain⟨i,h1,h2,h3⟩:=hsel k (by simpa using hk);subst h2;exact⟨by rw[hlen];exact h3,by simp[βc,h1]⟩
 have hhc:HeapRel w βc h0:=by
  refine⟨fun i B0 b h1 h2 h3=>?_,fun i B0 h1 h2 h3=>?_,fun i j B0 B1 b h1 h2 h3 h4 h5 h6=>?_,fun i B0 b h1 h2 h3=>?_,fun b hb=>?_⟩
  ·obtain ⟨k,B,k1,k2,k3,k4⟩:=hget h1;subst k3;obtain⟨C,c1,c2,c3⟩:=hh.blk k B b k2 h2 (by simpa [βc,k1] using h3);refine⟨C,c1,by simpa [aG] using c2,fun j d hd=>?_⟩;simp only[aG,Jg] at hd;obtain⟨x,x1,x2⟩:=QF hd;subst x2;obtain⟨o1,o2⟩:=c3 j x x1;exact⟨Ef o1,RelD.ren hσ himc o2 (DV.nums_go (k4 h2) j x x1)⟩
  ·obtain ⟨k,B,k1,k2,k3,k4⟩:=hget h1;subst k3;have:=hh.none k B k2 h2 (by simpa [βc,k1] using h3);simp[aG,this]
  ·obtain ⟨k,B,k1,k2,k3,k4⟩:=hget h1;obtain⟨k',B',k1',k2',k3',k4'⟩:=hget h2;subst k3 k3';have:=hh.inj k k' B B' b k2 k2' h3 h4 (by simpa [βc,k1] using h5) (by simpa [βc,k1'] using h6);subst this;rw[<-hidx k1,<-hidx k1']
  ·obtain ⟨k,B,k1,k2,k3,k4⟩:=hget h1;subst k3;have hb:β.f k=some b:=by simpa [βc,k1] using h3
   rintro(hX|⟨k',B',h1',h2',h3',h4'⟩)
   ·exact hh.avoid k B b k2 h2 hb hX
   ·have:=hh.inj k' k B' B b h1' k2 h2' h2 h3' hb;subst this;exact h4' (JI k1)
  ·rcases hb with hb|⟨k,B,h1,h2,h3,_⟩
   ·exact hh.bound b hb
   ·exact gY hh ⟨k,B,h1,h2,h3⟩
 have hargs:RelL w βc h0 args0 vs:=by
  refine⟨by rw[ha0,JN];exact hr.1,fun i d hd=>?_⟩;rw[ha0,Jg] at hd;obtain⟨x,x1,x2⟩:=QF hd;subst x2;exact RelD.ren hσ himc (hr.2 i x x1) (DV.nums_go ha i x x1)
 refine(c.run w βc vs hhc hargs).mono ?_;rintro e w' ⟨v,r,h',β',rfl,ev,hh',hrel,hR⟩;have hm:sel.length<=h'.length:=by rw[<-hlen];exact ev.len
 let β2:Map:=⟨fun k=>if k<hp.length then β.f k else β'.f (sel.length+(k-hp.length)),β.X⟩
 have hf':∀{i k:Nat},sel[i]?=some k->β'.f i=β.f k:=fun {i k} hi=>by
  have hlt:i<sel.length:=(Jc.1 hi).1;rw[ev.beta i (by rw[hlen];exact hlt)];simp[βc,hi]
 have hk':∀{k:Nat},k∈sel->k<hp.length:=fun {k} hk=>by
  have:=Je.1 hok k hk;cases h:hp[k]? with
  |none=>rw[h] at this;simp at this
  |some B=>exact(Jc.1 h).1
 -- what block k of the caller's is,Q6 the call
 have cases3:∀{k:Nat} {B:Blk},(Q6 hp sel h')[k]?=some B->(¬k∈sel/\hp[k]?=some B/\β2.f k=β.f k)\/(∃i D,h'[i]?=some D/\B=aG (back sel hp.length) D/\β2.f k=β'.f i/\back sel hp.length i=k):=by
  intro k B hB;rcases Yd hB with⟨h1,h2,h3⟩|⟨h1,h2,h3⟩|⟨h1,D,h2,h3⟩
  ·exact .inl ⟨h2,h3,by simp[β2,h1]⟩
  ·obtain ⟨i,i1,i2,i3⟩:=hsel k h2;have hlt:i<h'.length:=Jp i3 hm;refine .inr ⟨i,h'[i],Jd hlt,?_,?_,?_⟩
   ·rw[h3,<-i2,Ji,Jd hlt];rfl
   ·simp only[β2,h1,if_true];exact(hf' i1).symm
   ·simp only [back,i3,if_true];rw[Ji,i1];rfl
  ·refine .inr ⟨sel.length + (k - hp.length),D,h2,h3,?_,?_⟩
   ·simp only[β2];rw[if_neg vz]
   ·simp only[back];rw[if_neg vz];omega
 have livelift:∀b,live β2 (Q6 hp sel h') b->(∃k B,hp[k]?=some B/\B.live=true/\β.f k=some b/\¬k∈sel)\/live β' h' b:=by
  rintro b ⟨k,B,h1,h2,h3⟩;rcases cases3 h1 with⟨a1,a2,a3⟩|⟨i,D,a1,a2,a3,_⟩
  ·exact .inl ⟨k,B,a2,h2,by rw[<-a3];exact h3,a1⟩
  ·exact .inr ⟨i,D,a1,by rw[a2] at h2;exact h2,by rw[<-a3];exact h3⟩
 have himb:∀b,img β2 (Q6 hp sel h') b->img β' h' b:=by
  rintro b (h|h)
  ·exact .inl (by rw[ev.X];exact .inl h)
  ·rcases livelift b h with h|h
   ·exact .inl (by rw[ev.X];exact .inr h)
   ·exact .inr h
 have hτ:∀k,(fun _=>true:Nat->Bool) k=true->k<h'.length->back sel hp.length k<(Q6 hp sel h').length/\β2.f (back sel hp.length k)=β'.f k:=fun i _ hi=>by
  rw[Eg];by_cases hlt:i<sel.length
  ·have hs:sel[i]? = some sel[i]:=Jd hlt;have e:back sel hp.length i=sel[i]:=by simp only[back,hlt,if_true];rw[Ji,hs];rfl
   have hk:=hk' (JI hs);rw[e];exact⟨vz,by simp only[β2,hk,if_true];exact(hf' hs).symm⟩
  ·have e:back sel hp.length i = hp.length + (i - sel.length):=by simp only [back];rw [if_neg hlt]
   rw[e];refine⟨vz,?_⟩;simp only[β2];rw[if_neg vz,show sel.length+(hp.length+(i-sel.length)-hp.length)=i by omega]
 have evo:Evo w β hp w' β2 (Q6 hp sel h'):=by
  refine⟨ev.os,ev.tape,ev.output,ev.size,by rw[Eg];omega,fun k hk=>by simp[β2,hk],fun b hb hn=>ev.same b hb (fun h=>hn (livec b h)),ev.shape,fun b hb h=>?_,rfl⟩;rcases livelift b h with⟨k,B,h1,h2,h3,_⟩|h
  ·exact⟨k,B,h1,h2,h3⟩
  ·exact livec b (ev.im b hb h)
 refine⟨v,r.ren (back sel hp.length),Q6 hp sel h',β2,rfl,evo,?_,RelD.ren hτ himb hrel (po r),r,h',hR,hm,rfl,rfl⟩
 have outer:∀{k:Nat} {B:Blk} {b:Nat},hp[k]?=some B->B.live=true->β.f k=some b->¬k∈sel->β'.X b:=fun {k B b} h1 h2 h3 h4=>by
  rw[ev.X];exact .inr ⟨k,B,h1,h2,h3,h4⟩
 refine⟨fun k B b h1 h2 h3=>?_,fun k B h1 h2 h3=>?_,fun j k B B' b h1 h2 h3 h4 h5 h6=>?_,fun k B b h1 h2 h3=>?_,fun b hb=>Jp (hh.bound b hb) ev.size⟩
 ·rcases cases3 h1 with ⟨a1,a2,a3⟩|⟨i,D,a1,a2,a3,_⟩
  ·rw [a3] at h3;obtain⟨C,g1,g2,g3⟩:=hh.blk k B b a2 h2 h3;have hb:=(Ja.1 g1).1
   have hsame:w'.heap[b]?=w.heap[b]?:=ev.same b hb fun hlv=>by
    obtain⟨i,B0,e1,e2,e3⟩:=hlv;exact hhc.avoid i B0 b e1 e2 e3 (.inr ⟨k,B,a2,h2,h3,a1⟩)
   exact⟨C,by rw[hsame];exact g1,g2,fun i d hd=>⟨(g3 i d hd).1,(g3 i d hd).2.mono evo⟩⟩
  ·subst a2;obtain⟨C,g1,g2,g3⟩:=hh'.blk i D b a1 h2 (by rw[<-a3];exact h3);refine⟨C,g1,by simpa [aG] using g2,fun j d hd=>?_⟩;simp only[aG,Jg] at hd;obtain⟨x,x1,x2⟩:=QF hd;subst x2;exact⟨Ef (g3 j x x1).1,RelD.ren hτ himb (g3 j x x1).2 (po x)⟩
 ·rcases cases3 h1 with ⟨a1,a2,a3⟩|⟨i,D,a1,a2,a3,_⟩
  ·exact hh.none k B a2 h2 (by rw[<-a3];exact h3)
  ·subst a2;have:=hh'.none i D a1 h2 (by rw[<-a3];exact h3);simp[aG,this]
 ·rcases cases3 h1 with ⟨a1,a2,a3⟩|⟨i,D,a1,a2,a3,a4⟩<;>rcases cases3 h2 with ⟨b1,b2,b3⟩|⟨i',D',b1,b2,b3,b4⟩
  ·exact hh.inj j k B B' b a2 b2 h3 h4 (by rw[<-a3];exact h5) (by rw[<-b3];exact h6)
  ·exact absurd (outer a2 h3 (by rw[<-a3];exact h5) a1) (hh'.avoid i' D' b b1 (by rw[b2] at h4;exact h4) (by rw[<-b3];exact h6))
  ·exact absurd (outer b2 h4 (by rw[<-b3];exact h6) b1) (hh'.avoid i D b a1 (by rw[a2] at h3;exact h3) (by rw[<-a3];exact h5))
  ·have:=hh'.inj i i' D D' b a1 b1 (by rw [a2] at h3;exact h3) (by rw [b2] at h4;exact h4) (by rw [<-a3];exact h5) (by rw [<-b3];exact h6);subst this;rw[<-a4,<-b4]
 ·rcases cases3 h1 with ⟨a1,a2,a3⟩|⟨i,D,a1,a2,a3,_⟩
  ·exact hh.avoid k B b a2 h2 (by rw[<-a3];exact h3)
  ·intro hX;exact hh'.avoid i D b a1 (by rw[a2] at h2;exact h2) (by rw[<-a3];exact h3) (by rw[ev.X];exact .inl hX)
def Ia(hk:k<hp.length)(B:Blk)(r:Qb):Q6 hp [k] (B::r)=hp.set k (aG (back [k] hp.length) B)++r.map (aG (back [k] hp.length)):=by
 unfold Q6;congr 1;apply JR
 grind
end Go.V
namespace Go.V
def mY (hev:∀x ∈ o.operands.toList,ev' x = ev x):vop P ev' hp o = vop P ev hp o:=by
 by_cases hk:bf o=true
 ·exact wJ hk hev
 ·cases o with
  |alloc T=>rfl
  |box T x=>simp[Op.operands] at hev;simp[vop,hev]
  |makeSlice T l c=>simp[Op.operands] at hev;simp[vop,hev]
  |buildSlice T n ps =>
    have mp:parts ev' ps=parts ev ps:=by
     unfold parts;exact JB fun p hp=>by rw[hev p.2 (by simp[Op.operands];exact⟨p.1,by simpa using hp⟩)]
    simp[vop,mp]
  |call c =>
    have h1:c.args.toList.map ev'=c.args.toList.map ev:=JB fun x hx=>hev x (by simp[Op.operands,Call.operands];right;simpa using hx);simp only[vop,h1]
  |_=>first
    |(exact absurd rfl hk)
    |rfl
def St.only(S:St)(ts:List Nat):St:=⟨S.nt,S.hp.length,ts.map fun t=>(t,look S.tm t),S.hp⟩
def wX {f:Nat->DV} {t:Nat}:∀{ts:List Nat},look (ts.map fun t=>(t,f t)) t = if t ∈ ts then f t else .any
 |[]=>rfl
 |a :: r=>by
   simp only[Js,look];by_cases h:a=t
   ·subst h;simp
   ·rw [if_neg h,wX];by_cases hr:t∈r
    ·rw[if_pos hr,if_pos (Jf _ hr)]
    ·rw[if_neg hr,if_neg (by simp[hr];exact fun e=>h e.symm)]
def sA(S:St)(ts:List Nat)(t:Nat)(h:t∈ts):look (S.only ts).tm t=look S.tm t:=by
 show look (ts.map _) t=_
 rw[wX,if_pos h]
def Ye(ht:∀t∈o.looksAt ops,look S'.tm t=look S.tm t)(hn:S'.nt=S.nt)(hh:S'.hp=S.hp)(h:an P ops.toList [o] K S):
 an P ops.toList [o] (fun S1=>∃d hp',S1=(S'.at hp').put o.dst d/\K ((S.at hp').put o.dst d)) S':=by
 unfold an at h |-;obtain⟨hf,h⟩:=h;refine⟨by unfold St.fits at hf |-;rw[hn];exact hf,?_⟩;rw[jN (S:=S) ht];split at h
 ·exact h.elim
 ·simp only [an] at h |-;refine⟨.tup [],S.hp,?_,h⟩;rw[<-hh];rfl
 ·have hev:∀x ∈ o.op.operands.toList,Qn true (S'.ev x) = Qn true (S.ev x):=fun x hx=>by rw [ie ht x hx]
  rw[wL hev,mY hev,hh];split at h
  ·rename_i g args hc;simp only[an] at h |-;exact h.mono fun r h' hk=>⟨_,h',rfl,hk⟩
  ·split at h
   ·rename_i d hp' hv;simp only[an] at h |-;exact⟨_,_,rfl,h⟩
   ·exact h.elim
def Yf(hs:Sim O β S a w)(h:an P ops.toList [o] K S)(hn:∀β' d v hp' w',Evo w β S.hp w' β' hp'->HeapRel w' β' hp'->RelD w' β' hp' d v->S.fits o.dst=true->K ((S.at hp').put o.dst d)->next (a.put o.dst v) w'):
 if Region.wanted o (yielded ops a.tmps) then o.wp P a w next Q\/(o.asks P a w/\LetsOut Q) else next (a.put o.dst undef) w:=by
 unfold an at h;obtain⟨hf,h⟩:=h;split at h
 ·exact h.elim
 ·rename_i hg;rw[QS (ops:=ops) hs hg,if_neg vv];exact hn β (.tup []) undef S.hp w (Evo.refl _ _ _) hs.heap (.tup [] #[] rfl vv) hf (by simp only[an] at h;exact h)
 ·rename_i hg;rw[QS (ops:=ops) hs hg,if_pos rfl];have hev:∀x,RelD w β S.hp (Qn true (S.ev x)) (a.eval x):=fun x=>gy (hs.ev x) rfl;split at h
  ·rename_i g args hc;refine .inl (wo hev hc hs.heap h (fun v r h' β' w' k1 k2 k3 k4=>?_));exact hn β' _ v h' w' k1 k2 (QU k3) hf (by simpa only[an] using k4)
  ·split at h
   ·rename_i d hp' hv;refine .inl (oZ (iV hs.heap hev (fun _=>rfl) hv) (fun v w' β' k1 k2 k3=>?_));exact hn β' _ v hp' w' k1 k2 (QU k3) hf (by simpa only[an] using h)
   ·exact h.elim
def iX(o:Oper):Bool:=o.guard.isNone&&match o.op with|.alloc _|.box ..|.buildSlice ..=>true|_=>false
def ij(P:Program)(ev:Operand->DV)(o:Op):Option (DV×Blk):=
 match vop P ev [] o with
 |some (.ptr 0 0,[B])=>some (.ptr 0 0,B)
 |some (.own 0 sz 0 n,[B])=>some (.own 0 sz 0 n,B)
 |_=>none
def jP(P:Program)(ev:Operand->DV)(o:Op):Prop:=
 match ij P ev o with
 |some (_,B)=>B.live=true/\0<B.cells.length/\DV.nums.go (fun _=>false) B.cells=true/\DV.nums.go (fun _=>false) (o.operands.toList.map ev)=true
 |none=>False
def Yg(hc:iX o=true)(h:ij P ev o.op=some (d,B))(hp:Qb):vop P ev hp o.op=some (d.ren (fun _=>hp.length),hp++[B]):=by
 have key:∀{x:Option (DV×Qb)},(match x with|some (.ptr 0 0,[B])=>some (.ptr 0 0,B)|some (.own 0 sz 0 n,[B])=>some (.own 0 sz 0 n,B)|_=>(none:Option (DV×Blk)))=some (d,B)->x=some (d,[B]):=by
  intro x hx;split at hx
  ·simp at hx;obtain⟨rfl,rfl⟩:=hx;rfl
  ·simp at hx;obtain⟨rfl,rfl⟩:=hx;rfl
  ·simp at hx
 have h:=key h;unfold iX at hc;simp only[Jb] at hc;have hc:=hc.2;split at hc
 ·rename_i T ho;rw[ho] at h |-;simp only[vop,kW] at h |-;split at h
  ·split at h
   ·rename_i h1;simp at h;obtain⟨rfl,rfl⟩:=h;simp[DV.ren,h1]
   ·simp at h
  ·simp at h
 ·rename_i T x ho;rw[ho] at h |-;simp only[vop,mF] at h |-;split at h
  ·rename_i h1;simp at h;obtain⟨rfl,rfl⟩:=h;simp[DV.ren,h1]
  ·simp at h
 ·rename_i T n ps ho;rw[ho] at h |-;simp only[vop,mJ] at h |-;split at h
  ·split at h
   ·split at h
    ·rename_i h1;obtain⟨cs,h2,h3⟩:=QF h;simp at h3;obtain⟨rfl,rfl⟩:=h3;rw[if_pos h1,h2];simp[DV.ren]
    ·simp at h
   ·simp at h
  ·simp at h
 ·simp at hc
structure Resv(w:World)(β:Map)(hp:Qb)(d:DV)(B:Blk)(v:Value)(b:Nat):Prop where
 live:B.live=true
 nums:DV.nums.go (fun _=>false) B.cells=true
 out:β.X b
 blk:∃C:Row,w.heap[b]?=some (.cells C.v B.ty C.m)/\B.cells.length<=C.v.size/\(∀(i:Nat) (e:DV),B.cells[i]?=some e->e.one=true/\RelD w β hp e (C.v.getD i undef)) /\
  ((d=.ptr 0 0/\v=.pointer (some ⟨b,0,none⟩))\/∃sz n cap,d=.own 0 sz 0 n/\v=.slice (some ⟨b,0,none⟩) n cap/\n<=cap/\cap<=maxLen/\cap*sz<=C.v.size)
def Resv.evo(h:Resv w β hp d B v b)(hh:HeapRel w β hp)(e:Evo w β hp w' β' hp'):Resv w' β' hp' d B v b:=by
 obtain⟨h1,h2,h3,C,c1,c2,c3,c4⟩:=h;refine⟨h1,h2,by rw[e.X];exact h3,C,?_,c2,fun i x hx=>⟨(c3 i x hx).1,(c3 i x hx).2.mono e⟩,c4⟩;have hlt:=(Ja.1 c1).1;rw[e.same b hlt (by rintro⟨k,D,k1,k2,k3⟩;exact hh.avoid k D b k1 k2 k3 h3)];exact c1
def Yh (hh:HeapRel w β hp) (hev:∀x ∈ o.op.operands.toList,RelD w β hp (ev x) (ρ x)) (hρ:∀v,ρ (.const v) = v) (hc:jP P ev o.op):
 ∃d B v w' b,ij P ev o.op = some (d,B)/\((execOp ρ o).run P w = .ok (.value v) w'\/((execOp ρ o).run P w = .ok .skip w'/\v = undef))/\w'.os = w.os/\w'.tape = w.tape/\w'.output = w.output/\w.heap.size<=w'.heap.size/\w.heap.size<=b/\b < w'.heap.size/\(∀x,x < w.heap.size->w'.heap[x]? = w.heap[x]?) /\
   Resv w' ⟨β.f,fun x=>β.X x\/x=b⟩ hp d B v b:=by
 unfold jP at hc;cases hcr:ij P ev o.op with
 |none=>rw[hcr] at hc;exact hc.elim
 |some db =>
   obtain⟨d,B⟩:=db;rw[hcr] at hc;obtain⟨c1,c2,c3,c4⟩:=hc;let βe:Map:=⟨fun _=>none,img β hp⟩
   have hhe:HeapRel w βe []:=⟨vv,vv,vv,vv,fun b hb=>by
    rcases hb with hb|hb
    ·exact hh.bound b hb
    ·exact gY hh hb⟩
   have hime:∀b,img βe [] b->img β hp b:=fun b hb=>by
    rcases hb with hb|⟨k,D,h1,_⟩
    ·exact hb
    ·simp at h1
   -- only the operands are asked
   classical
   let ev2:Operand->DV:=fun x=>if x∈o.op.operands.toList then ev x else .any
   have hev2:∀x,RelD w βe [] (ev2 x) (ρ x):=fun x=>by
    show RelD w βe [] (if x∈o.op.operands.toList then ev x else .any) (ρ x)
    split
    ·rename_i hx;obtain⟨i,hi⟩:=List.mem_iff_getElem?.1 hx;exact(hev x hx).closed (DV.nums_go c4 i (ev x) (by rw[Jg,hi];rfl)) hime
    ·exact .any _
   have hvop:vop P ev2 [] o.op=vop P ev [] o.op:=mY fun x hx=>by show(if _ then _ else _)=_;rw[if_pos hx]
   have hv:vop P ev [] o.op=some (d,[B])/\(d=.ptr 0 0\/∃sz n,d=.own 0 sz 0 n):=by
    unfold ij at hcr;split at hcr
    ·rename_i h;simp at hcr;obtain⟨rfl,rfl⟩:=hcr;exact⟨h,.inl rfl⟩
    ·rename_i h;simp at hcr;obtain⟨rfl,rfl⟩:=hcr;exact⟨h,.inr ⟨_,_,rfl⟩⟩
    ·simp at hcr
   obtain⟨v,w',β',h1,ev',hh',hrel⟩:=iV hhe hev2 hρ (o:=o) (hvop.trans hv.1);have hold:∀x,x<w.heap.size->w'.heap[x]?=w.heap[x]?:=fun x hx=>ev'.same x hx (by rintro⟨k,D,k1,_⟩;simp at k1)
   have hf:∃b,β'.f 0=some b:=by
    cases hb:β'.f 0 with
    |some b=>exact⟨b,rfl⟩
    |none=>have:=hh'.none 0 B rfl c1 hb;rw[this] at c2;simp at c2
   obtain⟨b,hb⟩:=hf;obtain⟨C,g1,g2,g3⟩:=hh'.blk 0 B b rfl c1 hb;have hlb:live β' [B] b:=⟨0,B,rfl,c1,hb⟩
   have hge:w.heap.size<=b:=by
    by_cases hlt:b<w.heap.size
    ·obtain ⟨k,D,k1,_⟩:=ev'.im b hlt hlb;simp at k1
    ·omega
   have him:∀x,img (⟨β.f,fun x=>β.X x\/x=b⟩:Map) hp x->img β' [B] x:=by
    rintro x ((h|h)|h)
    ·exact .inl (by rw[ev'.X];exact .inl h)
    ·rw[h];exact .inr hlb
    ·exact .inl (by rw[ev'.X];exact .inr h)
   refine⟨d,B,v,w',b,rfl,h1,ev'.os,ev'.tape,ev'.output,ev'.size,hge,(Ja.1 g1).1,hold,c1,c3,.inr rfl,C,g1,g2,fun i e he=>⟨(g3 i e he).1,(g3 i e he).2.closed (DV.nums_go c3 i e he) him⟩,?_⟩;rcases hv.2 with rfl|⟨sz,n,rfl⟩
   ·cases hrel with
    |ptr _ _ b' _ hb'=>rw[hb] at hb';cases hb';exact .inl ⟨rfl,rfl⟩
   ·cases hrel with
    |own _ _ _ _ cap b' C' T' m0 hk hm l1 l2 l3 l4 =>
      rw[hb] at hm;cases hm;rw[g1] at l3;cases l3;exact .inr ⟨sz,n,cap,rfl,rfl,l1,l2,by simpa using l4⟩
    |own0 _ _ a _ hm _=>rw[hb] at hm;cases hm
mutual
def wY:∀(d:DV),d.ren (fun k=>k)=d
 |.pv _=>rfl
 |.ptr _ _=>rfl
 |.own _ _ _ _=>rfl
 |.ownc _ _ _ _ _=>rfl
 |.ip _=>rfl
 |.any=>rfl
 |.agg cs=>by simp only[DV.ren];rw[pr cs]
 |.tup cs=>by simp only[DV.ren];rw[pr cs]
 |.fn f a b=>by simp only[DV.ren];rw[pr a,pr b]
 |.opt c d=>by simp only[DV.ren];rw[wY d]
def pr:∀(ds:List DV),DV.ren.go (fun k=>k) ds=ds
 |[]=>rfl
 |d::r=>by simp only[DV.ren.go];rw[wY d,pr r]
end
def adopt(hh:HeapRel w β hp)(r:Resv w β hp d B v b):
 HeapRel w ⟨(ext β hp.length (some b)).f,fun x=>β.X x/\x≠b⟩ (hp++[B])/\(∀e u,RelD w β hp e u->RelD w ⟨(ext β hp.length (some b)).f,fun x=>β.X x/\x≠b⟩ (hp++[B]) e u) /\
  RelD w ⟨(ext β hp.length (some b)).f,fun x=>β.X x/\x≠b⟩ (hp++[B]) (d.ren fun _=>hp.length) v /\
  (∀x,live ⟨(ext β hp.length (some b)).f,fun x=>β.X x/\x≠b⟩ (hp++[B]) x->live β hp x\/x=b)/\(∀k,k<hp.length->(ext β hp.length (some b)).f k=β.f k):=by
 obtain⟨r1,r2,r3,C,c1,c2,c3,c4⟩:=r;have hlive:∀x,live ⟨(ext β hp.length (some b)).f,fun x=>β.X x/\x≠b⟩ (hp++[B]) x->live β hp x\/x=b:=fun x hx=>(rT (β:=β) r1).1 hx
 have himg:∀x,img ⟨(ext β hp.length (some b)).f,fun x=>β.X x/\x≠b⟩ (hp++[B]) x->img β hp x:=by
  rintro x (⟨h,_⟩|h)
  ·exact .inl h
  ·rcases hlive x h with h|rfl
   ·exact .inr h
   ·exact .inl r3
 have mono:∀e u,RelD w β hp e u->RelD w ⟨(ext β hp.length (some b)).f,fun x=>β.X x/\x≠b⟩ (hp++[B]) e u:=fun e u h=>by
  have:=RelD.ren (σ:=fun k=>k) (p:=fun _=>true) (hp':=hp++[B]) (β':=⟨(ext β hp.length (some b)).f,fun x=>β.X x/\x≠b⟩) (fun k _ hk=>⟨vg,cG hk⟩) himg h (po e);rwa [wY] at this
 have lt_of:∀{k:Nat} {D:Blk},(hp++[B])[k]?=some D->(k<hp.length/\hp[k]?=some D/\(ext β hp.length (some b)).f k=β.f k)\/(k=hp.length/\D=B/\(ext β hp.length (some b)).f k=some b):=fun {k D} h=>by
  rcases J1 k hp.length with hlt|heq|hgt
  ·rw [Jy hlt] at h;exact .inl ⟨hlt,h,cG hlt⟩
  ·subst heq;simp at h;exact .inr ⟨rfl,h.symm,by simp[ext]⟩
  ·rw [JD vz,Jt vg] at h;simp at h
 refine⟨⟨fun k D x hk hD hx=>?_,fun k D hk hD hx=>?_,fun j k D D' x hj hk hD hD' h1 h2=>?_,fun k D x hk hD hx=>?_,fun x hx=>hh.bound x hx.1⟩,mono,?_,hlive,fun k hk=>cG hk⟩
 ·rcases lt_of hk with ⟨_,hk',he⟩|⟨rfl,rfl,he⟩
  ·have hx':β.f k = some x:=he.symm.trans hx;obtain⟨C',g1,g2,g3⟩:=hh.blk k D x hk' hD hx';exact⟨C',g1,g2,fun i e he=>⟨(g3 i e he).1,mono _ _ (g3 i e he).2⟩⟩
  ·have hx':some b = some x:=he.symm.trans hx;cases hx';exact⟨C,c1,c2,fun i e he=>⟨(c3 i e he).1,mono _ _ (c3 i e he).2⟩⟩
 ·rcases lt_of hk with ⟨_,hk',he⟩|⟨rfl,rfl,he⟩
  ·exact hh.none k D hk' hD (he.symm.trans hx)
  ·have hx':some b = none:=he.symm.trans hx;cases hx'
 ·rcases lt_of hj with ⟨_,hj',hje⟩|⟨rfl,rfl,hje⟩<;>rcases lt_of hk with ⟨_,hk',hke⟩|⟨rfl,rfl,hke⟩
  ·exact hh.inj j k D D' x hj' hk' hD hD' (hje.symm.trans h1) (hke.symm.trans h2)
  ·have h2':some b = some x:=hke.symm.trans h2;cases h2';exact absurd r3 (hh.avoid j D b hj' hD (hje.symm.trans h1))
  ·have h1':some b = some x:=hje.symm.trans h1;cases h1';exact absurd r3 (hh.avoid k D' b hk' hD' (hke.symm.trans h2))
  ·rfl
 ·rcases lt_of hk with ⟨_,hk',he⟩|⟨rfl,rfl,he⟩
  ·rintro ⟨hX,_⟩;exact hh.avoid k D x hk' hD (he.symm.trans hx) hX
  ·have hx':some b = some x:=he.symm.trans hx;cases hx';rintro⟨_,hne⟩;exact hne rfl
 ·have hfn:(ext β hp.length (some b)).f hp.length = some b:=by simp [ext]
  rcases c4 with⟨rfl,rfl⟩|⟨sz,n,cap,rfl,rfl,l1,l2,l3⟩
  ·exact .ptr _ 0 b vv hfn
  ·exact .own _ sz 0 n cap b C.v B.ty _ vv hfn l1 l2 c1 (by simpa using l3)
end Go.V
namespace Go.V
structure Seg where
 R:List Nat
 C:List Nat
 c:Nat
 F:List Nat
 H:List Nat
def pick(all:List Oper):List Nat->List Oper
 |[]=>[]
 |i::r=>match all[i]? with|some o=>o::pick all r|none=>pick all r
def ld(hp hp1:Qb):List Nat->Prop
 |[]=>True
 |k::r=>hp1[k]?=hp[k]?/\ld hp hp1 r
def sC(S S1:St)(o:Oper)(G:Option Bool):Prop:=
 match G with
 |some G=>ld S.hp S1.hp (ax (fun x=>Qn G (S1.ev x)) o.op).1
 |none=>True
def ik(all:List Oper)(S S1:St):List Oper->Prop
 |[]=>True
 |o::r=>sC S S1 o (QJ all S1 o)/\ik all S S1 r
def iY(P:Program)(S:St):List Oper->Prop
 |[]=>True
 |o::r=>(S.fits o.dst=true/\jP P (fun x=>Qn true (S.ev x)) o.op)/\iY P S r
def vsp(P:Program)(all:List Oper):List Seg->(St->Prop)->St->Prop
 |[],K,S=>K S
 |s::r,K,S=>iY P S (pick all s.R)/\an P all (pick all (s.C++[s.c])) (fun S1=>ik all S S1 (pick all s.F)/\an P all (pick all s.H) (vsp P all r K) S1) S
def bnd(ops:Array Oper)(j i:Nat):Bool:=match ops[j]? with|some o=>o.after.toList.any fun e=>Region.binds .any e&&e.on==i|none=>false
def dstOf(ops:Array Oper)(i:Nat):Option Nat:=match ops[i]? with|some o=>o.dst|none=>none
def il(ops:Array Oper)(i t:Nat):Bool:=match ops[i]? with|some o=>(o.looksAt ops).contains t|none=>false
def cZ(ops:Array Oper)(i t:Nat):Bool:=il ops i t||dstOf ops i==some t
def mZ(o:Oper):Bool:=bf o.op&&match o.op with|.store ..|.assign _=>false|_=>true
def isF(ops:Array Oper)(i:Nat):Bool:=match ops[i]? with|some o=>mZ o|none=>false
def isC(ops:Array Oper)(i:Nat):Bool:=match ops[i]? with|some o=>iX o|none=>false
def pw(ops:Array Oper):List Nat->Bool
 |[]=>true
 |f::r=>r.all (fun g=>!bnd ops f g)&&pw ops r
def nodup:List Nat->Bool
 |[]=>true
 |a::r=>!r.contains a&&nodup r
def sE:List (Option Nat)->Bool
 |[]=>true
 |a::r=>!r.contains a&&sE r
def Seg.ok(ops:Array Oper)(fl:List Nat)(s:Seg)(r:List Seg):Bool :=
 decide (s.c<ops.size) &&
 fl.all (fun f=>s.F.contains f||bnd ops s.c f) &&
 fl.all (fun f=>!bnd ops f s.c&&r.all fun s'=>!bnd ops f s'.c) &&
 s.C.all (fun j=>bnd ops s.c j) &&
 ((s::r).flatMap (·.C)).all (fun j=>s.R.contains j||(((s::r).map (·.c))++(s::r).flatMap (·.H)).any fun i=>bnd ops j i) &&
 s.C.all (fun j=>isC ops j&&match dstOf ops j with
  |some t=>(Jk ops.size).all fun i=>i==j||!cZ ops i t||((s::r).map (·.c)).contains i
  | none=>false) &&
 s.H.all (fun f=>bnd ops f s.c||s.H.any fun g=>bnd ops f g) &&
 match r with|[]=>true|s'::_=>bnd ops s'.c s.c
def dN(ops:Array Oper):List Nat->List Seg->Bool
 |_,[]=>true
 |fl,s::r=>s.ok ops fl r&&dN ops (fl++s.H) r
def wZ(ops:Array Oper)(Fl Sp Cr:List Nat):Bool :=
 (Jk ops.size).all (fun i=>Fl.contains i||Sp.contains i||Cr.contains i) &&
 Fl.all (fun f=>!Sp.contains f&&!Cr.contains f)&&Sp.all (fun c=>!Cr.contains c)&&nodup Fl&&nodup Sp&&nodup Cr&&sE (Fl.map (dstOf ops))&&pw ops Fl &&
 Fl.all (fun f=>isF ops f&&match dstOf ops f with
  |some t=>!il ops f t&&(Jk ops.size).all fun i=>i==f||!cZ ops i t||bnd ops i f
  | none=>false) &&
 Sp.all (fun c=>match dstOf ops c with
  |some t=>Fl.all fun f=>!il ops f t||bnd ops c f||bnd ops f c
  | none=>true) &&
 Cr.all (fun j=>(Jk ops.size).all fun i=>match dstOf ops i with
  |some t=>i==j||!il ops j t||bnd ops j i
  | none=>true) &&
 (Jk ops.size).all (fun j=>match ops[j]? with|some o=>o.after.toList.all fun e=>!Region.binds .any e||decide (e.on<j)|none=>true)
def px(ops:Array Oper)(H0:List Nat)(segs:List Seg):Bool:=
 wZ ops (H0++segs.flatMap (·.H)) (segs.map (·.c)) (segs.flatMap (·.C))&&dN ops H0 segs&&H0.all fun f=>(segs.map (·.c)).all fun c=>!bnd ops f c
structure Glob(ops:Array Oper)(Fl Sp Cr:List Nat):Prop where
 all:∀i,i<ops.size->i∈Fl\/i∈Sp\/i∈Cr
 fs:∀f∈Fl,¬f∈Sp/\¬f∈Cr
 sc:∀c∈Sp,¬c∈Cr
 nf:Fl.Nodup
 ns:Sp.Nodup
 nc:Cr.Nodup
 nd:∀f g,f∈Fl->g∈Fl->dstOf ops f=dstOf ops g->f=g
 fo:pw ops Fl=true
 fl:∀f∈Fl,∃o t,ops[f]?=some o/\mZ o=true/\o.dst=some t/\¬t∈o.looksAt ops/\∀i,i<ops.size->i≠f->cZ ops i t=true->bnd ops i f=true
 sp:∀c∈Sp,∀t,dstOf ops c=some t->∀f∈Fl,il ops f t=true->bnd ops c f=true\/bnd ops f c=true
 cr:∀j∈Cr,∀i t,i<ops.size->dstOf ops i=some t->i≠j->il ops j t=true->bnd ops j i=true
 back:∀j o,ops[j]?=some o->∀e∈o.after,Region.binds .any e=true->e.on<j
def sF:∀{l:List Nat},nodup l = true->l.Nodup
 |[],_=>List.nodup_nil
 |a :: r,h=>by
   simp only[nodup,Jb,Ju,Jz,decide_eq_false_iff_not] at h;exact JO.2 ⟨h.1,sF h.2⟩
def Eh:∀{l:List Nat},sE (l.map (dstOf ops)) = true->∀f g,f ∈ l->g ∈ l->dstOf ops f = dstOf ops g->f = g
 |[],_,f,g,h,_,_=>by simp at h
 |a :: r,hn,f,g,hf,hg,e=>by
   simp only[Js,sE,Jb,Ju,Jz,decide_eq_false_iff_not] at hn;rcases Jl.1 hf with e1|hf2<;>rcases Jl.1 hg with e2|hg2
   ·rw[e1,e2]
   ·subst e1;exact absurd (J6.2 ⟨g,hg2,e.symm⟩) hn.1
   ·subst e2;exact absurd (J6.2 ⟨f,hf2,e⟩) hn.1
   ·exact Eh hn.2 f g hf2 hg2 e
def Yi (h:wZ ops Fl Sp Cr = true):Glob ops Fl Sp Cr:=by
 simp only[wZ,Jb] at h;obtain⟨⟨⟨⟨⟨⟨⟨⟨⟨⟨⟨h1,h2⟩,h3⟩,h4⟩,h5⟩,h6⟩,h7⟩,h8⟩,h9⟩,h10⟩,h11⟩,h12⟩:=h;refine⟨fun i hi=>?_,fun f hf=>?_,fun c hc=>?_,sF h4,sF h5,sF h6,Eh h7,h8,fun f hf=>?_,fun c hc t ht f hf hl=>?_,fun j hj i t hi ht hne hl=>?_,fun j o ho e he hb=>?_⟩
 ·have:=Je.1 h1 i (Jm.2 hi);simpa [or_assoc] using this
 ·have:=Je.1 h2 f hf;simpa using this
 ·have:=Je.1 h3 c hc;simpa using this
 ·have:=Je.1 h9 f hf;simp only[Jb] at this;obtain⟨k1,k2⟩:=this;unfold isF at k1;cases ho:ops[f]? with
  |none=>rw[ho] at k1;simp at k1
  |some o =>
    rw[ho] at k1;simp only[dstOf,ho] at k2;cases hd:o.dst with
    |none=>rw[hd] at k2;simp at k2
    |some t =>
      rw[hd] at k2;simp only[Jb,Ju] at k2;refine⟨o,t,rfl,k1,hd,?_,fun i hi hne hu=>?_⟩
      ·have:=k2.1;simp only[il,ho,Jz,decide_eq_false_iff_not] at this;exact this
      ·have:=Je.1 k2.2 i (Jm.2 hi);simp only[Jx,beq_iff_eq,Ju] at this;rcases this with(h|h)|h
       ·exact absurd h hne
       ·rw[hu] at h;cases h
       ·exact h
 ·have:=Je.1 h10 c hc;rw[ht] at this;have:=Je.1 this f hf;simp only[Jx,Ju] at this;rcases this with(h|h)|h
  ·rw[hl] at h;cases h
  ·exact .inl h
  ·exact .inr h
 ·have:=Je.1 (Je.1 h11 j hj) i (Jm.2 hi);rw[ht] at this;simp only[Jx,beq_iff_eq,Ju] at this;rcases this with(h|h)|h
  ·exact absurd h hne
  ·rw[hl] at h;cases h
  ·exact h
 ·have hj:j < ops.size:=(Ja.1 ho).1;have:=Je.1 h12 j (Jm.2 hj);rw[ho] at this;have:=Je.1 this e (by simpa using he);simpa [hb] using this
structure SegOk(ops:Array Oper)(fl:List Nat)(s:Seg)(r:List Seg):Prop where
 lt:s.c<ops.size
 ff:∀f∈fl,f∈s.F\/bnd ops s.c f=true
 fc:∀f∈fl,bnd ops f s.c=false/\∀s'∈r,bnd ops f s'.c=false
 cc:∀j∈s.C,bnd ops s.c j=true
 rr:∀j∈(s::r).flatMap (·.C),j∈s.R\/∃i∈((s::r).map (·.c))++(s::r).flatMap (·.H),bnd ops j i=true
 cd:∀j∈s.C,∃o t,ops[j]?=some o/\iX o=true/\o.dst=some t/\∀i,i<ops.size->i≠j->cZ ops i t=true->i∈(s::r).map (·.c)
 hh:∀f∈s.H,bnd ops f s.c=true\/∃g∈s.H,bnd ops f g=true
 ch:∀s' r',r=s'::r'->bnd ops s'.c s.c=true
def m7 (h:s.ok ops fl r = true):SegOk ops fl s r:=by
 simp only[Seg.ok,Jb] at h;obtain⟨⟨⟨⟨⟨⟨⟨h1,h2⟩,h3⟩,h4⟩,h5⟩,h6⟩,h7⟩,h8⟩:=h;refine⟨of_decide_eq_true h1,fun f hf=>?_,fun f hf=>?_,fun j hj=>Je.1 h4 j hj,fun j hj=>?_,fun j hj=>?_,fun f hf=>?_,fun s' r' e=>?_⟩
 ·have:=Je.1 h2 f hf;simpa using this
 ·have:=Je.1 h3 f hf;simpa using this
 ·have:=Je.1 h5 j hj;simp only[Jx,Jz,decide_eq_true_eq,JC] at this;exact this
 ·have:=Je.1 h6 j hj;simp only[Jb] at this;obtain⟨k1,k2⟩:=this;unfold isC at k1;cases ho:ops[j]? with
  |none=>rw[ho] at k1;simp at k1
  |some o =>
    rw[ho] at k1;simp only[dstOf,ho] at k2;cases hd:o.dst with
    |none=>rw[hd] at k2;simp at k2
    |some t =>
      rw[hd] at k2;refine⟨o,t,rfl,k1,hd,fun i hi hne hu=>?_⟩;have:=Je.1 k2 i (Jm.2 hi);simp only[Jx,beq_iff_eq,Ju,Jz,decide_eq_true_eq] at this;rcases this with(h|h)|h
      ·exact absurd h hne
      ·rw[hu] at h;cases h
      ·exact h
 ·have:=Je.1 h7 f hf;simp only[Jx,JC] at this;exact this
 ·subst e;exact h8
end Go.V
namespace Go.V
structure CInv(O:Org)(hid:Nat->Prop)(rb:Nat->Option Nat)(β:Map)(S:St)(a:Act)(w:World):Prop where
 defers:a.defers=O.ds
 size:a.tmps.size=S.nt
 tm:∀t,¬hid t->RelD w β S.hp (look S.tm t) (a.tmps.getD t undef)
 heap:HeapRel w β S.hp
 evo:Evo O.w O.β O.hp w ⟨β.f,O.β.X⟩ S.hp
 base:O.hp.length=S.base
 sub:∀b,β.X b ↔ (O.β.X b\/∃j,rb j=some b)
 rinj:∀i j b,rb i=some b->rb j=some b->i=j
 rnew:∀j b,rb j=some b->O.w.heap.size<=b/\¬O.β.X b
def Evo.reX(e:Evo w β hp w' β' hp')(X:Nat->Prop):Evo w ⟨β.f,X⟩ hp w' ⟨β'.f,X⟩ hp':=
 ⟨e.os,e.tape,e.output,e.size,e.len,e.beta,e.same,e.shape,e.im,rfl⟩
def jQ {a:Act} (hf:∀u,dst = some u->u < a.tmps.size):(a.put dst v).tmps.getD t undef = if dst = some t then v else a.tmps.getD t undef:=by
 cases dst with
 |none=>simp[Act.put]
 |some u =>
   have hu:=hf u rfl;by_cases h:u=t
   ·subst h;simp[Act.put,hu]
   ·have:¬(some u = some t):=fun e=>h (Jn.inj e);rw[if_neg this];simp[Act.put,Jv,h]
def py{a:Act}:(a.put dst v).tmps.size=a.tmps.size:=by cases dst<;>simp[Act.put]
def w8{a:Act}:(a.put dst v).defers=a.defers:=by cases dst<;>rfl
def iZ (S:St) (dst:Option Tmp) (d:DV) (t:Nat):look (S.put dst d).tm t = if dst = some t then d else look S.tm t:=by
 cases dst with
 |none=>simp[St.put]
 |some u =>
   by_cases h:u=t
   ·subst h;simp[St.put,look]
   ·have:¬(some u = some t):=fun e=>h (Jn.inj e);rw[if_neg this];simp[St.put,look,h]
def CInv.step{O:Org}{hid:Nat->Prop}{rb:Nat->Option Nat}{β β':Map}{S:St}{a:Act}{w w':World}{hp':Qb}{dst:Option Tmp}{d:DV}{v:Value}(h:CInv O hid rb β S a w)(e:Evo w β S.hp w' β' hp')(hh:HeapRel w' β' hp')(hd:RelD w' β' hp' d v)(hf:S.fits dst=true) :
 CInv O (fun t=>hid t/\dst≠some t) rb β' ((S.at hp').put dst d) (a.put dst v) w':=by
 have hfit:∀u,dst=some u->u<a.tmps.size:=fun u hu=>by rw[h.size];subst hu;simpa [St.fits] using hf
 refine⟨by rw[w8];exact h.defers,by rw[py,St.put_nt];exact h.size,fun t ht=>?_,by rw[St.put_hp];exact hh,by rw[St.put_hp];exact h.evo.trans (e.reX _),by rw[St.put_base];exact h.base,fun b=>by rw[e.X];exact h.sub b,h.rinj,h.rnew⟩;rw[iZ,jQ hfit,St.put_hp];by_cases hd':dst=some t
 ·rw[if_pos hd',if_pos hd'];exact hd
 ·rw [if_neg hd',if_neg hd'];exact(h.tm t (fun hh=>ht ⟨hh,hd'⟩)).mono e
def CInv.hide(h:CInv O hid rb β S a w)(hs:∀t,hid t->hid' t):CInv O hid' rb β S a w:=
 { h with tm:=fun t ht=>h.tm t (fun x=>ht (hs t x)) }
def CInv.only(h:CInv O hid rb β S a w)(ht:∀t∈ts,¬hid t):
 Sim ⟨w,β,S.hp,O.ds⟩ β (S.only ts) a w:=by
 refine⟨h.defers,h.size,fun t=>?_,h.heap,Evo.refl _ _ _,rfl⟩;show RelD w β S.hp (look (ts.map fun t=>(t,look S.tm t)) t) _
 rw[wX];split
 ·rename_i hm;exact h.tm t (ht t hm)
 ·exact .any _
def RelD.out (h:RelD w β hp d v) (hsz:w.heap.size<=w'.heap.size) (hs:∀x,x < w.heap.size->w'.heap[x]? = w.heap[x]?) (hX:∀b,b < w.heap.size->X b->β.X b):RelD w' ⟨β.f,X⟩ hp d v:=by
 have him:∀b,b<w.heap.size->img ⟨β.f,X⟩ hp b->img β hp b:=by
  rintro b hb (h|h)
  ·exact .inl (hX b hb h)
  ·exact .inr h
 induction h with
 |pv p v h=>exact .pv p v (h.mono hsz (fun b hb _=>hs b hb) him)
 |ptr k off b h hb=>exact .ptr k off b h hb
 |own k sz off len cap b C T m h hb h1 h2 h3 h4=>exact .own k sz off len cap b C T m h hb h1 h2 (by rw[hs b (Ja.1 h3).1];exact h3) h4
 |ownc k sz off len cap b o C T m h hb h1 h2 h3 h4 h5=>exact .ownc k sz off len cap b o C T m h hb h1 h2 (by rw[hs b (Ja.1 h3).1];exact h3) h4 h5
 |own0 k sz a h hb ha=>exact .own0 k sz a h hb ha
 |ip cs ad val h1 h2 h3 =>
   refine .ip cs ad val h1 (fun j d hd=>?_) (fun j d hd=>(h3 j d hd).mono hsz (fun b hb _=>hs b hb) him);obtain⟨a,b,c⟩:=h2 j d hd;exact⟨Jp a hsz,fun x=>b (him _ a x),by rw[oH (w:=w) (a:=at_ ad j) (hs _ a)];exact c⟩
 |agg ds vs h _ ih=>exact .agg ds vs h ih
 |fn f ds es vs us h h' _ _ ih ih'=>exact .fn f ds es vs us h h' ih ih'
 |tup ds vs h _ ih=>exact .tup ds vs h ih
 |opt c d v _ hf ih=>exact .opt c d v ih hf
 |any v=>exact .any v
def HeapRel.out(hh:HeapRel w β hp)(hsz:w.heap.size<=w'.heap.size)(hs:∀x,x<w.heap.size->w'.heap[x]?=w.heap[x]?)(hX:∀b,b<w.heap.size->X b->β.X b)(hb:∀b,X b->b<w'.heap.size):HeapRel w' ⟨β.f,X⟩ hp:=by
 refine⟨fun k B b h1 h2 h3=>?_,hh.none,hh.inj,fun k B b h1 h2 h3 hx=>?_,hb⟩
 ·obtain ⟨C,g1,g2,g3⟩:=hh.blk k B b h1 h2 h3;exact⟨C,by rw[hs b (Ja.1 g1).1];exact g1,g2,fun i d hd=>⟨(g3 i d hd).1,(g3 i d hd).2.out hsz hs hX⟩⟩
 ·exact hh.avoid k B b h1 h2 h3 (hX b (gY hh ⟨k,B,h1,h2,h3⟩) hx)
def Resv.out'(h:Resv w β hp d B v b)(hsz:w.heap.size<=w'.heap.size)(hs:∀x,x<w.heap.size->w'.heap[x]?=w.heap[x]?)(hX:∀b,b<w.heap.size->X b->β.X b)(hXb:X b):Resv w' ⟨β.f,X⟩ hp d B v b:=by
 obtain⟨h1,h2,h3,C,c1,c2,c3,c4⟩:=h;exact⟨h1,h2,hXb,C,by rw[hs b (Ja.1 c1).1];exact c1,c2,fun i x hx=>⟨(c3 i x hx).1,(c3 i x hx).2.out hsz hs hX⟩,c4⟩
def CInv.reserve(h:CInv O hid rb β S a w)(hos:w'.os=w.os)(hta:w'.tape=w.tape)(hou:w'.output=w.output)(hsz:w.heap.size<=w'.heap.size)(hb:w.heap.size<=b)(hbl:b<w'.heap.size)(hs:∀x,x<w.heap.size->w'.heap[x]?=w.heap[x]?)(hj:rb j=none)(ht:t<S.nt):CInv O (fun u=>hid u\/u=t) (fun i=>if i=j then some b else rb i) ⟨β.f,fun x=>β.X x\/x=b⟩ S (a.put (some t) v) w':=by
 have hX:∀x,x<w.heap.size->(β.X x\/x=b)->β.X x:=fun x hx h=>h.elim id (fun e=>by omega);have hrb:∀i c,rb i=some c->c<w.heap.size:=fun i c hc=>h.heap.bound c ((h.sub c).2 (.inr ⟨i,hc⟩));refine⟨h.defers,by rw[py];exact h.size,fun u hu=>?_,h.heap.out hsz hs hX (fun x hx=>hx.elim (fun hx=>Jp (h.heap.bound x hx) hsz) (fun e=>by omega)),?_,h.base,fun x=>?_,fun i k c hi hk=>?_,fun i c hc=>?_⟩
 ·have hne:¬(some t = some u):=fun e=>hu (.inr (Jn.inj e).symm);rw[jQ (fun u hu=>by cases hu;rw[h.size];exact ht),if_neg hne];exact(h.tm u (fun x=>hu (.inl x))).out hsz hs hX
 ·have e:Evo w ⟨β.f,O.β.X⟩ S.hp w' ⟨β.f,O.β.X⟩ S.hp:=⟨hos,hta,hou,hsz,Jw _,fun _ _=>rfl,fun x hx _=>hs x hx,fun x C T m hx=>⟨C,m,by rw [hs x (Ja.1 hx).1];exact hx,rfl⟩,fun _ _ h=>h,rfl⟩
  exact h.evo.trans e
 ·show (β.X x\/x = b) ↔ _
  rw[h.sub x];constructor
  ·rintro ((h1|⟨i,hi⟩)|rfl)
   ·exact .inl h1
   ·refine .inr ⟨i,?_⟩;show(if i=j then some b else rb i)=some x
    rw[if_neg (by intro e;subst e;rw[hj] at hi;cases hi)];exact hi
   ·exact .inr ⟨j,vv⟩
  ·rintro (h1|⟨i,hi⟩)
   ·exact .inl (.inl h1)
   ·by_cases e:i = j
    ·rw[if_pos e] at hi;cases hi;exact .inr rfl
    ·rw[if_neg e] at hi;exact .inl (.inr ⟨i,hi⟩)
 ·by_cases e1:i = j<;>by_cases e2:k = j
  ·rw[e1,e2]
  ·rw [if_pos e1] at hi;rw[if_neg e2] at hk;cases hi;have:=hrb k b hk;omega
  ·rw [if_neg e1] at hi;rw[if_pos e2] at hk;cases hk;have:=hrb i b hi;omega
  ·rw [if_neg e1] at hi;rw[if_neg e2] at hk;exact h.rinj i k c hi hk
 ·by_cases e:i = j
  ·rw [if_pos e] at hc;cases hc;refine⟨Nat.le_trans h.evo.size hb,fun hx=>?_⟩;have:=h.heap.bound b ((h.sub b).2 (.inl hx));omega
  ·rw[if_neg e] at hc;exact h.rnew i c hc
def CInv.adopt(h:CInv O hid rb β S a w)(hj:rb j=some b)(r:Resv w β S.hp d B (a.tmps.getD t undef) b):
 CInv O (fun u=>hid u/\u≠t) (fun i=>if i=j then none else rb i) ⟨(ext β S.hp.length (some b)).f,fun x=>β.X x/\x≠b⟩ ((S.at (S.hp++[B])).put (some t) (d.ren fun _=>S.hp.length)) a w:=by
 obtain⟨a1,a2,a3,a4,a5⟩:=V.adopt h.heap r;obtain⟨n1,n2⟩:=h.rnew j b hj;refine⟨h.defers,h.size,fun u hu=>?_,a1,?_,h.base,fun x=>?_,fun i k c hi hk=>?_,fun i c hc=>?_⟩
 ·rw [iZ];by_cases e:some t=some u
  ·cases e;rw[if_pos rfl];exact a3
  ·rw [if_neg e];exact a2 _ _ (h.tm u (fun x=>hu ⟨x,fun e'=>e (by rw[e'])⟩))
 ·have e:=h.evo;refine⟨e.os,e.tape,e.output,e.size,by show _<=(S.hp++[B]).length;have:=e.len;simp;omega,fun k hk=>(a5 k (Jp hk e.len)).trans (e.beta k hk),e.same,e.shape,fun x hx hl=>?_,rfl⟩;rcases a4 x hl with h1|h1
  ·exact e.im x hx h1
  ·omega
 ·show (β.X x/\x ≠ b) ↔ _
  rw[h.sub x];constructor
  ·rintro ⟨h1|⟨i,hi⟩,hne⟩
   ·exact .inl h1
   ·refine .inr ⟨i,?_⟩;show(if i=j then none else rb i)=some x
    rw[if_neg (by intro e;subst e;rw[hj] at hi;cases hi;exact hne rfl)];exact hi
  ·rintro (h1|⟨i,hi⟩)
   ·exact⟨.inl h1,fun e=>n2 (e▸h1)⟩
   ·by_cases e:i = j
    ·rw[if_pos e] at hi;cases hi
    ·rw [if_neg e] at hi;exact⟨.inr ⟨i,hi⟩,fun e'=>e (h.rinj i j b (e'▸hi) hj)⟩
 ·by_cases e1:i = j
  ·rw[if_pos e1] at hi;cases hi
  ·by_cases e2:k = j
   ·rw[if_pos e2] at hk;cases hk
   ·rw [if_neg e1] at hi;rw[if_neg e2] at hk;exact h.rinj i k c hi hk
 ·by_cases e:i = j
  ·rw[if_pos e] at hc;cases hc
  ·rw[if_neg e] at hc;exact h.rnew i c hc
section
variable {P:Program} {ops:Array Oper}
def lf(ops:Array Oper)(fl cs:List Nat)(L:Array Bool)(t:Nat):Prop:=
 (∃f∈fl,L.getD f false=false/\dstOf ops f=some t)\/∃j∈cs,L.getD j false=true/\dstOf ops j=some t
def Pend (P:Program) (ops:Array Oper) (S:St) (f:Nat):Prop :=
 ∃o t,ops[f]? = some o/\o.dst = some t/\t < S.nt/\∃G,QJ ops.toList S o = some G /\
   ((∃d,vop P (fun x=>Qn G (S.ev x)) S.hp o.op=some (d,S.hp)/\look S.tm t=aw o.guard G d)\/(G=false/\look S.tm t=.tup []))
def Rv(P:Program)(ops:Array Oper)(rb:Nat->Option Nat)(β:Map)(S:St)(a:Act)(w:World)(j:Nat):Prop:=
 ∃o t d B b,ops[j]?=some o/\o.dst=some t/\rb j=some b/\ij P (fun x=>Qn true (S.ev x)) o.op=some (d,B)/\Resv w β S.hp d B (a.tmps.getD t undef) b
structure MInv(P:Program)(ops:Array Oper)(O:Org)(fl:List Nat)(rs:List Seg)(rb:Nat->Option Nat)(β:Map)(S:St)(L:Array Bool)(a:Act)(w:World):Prop where
 lsz:L.size=ops.size
 core:CInv O (lf ops fl (rs.flatMap (·.C)) L) rb β S a w
 cov:∀i,i<ops.size->L.getD i false=true\/i∈fl++rs.flatMap (·.H)\/i∈rs.map (·.c)\/i∈rs.flatMap (·.C)
 sp:∀c∈rs.map (·.c),L.getD c false=false
 flo:∀f∈rs.flatMap (·.H),L.getD f false=false
 clo:∀i o,ops[i]?=some o->L.getD i false=true->∀e∈o.after,Region.binds .any e=true->L.getD e.on false=true
 rv:∀j∈rs.flatMap (·.C),L.getD j false=true->Rv P ops rb β S a w j
 rbo:∀j b,rb j=some b->j∈rs.flatMap (·.C)/\L.getD j false=true
 pend:∀f∈fl,L.getD f false=false->Pend P ops S f
theorem jR(hj:ops[j]?=some o){L:Array Bool}(hd:∀e∈o.after,Region.binds .any e=true->L.getD e.on false=true)(hb:bnd ops j i=true):L.getD i false=true:=by
 simp only[bnd,hj,JC,Jb,beq_iff_eq] at hb;grind
theorem jS(hj:ops[j]?=some o)(ht:t∈o.looksAt ops):cZ ops j t=true:=by
 simp[cZ,il,hj,ht]
theorem Ei(hj:ops[j]?=some o)(ht:t∈o.looksAt ops):il ops j t=true:=by
 simp[il,hj,ht]
theorem lh(ht:dstOf ops j=some t):cZ ops j t=true:=by simp[cZ,ht]
theorem w9 (h:mZ o = true) (ev:Operand->DV):bf o.op = true/\Qo ev o.op = none/\(ax ev o.op).2 = false:=by
 unfold mZ at h;simp only[Jb] at h;refine⟨h.1,?_,?_⟩
 ·have h1:=h.1;cases hop:o.op with
  |call c =>
    rw[hop] at h1;simp only[bf] at h1;simp only[Qo];split
    ·rename_i f hc;rw[hc] at h1;simp at h1
    ·rfl
  |_=>rfl
 ·have h2:=h.2;cases hop:o.op with
  |store T x y=>rw[hop] at h2;simp at h2
  |_=>rfl
theorem Ej(h:iX o=true)(ev:Operand->DV):Qo ev o.op=none/\o.guard=none:=by
 unfold iX at h;simp only[Jb] at h;refine⟨?_,by simpa using h.1⟩;have h2:=h.2;split at h2
 ·rename_i ho;rw[ho];rfl
 ·rename_i ho;rw[ho];rfl
 ·rename_i ho;rw[ho];rfl
 ·simp at h2
theorem seen{rs:List Seg}(g:Glob ops Fl Sp Cr)(hFl:∀f∈fl,f∈Fl)(hcd:∀j∈rs.flatMap (·.C),∃o t,ops[j]?=some o/\iX o=true/\o.dst=some t/\∀i,i<ops.size->i≠j->cZ ops i t=true->i∈rs.map (·.c))(hi:ops[i]?=some o)(hd:∀e∈o.after,Region.binds .any e=true->L.getD e.on false=true)(hu:cZ ops i t=true)(hns:¬i∈rs.map (·.c))(hself:L.getD i false=false)(hnf:i∈fl->dstOf ops i≠some t):¬lf ops fl (rs.flatMap (·.C)) L t:=by
 have hilt:i<ops.size:=(Ja.1 hi).1;rintro(⟨f,hf,hL,ht⟩|⟨j,hj,hL,ht⟩)
 ·obtain ⟨of,tf,h1,_,h2,_,h3⟩:=g.fl f (hFl f hf);have:tf=t:=by simp only[dstOf,h1] at ht;rw[h2] at ht;exact Jn.inj ht
  subst this;by_cases e:i=f
  ·subst e;exact hnf hf ht
  ·have:=jR hi hd (h3 i hilt e hu);rw[hL] at this;cases this
 ·obtain ⟨oj,tj,h1,_,h2,h3⟩:=hcd j hj;have:tj=t:=by simp only[dstOf,h1] at ht;rw[h2] at ht;exact Jn.inj ht
  subst this;by_cases e:i=j
  ·subst e;rw[hself] at hL;cases hL
  ·exact hns (h3 i hilt e hu)
end
end Go.V
namespace Go.V
section
variable {P:Program} {ops:Array Oper}
structure Stat(ops:Array Oper)(Fl Sp Cr:List Nat)(fl:List Nat)(rs:List Seg):Prop where
 g:Glob ops Fl Sp Cr
 hFl:Fl=fl++rs.flatMap (·.H)
 hSp:∃dn,Sp=dn++rs.map (·.c)
 hCr:∃dn,Cr=dn++rs.flatMap (·.C)
 ok:dN ops fl rs=true
variable {Fl Sp Cr fl:List Nat} {rs:List Seg}
theorem Stat.fl_sub(s:Stat ops Fl Sp Cr fl rs):∀f∈fl,f∈Fl:=fun f hf=>by rw[s.hFl];exact Jj _ hf
theorem Stat.sp_sub(s:Stat ops Fl Sp Cr fl rs):∀c∈rs.map (·.c),c∈Sp:=fun c hc=>by obtain⟨dn,h⟩:=s.hSp;rw[h];exact Jh _ hc
theorem Stat.cr_sub(s:Stat ops Fl Sp Cr fl rs):∀c∈rs.flatMap (·.C),c∈Cr:=fun c hc=>by obtain⟨dn,h⟩:=s.hCr;rw[h];exact Jh _ hc
theorem pz:∀{fl:List Nat} {rs:List Seg},dN ops fl rs = true->∀j ∈ rs.flatMap (·.C),∃o t,ops[j]? = some o/\iX o = true/\o.dst = some t/\∀i,i < ops.size->i ≠ j->cZ ops i t = true->i ∈ rs.map (·.c)
 |fl,[],_,j,hj=>by simp at hj
 |fl,s :: r,h,j,hj=>by
   simp only[dN,Jb] at h;rw[Jr,JA] at hj;rcases hj with hj|hj
   ·exact(m7 h.1).cd j hj
   ·obtain ⟨o,t,h1,h2,h3,h4⟩:=pz h.2 j hj;exact⟨o,t,h1,h2,h3,fun i a b c=>by rw[Js];exact Jf _ (h4 i a b c)⟩
theorem Ek:∀{fl:List Nat} {rs:List Seg},dN ops fl rs = true->∀f ∈ rs.flatMap (·.H),(∃c ∈ rs.map (·.c),bnd ops f c = true)\/∃g ∈ rs.flatMap (·.H),bnd ops f g = true
 |fl,[],_,j,hj=>by simp at hj
 |fl,s :: r,h,f,hf=>by
   simp only[dN,Jb] at h;rw[Jr,JA] at hf;rcases hf with hf|hf
   ·rcases (m7 h.1).hh f hf with h1|⟨g,h1,h2⟩
    ·exact .inl ⟨s.c,vv,h1⟩
    ·exact .inr ⟨g,by rw[Jr];exact Jj _ h1,h2⟩
   ·rcases Ek h.2 f hf with ⟨c,h1,h2⟩|⟨g,h1,h2⟩
    ·exact .inl ⟨c,by rw[Js];exact Jf _ h1,h2⟩
    ·exact .inr ⟨g,by rw[Jr];exact Jh _ h1,h2⟩
theorem El:∀{fl:List Nat} {s:Seg} {r:List Seg},dN ops fl (s :: r) = true->∀c ∈ r.map (·.c),∃c' ∈ (s :: r).map (·.c),bnd ops c c' = true
 |fl,s,[],_,c,hc=>by simp at hc
 |fl,s,s' :: r',h,c,hc=>by
   simp only[dN,Jb] at h;rw[Js,Jl] at hc;rcases hc with rfl|hc
   ·exact⟨s.c,vv,(m7 h.1).ch s' r' rfl⟩
   ·have h2:dN ops (fl ++ s.H) (s' :: r') = true:=by simp only [dN,Jb];exact h.2
    obtain⟨c',h3,h4⟩:=El h2 c hc;exact⟨c',by rw[Js];exact Jf _ h3,h4⟩
theorem xa{L:Array Bool}(h:j<L.size):(L.setIfInBounds j true).getD j false=true:=by simp[h]
theorem Yj(st:Stat ops Fl Sp Cr fl rs)(h:MInv P ops O fl rs rb β S L a w)(hf:f∈fl)(ho:ops[f]?=some o)(hL:L.getD f false=false)(hd:∀e∈o.after,Region.binds .any e=true->L.getD e.on false=true)(hn:∀β' a' w',MInv P ops O fl rs rb β' S (L.setIfInBounds f true) a' w'->next a' w'):
 if Region.wanted o (yielded ops a.tmps) then o.wp P a w next Q\/(o.asks P a w/\LetsOut Q) else next (a.put o.dst undef) w:=by
 have hflt:f<ops.size:=(Ja.1 ho).1;obtain⟨o1,t,e1,hfl,hdst,hown,huse⟩:=st.g.fl f (st.fl_sub f hf);rw[ho] at e1;cases e1;obtain⟨o2,t2,e2,hdst2,htn,G,hG,hval⟩:=h.pend f hf hL;rw[ho] at e2;cases e2;rw[hdst] at hdst2;cases hdst2;have hdo:dstOf ops f=some t:=by simp[dstOf,ho,hdst]
 obtain⟨nSp,nCr⟩:=st.g.fs f (st.fl_sub f hf);have nsp:¬f∈rs.map (·.c):=fun hc=>nSp (st.sp_sub f hc);have hcd:=pz st.ok
 have hseen:∀u∈o.looksAt ops,¬lf ops fl (rs.flatMap (·.C)) L u:=fun u hu=>
  seen st.g st.fl_sub hcd ho hd (jS ho hu) nsp hL (fun _ hd'=>by rw[hdo] at hd';cases hd';exact hown hu)
 have hs:=h.core.only hseen
 -- the new state of the region
 have fin:∀β' w' v,Evo w β S.hp w' β' S.hp->HeapRel w' β' S.hp->RelD w' β' S.hp (look S.tm t) v->next (a.put o.dst v) w':=by
  intro β' w' v k1 k2 k3;refine hn β' _ _ ?_;have hsz:f<L.size:=by rw[h.lsz];exact hflt
  have hself:=xa hsz;have hoth:∀i,i≠f->(L.setIfInBounds f true).getD i false=L.getD i false:=fun i hi=>getD_set_ne false (Ne.symm hi);have hmono:∀i,L.getD i false=true->(L.setIfInBounds f true).getD i false=true:=fun i hi=>getD_set_true hi;have step:=h.core.step (dst:=o.dst) k1 k2 k3 (by rw[hdst];simpa [St.fits] using htn);refine⟨by simp[h.lsz],?_,fun i hi=>(h.cov i hi).imp (hmono i) id,fun c hc=>?_,fun g hg=>?_,fun i oi hi hLi e he hb=>?_,fun j hj hLj=>?_,fun j b hb=>?_,fun g hg hLg=>?_⟩
  ·-- the slots
   refine⟨step.defers,by rw[py];exact h.core.size,fun u hu=>?_,k2,?_,h.core.base,step.sub,step.rinj,step.rnew⟩
   ·by_cases hut:t = u
    ·subst hut;rw[jQ (fun x hx=>by rw[hdst] at hx;cases hx;rw[h.core.size];exact htn),if_pos hdst];exact k3
    ·rw [jQ (fun x hx=>by rw [hdst] at hx;cases hx;rw [h.core.size];exact htn),if_neg (by rw [hdst];exact fun e=>hut (Jn.inj e))];refine(h.core.tm u fun hid=>hu ?_).mono k1;rcases hid with⟨g,hg,hLg,hgd⟩|⟨j,hj,hLj,hjd⟩
     ·refine .inl ⟨g,hg,?_,hgd⟩;by_cases e:g=f
      ·subst e;rw[hdo] at hgd;exact absurd (Jn.inj hgd) hut
      ·rw[hoth g e];exact hLg
     ·exact .inr ⟨j,hj,hmono j hLj,hjd⟩
   ·have:=step.evo;rw[St.put_hp] at this;exact this
  ·rw[hoth c (fun e=>nsp (e▸hc))];exact h.sp c hc
  ·rw [hoth g (fun e=>by
    subst e;have hn:=st.g.nf;rw[st.hFl] at hn
    exact(JS.1 hn).2.2 _ hf _ hg rfl)]
   exact h.flo g hg
  ·by_cases e':i = f
   ·subst e';rw[ho] at hi;cases hi;exact hmono _ (hd e he hb)
   ·rw[hoth i e'] at hLi;exact hmono _ (h.clo i oi hi hLi e he hb)
  ·have hjf:j ≠ f:=fun e=>nCr (st.cr_sub j hj |> fun x=>e ▸ x);rw[hoth j hjf] at hLj;obtain⟨oj,tj,d,B,b,q1,q2,q3,q4,q5⟩:=h.rv j hj hLj;refine⟨oj,tj,d,B,b,q1,q2,q3,q4,?_⟩
   have hne:¬(o.dst=some tj):=fun e=>by
    obtain⟨oj',tj',r1,_,r2,r3⟩:=hcd j hj;rw[q1] at r1;cases r1;rw[q2] at r2;cases r2;exact nsp (r3 f hflt hjf.symm (lh (by simp[dstOf,ho,e])))
   rw[jQ (fun x hx=>by rw[hdst] at hx;cases hx;rw[h.core.size];exact htn),if_neg hne];exact q5.evo h.core.heap k1
  ·obtain ⟨r1,r2⟩:=h.rbo j b hb;exact⟨r1,hmono j r2⟩
  ·have hgf:g ≠ f:=fun e=>by subst e;rw [hself] at hLg;cases hLg
   rw[hoth g hgf] at hLg;exact h.pend g hg hLg
 have hgd:QJ ops.toList (S.only (o.looksAt ops)) o=some G:=by
  rw[jN (S:=S) (fun u hu=>sA S _ u hu)];exact hG
 have hw:=QS (ops:=ops) hs hgd;rw[hw];obtain⟨hk,hcall,hft⟩:=w9 hfl (fun x=>Qn G (S.ev x));cases hGv:G with
 |true =>
   subst hGv;rw[if_pos rfl];rcases hval with⟨d,hv,hl⟩|⟨h0,_⟩
   ·have hev:∀x,RelD w β S.hp (Qn true ((S.only (o.looksAt ops)).ev x)) (a.eval x):=fun x=>gy (hs.ev x) rfl
    have hv':vop P (fun x=>Qn true ((S.only (o.looksAt ops)).ev x)) S.hp o.op=some (d,S.hp):=by
     rw[mY (ev:=fun x=>Qn true (S.ev x)) (fun x hx=>by show Qn true _=Qn true _;rw[ie (S:=S) (fun u hu=>sA S _ u hu) x hx])];exact hv
    refine .inl (oZ (iV h.core.heap hev (fun _=>rfl) hv') (fun v w' β' k1 k2 k3=>fin β' w' v k1 k2 ?_));rw[hl];cases o.guard with
    |none=>exact k3
    |some _=>exact .opt true d v (fun _=>k3) vv
   ·cases h0
 |false =>
   subst hGv;rw[if_neg vv];refine fin β w undef (Evo.refl _ _ _) h.core.heap ?_;rcases hval with⟨d,_,hl⟩|⟨_,hl⟩
   ·rw [hl];cases hgd':o.guard with
    |none=>simp[QJ,hgd'] at hG
    |some _=>exact .opt false d undef vv (fun _=>rfl)
   ·rw[hl];exact .tup [] #[] rfl vv
theorem Yk(st:Stat ops Fl Sp Cr fl rs)(h:MInv P ops O fl rs rb β S L a w)(hj:j∈rs.flatMap (·.C))(ho:ops[j]?=some o)(hL:L.getD j false=false)(hd:∀e∈o.after,Region.binds .any e=true->L.getD e.on false=true)(hfit:S.fits o.dst=true)(hc:jP P (fun x=>Qn true (S.ev x)) o.op)(hn:∀rb' β' a' w',MInv P ops O fl rs rb' β' S (L.setIfInBounds j true) a' w'->next a' w'):
 if Region.wanted o (yielded ops a.tmps) then o.wp P a w next Q\/(o.asks P a w/\LetsOut Q) else next (a.put o.dst undef) w:=by
 have hjlt:j<ops.size:=(Ja.1 ho).1;have hcd:=pz st.ok;obtain⟨o1,t,e1,hcr,hdst,huse⟩:=hcd j hj;rw[ho] at e1;cases e1;have hdo:dstOf ops j=some t:=by simp[dstOf,ho,hdst]
 have htn:t<S.nt:=by rw[hdst] at hfit;simpa [St.fits] using hfit
 have nSp:¬j∈Sp:=fun hs=>st.g.sc j hs (st.cr_sub j hj);have nsp:¬j∈rs.map (·.c):=fun hs=>nSp (st.sp_sub j hs);have nFl:¬j∈Fl:=fun hf=>(st.g.fs j hf).2 (st.cr_sub j hj)
 have hseen:∀u∈o.looksAt ops,¬lf ops fl (rs.flatMap (·.C)) L u:=fun u hu=>
  seen st.g st.fl_sub hcd ho hd (jS ho hu) nsp hL (fun hf=>absurd (st.fl_sub j hf) nFl)
 have hs:=h.core.only hseen;obtain⟨_,hgn⟩:=Ej hcr (fun x=>S.ev x);have hgd:QJ ops.toList (S.only (o.looksAt ops)) o=some true:=by simp[QJ,hgn]
 have hw:=QS (ops:=ops) hs hgd;rw[hw,if_pos rfl]
 have hev:∀x∈o.op.operands.toList,RelD w β S.hp (Qn true (S.ev x)) (a.eval x):=fun x hx=>by
  have:=hs.ev x;rw[ie (S:=S) (fun u hu=>sA S _ u hu) x hx] at this;exact gy this rfl
 obtain⟨d,B,v,w',b,c1,c2,c3,c4,c5,c6,c7,c8,c9,c10⟩:=Yh (β:=β) h.core.heap hev (fun _=>rfl) hc
 have hrb:rb j=none:=by
  cases hr:rb j with
  |none=>rfl
  |some x=>have:=(h.rbo j x hr).2;rw[hL] at this;cases this
 have core:=h.core.reserve (v:=v) c3 c4 c5 c6 c7 c8 c9 hrb htn
 have hnext:next (a.put o.dst v) w':=by
  rw[hdst];refine hn (fun i=>if i=j then some b else rb i) ⟨β.f,fun x=>β.X x\/x=b⟩ _ _ ?_;have hsz:j<L.size:=by rw[h.lsz];exact hjlt
  have hself:=xa hsz;have hoth:∀i,i≠j->(L.setIfInBounds j true).getD i false=L.getD i false:=fun i hi=>getD_set_ne false (Ne.symm hi);have hmono:∀i,L.getD i false=true->(L.setIfInBounds j true).getD i false=true:=fun i hi=>getD_set_true hi;refine⟨by simp[h.lsz],core.hide fun u hu=>?_,fun i hi=>(h.cov i hi).imp (hmono i) id,fun c hc=>?_,fun g hg=>?_,fun i oi hi hLi e he hb=>?_,fun i hi hLi=>?_,fun i b' hb'=>?_,fun g hg hLg=>?_⟩
  ·rcases hu with (⟨f,hf,hLf,hfd⟩|⟨i,hi,hLi,hid⟩)|rfl
   ·exact .inl ⟨f,hf,by rw[hoth f (fun e=>nFl (e▸st.fl_sub f hf))];exact hLf,hfd⟩
   ·exact .inr ⟨i,hi,hmono i hLi,hid⟩
   ·exact .inr ⟨j,hj,hself,hdo⟩
  ·rw[hoth c (fun e=>nsp (e▸hc))];exact h.sp c hc
  ·rw[hoth g (fun e=>nFl (by rw[<-e,st.hFl];exact Jh _ hg))];exact h.flo g hg
  ·by_cases e':i = j
   ·subst e';rw[ho] at hi;cases hi;exact hmono _ (hd e he hb)
   ·rw[hoth i e'] at hLi;exact hmono _ (h.clo i oi hi hLi e he hb)
  ·by_cases e:i = j
   ·subst e;exact⟨o,t,d,B,b,ho,hdst,vv,c1,by rw[jQ (fun x hx=>by cases hx;rw[h.core.size];exact htn),if_pos rfl];exact c10⟩
   ·rw [hoth i e] at hLi;obtain⟨oi,ti,di,Bi,bi,q1,q2,q3,q4,q5⟩:=h.rv i hi hLi;refine⟨oi,ti,di,Bi,bi,q1,q2,by show(if i=j then some b else rb i)=some bi;rw[if_neg e];exact q3,q4,?_⟩
    have hne:¬(some t=some ti):=fun et=>by
     cases et;obtain⟨oi',ti',r1,_,r2,r3⟩:=hcd i hi;rw[q1] at r1;cases r1;rw[q2] at r2;cases r2;exact nsp (r3 j hjlt (Ne.symm e) (lh hdo))
    rw[jQ (fun x hx=>by cases hx;rw[h.core.size];exact htn),if_neg hne];exact q5.out' c6 c9 (fun x hx hX=>hX.elim id (fun e=>by omega)) (.inl q5.out)
  ·by_cases e:i = j
   ·subst e;exact⟨hj,hself⟩
   ·have hb':(if i = j then some b else rb i) = some b':=hb';rw[if_neg e] at hb';obtain⟨r1,r2⟩:=h.rbo i b' hb';exact⟨r1,hmono i r2⟩
  ·have hgj:g ≠ j:=fun e=>nFl (e ▸ st.fl_sub g hg);rw[hoth g hgj] at hLg;exact h.pend g hg hLg
 refine .inl ?_;unfold Oper.wp;rcases c2 with c2|⟨c2,rfl⟩
 ·rw[c2];exact hnext
 ·rw[c2];exact hnext
end
end Go.V
namespace Go.V
section
variable {P:Program} {ops:Array Oper}
theorem xb (all:List Oper):∀(a b:List Nat),pick all (a ++ b) = pick all a ++ pick all b
 |[],_=>rfl
 |i :: r,b=>by
   simp only[JH,pick];cases all[i]? with
   |none=>exact xb all r b
   |some o=>simp only[JH];rw[xb all r b]
theorem sH (h:all[i]? = some o):∀{l:List Nat},i ∈ l->o ∈ pick all l
 |[],hm=>by simp at hm
 |a :: r,hm=>by
   simp only[pick];rcases Jl.1 hm with rfl|hm
   ·rw[h];exact List.mem_cons_self
   ·cases all[a]? with
    |none=>exact sH h hm
    |some o'=>exact Jf _ (sH h hm)
theorem pA{i:Nat}(h:ops[i]?=some o):ops.toList[i]?=some o:=by simpa using h
theorem Yl(h:∀x∈o.operands.toList,ev' x=ev x):ax ev' o=ax ev o:=by
 cases o<;>first|rfl|(simp only[ax];rw[h _ (by simp[Op.operands])])
theorem Em(h:∀x∈o.operands.toList,ev' x=ev x):ij P ev' o=ij P ev o:=by
 unfold ij;rw[mY h]
theorem Pend.move(h:Pend P ops S f)(ho:ops[f]?=some o)(hd:o.dst=some t)(hfl:mZ o=true)(hl:∀u∈o.looksAt ops,look S2.tm u=look S.tm u)(ht:look S2.tm t=look S.tm t)(hn:S2.nt=S.nt)(hh:∀G,QJ ops.toList S o=some G->∀k∈(ax (fun x=>Qn G (S.ev x)) o.op).1,S2.hp[k]?=S.hp[k]?):Pend P ops S2 f:=by
 obtain⟨o1,t1,e1,e2,e3,G,e4,e5⟩:=h;rw[ho] at e1;cases e1;rw[hd] at e2;cases e2;refine⟨o,t,ho,hd,by rw[hn];exact e3,G,by rw[jN hl];exact e4,?_⟩;rcases e5 with⟨d,h1,h2⟩|⟨h1,h2⟩
 ·refine .inl ⟨d,?_,by rw [ht];exact h2⟩;rw[mY (ev:=fun x=>Qn G (S.ev x)) (fun x hx=>by show Qn G _=Qn G _;rw[ie hl x hx])];obtain⟨k1,_,k3⟩:=w9 hfl (fun x=>Qn G (S.ev x));rcases o0 (hp':=S2.hp) k1 (hh G e4) h1 with⟨_,_,r⟩|⟨r,_⟩
  ·exact r
  ·rw[k3] at r;cases r
 ·exact .inr ⟨h1,by rw[ht];exact h2⟩
theorem xc:∀{l:List Nat} {S:St},(∀f ∈ l,∃o t,ops[f]? = some o/\mZ o = true/\o.dst = some t/\¬t ∈ o.looksAt ops)->(l.Pairwise fun f g=>∀t,dstOf ops g = some t->cZ ops f t = false)->an P ops.toList (pick ops.toList l) K S ->
 ∃S2,K S2/\S2.hp=S.hp/\S2.nt=S.nt/\S2.base=S.base/\(∀t,(∀f∈l,dstOf ops f≠some t)->look S2.tm t=look S.tm t)/\∀f∈l,Pend P ops S2 f
 |[],S,_,_,h=>⟨S,h,rfl,rfl,rfl,fun _ _=>rfl,vv⟩
 |f :: l, S,hf,hp,h=>by
   obtain⟨o,t,ho,hfl,hd,hown⟩:=hf f vv;have hdo:dstOf ops f=some t:=by simp[dstOf,ho,hd]
   rw[J0] at hp;simp only[pick,pA ho] at h;unfold an at h;obtain⟨hfit,h⟩:=h;have htn:t<S.nt:=by rw[hd] at hfit;simpa [St.fits] using hfit
   -- Q6 the first
   have go : ∀d,Pend P ops (S.put (some t) d) f->an P ops.toList (pick ops.toList l) K (S.put (some t) d)->∃S2,K S2/\S2.hp = S.hp/\S2.nt = S.nt/\S2.base = S.base/\(∀t,(∀f' ∈ f :: l,dstOf ops f' ≠ some t)->look S2.tm t = look S.tm t)/\∀f' ∈ f :: l,Pend P ops S2 f':=by
    intro d hpend hr;obtain⟨S2,k1,k2,k3,k4,k5,k6⟩:=xc (fun g hg=>hf g (Jf _ hg)) hp.2 hr;refine⟨S2,k1,k2,k3,k4,fun u hu=>?_,fun g hg=>?_⟩
    ·rw[k5 u (fun g hg=>hu g (Jf _ hg)),iZ,if_neg (fun e=>hu f vv (by rw[hdo];exact e))]
    ·rcases Jl.1 hg with rfl|hg
     ·have keep:∀u,cZ ops g u = true->look S2.tm u = look (S.put (some t) d).tm u:=fun u hu=>k5 u fun g' hg' e=>by
       have:=hp.1 g' hg' u e;rw[hu] at this;cases this
      exact hpend.move ho hd hfl (fun u hu=>keep u (jS ho hu)) (keep t (lh hdo)) k3 (fun _ _ k _=>by rw[k2])
     ·exact k6 g hg
   have hl:∀d,∀u∈o.looksAt ops,look (S.put (some t) d).tm u=look S.tm u:=fun d u hu=>by rw[iZ,if_neg (fun e=>hown (by cases e;exact hu))]
   split at h
   ·exact h.elim
   ·rename_i hG;rw[hd] at h;exact go _ ⟨o,t,ho,hd,htn,false,by rw[jN (hl _)];exact hG,.inr ⟨rfl,by rw[iZ,if_pos rfl]⟩⟩ h
   ·rename_i hG;obtain⟨c1,c2,c3⟩:=w9 hfl (fun x=>Qn true (S.ev x));rw[c2] at h;simp only at h
    split at h
    ·rename_i d hp' hv
     have hhp:hp'=S.hp:=by
      rcases o0 (hp':=S.hp) c1 (fun _ _=>rfl) hv with⟨_,r,_⟩|⟨r,_⟩
      ·exact r
      ·rw[c3] at r;cases r
     subst hhp;have hS:(S.at S.hp).put o.dst (aw o.guard true d)=S.put (some t) (aw o.guard true d):=by rw[hd];rfl
     rw[hS] at h;refine go _ ⟨o,t,ho,hd,htn,true,by rw[jN (hl _)];exact hG,.inl ⟨d,?_,by rw[iZ,if_pos rfl]⟩⟩ h;rw[mY (ev:=fun x=>Qn true (S.ev x)) (fun x hx=>by show Qn true _=Qn true _;rw[ie (hl _) x hx])];exact hv
    ·exact h.elim
theorem En:∀{l:List Nat} {rb:Nat->Option Nat} {β:Map} {S:St},CInv O (lf ops fl (l ++ cs) L) rb β S a w->(∀j ∈ l ++ cs,L.getD j false = true->Rv P ops rb β S a w j) ->
 (∀j b,rb j=some b->j∈l++cs/\L.getD j false=true)->(∀j∈l,L.getD j false=true)->(∀j∈l++cs,∃o t,ops[j]?=some o/\iX o=true/\o.dst=some t/\∀i∈l++cs,i≠j->cZ ops i t=false) ->
 (l++cs).Nodup->an P ops.toList (pick ops.toList l++rest) K S ->
 ∃rb' β' S',an P ops.toList rest K S'/\CInv O (lf ops fl cs L) rb' β' S' a w/\(∀j∈cs,L.getD j false=true->Rv P ops rb' β' S' a w j)/\(∀j b,rb' j=some b->j∈cs/\L.getD j false=true)/\S'.nt=S.nt/\(∀t,(∀j∈l,dstOf ops j≠some t)->look S'.tm t=look S.tm t)
 |[],rb,β,S,core,rv,rbo,_,_,_,h=>⟨rb,β,S,h,core,rv,rbo,rfl,fun _ _=>rfl⟩
 |j :: l,rb,β,S,core,rv,rbo,hl,hcd,hnd,h=>by
   obtain⟨o,t,ho,hcr,hd,huse⟩:=hcd j vv;have hdo:dstOf ops j=some t:=by simp[dstOf,ho,hd]
   rw[JH,JO] at hnd;obtain⟨o1,t1,d,B,b,e1,e2,e3,e4,e5⟩:=rv j vv (hl j vv);rw[ho] at e1;cases e1;rw[hd] at e2;cases e2;simp only[pick,pA ho,JH] at h;unfold an at h;obtain⟨hfit,h⟩:=h;obtain⟨hcall,hgn⟩:=Ej hcr (fun x=>Qn true (S.ev x));have hG:QJ ops.toList S o=some true:=by simp[QJ,hgn]
   rw[hG] at h;simp only at h
   rw[hcall,Yg hcr e4 S.hp] at h;simp only[hd,hgn,aw] at h;have hne:∀i∈l++cs,i≠j:=fun i hi e=>hnd.1 (e▸hi);have hcore:=core.adopt (t:=t) e3 e5;obtain⟨a1,a2,a3,a4,a5⟩:=V.adopt core.heap e5
   have hlook:∀i∈l++cs,∀oi,ops[i]?=some oi->∀u∈oi.looksAt ops,look ((S.at (S.hp++[B])).put (some t) (d.ren fun _=>S.hp.length)).tm u=look S.tm u:=fun i hi oi hoi u hu=>by
    rw[iZ,if_neg (fun e=>by
     cases e;have:=huse i (Jf _ hi) (hne i hi)
     rw[jS hoi hu] at this; cases this)]
    rfl
   obtain⟨rb',β',S',k1,k2,k3,k4,k5,k6⟩:=En (l:=l) (cs:=cs) (rest:=rest) (K:=K)
    (hcore.hide fun u hu=>by
     rcases hu with⟨hu|⟨i,hi,hLi,hid⟩,hut⟩
     ·exact .inl hu
     ·refine .inr ⟨i,?_,hLi,hid⟩;rcases Jl.1 hi with rfl|hi
      ·rw[hdo] at hid;exact absurd (Jn.inj hid).symm hut
      ·exact hi)
    (fun i hi hLi=>by
     obtain⟨oi,ti,di,Bi,bi,q1,q2,q3,q4,q5⟩:=rv i (Jf _ hi) hLi;refine⟨oi,ti,di,Bi,bi,q1,q2,by show(if i=j then none else rb i)=some bi;rw[if_neg (hne i hi)];exact q3,?_,?_⟩
     ·rw [Em (ev:=fun x=>Qn true (S.ev x)) (fun x hx=>by show Qn true _ = Qn true _;rw [ie (hlook i hi oi q1) x hx])];exact q4
     ·obtain ⟨r1,r2,r3,C,r4,r5,r6,r7⟩:=q5
      exact⟨r1,r2,⟨r3,fun e=>hne i hi (core.rinj i j b (e▸q3) e3)⟩,C,r4,r5,fun k x hx=>⟨(r6 k x hx).1,a2 _ _ (r6 k x hx).2⟩,r7⟩)
    (fun i c hc=>by
     have hc:(if i=j then none else rb i)=some c:=hc;by_cases e:i=j
     ·rw[if_pos e] at hc;cases hc
     ·rw [if_neg e] at hc;obtain⟨r1,r2⟩:=rbo i c hc;rcases Jl.1 r1 with rfl|r1
      ·exact absurd rfl e
      ·exact⟨r1,r2⟩)
    (fun i hi=>hl i (Jf _ hi))
    (fun i hi=>by
     obtain⟨oi,ti,q1,q2,q3,q4⟩:=hcd i (Jf _ hi)
     exact⟨oi,ti,q1,q2,q3,fun k hk hki=>q4 k (Jf _ hk) hki⟩)
    hnd.2 h
   refine⟨rb',β',S',k1,k2,k3,k4,k5,fun u hu=>?_⟩;rw[k6 u (fun i hi=>hu i (Jf _ hi)),iZ,if_neg (fun e=>hu j vv (by rw[hdo];exact e))];rfl
theorem xd (g:Glob ops Fl Sp Cr):∀{l:List Nat},(∀f ∈ l,f ∈ Fl)->pw ops l = true->l.Nodup->l.Pairwise fun f g=>∀t,dstOf ops g = some t->cZ ops f t = false
 |[],_,_,_=>List.Pairwise.nil
 |f :: r,hm,hi,hn=>by
   simp only[pw,Jb] at hi;rw[JO] at hn;refine J0.2 ⟨fun x hx t ht=>?_,xd g (fun x hx=>hm x (Jf _ hx)) hi.2 hn.2⟩;obtain⟨o,u,h1,_,h2,_,h3⟩:=g.fl x (hm x (Jf _ hx));have:u=t:=by simp only[dstOf,h1] at ht;rw[h2] at ht;exact Jn.inj ht
   subst this;cases hu:cZ ops f u with
   |false=>rfl
   |true =>
     obtain⟨of,_,hof,_⟩:=g.fl f (hm f vv);have:=h3 f (Ja.1 hof).1 (fun e=>hn.1 (e▸hx)) hu;have hb:=Je.1 hi.1 x hx;rw[this] at hb;cases hb
end
end Go.V
namespace Go.V
section
variable {P:Program} {ops:Array Oper} {Fl Sp Cr fl:List Nat}
theorem Eo:∀{l:List Nat},ld hp hp1 l->∀k ∈ l,hp1[k]? = hp[k]?
 |[],_,k,hk=>by simp at hk
 |a :: r,h,k,hk=>by
   rcases Jl.1 hk with rfl|hk
   ·exact h.1
   ·exact Eo h.2 k hk
theorem Ep:∀{l:List Oper},ik all S S1 l->∀o ∈ l,sC S S1 o (QJ all S1 o)
 |[],_,o,ho=>by simp at ho
 |a :: r,h,o,ho=>by
   rcases Jl.1 ho with rfl|ho
   ·exact h.1
   ·exact Ep h.2 o ho
theorem Er:∀{l:List Oper},iY P S l->∀o ∈ l,S.fits o.dst = true/\jP P (fun x=>Qn true (S.ev x)) o.op
 |[],_,o,ho=>by simp at ho
 |a :: r,h,o,ho=>by
   rcases Jl.1 ho with rfl|ho
   ·exact h.1
   ·exact Er h.2 o ho
theorem Ym (st:Stat ops Fl Sp Cr fl (s :: r)) (h:MInv P ops O fl (s :: r) rb β S L a w) (ho:ops[s.c]? = some o) (hd:∀e ∈ o.after,Region.binds .any e = true->L.getD e.on false = true) (hv:vsp P ops.toList (s :: r) K S) (hn:∀rb' β' S' a' w',MInv P ops O (fl ++ s.H) r rb' β' S' (L.setIfInBounds s.c true) a' w'->vsp P ops.toList r K S'->next a' w'):
 if Region.wanted o (yielded ops a.tmps) then o.wp P a w next Q\/(o.asks P a w/\LetsOut Q) else next (a.put o.dst undef) w:=by
 have hclt:s.c<ops.size:=(Ja.1 ho).1;have hL:L.getD s.c false=false:=h.sp s.c vv;have hsegs:=st.ok;simp only[dN,Jb] at hsegs;have so:=m7 hsegs.1;have hcd:=pz st.ok;have hcdr:=pz hsegs.2;have hcs:(s::r).flatMap (·.C)=s.C++r.flatMap (·.C):=Jr;have hHs:(s::r).flatMap (·.H)=s.H++r.flatMap (·.H):=Jr;have hSpn:((s::r).map (·.c)).Nodup:=by obtain⟨dn,e⟩:=st.hSp;have:=st.g.ns;rw[e] at this;exact(JS.1 this).2.1
 rw[Js,JO] at hSpn;have hCrn:((s::r).flatMap (·.C)).Nodup:=by obtain⟨dn,e⟩:=st.hCr;have:=st.g.nc;rw[e] at this;exact(JS.1 this).2.1
 have hcSp:s.c∈Sp:=st.sp_sub s.c vv;have hcFl:¬s.c∈Fl:=fun hf=>(st.g.fs _ hf).1 hcSp;have hcCr:¬s.c∈Cr:=st.g.sc _ hcSp;have crSp:∀j∈(s::r).flatMap (·.C),¬j∈(s::r).map (·.c):=fun j hj hs=>st.g.sc j (st.sp_sub j hs) (st.cr_sub j hj);have flSp:∀f∈Fl,¬f∈(s::r).map (·.c):=fun f hf hs=>(st.g.fs f hf).1 (st.sp_sub f hs);have hHFl:∀f∈s.H,f∈Fl:=fun f hf=>by rw[st.hFl,hHs];exact Jh _ (Jj _ hf)
 unfold vsp at hv;obtain⟨_,hv⟩:=hv;rw[xb] at hv;have hpc:pick ops.toList [s.c]=[o]:=by simp only[pick,pA ho]
 rw[hpc] at hv;have hCL:∀j∈s.C,L.getD j false=true:=fun j hj=>jR ho hd (so.cc j hj);have hcore:=h.core;rw[hcs] at hcore
 obtain ⟨rb',β',S',k1,k2,k3,k4,k5,k6⟩:=En (l:=s.C) (cs:=r.flatMap (·.C)) hcore (by rw [<-hcs];exact h.rv) (by rw [<-hcs];exact h.rbo) hCL
  (by
   rw[<-hcs];intro j hj;obtain⟨oj,tj,q1,q2,q3,q4⟩:=hcd j hj;refine⟨oj,tj,q1,q2,q3,fun i hi hne=>?_⟩;cases hu:cZ ops i tj with
   |false=>rfl
   |true =>
     obtain⟨oi,_,p1,_⟩:=hcd i hi
     exact absurd (q4 i (Ja.1 p1).1 hne hu) (crSp i hi))
  (by rw[<-hcs];exact hCrn) hv
 -- the operation itself
 have hseen:∀u∈o.looksAt ops,¬lf ops fl (r.flatMap (·.C)) L u:=fun u hu=>
  seen st.g st.fl_sub hcdr ho hd (jS ho hu) hSpn.1 hL (fun hf=>absurd (st.fl_sub _ hf) hcFl)
 have hs:=k2.only hseen;have hrun:=Ye (S':=S'.only (o.looksAt ops)) (fun t ht=>sA S' _ t ht) rfl rfl k1;refine Yf hs hrun (fun β2 d v hp2 w2 e1 e2 e3 hfit hK=>?_);obtain⟨d',hp',heq,hag,hrunH⟩:=hK;have hfit':S'.fits o.dst=true:=hfit
 have hhp:hp'=hp2:=by
  have:=congrArg St.hp heq;rw[St.put_hp,St.put_hp] at this;exact this.symm
 subst hhp
 have hS1:(S'.at hp').put o.dst d' = (S'.at hp').put o.dst d:=by
  cases hdd:o.dst with
  |none=>rfl
  |some t =>
    rw[hdd] at heq;have:=congrArg St.tm heq;simp only[St.put,List.cons.injEq,Prod.mk.injEq] at this;rw[this.1.2]
 rw[hS1] at hag hrunH;have step:=k2.step e1 e2 e3 hfit';generalize hS1e:(S'.at hp').put o.dst d=S1 at hag hrunH step;have l1:∀t,o.dst≠some t->look S1.tm t=look S'.tm t:=fun t ht=>by rw[<-hS1e,iZ,if_neg ht];rfl
 have n1:S1.nt=S'.nt:=by rw[<-hS1e,St.put_nt];rfl
 have h1hp:S1.hp=hp':=by rw[<-hS1e,St.put_hp];rfl
 have hpairAll:=xd st.g (fun f hf=>hf) st.g.fo st.g.nf;rw[st.hFl,hHs,<-JT,JJ] at hpairAll;obtain⟨hpair1,_,_⟩:=hpairAll;rw[JJ] at hpair1;obtain⟨_,hpairH,hpairX⟩:=hpair1;obtain⟨S2,m1,m2,m3,m4,m5,m6⟩:=xc (fun f hf=>by obtain⟨of,tf,q1,q2,q3,q4,_⟩:=st.g.fl f (hHFl f hf);exact⟨of,tf,q1,q2,q3,q4⟩) hpairH hrunH;refine hn rb' β2 S2 _ _ ?_ m1;have hsz:s.c<L.size:=by rw[h.lsz];exact hclt
 have hself:=xa hsz;have hoth:∀i,i≠s.c->(L.setIfInBounds s.c true).getD i false=L.getD i false:=fun i hi=>getD_set_ne false (Ne.symm hi);have hmono:∀i,L.getD i false=true->(L.setIfInBounds s.c true).getD i false=true:=fun i hi=>getD_set_true hi;have hHL:∀f∈s.H,L.getD f false=false:=fun f hf=>h.flo f (by rw[hHs];exact Jj _ hf);have hcdo:∀t,o.dst=some t->dstOf ops s.c=some t:=fun t ht=>by simp[dstOf,ho,ht]
 -- slots of others that this operation does not write
 have keepF:∀f∈fl,L.getD f false=false->∀of,ops[f]?=some of->∀u∈of.looksAt ops,look S2.tm u=look S.tm u/\look S1.tm u=look S.tm u:=by
  intro f hf hLf of hof u hu
  have a1:o.dst≠some u:=fun e=>by
   rcases st.g.sp s.c hcSp u (hcdo u e) f (st.fl_sub f hf) (Ei hof hu) with hb|hb
   ·have:=jR ho hd hb;rw[hLf] at this;cases this
   ·rw[(so.fc f hf).1] at hb;cases hb
  have a2:∀j∈s.C,dstOf ops j≠some u:=fun j hj e=>by
   obtain⟨oj,tj,q1,q2,q3,q4⟩:=so.cd j hj;have:tj=u:=by simp only[dstOf,q1] at e;rw[q3] at e;exact Jn.inj e
   subst this;exact flSp f (st.fl_sub f hf) (q4 f (Ja.1 hof).1 (fun e=>(st.g.fs f (st.fl_sub f hf)).2 (e▸st.cr_sub j (by rw[hcs];exact Jj _ hj))) (jS hof hu))
  have a3:∀g∈s.H,dstOf ops g≠some u:=fun g hg e=>by
   have:=hpairX f hf g hg u e;rw[jS hof hu] at this;cases this
  exact⟨(m5 u a3).trans ((l1 u a1).trans (k6 u a2)),(l1 u a1).trans (k6 u a2)⟩
 have keepD:∀f∈fl,L.getD f false=false->∀t,dstOf ops f=some t->f<ops.size->look S2.tm t=look S.tm t:=by
  intro f hf hLf t ht hflt
  have a1:o.dst≠some t:=fun e=>by
   obtain⟨of,tf,q1,_,q2,_,q3⟩:=st.g.fl f (st.fl_sub f hf);have:tf=t:=by simp only[dstOf,q1] at ht;rw[q2] at ht;exact Jn.inj ht
   subst this;have:=jR ho hd (q3 s.c hclt (fun e=>hcFl (e▸st.fl_sub f hf)) (lh (hcdo tf e)));rw[hLf] at this;cases this
  have a2:∀j∈s.C,dstOf ops j≠some t:=fun j hj e=>by
   obtain⟨oj,tj,q1,q2,q3,q4⟩:=so.cd j hj;have:tj=t:=by simp only[dstOf,q1] at e;rw[q3] at e;exact Jn.inj e
   subst this;exact flSp f (st.fl_sub f hf) (q4 f hflt (fun e=>(st.g.fs f (st.fl_sub f hf)).2 (e▸st.cr_sub j (by rw[hcs];exact Jj _ hj))) (lh ht))
  have a3:∀g∈s.H,dstOf ops g≠some t:=fun g hg e=>by
   have:=hpairX f hf g hg t e;rw[lh ht] at this;cases this
  exact(m5 t a3).trans ((l1 t a1).trans (k6 t a2))
 have keepC:∀j∈r.flatMap (·.C),L.getD j false=true->∀oj,ops[j]?=some oj->∀u∈oj.looksAt ops,look S2.tm u=look S'.tm u:=by
  intro j hj hLj oj hoj u hu;have hjc:j∈(s::r).flatMap (·.C):=by rw[hcs];exact Jh _ hj
  have hdj:=h.clo j oj hoj hLj
  have a1:o.dst≠some u:=fun e=>by
   have:=jR hoj hdj (st.g.cr j (st.cr_sub j hjc) s.c u hclt (hcdo u e) (fun e=>hcCr (e▸st.cr_sub j hjc)) (Ei hoj hu));rw[hL] at this;cases this
  have a3:∀g∈s.H,dstOf ops g≠some u:=fun g hg e=>by
   obtain⟨og,tg,q1,_,q2,_,q3⟩:=st.g.fl g (hHFl g hg);have:tg=u:=by simp only[dstOf,q1] at e;rw[q2] at e;exact Jn.inj e
   subst this;have:=jR hoj hdj (q3 j (Ja.1 hoj).1 (fun e=>(st.g.fs g (hHFl g hg)).2 (e▸st.cr_sub j hjc)) (jS hoj hu));rw[hHL g hg] at this;cases this
  exact(m5 u a3).trans (l1 u a1)
 have hfitu:∀u,o.dst=some u->u<a.tmps.size:=fun u hu=>by rw[k2.size];rw[hu] at hfit';simpa [St.fits] using hfit'
 refine⟨by simp[h.lsz],?_,fun i hi=>?_,fun c hc=>?_,fun g hg=>?_,fun i oi hi hLi e he hb=>?_,fun j hj hLj=>?_,fun j b hb=>?_,fun f hf hLf=>?_⟩
 ·refine ⟨step.defers,by rw [m3];exact step.size,fun t ht=>?_,by rw [m2];exact step.heap,by rw [m2];exact step.evo,by rw [m4];exact step.base,step.sub,step.rinj,step.rnew⟩;have a3:∀g∈s.H,dstOf ops g≠some t:=fun g hg e=>ht (.inl ⟨g,Jh _ hg,by rw[hoth g (fun e=>hcFl (e▸hHFl g hg))];exact hHL g hg,e⟩);rw[m5 t a3,m2];refine step.tm t fun⟨hid,_⟩=>ht ?_;rcases hid with⟨f,hf,hLf,hfd⟩|⟨j,hj,hLj,hjd⟩
  ·exact .inl ⟨f,Jj _ hf,by rw[hoth f (fun e=>hcFl (e▸st.fl_sub f hf))];exact hLf,hfd⟩
  ·exact .inr ⟨j,hj,hmono j hLj,hjd⟩
 ·rcases h.cov i hi with hc|hc|hc|hc
  ·exact .inl (hmono i hc)
  ·rw[hHs,<-JT] at hc;exact .inr (.inl hc)
  ·rw [Js,Jl] at hc;rcases hc with rfl|hc
   ·exact .inl hself
   ·exact .inr (.inr (.inl hc))
  ·rw [hcs,JA] at hc;rcases hc with hc|hc
   ·exact .inl (hmono i (hCL i hc))
   ·exact .inr (.inr (.inr hc))
 ·rw[hoth c (fun e=>hSpn.1 (e▸hc))];exact h.sp c (by rw[Js];exact Jf _ hc)
 ·rw [hoth g (fun e=>hcFl (by rw [<-e,st.hFl,hHs];exact Jh _ (Jh _ hg)))];exact h.flo g (by rw[hHs];exact Jh _ hg)
 ·by_cases e':i = s.c
  ·subst e';rw[ho] at hi;cases hi;exact hmono _ (hd e he hb)
  ·rw[hoth i e'] at hLi;exact hmono _ (h.clo i oi hi hLi e he hb)
 ·have hjc:j ∈ (s :: r).flatMap (·.C):=by rw [hcs];exact Jh _ hj
  have hjne:j≠s.c:=fun e=>hcCr (e▸st.cr_sub j hjc);rw[hoth j hjne] at hLj;obtain⟨oj,tj,dj,B,b,q1,q2,q3,q4,q5⟩:=k3 j hj hLj;refine⟨oj,tj,dj,B,b,q1,q2,q3,?_,?_⟩
  ·rw [Em (ev:=fun x=>Qn true (S'.ev x)) (fun x hx=>by show Qn true _ = Qn true _;rw [ie (keepC j hj hLj oj q1) x hx])];exact q4
  ·have hne:¬(o.dst = some tj):=fun e=>by
    obtain⟨oj',tj',r1,_,r2,r3⟩:=hcdr j hj;rw[q1] at r1;cases r1;rw[q2] at r2;cases r2;exact hSpn.1 (r3 s.c hclt hjne.symm (lh (hcdo tj e)))
   rw[jQ hfitu,if_neg hne,m2,h1hp];exact q5.evo k2.heap e1
 ·obtain ⟨r1,r2⟩:=k4 j b hb;exact⟨r1,hmono j r2⟩
 ·rcases JA.1 hf with hf|hf
  ·have hfne:f ≠ s.c:=fun e=>hcFl (e ▸ st.fl_sub f hf);rw[hoth f hfne] at hLf;obtain⟨of,tf,q1,q2,q3,_,_⟩:=st.g.fl f (st.fl_sub f hf);have hflt:f<ops.size:=(Ja.1 q1).1;refine(h.pend f hf hLf).move q1 q3 q2 (fun u hu=>(keepF f hf hLf of q1 u hu).1) (keepD f hf hLf tf (by simp[dstOf,q1,q3]) hflt) (m3.trans (n1.trans k5)) (fun G hG k hk=>?_)
   have hF:f∈s.F:=by
    rcases so.ff f hf with hF|hb
    ·exact hF
    ·have:=jR ho hd hb;rw[hLf] at this;cases this
   have hag1:=Ep hag of (sH (pA q1) hF);have hg1:QJ ops.toList S1 of=some G:=by rw[jN (S:=S) (fun u hu=>(keepF f hf hLf of q1 u hu).2)];exact hG
   rw[hg1] at hag1;have hft:ax (fun x=>Qn G (S1.ev x)) of.op=ax (fun x=>Qn G (S.ev x)) of.op:=Yl fun x hx=>by rw[ie (S:=S) (fun u hu=>(keepF f hf hLf of q1 u hu).2) x hx]
   have:=Eo hag1 k (by rw[hft];exact hk);rw[m2];exact this
  ·exact m6 f hf
theorem Yn (hK:∀β S a w,Sim O β S a w->K S->Q .normal a w):∀(fuel:Nat) (L:Array Bool) (a:Act) (w:World) (fl:List Nat) (rs:List Seg) (rb:Nat->Option Nat) (β:Map) (S:St),
 (Jk ops.size).countP (fun i=>!L.getD i false)<=fuel->Stat ops Fl Sp Cr fl rs->MInv P ops O fl rs rb β S L a w->vsp P ops.toList rs K S->wpAny P .any ops Q fuel L a w:=by
 have done : ∀(L:Array Bool) (a:Act) (w:World) (fl:List Nat) (rs:List Seg) (rb:Nat->Option Nat) (β:Map) (S:St),Region.ready .any ops L = []->Stat ops Fl Sp Cr fl rs->MInv P ops O fl rs rb β S L a w->vsp P ops.toList rs K S->Q .normal a w:=by
  intro L a w fl rs rb β S hready st h hv
  have all:∀i,i < ops.size->L.getD i false = true:=by
   intro i;induction i using JL with
   |_ i ih =>
     intro hlt;cases hl:L.getD i false with
     |true=>rfl
     |false =>
       have ho:ops[i]?=some ops[i]:=JQ hlt
       have hmem:i∈Region.ready .any ops L:=by
        rw[mem_ready];have hsz:i<L.size:=by rw[h.lsz];exact hlt
        refine⟨by simpa [hsz] using hl,ops[i],ho,fun e he hb=>?_⟩;have hlt':=st.g.back i _ ho e he hb;exact ih e.on hlt' (J5 hlt' hlt)
       rw[hready] at hmem;cases hmem
  cases rs with
  |cons s r =>
    have h1:=h.sp s.c vv;have hs:=st.ok;simp only[dN,Jb] at hs;have h2:=all s.c (m7 hs.1).lt;rw[h1] at h2;cases h2
  |nil =>
    have hrb:∀j b,rb j≠some b:=fun j b hb=>by have:=(h.rbo j b hb).1;simp at this
    have hβ:β=⟨β.f,O.β.X⟩:=by
     obtain⟨f,X⟩:=β
     have:X=O.β.X:=by
      funext b;exact propext ((h.core.sub b).trans ⟨fun x=>x.elim id (fun⟨j,hj⟩=>absurd hj (hrb j b)),.inl⟩)
     rw[this]
    refine hK β S a w ⟨h.core.defers,h.core.size,fun t=>h.core.tm t ?_,h.core.heap,by have:=h.core.evo;rw[<-hβ] at this;exact this,h.core.base⟩ hv;rintro(⟨f,hf,hL,hd⟩|⟨j,hj,_⟩)
    ·obtain ⟨of,_,q1,_⟩:=st.g.fl f (st.fl_sub f hf);have:=all f (Ja.1 q1).1;rw[hL] at this;cases this
    ·simp at hj
 intro fuel;induction fuel with
 |zero =>
   intro L a w fl rs rb β S hc st h hv
   have hready:Region.ready .any ops L=[]:=by
    apply JG.2
    intro j hj;obtain⟨h0,o,ho,_⟩:=mem_ready.1 hj;have hlt:j<ops.size:=(Ja.1 ho).1
    have:0<(Jk ops.size).countP (fun i=>!L.getD i false):=by
     rw[JY];refine⟨j,Jm.2 hlt,?_⟩;have hsz:j<L.size:=by rw[h.lsz];exact hlt
     simp[hsz] at h0 |-;exact h0
    omega
   exact⟨hready,done L a w fl rs rb β S hready st h hv⟩
 |succ fuel ih =>
   intro L a w fl rs rb β S hc st h hv;refine⟨fun hready=>done L a w fl rs rb β S hready st h hv,fun j hj=>?_⟩;obtain⟨h0,o,ho,hd⟩:=mem_ready.1 hj;have hlt:j<ops.size:=(Ja.1 ho).1;have hsz:j<L.size:=by rw[h.lsz];exact hlt
   have hL:L.getD j false=false:=by simp[hsz] at h0 |-;exact h0
   have hcnt:(Jk ops.size).countP (fun i=>!(L.setIfInBounds j true).getD i false)<=fuel:=by
    have:(Jk ops.size).countP (fun i=>!(L.setIfInBounds j true).getD i false)<(Jk ops.size).countP (fun i=>!L.getD i false):=by
     refine sf (Jm.2 hlt) (by rw[hL];rfl) (by simp[hsz]) (fun i hp=>?_);by_cases hij:i=j
     ·rw[hij,hL];rfl
     ·rw[getD_set_ne false (Ne.symm hij)] at hp;exact hp
    omega
   unfold wpOp;rw[ho];simp only
   have dep:∀i,bnd ops j i=true->L.getD i false=true:=fun i hb=>jR ho hd hb;rcases h.cov j hlt with hx|hx|hx|hx
   ·rw[hL] at hx;cases hx
   ·rcases JA.1 hx with hf|hf
    ·exact Yj st h hf ho hL hd fun β' a' w' h'=>ih _ a' w' fl rs rb β' S hcnt st h' hv
    ·exfalso;rcases Ek st.ok j hf with⟨c,h1,h2⟩|⟨g,h1,h2⟩
     ·have:=dep c h2;rw[h.sp c h1] at this;cases this
     ·have:=dep g h2;rw[h.flo g h1] at this;cases this
   ·cases rs with
    |nil=>simp at hx
    |cons s r =>
      rw[Js,Jl] at hx;rcases hx with rfl|hx
      ·have st':Stat ops Fl Sp Cr (fl ++ s.H) r:=by
        have hs:=st.ok;simp only[dN,Jb] at hs;obtain⟨dn,e1⟩:=st.hSp;obtain⟨dn',e2⟩:=st.hCr;exact⟨st.g,by rw[st.hFl,Jr,JT],⟨dn++[s.c],by rw[e1];simp⟩,⟨dn'++s.C,by rw[e2,Jr];simp⟩,hs.2⟩
       exact Ym st h ho hd hv fun rb' β' S' a' w' h' hv'=>ih _ a' w' (fl++s.H) r rb' β' S' hcnt st' h' hv'
      ·exfalso;obtain⟨c',h1,h2⟩:=El st.ok j hx;have:=dep c' h2;rw[h.sp c' h1] at this;cases this
   ·cases rs with
    |nil=>simp at hx
    |cons s r =>
      have hs:=st.ok;simp only[dN,Jb] at hs;rcases(m7 hs.1).rr j hx with hR|⟨i,hi,hb⟩
      ·have hv2:=hv;unfold vsp at hv2;obtain⟨f1,f2⟩:=Er hv2.1 o (sH (pA ho) hR);exact Yk st h hx ho hL hd f1 f2 fun rb' β' a' w' h'=>ih _ a' w' fl (s::r) rb' β' S hcnt st h' hv
      ·exfalso;have:=dep i hb;rcases JA.1 hi with hi|hi
       ·rw[h.sp i hi] at this;cases this
       ·rw[h.flo i hi] at this;cases this
theorem xe(H0:List Nat)(segs:List Seg)(hok:px ops H0 segs=true)(h:an P ops.toList (pick ops.toList H0) (vsp P ops.toList segs (Q .normal)) S)(hs:Sim O β S a w):
 wpAny P .any ops (du O Q) ops.size (Jo ops.size false) a { w with drawn:=w.drawn+1 }:=by
 simp only[px,Jb] at hok;obtain⟨⟨hg,hsg⟩,_⟩:=hok;have g:=Yi hg;have hpair:=xd g (fun f hf=>hf) g.fo g.nf;rw[JJ] at hpair;obtain⟨S2,m1,m2,m3,m4,m5,m6⟩:=xc (fun f hf=>by obtain⟨of,tf,q1,q2,q3,q4,_⟩:=g.fl f (Jj _ hf);exact⟨of,tf,q1,q2,q3,q4⟩) hpair.1 h;have e:Evo w β S.hp w.drew β S.hp:=ia w β S.hp
 have hfalse:∀i,(Jo ops.size false).getD i false=false:=fun i=>by
  by_cases hi:i<ops.size<;>simp[hi]
 have st:Stat ops (H0++segs.flatMap (·.H)) (segs.map (·.c)) (segs.flatMap (·.C)) H0 segs:=⟨g,rfl,⟨[],rfl⟩,⟨[],rfl⟩,hsg⟩
 refine Yn (O:=O) (Q:=du O Q) (fun β S a w hs hk=>⟨β,S,hs,hk⟩) ops.size (Jo ops.size false) a _ H0 segs (fun _=>none) β S2 ?_ st ?_ m1
 ·have:=JW (p:=fun i=>!(Jo ops.size false).getD i false) (l:=Jk ops.size);simpa using this
 ·refine ⟨vv,⟨hs.defers,by rw [m3];exact hs.size,fun t ht=>?_,by rw [m2];exact hs.heap.drew,?_,by rw [m4];exact hs.base,fun b=>?_,fun i j b hi=>(by cases hi),fun j b hj=>(by cases hj)⟩,fun i hi=>?_,fun c _=>hfalse c,fun f _=>hfalse f,fun i o _ hl=>?_,fun j _ hl=>?_,fun j b hb=>(by cases hb),fun f hf _=>m6 f hf⟩
  ·have a3:∀f ∈ H0,dstOf ops f ≠ some t:=fun f hf e=>ht (.inl ⟨f,hf,hfalse f,e⟩);rw[m5 t a3,m2];exact(hs.tm t).mono e
  ·rw [m2];have ev:=hs.evo.trans e;have hX:β.X=O.β.X:=ev.X;have:=ev.reX O.β.X;exact this
  ·have hX:β.X = O.β.X:=hs.evo.X;rw[hX];exact⟨.inl,fun x=>x.elim (fun h=>h) (fun⟨j,hj⟩=>(by cases hj))⟩
  ·rcases g.all i hi with hx|hx|hx
   ·exact .inr (.inl hx)
   ·exact .inr (.inr (.inl hx))
   ·exact .inr (.inr (.inr hx))
  ·rw[hfalse] at hl;cases hl
  ·rw[hfalse] at hl;cases hl
theorem Qf{id:Nat}(H0:List Nat)(segs:List Seg)(hm:P.follows .mixedOrders=true)(hok:px ops H0 segs=true)(h:an P ops.toList (pick ops.toList H0) (vsp P ops.toList segs (Q .normal)) S):VDraw P id ops Q S:=
 fun _ _ _ _ hs=>wp_region_any hm (xe H0 segs hok h hs)
end
end Go.V
namespace Go.V
def xf(o:Option Oper)(l:List Oper):List Oper:=match o with|some o=>o::l|none=>l
def m8(P:Program)(all:List Oper)(l:List Oper)(K:St->Prop)(S:St):Prop:=an P all l K S
def sI(P:Program)(all:List Oper)(F H:List Nat)(r:List Seg)(K:St->Prop)(S S1:St):Prop:=ik all S S1 (pick all F)/\m8 P all (pick all H) (vsp P all r K) S1
def m9(A B:Prop):Prop:=A/\B
def sJ(x:Option (DV×Qb)):Option (DV×Blk):=match x with
 |some (.ptr 0 0,[B])=>some (.ptr 0 0,B)
 |some (.own 0 sz 0 n,[B])=>some (.own 0 sz 0 n,B)
 |_=>none
def xg(x:Option (DV×Blk))(l:List DV):Prop:=match x with
 |some (_,B)=>B.live=true/\0<B.cells.length/\DV.nums.go (fun _=>false) B.cells=true/\DV.nums.go (fun _=>false) l=true
 |none=>False
theorem Yo:pick all []=[]:=rfl
def Yp:pick all (i::r)=xf all[i]? (pick all r):=by
 cases h:all[i]?<;>simp[pick,xf,h]
theorem Yq:xf (some o) l=o::l:=rfl
def Yr:vsp P all [] K S=K S:=by rw[vsp]
def Ys:vsp P all (⟨R,C,c,F,H⟩::r) K S=m9 (iY P S (pick all R)) (m8 P all (pick all (C++[c])) (sI P all F H r K S) S):=by
 rw[vsp];rfl
def Yt:m9 True B=B:=by simp[m9]
theorem Yu:m8 P all l K S=an P all l K S:=rfl
theorem Yv:sI P all F H r K S S1=m9 (ik all S S1 (pick all F)) (m8 P all (pick all H) (vsp P all r K) S1):=rfl
@[congr] def QF5(h:A=A'):m9 A B=m9 A' B:=by rw[h]
@[congr] def QF2(P:Program)(all:List Oper)(K:St->Prop)(S:St)(h:l=l'):m8 P all l K S=m8 P all l' K S:=by rw[h]
@[congr] theorem QGq(P:Program)(all:List Oper)(segs:List Seg)(K:St->Prop)(S:St):vsp P all segs K S=vsp P all segs K S:=rfl
@[congr] theorem QF4(P:Program)(all:List Oper)(F H:List Nat)(r:List Seg)(K:St->Prop)(S S1:St):sI P all F H r K S S1=sI P all F H r K S S1:=rfl
theorem Yw:iY P S []=True:=rfl
theorem Yx:iY P S (o::r)=((S.fits o.dst=true/\jP P (evG true S) o.op)/\iY P S r):=rfl
def Yy:jP P ev o=xg (sJ (vop P ev [] o)) (o.operands.toList.map ev):=by
 unfold jP xg ij sJ;rfl
theorem Yz:sJ (some (.ptr 0 0,[B]))=some (.ptr 0 0,B):=rfl
theorem YA:sJ (some (.own 0 sz 0 n,[B]))=some (.own 0 sz 0 n,B):=rfl
theorem YB:xg (some (d,⟨T,b,cs⟩)) l=(b=true/\0<cs.length/\DV.nums.go (fun _=>false) cs=true/\DV.nums.go (fun _=>false) l=true):=rfl
theorem YC:ik all S S1 []=True:=rfl
theorem YD:ik all S S1 (o::r)=(sC S S1 o (QJ all S1 o)/\ik all S S1 r):=rfl
theorem YE:sC S S1 o (some G)=ld S.hp S1.hp (ax (evG G S1) o.op).1:=rfl
theorem YF:ld hp hp1 []=True:=rfl
theorem YG:ld hp hp1 (k::r)=(hp1[k]?=hp[k]?/\ld hp hp1 r):=rfl
end Go.V
