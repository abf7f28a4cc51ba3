/-
  Contracts of functions and plain laws. No condition.
-/
import Derived.Test.YtalibkpienbliaaGreatP4
import Derived.Test.YtalibkpienbliaaGreatP1
import Derived.Test.YtalibkpienbliaaGreatP3
set_option linter.unusedSimpArgs false
set_option linter.unusedVariables false
set_option linter.defProp false
set_option maxRecDepth 100000
set_option maxHeartbeats 8000000
set_option autoImplicit true
set_option relaxedAutoImplicit true
open And renaming intro->Ja
open Bool renaming and_eq_true->Ji,or_eq_true->Jl,and_eq_false_iff->Jo
open Int renaming le_refl->JQ,toNat_natCast->JS
open List renaming getD_eq_getElem?_getD->Jb,not_mem_nil->Jc,mem_cons->Jd,getElem?_append_left->Je,append_assoc->Jf,mem_singleton->Jg,getElem?_eq_getElem->Jh,length_take->Jj,map_congr_left->Jm,take_of_length_le->Jn,mem_cons_of_mem->Jp,mem_filter->Jr,take_zero->Js,take_append_drop->Jt,getElem_map->Ju,take_length->Jv,mem_iff_getElem->Jw,filter_eq_self->Jx,filter_sublist->Jy,mem_cons_self->Jz,mem_range->JA,drop_eq_getElem_cons->JB,getElem?_eq_some_iff->JC,pairwise_iff_getElem->JD,getElem?_map->JE,take_add_one->JF,map_cons->JG,all_eq_true->JH,ext_getElem->JI,getElem_set->JJ,map_append->JL,mem_iff_getElem?->JM,nodup_nil->JO,getElem?_range->JP,length_append->JR,getElem_take->JT,filter_congr->JU,Sublist->JV,filter_cons->JW,length_drop->JX,replicate->JY,range->JZ,Nodup->J0,mem_map->J2
open Nat renaming le_refl->Jk,zero_le->Jq,not_lt_zero->JK,min_eq_left->JN,add_assoc->J1,le_total->J3
open Option renaming some->J4
namespace Go.Proofs.YtalibkpienbliaaGreat
open Go.V Go
open Tryz (prog)
section
abbrev Row:=Nat->Ce
def encYr:Enc Row:=⟨32,fun r=>(JZ 16).flatMap fun j=>[.lit (.bool (r j).set),.str (r j).data],vj,fun _=>rfl⟩
def CH(l:List Row):(cells encYr l).length=l.length*32:=QK encYr l
def CJ(h:l.length=len):bw n hp 0 32 len (some (cells encYr l))=some (.sl (fz encYr l)):=Q3 encYr h
def eA:Row:=fun _=>Ce0
def Pa(n:Nat):mk [.bool false,.pv (.str []),.bool false,.pv (.str []),.bool false,.pv (.str []),.bool false,.pv (.str []),.bool false,.pv (.str []),.bool false,.pv (.str []),.bool false,.pv (.str []),.bool false,.pv (.str []),.bool false,.pv (.str []),.bool false,.pv (.str []),.bool false,.pv (.str []),.bool false,.pv (.str []),.bool false,.pv (.str []),.bool false,.pv (.str []),.bool false,.pv (.str []),.bool false,.pv (.str [])] n=cells encYr (JY n eA):=CM encYr eA n
attribute [local go_sem] Pa Ce.d Ch.d E.d bD cL cM cN cP cQ cR CH CJ fB fC fD JK Lg.c
def comp(tx:Int)(e:E):Bool:=decide (e.kind=3)&&decide (e.tx=tx)
def aS(es:List E)(n:Nat)(tx:Int):Bool:=exE es n (comp tx)
def vi (es:List E) (tx:Int):∀i,aq (dt es i) tx = if aS es i tx = true then some (.agg []) else none
 |0=>rfl
 |i + 1=>by
   have ih:=vi es tx i;unfold aS at ih |-;rw[dt,mn];generalize es.getD i E0=e at *;by_cases hk:e.kind=3
   ·rw [if_pos hk,Cw,ih];by_cases hr:e.tx=tx
    ·rw [if_pos hr];simp[comp,hk,hr]
    ·rw [if_neg hr];simp[comp,hr]
   ·rw [if_neg hk,ih];simp[comp,hk]
def jA(es:List E)(com:Int->Bool)(p:Int)(s:Int):Nat->Ce
 |0=>Ce0
 |i+1=>if ar (es.getD i E0)=true/\com (es.getD i E0).tx=true/\(es.getD i E0).c.pg=p/\(es.getD i E0).c.sl=s then (es.getD i E0).c.a else jA es com p s i
def bo(es:List E)(com:Int->Bool)(pages:Nat)(i:Nat):List Row:=(JZ pages).map fun p=>fun s=>jA es com (p:Nat) (s:Nat) i
def oF(es:List E)(com:Int->Bool)(pages i:Nat):(bo es com pages i).length=pages:=by simp[bo]
def Pb(es:List E)(com:Int->Bool)(pages:Nat):bo es com pages 0=JY pages eA:=by
 unfold bo;rw[List.eq_replicate_iff];refine⟨vv,fun b hb=>?_⟩;obtain⟨p,_,rfl⟩:=J2.1 hb;rfl
def CN(h:lgB x=true)(hi:i<x.es.length)(hc:ar (x.es.getD i E0)=true):(0<=(x.es.getD i E0).c.pg/\(x.es.getD i E0).c.pg<64)/\(0<=(x.es.getD i E0).c.sl/\(x.es.getD i E0).c.sl<16)/\1<=(x.es.getD i E0).tx:=by
 unfold lgB at h;rw[Ji,JH] at h;have h2:=h.2 i (JA.2 hi);unfold lgC at h2;rw[Ji] at h2;have h4:=h2.2;generalize x.es.getD i E0=e at *;unfold E.okB at h4;rw[Ji] at h4;have h5:=h4.2;unfold ar at hc;simp only[Jl,beq_iff_eq] at hc;unfold E.kindB Ch.okB txB at h5;grind
def Row.put(r:Row)(s:Nat)(c:Ce):Row:=fun j=>if s=j then c else r j
def Pc{es:List E}{com:Int->Bool}{pages i p s:Nat}(hc:ar (es.getD i E0)=true)(ht:com (es.getD i E0).tx=true)(hp:(es.getD i E0).c.pg=p)(hs:(es.getD i E0).c.sl=s) :
 bo es com pages (i+1)=(bo es com pages i).set p (Row.put ((bo es com pages i).getD p eA) s (es.getD i E0).c.a):=by
 refine JI (by simp[bo]) fun q h1 h2=>?_;rw[oF] at h1;rw[JJ];simp only[bo,Ju,List.getElem_range];by_cases hq:p=q
 ·subst hq;rw[if_pos rfl];funext j;rw[Jb,JE,JP h1];simp only[Option.map_some,Option.getD_some,Row.put];rw[jA];by_cases hj:s=j
  ·rw[if_pos hj,if_pos ⟨hc,ht,hp,vz⟩]
  ·rw[if_neg hj,if_neg (fun h=>hj vz)]
 ·rw [if_neg hq];funext j;rw[jA,if_neg (fun h=>hq vz)]
def Pd{es:List E}{com:Int->Bool}{pages i:Nat}(h:¬(ar (es.getD i E0)=true/\com (es.getD i E0).tx=true/\(es.getD i E0).c.pg<pages)):bo es com pages (i+1)=bo es com pages i:=by
 unfold bo;refine Jm fun p hp=>?_;have:=JA.1 hp;funext j;rw[jA,if_neg (fun q=>h ⟨q.1,q.2.1,vz⟩)]
def vm (a b:DV):∀(off:Nat) (L:List DV),off + 2<=L.length->L.take off ++ [a,b] ++ L.drop (off + 2) = (L.set off a).set (off + 1) b
 |0,x::y::r,_=>by simp
 |0,[_],h=>by simp at h
 |0,[],h=>by simp at h
 |off+1,[],h=>by simp at h
 |off + 1,x :: r,h=>by
   have:=vm a b off r (by simp at h;omega);simp only[List.take_succ_cons,List.drop_succ_cons,List.set_cons_succ,List.cons_append];rw[<-this]
def CO(l:List Row)(p s:Nat)(h:p<l.length)(hs:s<16)(c:Ce):((cells encYr l).set (p*32+s*2) (.bool c.set)).set (p*32+s*2+1) (.pv (.str c.data))=cells encYr (l.set p (Row.put (l.getD p eA) s c)):=by
 have hs':s=0\/s=1\/s=2\/s=3\/s=4\/s=5\/s=6\/s=7\/s=8\/s=9\/s=10\/s=11\/s=12\/s=13\/s=14\/s=15:=vz
 have h1:=CP encYr l p (s*2) (Row.put l[p] s ⟨c.set,(l[p] s).data⟩) (.lit (.bool c.set)) h (by show s*2<32; omega) (by
  rcases hs' with rfl | rfl | rfl | rfl | rfl | rfl | rfl | rfl | rfl | rfl | rfl | rfl | rfl | rfl | rfl | rfl<;>rfl)
 have h2:=CP encYr (l.set p (Row.put l[p] s ⟨c.set,(l[p] s).data⟩)) p (s*2+1) (Row.put l[p] s c) (.str c.data) (by rw[List.length_set]; exact h) (by show s*2+1<32; omega) (by
  rw[List.getElem_set_self]
  rcases hs' with rfl | rfl | rfl | rfl | rfl | rfl | rfl | rfl | rfl | rfl | rfl | rfl | rfl | rfl | rfl | rfl<;>rfl)
 rw[List.set_set] at h2;rw[Qd l p h,<-h2,<-h1];rfl
def mz(x:Lg)(pages at_:Int):List Row×Int:=if cz x=false then ([],26) else if pages<1\/64<pages\/ez x at_=false then ([],1) else (bo x.es (aS x.es at_.toNat) pages.toNat at_.toNat,0)
structure CoS(es:List E)(com:Int->Bool)(pg n:Nat) where
 i:Nat
 hi:i<=n
 H:Qb
 h1:1<H.length
 hb:H[1]?=some ⟨53,true,cells encYr (bo es com pg i)⟩
def rN(c:bN)(x:Lg)(com:Int->Bool)(pg k i b:Nat)(hlt:i<k)(S:St)(g:MapsD)(h1:1<S.hp.length)(hb:S.hp[1]?=some ⟨53,true,cells encYr (bo x.es com pg (i+1))⟩)(hn:S.nt=78)
 (ht:∀q∈[(41,DV.int .i64 ((i+1:Nat):Int)),(40,DV.int .i64 k),(39,DV.pv (.sl (fz encE (x.es.take k)))),(9,DV.pv (.lit (.map (some b)))),(8,DV.own 1 32 0 pg),(1,DV.int .i64 pg)],V.look S.tm q.1=q.2\/q.2=.any) :
 ∃j:CoS x.es com pg k,k-j.i<k-i/\WeakG (MapsIn c) S g ⟨78,j.H.length,[(41,.int .i64 j.i),(40,.int .i64 k),(39,.pv (.sl (fz encE (x.es.take k)))),(9,.pv (.lit (.map (some b)))),(8,.own 1 32 0 pg),(1,.int .i64 pg)],j.H⟩ g:=
 ⟨⟨i+1,hlt,S.hp,h1,hb⟩,vu,WeakG.slots hn rfl ht⟩
def Pe(x:Lg)(hx:x.es.length<=9223372036854775807)(pages at_:Int):VCalls prog 9 [.agg x.c,.int .i64 pages,.int .i64 at_] [] (Ret (.tup [.pv (.sl (fz encYr (mz x pages at_).1)),.int .i64 (mz x pages at_).2])):=by
 refine VCalls.unwk ?_;refine rG (fn:=Tryz.f9) Tryz.func9 rfl vw (by simp[Tryz.f9]) (fun c=>?_);have hw:=vh x hx;have hu:=CF x at_;have eS:mz x pages at_=if cz x=false then ([],26) else if pages<1\/64<pages\/ez x at_=false then ([],1) else (bo x.es (aS x.es at_.toNat) pages.toNat at_.toNat,0):=rfl
 unfold Lg.c at hw hu;generalize mz x pages at_=res at *;refine VWpG.first (Qa c) ?_
 (unfold Tryz.f9;refine rn trivial ?_)
 refine VWpG.seq ?_;refine VWpG.plain (Qa c) ?_;refine rn trivial ?_;cases hwb:cz x
 ·rw [hwb] at hw;rw[if_pos hwb] at eS;subst eS;refine rn F ?_
  repeat' (first|with_reducible exact⟨⟩|refine vp F (hw) ?_)
  all_goals rfl
 rw[hwb] at hw;rw[if_neg (by rw[hwb];decide)] at eS;by_cases hp1:pages<1
 ·rw [if_pos (.inl hp1)] at eS;subst eS;have F:=@hp1;refine rn F ?_
  repeat' (first|with_reducible exact⟨⟩|refine vp F (hw) ?_)
  all_goals rfl
 by_cases hp2:64<pages
 ·rw [if_pos (.inr (.inl hp2))] at eS;subst eS;have F:=(Ja @hp1 @hp2)
  refine rn F ?_
  repeat' (first|with_reducible exact⟨⟩|refine vp F (hw) ?_)
  all_goals rfl
 cases hun:ez x at_
 ·rw [hun] at hu;rw[if_pos (.inr (.inr hun))] at eS;subst eS;have F:=(Ja @hp1 @hp2)
  refine rn F ?_
  repeat' (first|with_reducible exact⟨⟩|refine vp F (hw) ?_|refine vp F (hu) ?_)
  all_goals rfl
 rw[hun] at hu;rw[if_neg (by rw[hun];simp;omega)] at eS;obtain⟨pg,rfl⟩:∃n:Nat,pages=n:=⟨pages.toNat,vz⟩
 obtain⟨k,rfl⟩:∃n:Nat,at_=n:=⟨at_.toNat,by unfold ez at hun;simp at hun;omega⟩
 have hk:k<=x.es.length:=by unfold ez at hun;simp at hun;omega
 have hlg:lgB x=true:=by unfold cz at hwb;simp at hwb;exact hwb.1
 have hes:x.es.length<=4096:=(bz hlg).2.2.1;simp only[JS] at eS;have F:=(Ja @hp1 @hp2)
 refine rn F ?_
 repeat' (first|with_reducible exact⟨⟩|refine vp F (hw) ?_|refine vp F (hu) ?_)
 refine VWpG.first (Qa c) ?_
 refine rn trivial ?_;rw[<-Pb x.es (aS x.es k) pg];refine VWpG.seq ?_;refine VWpG.cut1 (Qa c) 2 [] ?_;refine rn trivial ?_;refine kN rfl rfl rfl (CG _ [] x k hk hes) ?_;rintro r h' g' ⟨b,rfl,-,⟨ys,rfl⟩,rfl⟩;refine rn trivial ?_;have hk':(k:Int)<=x.es.length:=vz;refine VWpG.seq ?_;refine VWpG.first (Qa c) ?_
 refine rn @hk' ?_;refine VWpG.block ?_;have hkl:((x.es.take k).length:Int)=k:=by rw[Jj];omega
 have hfin:∀i,i<k->(x.es.take k).getD i E0=x.es.getD i E0:=fun i hi=>by
  rw[Jb,Jb,List.getElem?_take,if_pos hi]
 refine VWpG.loop (fun s:CoS x.es (aS x.es k) pg k=>⟨78,s.H.length,[(41,.int .i64 s.i),(40,.int .i64 k),(39,.pv (.sl (fz encE (x.es.take k)))),(9,.pv (.lit (.map (some b)))),(8,.own 1 32 0 pg),(1,.int .i64 pg)],s.H⟩) (fun s=>[(b,ag kI (dt x.es k))]) (fun s=>k-s.i) ⟨0,Jq _,(⟨26,true,[.int .i64 x.f,.pv (.sl (fz encE x.es)),.int .i64 x.d]⟩::⟨53,true,cells encYr (bo x.es (aS x.es k) pg 0)⟩::ys:Qb),vv,rfl⟩ ?_ ?_
 ·refine WeakG.slots rfl rfl ?_;intro p hp;simp only[Jd,Jc,or_false] at hp;rcases hp with rfl|rfl|rfl|rfl|rfl|rfl
  ·exact .inl rfl
  ·exact .inl (congrArg (DV.int .i64) vz)
  ·exact .inl rfl
  ·exact .inl rfl
  ·exact .inl rfl
  ·exact .inl rfl
 rintro⟨i,hi,H,h1,hb⟩;dsimp only;refine VWpG.first (Qa c) ?_
 refine rn trivial ?_;refine VWpG.seq ?_;by_cases hlt:i<k
 ·have hg := jX (x.es.take k) i (by rw [Jj];omega);rw[hfin i hlt] at hg;have hd:decide ((i:Int)<k)=true:=vg;refine VWpG.cond (t:=true) (by rw[<-hd];rfl) (fun _=>?_) (fun h=>by cases h);refine VWpG.plain (Qa c) ?_;refine rn trivial ?_;refine VWpG.seq ?_;refine VWpG.block ?_;have hhit:=fun p s=>@Pc x.es (aS x.es k) pg i p s;have hmis:=@Pd x.es (aS x.es k) pg i;have hok:=CN hlg (show i<x.es.length by omega);generalize x.es.getD i E0=e at *;have hbc:Qc H 1=some (cells encYr (bo x.es (aS x.es k) pg i)):=iL hb;refine VWpG.first (Qa c) ?_
  refine rn (Ja @hg @h1) ?_;refine VWpG.seq ?_;refine VWpG.cut1 (Qa c) 3 [] ?_;refine rn @h1 ?_;refine QR rfl (fun c=>by simp) (ou (zv:=.agg #[]) (L:=dt x.es k) (k:=e.tx) rfl rfl umS bU (eo zS) (fun w β hp=>.agg [] #[] rfl (fun i d h=>by cases h)) rfl (Jg.2 rfl) (bV rfl) ?_);rw[vi];cases hcm:aS x.es k e.tx
  ·(refine rn @h1 ?_;try with_reducible exact ⟨⟩)
   refine VWpG.first (Qa c) ?_
   refine rn @h1 ?_;refine VWpG.cond rfl (fun hZ=>?_) (fun hZ=>?_)
   ·cases hZ
   refine VWpG.plain (Qa c) ?_;refine rn trivial ?_;refine VWpG.plain (Qa c) ?_;refine rn trivial ?_;refine rN c x _ pg k i b hlt _ _ ?_ ?_ rfl ?_
   ·show 1 < (H ++ _ ++ _).length
    simp;try omega
   ·show (H ++ _ ++ _)[1]? = _
    rw[Jf,Je h1,hmis (fun h=>by rw[hcm] at h;cases h.2.1)];exact hb
   ·intro q hq;simp only[Jd,Jc,or_false] at hq;rcases hq with rfl|rfl|rfl|rfl|rfl|rfl<;>exact .inl rfl
  ·(refine rn @h1 ?_;try with_reducible exact ⟨⟩)
   have hch':VCalls prog 20 [.agg e.d] [] (Ret (.bool (ar e))):=th e;unfold E.d at hch';cases hce:ar e
   ·rw [hce] at hch';refine VWpG.first (Qa c) ?_
    refine rn @h1 ?_;refine bZ hch' rfl ?_;refine rn @h1 ?_;refine VWpG.cond rfl (fun hZ=>?_) (fun hZ=>?_)
    ·cases hZ
    refine VWpG.plain (Qa c) ?_;refine rn trivial ?_;refine VWpG.plain (Qa c) ?_;refine rn trivial ?_;refine rN c x _ pg k i b hlt _ _ ?_ ?_ rfl ?_
    ·show 1 < (H ++ _ ++ _).length
     simp;try omega
    ·show (H ++ _ ++ _)[1]? = _
     rw[Jf,Je h1,hmis (fun h=>by rw[hce] at h;cases h.1)];exact hb
    ·intro q hq;simp only[Jd,Jc,or_false] at hq;rcases hq with rfl|rfl|rfl|rfl|rfl|rfl<;>exact .inl rfl
   ·rw [hce] at hch';refine VWpG.first (Qa c) ?_
    refine rn @h1 ?_;refine bZ hch' rfl ?_;refine rn @h1 ?_;obtain⟨⟨p0,p64⟩,⟨s0,s16⟩,t1⟩:=hok hce;obtain⟨p,hp⟩:∃p:Nat,e.c.pg=p:=⟨e.c.pg.toNat,vz⟩
    obtain⟨sl,hs⟩:∃s:Nat,e.c.sl=s:=⟨e.c.sl.toNat,vz⟩
    by_cases hpp:p<pg
    ·have hd3:decide (e.c.pg < (pg:Int)) = true:=vg;have hset:=CO (bo x.es (aS x.es k) pg i) p sl (by rw[oF];exact hpp) vz e.c.a;have hrl:=oF x.es (aS x.es k) pg i;have hcl:(cells encYr (bo x.es (aS x.es k) pg i)).length=pg*32:=by rw[QK,hrl];rfl
     have hb2:p*32+sl*2+2<=pg*32:=vz;rw[<-vm _ _ _ _ (by rw[hcl];exact hb2)] at hset;have hH1:(H.length==1)=false:=vg;have hu2:=hhit p sl hce hcm hp hs;refine VWpG.cond (t:=true) (by rw[<-hd3];rfl) (fun hZ=>?_) (fun hZ=>?_);rotate_left
     ·cases hZ
     refine VWpG.plain (Qa c) ?_;refine rn trivial ?_;refine eO vw vw ?_;refine rn (Ja @h1 (Ja @hb (Ja @hbc (Ja @hp (Ja @hs (Ja @hrl (Ja @hb2 (Ja @hset @hH1)))))))) ?_;refine VWpG.plain (Qa c) ?_;refine rn trivial ?_;refine rN c x _ pg k i b hlt _ _ ?_ ?_ rfl ?_
     ·show 1 < (Qm H 1 _ ++ _ ++ _).length
      simp[Qv];try omega
     ·show (Qm H 1 _ ++ _ ++ _)[1]? = _
      rw[Jf,Je (by rw[Qv];exact h1),Pf hb,hu2]
     ·intro q hq;simp only[Jd,Jc,or_false] at hq;rcases hq with rfl|rfl|rfl|rfl|rfl|rfl<;>exact .inl rfl
    ·have hd3:decide (e.c.pg < (pg:Int)) = false:=vg;refine VWpG.cond (t:=false) (by rw[<-hd3];rfl) (fun hZ=>?_) (fun hZ=>?_)
     ·cases hZ
     refine VWpG.plain (Qa c) ?_;refine rn trivial ?_;refine VWpG.plain (Qa c) ?_;refine rn trivial ?_;refine rN c x _ pg k i b hlt _ _ ?_ ?_ rfl ?_
     ·show 1 < (H ++ _ ++ _).length
      simp;try omega
     ·show (H ++ _ ++ _)[1]? = _
      rw[Jf,Je h1,hmis (fun h=>by have:=h.2.2;omega)];exact hb
     ·intro q hq;simp only[Jd,Jc,or_false] at hq;rcases hq with rfl|rfl|rfl|rfl|rfl|rfl<;>exact .inl rfl
 ·have hd:decide ((i:Int) < k) = false:=vg;have hie:i=k:=vz;subst hie;refine VWpG.cond (t:=false) (by rw[<-hd];rfl) (fun h=>by cases h) (fun _=>?_);refine VWpG.plain (Qa c) ?_;refine rn trivial ?_;have hbc:Qc H 1=some (cells encYr (bo x.es (aS x.es i) pg i)):=iL hb;have hrl:=oF x.es (aS x.es i) pg i;refine VWpG.plain (Qa c) ?_;refine rn (Ja @h1 (Ja @hb (Ja @hbc @hrl))) ?_;subst eS;rfl
end
section
attribute [local go_sem] Ce.d Ch.d E.d bD cL cM cN cP cQ cR fB fC fD JK Lg.c
def gl(com:Int->Bool)(pg sl tx:Int)(e:E):Bool:=ar e&&(decide (e.c.pg=pg)&&(decide (e.c.sl=sl)&&(com e.tx||decide (e.tx=tx))))
def kP(es:List E)(com:Int->Bool)(pg sl tx:Int):Nat->Ce×Int
 |0=>(Ce0,0)
 |i+1=>if gl com pg sl tx (es.getD i E0)=true then ((es.getD i E0).c.a,(es.getD i E0).lsn) else kP es com pg sl tx i
def iO(x:Lg)(pg sl tx at_:Int):(Ce×Int)×Int:=if cz x=false then ((Ce0,0),26) else if pg<0\/64<=pg\/sl<0\/16<=sl\/ez x at_=false then ((Ce0,0),1) else (kP x.es (aS x.es at_.toNat) pg sl tx at_.toNat,0)
structure SeS(x:Lg)(n:Nat)(p:Nat->Prop) where
 i:Nat
 hi:i<=n
 H:Qb
 h1:1<H.length
 hb0:Qc H 0=some x.c
 hb1:H[1]?=some ⟨52,true,[.bool false,.pv (.str [])]⟩
 ok:p i
def kQ(c:bN)(x:Lg)(k i b:Nat)(p:Nat->Prop)(pg sl tx:Int)(hi:i<k)(S:St)(g:MapsD)(h1:1<S.hp.length)(hb0:Qc S.hp 0=some x.c)(hb1:S.hp[1]?=some ⟨52,true,[.bool false,.pv (.str [])]⟩)(ok:p i)(hn:S.nt=97)
 (ht:∀q∈[(14,DV.int .i64 ((i:Nat)-1:Int)),(13,DV.pv (.lit (.map (some b)))),(10,DV.ptr 1 0),(5,DV.ptr 0 0),(1,DV.int .i64 pg),(2,DV.int .i64 sl),(3,DV.int .i64 tx)],V.look S.tm q.1=q.2\/q.2=.any) :
 ∃j:SeS x k p,j.i<i+1/\WeakG (MapsIn c) S g ⟨97,j.H.length,[(14,.int .i64 ((j.i:Nat)-1:Int)),(13,.pv (.lit (.map (some b)))),(10,.ptr 1 0),(5,.ptr 0 0),(1,.int .i64 pg),(2,.int .i64 sl),(3,.int .i64 tx)],j.H⟩ g:=
 ⟨⟨i,vz,S.hp,h1,hb0,hb1,ok⟩,vu,WeakG.slots hn rfl ht⟩
def Ph (x:Lg) (hx:x.es.length<=9223372036854775807) (pg sl tx at_:Int):VCalls prog 29 [.agg x.c,.int .i64 pg,.int .i64 sl,.int .i64 tx,.int .i64 at_] [] (Ret (.tup [.agg (iO x pg sl tx at_).1.1.d,.int .i64 (iO x pg sl tx at_).1.2,.int .i64 (iO x pg sl tx at_).2])):=by
 refine rG (fn:=Tryz.f29) Tryz.func29 rfl vw (by simp[Tryz.f29]) (fun c=>?_);have hw:=vh x hx;have hu:=CF x at_;have eS:iO x pg sl tx at_=if cz x=false then ((Ce0,0),26) else if pg<0\/64<=pg\/sl<0\/16<=sl\/ez x at_=false then ((Ce0,0),1) else (kP x.es (aS x.es at_.toNat) pg sl tx at_.toNat,0):=rfl
 unfold Lg.c at hw hu;generalize iO x pg sl tx at_=res at *;refine VWpG.first (Qa c) ?_
 (unfold Tryz.f29;refine rn trivial ?_)
 refine VWpG.seq ?_;refine VWpG.plain (Qa c) ?_;refine rn trivial ?_;cases hwb:cz x
 ·rw [hwb] at hw;rw[if_pos hwb] at eS;subst eS;refine rn F ?_
  repeat' (first|with_reducible exact⟨⟩|refine vp F (hw) ?_)
  all_goals rfl
 rw[hwb] at hw;rw[if_neg (by rw[hwb];decide)] at eS;by_cases hp1:pg<0
 ·rw [if_pos (.inl hp1)] at eS;subst eS;have F:=@hp1;refine rn F ?_
  repeat' (first|with_reducible exact⟨⟩|refine vp F (hw) ?_)
  all_goals rfl
 by_cases hp2:64<=pg
 ·rw [if_pos (.inr (.inl hp2))] at eS;subst eS;have F:=(Ja @hp1 @hp2)
  refine rn F ?_
  repeat' (first|with_reducible exact⟨⟩|refine vp F (hw) ?_)
  all_goals rfl
 by_cases hp3:sl<0
 ·rw [if_pos (.inr (.inr (.inl hp3)))] at eS;subst eS;have F:=(Ja @hp1 (Ja @hp2 @hp3))
  refine rn F ?_
  repeat' (first|with_reducible exact⟨⟩|refine vp F (hw) ?_)
  all_goals rfl
 by_cases hp4:16<=sl
 ·rw [if_pos (.inr (.inr (.inr (.inl hp4))))] at eS;subst eS;have F:=(Ja @hp1 (Ja @hp2 (Ja @hp3 @hp4)))
  refine rn F ?_
  repeat' (first|with_reducible exact⟨⟩|refine vp F (hw) ?_)
  all_goals rfl
 cases hun:ez x at_
 ·rw [hun] at hu;rw[if_pos (.inr (.inr (.inr (.inr hun))))] at eS;subst eS;have F:=(Ja @hp1 (Ja @hp2 (Ja @hp3 @hp4)))
  refine rn F ?_
  repeat' (first|with_reducible exact⟨⟩|refine vp F (hw) ?_|refine vp F (hu) ?_)
  all_goals rfl
 rw[hun] at hu;rw[if_neg (by rw[hun];simp;omega)] at eS;obtain⟨k,rfl⟩:∃n:Nat,at_=n:=⟨at_.toNat,by unfold ez at hun;simp at hun;omega⟩
 have hk:k<=x.es.length:=by unfold ez at hun;simp at hun;omega
 have hlg:lgB x=true:=by unfold cz at hwb;simp at hwb;exact hwb.1
 have hes:x.es.length<=4096:=(bz hlg).2.2.1;simp only[JS] at eS;have F:=(Ja @hp1 (Ja @hp2 (Ja @hp3 @hp4)))
 refine rn F ?_
 repeat' (first|with_reducible exact⟨⟩|refine vp F (hw) ?_|refine vp F (hu) ?_)
 refine VWpG.seq ?_;refine VWpG.cut1 (Qa c) 2 [] ?_;refine rn trivial ?_;refine kN rfl rfl rfl (CG _ [] x k hk hes) ?_;rintro r h' g' ⟨b,rfl,-,⟨ys,rfl⟩,rfl⟩;refine rn trivial ?_;refine VWpG.seq ?_;refine VWpG.first (Qa c) ?_
 refine rn trivial ?_;refine VWpG.block ?_;refine VWpG.loop (fun s:SeS x k (fun i=>kP x.es (aS x.es k) pg sl tx k=kP x.es (aS x.es k) pg sl tx i)=>⟨97,s.H.length,[(14,.int .i64 ((s.i:Nat)-1:Int)),(13,.pv (.lit (.map (some b)))),(10,.ptr 1 0),(5,.ptr 0 0),(1,.int .i64 pg),(2,.int .i64 sl),(3,.int .i64 tx)],s.H⟩) (fun s=>[(b,ag kI (dt x.es k))]) (fun s=>s.i) ⟨k,Jk _,(⟨26,true,[.int .i64 x.f,.pv (.sl (fz encE x.es)),.int .i64 x.d]⟩::⟨52,true,[.bool false,.pv (.str [])]⟩::ys:Qb),vv,rfl,rfl,rfl⟩ ?_ ?_
 ·refine WeakG.slots rfl rfl ?_;intro p hp;simp only[Jd,Jc,or_false] at hp;rcases hp with rfl|rfl|rfl|rfl|rfl|rfl|rfl<;>exact .inl rfl
 rintro⟨i,hi,H,h1,hb0,hb1,ok⟩;dsimp only;have h0:0<H.length:=vz;unfold Lg.c at hb0;have hbc1:Qc H 1=some [.bool false,.pv (.str [])]:=iL hb1;by_cases hi0:0<i
 ·obtain ⟨i,rfl⟩:∃j,i = j + 1:=⟨i - 1,vz⟩
  have e1:(((i+1:Nat))-1:Int)=i:=vz;have hil:i<x.es.length:=vz;have hg:=jX x.es i hil;rw[e1];have hnx:kP x.es (aS x.es k) pg sl tx (i+1)=if gl (aS x.es k) pg sl tx (x.es.getD i E0)=true then ((x.es.getD i E0).c.a,(x.es.getD i E0).lsn) else kP x.es (aS x.es k) pg sl tx i:=rfl
  generalize x.es.getD i E0=e at *;refine VWpG.seq ?_;refine VWpG.first (Qa c) ?_
  refine rn trivial ?_;refine VWpG.cond rfl (fun hZ=>?_) (fun hZ=>?_);rotate_left
  ·cases hZ
  refine VWpG.plain (Qa c) ?_;refine rn trivial ?_;refine VWpG.seq ?_;refine VWpG.block ?_;refine VWpG.first (Qa c) ?_
  refine rn (Ja @hg (Ja @h0 @hb0)) ?_;refine VWpG.seq ?_;refine VWpG.cut1 (Qa c) 3 [] ?_;refine rn @h1 ?_;refine QR rfl (fun c=>by simp) (ou (zv:=.agg #[]) (L:=dt x.es k) (k:=e.tx) rfl rfl umS bU (eo zS) (fun w β hp=>.agg [] #[] rfl (fun i d h=>by cases h)) rfl (Jg.2 rfl) (bV rfl) ?_);rw[vi];have hch':VCalls prog 20 [.agg e.d] [] (Ret (.bool (ar e))):=th e;unfold E.d at hch';cases hcm:aS x.es k e.tx
  ·(refine rn @h1 ?_;try with_reducible exact ⟨⟩)
   refine VWpG.plain (Qa c) ?_;cases hce:ar e
   ·rw [hce] at hch';have F:=(Ja @h1 @h0)
    refine rn F ?_
    repeat' (first|with_reducible exact⟨⟩|refine vp F (hch') ?_)
    refine VWpG.plain (Qa c) ?_;refine rn trivial ?_;refine kQ c x k i b _ pg sl tx vz _ _ ?_ ?_ ?_ ?_ rfl ?_
    ·show 1 < (H ++ _ ++ _).length
     simp;try omega
    ·show Qc (H ++ _ ++ _) 0 = _
     rw[Qr wq,Qr h0];exact hb0
    ·show (H ++ _ ++ _)[1]? = _
     rw[Jf,Je h1];exact hb1
    ·rw[ok,hnx,if_neg (by unfold gl;rw[hce];simp)]
    ·intro q hq;simp only[Jd,Jc,or_false] at hq;rcases hq with rfl|rfl|rfl|rfl|rfl|rfl|rfl<;>exact .inl rfl
   ·rw [hce] at hch';have F:=(Ja @h1 (Ja @h0 (Ja @hb1 @hbc1)))
    refine rn F ?_
    repeat' (first|with_reducible exact⟨⟩|(refine sG F ?_ ?_<;>intro hZ)|(refine sB F ?_ ?_<;>intro hZ)|refine vp F (hch') ?_|(refine Qf (id:=12) [0,1,2,3,4] [⟨[],[],5,[3,4],[]⟩,⟨[],[],6,[],[]⟩,⟨[],[],7,[],[]⟩] vw vw ?_;refine rn F ?_))
    ·skip
     refine⟨?_,?_⟩
     ·rw [vn (by simp [Qv]),<-Qv (hp:=H) (k:=1),CQ];rfl
     ·have hbS:∀(X Y:Qb) (CS:List DV),Qc (Qm H 1 CS ++ X ++ Y) 1 = some CS:=fun X Y CS=>by
       rw[Qr (by simp[Qv];omega),Qr (by rw[Qv];exact h1),CR hbc1]
      refine rn @hbS ?_;rw[eS,ok,hnx,if_pos (by unfold gl;rw[hce,hcm];simp[*])]
    ·skip
     refine VWpG.plain (Qa c) ?_;refine rn trivial ?_;refine kQ c x k i b _ pg sl tx vz _ _ ?_ ?_ ?_ ?_ rfl ?_
     ·show 1 < (H ++ _ ++ _).length
      simp;try omega
     ·show Qc (H ++ _ ++ _) 0 = _
      rw[Qr wq,Qr h0];exact hb0
     ·show (H ++ _ ++ _)[1]? = _
      rw[Jf,Je h1];exact hb1
     ·rw[ok,hnx,if_neg (by unfold gl;rw[hce,hcm];simp[*])]
     ·intro q hq;simp only[Jd,Jc,or_false] at hq;rcases hq with rfl|rfl|rfl|rfl|rfl|rfl|rfl<;>exact .inl rfl
    ·skip
     refine VWpG.plain (Qa c) ?_;refine rn trivial ?_;refine kQ c x k i b _ pg sl tx vz _ _ ?_ ?_ ?_ ?_ rfl ?_
     ·show 1 < (H ++ _ ++ _).length
      simp;try omega
     ·show Qc (H ++ _ ++ _) 0 = _
      rw[Qr wq,Qr h0];exact hb0
     ·show (H ++ _ ++ _)[1]? = _
      rw[Jf,Je h1];exact hb1
     ·rw[ok,hnx,if_neg (by unfold gl;rw[hce,hcm];simp[*])]
     ·intro q hq;simp only[Jd,Jc,or_false] at hq;rcases hq with rfl|rfl|rfl|rfl|rfl|rfl|rfl<;>exact .inl rfl
    ·skip
     refine VWpG.plain (Qa c) ?_;refine rn trivial ?_;refine kQ c x k i b _ pg sl tx vz _ _ ?_ ?_ ?_ ?_ rfl ?_
     ·show 1 < (H ++ _ ++ _).length
      simp;try omega
     ·show Qc (H ++ _ ++ _) 0 = _
      rw[Qr wq,Qr h0];exact hb0
     ·show (H ++ _ ++ _)[1]? = _
      rw[Jf,Je h1];exact hb1
     ·rw[ok,hnx,if_neg (by unfold gl;rw[hce,hcm];simp[*])]
     ·intro q hq;simp only[Jd,Jc,or_false] at hq;rcases hq with rfl|rfl|rfl|rfl|rfl|rfl|rfl<;>exact .inl rfl
  ·(refine rn @h1 ?_;try with_reducible exact ⟨⟩)
   refine VWpG.plain (Qa c) ?_;cases hce:ar e
   ·rw [hce] at hch';have F:=(Ja @h1 @h0)
    refine rn F ?_
    repeat' (first|with_reducible exact⟨⟩|refine vp F (hch') ?_)
    refine VWpG.plain (Qa c) ?_;refine rn trivial ?_;refine kQ c x k i b _ pg sl tx vz _ _ ?_ ?_ ?_ ?_ rfl ?_
    ·show 1 < (H ++ _ ++ _).length
     simp;try omega
    ·show Qc (H ++ _ ++ _) 0 = _
     rw[Qr wq,Qr h0];exact hb0
    ·show (H ++ _ ++ _)[1]? = _
     rw[Jf,Je h1];exact hb1
    ·rw[ok,hnx,if_neg (by unfold gl;rw[hce];simp)]
    ·intro q hq;simp only[Jd,Jc,or_false] at hq;rcases hq with rfl|rfl|rfl|rfl|rfl|rfl|rfl<;>exact .inl rfl
   ·rw [hce] at hch';have F:=(Ja @h1 (Ja @h0 (Ja @hb1 @hbc1)))
    refine rn F ?_
    repeat' (first|with_reducible exact⟨⟩|(refine sG F ?_ ?_<;>intro hZ)|refine vp F (hch') ?_|(refine Qf (id:=12) [0,1,2,3,4] [⟨[],[],5,[3,4],[]⟩,⟨[],[],6,[],[]⟩,⟨[],[],7,[],[]⟩] vw vw ?_;refine rn F ?_))
    ·skip
     refine⟨?_,?_⟩
     ·rw [vn (by simp [Qv]),<-Qv (hp:=H) (k:=1),CQ];rfl
     ·have hbS:∀(X Y:Qb) (CS:List DV),Qc (Qm H 1 CS ++ X ++ Y) 1 = some CS:=fun X Y CS=>by
       rw[Qr (by simp[Qv];omega),Qr (by rw[Qv];exact h1),CR hbc1]
      refine rn @hbS ?_;rw[eS,ok,hnx,if_pos (by unfold gl;rw[hce,hcm];simp[*])]
    ·skip
     refine VWpG.plain (Qa c) ?_;refine rn trivial ?_;refine kQ c x k i b _ pg sl tx vz _ _ ?_ ?_ ?_ ?_ rfl ?_
     ·show 1 < (H ++ _ ++ _).length
      simp;try omega
     ·show Qc (H ++ _ ++ _) 0 = _
      rw[Qr wq,Qr h0];exact hb0
     ·show (H ++ _ ++ _)[1]? = _
      rw[Jf,Je h1];exact hb1
     ·rw[ok,hnx,if_neg (by unfold gl;rw[hce,hcm];simp[*])]
     ·intro q hq;simp only[Jd,Jc,or_false] at hq;rcases hq with rfl|rfl|rfl|rfl|rfl|rfl|rfl<;>exact .inl rfl
    ·skip
     refine VWpG.plain (Qa c) ?_;refine rn trivial ?_;refine kQ c x k i b _ pg sl tx vz _ _ ?_ ?_ ?_ ?_ rfl ?_
     ·show 1 < (H ++ _ ++ _).length
      simp;try omega
     ·show Qc (H ++ _ ++ _) 0 = _
      rw[Qr wq,Qr h0];exact hb0
     ·show (H ++ _ ++ _)[1]? = _
      rw[Jf,Je h1];exact hb1
     ·rw[ok,hnx,if_neg (by unfold gl;rw[hce,hcm];simp[*])]
     ·intro q hq;simp only[Jd,Jc,or_false] at hq;rcases hq with rfl|rfl|rfl|rfl|rfl|rfl|rfl<;>exact .inl rfl
 ·obtain rfl:i = 0:=vz;refine VWpG.seq ?_;refine VWpG.first (Qa c) ?_
  refine rn trivial ?_;refine VWpG.cond rfl (fun hZ=>?_) (fun hZ=>?_)
  ·cases hZ
  refine VWpG.plain (Qa c) ?_;refine rn trivial ?_;refine VWpG.plain (Qa c) ?_;refine rn (Ja @h1 (Ja @h0 (Ja @hb1 @hbc1))) ?_;rw[eS,ok];rfl
end
section
attribute [local go_sem] Ce.d Ch.d E.d QZ bK bD cL cM cN cP cQ cR nC nD nE nF iq Lg.c
def CT(x:Lg)(hx:x.es.length<=9223372036854775807)(pg sl tx at_:Int):VCalls prog 15 [.agg x.c,.int .i64 pg,.int .i64 sl,.int .i64 tx,.int .i64 at_] [] (Ret (.tup [.agg (iO x pg sl tx at_).1.1.d,.int .i64 (iO x pg sl tx at_).2])):=by
 refine dd Tryz.func15 ?_;have c1:=Ph x hx pg sl tx at_;generalize iO x pg sl tx at_=r at *;unfold Lg.c Ce.d at c1;refine rn F ?_
 repeat' (first|with_reducible exact⟨⟩|refine vp F (c1) ?_)
structure Rg where
 tx:Int
 pg:Int
 sl:Int
 at_:Int
 c:Ce
def Rg.d(r:Rg):List DV:=[.int .i64 r.tx,.int .i64 r.pg,.int .i64 r.sl,.int .i64 r.at_,.bool r.c.set,.pv (.str r.c.data)]
attribute [local go_sem] Rg.d
def cW(es:List E):Nat->List Int
 |0=>[]
 |i+1=>if (es.getD i E0).kind=3 then cW es i++[(es.getD i E0).tx] else cW es i
def CU (es:List E):∀i,(cW es i).length<=i
 |0=>Jk _
 |i + 1=>by
   rw[cW];have:=CU es i;split
   ·rw[JR];simp;omega
   ·omega
def oG(x:Lg):List Int×Int:=if cz x=false then ([],26) else (cW x.es x.es.length,0)
def Pi(x:Lg)(hx:x.es.length<=9223372036854775807):VCalls prog 8 [.agg x.c] [] (Ret (.tup [.pv (.sl (fz Q7 (oG x).1)),.int .i64 (oG x).2])):=by
 refine VCalls.unwk ?_;refine dd Tryz.func8 ?_;have hw:=vh x hx;have eS:oG x=if cz x=false then ([],26) else (cW x.es x.es.length,0):=rfl
 unfold Lg.c at hw;refine rn F ?_;cases hwb:cz x
 ·rw [hwb] at hw;rw[if_pos hwb] at eS;refine rn F ?_
  repeat' (first|with_reducible exact⟨⟩|refine vp F (hw) ?_)
  rw[eS];rfl
 rw[hwb] at hw;rw[if_neg (by rw[hwb];decide)] at eS;rw[eS];have hlg:lgB x=true:=by unfold cz at hwb;simp at hwb;exact hwb.1
 have hes:x.es.length<=4096:=(bz hlg).2.2.1;refine rn F ?_
 repeat' (first|with_reducible exact⟨⟩|refine vp F (hw) ?_)
 refine VLoop.nilOwn 4 3 1 rfl ?_;refine Qj (fun s:To x.es.length=>⟨27,0,[(13,.int .i64 s.i),(12,.int .i64 x.es.length),(11,.pv (.sl (fz encE x.es))),(4,.own 0 1 0 (cW x.es s.i).length)],[⟨3,true,cells Q7 (cW x.es s.i)⟩]⟩) (fun s=>x.es.length-s.i) ⟨0,Jq _⟩ (gc [1]) ?_;rintro⟨k,hk⟩;dsimp only;have hpl:=CU x.es k;have hcl:(cells Q7 (cW x.es k)).length=(cW x.es k).length:=CV _;have hpn:cW x.es (k+1)=if (x.es.getD k E0).kind=3 then cW x.es k++[(x.es.getD k E0).tx] else cW x.es k:=rfl
 have hlb:((cW x.es k).length+1)*8<=140737488355328:=vz;by_cases hc:k<x.es.length
 ·have hc':(k:Int) < x.es.length:=vz;have hg:=jf x.es k hc;generalize x.es.getD k E0=e at *;have F:=(Ja @hc' @hg)
  refine rn F ?_
  repeat' (first|with_reducible exact⟨⟩|(refine sB F ?_ ?_<;>intro hZ))
  ·rw [if_pos hZ] at hpn;refine⟨⟨k+1,hc⟩,vu,?_⟩;dsimp only;rw[hpn,JR];exact(gc [3])
  ·rw [if_neg hZ] at hpn;refine⟨⟨k+1,hc⟩,vu,?_⟩;dsimp only;rw[hpn];exact(gc [0])
 ·have hc':¬(k:Int) < x.es.length:=vz;obtain rfl:k=x.es.length:=vz;have F:=@hc';(refine rn F ?_;try with_reducible exact⟨⟩)
end
set_option pp.deepTerms true
set_option pp.deepTerms.threshold 100000
set_option pp.maxSteps 1000000
set_option pp.proofs false
def vo{es:List E}{i:Nat}(h:i<es.length):es.getD i E0∈es:=by
 grind
def Pj{es:List E}{x:E}(h:x∈es):∃i,i<es.length/\es.getD i E0=x:=by
 obtain⟨i,hi,rfl⟩:=Jw.1 h;exact⟨i,hi,by rw[Jb,Jh hi];rfl⟩
structure OwJ(h:List E)(o:Own):Prop where
 nd:(o.map (·.1)).Nodup
 cnt:∀p s,(au o (p,s)).2=(stC h p s).length
 tx:∀p s,∀x∈stC h p s,x.tx=(au o (p,s)).1
def kR(h1:¬onC p s e)(h3:e.kind≠3):stC (h++[e]) p s=stC h p s:=by rw[jm,if_neg h1,if_neg h3]
def OwJ.step {h r:List E} {e:E} {o:Own} (w:LwB (h ++ e :: r)) (I:OwJ h o):∃o',mw o e = some o'/\OwJ (h ++ [e]) o':=by
 obtain⟨ho,hb⟩:=w.split;have w1:LwB (h++[e]):=LwB.front (r:=r) (by rw[Jf];exact w);unfold mw;by_cases k1:e.kind=1
 ·have hown:∀x ∈ stC h e.c.pg e.c.sl,x.tx = e.tx:=fun x hx=>by
   obtain⟨b,hc⟩:=w.front.cs e.c.pg e.c.sl;obtain⟨m1,m2,⟨m3,m4⟩,m5,m6⟩:=(hc.mem x).1 hx;by_cases q:x.tx=e.tx
   ·exact q
   ·rcases hb.own k1 x m1 m2 m3 m4 q with w|⟨_,w⟩
    ·exact absurd w m6
    ·exact absurd m5 w
  have hst:stC (h++[e]) e.c.pg e.c.sl=e::stC h e.c.pg e.c.sl:=by rw[jm,if_pos ⟨.inl k1,rfl,rfl⟩,if_pos k1]
  have hn:=I.cnt e.c.pg e.c.sl;have ht:=I.tx e.c.pg e.c.sl
  have hz:(au o (e.c.pg,e.c.sl)).1≠e.tx->stC h e.c.pg e.c.sl=[]:=fun q=>by
   cases hs:stC h e.c.pg e.c.sl with
   |nil=>rfl
   |cons x t=>exact absurd ((ht x (by rw[hs];simp)).symm.trans (hown x (by rw[hs];simp))) q
  rw[if_pos k1,if_neg (fun q=>by rw[hn,hz q.2] at q;simp at q)];refine⟨_,rfl,(vf _ _ _ I.nd).1,fun p s=>?_,fun p s x hx=>?_⟩
  ·rw [rM];by_cases hps:(e.c.pg,e.c.sl)=(p,s)
   ·obtain ⟨rfl,rfl⟩:=Prod.mk.inj hps;rw[if_pos rfl,hst,List.length_cons];split
    ·rename_i q;rw[hz q];rfl
    ·rw[hn];simp
   ·rw [if_neg hps,kR (fun q=>hps (by rw [q.2.1,q.2.2])) vz];exact I.cnt p s
  ·rw [rM];by_cases hps:(e.c.pg,e.c.sl)=(p,s)
   ·obtain ⟨rfl,rfl⟩:=Prod.mk.inj hps;rw[hst] at hx
    have:x.tx=e.tx:=by
     rcases Jd.1 hx with rfl|hx
     ·rfl
     ·exact hown x hx
    rw[if_pos rfl,this];split<;>rfl
   ·rw [kR (fun q=>hps (by rw [q.2.1,q.2.2])) vz] at hx;rw[if_neg hps];exact I.tx p s x hx
 rw[if_neg k1];by_cases k2:e.kind=2
 ·rw [if_pos k2];have hst:stC (h++[e]) e.c.pg e.c.sl=(stC h e.c.pg e.c.sl).tail:=by rw[jm,if_pos ⟨.inr k2,rfl,rfl⟩,if_neg k1]
  have hne:0<(stC h e.c.pg e.c.sl).length:=by
   obtain⟨u1,x,x1,x2,x3,x4,x5,x6⟩:=ho.un k2;obtain⟨b,hc⟩:=w.front.cs e.c.pg e.c.sl;exact List.length_pos_of_mem ((hc.mem x).2 ⟨x1,x3,⟨by rw[x5],by rw[x5]⟩,by rw[x2,x4];exact u1,by rw[x4];exact ho.ne (w.tx e vv (.inr (.inl k2)))⟩)
  refine⟨_,rfl,(vf _ _ _ I.nd).1,fun p s=>?_,fun p s x hx=>?_⟩
  ·rw [rM];by_cases hps:(e.c.pg,e.c.sl)=(p,s)
   ·obtain ⟨rfl,rfl⟩:=Prod.mk.inj hps;rw[if_pos rfl,hst,List.length_tail];dsimp only;rw[I.cnt];omega
   ·rw [if_neg hps,kR (fun q=>hps (by rw [q.2.1,q.2.2])) vz];exact I.cnt p s
  ·rw [rM];by_cases hps:(e.c.pg,e.c.sl)=(p,s)
   ·obtain ⟨rfl,rfl⟩:=Prod.mk.inj hps;rw[hst] at hx;rw[if_pos rfl];exact I.tx _ _ x (List.mem_of_mem_tail hx)
   ·rw [kR (fun q=>hps (by rw [q.2.1,q.2.2])) vz] at hx;rw[if_neg hps];exact I.tx p s x hx
 rw[if_neg k2];have hoff:∀p s,¬onC p s e:=fun p s q=>by rcases q.1 with q|q<;>contradiction
 by_cases k3:e.kind=3\/e.kind=5
 ·rw [if_pos k3];have hd:=fun c=>O9 o (fun a=>decide (a=e.tx)) I.nd c
  have hst:∀p s,stC (h++[e]) p s=(stC h p s).filter fun q=>decide (q.tx≠e.tx):=fun p s=>by
   rw[jm,if_neg (hoff p s)];split
   ·rfl
   ·rename_i q;refine(Jx.2 fun x hx=>?_).symm;rw[decide_eq_true_eq];intro z;obtain⟨b,hc⟩:=w1.cs p s;rw[<-kR (hoff p s) q] at hx;exact((hc.mem x).1 hx).2.2.2.2 ⟨e,vv,z.symm,vz⟩
  refine⟨_,rfl,J0.sublist (JV.map _ Jy) I.nd,fun p s=>?_,fun p s x hx=>?_⟩
  ·rw [hd,hst];have ht:=I.tx p s;by_cases q:(au o (p,s)).1=e.tx
   ·rw [if_pos (decide_eq_true q),List.filter_eq_nil_iff.2 fun x hx=>by simp [ht x hx,q]];rfl
   ·rw [if_neg (by simpa using q),Jx.2 fun x hx=>decide_eq_true (by rw [ht x hx];exact q)];exact I.cnt p s
  ·rw [hst] at hx;obtain⟨h1,h2⟩:=Jr.1 hx;have ht:=I.tx p s x h1;rw[hd,if_neg (by rw[<-ht];simpa using h2)];exact ht
 ·rw [if_neg k3];exact⟨o,rfl,I.nd,fun p s=>by rw[kR (hoff p s) (fun q=>k3 (.inl q))];exact I.cnt p s,fun p s x hx=>I.tx p s x (by rwa [kR (hoff p s) (fun q=>k3 (.inl q))] at hx)⟩
def LwB.strict (w:LwB es):(dI es es.length).isSome = true:=by
 have key:∀n,n<=es.length->∃o,dI es n = some o/\OwJ (es.take n) o:=fun n=>by
  induction n with
  |zero=>exact fun _=>⟨[],rfl,JO,fun _ _=>rfl,fun _ _ x hx=>by simp[stC] at hx⟩
  |succ n ih =>
    intro hn;obtain⟨o,h1,h2⟩:=ih vz;have he:es=es.take n++es.getD n E0::es.drop (n+1):=by rw[Qd _ _ hn,<-JB hn,Jt]
    have w':=w;rw[he] at w';obtain⟨o',h3,h4⟩:=h2.step w';refine⟨o',by rw[dI,h1];exact h3,?_⟩;rw[JF,Jh hn];rw[Qd _ _ hn] at h4;exact h4
 obtain⟨o,h,_⟩:=key es.length (Jk _);rw[h];rfl
def CW (es:List E):∀i,i<=es.length->cW es i = (ao (es.take i)).map (·.tx)
 |0,_=>by rw[Js];rfl
 |i + 1,hi=>by
   rw[cW,CW es i vz,JF,Jh (show i<es.length by omega)];have e1:es.getD i E0=es[i]:=by rw[Jb,Jh (show i<es.length by omega)];rfl
   rw[e1];unfold ao;rw[List.filter_append,JL];show _=_++List.map _ (List.filter _ [es[i]])
   split
   ·rename_i q;rw[JW,if_pos (decide_eq_true q)];rfl
   ·rename_i q;rw[JW,if_neg (by simpa using q)];simp
def Pk(es:List E):cW es es.length=(ao es).map (·.tx):=by rw[CW es _ (Jk _),Jv]
def CY (es:List E) (com:Int->Bool) (p s:Int):∀i,i<=es.length->jA es com p s i = dB (es.take i) com p s
 |0,_=>by rw[Js];rfl
 |i + 1,hi=>by
   rw[jA,CY es com p s i vz,JF,Jh (show i<es.length by omega)];have e1:es.getD i E0=es[i]:=by rw[Jb,Jh (show i<es.length by omega)];rfl
   rw[e1];show _=dB (_++[es[i]]) com p s
   rw[kz]
   have hq:(ar es[i]=true/\com es[i].tx=true/\es[i].c.pg=p/\es[i].c.sl=s) ↔ (onC p s es[i]/\com es[i].tx=true):=by
    unfold onC ar;simp only[Jl,beq_iff_eq];constructor
    ·rintro⟨a,b,c,d⟩;exact⟨⟨a,c,d⟩,b⟩
    ·rintro⟨⟨a,c,d⟩,b⟩;exact⟨a,b,c,d⟩
   by_cases q:onC p s es[i]/\com es[i].tx=true
   ·rw[if_pos q,if_pos (hq.2 q)]
   ·rw[if_neg q,if_neg fun z=>q (hq.1 z)]
def Pm(es:List E)(a:Int):aS es es.length a=true ↔ bB es a:=by
 unfold aS;rw[exE_iff];unfold comp bB;simp only[Ji,decide_eq_true_eq];constructor
 ·rintro⟨i,hi,h⟩;exact⟨_,vo hi,h⟩
 ·rintro ⟨x,hx,h⟩;obtain⟨i,hi,rfl⟩:=Pj hx;exact⟨i,hi,h⟩
def LwB.comd(w:LwB es)(t p s:Int):cg es (ao es) t 0 p s=jA es (aS es es.length) p s es.length:=by
 rw[CY _ _ _ _ _ (Jk _),Jv];exact w.last (Pm es) t p s
def rP{es:List E}(h:i<k)(hk:k<=es.length):es.getD i E0∈es.take k:=by
 rw[Jw];exact⟨i,by rw[Jj];omega,by rw[JT,Qd _ _ vz]⟩
def mA(es:List E)(h:j<es.length):es.take (j+1)=es.take j++[es.getD j E0]:=by
 rw[List.take_succ_eq_append_getElem h,Qd _ _ h]
def QN(es:List E)(m i:Nat):(es.drop m).getD i E0=es.getD (m+i) E0:=by
 grind
def mB{es:List E}(h:y∈es.take j):∃k,k<j/\k<es.length/\es.getD k E0=y:=by
 obtain⟨k,hk,rfl⟩:=Jw.1 h;rw[Jj] at hk;exact⟨k,vz,vz,by rw[Qd _ _ vz,JT]⟩
def Pn{es:List E}(hk:k<j)(hl:j<=es.length)(h1:(es.getD k E0).tx=a)(h2:(es.getD k E0).kind=3\/(es.getD k E0).kind=5):ct (es.take j) a:=⟨_,rP hk hl,h1,h2⟩
def vA (hv:lgB x = true) (hf:x.f = 1) (hlog:LogOk x.es) (a n:Int):∀j,j<=x.es.length->(n ∈ aQ (x.es.take j) a ↔ (∃k,k < j/\(x.es.getD k E0).lsn = n/\(x.es.getD k E0).kind = 1/\(x.es.getD k E0).tx = a)/\∀q,q < j->(x.es.getD q E0).kind = 2->(x.es.getD q E0).ref ≠ n)
 |0,_=>by simp[aQ]
 |j + 1,hj=>by
   have ih:=vA hv hf hlog a n j vz;have hat:=(Q8 hv (i:=j) vz).1;have ho:=(Q8 hv (i:=j) vz).2;have he:=hlog j vz;rw[mA _ vz,gP]
   have hu:∀k,k<j->(x.es.getD k E0).lsn≠(x.es.getD j E0).lsn:=fun k hk=>by
    have:=(Q8 hv (i:=k) vz).1;omega
   have hr:(x.es.getD j E0).kind=2->∃k,k<j/\(x.es.getD k E0).lsn=(x.es.getD j E0).ref/\(x.es.getD k E0).tx=(x.es.getD j E0).tx:=fun q=>by
    obtain⟨_,y,y1,y2,_,y3,_⟩:=he.un q;obtain⟨k,k1,_,rfl⟩:=mB y1;exact⟨k,k1,y2,y3⟩
   have hlt:∀q,q<x.es.length->(x.es.getD q E0).kind=2->(x.es.getD q E0).ref<1+q:=fun q hq h2=>by
    obtain⟨_,y,y1,y2,_⟩:=(hlog q hq).un h2;obtain⟨k,k1,_,rfl⟩:=mB y1;have:=(Q8 hv (i:=k) vz).1;omega
   constructor
   ·intro h
    have old:n∈aQ (x.es.take j) a->((x.es.getD j E0).kind=2->(x.es.getD j E0).ref≠n)->(∃k,k<j+1/\(x.es.getD k E0).lsn=n/\(x.es.getD k E0).kind=1/\(x.es.getD k E0).tx=a)/\∀q,q<j+1->(x.es.getD q E0).kind=2->(x.es.getD q E0).ref≠n:=fun h h'=>by
     obtain⟨⟨k,k1,k2⟩,q⟩:=ih.1 h;refine⟨⟨k,vz,k2⟩,fun r hr=>?_⟩;by_cases hrj:r=j
     ·subst hrj;exact h'
     ·exact q r vz
    split at h
    ·rename_i ht;split at h
     ·rename_i hk;rcases List.mem_append.1 h with h|h
      ·exact old h fun q=>by omega
      ·rw [Jg.1 h];exact⟨⟨j,vz,rfl,hk,ht⟩,fun q hq h2=>by have:=hlt q vz h2;omega⟩
     split at h
     ·obtain ⟨h3,h4⟩:=Jr.1 h;exact old h3 fun _ q=>of_decide_eq_true h4 q.symm
     ·rename_i hk hk2;exact old h fun q=>absurd q hk2
    ·rename_i ht;refine old h fun q hq=>?_;obtain⟨k,k1,k2,k3⟩:=hr q;obtain⟨⟨k',r1,r2,_,r4⟩,_⟩:=ih.1 h;have e1:=(Q8 hv (i:=k) vz).1;have e2:=(Q8 hv (i:=k') vz).1;obtain rfl:k=k':=vz;exact ht (by rw[<-k3,r4])
   ·rintro ⟨⟨k,k1,k2,k3,k4⟩,q⟩;by_cases hkj:k=j
    ·subst hkj;rw[if_pos k4,if_pos k3,k2];simp
    ·have hm:n ∈ aQ (x.es.take j) a:=ih.2 ⟨⟨k,vz,k2,k3,k4⟩,fun r hr=>q r vz⟩;split
     ·split
      ·exact List.mem_append_left _ hm
      split
      ·rename_i h2;exact Jr.2 ⟨hm,decide_eq_true fun h=>q j vz h2 h.symm⟩
      ·exact hm
     ·exact hm
section
section
variable {x:Lg} (hv:lgB x=true) (hf:x.f=1) (hlog:LogOk x.es) (m:Nat)
include hv hf in
theorem vB (a:Int):∀i,m + i<=x.es.length->bS (x.es.take (m + i)) a = (if aI (x.es.drop m) a i = 0 then bS (x.es.take m) a else aI (x.es.drop m) a i)/\(aI (x.es.drop m) a i = 0 ↔ ∀k,k < i->(x.es.getD (m + k) E0).tx ≠ a)
 |0,_=>by simp[aI]
 |i + 1,hi=>by
   obtain⟨h1,h2⟩:=vB a i vz;have hat:=(Q8 hv (i:=m+i) vz).1;rw[<-J1,mA _ vz,jk];unfold aI;rw[QN];by_cases ht:(x.es.getD (m+i) E0).tx=a
   ·rw [if_pos ht,if_pos ht];refine⟨by rw[if_neg vz],⟨fun h=>by omega,fun h=>absurd ht (h i vz)⟩⟩
   ·rw [if_neg ht,if_neg ht];refine⟨h1,h2.trans ⟨fun h k hk=>?_,fun h k hk=>h k vz⟩⟩;by_cases hki:k=i
    ·subst hki;exact ht
    ·exact h k vz
include hv hf in
theorem CZ (p:Int):∀i,m + i<=x.es.length->aV (x.es.take (m + i)) p = (if eZ (x.es.drop m) p i = 0 then aV (x.es.take m) p else eZ (x.es.drop m) p i)
 |0,_=>by simp[eZ]
 |i + 1,hi=>by
   have h1:=CZ p i vz;have hat:=(Q8 hv (i:=m+i) vz).1;rw[<-J1,mA _ vz,gO]
   have hc:ar (x.es.getD (m+i) E0)=true ↔ (x.es.getD (m+i) E0).kind=1\/(x.es.getD (m+i) E0).kind=2:=by
    unfold ar;simp only[Jl,beq_iff_eq]
   by_cases ht:((x.es.getD (m+i) E0).kind=1\/(x.es.getD (m+i) E0).kind=2)/\(x.es.getD (m+i) E0).c.pg=p
   ·have e:eZ (x.es.drop m) p (i + 1) = (x.es.getD (m + i) E0).lsn:=by
     show(if _ then _ else _)=_
     rw[QN,if_pos ⟨hc.2 ht.1,ht.2⟩]
    rw[if_pos ht,e,if_neg vz]
   ·have e:eZ (x.es.drop m) p (i + 1) = eZ (x.es.drop m) p i:=by
     show(if _ then _ else _)=_
     rw[QN,if_neg fun h=>ht ⟨hc.1 h.1,h.2⟩]
    rw[if_neg ht,e];exact h1
include hv hf in
theorem Po (a:Int):0<=bS (x.es.take m) a/\bS (x.es.take m) a<=m:=by
 have:∀j,j<=x.es.length->0<=bS (x.es.take j) a/\bS (x.es.take j) a<=j:=fun j=>by
  induction j with
  |zero=>intro _;rw[Js];exact⟨JQ _,JQ _⟩
  |succ j ih =>
    intro hj;have:=ih vz;have hat:=(Q8 hv (i:=j) vz).1;rw[mA _ vz,jk];split<;>omega
 grind
include hv hf in
theorem Pp (p:Int):0<=aV (x.es.take m) p/\aV (x.es.take m) p<=m:=by
 have:∀j,j<=x.es.length->0<=aV (x.es.take j) p/\aV (x.es.take j) p<=j:=fun j=>by
  induction j with
  |zero=>intro _;rw[Js];exact⟨JQ _,JQ _⟩
  |succ j ih =>
    intro hj;have:=ih vz;have hat:=(Q8 hv (i:=j) vz).1;rw[mA _ vz,gO];split<;>omega
 grind
theorem vC (es:List E) (a:Int):∀i,cx es a i = true ↔ ∃k,k < i/\(es.getD k E0).tx = a/\(es.getD k E0).kind = 4
 |0=>by simp[cx]
 |i + 1=>by
   have ih:=vC es a i;unfold cx;constructor
   ·intro h;split at h
    ·rename_i ht;rw[Jl,decide_eq_true_eq] at h;rcases h with h|h
     ·obtain⟨k,k1,k2⟩:=ih.1 h;exact⟨k,vz,k2⟩
     ·exact⟨i,vz,ht,h⟩
    ·obtain⟨k,k1,k2⟩:=ih.1 h;exact⟨k,vz,k2⟩
   ·rintro ⟨k,k1,k2,k3⟩;by_cases hki:k=i
    ·subst hki;rw[if_pos k2];simp only[k3,decide_true,Bool.or_true]
    ·have:=ih.2 ⟨k,vz,k2,k3⟩;split
     ·rw[this];rfl
     ·exact this
include hv hf hlog in
theorem C3{i k:Nat}(hi:m+i<=x.es.length)(hk:k<i)(h1:(x.es.getD (m+k) E0).kind=1)(hu:cw (x.es.drop m) i (x.es.getD (m+k) E0).lsn=false):(x.es.getD (m+k) E0).lsn∈aQ (x.es.take (m+i)) (x.es.getD (m+k) E0).tx:=by
 refine(vA hv hf hlog _ _ (m+i) hi).2 ⟨⟨m+k,vz,rfl,h1,rfl⟩,fun q hq h2 hr=>?_⟩;obtain⟨_,y,y1,y2,_⟩:=(hlog q vz).un h2;obtain⟨k',k1,_,rfl⟩:=mB y1;have e1:=(Q8 hv (i:=k') vz).1;have e2:=(Q8 hv (i:=m+k) vz).1;have hqm:m+k<q:=vz;have:=exE_iff'.1 hu (q-m) vz;rw[QN,show m+(q-m)=q by omega] at this;unfold undp at this;grind
include hv hf hlog in
theorem Pq {i:Nat} (hi:m + i < x.es.length) (ht:0 < (x.es.getD (m + i) E0).tx):txR (m + 1) (x.es.drop m) i = true:=by
 have he:=hlog (m+i) hi;obtain⟨l1,l2⟩:=vB hv hf m (x.es.getD (m+i) E0).tx i vz;have hrng:=Po hv hf m (x.es.getD (m+i) E0).tx;have hptx:=he.ptx ht;unfold txR rH;rw[QN]
 have a1:exE (x.es.drop m) i (eu (x.es.getD (m+i) E0).tx)=false:=by
  rw[exE_iff'];intro k hk;rw[QN];unfold eu;by_cases hq:(x.es.getD (m+k) E0).tx=(x.es.getD (m+i) E0).tx/\((x.es.getD (m+k) E0).kind=3\/(x.es.getD (m+k) E0).kind=5)
  ·exact absurd (Pn vz vz hq.1 hq.2) (he.ne ht)
  ·simp only [Jo,Bool.or_eq_false_iff,decide_eq_false_iff_not];by_cases hq2:(x.es.getD (m+k) E0).tx=(x.es.getD (m+i) E0).tx
   ·exact .inr ⟨fun h=>hq ⟨hq2,.inl h⟩,fun h=>hq ⟨hq2,.inr h⟩⟩
   ·exact .inl hq2
 rw[a1,if_neg vj];rw[if_neg];rotate_left
 ·rintro ⟨q1,q2⟩;by_cases h0:aI (x.es.drop m) (x.es.getD (m+i) E0).tx i=0
  ·have hp:=hptx.trans (l1.trans (if_pos h0));simp only[Jo,decide_eq_false_iff_not] at q2;omega
  ·exact q1 (hptx.trans (l1.trans (if_neg h0)))
 rw[if_neg];rotate_left
 ·rintro ⟨q1,q2,q3⟩;obtain⟨k,k1,k2,k3⟩:=(vC _ _ _).1 q1;rw[QN] at k2 k3;have:=he.ab ht ⟨_,rP (k:=m+i) (show m+k<m+i by omega) vz,k2,k3⟩;omega
 by_cases h5:(x.es.getD (m+i) E0).kind=5;rotate_left
 ·rw[if_pos h5]
 rw[if_neg vz];obtain⟨b1,b2⟩:=he.en h5;rw[Ji];constructor
 ·obtain ⟨y,y1,y2,y3⟩:=b1;obtain⟨q,q1,q2,rfl⟩:=mB y1;by_cases hqm:m<=q
  ·have:cx (x.es.drop m) (x.es.getD (m + i) E0).tx i = true:=(vC _ _ _).2 ⟨q - m,vz,by rw [QN,show m + (q - m) = q by omega];exact y2,by rw [QN,show m + (q - m) = q by omega];exact y3⟩;rw[this];rfl
  ·have hpos:1<=bS (x.es.take m) (x.es.getD (m + i) E0).tx:=uz _ (fun z hz=>by
    obtain⟨w,_,w2,rfl⟩:=mB hz;have:=(Q8 hv w2).1
    omega) ⟨_,rP (show q<m by omega) vz,y2⟩
   by_cases h0:aI (x.es.drop m) (x.es.getD (m+i) E0).tx i=0
   ·rw [if_pos h0] at l1
    have:(decide (aI (x.es.drop m) (x.es.getD (m+i) E0).tx i=0)&&(decide (0<(x.es.getD (m+i) E0).ptx)&&decide ((x.es.getD (m+i) E0).ptx<(m:Int)+1)))=true:=by
     simp only[Ji,decide_eq_true_eq];omega
    rw[this];simp
   ·have hex:∃k,k < i/\(x.es.getD (m + k) E0).tx = (x.es.getD (m + i) E0).tx:=by
     by_cases hc:∃k,k<i/\(x.es.getD (m+k) E0).tx=(x.es.getD (m+i) E0).tx
     ·exact hc
     ·exact absurd (l2.2 fun k hk q=>hc ⟨k,hk,q⟩) h0
    obtain ⟨k,⟨k1,k2⟩,k3⟩:∃k,(k < i/\(x.es.getD (m + k) E0).tx = (x.es.getD (m + i) E0).tx)/\∀j,j < k->(x.es.getD (m + j) E0).tx ≠ (x.es.getD (m + i) E0).tx:=by
     obtain⟨k,hk⟩:=hex;induction k using Nat.strongRecOn with
     |ind k ih =>
       by_cases hc:∃j,j<k/\(x.es.getD (m+j) E0).tx=(x.es.getD (m+i) E0).tx
       ·obtain ⟨j,j1,j2⟩:=hc;exact ih j j1 ⟨vz,j2⟩
       ·exact⟨k,hk,fun j hj q=>hc ⟨j,hj,q⟩⟩
    have hek:=(hlog (m+k) vz).ptx vz;obtain⟨r1,r2⟩:=vB hv hf m (x.es.getD (m+i) E0).tx k vz;rw[if_pos (r2.2 k3)] at r1;rw[k2] at hek
    have:exE (x.es.drop m) i (dH (m+1) (x.es.getD (m+i) E0).tx)=true:=exE_iff.2 ⟨k,k1,by
     rw[QN];unfold dH;simp only[Ji,decide_eq_true_eq]
     exact⟨k2,vz,vz⟩⟩
    rw[this];simp
 ·have:fI (x.es.drop m) i (x.es.getD (m + i) E0).tx 0 (-1) 0 = false:=exE_iff'.2 fun k hk=>by
   rw[QN];unfold jz iN;by_cases hq:(x.es.getD (m+k) E0).kind=1/\(x.es.getD (m+k) E0).tx=(x.es.getD (m+i) E0).tx
   ·by_cases hu:cw (x.es.drop m) i (x.es.getD (m + k) E0).lsn = true
    ·rw[hu];simp
    ·have:=C3 hv hf hlog m vz hk hq.1 (by simpa using hu);rw[hq.2,b2] at this;simp at this
   ·simp only [Jo,decide_eq_false_iff_not];by_cases h1:(x.es.getD (m+k) E0).kind=1
    ·exact .inl (.inr (.inl fun h=>hq ⟨h1,h⟩))
    ·exact .inl (.inl h1)
  rw[this];rfl
include hv hf hlog in
theorem Pr{i:Nat}(hi:m+i<x.es.length)(hc:ar (x.es.getD (m+i) E0)=true):mq (m+1) (x.es.drop m) i=true:=by
 have he:=hlog (m+i) hi
 have hc':(x.es.getD (m+i) E0).kind=1\/(x.es.getD (m+i) E0).kind=2:=by
  unfold ar at hc;simpa only[Jl,beq_iff_eq] using hc
 have l1:=CZ hv hf m (x.es.getD (m+i) E0).c.pg i vz;have hrng:=Pp hv hf m (x.es.getD (m+i) E0).c.pg;have hp:=he.ppg hc';unfold mq;grind
include hv hf hlog in
theorem Ps{i:Nat}(hi:m+i<x.es.length)(h2:(x.es.getD (m+i) E0).kind=2):mr (m+1) (x.es.drop m) i=true:=by
 have he:=hlog (m+i) hi;obtain⟨u1,y,y1,y2,y3,y4,y5,y6⟩:=he.un h2;obtain⟨q,q1,q2,rfl⟩:=mB y1;have eq1:=(Q8 hv q2).1
 have hU:cw (x.es.drop m) i (x.es.getD (m+i) E0).ref=false:=exE_iff'.2 fun k hk=>by
  rw[QN];have:=((vA hv hf hlog _ _ (m+i) vz).1 u1).2 (m+k) vz;unfold undp;simp only[Jo,decide_eq_false_iff_not];by_cases h:(x.es.getD (m+k) E0).kind=2
  ·exact .inr (this h)
  ·exact .inl h
 have hP:fI (x.es.drop m) i (x.es.getD (m+i) E0).tx (x.es.getD (m+i) E0).c.pg (x.es.getD (m+i) E0).c.sl (x.es.getD (m+i) E0).ref=false:=exE_iff'.2 fun k hk=>by
  rw[QN];have hsl:0<=(x.es.getD (m+i) E0).c.sl:=(qF (Q8 hv hi).2 (.inr h2)).1;by_cases hq:iN (x.es.getD (m+i) E0).tx (x.es.getD (m+i) E0).c.pg (x.es.getD (m+i) E0).c.sl (x.es.getD (m+i) E0).ref (x.es.getD (m+k) E0)=true
  ·unfold jz;by_cases hu:cw (x.es.drop m) i (x.es.getD (m+k) E0).lsn=true
   ·rw[hu];simp
   ·unfold iN at hq;simp only[Ji,Jl,decide_eq_true_eq] at hq;obtain⟨g1,g2,g3,g4⟩:=hq;have hp:=C3 hv hf hlog m vz hk g1 (by simpa using hu);rw[g2] at hp;exact absurd (g4.resolve_left vz) (y6 _ (rP (show m+k<m+i by omega) vz) hp g3)
  ·unfold jz;rw[show iN (x.es.getD (m+i) E0).tx (x.es.getD (m+i) E0).c.pg (x.es.getD (m+i) E0).c.sl (x.es.getD (m+i) E0).ref (x.es.getD (m+k) E0)=false by simpa using hq];rfl
 unfold mr;rw[QN];split
 ·rw[hU,hP];rfl
 ·rename_i hge;have hqm:m<=q:=vz;rw[QN,show m+((x.es.getD (m+i) E0).ref-((m:Int)+1)).toNat=q by omega];rw[hU,hP,decide_eq_true y3,decide_eq_true y4,y5];simp[eqC,Ch.inv]
include hv hf hlog in
theorem Pt(d:Int)(hx:lgB ⟨m+1,x.es.drop m,d⟩=true):rJ ⟨m+1,x.es.drop m,d⟩=0:=by
 unfold rJ;rw[if_pos hx,if_pos];rw[JH];intro i hi;rw[JA] at hi;dsimp only at hi |-;rw[JX] at hi;unfold mu;rw[QN]
 have h1:(decide (0<(x.es.getD (m+i) E0).tx)&&!txR (m+1) (x.es.drop m) i)=false:=by
  by_cases h:0<(x.es.getD (m+i) E0).tx
  ·rw[Pq hv hf hlog m vz h];simp
  ·rw[decide_eq_false h];rfl
 have h2:(ar (x.es.getD (m+i) E0)&&!mq (m+1) (x.es.drop m) i)=false:=by
  by_cases h:ar (x.es.getD (m+i) E0)=true
  ·rw[Pr hv hf hlog m vz h];simp
  ·rw[show ar (x.es.getD (m+i) E0)=false by simpa using h];rfl
 have h3:(decide ((x.es.getD (m+i) E0).kind=2)&&!mr (m+1) (x.es.drop m) i)=false:=by
  by_cases h:(x.es.getD (m+i) E0).kind=2
  ·rw[Ps hv hf hlog m vz h];simp
  ·rw[decide_eq_false h];rfl
 grind
end
end
section
def Pu(hv:lgB x=true)(hf:x.f=1)(m n:Nat)(hm:m<=x.es.length)(hn:n<=x.es.length)(hmn:m<=n)(d:Int)(hd:(m:Int)<=d)(hd2:d<=n):lgB ⟨m+1,(x.es.take n).drop m,d⟩=true:=by
 have h1:=bz hv;simp only[Lg.hd] at h1;have hl:((x.es.take n).drop m).length=n-m:=by rw[JX,Jj];omega
 unfold lgB;rw[Ji,JH];refine⟨decide_eq_true ?_,fun i hi=>?_⟩
 ·simp only [Lg.hd];rw[hl];omega
 ·rw [JA] at hi;dsimp only at hi;rw[hl] at hi;obtain⟨h2,h3⟩:=Q8 hv (i:=m+i) vz;unfold lgC;dsimp only;rw[QN,Jb,List.getElem?_take_of_lt vz,<-Jb,Ji];exact⟨decide_eq_true vz,h3⟩
section
variable {x:Lg} (hv:lgB x=true) (hf:x.f=1) (hlog:LogOk x.es)
include hv hf in
include hv hf in
include hv hf hlog in
theorem Pv(m:Nat)(hm:m<=x.es.length):dq ⟨m+1,x.es.drop m,x.es.length⟩=0:=by
 have h:=Pu hv hf m x.es.length hm (Jk _) hm x.es.length vz vz;rw[Jv] at h;rw[O7];exact Pt hv hf hlog m _ h
include hv hf hlog in
theorem Pw:dq ⟨1,x.es,x.es.length⟩=0:=Pv hv hf hlog 0 (Jq _)
include hv hf in
include hv hf hlog in
end
end
section
def Px{e:E}(h:e.okB=true)(hk:e.kind=3\/e.kind=4\/e.kind=5):1<=e.tx:=by
 unfold E.okB at h;rw[Ji] at h;have h2:=h.2;unfold E.kindB txB at h2;grind
section
variable {x:Lg} (hv:lgB x=true) (hf:x.f=1) (hlog:LogOk x.es) {m:Nat} (hid:∀e∈x.es,e.tx<=m)
include hv hf hlog in
include hv hlog in
include hv hlog hid in
end
end
section
theorem umO:prog.underlying 86=some (.map 88 90):=vw
theorem zO:kL prog 90=some (k2 (0,0)):=vw
def kLock:KeyT prog 88 k2:=Py Tryz.underlying88 Tryz.underlying3 Tryz.underlying3 vw vw rfl rfl vw vw
attribute [local go_sem] Ce.d Ch.d E.d bD cL cM cN cP cQ cR fB fC fD JK Lg.c
def aC(o:Own):List ((Int×Int)×DV):=o.map fun p=>(p.1,k2D p.2)
def Pz (o:Own) (c:Int × Int):(aq (aC o) c).getD (k2D (0,0)) = k2D (au o c):=by
 induction o with
 |nil=>rfl
 |cons p r ih =>
   obtain⟨a,x⟩:=p;unfold aC at ih |-;simp only[JG,aq,au];split
   ·rfl
   ·exact ih
def rQ (o:Own) (c v:Int × Int):aR (aC o) c (k2D v) = aC (bO o c v):=by
 induction o with
 |nil=>rfl
 |cons p r ih =>
   obtain⟨a,x⟩:=p;unfold aC at ih |-;simp only[JG,aR,bO];split
   ·rfl
   ·rw[ih];rfl
def PA(o:Own)(c:Int×Int):eC (aC o) c=aC (o.filter fun p=>!decide (p.1=c)):=by
 unfold eC aC;rw[List.filter_map];rfl
def PB(o:Own):(ag k2 (aC o)).map (·.1)=(o.map (·.1)).map k2:=by
 simp[ag,aC]
def OwB(n:Nat)(o:Own):Prop:=(o.map (·.1)).Nodup/\∀p∈o,-(n:Int)<=p.2.2/\p.2.2<=n
def C4 {n:Nat}:∀{o:Own},(∀p ∈ o,-(n:Int)<=p.2.2/\p.2.2<=n)->∀c,-(n:Int)<=(au o c).2/\(au o c).2<=n
 |[],_,c=>⟨by show -(n:Int)<=0;omega,by show(0:Int)<=n;omega⟩
 |(a,x) :: r,h,c=>by
   rw[au];split
   ·exact h (a,x) Jz
   ·exact C4 (fun p hp=>h p (Jp _ hp)) c
def PC(h:OwB n o)(c:Int×Int): -(n:Int)<=(au o c).2/\(au o c).2<=n:=C4 h.2 c
def C5 (c v:Int × Int) (h1 : -((n + 1:Nat):Int)<=v.2) (h2:v.2<=((n + 1:Nat):Int)):∀{o:Own},(∀p ∈ o,-(n:Int)<=p.2.2/\p.2.2<=n)->∀p ∈ bO o c v,-((n + 1:Nat):Int)<=p.2.2/\p.2.2<=((n + 1:Nat):Int)
 |[],_,p,hp=>by rw[bO] at hp;simp at hp;subst hp;exact⟨h1,h2⟩
 |(a,x) :: r,h,p,hp=>by
   rw[bO] at hp;split at hp
   ·rcases Jd.1 hp with rfl|hp
    ·exact⟨h1,h2⟩
    ·have:=h p (Jp _ hp);omega
   ·rcases Jd.1 hp with rfl|hp
    ·have:=h _ (Jz (a:=(a,x)));dsimp only at this |-;omega
    ·exact C5 c v h1 h2 (fun p hp=>h p (Jp _ hp)) p hp
def rR(h:OwB n o)(c v:Int×Int)(h1 : -((n+1:Nat):Int)<=v.2)(h2:v.2<=((n+1:Nat):Int)):OwB (n+1) (bO o c v):=⟨(vf o c v h.1).1,C5 c v h1 h2 h.2⟩
def OwB.sub(h:OwB n o)(q:(Int×Int)×(Int×Int)->Bool):OwB (n+1) (o.filter q):=
 ⟨(JV.map _ Jy).nodup h.1,fun p hp=>by have:=h.2 p (Jr.1 hp).1;omega⟩
def OwB.up(h:OwB n o):OwB (n+1) o:=⟨h.1,fun p hp=>by have:=h.2 p hp;omega⟩
def C6 (h:dI es (i + 1) = none):∀{n:Nat},i < n->(dI es n).isSome = false
 |n + 1,hi=>by
   by_cases hin:i=n
   ·subst hin;rw[h];rfl
   ·have:=C6 h (n:=n) vz;rw[dI];cases hq:dI es n
    ·rfl
    ·rw[hq] at this;cases this
def dJ(o:Own)(tx:Int)(left:List (Int×Int)):Own:=o.filter fun p=>decide (p.1∈left)||!decide (p.2.1=tx)
def PD(o:Own)(tx:Int):dJ o tx (o.map (·.1))=o:=by
 unfold dJ;rw[Jx];grind
def PE(o:Own)(tx:Int):dJ o tx []=o.filter fun p=>!decide (p.2.1=tx):=by
 unfold dJ;congr 1
def C7:∀{o:Own} {k:Int × Int} {d:DV},aq (aC o) k = some d->∃v,d = k2D v/\(k,v) ∈ o
 |(a,x) :: r,k,d,h=>by
   unfold aC at h;simp only[JG,aq] at h;split at h
   ·rename_i e;subst e;exact⟨x,(J4.inj h).symm,Jz⟩
   ·obtain ⟨v,h1,h2⟩:=C7 (o:=r) h;exact⟨v,h1,Jp _ h2⟩
def PF(hn:(o.map (·.1)).Nodup)(tx:Int)(left:List (Int×Int))(h:aq (aC (dJ o tx left)) k=some d):
 ∃v,d=k2D v/\(v.1=tx->eC (aC (dJ o tx left)) k=aC (dJ o tx (left.filter fun x=>!decide (x=k))))/\(¬v.1=tx->dJ o tx left=dJ o tx (left.filter fun x=>!decide (x=k))):=by
 obtain⟨v,h1,h2⟩:=C7 h;have hv:(k,v)∈o:=(Jr.1 h2).1
 have uni:∀p∈o,p.1=k->p.2=v:=fun p hp e=>by
  obtain⟨i,hi⟩:=JM.1 hp;obtain⟨j,hj⟩:=JM.1 hv;obtain⟨li,mi⟩:=JC.1 hi;obtain⟨lj,mj⟩:=JC.1 hj;have:i=j:=(List.getElem_inj (h₀:=by simpa using li) (h₁:=by simpa using lj) hn).1 (by simp only[Ju];rw[mi,mj];exact e);subst this;rw[hi] at hj;rw[J4.inj hj]
 refine⟨v,h1,fun ht=>?_,fun ht=>?_⟩
 ·rw [PA];congr 1;unfold dJ;rw[List.filter_filter];refine JU fun p hp=>?_;by_cases hk:p.1=k
  ·have:=uni p hp hk;simp[hk,this,ht]
  ·simp[hk]
 ·unfold dJ;refine JU fun p hp=>?_;by_cases hk:p.1=k
  ·have:=uni p hp hk;simp[hk,this,ht]
  ·simp[hk]
structure InS(o:Own)(tx:Int)(k:Nat)(cs:List DV) where
 H:Qb
 hk:k<H.length
 hc:Qc H k=some cs
 left:List (Int×Int)
 cur:Option Value
 o':Own
 ho:o'=dJ o tx left
structure StS(x:Lg) where
 i:Nat
 hi:i<=x.es.length
 H:Qb
 h0:0<H.length
 o:Own
 ho:dI x.es i=some o
 bd:OwB i o
def kS(x:Lg):Bool:=decide (dq x=0)&&(decide (x.f=1)&&(dI x.es x.es.length).isSome)
def mC(c:bN)(x:Lg)(i b:Nat)(hlt:i<x.es.length)(S:St)(o:Own)(h0:0<S.hp.length)(ho:dI x.es (i+1)=some o)(bd:OwB (i+1) o)(hn:S.nt=92)
 (ht:∀q∈[(22,DV.int .i64 ((i+1:Nat):Int)),(21,DV.int .i64 x.es.length),(20,DV.pv (.sl (fz encE x.es))),(3,DV.pv (.lit (.map (some b))))],V.look S.tm q.1=q.2\/q.2=.any) :
 ∃j:StS x,x.es.length-j.i<x.es.length-i/\WeakG (MapsIn c) S [(b,ag k2 (aC o))] ⟨92,j.H.length,[(22,.int .i64 j.i),(21,.int .i64 x.es.length),(20,.pv (.sl (fz encE x.es))),(3,.pv (.lit (.map (some b))))],j.H⟩ [(b,ag k2 (aC j.o))]:=
 ⟨⟨i+1,hlt,S.hp,h0,o,ho,bd⟩,vu,WeakG.slots hn rfl ht⟩
def C8(x:Lg)(hx:x.es.length<=9223372036854775807):VCalls prog 10 [.agg x.c] [] (Ret (.bool (kS x))):=by
 refine rG (fn:=Tryz.f10) Tryz.func10 rfl vw (by simp[Tryz.f10]) (fun c=>?_);have hc:=OQ x hx;have eS:kS x=(decide (dq x=0)&&(decide (x.f=1)&&(dI x.es x.es.length).isSome)):=rfl
 have hck:dq x=0->lgB x=true:=fun h=>by
  unfold dq at h;split at h
  ·assumption
  ·cases h
 generalize kS x=res at *;generalize dq x=ck at *;unfold Lg.c at hc;refine VWpG.first (Qa c) ?_
 (unfold Tryz.f10;refine rn trivial ?_)
 refine VWpG.seq ?_;refine VWpG.first (Qa c) ?_
 refine rn trivial ?_;refine bZ hc rfl ?_;by_cases h1:ck=0;rotate_left
 ·rw [eS,decide_eq_false h1];refine rn @h1 ?_;refine VWpG.cond rfl (fun hZ=>?_) (fun hZ=>?_)
  ·refine VWpG.plain (Qa c) ?_;(refine rn trivial ?_;try with_reducible exact⟨⟩)
  ·cases hZ
 by_cases h2:x.f=1;rotate_left
 ·rw [eS,decide_eq_false h2];refine rn (Ja @h1 @h2) ?_;refine VWpG.cond rfl (fun hZ=>?_) (fun hZ=>?_)
  ·refine VWpG.plain (Qa c) ?_;(refine rn trivial ?_;try with_reducible exact⟨⟩)
  ·cases hZ
 rw[eS,decide_eq_true h1,decide_eq_true h2];have hes:x.es.length<=4096:=(bz (hck h1)).2.2.1;have hlg:=hck h1;refine rn (Ja @h1 @h2) ?_;refine VWpG.cond rfl (fun hZ=>?_) (fun hZ=>?_)
 ·cases hZ
 refine VWpG.plain (Qa c) ?_;refine rn trivial ?_;refine VWpG.seq ?_;refine VWpG.cut1 (Qa c) 0 [] ?_;refine rn trivial ?_;refine QR rfl (fun c=>by simp) (oE rfl rfl fun b hb=>?_);refine rn trivial ?_;refine VWpG.seq ?_;refine VWpG.first (Qa c) ?_
 refine rn trivial ?_;refine VWpG.block ?_;refine VWpG.loop (fun s:StS x=>⟨92,s.H.length,[(22,.int .i64 s.i),(21,.int .i64 x.es.length),(20,.pv (.sl (fz encE x.es))),(3,.pv (.lit (.map (some b))))],s.H⟩) (fun s=>[(b,ag k2 (aC s.o))]) (fun s=>x.es.length-s.i) ⟨0,Jq _,([⟨26,true,[.int .i64 1,.pv (.sl (fz encE x.es)),.int .i64 x.d]⟩]:Qb),Nat.succ_pos _,[],rfl,JO,fun p hp=>by cases hp⟩ ?_ ?_
 ·refine WeakG.slots rfl rfl ?_;intro p hp;simp only[Jd,Jc,or_false] at hp;rcases hp with rfl|rfl|rfl|rfl<;>exact .inl rfl
 rintro⟨i,hi,H,h0,o,ho,bd⟩;dsimp only;refine VWpG.first (Qa c) ?_
 refine rn trivial ?_;refine VWpG.seq ?_;by_cases hlt:i<x.es.length;rotate_left
 ·have hd:decide ((i:Int) < x.es.length) = false:=vg;obtain rfl:i=x.es.length:=vz;refine VWpG.cond (t:=false) (by rw[<-hd];rfl) (fun h=>by cases h) (fun _=>?_);refine VWpG.plain (Qa c) ?_;refine rn trivial ?_;refine VWpG.plain (Qa c) ?_;refine rn trivial ?_;rw[ho];rfl
 have hg:=jX x.es i hlt;have hd:decide ((i:Int)<x.es.length)=true:=vg;refine VWpG.cond (t:=true) (by rw[<-hd];rfl) (fun _=>?_) (fun h=>by cases h);refine VWpG.plain (Qa c) ?_;refine rn trivial ?_;refine VWpG.seq ?_;refine VWpG.block ?_;have hstep:dI x.es (i+1)=mw o (x.es.getD i E0):=by rw[dI,ho];rfl
 have hnone:mw o (x.es.getD i E0)=none->(dI x.es x.es.length).isSome=false:=fun h=>C6 (hstep.trans h) hlt;generalize x.es.getD i E0=e at *;have hgb:=PC bd (e.c.pg,e.c.sl);refine VWpG.first (Qa c) ?_
 refine rn @hg ?_;refine VWpG.first (Qa c) ?_
 refine rn trivial ?_;refine VWpG.seq ?_;refine VWpG.cut1 (Qa c) 2 [] ?_;refine rn trivial ?_;refine QR rfl (fun c=>by simp) (iK (zv:=k2 (0,0)) (z:=k2D (0,0)) (L:=aC o) (k:=(e.c.pg,e.c.sl)) rfl rfl umO kLock (eo zO) (fun w β hp=>rS w β hp _) rfl (Jg.2 rfl) (fun w β hp v h=>mD h) ?_);rw[Pz];have hm0:∀p∈([]:MapsD),p.1≠b:=fun p hp=>by cases hp
 have hS:mw o e=if e.kind=1 then (if 0<(au o (e.c.pg,e.c.sl)).2/\(au o (e.c.pg,e.c.sl)).1≠e.tx then none
  else some (bO o (e.c.pg,e.c.sl) (if (au o (e.c.pg,e.c.sl)).1≠e.tx then (e.tx,1) else (e.tx,(au o (e.c.pg,e.c.sl)).2+1))))
  else if e.kind=2 then some (bO o (e.c.pg,e.c.sl) ((au o (e.c.pg,e.c.sl)).1,(au o (e.c.pg,e.c.sl)).2-1))
  else if e.kind=3\/e.kind=5 then some (o.filter fun p=>!decide (p.2.1=e.tx))
  else some o:=rfl
 obtain⟨q,hq⟩:∃q,au o (e.c.pg,e.c.sl)=q:=⟨_,rfl⟩
 rw[hq] at hgb hS |-;obtain⟨t,p⟩:=q;dsimp only at hgb hS;unfold k2D;refine rn trivial ?_;refine VWpG.first (Qa c) ?_
 refine rn trivial ?_;refine VWpG.block ?_;by_cases hk1:e.kind=1
 ·rw [if_pos hk1] at hS;refine VWpG.first (Qa c) ?_
  refine rn @hk1 ?_;refine VWpG.cond rfl (fun hZ=>?_) (fun hZ=>?_);rotate_left
  ·cases hZ
  by_cases hp0:0<p
  ·by_cases htt:t = e.tx
   ·rw [if_neg (fun h=>h.2 htt),if_neg (fun h=>h htt)] at hS;have bd':=rR bd (e.c.pg,e.c.sl) (e.tx,p+1) vu vu;rw[<-hstep] at hS;refine VWpG.first (Qa c) ?_
    refine rn (Ja @hp0 @htt) ?_;refine VWpG.seq ?_;refine VWpG.plain (Qa c) ?_;refine rn @htt ?_;refine VWpG.first (Qa c) ?_
    refine rn trivial ?_;refine VWpG.cut1 (Qa c) 3 [] ?_;refine rn trivial ?_;refine QR rfl (fun c=>by simp) (fG (enc:=k2) (L:=aC o) (k:=(e.c.pg,e.c.sl)) rfl rfl umO kLock rfl (Jg.2 rfl) (fun w β hp v h=>mD h) ?_);rw[my hm0];refine rn trivial ?_;rw[show aR (aC o) (e.c.pg,e.c.sl) (.agg [.int .i64 (e.tx),.int .i64 (p+1)])=aC (bO o (e.c.pg,e.c.sl) (e.tx,p+1)) from rQ o _ (e.tx,p+1)];refine VWpG.plain (Qa c) ?_;refine rn trivial ?_;refine mC c x i b hlt _ _ ?_ hS bd' rfl ?_
    ·simp
    ·intro q hq;simp only[Jd,Jc,or_false] at hq;rcases hq with rfl|rfl|rfl|rfl<;>exact .inl rfl
   ·rw [if_pos ⟨hp0,htt⟩] at hS;refine VWpG.first (Qa c) ?_
    refine rn (Ja @hp0 @htt) ?_;rw[hnone hS]
  ·by_cases htt:t = e.tx
   ·rw [if_neg (fun h=>h.2 htt),if_neg (fun h=>h htt)] at hS;have bd':=rR bd (e.c.pg,e.c.sl) (e.tx,p+1) vu vu;rw[<-hstep] at hS;refine VWpG.first (Qa c) ?_
    refine rn (Ja @hp0 @htt) ?_;refine VWpG.seq ?_;refine VWpG.plain (Qa c) ?_;refine rn @htt ?_;refine VWpG.first (Qa c) ?_
    refine rn trivial ?_;refine VWpG.cut1 (Qa c) 3 [] ?_;refine rn trivial ?_;refine QR rfl (fun c=>by simp) (fG (enc:=k2) (L:=aC o) (k:=(e.c.pg,e.c.sl)) rfl rfl umO kLock rfl (Jg.2 rfl) (fun w β hp v h=>mD h) ?_);rw[my hm0];refine rn trivial ?_;rw[show aR (aC o) (e.c.pg,e.c.sl) (.agg [.int .i64 (e.tx),.int .i64 (p+1)])=aC (bO o (e.c.pg,e.c.sl) (e.tx,p+1)) from rQ o _ (e.tx,p+1)];refine VWpG.plain (Qa c) ?_;refine rn trivial ?_;refine mC c x i b hlt _ _ ?_ hS bd' rfl ?_
    ·simp
    ·intro q hq;simp only[Jd,Jc,or_false] at hq;rcases hq with rfl|rfl|rfl|rfl<;>exact .inl rfl
   ·rw [if_neg (fun h=>hp0 h.1),if_pos htt] at hS;have bd':=rR bd (e.c.pg,e.c.sl) (e.tx,1) vu vu;rw[<-hstep] at hS;refine VWpG.first (Qa c) ?_
    refine rn (Ja @hp0 @htt) ?_;refine VWpG.seq ?_;refine VWpG.plain (Qa c) ?_;refine rn @htt ?_;refine VWpG.first (Qa c) ?_
    refine rn trivial ?_;refine VWpG.cut1 (Qa c) 3 [] ?_;refine rn trivial ?_;refine QR rfl (fun c=>by simp) (fG (enc:=k2) (L:=aC o) (k:=(e.c.pg,e.c.sl)) rfl rfl umO kLock rfl (Jg.2 rfl) (fun w β hp v h=>mD h) ?_);rw[my hm0];refine rn trivial ?_;rw[show aR (aC o) (e.c.pg,e.c.sl) (.agg [.int .i64 (e.tx),.int .i64 (1)])=aC (bO o (e.c.pg,e.c.sl) (e.tx,1)) from rQ o _ (e.tx,1)];refine VWpG.plain (Qa c) ?_;refine rn trivial ?_;refine mC c x i b hlt _ _ ?_ hS bd' rfl ?_
    ·simp
    ·intro q hq;simp only[Jd,Jc,or_false] at hq;rcases hq with rfl|rfl|rfl|rfl<;>exact .inl rfl
 rw[if_neg hk1] at hS;have nk1:decide (e.kind=1)=false:=decide_eq_false hk1;refine VWpG.first (Qa c) ?_
 refine rn @hk1 ?_;refine VWpG.cond rfl (fun hZ=>?_) (fun hZ=>?_)
 ·cases hZ
 by_cases hk2:e.kind=2
 ·rw [if_pos hk2] at hS;have bd':=rR bd (e.c.pg,e.c.sl) (t,p-1) vu vu;rw[<-hstep] at hS;refine VWpG.first (Qa c) ?_
  refine rn @hk2 ?_;refine VWpG.cond rfl (fun hZ=>?_) (fun hZ=>?_);rotate_left
  ·cases hZ
  refine VWpG.first (Qa c) ?_
  refine rn trivial ?_;refine VWpG.cut1 (Qa c) 3 [] ?_;refine rn trivial ?_;refine QR rfl (fun c=>by simp) (fG (enc:=k2) (L:=aC o) (k:=(e.c.pg,e.c.sl)) rfl rfl umO kLock rfl (Jg.2 rfl) (fun w β hp v h=>mD h) ?_);rw[my hm0];refine rn trivial ?_;rw[show aR (aC o) (e.c.pg,e.c.sl) (.agg [.int .i64 (t),.int .i64 (p-1)])=aC (bO o (e.c.pg,e.c.sl) (t,p-1)) from rQ o _ (t,p-1)];refine VWpG.plain (Qa c) ?_;refine rn trivial ?_;refine mC c x i b hlt _ _ ?_ hS bd' rfl ?_
  ·simp
  ·intro q hq;simp only[Jd,Jc,or_false] at hq;rcases hq with rfl|rfl|rfl|rfl<;>exact .inl rfl
 rw[if_neg hk2] at hS;refine VWpG.first (Qa c) ?_
 refine rn @hk2 ?_;refine VWpG.cond rfl (fun hZ=>?_) (fun hZ=>?_)
 ·cases hZ
 by_cases h35:e.kind=3\/e.kind=5;rotate_left
 ·rw [if_neg h35] at hS;have hk3:¬e.kind=3:=fun h=>h35 (.inl h);have hk5:¬e.kind=5:=fun h=>h35 (.inr h);have bd':=bd.up;rw[<-hstep] at hS;refine VWpG.first (Qa c) ?_
  refine rn (Ja @hk3 @hk5) ?_;refine VWpG.cond rfl (fun hZ=>?_) (fun hZ=>?_)
  ·cases hZ
  refine VWpG.plain (Qa c) ?_;refine rn trivial ?_;refine VWpG.plain (Qa c) ?_;refine rn trivial ?_;refine mC c x i b hlt _ _ ?_ hS bd' rfl ?_
  ·simp
  ·intro q hq;simp only[Jd,Jc,or_false] at hq;rcases hq with rfl|rfl|rfl|rfl<;>exact .inl rfl
 rw[if_pos h35] at hS;have bd':=bd.sub (fun p=>!decide (p.2.1=e.tx));rw[<-hstep] at hS;refine VWpG.seq ?_;refine VWpG.first (Qa c) ?_
 rcases h35 with hkk|hkk;rotate_left;refine rn @hkk ?_;refine VWpG.cond rfl (fun hZ=>by cases hZ) (fun hZ=>?_);refine VWpG.plain (Qa c) ?_;refine rn @hkk ?_;refine VWpG.cond rfl (fun hZ=>?_) (fun hZ=>by cases hZ);rotate_left;refine rn @hkk ?_;refine VWpG.cond rfl (fun hZ=>?_) (fun hZ=>by cases hZ);refine VWpG.plain (Qa c) ?_;refine rn trivial ?_;refine VWpG.cond rfl (fun hZ=>?_) (fun hZ=>by cases hZ)
 all_goals
  refine VWpG.its ?_;refine VWpG.seq ?_;refine VWpG.cut1 (jB c) 1 [] ?_;refine rn trivial ?_;refine QR rfl (fun c=>by simp) (PG rfl rfl umO rfl (Jg.2 rfl) fun r=>?_);rw[show(ag k2 (aC o)).map (·.1)=(o.map (·.1)).map k2 from PB o];refine rn trivial ?_;refine VWpG.block ?_;have fin:∀(left:List (Int×Int)) (S:St) (o2:Own) (cur:Option Value) (n:Nat),o2=dJ o e.tx left->left.length<n->H.length<S.hp.length->Qc S.hp H.length=some e.d->S.nt=92->(∀q∈[(78,DV.pv (.lit (.pointer (some ⟨r,0,none⟩)))),(22,.int .i64 i),(21,.int .i64 x.es.length),(20,.pv (.sl (fz encE x.es))),(5,.ptr H.length 0),(3,.pv (.lit (.map (some b))))],V.look S.tm q.1=q.2\/q.2=.any)->∃j:InS o e.tx H.length e.d,j.left.length<n/\WeakG (kU c) S ([(b,ag k2 (aC o2))],[⟨r,b,left.map k2,cur⟩]) ⟨92,j.H.length,[(78,.pv (.lit (.pointer (some ⟨r,0,none⟩)))),(22,.int .i64 i),(21,.int .i64 x.es.length),(20,.pv (.sl (fz encE x.es))),(5,.ptr H.length 0),(3,.pv (.lit (.map (some b))))],j.H⟩ ([(b,ag k2 (aC j.o'))],[⟨r,b,j.left.map k2,j.cur⟩]):=fun left S o2 cur n a1 a2 a3 a4 a5 a6=>⟨⟨S.hp,a3,a4,left,cur,o2,a1⟩,a2,WeakG.slots a5 rfl a6⟩
  refine Exists.elim (fin (o.map (·.1)) _ o none (o.map (·.1)).length.succ (PD o e.tx).symm (Nat.lt_succ_self _) ?_ ?_ ?_ ?_) fun j0 hj=>VWpG.loop (fun s:InS o e.tx H.length e.d=>⟨92,s.H.length,[(78,.pv (.lit (.pointer (some ⟨r,0,none⟩)))),(22,.int .i64 i),(21,.int .i64 x.es.length),(20,.pv (.sl (fz encE x.es))),(5,.ptr H.length 0),(3,.pv (.lit (.map (some b))))],s.H⟩) (fun s=>([(b,ag k2 (aC s.o'))],[⟨r,b,s.left.map k2,s.cur⟩])) (fun s=>s.left.length) j0 hj.2 ?_
  ·simp
  ·rw [Jf,Jf,u0];simp[E.d,hkk];rfl
  ·rfl
  ·intro p hp;simp only[Jd,Jc,or_false] at hp;rcases hp with rfl|rfl|rfl|rfl|rfl|rfl<;>exact .inl rfl
  rintro⟨H',hk',hc',left,cur,o',ho'⟩;dsimp only;unfold E.d at hc';refine VWpG.seq ?_;refine VWpG.cut1 (jB c) 0 [] ?_;refine rn trivial ?_;refine QR rfl (fun c=>by simp) (PI (enc:=k2) (L:=aC o') (fun _ _=>kLock.inj _ _) rfl rfl rfl (Jg.2 rfl) (fun hl=>?_) (fun k d hkl hkd=>?_))
  ·subst hl;subst ho';refine rn trivial ?_;refine VWpG.seq ?_;refine VWpG.cond rfl (fun hZ=>?_) (fun hZ=>?_)
   ·cases hZ
   refine VWpG.plain (jB c) ?_;refine rn trivial ?_;rw[PE];refine VWpG.plain (Qa c) ?_;refine rn trivial ?_;refine mC c x i b hlt _ _ ?_ hS bd' rfl ?_
   ·simp;try omega
   ·intro q hq;simp only[Jd,Jc,or_false] at hq;rcases hq with rfl|rfl|rfl|rfl<;>exact .inl rfl
  subst ho';obtain⟨v,rfl,hdel,hkeep⟩:=PF bd.1 e.tx left hkd;have hlt':(left.filter fun x=>!decide (x=k)).length<left.length:=List.length_filter_lt_length_iff_exists.2 ⟨k,hkl,vv⟩;refine rn trivial ?_;refine VWpG.seq ?_;refine VWpG.cond rfl (fun hZ=>?_) (fun hZ=>?_);rotate_left
  ·cases hZ
  refine VWpG.plain (jB c) ?_;refine rn trivial ?_;refine VWpG.block ?_;refine VWpG.seq ?_;refine VWpG.cut1 (jB c) 0 [] ?_;refine rn trivial ?_;refine QR rfl (fun c=>by simp) (PJ (enc:=k2) (kD:=k2D) (L:=aC (dJ o e.tx left)) (fun _ _=>kLock.inj _ _) rS rfl rfl rfl (Jg.2 rfl) hkd ?_);unfold k2D;refine rn (Ja @hc' @hk') ?_;refine VWpG.seq ?_;refine VWpG.plain (jB c) ?_;refine rn (Ja @hc' @hk') ?_;by_cases hv:v.1=e.tx;rotate_left
  ·(refine rn @hv ?_;try with_reducible exact ⟨⟩)
   refine VWpG.cond rfl (fun hZ=>?_) (fun hZ=>?_)
   ·cases hZ
   refine VWpG.plain (jB c) ?_;refine rn trivial ?_;refine fin _ _ _ _ _ (hkeep hv) hlt' ?_ ?_ rfl ?_
   ·simp;omega
   ·rw[Jf,Qr hk'];exact hc'
   ·intro q hq;simp only[Jd,Jc,or_false] at hq;rcases hq with rfl|rfl|rfl|rfl|rfl|rfl<;>exact .inl rfl
  refine rn @hv ?_;refine VWpG.cond rfl (fun hZ=>?_) (fun hZ=>?_);rotate_left
  ·cases hZ
  refine VWpG.cut1 (jB c) 2 [] ?_;refine rn trivial ?_;refine QR rfl (fun c=>by simp) (PK (enc:=k2) (L:=aC (dJ o e.tx left)) (lk:=left.filter fun x=>!decide (x=k)) rfl rfl rfl rfl rfl umO kLock rfl (Jg.2 rfl) (fun w β hp v h=>mD h) vv ?_);rw[my hm0,hdel hv];refine rn trivial ?_;refine fin _ _ _ _ _ rfl hlt' ?_ ?_ rfl ?_
  ·simp;omega
  ·rw[Jf,Qr hk'];exact hc'
  ·intro q hq;simp only[Jd,Jc,or_false] at hq;rcases hq with rfl|rfl|rfl|rfl|rfl|rfl<;>exact .inl rfl
end
set_option pp.deepTerms true
set_option pp.deepTerms.threshold 100000
set_option pp.maxSteps 1000000
set_option pp.proofs false
def C9(hk:KI k)(hj:KJ k):LwB k.lg.es:=by
 refine⟨hk.log,hj.log,JD.2 fun i j hi hj hij=>?_,fun e he h=>?_⟩
 ·have a:=(Q8 hk.lg hi).1;have b:=(Q8 hk.lg hj).1;rw[Qd _ _ hi] at a;rw[Qd _ _ hj] at b;omega
 ·have ho:=(jl hk.lg hk.f he).2.2;rcases h with h|h|h
  ·have:=lS ho (.inl h);omega
  ·have:=lS ho (.inr h);omega
  ·have:=Px ho (.inl h);omega
def PL(hk:KI k):dq k.lg=0/\ckL 1 Ck0 k.lg.es=true:=by
 have h:=Pw hk.lg hk.f hk.log
 have hc:ckL 1 Ck0 k.lg.es=true:=by
  unfold dq at h;split at h
  ·split at h
   ·rename_i q;exact q
   ·omega
  ·omega
 refine⟨?_,hc⟩;unfold dq;rw[if_pos hk.lg,hk.f,if_pos hc]
def PM(hk:KI k)(hj:KJ k):kS k.lg=true:=by
 obtain⟨h1,h2⟩:=PL hk;unfold kS;rw[decide_eq_true h1,decide_eq_true hk.f,(C9 hk hj).strict];rfl
set_option pp.deepTerms true
set_option pp.deepTerms.threshold 100000
set_option pp.maxSteps 1000000
set_option pp.proofs false
set_option pp.deepTerms true
set_option pp.deepTerms.threshold 100000
set_option pp.maxSteps 1000000
set_option pp.proofs false
def Tnd(l:List Tx):Prop:=(l.map (·.id)).Nodup
def Tnd.set(h:Tnd l)(hi:i<l.length)(hu:u.id=l[i].id):Tnd (l.set i u):=by
 unfold Tnd at h |-
 have e:(l.set i u).map (·.id)=l.map (·.id):=by
  refine JI vv fun j h1 h2=>?_;rw[Ju,Ju,JJ];split
  ·rename_i q;subst q;exact hu
  ·rfl
 rw[e];exact h
def Tnd.rem(h:Tnd l)(a:Int):Tnd (bF l a):=by
 unfold Tnd at h |-;unfold bF cI;grind
def Tnd.ins(h:Tnd l)(hn:t.id ∉ l.map (·.id)):Tnd (jc l t):=by
 unfold Tnd at h |-;unfold jc;rw[JL,JG,List.perm_middle.nodup_iff,<-JL,Jt];grind
def Tnd.note{l:List Tx}(h:Tnd l){e:E}(h0:(QA l e).2=0):Tnd (QA l e).1:=by
 by_cases ht:e.tx=0
 ·rw[qE h0 ht];exact h
 obtain⟨i,hi,q1,q2,_,_,q3⟩:=nU h0 ht;rcases q3 with⟨_,q3⟩|⟨q4,q3⟩
 ·rw[q3];exact h.rem _
 ·rw[q3];exact h.set hi (by rw[qD,ue])
def Stp.tnd (h:Stp n k k') (hk:Tnd k.tx):Tnd k'.tx:=by
 cases h with
 |begin v hb =>
   show Tnd (aY k.tx k.nx).1
   rw[uC hb];refine hk.ins fun q=>?_;have hi:=(lP (l:=k.tx) (a:=k.nx)).2 q;unfold aY at hb;repeat' split at hb
   all_goals first|(simp at hb;done)|contradiction|omega
 |fin ha h3 hf=>exact hk.note ha.2.2.2.2.2.1
 |ckpt ha h6 hc=>exact hk.note ha.2.2.2.2.2.1
 |change ha h1 hs hx hu=>exact hk.note ha.2.2.2.2.2.1
 |undo ha h2 hs hu=>exact hk.note ha.2.2.2.2.2.1
 |undol u ha h2 hs hu hl=>exact hk.note ha.2.2.2.2.2.1
 |wrt ha h7 hw=>exact hk.note ha.2.2.2.2.2.1
 |lock u hl=>exact hk
 |save a h =>
   obtain⟨i,hi,e⟩:=uA h;rw[e];exact hk.set hi rfl
 |back a b h =>
   obtain⟨i,hi,u,e,h1,_⟩:=uB h;rw[e];exact hk.set hi h1
 |rem a htb hi hn=>exact hk.rem a
 |pool p hs=>exact hk
 |drop a h=>exact hk
 |force d hd h=>exact hk
def Tnd.of(h:al l=true):Tnd l:=by
 unfold Tnd;rw[J0,List.pairwise_map,JD];intro i j hi hj hij q;have h1:=jv h hi;have h2:=jv h hj;grind
def Sst.tnd (h:Sst n s s') (hk:Tnd s.k.tx):Tnd s'.k.tx:=by
 induction h with
 |refl s=>exact hk
 |kern _ h2 ih=>exact h2.tnd (ih hk)
 |put _ _ _ _ h4 ih =>
   have h:=ih hk;cases h4<;>exact h
 |dev _ _ _ _ _ _ ih=>exact ih hk
def Abt.tnd(h:Abt k k')(hk:Tnd k.tx):Tnd k'.tx:=by
 induction h with
 |refl=>exact hk
 |step _ ha _ _ ih=>exact ih.note ha.2.2.2.2.2.1
def CrK.tnd(h:CrK s s'):Tnd s'.k.tx:=by
 obtain⟨d,j,hd,hj1,hj2,hT,hv,hn,a,lk,h1,h2,h3,h6,h4,h5⟩:=h;exact h4.tnd (Tnd.of (dW h2).2.2.2.2.1)
def I2(m:Nat)(s:Sv):Prop:=I1 m s/\Tnd s.k.tx
def PN:ICr I2:=⟨fun n m s s' h hi=>⟨I1_cr.st n m s s' h hi.1,h.tnd hi.2⟩,fun m s h=>I1_cr.ok m s h.1,fun m s s' h hi=>⟨I1_cr.cr m s s' h hi.1,h.tnd⟩⟩
def PO(c:C)(most:Nat)(hm:most<=1000):VCalls prog 7 [.ptr 0 0,.int .i64 most,.bool true] [cb c] (CX fun r=>∃k:Kn,r=.agg k.d/\k.sm/\KI k/\KJ k/\k.pg<=4/\Tnd k.tx):=
 (NS I2 PN (fun n m v h1 h2 _ _ hb=>⟨NX n m v h1 h2 hb,JO⟩) c most hm).mono fun r h' ⟨B',e1,e2,e3,e4,⟨s,q1,q2,i,q3,⟨q4,q5,q6⟩,q7⟩,e5⟩=>⟨B',e1,e2,e3,e4,⟨s.k,q1,q2,q4.ki,q4.kj,q6,q7⟩,e5⟩
section
attribute [local go_sem] Ce.d Ch.d E.d Lg.c Rg.d QZ bK bD cL cM cN cP cQ
def Da(tx ptx ppg:Int)(b a:List UInt8):E:=⟨0,1,tx,ptx,ppg,0,⟨0,0,⟨!(b==[]),b⟩,⟨true,a⟩⟩,[]⟩
def Db(tx ptx ppg:Int)(b a:List UInt8)(hb:b.length<=1000):VCalls prog 14 [.int .i64 tx,.int .i64 ptx,.int .i64 ppg,.pv (.str b),.pv (.str a)] [] (Ret (.agg (Da tx ptx ppg b a).d)):=by
 refine dd Tryz.func14 ?_;refine rn F ?_;rfl
def jC(n:Nat):List E:=[⟨if 0<n then 1 else 0,1,1,0,0,0,⟨0,0,⟨false,[]⟩,⟨true,[97]⟩⟩,[]⟩,⟨if 1<n then 2 else 0,3,1,1,0,0,Ch0,[]⟩,⟨if 2<n then 3 else 0,1,2,0,1,0,⟨0,0,⟨true,[97]⟩,⟨true,[98]⟩⟩,[]⟩]
def Lg22:Lg:=⟨1,jC 3,0⟩
def Dc(tx:Int)(h:tx=3\/tx=2):iO Lg22 0 0 tx 3=((⟨true,if tx=3 then [97] else [98]⟩,if tx=3 then 1 else 3),0):=by
 rcases h with rfl|rfl<;>rfl
def PP:kS Lg22=true:=vj
def PQ(n:Nat)(h:n<3):(cells encE (jC n)).set (n*13) (.pv (.lit (.int .i64 (n+1))))=cells encE (jC (n+1)):=by
 rcases(show n=0\/n=1\/n=2 by omega) with rfl|rfl|rfl<;>rfl
def PR:VCalls prog 5 [] [] (Ret (.bool true)):=by
 refine dd Tryz.func5 ?_;have w1:=Db 1 0 0 [] [97] vj;have w2:=Db 2 0 1 [97] [98] vj;unfold Da at w1 w2;dsimp only[E.d] at w1 w2;refine rn F ?_
 repeat' (first|with_reducible exact⟨⟩|refine vp F (w1) ?_|refine vp F (w2) ?_)
 refine Qj (fun s:To 3=>⟨53,0,[(2,.int .i64 s.i),(1,.ptr 1 0)],[⟨58,true,cells encE (jC s.i)⟩,⟨26,true,[.int .i64 1,.own 0 13 0 3,.int .i64 0]⟩]⟩) (fun s=>3-s.i) ⟨0,Jq _⟩ (gc [0,1]) ?_;rintro⟨i,hi⟩;dsimp only;have hcl:(cells encE (jC i)).length=39:=rfl;have hle:(jC i).length=3:=rfl;by_cases hc:i<3
 ·have hc':(i:Int) < 3:=vz;have hset:=PQ i hc;have h1:i*13<39:=vz;have F:=(Ja @hc' (Ja @hcl (Ja @hle (Ja @h1 @hset))))
  refine rn F ?_;exact⟨⟨i+1,hc⟩,vu,(gc [0,1])⟩
 obtain rfl:i=3:=vz;have s1:=CT Lg22 vj 0 0 3 3;have s2:=CT Lg22 vj 0 0 2 3;have s3:=C8 Lg22 vj;rw[PP] at s3;rw[Dc 3 (.inl rfl)] at s1;rw[Dc 2 (.inr rfl)] at s2;have hd:Lg22.c=[.int .i64 1,.pv (.sl (fz encE (jC 3))),.int .i64 0]:=rfl;rw[hd] at s1 s2 s3;dsimp only[Ce.d] at s1 s2;generalize jC 3=es at *;have F:=(Ja @hcl @hle)
 refine rn F ?_
 repeat' (first|with_reducible exact⟨⟩|refine vl F (s1) ?_|refine vl F (s2) ?_|refine vl F (s3) ?_)
end
section
attribute [local go_sem] cb cc Lg.c Ce.d Ch.d E.d CH CJ
def br(es F:List E)(t:Int)(i:Nat):List Row:=(JZ 4).map fun p=>fun s=>cg es F t i (p:Nat) (s:Nat)
def Dd(es F:List E)(t:Int)(i:Nat):(br es F t i).length=4:=by simp[br]
def De(es F:List E)(t:Int)(i q:Nat)(h:q<(br es F t i).length):(br es F t i)[q]=fun s=>cg es F t i (q:Nat) (s:Nat):=by simp[br]
def Df(es F:List E)(t:Int)(i:Nat){p:Nat}(hp:p<4)(s:Nat):(br es F t i).getD p eA s=cg es F t i (p:Nat) (s:Nat):=by
 unfold br;grind
def PT(es F:List E)(t t' p s:Int):cg es F t 0 p s=cg es F t' 0 p s:=by
 unfold cg kK;rw[Js];rfl
def PU(es F:List E)(t t':Int):br es F t 0=br es F t' 0:=by
 unfold br;refine Jm fun p _=>funext fun s=>PT _ _ _ _ _ _
def PX(es F:List E)(c:E):br es F c.tx es.length=br es (F++[c]) 0 0:=by
 unfold br;refine Jm fun p _=>funext fun s=>NZ _ _ _ _ _ _
def vD(hi:i<es.length):es=es.take i++es.getD i E0::es.drop (i+1):=by
 rw[Qd _ _ hi,<-JB hi,Jt]
def vE{es F:List E}{i:Nat}(hi:i<es.length)(t p s:Int):cg es F t (i+1) p s=if onC p s (es.getD i E0)/\(es.getD i E0).tx=t then (es.getD i E0).c.a else cg es F t i p s:=by
 have h:=@N0 (es.take i) (es.drop (i+1)) F (es.getD i E0) t p s;rw[<-vD hi,Jj,JN vz] at h;exact h
def LwB.found_at(w:LwB es)(hi:i<es.length)(hF:ao es=F1++c::F2)(hk:(es.getD i E0).kind=1\/(es.getD i E0).kind=2)(ht:(es.getD i E0).tx=c.tx):cg es F1 c.tx i (es.getD i E0).c.pg (es.getD i E0).c.sl=(es.getD i E0).c.b:=by
 have e:=vD hi;have w':=w;rw[e] at w' hF;have h:=w'.found hF hk ht;grind
def PY{es F:List E}{t:Int}{i:Nat}(hi:i<es.length)(h:¬((es.getD i E0).tx=t/\((es.getD i E0).kind=1\/(es.getD i E0).kind=2))):br es F t (i+1)=br es F t i:=by
 unfold br;refine Jm fun p _=>funext fun s=>?_;rw[vE hi,if_neg (fun q=>h ⟨q.2,q.1.1⟩)]
def PZ{es F:List E}{t:Int}{i p s:Nat}(hi:i<es.length)(ht:(es.getD i E0).tx=t)(hk:(es.getD i E0).kind=1\/(es.getD i E0).kind=2)(hp:(es.getD i E0).c.pg=p)(hs:(es.getD i E0).c.sl=s) :
 br es F t (i+1)=(br es F t i).set p (Row.put ((br es F t i).getD p eA) s (es.getD i E0).c.a):=by
 have hl:=Dd es F t (i+1);refine JI (by simp[br]) fun q h1 h2=>?_;have h3:q<4:=vz;rw[JJ,De];by_cases hq:p=q
 ·subst hq;rw[if_pos rfl];funext j;unfold Row.put;rw[Df _ _ _ _ h3,vE hi];by_cases hj:s=j
  ·rw[if_pos hj,if_pos ⟨⟨hk,hp,vz⟩,ht⟩]
  ·rw[if_neg hj,if_neg (fun h=>hj (by have:=h.1.2.2;omega))]
 ·rw [if_neg hq];rw[De];funext j;rw[vE hi,if_neg (fun h=>hq (by have:=h.1.2.1;omega))]
def LwB.comR(w:LwB es):br es (ao es) 0 0=bo es (aS es es.length) 4 es.length:=by
 unfold br bo;exact Jm fun p _=>funext fun s=>w.comd 0 p s
def P0(hv:lgB x=true)(hf:x.f=1)(hk:k<=x.es.length):mz x 4 k=(bo x.es (aS x.es k) 4 k,0):=by
 unfold mz;have hw:cz x=true:=by unfold cz;rw[hv,hf];rfl
 have hu:ez x k=true:=by unfold ez;simp;omega
 grind
def Qt(hv:lgB x=true)(hf:x.f=1):oG x=((ao x.es).map (·.tx),0):=by
 unfold oG;have hw:cz x=true:=by unfold cz;rw[hv,hf];rfl
 rw[if_neg (by rw[hw];decide),Pk]
def Ra(r:Row)(s:Nat)(h:s<16):((encYr.enc r).drop (s*2)).take 2=[.lit (.bool (r s).set),.str (r s).data]:=by
 have:s=0\/s=1\/s=2\/s=3\/s=4\/s=5\/s=6\/s=7\/s=8\/s=9\/s=10\/s=11\/s=12\/s=13\/s=14\/s=15:=vz;rcases this with h|h|h|h|h|h|h|h|h|h|h|h|h|h|h|h<;>subst h<;>rfl
def Rb(l:List Row)(p s:Nat)(h:p<l.length)(hs:s<16):((cells encYr l).drop (p*32+s*2)).take 2=[.bool (l.getD p eA s).set,.pv (.str (l.getD p eA s).data)]:=by
 have h1:=uY encYr l p h;change ((cells encYr l).drop (p*32)).take 32=_ at h1
 have h2:(((cells encYr l).drop (p*32)).take 32).drop (s*2)=((cells encYr l).drop (p*32+s*2)).take (32-s*2):=by rw[List.drop_take,List.drop_drop]
 have h3:((cells encYr l).drop (p*32+s*2)).take 2=(((cells encYr l).drop (p*32+s*2)).take (32-s*2)).take 2:=by rw[List.take_take,JN vz]
 rw[h3,<-h2,h1,Qd l p h,<-List.map_drop,<-List.map_take,Ra _ s hs];rfl
structure SerW(x:Lg):Prop where
 w:LwB x.es
 v:lgB x=true
 f:x.f=1
 str:kS x=true
 pg:∀e∈x.es,(e.kind=1\/e.kind=2)->e.c.pg<4
def Rc(hk:KI k)(hj:KJ k)(hp:k.pg<=4):SerW k.lg:=⟨C9 hk hj,hk.lg,hk.f,PM hk hj,fun e he h=>Int.lt_of_lt_of_le (hj.pgs e he h) hp⟩
def Rf(l:List UInt8)(hl:l.length<=9223372036854775807):VCalls prog 3 [.pv (.sl (fz a9 l))] [] (Ret (.bool true)):=by
 refine dd Tryz.func3 ?_;have c0:=PR;refine rn F ?_
 repeat' (first|with_reducible exact⟨⟩|refine vp F (c0) ?_)
 refine GH (most:=600) vz vz hl fun c=>?_;refine rn trivial ?_;refine aT (k:=0) (c:=c) (PO c 50 vz) rfl rfl ?_;rintro _ c1 ⟨k,rfl,hk,hK,hJ,hp4,-⟩;have hxl:k.lg.es.length<=4096:=hk.1;have hW:=Rc hK hJ hp4;clear hK hJ hp4;generalize hkx:k.lg=x at *;have q1:=Pi x vz;have q2:=Pe x vz 4 x.es.length;have q3:=C8 x vz;rw[Qt hW.v hW.f] at q1;rw[P0 hW.v hW.f (Jk _)] at q2;rw[hW.str] at q3;have hrl:=oF x.es (aS x.es x.es.length) 4 x.es.length;have hom:((ao x.es).map (·.tx)).length=(ao x.es).length:=List.length_map _;have hol:(ao x.es).length<=4096:=Nat.le_trans (List.length_filter_le _ _) hxl
 have hog:∀u,u<(ao x.es).length->(fz Q7 ((ao x.es).map (·.tx)))[u]?=some [.lit (.int .i64 ((ao x.es).getD u E0).tx)]:=fun u hu=>by
  rw[bL _ _ (by rw[hom];exact hu)];simp[Jb,JE,Jh hu]
 generalize hO:(ao x.es).map (·.tx)=O at *;have F:=(Ja @hkx (Ja @hrl @hom))
 refine rn F ?_
 repeat' (first|with_reducible exact⟨⟩|refine vp F (q1) ?_|refine vp F (q2) ?_|refine vp F (q3) ?_)
 have hcR:=hW.w.comR;generalize hB:bo x.es (aS x.es x.es.length) 4 x.es.length=B at *;refine Qj (fun s:To (ao x.es).length=>⟨114,0,[(51,.int .i64 s.i),(50,.int .i64 (ao x.es).length),(49,.pv (.sl (fz Q7 O))),(8,.ptr 1 0),(6,.pv (.sl (fz encYr B))),(3,.ptr 0 0)],[⟨26,true,x.c⟩,⟨54,true,cells encYr (br x.es ((ao x.es).take s.i) 0 0)⟩]⟩) (fun s=>(ao x.es).length-s.i) ⟨0,Jq _⟩ (gc [1,2]) ?_;rintro⟨u,hu⟩;dsimp only;by_cases huc:u<(ao x.es).length;rotate_left
 ·have huc':¬(u:Int) < (ao x.es).length:=vz;have F:=@huc';refine rn F ?_;obtain rfl:u=(ao x.es).length:=vz;rw[Jv,hcR];have hBl:B.length=4:=hrl;refine Qj (fun s:To 4=>⟨114,0,[(13,.int .i64 s.i),(8,.ptr 0 0),(6,.pv (.sl (fz encYr B)))],[⟨54,true,cells encYr B⟩]⟩) (fun s=>4-s.i) ⟨0,Jq _⟩ (gc [1]) ?_;rintro⟨p,hp⟩;dsimp only;by_cases hpc:p<4;rotate_left
  ·have hpc':¬(p:Int) < 4:=vz;have F:=@hpc';(refine rn F ?_;try with_reducible exact⟨⟩)
  have hpc':(p:Int)<4:=vz;have hgB:(fz encYr B)[p]?=some (encYr.enc (B.getD p eA)):=iy encYr B eA p vz;have hcB:((cells encYr B).drop (p*32)).take 32=(encYr.enc (B.getD p eA)).map DV.pv:=by rw[Qd B p vz];exact uY encYr B p vz
  have h96:(p*32+32<=B.length*32)=True:=eq_true vz;have hpB:(p:Int)<B.length:=vz;have hlB:(encYr.enc (B.getD p eA)).length=32:=encYr.hlen _;generalize B.getD p eA=r at *;have F:=(Ja @hpc' (Ja @hgB (Ja @hcB (Ja @hpB (Ja @hlB @h96)))))
  refine rn F ?_
  repeat' (first|with_reducible exact⟨⟩|(refine sB F ?_ ?_<;>intro hZ)|(refine Qf (id:=24) [0,1,2,3,4,5,6,7] [] vw vw ?_;refine rn F ?_))
  ·rename_i hZ;simp at hZ
  ·exact⟨⟨p+1,vz⟩,vu,(gc [0])⟩
 have huc':(u:Int)<(ao x.es).length:=vz;have hgu:=hog u huc;have F:=(Ja @huc' (Ja @hgu @hom))
 refine rn F ?_;have hF:ao x.es=(ao x.es).take u++(ao x.es).getD u E0::(ao x.es).drop (u+1):=vD huc;have hnx:=PX x.es ((ao x.es).take u) ((ao x.es).getD u E0);have htk:(ao x.es).take u++[(ao x.es).getD u E0]=(ao x.es).take (u+1):=(mA _ huc).symm;rw[htk] at hnx;rw[PU x.es ((ao x.es).take u) 0 ((ao x.es).getD u E0).tx];refine Qj (fun s:To x.es.length=>⟨114,0,[(58,.int .i64 s.i),(57,.int .i64 x.es.length),(56,.pv (.sl (fz encE x.es))),(10,.int .i64 ((ao x.es).getD u E0).tx),(51,.int .i64 u),(50,.int .i64 (ao x.es).length),(49,.pv (.sl (fz Q7 O))),(8,.ptr 1 0),(6,.pv (.sl (fz encYr B))),(3,.ptr 0 0)],[⟨26,true,x.c⟩,⟨54,true,cells encYr (br x.es ((ao x.es).take u) ((ao x.es).getD u E0).tx s.i)⟩]⟩) (fun s=>x.es.length-s.i) ⟨0,Jq _⟩ (gc [0,1]) ?_;rintro⟨i,hi⟩;dsimp only;by_cases hic:i<x.es.length;rotate_left
 ·have hic':¬(i:Int) < x.es.length:=vz;obtain rfl:i=x.es.length:=vz;rw[hnx];have F:=@hic';refine rn F ?_;exact⟨⟨u+1,huc⟩,vu,(gc [0,1])⟩
 have hic':(i:Int)<x.es.length:=vz;have hgi:=jf x.es i hic;have hmem:x.es.getD i E0∈x.es:=vo hic;have hmis:=@PY x.es ((ao x.es).take u) ((ao x.es).getD u E0).tx i hic;have hhit:=fun p s=>@PZ x.es ((ao x.es).take u) ((ao x.es).getD u E0).tx i p s hic;have hfnd:=hW.w.found_at hic hF;have hchk:=CN hW.v hic;have hpg:=hW.pg _ hmem;have hRl:=Dd x.es ((ao x.es).take u) ((ao x.es).getD u E0).tx i;have hRa:=fun p hp s=>@Df x.es ((ao x.es).take u) ((ao x.es).getD u E0).tx i p hp s;generalize x.es.getD i E0=e at *;generalize ((ao x.es).getD u E0).tx=t at *;generalize hR:br x.es ((ao x.es).take u) t i=R at *;by_cases hq:e.tx=t/\(e.kind=1\/e.kind=2);rotate_left
 ·have hm:=hmis hq;by_cases ht:e.tx=t
  ·have hk1:¬e.kind = 1:=fun h=>hq ⟨ht,.inl h⟩;have hk2:¬e.kind=2:=fun h=>hq ⟨ht,.inr h⟩;have F:=(Ja @hic' (Ja @hgi (Ja @ht (Ja @hk1 @hk2))))
   (refine rn F ?_;try with_reducible exact⟨⟩)
   all_goals exact⟨⟨i+1,hic⟩,vu,by dsimp only;rw[hm];exact(gc [0,1])⟩
  ·have hic2:=hic';have F:=(Ja @hic' (Ja @hgi @ht))
   (refine rn F ?_;try with_reducible exact⟨⟩)
   all_goals exact⟨⟨i+1,hic⟩,vu,by dsimp only;rw[hm];exact(gc [0,1])⟩
 obtain⟨ht,hk⟩:=hq;have hce:ar e=true:=by unfold ar;simpa using hk
 obtain⟨⟨p0,-⟩,⟨s0,s16⟩,-⟩:=hchk hce;have hp4:=hpg hk;obtain⟨p,hp⟩:∃p:Nat,e.c.pg=p:=⟨e.c.pg.toNat,vz⟩
 obtain⟨s,hs⟩:∃s:Nat,e.c.sl=s:=⟨e.c.sl.toNat,vz⟩
 have hp4':p<4:=vz;have hs16:s<16:=vz;have hRs:=hRa p hp4' s;have hf2:=hfnd hk ht;rw[hp,hs,<-hRs] at hf2;have hld:=Rb R p s vz hs16;rw[hf2] at hld;have hset:=CO R p s vz hs16 e.c.a;have hcl:(cells encYr R).length=128:=by rw[QK,hRl];rfl
 have hb2:p*32+s*2+2<=128:=vz;rw[<-vm _ _ _ _ (by rw[hcl];exact hb2)] at hset;have hu2:=hhit p s ht hk hp hs;rcases hk with hk|hk
 all_goals
  have F:=(Ja @hic' (Ja @hgi (Ja @ht (Ja @hk (Ja @hp (Ja @hs (Ja @hcl (Ja @hb2 (Ja @hld (Ja @hset @zI))))))))))
  refine rn F ?_
  repeat' (first|with_reducible exact⟨⟩|(refine Qf (id:=16) [0,1,2,3,4,5,6,7,8,9,10,11,12] [] vw vw ?_;refine rn F ?_)|(refine Qf (id:=18) [0,1,2,3,4,5,6,7,8,9,10] [⟨[],[],11,[9],[]⟩] vw vw ?_;refine rn F ?_))
 all_goals exact⟨⟨i+1,hic⟩,vu,by dsimp only;rw[hu2];exact(gc [0,1])⟩
end
end Go.Proofs.YtalibkpienbliaaGreat
