/-
  Contracts of functions and plain laws. No condition.
-/
import Derived.Test.YtalibkpienbliaaGreatP2
import Derived.Test.YtalibkpienbliaaGreatP1
import Derived.Test.YtalibkpienbliaaGreatV3
set_option linter.unusedSimpArgs false
set_option linter.unusedVariables false
set_option linter.defProp false
set_option maxRecDepth 100000
set_option maxHeartbeats 8000000
set_option autoImplicit true
set_option relaxedAutoImplicit true
open And renaming intro->Jb
open Bool renaming and_eq_true->Jd,or_eq_true->JX,toNat_le->Ke,toNat_false->Ki,and_true->Kr
open Int renaming toNat_natCast->Jm,le_refl->Jw,lt_of_lt_of_le->J0,natCast_pow->Kl,le_trans->Kt
open List renaming getD_eq_getElem?_getD->Ja,mem_singleton->Jc,length_append->Je,mem_append->Jf,mem_iff_getElem->Jg,getElem_mem->Ji,mem_append_left->Jj,take_succ_eq_append_getElem->Jk,take_of_length_le->Jl,pairwise_iff_getElem->Jp,mem_filter->Jq,getElem_map->Jr,length_singleton->Js,length_take->Jt,all_eq_true->Ju,length_set->Jv,getElem?_set_ne->Jx,getElem?_set_self->Jy,mem_cons_of_mem->Jz,mem_range->JA,foldl_append->JB,getElem?_eq_getElem->JG,getElem_set_self->JH,getElem?_eq_none->JI,mem_append_right->JJ,length_filter_le->JK,mem_cons->JL,append_assoc->JM,getElem?_eq_some_iff->JN,length_drop->JO,length_cons->JP,getElem_set_ne->JQ,pairwise_cons->JR,length_nil->JS,take_append_of_le_length->JT,mem_of_mem_take->JU,mem_of_mem_drop->JV,filter_sublist->JW,append_nil->JY,getElem?_append_right->JZ,filter_append->J1,getElem?_append_left->J2,replicate->J3,getElem?_take_of_lt->J4,getElem?_map->J5,take_append_drop->J7,pairwise_append->J8,take_left->J9,take_zero->Ka,getElem_of_mem->Kb,flatMap_append->Kc,map_cons->Kf,range->Kg,mem_map->Kh,nil_append->Km,idxOf_cons->Ko,take_take->Kp,drop_left->Kq,take_nil->Ks
open Nat renaming zero_le->Jh,le_succ_of_le->Jn,le_trans->Jo,le_refl->JC,pow_le_pow_right->JD,mul_le_mul_right->JE,lt_trichotomy->JF,mul_le_mul_left->Kd,succ_le_succ->Kj,min_eq_left->Kk,lt_or_ge->Ku,sub_self->Kv,le_succ->Kw
open Option renaming getD_some->J6
namespace Go.Proofs.YtalibkpienbliaaGreat
open Go.V Go
open Tryz (prog)
def ct(es:List E)(a:Int):Prop:=∃e∈es,e.tx=a/\(e.kind=3\/e.kind=5)
def abE(es:List E)(a:Int):Prop:=∃e∈es,e.tx=a/\e.kind=4
def bS(es:List E)(a:Int):Int:=es.foldl (fun n e=>if e.tx=a then e.lsn else n) 0
def aV(es:List E)(p:Int):Int:=es.foldl (fun n e=>if (e.kind=1\/e.kind=2)/\e.c.pg=p then e.lsn else n) 0
def aQ(es:List E)(a:Int):List Int:=es.foldl (fun l e=>if e.tx=a then (if e.kind=1 then l++[e.lsn] else if e.kind=2 then l.filter (fun x=>decide (x≠e.ref)) else l) else l) []
def jk(es:List E)(e:E)(a:Int):bS (es++[e]) a=if e.tx=a then e.lsn else bS es a:=by unfold bS;rw[JB];rfl
def gO(es:List E)(e:E)(p:Int):aV (es++[e]) p=if (e.kind=1\/e.kind=2)/\e.c.pg=p then e.lsn else aV es p:=by unfold aV;rw[JB];rfl
def gP(es:List E)(e:E)(a:Int):aQ (es++[e]) a=if e.tx=a then (if e.kind=1 then aQ es a++[e.lsn] else if e.kind=2 then (aQ es a).filter (fun x=>decide (x≠e.ref)) else aQ es a) else aQ es a:=by unfold aQ;rw[JB];rfl
def iF(es:List E)(e:E)(a:Int):ct (es++[e]) a ↔ ct es a\/(e.tx=a/\(e.kind=3\/e.kind=5)):=by
 unfold ct;grind
def Am(es:List E)(e:E)(a:Int):abE (es++[e]) a ↔ abE es a\/(e.tx=a/\e.kind=4):=by
 unfold abE;grind
def gQ {α:Type} {P:List α->Prop} (h0:P []) (hs:∀l a,P l->P (l ++ [a])):∀l,P l:=fun l=>by
 have:∀n,∀l:List α,l.length = n->P l:=fun n=>by
  induction n with
  |zero=>intro l h;rw[List.eq_nil_of_length_eq_zero h];exact h0
  |succ n ih =>
    intro l h;have hne:l≠[]:=fun q=>by rw[q] at h;simp at h
    rw[<-List.dropLast_concat_getLast hne];exact hs _ _ (ih _ (by rw[List.length_dropLast];omega))
 exact this _ l rfl
def Lj(es:List E)(h0:0<=n)(p:Int)(h:∀x∈es,x.lsn<n):aV es p<=n:=by
 revert h
 refine gQ (P:=fun es=>(∀x∈es,x.lsn<n)->aV es p<=n) (fun _=>h0) (fun l a ih h=>?_) es;rw[gO];grind
def Ao(es:List E)(h0:0<n)(p:Int)(h:∀x∈es,x.lsn<n):aV es p<n:=by
 revert h
 refine gQ (P:=fun es=>(∀x∈es,x.lsn<n)->aV es p<n) (fun _=>h0) (fun l a ih h=>?_) es;rw[gO];grind
def uz(es:List E)(hl:∀x∈es,1<=x.lsn)(h:∃x∈es,x.tx=a):1<=bS es a:=by
 revert hl h
 refine gQ (P:=fun es=>(∀x∈es,1<=x.lsn)->(∃x∈es,x.tx=a)->1<=bS es a) (fun _ h=>by obtain⟨x,hx,_⟩:=h;simp at hx) (fun l e ih h hx=>?_) es;rw[jk];grind
def Ll(es:List E)(h:∀x∈es,x.tx≠a):bS es a=0:=by
 revert h
 refine gQ (P:=fun es=>(∀x∈es,x.tx≠a)->bS es a=0) (fun _=>rfl) (fun l e ih h=>?_) es;rw[jk,if_neg (h e vv)];grind
def Lm(es:List E)(h:∀x∈es,x.tx≠a):aQ es a=[]:=by
 revert h
 refine gQ (P:=fun es=>(∀x∈es,x.tx≠a)->aQ es a=[]) (fun _=>rfl) (fun l e ih h=>?_) es;rw[gP,if_neg (h e vv)];grind
structure TxOk(es:List E)(t:Tx):Prop where
 n:t.n=bS es t.id
 l:t.l=aQ es t.id
 ne:¬ct es t.id
 ab:t.st=3 ↔ abE es t.id
def TxOk.other(h:TxOk es t)(hne:e.tx≠t.id):TxOk (es++[e]) t:=
 ⟨by rw [jk,if_neg hne]; exact h.n,by rw [gP,if_neg hne]; exact h.l,by
  rw[iF];rintro(q|q)
  ·exact h.ne q
  ·exact hne q.1,by
  rw[Am,h.ab]
  exact⟨.inl,fun q=>q.elim id fun q=>absurd q.1 hne⟩⟩
def TxOk.fresh(h:∀x∈es,x.tx≠a):TxOk es ⟨a,1,0,0,[],[]⟩:=
 ⟨(Ll es h).symm,(Lm es h).symm,fun⟨x,hx,q,_⟩=>h x hx q,⟨fun q=>by simp at q,fun⟨x,hx,q,_⟩=>absurd q (h x hx)⟩⟩
def Ln(t:Tx):(QD t).n=t.n:=by unfold QD;split<;>rfl
def Ap(t:Tx):(QD t).l=t.l:=by unfold QD;split<;>rfl
def Aq(t:Tx):(QD t).st=3 ↔ t.st=3:=by
 unfold QD;split
 ·rename_i h;simp;omega
 ·exact Iff.rfl
def Ar(h:al l=true)(ht:t∈l)(hu:u∈l)(he:t.id=u.id):t=u:=by
 have hs:=tw h;obtain⟨i,hi,rfl⟩:=Jg.1 ht;obtain⟨j,hj,rfl⟩:=Jg.1 hu;rw[Jp] at hs;grind
def As(h:al l=true)(ht:t∈l):1<=t.id:=by
 obtain⟨i,hi,rfl⟩:=Jg.1 ht;have:=eK h hi;simp only[Tx.okB,Tx.hdB,Jd,decide_eq_true_eq] at this;omega
def Lo(h:al l=true)(hi:i<l.length):idT l l[i].id=i:=by
 rcases QB l l[i].id with hn|⟨j,hj,h1,h2⟩
 ·have:=(lP (l:=l) (a:=l[i].id)).2 (Kh.2 ⟨l[i],Ji hi,rfl⟩);omega
 ·rw [h1];have hs:=tw h;rw[Jp] at hs;rcases JF i j with h3|h3|h3
  ·have:=hs i j (by simpa using hi) (by simpa using hj) h3;rw[Jr,Jr] at this;omega
  ·omega
  ·have:=hs j i (by simpa using hj) (by simpa using hi) h3;rw[Jr,Jr] at this;omega
def mem_remS:t∈bF l a ↔ t∈l/\t.id≠a:=by
 unfold bF cI;rw[Jq];simp
def qN{l:List Tx}{i:Nat}{t u:Tx}(h:t∈l.set i u):(∃j,∃hj:j<l.length,j≠i/\l[j]=t)\/(t=u/\i<l.length):=by
 obtain⟨j,hj,rfl⟩:=Jg.1 h;grind
def Au{l:List Tx}(hi:i<l.length):u∈l.set i u:=by
 rw[Jg];exact⟨i,by rw[Jv];exact hi,by rw[JH]⟩
def Av{l:List Tx}{i j:Nat}{u:Tx}(hj:j<l.length)(hij:i≠j):l[j]∈l.set i u:=by
 rw[Jg];exact⟨j,by rw[Jv];exact hj,by rw[JQ hij]⟩
def Lp (hok:∀t ∈ l,TxOk es t) (hall:∀x ∈ es,0 < x.tx->(∃t ∈ l,t.id = x.tx)\/ct es x.tx) (h:(QA l e).2 = 0):
 (∀t∈(QA l e).1,TxOk (es++[e]) t)/\∀x∈es++[e],0<x.tx->(∃t∈(QA l e).1,t.id=x.tx)\/ct (es++[e]) x.tx:=by
 obtain⟨h1,h2⟩:=nT h;have hend:∀a,ct es a->ct (es++[e]) a:=fun a q=>(iF es e a).2 (.inl q);by_cases ht:e.tx=0
 ·have:(QA l e).1 = l:=qE h ht;rw[this];refine⟨fun t q=>(hok t q).other (by have:=As h1 q;omega),fun x hx h0=>?_⟩;rcases Jf.1 hx with hx|hx
  ·exact(hall x hx h0).imp id (hend _)
  ·rw[Jc.1 hx] at h0;omega
 obtain⟨i,hi,hid,he,hp,hr,hc⟩:=nU h ht;have hne:∀t∈l,t≠l[i]->e.tx≠t.id:=fun t q q2 q3=>q2 (Ar h1 q (Ji hi) (by rw[he];exact q3.symm));have ho:=hok l[i] (Ji hi);rcases hc with⟨hk,hc⟩|⟨hk,hc⟩
 ·rw [hc];refine⟨fun t q=>?_,fun x hx h0=>?_⟩
  ·obtain ⟨q1,q2⟩:=mem_remS.1 q;exact(hok t q1).other fun q3=>q2 q3.symm
  ·by_cases hxe:x.tx = e.tx
   ·right;rw[hxe];exact(iF _ _ _).2 (.inr ⟨rfl,hk⟩)
   ·rcases Jf.1 hx with hx|hx
    ·rcases hall x hx h0 with ⟨t,q1,q2⟩|q
     ·exact .inl ⟨t,mem_remS.2 ⟨q1,vz⟩,q2⟩
     ·exact .inr (hend _ q)
    ·rw[Jc.1 hx] at hxe;exact absurd rfl hxe
 ·rw [hc]
  have hnid:(aX l[i] e).id = l[i].id:=by       unfold aX; repeat' split
                                               all_goals rfl
  have htn:(QD (aX l[i] e)).id=e.tx:=by rw[qD,hnid,he]
  refine⟨fun t q=>?_,fun x hx h0=>?_⟩
  ·rcases qN q with ⟨j,hj,hji,rfl⟩|⟨rfl,_⟩
   ·refine (hok _ (Ji hj)).other fun q=>hji ?_;have e1:=Lo h1 hj;rw[<-q,hid] at e1;omega
   ·refine ⟨?_,?_,?_,?_⟩
    ·rw [htn,Ln,jk,if_pos rfl];unfold aX;repeat' split
     all_goals rfl
    ·rw [htn,Ap,gP,if_pos rfl,<-he,<-ho.l];unfold aX;repeat' split
     all_goals first|rfl|(exfalso;omega)
    ·rw [htn,iF];rintro(q|q)
     ·exact ho.ne (by rw[he];exact q)
     ·omega
    ·rw [htn,Aq,Am];have hab:=ho.ab;rw[he] at hab;unfold aX;split
     ·dsimp only;rw[hab];exact⟨.inl,fun q=>q.elim id fun q=>by omega⟩
     split
     ·dsimp only;rw[hab];exact⟨.inl,fun q=>q.elim id fun q=>by omega⟩
     ·dsimp only;exact⟨fun _=>.inr ⟨rfl,vz⟩,fun _=>rfl⟩
  ·by_cases hxe:x.tx = e.tx
   ·exact .inl ⟨_,Au hi,by rw[htn,hxe]⟩
   ·rcases Jf.1 hx with hx|hx
    ·rcases hall x hx h0 with ⟨t,q1,q2⟩|q
     ·obtain ⟨j,hj,rfl⟩:=Jg.1 q1;by_cases hij:i=j
      ·subst hij;rw[he] at q2;exact absurd q2.symm hxe
      ·exact .inl ⟨_,Av hj hij,q2⟩
     ·exact .inr (hend _ q)
    ·rw[Jc.1 hx] at hxe;exact absurd rfl hxe
structure Cor(es:List E)(pg nx:Int)(tx:List Tx)(ix:List Rw)(L:Int->Int->Prop):Prop where
 pgr:1<=pg/\pg<=64
 ids:∀e∈es,e.tx<nx
 ok:∀t∈tx,TxOk es t
 all:∀x∈es,0<x.tx->(∃t∈tx,t.id=x.tx)\/ct es x.tx
 len:(ix.length:Int)=pg
 row:∀p:Nat,(p:Int)<pg->(ix.getD p Rw0).lsn<=aV es p/\((∀n,¬L p n)->(ix.getD p Rw0).lsn=aV es p)
 la:∀p n,L p n->n=aV es p
 lt:∀(p:Nat) n,L p n->(ix.getD p Rw0).lsn<n
 w7:∀e∈es,e.kind=7->e.ref<=(ix.getD e.c.pg.toNat Rw0).lsn
def Cor.weak(h:Cor es pg nx tx ix L)(hn:nx<=nx')(h1:∀p n,L' p n->L p n)(h2:∀p,(∀n,¬L' p n)->∀n,¬L p n):Cor es pg nx' tx ix L':=
 ⟨h.pgr,fun e he=>J0 (h.ids e he) hn,h.ok,h.all,h.len,fun p hp=>⟨(h.row p hp).1,fun q=>(h.row p hp).2 (h2 p q)⟩,fun p n q=>h.la p n (h1 p n q),fun p n q=>h.lt p n (h1 p n q),h.w7⟩
def ku(h:(aZ ix e).2=0):(e.kind≠7/\(aZ ix e).1=ix)\/(e.kind=7/\e.okB=true/\e.c.pg<ix.length/\(aZ ix e).1=ix.set e.c.pg.toNat ⟨if e.ref > (ix.getD e.c.pg.toNat Rw0).lsn then e.ref else (ix.getD e.c.pg.toNat Rw0).lsn,(ix.getD e.c.pg.toNat Rw0).im,(ix.getD e.c.pg.toNat Rw0).at_⟩):=by
 unfold aZ at h |-;grind
def Cor.add(hc:Cor es pg nx tx ix L)(he7:e.kind=7->e.ref=aV es e.c.pg)(hlt:∀x∈es,x.lsn<e.lsn)(h0:1<=e.lsn)(ht:(QA tx e).2=0)(hr:(aZ ix e).2=0)(hn:nx<=nx')(hen:e.tx<nx')(h1:∀p n,L' p n->((e.kind=1\/e.kind=2)/\p=e.c.pg/\n=e.lsn)\/(L p n/\((e.kind=1\/e.kind=2)->p≠e.c.pg)))(h2:∀p,(∀n,¬L' p n)->((∀n,¬L p n)\/(e.kind=7/\p=e.c.pg))/\((e.kind=1\/e.kind=2)->p≠e.c.pg))(h3:e.kind=7->∀n,¬L' e.c.pg n):
 Cor (es++[e]) pg nx' (QA tx e).1 (aZ ix e).1 L':=by
 obtain⟨t1,t2⟩:=Lp hc.ok hc.all ht
 have hmon:∀p:Nat,(ix.getD p Rw0).lsn<=((aZ ix e).1.getD p Rw0).lsn:=fun p=>by
  rcases ku hr with⟨_,q⟩|⟨_,_,ql,q⟩
  ·rw[q];exact Jw _
  ·rw [q];by_cases hpe:e.c.pg.toNat=p
   ·subst hpe;by_cases hpl:e.c.pg.toNat<ix.length
    ·rw [Ja (l:=ix.set _ _),Jy hpl];dsimp only[J6];split<;>omega
    ·rw[List.set_eq_of_length_le vz];exact Jw _
   ·rw [Ja (l:=ix.set _ _),Jx hpe,<-Ja];exact Jw _
 refine⟨hc.pgr,fun x hx=>?_,t1,t2,?_,fun p hp=>?_,fun p n q=>?_,fun p n q=>?_,fun x hx h7=>?_⟩
 ·rcases Jf.1 hx with hx|hx
  ·exact J0 (hc.ids x hx) hn
  ·rw[Jc.1 hx];exact hen
 ·rcases ku hr with ⟨_,q⟩|⟨_,_,_,q⟩<;>rw [q]
  ·exact hc.len
  ·rw[Jv];exact hc.len
 ·obtain ⟨r1,r2⟩:=hc.row p hp;rw[gO];rcases ku hr with⟨q7,q⟩|⟨q7,qo,ql,q⟩
  ·rw [q];split
   ·rename_i hx;refine⟨Kt r1 (Lj es vz p hlt),fun hq=>?_⟩;exact absurd hx.2.symm ((h2 p hq).2 hx.1)
   ·refine ⟨r1,fun hq=>r2 ?_⟩;rcases(h2 p hq).1 with h|h
    ·exact h
    ·exact absurd h.1 q7
  ·rw [if_neg vz,q];have hpg:=nR qo (.inr (.inr q7));have hlen:=hc.len;by_cases hpe:e.c.pg=p
   ·have e1:e.c.pg.toNat = p:=vz;rw[e1,Ja,Jy vz];dsimp only[J6];have e2:=he7 q7;rw[hpe] at e2;rw[e2];split
    ·exact⟨Jw _,fun _=>rfl⟩
    ·exact⟨r1,fun _=>by omega⟩
   ·have e1:e.c.pg.toNat ≠ p:=vz;rw[Ja,Jx e1,<-Ja];refine⟨r1,fun hq=>r2 ?_⟩;rcases(h2 p hq).1 with h|h
    ·exact h
    ·exact absurd h.2.symm hpe
 ·rw [gO];rcases h1 p n q with⟨q1,q2,q3⟩|⟨q1,q2⟩
  ·rw[if_pos ⟨q1,q2.symm⟩,q3]
  ·rw[if_neg (fun h=>q2 h.1 h.2.symm)];exact hc.la p n q1
 ·rcases h1 p n q with ⟨q1,q2,q3⟩|⟨q1,q2⟩
  ·have e1:(aZ ix e).1 = ix:=by
    rcases ku hr with⟨_,g⟩|⟨g,_⟩
    ·exact g
    ·omega
   rw[e1];by_cases hp:(p:Int)<pg
   ·have:=(hc.row p hp).1;have:=Ao es (n:=e.lsn) vz p hlt;omega
   ·rw [Ja,JI (by have:=hc.len;omega)];show(0:Int)<n
    omega
  ·rcases ku hr with ⟨_,g⟩|⟨g7,_,_,g⟩
   ·rw[g];exact hc.lt p n q1
   ·have hne:e.c.pg.toNat ≠ p:=fun h=>by
     have hpg:=nR (nT ht).2 (.inr (.inr g7));have:(p:Int)=e.c.pg:=vz;rw[this] at q;exact h3 g7 n q
    rw[g,Ja,Jx hne,<-Ja];exact hc.lt p n q1
 ·rcases Jf.1 hx with hx|hx
  ·exact Kt (hc.w7 x hx h7) (hmon _)
  ·rw [Jc.1 hx] at h7 |-;rcases ku hr with⟨g,_⟩|⟨_,qo,ql,g⟩
   ·exact absurd h7 g
   ·have hpg:=nR qo (.inr (.inr h7));rw[g,Ja,Jy vz];dsimp only[J6];split<;>omega
def LD(dl:List Dt)(p n:Int):Prop:=∃d∈dl,d.pg=p/\d.last=n
structure EnOk(h:List E)(e:E):Prop where
 ptx:0<e.tx->e.ptx=bS h e.tx
 ne:0<e.tx->¬ct h e.tx
 ab:0<e.tx->abE h e.tx->e.kind=2\/e.kind=5
 en:e.kind=5->abE h e.tx/\aQ h e.tx=[]
 ppg:(e.kind=1\/e.kind=2)->e.ppg=aV h e.c.pg
 un:e.kind=2->e.ref∈aQ h e.tx/\∃x∈h,x.lsn=e.ref/\x.kind=1/\x.tx=e.tx/\e.c=⟨x.c.pg,x.c.sl,x.c.a,x.c.b⟩/\∀y∈h,y.lsn∈aQ h e.tx->e.ref<y.lsn->¬(y.c.pg=e.c.pg/\y.c.sl=e.c.sl)
 ix:e.kind=7->e.ref=aV h e.c.pg
 ck:e.kind=6->e.blob=[]\/∃c,CkV c/\e.blob=aP c/\Cor h c.pg c.nx c.tx c.ix (LD c.dl)
 x7:e.kind=7->1<=e.ref/\∀x∈h,x.kind=7->¬(x.c.pg=e.c.pg/\x.ref=e.ref)
def LogOk(es:List E):Prop:=∀i,i<es.length->EnOk (es.take i) (es.getD i E0)
def LogOk.nil:LogOk []:=fun i h=>by simp at h
def LogOk.snoc(h:LogOk es)(he:EnOk es e):LogOk (es++[e]):=fun i hi=>by
 rw[Je,Js] at hi;rcases Ku i es.length with hl|hl
 ·rw [JT vz,Ja,J2 hl,<-Ja];exact h i hl
 ·obtain rfl:i = es.length:=vz;rw[J9,Ja,JZ (JC _),Kv];exact he
def LogOk.take(h:LogOk es)(j:Nat):LogOk (es.take j):=fun i hi=>by
 rw[Jt] at hi;have:=h i vz;rw[Kp,Kk vz,Ja,J4 vz,<-Ja];exact this
def LkK(k:Kn)(p n:Int):Prop:=(∃d∈k.la,d.pg=p/\d.last=n)\/∃f∈k.pl.fs,f.dirty=true/\f.pg.id=p/\f.pg.lsn=n
structure KI(k:Kn):Prop where
 lg:lgB k.lg=true
 f:k.lg.f=1
 log:LogOk k.lg.es
 cor:Cor k.lg.es k.pg k.nx k.tx k.ix (LkK k)
 fr:∀f∈k.pl.fs,f.pg.lsn=aV k.lg.es f.pg.id
def Q8(h:lgB x=true)(hi:i<x.es.length):(x.es.getD i E0).lsn=x.f+i/\(x.es.getD i E0).okB=true:=by
 unfold lgB at h;rw[Jd,Ju] at h;have:=h.2 i (JA.2 hi);unfold lgC at this;grind
def jl(h:lgB x=true)(hf:x.f=1)(he:e∈x.es):1<=e.lsn/\e.lsn<=x.end_/\e.okB=true:=by
 obtain⟨i,hi,rfl⟩:=Jg.1 he;have:=Q8 h hi;rw[Qd _ _ hi] at this;unfold Lg.end_;grind
def Lq(h:lgB x=true)(ha:a∈x.es)(hb:b∈x.es)(he:a.lsn=b.lsn):a=b:=by
 obtain⟨i,hi,rfl⟩:=Jg.1 ha;obtain⟨j,hj,rfl⟩:=Jg.1 hb;have h1:=(Q8 h hi).1;have h2:=(Q8 h hj).1;grind
def Lr(h:(ah x n).2=0):(ah x n).1∈x.es/\(ah x n).1.lsn=n:=by
 obtain⟨h1,h2,h3,h4,_⟩:=qI h;refine⟨?_,h4⟩;unfold ah;rw[if_neg (by rw[h1];decide),if_neg vz];dsimp only;unfold Lg.end_ at h3;grind
def Ls(h:lgB x=true)(he:e∈x.es):ah x e.lsn=(e,0):=by
 obtain⟨i,hi,rfl⟩:=Jg.1 he;have h1:=(Q8 h hi).1;rw[Qd _ _ hi] at h1;unfold ah;rw[if_neg (by rw[h];decide),if_neg (by unfold Lg.end_;omega),h1,show(x.f+i-x.f).toNat=i by omega,Qd _ _ hi]
def Lt(es:List E)(a n:Int)(h:n∈aQ es a):∃x∈es,x.lsn=n/\x.kind=1/\x.tx=a:=by
 revert h
 refine gQ (P:=fun es=>n∈aQ es a->∃x∈es,x.lsn=n/\x.kind=1/\x.tx=a) (fun h=>by simp[aQ] at h) (fun l e ih h=>?_) es;have up:(∃x∈l,x.lsn=n/\x.kind=1/\x.tx=a)->∃x∈l++[e],x.lsn=n/\x.kind=1/\x.tx=a:=fun⟨x,q1,q2⟩=>⟨x,Jj _ q1,q2⟩
 rw[gP] at h;grind
def KI.head(hk:KI k)(v:kB k=true)(h0:0<=p)(hp:p<k.pg):dX k p=aV k.lg.es p:=by
 unfold dX;rw[if_pos ⟨v,h0,hp⟩];unfold qx;split
 ·rename_i hi;rcases gK k.pl.fs p with hn|⟨i,hil,hid,he⟩
  ·omega
  rw[hid,Jm];rw[Qd _ _ hil] at he |-;rw[hk.fr _ (Ji hil),he]
 rename_i hi;obtain⟨d,b,hl⟩:∃d b,(d,b)=aM k.la p:=⟨(aM k.la p).1,(aM k.la p).2,rfl⟩
 rw[<-hl];cases b
 ·rw [if_neg (show ¬(false = true) from fun h=>by cases h)];obtain⟨m,rfl⟩:∃m:Nat,p=m:=⟨p.toNat,vz⟩
  rw[Jm];refine(hk.cor.row m hp).2 fun n hL=>?_;rcases hL with⟨x,q1,q2,_⟩|⟨f,q1,_,q2,_⟩
  ·exact qM hl x q1 q2
  ·obtain ⟨j,hj,rfl⟩:=Jg.1 q1;obtain⟨i,_,h2,_⟩:=qG (l:=k.pl.fs) (a:=(m:Int)) ⟨j,hj,by rw[Qd _ _ hj];exact q2.symm⟩;omega
 ·rw [if_pos rfl];obtain⟨q1,q2⟩:=Al hl;exact hk.cor.la p d.last (.inl ⟨d,q1,q2,rfl⟩)
def iG(h:0<=idT l a):QW l a∈l/\(QW l a).id=a:=by
 rcases QB l a with hn|⟨i,hi,hid,he⟩
 ·omega
 ·rw[km hid,Qd l i hi];exact⟨Ji hi,he⟩
def lS{e:E}(h:e.okB=true)(hk:e.kind=1\/e.kind=2):1<=e.tx:=by
 unfold E.okB at h;rw[Jd] at h;have h2:=h.2;unfold E.kindB txB at h2;grind
def Aw{e:E}(h:e.okB=true):1<=e.lsn:=by
 unfold E.okB at h;grind
structure AddF(k:Kn)(e e':E):Prop where
 lt:∀x∈k.lg.es,x.lsn<e'.lsn
 pos:1<=e'.lsn
 nx:e'.tx<k.nx
 tx:0<e'.tx->QW k.tx e'.tx∈k.tx/\(QW k.tx e'.tx).id=e'.tx/\TxOk k.lg.es (QW k.tx e'.tx)/\e'.ptx=(QW k.tx e'.tx).n
def AddOk.facts(hk:KI k)(ha:AddOk k e e'):AddF k e e':=by
 obtain⟨v,s,ho,hl,hn,hnt,hnr,h0,hi,hp1,hp2⟩:=ha;have hv:=dW v;have hd:=bz hk.lg;simp only[Lg.hd] at hd
 have htx:0<e'.tx->QW k.tx e'.tx∈k.tx/\(QW k.tx e'.tx).id=e'.tx/\TxOk k.lg.es (QW k.tx e'.tx)/\e'.ptx=(QW k.tx e'.tx).n:=fun q=>by
  rw[s.2.1] at q;obtain⟨i,hil,hid,hp⟩:=hi q;obtain⟨g1,g2⟩:=iG (l:=k.tx) (a:=e'.tx) (by rw[s.2.1,hid];omega);exact⟨g1,g2,hk.cor.ok _ g1,by rw[hp,s.2.1,km hid]⟩
 refine⟨fun x hx=>?_,?_,?_,htx⟩
 ·have:=(jl hk.lg hk.f hx).2.1;omega
 ·have:=hk.f;unfold Lg.end_ at hl;omega
 ·by_cases q:0 < e'.tx
  ·obtain ⟨g1,g2,_⟩:=htx q;obtain⟨j,hj,hje⟩:=Jg.1 g1;have:=(lL v).ids j hj;rw[Qd _ _ hj,hje,g2] at this;exact this
  ·have:=hv.2.1;omega
def KI.addP(hk:KI k)(ha:AddOk k e e')(he:EnOk k.lg.es e')(e1:k'.lg=(k.add e').lg)(e2:k'.tx=(k.add e').tx)(e3:k'.ix=(k.add e').ix)(e4:k'.pg=k.pg)(e5:k'.nx=k.nx)(h1:∀p n,LkK k' p n->((e'.kind=1\/e'.kind=2)/\p=e'.c.pg/\n=e'.lsn)\/(LkK k p n/\((e'.kind=1\/e'.kind=2)->p≠e'.c.pg)))(h2:∀p,(∀n,¬LkK k' p n)->((∀n,¬LkK k p n)\/(e'.kind=7/\p=e'.c.pg))/\((e'.kind=1\/e'.kind=2)->p≠e'.c.pg))(hf:∀f∈k'.pl.fs,f.pg.lsn=aV (k.lg.es++[e']) f.pg.id)(h3:e'.kind=7->∀n,¬LkK k' e'.c.pg n):KI k':=by
 have F:=ha.facts hk;have hl:=ha.lgB;obtain⟨v,s,ho,hle,hn,hnt,hnr,h0,hi,hp1,hp2⟩:=ha;have hes:k'.lg.es=k.lg.es++[e']:=by rw[e1];rfl
 refine⟨by rw[e1];exact hl,by rw[e1];exact hk.f,by rw[hes];exact hk.log.snoc he,?_,by rw[hes];exact hf⟩;rw[hes,e2,e3,e4,e5];exact hk.cor.add he.ix F.lt F.pos hnt hnr (Jw _) F.nx h1 h2 h3
def Cor.same(h:Cor es pg nx tx ix L)(hn:nx<=nx')(h1:∀t∈tx',TxOk es t)(h2:∀x∈es,0<x.tx->(∃t∈tx,t.id=x.tx)->∃t∈tx',t.id=x.tx):Cor es pg nx' tx' ix L:=
 ⟨h.pgr,fun e he=>J0 (h.ids e he) hn,h1,fun x hx h0=>(h.all x hx h0).imp (h2 x hx h0) id,h.len,h.row,h.la,h.lt,h.w7⟩
def TxOk.alike(h:TxOk es t)(h1:u.id=t.id)(h2:u.n=t.n)(h3:u.l=t.l)(h4:u.st=3 ↔ t.st=3):TxOk es u:=
 ⟨by rw[h2,h1];exact h.n,by rw[h3,h1];exact h.l,by rw[h1];exact h.ne,by rw[h4,h1];exact h.ab⟩
def Cor.setT(h:Cor es pg nx tx ix L)(hi:i<tx.length)(h1:u.id=tx[i].id)(h2:u.n=tx[i].n)(h3:u.l=tx[i].l)(h4:u.st=3 ↔ tx[i].st=3):Cor es pg nx (tx.set i u) ix L:=
 h.same (Jw _) (fun t q=>by
  rcases qN q with⟨j,hj,_,rfl⟩|⟨rfl,_⟩
  ·exact h.ok _ (Ji hj)
  ·exact(h.ok _ (Ji hi)).alike h1 h2 h3 h4) fun x _ _ ⟨t,q1,q2⟩=>by
  obtain⟨j,hj,rfl⟩:=Jg.1 q1;by_cases hij:i=j
  ·subst hij;exact⟨u,Au hi,by rw[h1];exact q2⟩
  ·exact⟨tx[j],Av hj hij,q2⟩
def KI.txs(hk:KI k)(h:Cor k.lg.es k.pg k.nx tx' k.ix (LkK k)):KI ⟨k.pg,k.nx,k.lg,k.pl,k.lk,tx',k.ix,k.la⟩:=⟨hk.lg,hk.f,hk.log,h,hk.fr⟩
def uA(h:(fq l a).2=0):∃i,∃hi:i<l.length,(fq l a).1=l.set i { l[i] with s:=l[i].s++[l[i].n] }:=by
 unfold fq at h |-;split at h
 ·rename_i q;exact absurd h q
 rename_i q1;split at h
 ·simp at h
 rename_i q2;rw[if_neg q1,if_neg q2];obtain⟨_,i,hi,hid,_,hg⟩:=jd (by omega:(Qu l a).2=0);grind
def uB(h:(ft l a b).2=0):∃i,∃hi:i<l.length,∃u,(ft l a b).1=l.set i u/\u.id=l[i].id/\u.n=l[i].n/\u.l=l[i].l/\(u.st=3 ↔ l[i].st=3):=by
 unfold ft at h |-;split at h
 ·rename_i q;exact absurd h q
 rename_i q1;split at h
 ·simp at h
 rename_i q2;rw[if_neg q1,if_neg q2];have hst:=(yb (by omega:(Qu l a).2=0)).1;obtain⟨_,i,hi,hid,_,hg⟩:=jd (by omega:(Qu l a).2=0);grind
def uC(h:(aY l a).2=0):(aY l a).1=jc l ⟨a,1,0,0,[],[]⟩:=by
 unfold aY at h |-;repeat' split at h
 all_goals first|(simp at h;done)|skip
 grind
def mem_insT:u∈jc l t ↔ u=t\/u∈l:=by
 unfold jc;rw[Jf,JL];constructor
 ·rintro (h|h|h)
  ·exact .inr (JU h)
  ·exact .inl h
  ·exact .inr (JV h)
 ·rintro (h|h)
  ·exact .inr (.inl h)
  ·rw [<-J7 (j6 l t.id) l,Jf] at h;exact h.imp id .inr
def Cor.beginT(h:Cor es pg nx tx ix L)(hn:nx<=nx')(hb:(aY tx a).2=0)(hf:∀x∈es,x.tx≠a):Cor es pg nx' (aY tx a).1 ix L:=by
 rw[uC hb]
 exact h.same hn (fun t q=>by
  rcases mem_insT.1 q with rfl|q
  ·exact TxOk.fresh hf
  ·exact h.ok t q) fun x _ _ ⟨t,q1,q2⟩=>⟨t,mem_insT.2 (.inr q1),q2⟩
def lT(es:List E)(e:E)(p:Int)(h:¬((e.kind=1\/e.kind=2)/\e.c.pg=p)):aV (es++[e]) p=aV es p:=by rw[gO,if_neg h]
def KI.fin(hk:KI k)(ha:AddOk k e e')(h3:e.kind=3\/e.kind=4\/e.kind=5)(hf:kk k e):KI (k.add e'):=by
 have F:=ha.facts hk;have s:=ha.2.1;have ho:=ha.2.2.1;have hk':e'.kind=3\/e'.kind=4\/e'.kind=5:=by rw[s.1];exact h3
 have hn:¬(e'.kind=1\/e'.kind=2):=vz;obtain⟨f1,f2,f3⟩:=hf;rw[<-s.2.1,<-s.1] at *;refine hk.addP ha ⟨fun q=>?_,fun q=>?_,fun q h=>?_,fun q=>?_,fun q=>absurd q hn,fun q=>by omega,fun q=>by omega,fun q=>by omega,fun q=>by omega⟩ rfl rfl rfl rfl rfl (fun p n q=>.inr ⟨q,fun h=>absurd h hn⟩) (fun p q=>⟨.inl q,fun h=>absurd h hn⟩) (fun f q=>by rw[lT _ _ _ fun h=>hn h.1];exact hk.fr f q) (fun q=>by omega)
 ·obtain ⟨_,g2,g3,g4⟩:=F.tx q;rw[g4,g3.n,g2]
 ·obtain ⟨_,g2,g3,_⟩:=F.tx q;have:=g3.ne;rwa [g2] at this
 ·obtain ⟨_,g2,g3,_⟩:=F.tx q;have:=g3.ab;rw[g2] at this;by_cases h5:e'.kind=5
  ·exact .inr h5
  ·exact absurd (this.2 h) (f2 vz)
 ·obtain ⟨i1,i2⟩:=f3 q;obtain⟨g1,g2⟩:=iG f1;have g3:=hk.cor.ok _ g1;have h1:=g3.ab;have h2:=g3.l;rw[g2] at h1 h2;exact⟨h1.1 i1,by rw[<-h2];exact i2⟩
def CkP.ok(hk:KI k)(h:CkP k s):s=[]\/∃c,CkV c/\s=aP c/\Cor k.lg.es c.pg c.nx c.tx c.ix (LD c.dl):=by
 rcases h with h|⟨c,h1,h2,h3⟩
 ·exact .inl h
 refine .inr ⟨c,h2,h3,?_⟩;rw[h1.pg,h1.nx,h1.tx,h1.ix];refine hk.cor.weak (Jw _) (fun p n q=>?_) fun p q n hL=>?_
 ·obtain ⟨d,q1,q2,q3⟩:=q;rcases h1.dl d q1 with⟨x,x1,x2,x3⟩|⟨f,x1,x2,x3,x4⟩
  ·exact .inl ⟨x,x1,vz,vz⟩
  ·exact .inr ⟨f,x1,x2,vz,vz⟩
 ·rcases hL with ⟨d,x1,x2,x3⟩|⟨f,x1,x2,x3,x4⟩
  ·obtain ⟨d',y1,y2⟩:=h1.la d x1;exact q _ ⟨d',y1,vz,rfl⟩
  ·obtain ⟨d',y1,y2⟩:=h1.fs f x1 x2;exact q _ ⟨d',y1,vz,rfl⟩
def KI.ckpt(hk:KI k)(ha:AddOk k e e')(h6:e.kind=6)(hc:CkP k e.blob):KI (k.add e'):=by
 have F:=ha.facts hk;have s:=ha.2.1;have ho:=ha.2.2.1;have hk':e'.kind=6:=by rw[s.1];exact h6
 have hn:¬(e'.kind=1\/e'.kind=2):=vz
 have htx:e'.tx=0:=by
  by_cases h:e'.tx=0
  ·exact h
  ·have:=nG ho h;omega
 exact hk.addP ha ⟨fun q=>by omega,fun q=>by omega,fun q=>by omega,fun q=>by omega,fun q=>absurd q hn,fun q=>by omega,fun q=>by omega,fun _=>by rw[s.2.2.2.2];exact hc.ok hk,fun q=>by omega⟩ rfl rfl rfl rfl rfl (fun p n q=>.inr ⟨q,fun h=>absurd h hn⟩) (fun p q=>⟨.inl q,fun h=>absurd h hn⟩) (fun f q=>by rw[lT _ _ _ fun h=>hn h.1];exact hk.fr f q) (fun q=>by omega)
def Ax(h:(aO p x).2=0):plB p=true/\∃i,i<p.fs.length/\idF p.fs x.id=(i:Nat)/\(aO p x).1=⟨p.size,p.fs.set i (cn (p.fs.getD i Fm0) x),p.hand⟩:=by
 unfold aO at h |-;split at h
 ·simp at h
 rename_i q1;split at h
 ·rename_i q;exact absurd h q
 rename_i q2;split at h
 ·simp at h
 rename_i q3;split at h
 ·simp at h
 rename_i q4;rw[if_neg q1,if_neg q2,if_neg q3,if_neg q4];rcases gK p.fs x.id with hn|⟨i,hi,hid,_⟩
 ·omega
 ·exact⟨by simpa using q1,i,hi,hid,by rw[hid,Jm]⟩
def lU{l:List Fm}{i:Nat}{t u:Fm}(h:t∈l.set i u):(∃j,∃hj:j<l.length,j≠i/\l[j]=t)\/(t=u/\i<l.length):=by
 obtain⟨j,hj,rfl⟩:=Jg.1 h;grind
def Lu{l:List Fm}(hi:i<l.length):u∈l.set i u:=by
 rw[Jg];exact⟨i,by rw[Jv];exact hi,by rw[JH]⟩
def Ay{l:List Fm}{i j:Nat}{u:Fm}(hj:j<l.length)(hij:i≠j):l[j]∈l.set i u:=by
 rw[Jg];exact⟨j,by rw[Jv];exact hj,by rw[JQ hij]⟩
def uD(h:(aN p a).2=true):plB p=true/\∃i,∃hi:i<p.fs.length,idF p.fs a=(i:Nat)/\(p.fs[i]).pg.id=a/\(aN p a).1=(p.fs[i]).pg:=by
 unfold aN at h |-;split at h
 ·simp at h
 rename_i q;rw[if_neg q];rcases nN p a with hn|⟨hp,i,hi,h1,h2,h3⟩
 ·omega
 ·rw [Qd _ _ hi] at h3;exact⟨hp,i,hi,h2,h3,by rw[h1,Jm,Qd _ _ hi]⟩
def KI.setE(hk:KI k)(ha:AddOk k e e')(h12:e.kind=1\/e.kind=2)(hs:lO k e)(hu:(aO k.pl (bh k.pl e')).2=0):KI (k.set e'):=by
 have F:=ha.facts hk;obtain⟨v,s,ho,hl,hn,hnt,hnr,h0,hi,hp1,hp2⟩:=id ha;obtain⟨s1,s2,s3,s4,s5⟩:=s;have hk':e'.kind=1\/e'.kind=2:=by rw[s1];exact h12
 have n5:e'.kind≠5:=vz;have n7:e'.kind≠7:=vz;have n6:e'.kind≠6:=vz;obtain⟨f1,f2,f3,f4,f5⟩:=hs;rw[<-s4] at f4 f5;obtain⟨hpl,i,hil,hid,hpg,hgp⟩:=uD f4
 have hsp:(bh k.pl e').id=e'.c.pg:=by
  show(aN k.pl e'.c.pg).1.id=_
  rw[hgp,hpg]
 obtain⟨_,j,hj,hjd,hup⟩:=Ax hu;rw[hsp,hid] at hjd;obtain rfl:i=j:=vz
 have hpos:0<e'.tx:=by
  have:=lS ho hk';omega
 obtain⟨g1,g2,g3,g4⟩:=F.tx hpos
 have hrng:0<=e'.c.pg/\e'.c.pg<k.pg:=by
  have h1:=uy (jj hpl hil);have h2:=((lL v).frs i hil).1;rw[Qd _ _ hil] at h1 h2;omega
 have hother:∀j,(hj:j<k.pl.fs.length)->j≠i->(k.pl.fs[j]).pg.id≠e'.c.pg:=fun j hj hji q=>by
  have:=qL hpl hj;rw[Qd _ _ hj,q,hid] at this;omega
 have hfs:(k.set e').pl.fs=k.pl.fs.set i (cn (k.pl.fs.getD i Fm0) (bh k.pl e')):=by
  show(aO k.pl (bh k.pl e')).1.fs=_
  rw[hup]
 have hup1:(cn (k.pl.fs.getD i Fm0) (bh k.pl e')).dirty=true:=rfl;have hup2:(cn (k.pl.fs.getD i Fm0) (bh k.pl e')).pg.id=e'.c.pg:=hsp;have hup3:(cn (k.pl.fs.getD i Fm0) (bh k.pl e')).pg.lsn=e'.lsn:=rfl;generalize cn (k.pl.fs.getD i Fm0) (bh k.pl e')=u at *;refine hk.addP ha ⟨fun _=>by rw[g4,g3.n,g2],fun _=>?_,fun _ h=>?_,fun q=>absurd q n5,fun _=>?_,fun q=>?_,fun q=>absurd q n7,fun q=>absurd q n6,fun q=>absurd q n7⟩ rfl rfl rfl rfl rfl (fun p n q=>?_) (fun p q=>?_) (fun f q=>?_) (fun q=>absurd q n7)
 ·have:=g3.ne;rwa [g2] at this
 ·have:=g3.ab;rw[g2] at this;have h3:=this.2 h;rcases h12 with q|q
  ·have:=f2 q;rw[<-s2] at this;omega
  ·exact .inl vz
 ·rw [hp1 h12,<-s4];exact hk.head v hrng.1 hrng.2
 ·rw [s1] at q;obtain⟨_,y,hla,hy1,hy2⟩:=f3 q;rw[<-s2] at hla;obtain⟨m,hm,hm1,hm2,hm3⟩:=hla;have hgl:=g3.l;rw[g2] at hgl;obtain⟨ym,yl⟩:=Lr hm1;rw[<-hm2] at ym yl
  have hmem:y.lsn∈aQ k.lg.es e'.tx:=by
   rw[<-hgl,yl,Ja,JG hm];exact Ji hm
  obtain⟨x,x1,x2,x3,x4⟩:=Lt _ _ _ hmem;obtain rfl:=Lq hk.lg x1 ym x2;have hr:e'.ref=x.lsn:=by rw[s3];exact hy1
  have hc':e'.c=⟨x.c.pg,x.c.sl,x.c.a,x.c.b⟩:=by rw[s4];exact hy2
  refine⟨by rw[hr];exact hmem,x,x1,hr.symm,x3,x4,hc',fun z z1 z2 z3 z4=>?_⟩;rw[<-hgl] at z2;obtain⟨w,hw,hwz⟩:=Jg.1 z2
  have hasc:(QW k.tx e'.tx).l.Pairwise (·<·):=by
   obtain⟨q1,q2,q3⟩:=Jg.1 g1;have:=eK (dW v).2.2.2.2.1 q2;rw[q3] at this;exact xY this
  have hwm:m<w:=by
   rcases JF m w with h|h|h
   ·exact h
   ·subst h;rw[Qd _ _ hm] at yl;omega
   ·have:=(Jp.1 hasc) w m hw hm h;rw[Qd _ _ hm] at yl;omega
  have hgz:=Ls hk.lg z1;have:=hm3 w hwm hw;rw[Qd _ _ hw,hwz,hgz] at this;rw[hc'] at z4;exact this rfl z4
 ·unfold LkK at q;rw[hfs] at q;rcases q with⟨d,d1,d2,d3⟩|⟨f,d1,d2,d3,d4⟩
  ·refine .inr ⟨.inl ⟨d,d1,d2,d3⟩,fun _=>?_⟩;have hlk:=((lL v).frs i hil).2;rw[Qd _ _ hil,hpg] at hlk;obtain⟨b,hb⟩:∃b,(b,false)=aM k.la e'.c.pg:=⟨(aM k.la e'.c.pg).1,by rw[<-hlk]⟩
   rw[<-d2];exact qM hb d d1
  ·rcases lU d1 with ⟨j,hj,hji,rfl⟩|⟨rfl,_⟩
   ·exact .inr ⟨.inr ⟨_,Ji hj,d2,d3,d4⟩,fun _=>by rw[<-d3];exact hother j hj hji⟩
   ·exact .inl ⟨hk',by rw[<-d3,hup2],by rw[<-d4,hup3]⟩
 ·have hpe:p ≠ e'.c.pg:=fun h=>q e'.lsn (.inr ⟨u,by rw [hfs];exact Lu hil,hup1,by rw [hup2,h],hup3⟩);refine⟨.inl fun n hL=>?_,fun _=>hpe⟩;rcases hL with⟨d,d1,d2,d3⟩|⟨f,d1,d2,d3,d4⟩
  ·exact q n (.inl ⟨d,d1,d2,d3⟩)
  ·obtain ⟨j,hj,rfl⟩:=Jg.1 d1;by_cases hji:i=j
   ·subst hji;omega
   ·exact q n (.inr ⟨_,by rw[hfs];exact Ay hj hji,d2,d3,d4⟩)
 ·rw [hfs] at q;rcases lU q with⟨j,hj,hji,rfl⟩|⟨rfl,_⟩
  ·rw [lT _ _ _ fun h=>hother j hj hji h.2.symm];exact hk.fr _ (Ji hj)
  ·rw[gO,if_pos ⟨hk',hup2.symm⟩,hup3]
def qO(h:(bR p a n).2=0)(hi:i<p.fs.length)(hid:idF p.fs a=(i:Nat))(hn:(p.fs.getD i Fm0).pg.lsn=n):((p.fs.getD i Fm0).dirty=false/\(bR p a n).1=p)\/∃u:Fm,u.pg=(p.fs.getD i Fm0).pg/\u.dirty=false/\(bR p a n).1=⟨p.size,p.fs.set i u,p.hand⟩:=by
 unfold bR at h |-;split at h
 ·simp at h
 rename_i q1;split at h
 ·simp at h
 rename_i q2;split at h
 ·simp at h
 rename_i q3;rw[if_neg q1,if_neg q2,if_neg q3,hid,Jm];split
 ·rename_i q4;exact .inl ⟨by simpa using q4,rfl⟩
 ·refine .inr ⟨_,?_,?_,rfl⟩<;>unfold iA<;>rw[if_pos hn]
def Lv(h:(aM l n).2=true):∃d∈l,d.pg=n:=by
 unfold aM at h;grind
def Lw(h:ixB l=true)(p:Nat):0<=(l.getD p Rw0).lsn:=by
 by_cases hp:p<l.length
 ·unfold ixB at h;simp only[Jd,Ju,JA] at h;have:=h.2 p hp;unfold ke eT at this;simp only[Jd,decide_eq_true_eq] at this;omega
 ·rw[Ja,JI vz];exact Jw _
def KI.wrt(hk:KI k)(ha:AddOk k e e')(h7:e.kind=7)(hw:ua k e):KI (k.wrt e'):=by
 have F:=ha.facts hk;obtain⟨v,s,ho,hl,hn,hnt,hnr,h0,hi,hp1,hp2⟩:=id ha;obtain⟨s1,s2,s3,s4,s5⟩:=s;have hk':e'.kind=7:=by rw[s1];exact h7
 have hn:¬(e'.kind=1\/e'.kind=2):=vz;have n5:e'.kind≠5:=vz;have n2:e'.kind≠2:=vz;have n6:e'.kind≠6:=vz;have htx:¬0<e'.tx:=fun h=>by have:=nG ho vz;omega
 obtain⟨i,hil,hid,hls,hcl,hdd⟩:=hw;rw[<-s4,<-s3] at hcl;rw[<-s4] at hid;rw[<-s3] at hls;have hpl:=(dW v).2.2.2.1
 have hpg:(k.pl.fs.getD i Fm0).pg.id=e'.c.pg:=by
  rcases gK k.pl.fs e'.c.pg with q|⟨j,_,q1,q2⟩
  ·omega
  ·obtain rfl:j = i:=vz;exact q2
 have hother:∀j,(hj:j<k.pl.fs.length)->j≠i->(k.pl.fs[j]).pg.id≠e'.c.pg:=fun j hj hji q=>by
  have:=qL hpl hj;rw[Qd _ _ hj,q,hid] at this;omega
 have hmi:k.pl.fs.getD i Fm0∈k.pl.fs:=by rw[Qd _ _ hil];exact Ji hil
 have hfs:(k.wrt e').pl.fs=(bR k.pl e'.c.pg e'.ref).1.fs:=rfl
 have hsub:∀f∈(k.wrt e').pl.fs,∃g∈k.pl.fs,g.pg=f.pg/\(f.dirty=true->g=f):=fun f hf=>by
  rw[hfs] at hf;rcases qO hcl hil hid hls with⟨_,q⟩|⟨u,u1,u2,q⟩
  ·rw[q] at hf;exact⟨f,hf,rfl,fun _=>rfl⟩
  ·rw [q] at hf;rcases lU hf with⟨j,hj,_,rfl⟩|⟨rfl,_⟩
   ·exact⟨_,Ji hj,rfl,fun _=>rfl⟩
   ·exact⟨_,hmi,u1.symm,fun h=>by rw[u2] at h;cases h⟩
 have hsup:∀f∈k.pl.fs,f.dirty=true->f.pg.id≠e'.c.pg->f∈(k.wrt e').pl.fs:=fun f hf hd hne=>by
  rw[hfs];rcases qO hcl hil hid hls with⟨_,q⟩|⟨u,u1,u2,q⟩
  ·rw[q];exact hf
  ·rw [q];obtain⟨j,hj,rfl⟩:=Jg.1 hf;by_cases hji:i=j
   ·subst hji;rw[Qd _ _ hil] at hpg;exact absurd hpg hne
   ·exact Ay hj hji
 refine hk.addP ha ⟨fun q=>absurd q htx,fun q=>absurd q htx,fun q=>absurd q htx,fun q=>absurd q n5,fun q=>absurd q hn,fun q=>absurd q n2,fun _=>?_,fun q=>absurd q n6,fun _=>?_⟩ rfl rfl rfl rfl rfl (fun p n q=>.inr ⟨?_,fun h=>absurd h hn⟩) (fun p q=>⟨?_,fun h=>absurd h hn⟩) (fun f q=>?_) (fun _ n q=>?_)
 ·rw[<-hls,hk.fr _ hmi,hpg]
 ·have hp0:=nR ho (.inr (.inr hk'));have hlt:=hk.cor.lt e'.c.pg.toNat e'.ref (.inr ⟨_,hmi,hdd,by rw[hpg];omega,hls⟩);have hix:=Lw (dW v).2.2.2.2.2.1 e'.c.pg.toNat;refine⟨vz,fun x hx h7x ⟨g1,g2⟩=>?_⟩;have:=hk.cor.w7 x hx h7x;rw[g1] at this;omega
 ·rcases q with q|⟨f,d1,d2,d3,d4⟩
  ·exact .inl q
  ·obtain ⟨g,g1,g2,g3⟩:=hsub f d1;obtain rfl:=g3 d2;exact .inr ⟨g,g1,d2,d3,d4⟩
 ·by_cases hpe:p = e'.c.pg
  ·exact .inr ⟨hk',hpe⟩
  ·refine .inl fun n hL=>?_;rcases hL with hL|⟨f,d1,d2,d3,d4⟩
   ·exact q n (.inl hL)
   ·exact q n (.inr ⟨f,hsup f d1 d2 (by rw[d3];exact hpe),d2,d3,d4⟩)
 ·obtain ⟨g,g1,g2,_⟩:=hsub f q;rw[lT _ _ _ fun h=>hn h.1,<-g2];exact hk.fr g g1
 ·rcases q with ⟨d,d1,d2,d3⟩|⟨f,d1,d2,d3,d4⟩
  ·have hlk:=((lL v).frs i hil).2;rw[hpg] at hlk;obtain⟨b,hb⟩:∃b,(b,false)=aM k.la e'.c.pg:=⟨(aM k.la e'.c.pg).1,by rw[<-hlk]⟩
   exact qM hb d d1 d2
  ·rw [hfs] at d1;rcases qO hcl hil hid hls with⟨g,_⟩|⟨u,u1,u2,g⟩
   ·rw[hdd] at g;cases g
   ·rw [g] at d1;rcases lU d1 with⟨j,hj,hji,rfl⟩|⟨rfl,_⟩
    ·exact hother j hj hji d3
    ·rw[u2] at d2;cases d2
def KI.pool(hk:KI k)(h1:∀f∈p.fs,∃g∈k.pl.fs,g.pg=f.pg/\g.dirty=f.dirty)(h2:∀g∈k.pl.fs,g.dirty=true->∃f∈p.fs,f.pg=g.pg/\f.dirty=true):KI ⟨k.pg,k.nx,k.lg,p,k.lk,k.tx,k.ix,k.la⟩:=by
 refine⟨hk.lg,hk.f,hk.log,hk.cor.weak (Jw _) (fun q n h=>?_) (fun q h n hL=>?_),fun f hf=>?_⟩
 ·rcases h with h|⟨f,d1,d2,d3,d4⟩
  ·exact .inl h
  ·obtain ⟨g,g1,g2,g3⟩:=h1 f d1;exact .inr ⟨g,g1,by rw[g3];exact d2,by rw[g2];exact d3,by rw[g2];exact d4⟩
 ·rcases hL with hL|⟨f,d1,d2,d3,d4⟩
  ·exact h n (.inl hL)
  ·obtain ⟨g,g1,g2,g3⟩:=h2 f d1 d2;exact h n (.inr ⟨g,g1,g3,by rw[g2];exact d3,by rw[g2];exact d4⟩)
 ·obtain ⟨g,g1,g2,_⟩:=h1 f hf;show f.pg.lsn=_
  rw[<-g2];exact hk.fr g g1
def SameF.mem(h:SameF l m)(hf:f∈m):∃g∈l,g.pg=f.pg/\g.dirty=f.dirty:=by
 obtain⟨i,hi,rfl⟩:=Jg.1 hf;have hl:=h.len;have:=h.at_ i;rw[Qd _ _ hi,Qd _ _ (by omega:i<l.length)] at this;unfold Fm.clr at this;grind
def SameF.symm(h:SameF l m):SameF m l:=Eq.symm h
def uE(h:(df p a).2=0):∃i:Nat,(p.fs.getD i Fm0).dirty=false/\(df p a).1.fs=p.fs.take i++p.fs.drop (i+1):=by
 unfold df at h |-;grind
def KI.drop(hk:KI k)(h:(df k.pl a).2=0):KI ⟨k.pg,k.nx,k.lg,(df k.pl a).1,k.lk,k.tx,k.ix,k.la⟩:=by
 obtain⟨i,hd,hf⟩:=uE h;refine hk.pool (fun f q=>?_) fun g q hg=>?_
 ·rw [hf] at q;rcases Jf.1 q with q|q
  ·exact⟨f,JU q,rfl,rfl⟩
  ·exact⟨f,JV q,rfl,rfl⟩
 ·obtain ⟨j,hj,rfl⟩:=Jg.1 q;have hji:j≠i:=fun h=>by subst h;rw[Qd _ _ hj,hg] at hd;cases hd
  refine⟨k.pl.fs[j],?_,rfl,hg⟩;rw[hf,Jf];rcases Nat.lt_or_gt_of_ne hji with h|h
  ·left;rw[Jg];exact⟨j,by rw[Jt];omega,by rw[List.getElem_take]⟩
  ·right;rw[Jg];exact⟨j-(i+1),by rw[JO];omega,by rw[List.getElem_drop];congr 1;omega⟩
def KI.put{k:Kn}(hk:KI k){x:Pg}(v:kB k=true)(hr:0<=x.id/\x.id<k.pg)(hl:x.lsn=dX k x.id):KI ⟨k.pg,k.nx,k.lg,⟨k.pl.size,k.pl.fs++[⟨x,false,0,true⟩],k.pl.hand⟩,k.lk,k.tx,k.ix,k.la⟩:=by
 rw[hk.head v hr.1 hr.2] at hl;refine⟨hk.lg,hk.f,hk.log,hk.cor.weak (Jw _) (fun q n h=>?_) (fun q h n hL=>?_),fun f hf=>?_⟩
 ·rcases h with h|⟨f,d1,d2,d3,d4⟩
  ·exact .inl h
  ·rcases Jf.1 d1 with d1|d1
   ·exact .inr ⟨f,d1,d2,d3,d4⟩
   ·rw[Jc.1 d1] at d2;cases d2
 ·rcases hL with hL|⟨f,d1,d2⟩
  ·exact h n (.inl hL)
  ·exact h n (.inr ⟨f,Jj _ d1,d2⟩)
 ·rcases Jf.1 hf with d1|d1
  ·exact hk.fr f d1
  ·rw[Jc.1 d1];exact hl
def KI.putl(hk:KI k)(v:kB k=true)(hr:0<=x.id/\x.id<k.pg)(hl:x.lsn=dX k x.id)(hla:(aM k.la x.id).2=true):KI ⟨k.pg,k.nx,k.lg,⟨k.pl.size,k.pl.fs++[⟨x,true,rc,true⟩],k.pl.hand⟩,k.lk,k.tx,k.ix,k.la.filter fun d=>decide (d.pg≠x.id)⟩:=by
 rw[hk.head v hr.1 hr.2] at hl;refine⟨hk.lg,hk.f,hk.log,⟨hk.cor.pgr,hk.cor.ids,hk.cor.ok,hk.cor.all,hk.cor.len,fun p hp=>⟨(hk.cor.row p hp).1,fun q=>(hk.cor.row p hp).2 fun n hL=>?_⟩,fun p n h=>?_,fun p n h=>?_,hk.cor.w7⟩,fun f hf=>?_⟩
 ·have hxp:(p:Int) ≠ x.id:=fun h=>q x.lsn (.inr ⟨_,JJ _ (Jc.2 rfl),rfl,h.symm,rfl⟩);rcases hL with⟨d,d1,d2,d3⟩|⟨f,d1,d2⟩
  ·exact q n (.inl ⟨d,Jq.2 ⟨d1,vg⟩,d2,d3⟩)
  ·exact q n (.inr ⟨f,Jj _ d1,d2⟩)
 ·rcases h with ⟨d,d1,d2,d3⟩|⟨f,d1,d2,d3,d4⟩
  ·exact hk.cor.la p n (.inl ⟨d,(Jq.1 d1).1,d2,d3⟩)
  ·rcases Jf.1 d1 with d1|d1
   ·exact hk.cor.la p n (.inr ⟨f,d1,d2,d3,d4⟩)
   ·rw [Jc.1 d1] at d3 d4;rw[<-d4,<-d3];exact hl
 ·rcases h with ⟨d,d1,d2,d3⟩|⟨f,d1,d2,d3,d4⟩
  ·exact hk.cor.lt p n (.inl ⟨d,(Jq.1 d1).1,d2,d3⟩)
  ·rcases Jf.1 d1 with d1|d1
   ·exact hk.cor.lt p n (.inr ⟨f,d1,d2,d3,d4⟩)
   ·rw [Jc.1 d1] at d3 d4;obtain⟨d,g1,g2⟩:=Lv hla;have:=hk.cor.la p d.last (.inl ⟨d,g1,by rw[g2];exact d3,rfl⟩);refine hk.cor.lt p n (.inl ⟨d,g1,by rw[g2];exact d3,?_⟩);rw[this,<-d4,<-d3];exact hl.symm
 ·rcases Jf.1 hf with d1|d1
  ·exact hk.fr f d1
  ·rw[Jc.1 d1];exact hl
def KI.rem(hk:KI k)(hi:0<=idT k.tx a)(hn:(QW k.tx a).n=0):KI ⟨k.pg,k.nx,k.lg,k.pl,k.lk,bF k.tx a,k.ix,k.la⟩:=by
 obtain⟨g1,g2⟩:=iG hi;have g3:=(hk.cor.ok _ g1).n;rw[g2,hn] at g3;refine hk.txs (hk.cor.same (Jw _) (fun t q=>hk.cor.ok t (mem_remS.1 q).1) fun x hx _ ⟨t,q1,q2⟩=>⟨t,mem_remS.2 ⟨q1,fun h=>?_⟩,q2⟩);have:=uz k.lg.es (a:=a) (fun y hy=>(jl hk.lg hk.f hy).1) ⟨x,hx,vz⟩;omega
def Stp.KI {n:Nat} {k k':Kn} (h:Stp n k k') (hk:KI k):KI k':=by
 cases h with
 |begin v hb =>
   refine⟨hk.lg,hk.f,hk.log,hk.cor.beginT (show k.nx<=k.nx+1 by omega) hb fun x hx=>?_,hk.fr⟩;have:=hk.cor.ids x hx;omega
 |fin ha h3 hf=>exact hk.fin ha h3 hf
 |ckpt ha h6 hc=>exact hk.ckpt ha h6 hc
 |change ha h1 hs _ hu=>exact hk.setE ha (.inl h1) hs hu
 |undo ha h2 hs hu=>exact hk.setE ha (.inr h2) hs hu
 |undol u ha h2 hs hu _ =>
   have q:=hk.setE ha (.inr h2) hs hu;exact⟨q.lg,q.f,q.log,q.cor,q.fr⟩
 |wrt ha h7 hw=>exact hk.wrt ha h7 hw
 |lock u _=>exact⟨hk.lg,hk.f,hk.log,hk.cor,hk.fr⟩
 |save a h =>
   obtain⟨i,hi,e⟩:=uA h;rw[e];exact hk.txs (hk.cor.setT hi rfl rfl rfl Iff.rfl)
 |back a b h =>
   obtain⟨i,hi,u,e,h1,h2,h3,h4⟩:=uB h;rw[e];exact hk.txs (hk.cor.setT hi h1 h2 h3 h4)
 |rem a _ hi hn=>exact hk.rem hi hn
 |pool p hs =>
   refine hk.pool (fun f q=>hs.mem q) fun g q hg=>?_;obtain⟨f,f1,f2,f3⟩:=hs.symm.mem q;exact⟨f,f1,f2,by rw[f3];exact hg⟩
 |drop a h=>exact hk.drop h
 |force d _ h=>exact⟨h hk.lg,hk.f,hk.log,hk.cor,hk.fr⟩
def Str.KI{n:Nat}{k k':Kn}(h:Str n k k')(hk:KI k):KI k':=by
 induction h with
 |refl k=>exact hk
 |step _ h2 ih=>exact h2.KI (ih hk)
def onC(p s:Int)(e:E):Prop:=(e.kind=1\/e.kind=2)/\e.c.pg=p/\e.c.sl=s
instance (p s:Int)(e:E):Decidable (onC p s e):=inferInstanceAs (Decidable (_/\_))
def bG(es:List E)(p s:Int):Ce:=es.foldl (fun v e=>if onC p s e then e.c.a else v) Ce0
def dB(es:List E)(S:Int->Bool)(p s:Int):Ce:=es.foldl (fun v e=>if onC p s e/\S e.tx=true then e.c.a else v) Ce0
def stC(es:List E)(p s:Int):List E:=es.foldl (fun l e=>if onC p s e then (if e.kind=1 then e::l else l.tail) else if e.kind=3 then l.filter (fun q=>decide (q.tx≠e.tx)) else l) []
def kv(es:List E)(e:E)(p s:Int):bG (es++[e]) p s=if onC p s e then e.c.a else bG es p s:=by unfold bG;rw[JB];rfl
def kz(es:List E)(e:E)(S:Int->Bool)(p s:Int):dB (es++[e]) S p s=if onC p s e/\S e.tx=true then e.c.a else dB es S p s:=by unfold dB;rw[JB];rfl
def jm(es:List E)(e:E)(p s:Int):stC (es++[e]) p s=if onC p s e then (if e.kind=1 then e::stC es p s else (stC es p s).tail) else if e.kind=3 then (stC es p s).filter (fun q=>decide (q.tx≠e.tx)) else stC es p s:=by unfold stC;rw[JB];rfl
def bB(es:List E)(a:Int):Prop:=∃e∈es,e.kind=3/\e.tx=a
def nX(es:List E)(e:E)(a:Int):bB (es++[e]) a ↔ bB es a\/(e.kind=3/\e.tx=a):=by
 unfold bB;grind
structure EnB(h:List E)(e:E):Prop where
 bef:(e.kind=1\/e.kind=2)->e.c.b=bG h e.c.pg e.c.sl
 own:e.kind=1->∀x∈h,x.kind=1->x.c.pg=e.c.pg->x.c.sl=e.c.sl->x.tx≠e.tx->ct h x.tx\/(abE h x.tx/\x.lsn ∉ aQ h x.tx)
def LogB(es:List E):Prop:=∀i,i<es.length->EnB (es.take i) (es.getD i E0)
def LogB.nil:LogB []:=fun i h=>by simp at h
def LogB.snoc(h:LogB es)(he:EnB es e):LogB (es++[e]):=fun i hi=>by
 rw[Je,Js] at hi;rcases Ku i es.length with hl|hl
 ·rw [JT vz,Ja,J2 hl,<-Ja];exact h i hl
 ·obtain rfl:i = es.length:=vz;rw[J9,Ja,JZ (JC _),Kv];exact he
def LogB.take(h:LogB es)(j:Nat):LogB (es.take j):=fun i hi=>by
 rw[Jt] at hi;have:=h i vz;rw[Kp,Kk vz,Ja,J4 vz,<-Ja];exact this
def Az:List E->Ce->Ce->Prop
 |[],v,b=>v=b
 |q::r,v,b=>q.c.a=v/\Az r q.c.b b
structure Cs(h:List E)(p s:Int)(b:Ce):Prop where
 mem:∀x,x∈stC h p s ↔ (x∈h/\x.kind=1/\(x.c.pg=p/\x.c.sl=s)/\x.lsn∈aQ h x.tx/\¬ct h x.tx)
 ord:(stC h p s).Pairwise fun x y=>y.lsn<x.lsn
 own:∀x∈stC h p s,∀y∈stC h p s,x.tx=y.tx
 stk:Az (stC h p s) (bG h p s) b
 out:∀S:Int->Bool,(∀a,bB h a->S a=true)->(∀x∈stC h p s,S x.tx=false)->dB h S p s=b
 inn:∀S:Int->Bool,(∀a,bB h a->S a=true)->(∀x∈stC h p s,S x.tx=true)->stC h p s≠[]->dB h S p s=bG h p s
def Cs.nil(p s:Int):Cs [] p s Ce0:=⟨fun x=>by simp[stC],by simp[stC],fun x h=>by simp[stC] at h,rfl,fun S _ _=>rfl,fun S _ _ h=>absurd rfl h⟩
def Cs.change{h:List E}{e:E}{p s:Int}{b:Ce}(hc:Cs h p s b)(ho:EnOk h e)(hb:EnB h e)(hlt:∀x∈h,x.lsn<e.lsn)(ht:0<e.tx)(hk:e.kind=1)(hon:onC p s e):Cs (h++[e]) p s b:=by
 obtain⟨_,rfl,rfl⟩:=id hon;have est:stC (h++[e]) e.c.pg e.c.sl=e::stC h e.c.pg e.c.sl:=by rw[jm,if_pos hon,if_pos hk]
 have ev:bG (h++[e]) e.c.pg e.c.sl=e.c.a:=by rw[kv,if_pos hon]
 have hbef:=hb.bef (.inl hk);have hcom:∀a,bB (h++[e]) a ↔ bB h a:=fun a=>by rw[nX];exact⟨fun q=>q.elim id fun q=>by omega,.inl⟩
 have hend:∀a,ct (h++[e]) a ↔ ct h a:=fun a=>by rw[iF];exact⟨fun q=>q.elim id fun q=>by omega,.inl⟩
 have hown:∀x∈stC h e.c.pg e.c.sl,x.tx=e.tx:=fun x hx=>by
  obtain⟨m1,m2,⟨m3,m4⟩,m5,m6⟩:=(hc.mem x).1 hx;by_cases q:x.tx=e.tx
  ·exact q
  ·rcases hb.own hk x m1 m2 m3 m4 q with w|⟨_,w⟩
   ·exact absurd w m6
   ·exact absurd m5 w
 refine⟨fun x=>?_,?_,?_,?_,fun S h1 h2=>?_,fun S h1 h2 _=>?_⟩
 ·rw [est,JL,hc.mem x,Jf,Jc,hend,gP,hk];constructor
  ·rintro (rfl|⟨m1,m2,m3,m4,m5⟩)
   ·refine ⟨.inr rfl,hk,⟨rfl,rfl⟩,?_,ho.ne ht⟩;rw[if_pos rfl,if_pos rfl];simp
   ·refine ⟨.inl m1,m2,m3,?_,m5⟩;split
    ·rw[if_pos rfl];exact Jj _ m4
    ·exact m4
  ·rintro ⟨m1|m1,m2,m3,m4,m5⟩
   ·refine .inr ⟨m1,m2,m3,?_,m5⟩;split at m4
    ·rw [if_pos rfl] at m4;rcases Jf.1 m4 with m4|m4
     ·exact m4
     ·have:=hlt x m1;have:=Jc.1 m4;omega
    ·exact m4
   ·exact .inl m1
 ·rw [est,JR];exact⟨fun y hy=>hlt y ((hc.mem y).1 hy).1,hc.ord⟩
 ·rw [est];intro x hx y hy
  have key:∀z,z∈e::stC h e.c.pg e.c.sl->z.tx=e.tx:=fun z hz=>by
   rcases JL.1 hz with rfl|hz
   ·rfl
   ·exact hown z hz
  rw[key x hx,key y hy]
 ·rw [est,ev];exact⟨rfl,by rw[hbef];exact hc.stk⟩
 ·rw [est] at h2;rw[kz,if_neg (by rintro⟨_,q⟩;rw[h2 e vv] at q;cases q)];exact hc.out S (fun a q=>h1 a ((hcom a).2 q)) fun x hx=>h2 x (Jz _ hx)
 ·rw [est] at h2;rw[kz,if_pos ⟨hon,h2 e vv⟩,ev]
def Cs.undo(hc:Cs h p s b)(ho:EnOk h e)(hlt:h.Pairwise fun x y=>x.lsn<y.lsn)(ht:0<e.tx)(hk:e.kind=2)(hon:onC p s e):Cs (h++[e]) p s b:=by
 obtain⟨_,rfl,rfl⟩:=id hon;obtain⟨u1,x,x1,x2,x3,x4,x5,x6⟩:=ho.un hk;have xc1:x.c.pg=e.c.pg:=by rw[x5]
 have xc2:x.c.sl=e.c.sl:=by rw[x5]
 have hxs:x∈stC h e.c.pg e.c.sl:=(hc.mem x).2 ⟨x1,x3,⟨xc1,xc2⟩,by rw[x2,x4];exact u1,by rw[x4];exact ho.ne ht⟩;have est:stC (h++[e]) e.c.pg e.c.sl=(stC h e.c.pg e.c.sl).tail:=by rw[jm,if_pos hon,if_neg vz]
 have ev:bG (h++[e]) e.c.pg e.c.sl=e.c.a:=by rw[kv,if_pos hon]
 have hcom:∀a,bB (h++[e]) a ↔ bB h a:=fun a=>by rw[nX];exact⟨fun q=>q.elim id fun q=>by omega,.inl⟩
 have hend:∀a,ct (h++[e]) a ↔ ct h a:=fun a=>by rw[iF];exact⟨fun q=>q.elim id fun q=>by omega,.inl⟩
 have hc1:=hc.mem;have hc2:=hc.ord;have hc3:=hc.own;have hc4:=hc.stk;have hc5:=hc.out;have hc6:=hc.inn;generalize hst:stC h e.c.pg e.c.sl=st at *;cases st with
 |nil=>simp at hxs
 |cons q r=>
 have hq:=(hc1 q).1 vv;have hqt:q.tx=e.tx:=by rw[hc3 q vv x hxs,x4]
 have hqx:q=x:=by
  rcases JL.1 hxs with w|w
  ·exact w.symm
  ·have hgt:=(JR.1 hc2).1 x w;exact absurd ⟨hq.2.2.1.1,hq.2.2.1.2⟩ (x6 q hq.1 (by rw[<-hqt];exact hq.2.2.2.1) vz)
 subst hqx;rw[List.tail_cons] at est;have hea:e.c.a=q.c.b:=by rw[x5]
 obtain⟨k1,k2⟩:=hc4
 have huniq:∀y∈h,y.lsn=q.lsn->y=q:=fun y hy hl=>by
  obtain⟨i,hi,rfl⟩:=Jg.1 hy;obtain⟨j,hj,he⟩:=Jg.1 x1;rw[<-he] at hl |-;rw[Jp] at hlt;rcases JF i j with w|w|w
  ·have:=hlt i j hi hj w;omega
  ·subst w;rfl
  ·have:=hlt j i hj hi w;omega
 refine⟨fun y=>?_,?_,?_,?_,fun S h1 h2=>?_,fun S h1 h2 h3=>?_⟩
 ·rw [est,Jf,Jc,hend,gP,hk];have hqr:q ∉ r:=fun w=>by have:=(JR.1 hc2).1 q w;omega
  have hyq:=hc1 y;rw[JL] at hyq;constructor
  ·intro w;obtain⟨m1,m2,m3,m4,m5⟩:=hyq.1 (.inr w);refine⟨.inl m1,m2,m3,?_,m5⟩;split
   ·rw [if_neg vj,if_pos rfl];refine Jq.2 ⟨m4,decide_eq_true fun z=>hqr ?_⟩;rw[<-huniq y m1 vz];exact w
   ·exact m4
  ·rintro ⟨m1|m1,m2,m3,m4,m5⟩
   ·split at m4
    ·rename_i hty;rw[if_neg vj,if_pos rfl] at m4;obtain⟨m4,m6⟩:=Jq.1 m4;rcases hyq.2 ⟨m1,m2,m3,m4,m5⟩ with w|w
     ·rw[w,x2] at m6;simp at m6
     ·exact w
    ·rename_i hty;rcases hyq.2 ⟨m1,m2,m3,m4,m5⟩ with w|w
     ·rw[w] at hty;exact absurd hqt.symm hty
     ·exact w
   ·rw[m1] at m2;omega
 ·rw[est];exact(JR.1 hc2).2
 ·rw[est];exact fun y hy z hz=>hc3 y (Jz _ hy) z (Jz _ hz)
 ·rw[est,ev,hea];exact k2
 ·rw [est] at h2;rw[kz];have h1':∀a,bB h a->S a=true:=fun a w=>h1 a ((hcom a).2 w);cases hS:S e.tx
  ·rw [if_neg (by rintro ⟨_,w⟩;cases w)];refine hc5 S h1' fun y hy=>?_;rcases JL.1 hy with rfl|hy
   ·rw[hqt];exact hS
   ·exact h2 y hy
  ·rw [if_pos ⟨hon,rfl⟩,hea];cases r with
   |nil=>exact k2
   |cons z r' =>
     have:=h2 z vv;rw[hc3 z vv q vv,hqt,hS] at this;cases this
 ·rw [est] at h2 h3;rw[kz,ev];obtain⟨z,hz⟩:=List.exists_mem_of_ne_nil _ h3;have:=h2 z hz;rw[hc3 z (Jz _ hz) q vv,hqt] at this;rw[if_pos ⟨hon,this⟩]
def Cs.commit(hc:Cs h p s b)(ho:EnOk h e)(ht:0<e.tx)(hk:e.kind=3):∃b',Cs (h++[e]) p s b':=by
 have hon:¬onC p s e:=fun q=>by have:=q.1;omega
 have est:stC (h++[e]) p s=(stC h p s).filter (fun q=>decide (q.tx≠e.tx)):=by rw[jm,if_neg hon,if_pos hk]
 have ev:bG (h++[e]) p s=bG h p s:=by rw[kv,if_neg hon]
 have hlv:∀S,dB (h++[e]) S p s=dB h S p s:=fun S=>by rw[kz,if_neg fun q=>hon q.1]
 have hpe:∀a,aQ (h++[e]) a=aQ h a:=fun a=>by rw[gP,if_neg (show ¬e.kind=1 by omega),if_neg (show ¬e.kind=2 by omega),ite_self]
 have hcom:∀a,bB h a->bB (h++[e]) a:=fun a q=>(nX _ _ _).2 (.inl q);have hcomT:bB (h++[e]) e.tx:=(nX _ _ _).2 (.inr ⟨hk,rfl⟩)
 have hmem:∀x,x∈stC (h++[e]) p s ↔ (x∈h++[e]/\x.kind=1/\(x.c.pg=p/\x.c.sl=s)/\x.lsn∈aQ (h++[e]) x.tx/\¬ct (h++[e]) x.tx):=fun x=>by
  rw[est,Jq,hc.mem x,hpe,iF,Jf,Jc,decide_eq_true_eq];constructor
  ·rintro ⟨⟨m1,m2,m3,m4,m5⟩,m6⟩;exact⟨.inl m1,m2,m3,m4,fun q=>q.elim m5 fun q=>m6 q.1.symm⟩
  ·rintro ⟨m1|m1,m2,m3,m4,m5⟩
   ·exact⟨⟨m1,m2,m3,m4,fun q=>m5 (.inl q)⟩,fun q=>m5 (.inr ⟨q.symm,.inl hk⟩)⟩
   ·rw[m1] at m2;omega
 have hsub:∀x,x∈stC (h++[e]) p s->x∈stC h p s:=fun x q=>by rw[est] at q;exact(Jq.1 q).1
 have hord:(stC (h++[e]) p s).Pairwise fun x y=>y.lsn<x.lsn:=by rw[est];exact hc.ord.sublist JW
 by_cases hw:∃x∈stC h p s,x.tx=e.tx
 ·obtain ⟨w,w1,w2⟩:=hw;have hall:∀x∈stC h p s,x.tx=e.tx:=fun x hx=>by rw[hc.own x hx w w1,w2]
  have e0:stC (h++[e]) p s=[]:=by
   rw[est,List.filter_eq_nil_iff];intro x hx;rw[hall x hx];simp
  refine⟨bG h p s,hmem,hord,fun x hx y hy=>hc.own x (hsub x hx) y (hsub y hy),by rw[e0,ev];rfl,fun S h1 _=>?_,fun S h1 _ h3=>absurd e0 h3⟩;rw[hlv];exact hc.inn S (fun a q=>h1 a (hcom a q)) (fun x hx=>by rw[hall x hx];exact h1 _ hcomT) (List.ne_nil_of_mem w1)
 ·have e0:stC (h ++ [e]) p s = stC h p s:=by
   rw[est,List.filter_eq_self];intro x hx;exact decide_eq_true fun q=>hw ⟨x,hx,q⟩
  refine⟨b,hmem,hord,fun x hx y hy=>hc.own x (hsub x hx) y (hsub y hy),by rw[e0,ev];exact hc.stk,fun S h1 h2=>?_,fun S h1 h2 h3=>?_⟩
  ·rw[hlv];exact hc.out S (fun a q=>h1 a (hcom a q)) (by rw[<-e0];exact h2)
  ·rw[hlv,ev];exact hc.inn S (fun a q=>h1 a (hcom a q)) (by rw[<-e0];exact h2) (by rw[<-e0];exact h3)
def Cs.other(hc:Cs h p s b)(ho:EnOk h e)(hlt:h.Pairwise fun x y=>x.lsn<y.lsn)(hlt2:∀x∈h,x.lsn<e.lsn)(hk:e.kind≠3)(hon:¬onC p s e):Cs (h++[e]) p s b:=by
 have est:stC (h++[e]) p s=stC h p s:=by rw[jm,if_neg hon,if_neg hk]
 have ev:bG (h++[e]) p s=bG h p s:=by rw[kv,if_neg hon]
 have hlv:∀S,dB (h++[e]) S p s=dB h S p s:=fun S=>by rw[kz,if_neg fun q=>hon q.1]
 have hcom:∀a,bB h a->bB (h++[e]) a:=fun a q=>(nX _ _ _).2 (.inl q)
 have huniq:∀y∈h,∀q∈h,y.lsn=q.lsn->y=q:=fun y hy q x1 hl=>by
  obtain⟨i,hi,rfl⟩:=Jg.1 hy;obtain⟨j,hj,he⟩:=Jg.1 x1;rw[<-he] at hl |-;rw[Jp] at hlt;rcases JF i j with w|w|w
  ·have:=hlt i j hi hj w;omega
  ·subst w;rfl
  ·have:=hlt j i hj hi w;omega
 refine⟨fun x=>?_,by rw[est];exact hc.ord,by rw[est];exact hc.own,by rw[est,ev];exact hc.stk,fun S h1 h2=>?_,fun S h1 h2 h3=>?_⟩
 ·rw [est,hc.mem x,Jf,Jc,iF,gP];constructor
  ·rintro ⟨m1,m2,m3,m4,m5⟩;refine⟨.inl m1,m2,m3,?_,fun q=>q.elim m5 fun q=>?_⟩
   ·split
    ·split
     ·exact Jj _ m4
     split
     ·rename_i _ _ k2;refine Jq.2 ⟨m4,decide_eq_true fun q=>?_⟩;obtain⟨_,z,z1,z2,_,_,z5,_⟩:=ho.un k2;have:=huniq x m1 z z1 vz;subst this;exact hon ⟨.inr k2,by rw[z5];exact m3.1,by rw[z5];exact m3.2⟩
     ·exact m4
    ·exact m4
   ·have k5:e.kind = 5:=vz;have:=(ho.en k5).2;rw[q.1,] at this;rw[this] at m4;simp at m4
  ·rintro ⟨m1|m1,m2,m3,m4,m5⟩
   ·refine ⟨m1,m2,m3,?_,fun q=>m5 (.inl q)⟩;split at m4
    ·split at m4
     ·rcases Jf.1 m4 with m4|m4
      ·exact m4
      ·have:=hlt2 x m1;have:=Jc.1 m4;omega
     split at m4
     ·exact(Jq.1 m4).1
     ·exact m4
    ·exact m4
   ·rw [m1] at m2 m3;exact absurd ⟨.inl m2,m3.1,m3.2⟩ hon
 ·rw[hlv];exact hc.out S (fun a q=>h1 a (hcom a q)) (by rw[<-est];exact h2)
 ·rw[hlv,ev];exact hc.inn S (fun a q=>h1 a (hcom a q)) (by rw[<-est];exact h2) (by rw[<-est];exact h3)
def Cs.snoc(hc:Cs h p s b)(ho:EnOk h e)(hb:EnB h e)(hlt:h.Pairwise fun x y=>x.lsn<y.lsn)(hlt2:∀x∈h,x.lsn<e.lsn)(ht:(e.kind=1\/e.kind=2\/e.kind=3)->0<e.tx):∃b',Cs (h++[e]) p s b':=by
 by_cases hon:onC p s e
 ·rcases hon.1 with k|k
  ·exact⟨b,hc.change ho hb hlt2 (ht vz) k hon⟩
  ·exact⟨b,hc.undo ho hlt (ht vz) k hon⟩
 ·by_cases k:e.kind = 3
  ·exact hc.commit ho (ht vz) k
  ·exact⟨b,hc.other ho hlt hlt2 k hon⟩
def jn(h:al l=true)(ht:t∈l):0<=idT l t.id/\QW l t.id=t:=by
 have h1:=(lP (l:=l) (a:=t.id)).2 (Kh.2 ⟨t,ht,rfl⟩);obtain⟨g1,g2⟩:=iG h1;exact⟨h1,Ar h g1 ht g2⟩
def LkNeed.back(h:LkNeed k' a pg sl)(hx:∀x∈k'.lg.es,x.kind=1->x.tx=a->x.c.pg=pg->x.c.sl=sl->x∈k.lg.es)(ht:0<=idT k'.tx a->0<=idT k.tx a/\((QW k'.tx a).st≠3->(QW k.tx a).st≠3)/\∀x∈k.lg.es,x.lsn∈(QW k'.tx a).l->x.lsn∈(QW k.tx a).l):LkNeed k a pg sl:=by
 obtain⟨h1,x,x1,x2,x3,x4,x5,x6⟩:=h;obtain⟨t1,t2,t3⟩:=ht h1;have y1:=hx x x1 x3 x2 x4 x5;exact⟨t1,x,y1,x2,x3,x4,x5,x6.imp t2 (t3 x y1)⟩
def uF(h:(QA l e).2=0)(h0:0<=idT (QA l e).1 a):0<=idT l a/\((QW (QA l e).1 a).st≠3->(QW l a).st≠3)/\∀n∈(QW (QA l e).1 a).l,n∈(QW l a).l\/(n=e.lsn/\e.kind=1):=by
 obtain⟨h1,h2⟩:=nT h;by_cases ht:e.tx=0
 ·rw [qE h ht] at h0 |-;exact⟨h0,id,fun n q=>.inl q⟩
 obtain⟨i,hi,q1,q2,_,_,q3⟩:=nU h ht;obtain⟨g1,g2⟩:=iG h0;rcases q3 with⟨_,q3⟩|⟨q4,q3⟩
 ·rw [q3] at h0 g1 g2 |-;have m1:=(mem_remS.1 g1).1;obtain⟨w1,w2⟩:=jn h1 m1;rw[g2] at w1 w2;rw[w2];exact⟨w1,id,fun n q=>.inl q⟩
 ·rw [q3] at h0 g1 g2 |-;rcases qN g1 with⟨j,hj,hji,w⟩|⟨w,_⟩
  ·obtain ⟨w1,w2⟩:=jn h1 (Ji hj);rw[w,g2] at w1 w2;rw[w2];exact⟨w1,id,fun n q=>.inl q⟩
  ·have hid:a = e.tx:=by rw [<-g2,w,qD,ue,q2]
   obtain⟨w1,w2⟩:=jn h1 (Ji hi);rw[q2,<-hid] at w1 w2;rw[w2,w];refine⟨w1,fun q c=>q ?_,fun n q=>?_⟩
   ·rw [Aq];unfold aX;split
    ·exact c
    split
    ·exact c
    ·rfl
   ·rw [Ap] at q;unfold aX at q;split at q
    ·rename_i k1;rcases Jf.1 q with q|q
     ·exact .inl q
     ·exact .inr ⟨Jc.1 q,k1⟩
    split at q
    ·exact .inl (Jq.1 q).1
    ·exact .inl q
structure KJ(k:Kn):Prop where
 log:LogB k.lg.es
 cel:∀f∈k.pl.fs,∀i:Nat,i<16->f.pg.cel i=bG k.lg.es f.pg.id i
 lk:∀a pg sl,LkNeed k a pg sl->exG k.lk.held a pg sl
 pgs:∀e∈k.lg.es,(e.kind=1\/e.kind=2)->e.c.pg<k.pg
def EnB.none(hk:¬(e.kind=1\/e.kind=2)):EnB h e:=⟨fun q=>absurd q hk,fun q=>absurd (.inl q) hk⟩
def uG(es:List E)(e:E)(p s:Int)(h:¬onC p s e):bG (es++[e]) p s=bG es p s:=by rw[kv,if_neg h]
def KJ.addN(hj:KJ k)(ha:AddOk k e e')(hk:¬(e'.kind=1\/e'.kind=2))(e1:k'.lg=(k.add e').lg)(e2:k'.tx=(k.add e').tx)(e3:k'.lk=k.lk)(e4:k'.pg=k.pg)(hf:∀f∈k'.pl.fs,∃g∈k.pl.fs,g.pg=f.pg):KJ k':=by
 have hes:k'.lg.es=k.lg.es++[e']:=by rw[e1];rfl
 obtain⟨v,s,ho,hl,hn,hnt,hnr,h0,hi,hp1,hp2⟩:=ha;refine⟨by rw[hes];exact hj.log.snoc (EnB.none hk),fun f q i hi=>?_,fun a pg sl hN=>?_,fun x q hx=>?_⟩
 ·obtain ⟨g,g1,g2⟩:=hf f q;rw[hes,uG _ _ _ _ fun q=>hk q.1,<-g2];exact hj.cel g g1 i hi
 ·rw [e3];refine hj.lk a pg sl (hN.back (fun x hx h1 _ _ _=>?_) fun q=>?_)
  ·rw [hes] at hx;rcases Jf.1 hx with hx|hx
   ·exact hx
   ·rw[Jc.1 hx] at h1;exact absurd (.inl h1) hk
  ·rw [e2] at q |-;obtain⟨w1,w2,w3⟩:=uF hnt q;exact⟨w1,w2,fun x _ hx=>(w3 _ hx).elim id fun c=>absurd (.inl c.2) hk⟩
 ·rw [e4];rw[hes] at q;rcases Jf.1 q with q|q
  ·exact hj.pgs x q hx
  ·rw[Jc.1 q] at hx;exact absurd hx hk
def Lx(v:kB k=true)(h:(aN k.pl p).2=true):p<k.pg:=by
 obtain⟨_,i,hi,_,h1,_⟩:=uD h;have:=((lL v).frs i hi).1;grind
def Ly(v:kB k=true)(h1:exG k.lk.held a pg sl)(h2:exG k.lk.held b pg sl):a=b:=by
 have hv:lkB k.lk=true:=(qw v).2.1;obtain⟨g,g1,g2,g3,g4,g5⟩:=h1;obtain⟨f,f1,f2,f3,f4,f5⟩:=h2;by_cases q:a=b
 ·exact q
 ·have V:=nM hv;have:=V.nc g g1 f f1 vz vz vz;have:=V.gr g g1;omega
def KJ.setE(hk:KI k)(hj:KJ k)(ha:AddOk k e e')(h12:e.kind=1\/e.kind=2)(hs:lO k e)(hx:e.kind=1->exG k.lk.held e.tx e.c.pg e.c.sl)(hu:(aO k.pl (bh k.pl e')).2=0):KJ (k.set e'):=by
 have F:=ha.facts hk;obtain⟨v,s,ho,hl,hn,hnt,hnr,h0,hi,hp1,hp2⟩:=id ha;obtain⟨s1,s2,s3,s4,s5⟩:=s;have hk':e'.kind=1\/e'.kind=2:=by rw[s1];exact h12
 obtain⟨f1,f2,f3,f4,f5⟩:=hs;rw[<-s4] at f4 f5 hx;rw[<-s2,<-s1] at hx;have hsl:=qF ho hk';obtain⟨hpl,i,hil,hid,hpg,hgp⟩:=uD f4
 have hsp:(bh k.pl e').id=e'.c.pg:=by
  show(aN k.pl e'.c.pg).1.id=_
  rw[hgp,hpg]
 obtain⟨_,j,hj',hjd,hup⟩:=Ax hu;rw[hsp,hid] at hjd;obtain rfl:i=j:=vz
 have hother:∀j,(hj:j<k.pl.fs.length)->j≠i->(k.pl.fs[j]).pg.id≠e'.c.pg:=fun j hj hji q=>by
  have:=qL hpl hj;rw[Qd _ _ hj,q,hid] at this;omega
 have hgc:=hj.cel _ (Ji hil)
 have hbef:e'.c.b=bG k.lg.es e'.c.pg e'.c.sl:=by
  rw[<-f5,hgp,hgc _ vz,hpg,Int.toNat_of_nonneg hsl.1]
 have hes:(k.set e').lg.es=k.lg.es++[e']:=rfl
 have hfs:(k.set e').pl.fs=k.pl.fs.set i (cn (k.pl.fs.getD i Fm0) (bh k.pl e')):=by
  show(aO k.pl (bh k.pl e')).1.fs=_
  rw[hup]
 have htx0:0<e'.tx:=by have:=lS ho hk';omega
 obtain⟨x1,x2,x3,x4⟩:=F.tx htx0;refine⟨(hj.log.snoc (e:=e') ⟨fun _=>hbef,fun h1 x hxm hx1 hx2 hx3 hne=>?_⟩:LogB (k.lg.es++[e'])),fun f q n hn16=>?_,fun a pg sl hN=>?_,fun x q hx=>?_⟩
 ·by_cases hend:ct k.lg.es x.tx
  ·exact .inl hend
  right;have hxt:0<x.tx:=by have:=lS (jl hk.lg hk.f hxm).2.2 (.inl hx1);omega
  rcases hk.cor.all x hxm hxt with⟨t,t1,t2⟩|q
  ·have tb:=(nT hnt).1;obtain⟨w1,w2⟩:=jn tb t1;have tk:=hk.cor.ok t t1;rw[t2] at w1 w2;have hnl:¬LkNeed k x.tx e'.c.pg e'.c.sl:=fun hN=>hne (Ly v (hj.lk _ _ _ hN) (hx h1));have hneed:∀c:((QW k.tx x.tx).st≠3\/x.lsn∈(QW k.tx x.tx).l),False:=fun c=>hnl ⟨w1,x,hxm,rfl,hx1,hx2,hx3,c⟩;rw[w2] at hneed;have a1:=tk.ab;have a2:=tk.l;rw[t2] at a1 a2;refine⟨a1.1 ?_,fun c=>hneed (.inr (by rw[a2];exact c))⟩;by_cases c:t.st=3
   ·exact c
   ·exact(hneed (.inl c)).elim
  ·exact absurd q hend
 ·rw [hfs] at q;rw[hes];rcases lU q with⟨j,hj2,hji,rfl⟩|⟨rfl,_⟩
  ·rw [uG _ _ _ _ fun c=>hother j hj2 hji c.2.1.symm];exact hj.cel _ (Ji hj2) n hn16
  ·show (bh k.pl e').cel n = bG _ (bh k.pl e').id n
   rw[hsp,kv];show(if n=e'.c.sl.toNat then e'.c.a else (aN k.pl e'.c.pg).1.cel n)=_
   by_cases c:n=e'.c.sl.toNat
   ·rw[if_pos c,if_pos ⟨hk',rfl,vz⟩]
   ·rw[if_neg c,if_neg (fun w=>c (by have:=w.2.2;omega)),hgp,hgc n hn16,hpg]
 ·show exG k.lk.held a pg sl
  by_cases hnew:a=e'.tx/\pg=e'.c.pg/\sl=e'.c.sl/\e'.kind=1
  ·obtain ⟨rfl,rfl,rfl,c⟩:=hnew;exact hx c
  refine hj.lk a pg sl (hN.back (fun x hxm h1 q2 q3 q4=>?_) fun q=>?_)
  ·rw [hes] at hxm;rcases Jf.1 hxm with hxm|hxm
   ·exact hxm
   ·rw [Jc.1 hxm] at h1 q2 q3 q4;exact absurd ⟨q2.symm,q3.symm,q4.symm,h1⟩ hnew
  ·obtain ⟨w1,w2,w3⟩:=uF hnt q
   exact⟨w1,w2,fun x hxm hx=>(w3 _ hx).elim id fun c=>by
    have:=F.lt x hxm
    omega⟩
 ·rcases Jf.1 q with q|q
  ·exact hj.pgs x q hx
  ·rw [Jc.1 q];exact Lx (k:=k) v f4
def KJ.txs(hj:KJ k)(h:∀a,0<=idT tx' a->(∃x∈k.lg.es,x.tx=a)->0<=idT k.tx a/\((QW tx' a).st≠3->(QW k.tx a).st≠3)/\(QW tx' a).l=(QW k.tx a).l):KJ ⟨k.pg,nx',k.lg,k.pl,k.lk,tx',k.ix,k.la⟩:=by
 refine⟨hj.log,hj.cel,fun a pg sl hN=>hj.lk a pg sl ?_,hj.pgs⟩;obtain⟨h1,x,x1,x2,x3,x4,x5,x6⟩:=hN;obtain⟨w1,w2,w3⟩:=h a h1 ⟨x,x1,x2⟩;exact⟨w1,x,x1,x2,x3,x4,x5,x6.imp w2 fun q=>by rw[<-w3];exact q⟩
def AA(h:al l=true)(hi:i<l.length)(h1:u.id=l[i].id)(h3:u.l=l[i].l)(h4:u.st=3 ↔ l[i].st=3)(h0:0<=idT (l.set i u) a):0<=idT l a/\((QW (l.set i u) a).st≠3->(QW l a).st≠3)/\(QW (l.set i u) a).l=(QW l a).l:=by
 obtain⟨g1,g2⟩:=iG h0;rcases qN g1 with⟨j,hj,hji,w⟩|⟨w,_⟩
 ·obtain ⟨w1,w2⟩:=jn h (Ji hj);rw[w,g2] at w1 w2;rw[w2];exact⟨w1,id,rfl⟩
 ·obtain ⟨w1,w2⟩:=jn h (Ji hi);rw[<-h1,<-w,g2] at w1 w2;rw[w2,w];exact⟨w1,fun q c=>q (h4.2 c),h3⟩
def Lz(h:(fq l a).2=0):al l=true:=by
 unfold fq at h;split at h
 ·rename_i q;exact absurd h q
 ·rename_i q;exact(jd (by omega:(Qu l a).2=0)).1
def LA(h:(ft l a b).2=0):al l=true:=by
 unfold ft at h;split at h
 ·rename_i q;exact absurd h q
 ·rename_i q;exact(jd (by omega:(Qu l a).2=0)).1
def KJ.pool(hj:KJ k)(h:∀ f∈p.fs,∃ g∈k.pl.fs,g.pg=f.pg):KJ ⟨k.pg,k.nx,k.lg,p,k.lk,k.tx,k.ix,k.la⟩:=⟨hj.log,fun f q i hi=>by
 obtain⟨g,g1,g2⟩:=h f q
 rw[<- g2]; exact hj.cel g g1 i hi,hj.lk,hj.pgs⟩
def AB(ha:AddOk k e e')(h7:e.kind=7)(hw:ua k e):∀f∈(k.wrt e').pl.fs,∃g∈k.pl.fs,g.pg=f.pg:=fun f hf=>by
 obtain⟨v,s,_⟩:=ha;obtain⟨s1,s2,s3,s4,s5⟩:=s;obtain⟨i,hil,hid,hls,hcl,hdd⟩:=hw;rw[<-s4,<-s3] at hcl;rw[<-s4] at hid;rw[<-s3] at hls;have hfs:(k.wrt e').pl.fs=(bR k.pl e'.c.pg e'.ref).1.fs:=rfl;rw[hfs] at hf;rcases qO hcl hil hid hls with⟨_,q⟩|⟨u,u1,u2,q⟩
 ·rw[q] at hf;exact⟨f,hf,rfl⟩
 ·rw [q] at hf;rcases lU hf with⟨j,hj,_,rfl⟩|⟨rfl,_⟩
  ·exact⟨_,Ji hj,rfl⟩
  ·exact⟨_,by rw[Qd _ _ hil];exact Ji hil,u1.symm⟩
structure AscE(es:List E):Prop where
 lt:es.Pairwise fun a b=>a.lsn<b.lsn
 lo:∀e∈es,1<=e.lsn/\e.lsn<=1099511627776
def AscE.snoc(h:AscE (es++[e])):AscE es/\(∀x∈es,x.lsn<e.lsn)/\1<=e.lsn/\e.lsn<=1099511627776:=by
 have h1:=J8.1 h.lt;exact⟨⟨h1.1,fun x hx=>h.lo x (Jj _ hx)⟩,fun x hx=>h1.2.2 x hx e vv,h.lo e vv⟩
def AC(a:Int):∀es:List E,AscE es->0<=bS es a/\bS es a<=1099511627776/\∀n,(∀x∈es,x.lsn<n)->0<n->bS es a<n:=by
 refine gQ (fun _=>⟨Jw _,by simp[bS],fun n _ h=>h⟩) fun l e ih h=>?_;obtain⟨h1,h2,h3,h4⟩:=h.snoc;rw[jk];grind
def LB(a:Int):∀es:List E,AscE es->(aQ es a).Pairwise (·<·)/\(∀n∈aQ es a,1<=n/\n<=bS es a)/\(aQ es a).length<=es.length:=by
 refine gQ (fun _=>⟨by simp[aQ],fun n h=>by simp[aQ] at h,by simp[aQ]⟩) fun l e ih h=>?_;obtain⟨h1,h2,h3,h4⟩:=h.snoc;obtain⟨i1,i2,i3⟩:=ih h1;have hb:=AC a l h1;rw[gP,jk,Je,Js];grind
def LC(h:l.Pairwise (·<·))(hb:∀n∈l,1<=n/\n<=hi):bP l 1 hi 1=true:=by
 unfold bP;rw[Ju];intro i hi';rw[JA] at hi';rw[ja];have h1:=hb l[i] (Ji hi');rw[Qd _ _ hi'];refine⟨h1.1,h1.2,?_⟩;by_cases h0:i=0
 ·exact .inl h0
 ·right;rw[Qd _ _ vz];have:=Jp.1 h (i-1) i vz hi' vz;omega
def LF(hv:lgB x=true)(hf:x.f=1):AscE x.es:=by
 refine⟨?_,fun e he=>?_⟩
 ·rw [Jp];intro a b ha hb hab;have h1:=(Q8 hv ha).1;have h2:=(Q8 hv hb).1;rw[Qd _ _ ha] at h1;rw[Qd _ _ hb] at h2;omega
 ·have h1:=jl hv hf he;have hd:=bz hv;simp only[Lg.hd] at hd;unfold Lg.end_ at h1;omega
def qQ(h:(Kg n).all c=true)(hi:i<n):c i=true:=by
 grind
def nY(h:∀i,i<n->c i=true):(Kg n).all c=true:=by
 grind
def AD(h:(aO p x).2=0):plB (aO p x).1=true/\(aO p x).1.fs.length=p.fs.length/\∀i,((aO p x).1.fs.getD i Fm0).pg.id=(p.fs.getD i Fm0).pg.id:=by
 have h0:=h;unfold aO at h |-;split at h
 ·simp at h
 rename_i q1;split at h
 ·rename_i q;exact absurd h q
 rename_i q2;split at h
 ·simp at h
 rename_i q3;split at h
 ·simp at h
 rename_i q4;rw[if_neg q1,if_neg q2,if_neg q3,if_neg q4];have hp:plB p=true:=by simpa using q1
 have hc:Q5 x=0:=by simpa using q2
 rcases gK p.fs x.id with hn|⟨i,hi,hid,hpg⟩
 ·omega
 rw[hid,Jm] at q4 |-
 have hids:∀k,((p.fs.set i (cn (p.fs.getD i Fm0) x)).getD k Fm0).pg.id=(p.fs.getD k Fm0).pg.id:=fun k=>by
  by_cases hk:i=k
  ·subst hk;rw[Ja,Jy hi];exact hpg.symm
  ·rw[Ja,Jx hk,<-Ja]
 refine⟨?_,Jv,hids⟩;have hd:=lI hp;unfold plB;rw[Jd,decide_eq_true_eq];refine⟨by simp only[Pl.hd,Jv] at hd |-;exact hd,?_⟩;dsimp only;rw[Jv];refine nY fun j hj=>?_;have hfr:=jj hp hj
 have hdup:fR (p.fs.set i (cn (p.fs.getD i Fm0) x)) j=fR p.fs j:=by
  funext k;unfold fR;rw[hids k,hids j]
 have hfi:=jj hp hi;unfold frC at hfr hfi |-;rw[hdup];by_cases hij:i=j
 ·subst hij;have e1:(p.fs.set i (cn (p.fs.getD i Fm0) x)).getD i Fm0=cn (p.fs.getD i Fm0) x:=by rw[Ja,Jy hi];rfl
  rw[e1];unfold cn;dsimp only;have hok:=tS hc;generalize p.fs.getD i Fm0=f at *
  have hl0:0<=f.pg.lsn:=by
   unfold Pg.okB Pg.numB at hfi;simp only[Jd,decide_eq_true_eq] at hfi;omega
  rw[hok];cases hd2:f.dirty
  ·rw [hd2] at hfi;simp only[Jd] at hfi;rw[hfi.2];simp;omega
  ·rw [hd2] at hfi;simp only[Jd] at hfi;rw[hfi.2];simp at hfi |-;omega
 ·have e1:(p.fs.set i (cn (p.fs.getD i Fm0) x)).getD j Fm0 = p.fs.getD j Fm0:=by rw [Ja,Jx hij,<-Ja]
  rw[e1];exact hfr
def LG{lo hi hi' d:Int}(h:bP l lo hi d=true)(hh:hi<=hi'):bP l lo hi' d=true:=by
 unfold bP at h |-;refine nY fun i hi2=>?_;have:=qQ h hi2;rw[ja] at this |-;grind
def LH(hk:KI k)(ha:AddOk k e e')(h2:e.kind=2)(hu:(aO k.pl (bh k.pl e')).2=0):kB (k.set e')=true:=by
 have F:=ha.facts hk;have hlgv:=ha.lgB;obtain⟨v,s,ho,hl,hn,hnt,hnr,h0,hi,hp1,hp2⟩:=id ha;have hk2:e'.kind=2:=by rw[s.1];exact h2
 have htx0:0<e'.tx:=by have:=lS ho (.inr hk2);omega
 obtain⟨x1,x2,x3,x4⟩:=F.tx htx0;obtain⟨⟨a1,a2,a3,a4,a5,a6,a7⟩,b1,b2⟩:=qw v;obtain⟨p1,p2,p3⟩:=AD hu
 have hix:(aZ k.ix e').1=k.ix:=by
  rcases ku hnr with⟨_,g⟩|⟨g,_⟩
  ·exact g
  ·omega
 have hids:=nS hnt vz;have hlen:(QA k.tx e').1.length=k.tx.length:=by have:=congrArg List.length hids;simpa using this
 have hidg:∀i,((QA k.tx e').1.getD i Tx0).id=(k.tx.getD i Tx0).id:=fun i=>by
  by_cases q:i<k.tx.length
  ·have h1:((QA k.tx e').1.map (·.id))[i]? = (k.tx.map (·.id))[i]?:=by rw [hids]
   rw[J5,J5,JG q,JG vz] at h1;rw[Qd _ _ q,Qd _ _ vz];simpa using h1
  ·rw[Ja,Ja,JI vz,JI vz]
 have htb:al (QA k.tx e').1=true:=by
  unfold al;rw[Jd,hlen];refine⟨decide_eq_true (lG a5),nY fun j hj=>?_⟩
  have hold:tC k.tx j=true:=by
   unfold al at a5;rw[Jd] at a5;exact qQ a5.2 hj
  rw[lB] at hold |-;refine⟨?_,by rw[hidg,hidg];exact hold.2⟩;obtain⟨i,hil,q1,q2,_,_,q3⟩:=nU hnt vz;rcases q3 with⟨q3,_⟩|⟨_,q3⟩
  ·omega
  rw[q3];by_cases hij:i=j
  ·subst hij;rw[Ja,Jy hil];show(QD (aX k.tx[i] e')).okB=true
   have ht:=hk.cor.ok _ (Ji hil);have hasc:=LF hk.lg hk.f;have pb:=LB k.tx[i].id k.lg.es hasc;have lb:=(AC k.tx[i].id k.lg.es hasc).2.2 e'.lsn F.lt (by have:=F.pos;omega);have hn1:=ht.n;have hl1:=ht.l;have hol:=hold.1;rw[Qd _ _ hil] at hol
   have hmax:e'.lsn<=1099511627776:=by
    have h:=ho;unfold E.okB at h;simp only[Jd,decide_eq_true_eq] at h;omega
   have hl0:=je hol;generalize k.tx[i]=t at *;obtain⟨id,st,n,b,l,sv⟩:=t;dsimp only at *
   have hfil:bP (l.filter fun x=>decide (x≠e'.ref)) 1 e'.lsn 1=true:=by
    refine LC ?_ fun m hm=>?_
    ·rw[hl1];exact pb.1.sublist JW
    ·have:=pb.2.1 m (by rw [<-hl1];exact (Jq.1 hm).1);omega
   have hsv:bP sv 0 e'.lsn 0=true:=by
    unfold Tx.okB at hol;simp only[Jd] at hol;exact LG hol.2 (by first|omega|(dsimp only;omega))
   have hfl:(l.filter fun x=>decide (x≠e'.ref)).length<=4096:=Jo (JK _ _) hl0.1;unfold aX;dsimp only;rw[if_neg vz,if_pos hk2];unfold Tx.okB Tx.hdB at hol;simp only[Jd,JX,decide_eq_true_eq] at hol;unfold QD;split
   ·unfold Tx.okB Tx.hdB;dsimp only;rw[hfil,hsv];simp only[Kr,Jd,decide_eq_true_eq,JX];refine⟨⟨⟨⟨⟨⟨⟨⟨?_,?_⟩,?_⟩,?_⟩,?_⟩,?_⟩,?_⟩,?_⟩,?_⟩<;>first|omega|exact .inl trivial
   ·unfold Tx.okB Tx.hdB;dsimp only;rw[hfil,hsv];simp only[Kr,Jd,decide_eq_true_eq,JX];refine⟨⟨⟨⟨⟨⟨⟨⟨?_,?_⟩,?_⟩,?_⟩,?_⟩,?_⟩,?_⟩,?_⟩,?_⟩<;>first|omega|(rcases hol.1.1.1.1.2 with q|q;exact .inl q;exact .inr ⟨q.1,vz⟩)
  ·rw [Ja,Jx hij,<-Ja];exact hold.1
 have hVP:VP (k.set e'):=⟨⟨a1,a2,hlgv,p1,htb,by show ixB (aZ k.ix e').1=true;rw[hix];exact a6,by show(((aZ k.ix e').1.length:Nat):Int)=k.pg;rw[hix];exact a7⟩,b1,b2⟩
 unfold kB at v |-;simp only[Jd] at v |-;obtain⟨_,v1,v2,v3,v4⟩:=v;refine⟨(yQ _).2 hVP,?_,?_,v3,v4⟩
 ·show (Kg (QA k.tx e').1.length).all _ = true
  rw[hlen];refine nY fun j hj=>?_;have:=qQ v1 hj;unfold kT at this |-;show decide (((QA k.tx e').1.getD j Tx0).id<k.nx)=true
  rw[hidg];exact this
 ·show (Kg (aO k.pl (bh k.pl e')).1.fs.length).all _ = true
  rw[p2];refine nY fun j hj=>?_;have:=qQ v2 hj;unfold kF at this |-;show(decide (((aO k.pl (bh k.pl e')).1.fs.getD j Fm0).pg.id<k.pg)&&!(aM k.la ((aO k.pl (bh k.pl e')).1.fs.getD j Fm0).pg.id).2)=true
  rw[p3];exact this
def PutK.sub(h:PutK k x k'):∀f∈k'.pl.fs,f∈k.pl.fs\/f.pg=x:=fun f hf=>by
 cases h <;>
 ·rcases Jf.1 hf with q|q
  ·exact .inl q
  ·rw[Jc.1 q];exact .inr rfl
def PutK.KI{k k':Kn}{x:Pg}(h:PutK k x k')(hk:KI k):KI k':=by
 cases h with
 |put v hr hl _ _=>exact hk.put v hr hl
 |putl v hr hl _ hla=>exact hk.putl v hr hl hla
def PutK.KJ{k k':Kn}{x:Pg}(h:PutK k x k')(hj:KJ k)(hx:∀i:Nat,i<16->x.cel i=bG k.lg.es x.id i):KJ k':=by
 have hs:=h.sub;cases h <;>
 ·refine ⟨hj.log,fun f q i hi=>?_,hj.lk,hj.pgs⟩;rcases hs f q with w|w
  ·exact hj.cel f w i hi
  ·rw[w];exact hx i hi
def LI (h:Stp n k k') (hk:KI k) (hj:KJ k):KJ k':=by
 have self:∀f∈k.pl.fs,∃g∈k.pl.fs,g.pg=f.pg:=fun f q=>⟨f,q,rfl⟩
 cases h with
 |begin v hb =>
   refine hj.txs fun a h0 ⟨x,x1,x2⟩=>?_;have hne:a≠k.nx:=fun q=>by have:=hk.cor.ids x x1;omega
   obtain⟨g1,g2⟩:=iG h0;rw[uC hb] at g1 g2 |-;rcases mem_insT.1 g1 with w|w
   ·exact absurd (by rw[<-g2,w]) hne
   ·obtain ⟨w1,w2⟩:=jn (dW v).2.2.2.2.1 w;rw[g2] at w1 w2;rw[w2];exact⟨w1,id,rfl⟩
 |fin ha h3 hf=>exact hj.addN ha (by rw[ha.2.1.1];omega) rfl rfl rfl rfl self
 |ckpt ha h6 hc=>exact hj.addN ha (by rw[ha.2.1.1];omega) rfl rfl rfl rfl self
 |change ha h1 hs hx hu=>exact hj.setE hk ha (.inl h1) hs (fun _=>hx) hu
 |undo ha h2 hs hu=>exact hj.setE hk ha (.inr h2) hs (fun q=>by omega) hu
 |undol u ha h2 hs hu hl =>
   have hj2:=hj.setE hk ha (.inr h2) hs (fun q=>by omega) hu;exact⟨hj2.log,hj2.cel,fun a pg sl hN=>hl (LH hk ha h2 hu) a pg sl hN (hj2.lk a pg sl hN),hj2.pgs⟩
 |wrt ha h7 hw=>exact hj.addN ha (by rw[ha.2.1.1];omega) rfl rfl rfl rfl (AB ha h7 hw)
 |lock u hl=>exact⟨hj.log,hj.cel,fun a pg sl hN=>hl a pg sl hN (hj.lk a pg sl hN),hj.pgs⟩
 |save a h =>
   obtain⟨i,hi,e⟩:=uA h;rw[e];exact hj.txs fun b h0 _=>AA (u:={ k.tx[i] with s:=k.tx[i].s++[k.tx[i].n] }) (Lz h) hi rfl rfl Iff.rfl h0
 |back a b h =>
   obtain⟨i,hi,u,e,h1,h2,h3,h4⟩:=uB h;rw[e];exact hj.txs fun b h0 _=>AA (LA h) hi h1 h3 h4 h0
 |rem a htb hi hn =>
   refine hj.txs fun b h0 ⟨x,x1,x2⟩=>?_;obtain⟨g1,g2⟩:=iG h0;obtain⟨w1,w2⟩:=jn htb (mem_remS.1 g1).1;rw[g2] at w1 w2;rw[w2];exact⟨w1,id,rfl⟩
 |pool p hs=>exact hj.pool fun f q=>by obtain⟨g,g1,g2,_⟩:=hs.mem q;exact⟨g,g1,g2⟩
 |drop a h =>
   obtain⟨i,_,hf⟩:=uE h;refine hj.pool fun f q=>?_;rw[hf] at q;rcases Jf.1 q with q|q
   ·exact⟨f,JU q,rfl⟩
   ·exact⟨f,JV q,rfl⟩
 |force d hd h=>exact⟨hj.log,hj.cel,hj.lk,hj.pgs⟩
section
structure RQ(s:List UInt8) where
 at_:Nat
 sh:Bool
 ha:at_<=s.length
def rbQ(T:TypeId)(s:List UInt8)(r:RQ s):Blk:=⟨T,true,[.pv (.str s),.int .i64 r.at_,.bool r.sh]⟩
theorem LJ(T:TypeId)(s:List UInt8)(r:RQ s):DV.nums.go (fun _=>false) (rbQ T s r).cells=true:=rfl
def az(s:List UInt8)(k:Nat)(r:RQ s):Int×RQ s:=
 if h:r.sh=true\/¬r.at_+k<=s.length then (0,⟨r.at_,true,r.ha⟩) else (IntKind.i64.wrap (aW s r.at_ k),⟨r.at_+k,false,vz⟩)
def nZ(h:r.sh=true\/¬r.at_+k<=s.length):az s k r=(0,⟨r.at_,true,r.ha⟩):=by unfold az;rw[dif_pos h]
def qR(h:r.sh=false)(h':r.at_+k<=s.length):az s k r=(IntKind.i64.wrap (aW s r.at_ k),⟨r.at_+k,false,h'⟩):=by
 unfold az;rw[dif_neg (fun z=>z.elim (fun z=>by rw[h] at z;cases z) (fun z=>z h'))]
def RQ.lim{s:List UInt8}(r:RQ s):Nat:=r.at_+(if r.sh then 4 else 0)
def RQ.lim_le(r:RQ s):r.lim<=s.length+4:=by have:=r.ha;unfold RQ.lim;split<;>omega
def uH(hk:4<=k)(r:RQ s)(hr:r.sh=false):r.lim+4<=(az s k r).2.lim:=by
 by_cases h:r.at_+k<=s.length
 ·rw[qR hr h];simp only[RQ.lim,hr];simp;omega
 ·rw[nZ (.inr h)];simp only[RQ.lim,hr];simp
def qS(r:RQ s):r.lim<=(az s k r).2.lim:=by
 cases hr:r.sh
 ·by_cases h:r.at_ + k<=s.length
  ·rw[qR hr h];simp only[RQ.lim,hr];simp
  ·rw[nZ (.inr h)];simp only[RQ.lim,hr];simp
 ·rw[nZ (.inl hr)];simp only[RQ.lim,hr];simp
def AE(r:RQ s): -9223372036854775808<=(az s k r).1/\(az s k r).1<=9223372036854775807:=by
 unfold az;split
 ·dsimp only;omega
 ·dsimp only;rw[IntKind.wrap_i64];omega
def rdN(s:List UInt8):Nat->List Int->RQ s->List Int×RQ s
 |0,out,r=>(out,r)
 |n+1,out,r=>if r.sh=true then (out,r) else rdN s n (out++[(az s 8 r).1]) (az s 8 r).2
def LK(h:r.sh=true):rdN s n out r=(out,r):=by cases n;rfl;rw[rdN,if_pos h]
def uI:∀(n:Nat) (out:List Int) (r:RQ s),4 * out.length<=r.lim->4 * (rdN s n out r).1.length<=(rdN s n out r).2.lim/\r.lim<=(rdN s n out r).2.lim
 |0,_,_,h=>⟨h,JC _⟩
 |n + 1,out,r,h=>by
   unfold rdN;split
   ·exact⟨h,JC _⟩
   ·rename_i hr;have h1:=uH (k:=8) vz r (by simpa using hr);have h2:=uI n (out++[(az s 8 r).1]) (az s 8 r).2 vg;exact⟨h2.1,vz⟩
def eg(s:List UInt8)(k:Nat)(r:RQ s):List Int×RQ s:=rdN s (az s k r).1.toNat [] (az s k r).2
def AF(r:RQ s):4*(eg s k r).1.length<=s.length+4:=Jo (uI _ _ _ (Jh _)).1 (RQ.lim_le _)
def AG(r:RQ s):r.lim<=(eg s k r).2.lim:=Jo (qS r) (uI _ _ _ (Jh _)).2
def txS(s:List UInt8)(r:RQ s):Tx×RQ s:=
 let a:=az s 4 r
 let b:=az s 1 a.2
 let c:=az s 8 b.2
 let d:=az s 8 c.2
 let q:=eg s 2 d.2
 let v:=eg s 1 q.2
 (⟨a.1,b.1,c.1,d.1,q.1,v.1⟩,v.2)
def AH(r:RQ s)(hr:r.sh=false):r.lim+4<=(txS s r).2.lim:=by
 have h1:=uH (k:=4) vz r hr;refine Jo h1 ?_;unfold txS;refine Jo (qS _) (Jo (qS _) (Jo (qS _) (Jo (AG _) (AG _))))
def LL(hs:s.length<=3000000)(r:RQ s):(txS s r).1.sm:=⟨by have:=AF (k:=2) (az s 8 (az s 8 (az s 1 (az s 4 r).2).2).2).2;show(eg s 2 _).1.length<=_;omega,by have:=AF (k:=1) (eg s 2 (az s 8 (az s 8 (az s 1 (az s 4 r).2).2).2).2).2;show(eg s 1 _).1.length<=_;omega⟩
def rdT(s:List UInt8):Nat->List Tx->RQ s->List Tx×RQ s
 |0,out,r=>(out,r)
 |n+1,out,r=>if r.sh=true then (out,r) else rdT s n (out++[(txS s r).1]) (txS s r).2
def LM(h:r.sh=true):rdT s n out r=(out,r):=by cases n;rfl;rw[rdT,if_pos h]
def AJ:∀(n:Nat) (out:List Tx) (r:RQ s),4 * out.length<=r.lim->4 * (rdT s n out r).1.length<=(rdT s n out r).2.lim
 |0,_,_,h=>h
 |n + 1,out,r,h=>by
   unfold rdT;split
   ·exact h
   ·rename_i hr;have h1:=AH r (by simpa using hr);exact AJ n (out++[(txS s r).1]) (txS s r).2 vg
def AK (hs:s.length<=3000000):∀(n:Nat) (out:List Tx) (r:RQ s),(∀t ∈ out,t.sm)->∀t ∈ (rdT s n out r).1,t.sm
 |0,_,_,h=>h
 |n + 1,out,r,h=>by
   unfold rdT;split
   ·exact h
   ·refine AK hs n _ _ fun t ht=>?_;rcases Jf.1 ht with h1|h1
    ·exact h t h1
    ·rw[Jc.1 h1];exact LL hs r
def rq0(s:List UInt8):RQ s:=⟨0,false,Jh _⟩
def rdA(s:List UInt8):List Tx×RQ s:=rdT s (az s 2 (rq0 s)).1.toNat [] (az s 2 (rq0 s)).2
def LN(hs:s.length<=3000000):smL (rdA s).1:=
 ⟨by have:=AJ (az s 2 (rq0 s)).1.toNat [] (az s 2 (rq0 s)).2 (Jh _);have h2:=(rdA s).2.lim_le;unfold rdA at h2 |-;omega,AK hs _ _ _ vv⟩
def jo(s:List UInt8):List Tx×Int:=
 if (rdA s).2.sh=true then ([],5) else if ((rdA s).2.at_:Int)≠s.length then ([],4) else if al (rdA s).1=false then ([],15) else ((rdA s).1,0)
abbrev RY(T:TypeId)(s:List UInt8)(v:DV)(q:RQ s):DV->Qb->Prop:=fun r h'=>∃B',h'=[B']/\B'.live=true/\DV.nums.go (fun _=>false) B'.cells=true/\r.nums (fun _=>false)=true/\(r=v/\B'=rbQ T s q)
def iH(h:VCalls prog g (args.map (DV.ren fun _=>0)) [rbQ T s r] (RY T s v q))(hk:hp[k]?=some (rbQ T s r))(ha:DV.nums.go (fun i=>i==k) args=true)(hK:K v (hp.set k (rbQ T s q))):VCalls prog g args hp K:=
 (VCalls.ptr1 (R:=fun x B'=>x=v/\B'=rbQ T s q) hk rfl (LJ T s r) h ha).mono fun x h' ⟨B',e1,_,_,e2,e3⟩=>by subst e1 e2 e3;exact hK
attribute [local go_sem] rbQ
attribute [local go_sem] j5 lE nA nB fP fu
@[go_sem] def lb(l:List Int):DV:=.pv (.sl (fz Q7 l))
def kA(s:List UInt8)(hs:s.length<=3000000)(k:Nat)(h1:1<=k)(h8:k<=8)(r:RQ s):VCalls prog 242 [.ptr 0 0,.int .i64 k] [rbQ 352 s r] (RY 352 s (.int .i64 (az s k r).1) (az s k r).2):=by
 refine dd Tryz.func242 ?_;have ha:=r.ha;by_cases h:r.at_+k<=s.length
 ·have c1:=lr s vz r.at_ k ⟨h1,h8⟩ h;cases hr:r.sh
  ·rw [qR hr h];have F:=@hr;refine rn F ?_
   repeat' (first|with_reducible exact⟨⟩|refine vp F (c1) ?_|(refine Qf (id:=1) [0,1,2,3,4,5,6,7,8] [⟨[],[],9,[0,1,2,4,5,6],[10,11,12]⟩,⟨[],[],13,[12],[]⟩,⟨[],[],14,[],[]⟩] vw vw ?_;refine rn F ?_))
   all_goals exact⟨_,rfl,rfl,rfl,rfl,rfl,rfl⟩
  ·rw [nZ (.inl hr)];have F:=@hr;refine rn F ?_
   repeat' (first|with_reducible exact⟨⟩|refine vp F (c1) ?_|(refine Qf (id:=1) [0,1,2,3,4,5,6,7,8] [⟨[],[],9,[0,1,2,4,5,6],[10,11,12]⟩,⟨[],[],13,[12],[]⟩,⟨[],[],14,[],[]⟩] vw vw ?_;refine rn F ?_))
   all_goals exact⟨_,rfl,rfl,rfl,rfl,rfl,(by first|rfl|simp only[rbQ,hr])⟩
 ·have c1:=pK s r.at_ k vz vz vz;rw[nZ (.inr h)];have F:=trivial;refine rn F ?_
  repeat' (first|with_reducible exact⟨⟩|(refine sG F ?_ ?_<;>intro hZ)|refine vp F (c1) ?_|(refine Qf (id:=1) [0,1,2,3,4,5,6,7,8] [⟨[],[],9,[0,1,2,4,5,6],[10,11,12]⟩,⟨[],[],13,[12],[]⟩,⟨[],[],14,[],[]⟩] vw vw ?_;refine rn F ?_))
  all_goals exact⟨_,rfl,rfl,rfl,rfl,rfl,rfl⟩
structure LSrnum(s:List UInt8)(fin:List Int×RQ s) where
 n:Int
 out:List Int
 r:RQ s
 hn : -9223372036854775808<=n/\n<=9223372036854775807
 ho:4*out.length<=r.lim
 he:rdN s n.toNat out r=fin
def AL(s:List UInt8)(hs:s.length<=3000000)(k:Nat)(h1:1<=k)(h8:k<=8)(r:RQ s):VCalls prog 243 [.ptr 0 0,.int .i64 k] [rbQ 352 s r] (RY 352 s (lb (eg s k r).1) (eg s k r).2):=by
 refine dd Tryz.func243 ?_;refine rn F ?_;refine iH (k:=0) (kA s hs k h1 h8 r) rfl rfl ?_;refine rn trivial ?_;refine VLoop.nilOwn 5 3 1 rfl ?_;refine Qj (fun t:LSrnum s (eg s k r)=>⟨27,1,[(6,.int .i64 t.n),(5,.own 1 1 0 t.out.length),(0,.ptr 0 0)],[rbQ 352 s t.r,⟨3,true,cells Q7 t.out⟩]⟩) (fun t=>t.n.toNat) ⟨(az s k r).1,[],(az s k r).2,AE r,Jh _,rfl⟩ (gc [0,1]) ?_;rintro⟨n,out,q,hn,ho,he⟩;dsimp only;have hl:=q.lim_le;have hl1:out.length+1<=1000000:=vz;have hb:(out.length+1)*8<=140737488355328:=vz;obtain⟨a,sh,ha⟩:=q;cases sh
 ·by_cases h0:0 < n
  ·have e:n.toNat = (n - 1).toNat + 1:=vz;rw[e,rdN,if_neg vv] at he;have hm:=uH (k:=8) vz (⟨a,false,ha⟩:RQ s) rfl;have F:=(Jb @h0 (Jb @iq @hb))
   refine rn F ?_;refine iH (k:=0) (kA s hs 8 vz vz ⟨a,false,ha⟩) rfl rfl ?_;have F:=(Jb @iq @hb)
   refine rn F ?_;refine⟨⟨n-1,_,_,vz,vg,he⟩,by show(n-1).toNat<n.toNat;omega,?_⟩;dsimp only;rw[Je];exact(gc [0,3])
  ·have e:n.toNat = 0:=vz;rw[e,rdN] at he;have F:=(Jb @iq @hb)
   (refine rn F ?_;try with_reducible exact⟨⟩)
   all_goals exact⟨_,rfl,rfl,rfl,rfl,(by rw[<-he];try rfl),(by rw[<-he];try rfl)⟩
 ·rw [LK rfl] at he;have F:=(Jb @iq @hb)
  refine rn F ?_
  repeat' (first|with_reducible exact⟨⟩|(refine sG F ?_ ?_<;>intro hZ))
  all_goals exact⟨_,rfl,rfl,rfl,rfl,(by rw[<-he];try rfl),(by rw[<-he];try rfl)⟩
structure DTrnum(s:List UInt8) where
 n:Int
 out:List Tx
 r:RQ s
 hn : -9223372036854775808<=n/\n<=9223372036854775807
 ho:4*out.length<=r.lim
 he:rdT s n.toNat out r=rdA s
def LO(s:List UInt8)(hs:s.length<=3000000):VCalls prog 240 [.pv (.str s)] [] (Ret (lF (jo s))):=by
 refine VCalls.unwk ?_;refine dd Tryz.func240 ?_;refine rn F ?_;refine iH (k:=0) (kA s hs 2 vz vz (rq0 s)) rfl rfl ?_;refine rn trivial ?_;refine VLoop.nilOwn 5 64 6 rfl ?_;refine Qj (fun t:DTrnum s=>⟨64,0,[(6,.int .i64 t.n),(5,.own 1 6 0 t.out.length),(4,.ptr 0 0),(0,.pv (.str s))],[rbQ 352 s t.r,⟨64,true,cells ai t.out⟩]⟩) (fun t=>t.n.toNat) ⟨(az s 2 (rq0 s)).1,[],(az s 2 (rq0 s)).2,AE _,Jh _,rfl⟩ (gc [0,1]) ?_;rintro⟨n,out,q,hn,ho,he⟩;dsimp only;have hl:=q.lim_le;have hb:(out.length+1)*80<=140737488355328:=vz;have hsm:=LN hs;have ed:jo s=if (rdA s).2.sh=true then ([],5) else if ((rdA s).2.at_:Int)≠s.length then ([],4) else if al (rdA s).1=false then ([],15) else ((rdA s).1,0):=rfl
 obtain⟨a,sh,ha⟩:=q;cases sh
 ·by_cases h0:0 < n
  ·have e:n.toNat = (n - 1).toNat + 1:=vz;rw[e,rdT,if_neg vv] at he;have hm:=AH (⟨a,false,ha⟩:RQ s) rfl;simp only[txS] at he hm;have cA:=kA s hs 4 vz vz ⟨a,false,ha⟩;generalize az s 4 ⟨a,false,ha⟩=A at cA he hm;have cB:=kA s hs 1 vz vz A.2;generalize az s 1 A.2=B at cB he hm;have cC:=kA s hs 8 vz vz B.2;generalize az s 8 B.2=C at cC he hm;have cD:=kA s hs 8 vz vz C.2;generalize az s 8 C.2=D at cD he hm;have cE:=AL s hs 2 vz vz D.2;generalize eg s 2 D.2=E at cE he hm;have cF:=AL s hs 1 vz vz E.2;generalize eg s 1 E.2=W at cF he hm;have F:=(Jb @h0 (Jb @fu @hb))
   refine rn F ?_;refine iH (k:=0) cA rfl rfl ?_;have F:=(Jb @h0 (Jb @fu @hb))
   refine rn F ?_;refine iH (k:=0) cB rfl rfl ?_;have F:=(Jb @h0 (Jb @fu @hb))
   refine rn F ?_;refine iH (k:=0) cC rfl rfl ?_;have F:=(Jb @h0 (Jb @fu @hb))
   refine rn F ?_;refine iH (k:=0) cD rfl rfl ?_;have F:=(Jb @h0 (Jb @fu @hb))
   refine rn F ?_;refine iH (k:=0) cE rfl rfl ?_;have F:=(Jb @h0 (Jb @fu @hb))
   refine rn F ?_;refine iH (k:=0) cF rfl rfl ?_;have F:=(Jb @h0 (Jb @fu @hb))
   refine rn F ?_;refine⟨⟨n-1,_,_,vz,vg,he⟩,by show(n-1).toNat<n.toNat;omega,?_⟩;dsimp only;have e2:cells ai out++[.pv (.lit (.int .i64 A.1)),.pv (.lit (.int .i64 B.1)),.pv (.lit (.int .i64 C.1)),.pv (.lit (.int .i64 D.1)),.pv (.sl (fz Q7 E.1)),.pv (.sl (fz Q7 W.1))]=cells ai (out++[⟨A.1,B.1,C.1,D.1,E.1,W.1⟩]):=fu out ⟨A.1,B.1,C.1,D.1,E.1,W.1⟩;rw[Je];rw[e2];exact(gc [0,4])
  ·have e:n.toNat = 0:=vz;rw[e,rdT] at he;rw[<-he] at ed hsm;have c1:=j4 out hsm;rw[ed];by_cases h1:(a:Int)=s.length
   ·cases hv:al out
    ·rw [hv] at c1;dsimp only;rw[if_neg vv,if_neg (by simpa using h1),if_pos (by first|rfl|exact hv)];have F:=(Jb @h0 (Jb @h1 @hb))
     refine rn F ?_
     repeat' (first|with_reducible exact⟨⟩|refine vl F (c1) ?_)
     all_goals first|rfl|contradiction
    ·rw [hv] at c1;dsimp only;rw[if_neg vv,if_neg (by simpa using h1),if_neg (by first|simp;done|(rw[hv];simp))];have F:=(Jb @h0 (Jb @h1 @hb))
     refine rn F ?_
     repeat' (first|with_reducible exact⟨⟩|refine vl F (c1) ?_)
     all_goals first|rfl|contradiction
   ·dsimp only;rw[if_neg vv,if_pos (by simpa using h1)];have F:=(Jb @h0 (Jb @h1 @hb))
    (refine rn F ?_;try with_reducible exact⟨⟩)
    all_goals first|rfl|contradiction
 ·rw [LM rfl] at he;rw[<-he] at ed;rw[ed];dsimp only;rw[if_pos rfl];have F:=@hb;refine rn F ?_
  repeat' (first|with_reducible exact⟨⟩|(refine sG F ?_ ?_<;>intro hZ))
  all_goals first|rfl|contradiction
end
def AM(c:Cp)(h:c.sm):VCalls prog 146 [.agg c.d] [] (QM boD fun b=>b=true->CkV c):=by
 refine dd Tryz.func146 ?_;obtain⟨h1,h2,h3⟩:=h;have h10:=h1.1;have c1:=j4 c.tx (h1.smL vz);have c2:=fun n=>yP c.dl vz n;have c3:=lK c.ix vz;have e:CkV c=((1<=c.pg/\c.pg<=64)/\(1<=c.nx/\c.nx<=1073741825)/\al c.tx=true/\laB c.dl c.pg=true/\ixB c.ix=true/\(c.ix.length:Int)=c.pg):=rfl;generalize al c.tx=b1 at *;generalize ixB c.ix=b2 at *;refine rn F ?_
 repeat' (first|with_reducible exact⟨⟩|(refine sG F ?_ ?_<;>intro hZ)|(refine sB F ?_ ?_<;>intro hZ)|refine vp F (c1) ?_|(refine Qs (c2 _) rfl ?_;rintro b3 hb3;refine rn F ?_)|refine vp F (c3) ?_)
 all_goals first|exact⟨rfl,rfl,false,rfl,fun h=>by cases h⟩|skip
 all_goals
  have hV:CkV c:=by
   rw[e];refine⟨⟨vz,vz⟩,⟨vz,vz⟩,?_,?_,?_,?_⟩<;>first|assumption|omega|(simp_all;done)
  refine Qj (fun s:To c.tx.length=>⟨67,0,[(3,.int .i64 s.i),(1,.ptr 0 0)],[⟨211,true,c.d⟩]⟩) (fun s=>c.tx.length-s.i) ⟨0,Jh _⟩ (gc [0]) ?_;rintro⟨i,hi⟩;dsimp only;have hg:=fun h:i<c.tx.length=>dx c.tx i h;have F:=@hg;refine rn F ?_
  repeat' (first|with_reducible exact⟨⟩|(refine sB F ?_ ?_<;>intro hZ)|(refine Qf (id:=6) [0,1,2,3,4,5,6,7,8] [] vw vw ?_;refine rn F ?_))
 all_goals first|exact⟨rfl,rfl,false,rfl,fun h=>by cases h⟩|exact⟨rfl,rfl,true,rfl,fun _=>hV⟩|exact⟨⟨i+1,vz⟩,vu,(gc [0])⟩|skip
def qT:∀(l:List Dt) (s:List UInt8),(cS s l).length = s.length + 17 * l.length
 |[],s=>by simp[cS]
 |t :: r,s=>by
   show(cS (iC s t) r).length=_
   rw[qT r];unfold iC;rw[Qe,Qe,Qe,JP];omega
def AN(s:List UInt8)(l:List Dt)(i:Nat)(h:i<l.length):cS s (l.take (i+1))=iC (cS s (l.take i)) (l.getD i Dt0):=by
 rw[Jk h,cS,JB,Qd l i h];rfl
def LP(c:Cp)(a:List UInt8×Int):Prop:=a.1.length<=300000000/\(a.1=[]\/CkV c/\a.1=aP c)
def LQ(c:Cp)(h:c.sm):VCalls prog 109 [.agg c.d] [] (QM siD (LP c)):=by
 refine dd Tryz.func109 ?_;have c1:=AM c h;obtain⟨h1,h2,h3⟩:=h;have c2:=Lb c.tx h1;have c3:=Lc c.ix h3;have p1:=Q4 [] vv c.pg 2 vz vz;have p2:=Q4 (Ql [] c.pg 2) (by rw[Qe];simp) c.nx 4 vz vz;refine rn F ?_;refine Qs c1 rfl ?_;rintro b hb;cases b
 ·skip
  refine rn F ?_;exact⟨rfl,rfl,([],24),rfl,vv,.inl rfl⟩
 have hV:=hb rfl;obtain⟨_,_,v3,v4,v5,_⟩:=hb rfl;have hle:=Ag v3;have hlx:=Ai c.ix;have eck:aP c=cS (Ql (Ql (Ql (Ql [] c.pg 2) c.nx 4) (aU c.tx).length 4++aU c.tx) c.dl.length 1) c.dl++ca c.ix:=rfl;replace c2:=c2 v3;replace c3:=c3 v5;generalize aU c.tx=t at *;generalize ca c.ix=w at *;have p3:=Q4 (Ql (Ql [] c.pg 2) c.nx 4) (by rw[Qe,Qe];simp) t.length 4 vz vz;have l3:(Ql (Ql (Ql [] c.pg 2) c.nx 4) t.length 4).length=10:=by rw[Qe,Qe,Qe];simp
 have hadd:=ji (a:=Ql (Ql (Ql [] c.pg 2) c.nx 4) t.length 4) (b:=t) vz;have p4:=Q4 (Ql (Ql (Ql [] c.pg 2) c.nx 4) t.length 4++t) (by rw[Je];omega) c.dl.length 1 vz vz;have l4:(Ql (Ql (Ql (Ql [] c.pg 2) c.nx 4) t.length 4++t) c.dl.length 1).length=11+t.length:=by rw[Qe,Je];omega
 have F:=@hadd;refine rn F ?_
 repeat' (first|with_reducible exact⟨⟩|refine vp F (p1) ?_|refine vp F (p2) ?_|refine vp F (c2) ?_|refine vp F (p3) ?_|refine vp F (p4) ?_)
 generalize Ql (Ql (Ql (Ql [] c.pg 2) c.nx 4) t.length 4++t) c.dl.length 1=u at *;refine Qj (fun r:To c.dl.length=>⟨77,0,[(7,.int .i64 r.i),(6,.pv (.str (cS u (c.dl.take r.i)))),(1,.ptr 0 0)],[⟨211,true,c.d⟩]⟩) (fun r=>c.dl.length-r.i) ⟨0,Jh _⟩ (gc [0]) ?_;rintro⟨i,hi⟩;dsimp only;have hy:=fun h:i<c.dl.length=>iz c.dl i h;have hlen:=qT (c.dl.take i) u;rw[Jt] at hlen;have hsc:=AN u c.dl i;have hend:c.dl.length<=i->c.dl.take i=c.dl:=fun h=>Jl h;by_cases hc:i<c.dl.length
 ·replace hsc:=hsc hc;generalize cS u (c.dl.take i)=s at *;generalize c.dl.getD i Dt0=x at *;unfold iC at hsc;have q1:=Q4 s vz x.pg 1 vz vz;have q2:=Q4 (Ql s x.pg 1) (by rw[Qe];omega) x.rc 8 vz vz;have q3:=Q4 (Ql (Ql s x.pg 1) x.rc 8) (by rw[Qe,Qe];omega) x.last 8 vz vz;have F:=@hy;refine rn F ?_
  repeat' (first|with_reducible exact⟨⟩|refine vp F (q1) ?_|refine vp F (q2) ?_|refine vp F (q3) ?_)
  refine⟨⟨i+1,vz⟩,vu,?_⟩;dsimp only;rw[hsc];exact(gc [0])
 ·rw [hend vz] at hlen |-;generalize cS u c.dl=v at *;have hadd2:=ji (a:=v) (b:=w) vz;have F:=(Jb @hy @hadd2)
  refine rn F ?_
  repeat' (first|with_reducible exact⟨⟩|refine vp F (c3) ?_)
  exact⟨rfl,rfl,(v++w,0),rfl,by dsimp only;rw[Je];omega,.inr ⟨hV,eck.symm⟩⟩
def qU(h:(QY x n).2=0):Ev x (QY x n).1:=by
 unfold QY at h |-;split at h
 ·simp at h
 rename_i q1;split at h
 ·simp at h
 rename_i q2;rw[if_neg q1,if_neg q2];refine⟨rfl,by dsimp only;split<;>omega,List.prefix_rfl,fun hv=>?_⟩;have hd:=bz hv;unfold lgB at hv |-;simp only[Jd,decide_eq_true_eq] at hv |-;refine⟨?_,hv.2⟩;simp only[Lg.hd,Lg.end_] at hd q2 |-;split<;>omega
def AO(x:Lg)(n:Int)(h:x.es.length<=4096):(QY x n).1.es.length<=4096:=by
 unfold QY;repeat' split
 all_goals first|exact Jh _|exact h
def LR(hq:dY k e (k1,n1,e1))(h:e1=0):(QY k1.lg n1).2=0:=by
 obtain⟨e',⟨_,_,_,hl,_⟩,hk,hn,hv⟩:=hq.2 h;dsimp only at hk hn hv;subst hk;unfold QY;rw[if_neg (by rw[hv];decide),if_neg];simp only[Kn.add,Lg.end_,Je,JP,JS] at *;omega
def qV(h:(QY x n).2=0):(QY x n).1=⟨x.f,x.es,(QY x n).1.d⟩:=by
 unfold QY at h |-;grind
def AP(k:Kn)(a:Kn×Int×Int):Prop:=a.1.sm/\(a.2.2=0->Str 1 k a.1)
def LS(k:Kn)(h:k.sm):VCalls prog 84 [.agg k.d] [] (QM kie (AP k)):=by
 refine dk Tryz.func84 ?_;have c1:=Li k h;have c2:=fun c hc=>LQ c hc;have c3:=fun t=>kg k h ⟨0,6,0,0,0,0,Ch0,t⟩;have e0:∀n e,e≠0->AP k (Kn0,n,e):=fun n e h=>⟨dy,fun h2=>absurd h2 h⟩
 refine rn F ?_
 repeat' (first|with_reducible exact⟨⟩|(refine sB F ?_ ?_<;>intro hZ)|(refine Qs (c1) rfl ?_;rintro⟨c,e⟩ hc;refine rn F ?_)|(refine Qs (c2 c hc.1) rfl ?_;rintro⟨t,e2⟩ ht;refine rn F ?_)|(refine Qs (c3 _) rfl ?_;rintro⟨k1,n1,e1⟩ hq;refine rn F ?_)|refine vp F (tT k1.lg (Jo hq.1.1 vj) n1) ?_)
 all_goals first|exact⟨rfl,rfl,(Kn0,0,21),rfl,e0 _ _ vj⟩|exact⟨rfl,rfl,(Kn0,0,e),rfl,e0 _ _ vq⟩|exact⟨rfl,rfl,(Kn0,0,e1),rfl,e0 _ _ vq⟩|skip
 have he1:e1=0:=vz;obtain⟨r1,r2,r3,r4,r5,r6⟩:=hq.1;have hf0:=LR hq he1;obtain⟨e',ha,hk1,_,_⟩:=hq.2 he1;dsimp only at hk1
 have qs:Str 1 k k1:=by
  rw[hk1];refine .one (.ckpt ha rfl ?_);rcases ht.2 with h|⟨h,h'⟩
  ·exact .inl h
  ·exact .inr ⟨c,hc.2 wx,h,h'⟩
 have qf:=Stp.force (k:=k1) (QY k1.lg n1).1.d (qU hf0).d fun _=>by
  have:=(qU hf0).ok (hq.2 he1).choose_spec.2.2.2;rw[qV hf0] at this;exact this
 rw[<-qV hf0] at qf;exact⟨rfl,rfl,(⟨k1.pg,k1.nx,(QY k1.lg n1).1,k1.pl,k1.lk,k1.tx,k1.ix,k1.la⟩,n1,0),rfl,⟨AO _ _ r1,r2,r3,r4,r5,r6⟩,fun _=>qs.step qf⟩
def LU(s:Sv)(hs:s.sm):VCalls prog 58 [.agg s.d] [] (QM Aa fun a=>a.1.sm/\(a.2.2=0->Sst 1 s a.1)):=by
 refine dk Tryz.func58 ?_;have c1:=LS s.k hs.1;refine rn F ?_
 repeat' (first|with_reducible exact⟨⟩|(refine sB F ?_ ?_<;>intro hZ)|(refine Qs (c1) rfl ?_;rintro⟨k1,n1,e1⟩ hq;refine rn F ?_))
 all_goals first|exact⟨rfl,rfl,(Sv0,0,e1),rfl,fU,fun h=>absurd h vq⟩|exact⟨rfl,rfl,(⟨k1,s.v⟩,n1,0),rfl,⟨hq.1,hs.2⟩,fun _=>(hq.2 vu).sv s.v⟩|skip
def Pre(q s:List UInt8):Prop:=∃u,s=q++u
def Pre.trans(h:Pre p q)(h':Pre q s):Pre p s:=by
 obtain⟨u,rfl⟩:=h;obtain⟨v,rfl⟩:=h';exact⟨u++v,by rw[JM]⟩
def Pre.refl(s:List UInt8):Pre s s:=⟨[],vv⟩
def Pre.len(h:Pre p s):p.length<=s.length:=by obtain⟨u,rfl⟩:=h;simp
def QV(s:List UInt8)(n:Int)(k:Nat):Pre s (Ql s n k):=⟨_,rfl⟩
def jq:∀(l:List Int) (s:List UInt8),Pre s (cJ s l)
 |[],s=>.refl s
 |a::r,s=>(QV s a 8).trans (jq r (Ql s a 8))
def LV(s:List UInt8)(t:Tx):Pre s (dZ s t):=by
 unfold dZ;exact(QV _ _ _).trans ((QV _ _ _).trans ((QV _ _ _).trans ((QV _ _ _).trans ((QV _ _ _).trans ((jq _ _).trans ((QV _ _ _).trans (jq _ _)))))))
def uJ:∀(l:List Tx) (s:List UInt8),Pre s (ee s l)
 |[],s=>.refl s
 |a::r,s=>(LV s a).trans (uJ r (dZ s a))
def fit(n:Int)(k:Nat):Prop:=(k<=7/\0<=n/\n<2 ^ (8*k))\/(k=8/\-9223372036854775808<=n/\n<=9223372036854775807)
def AQ(n:Int)(k:Nat)(h:fit n k):IntKind.i64.wrap ((u64N n % 2 ^ (8*k):Nat):Int)=n:=by
 rcases h with⟨hk,h0,h1⟩|⟨rfl,h1⟩
 ·rw [Fs n (8 * k) vz];have hp:(2:Nat) ^ (8*k)<=2 ^ 56:=JD vz vz;have e2:((2:Int) ^ (8*k))=((2 ^ (8*k):Nat):Int):=by rw[Kl];rfl
  rw[e2] at h1;generalize 2 ^ (8*k)=z at *;have e3:u64N n=n.toNat:=by unfold u64N;omega
  rw[e3,Nat.mod_eq_of_lt vz];omega
 ·exact Fq n h1
def LW(e:a=b):(⟨a,sh,ha⟩:RQ s)=⟨b,sh,hb⟩:=by subst e;rfl
def kC(hp:Pre (Ql p n k) s)(hk:1<=k)(hf:fit n k)(ha:a<=s.length)(e:a=p.length):
 ∃h,az s k ⟨a,false,ha⟩=(n,⟨(Ql p n k).length,false,h⟩):=by
 subst e;have hl:=hp.len;have hl0:=hp.len;have hk8:k<=8:=by rcases hf with h|h<;>omega
 rw[Qe] at hl;rw[qR rfl hl];obtain⟨t,rfl⟩:=hp;refine⟨hl0,?_⟩;dsimp only;rw[nm p t n k hk8 k (JC _),AQ n k hf];exact congrArg (Prod.mk n) (LW (Qe _ _ _).symm)
def AR:∀(l:List Int) {s p:List UInt8} (_:Pre (cJ p l) s) (_:∀n ∈ l,fit n 8) (out:List Int) {a:Nat} (ha:a<=s.length) (_:a = p.length),
 ∃h,rdN s l.length out ⟨a,false,ha⟩=(out++l,⟨(cJ p l).length,false,h⟩)
 |[],s,p,hp,_,out,a,ha,e=>⟨hp.len,by subst e;rw[JY];rfl⟩
 |n :: r,s,p,hp,hf,out,a,ha,e=>by
   obtain⟨h1,e1⟩:=kC (p:=p) (n:=n) (k:=8) ((jq r _).trans hp) vz (hf n vv) ha e;obtain⟨h2,e2⟩:=AR r (p:=Ql p n 8) hp (fun m hm=>hf m (Jz _ hm)) (out++[n]) h1 rfl;refine⟨h2,?_⟩;rw[JP,rdN,if_neg vv,e1,e2,JM];rfl
def AS(hp:Pre (cJ (Ql p l.length k) l) s)(hk:1<=k)(hfk:fit l.length k)(hf:∀n∈l,fit n 8)(ha:a<=s.length)(e:a=p.length):
 ∃h,eg s k ⟨a,false,ha⟩=(l,⟨(cJ (Ql p l.length k) l).length,false,h⟩):=by
 obtain⟨h1,e1⟩:=kC (p:=p) (n:=l.length) (k:=k) ((jq l _).trans hp) hk hfk ha e;obtain⟨h2,e2⟩:=AR l hp hf [] h1 rfl;refine⟨h2,?_⟩;unfold eg;grind
def Tx.fits(t:Tx):Prop:=fit t.id 4/\fit t.st 1/\fit t.n 8/\fit t.b 8/\fit t.l.length 2/\fit t.s.length 1/\(∀n∈t.l,fit n 8)/\∀n∈t.s,fit n 8
def LX(hp:Pre (dZ p t) s)(hf:t.fits)(ha:a<=s.length)(e:a=p.length):
 ∃h,txS s ⟨a,false,ha⟩=(t,⟨(dZ p t).length,false,h⟩):=by
 obtain⟨f1,f2,f3,f4,f5,f6,f7,f8⟩:=hf;obtain⟨id,st,n,b,q,v⟩:=t;unfold dZ at hp |-;dsimp only at *;have p6:=(QV _ _ _).trans ((jq _ _).trans hp);have p5:=(QV _ _ _).trans ((jq _ _).trans p6);have p4:=(QV _ _ _).trans p5;have p3:=(QV _ _ _).trans p4;have p2:=(QV _ _ _).trans p3;obtain⟨h1,e1⟩:=kC (p:=p) (n:=id) (k:=4) (by first|exact p2|exact p3|exact p4|exact p5) vz f1 ha e;obtain⟨h2,e2⟩:=kC (p:=Ql p id 4) (n:=st) (k:=1) (by first|exact p2|exact p3|exact p4|exact p5) vz f2 h1 rfl;obtain⟨h3,e3⟩:=kC (p:=Ql (Ql p id 4) st 1) (n:=n) (k:=8) (by first|exact p2|exact p3|exact p4|exact p5) vz f3 h2 rfl;obtain⟨h4,e4⟩:=kC (p:=Ql (Ql (Ql p id 4) st 1) n 8) (n:=b) (k:=8) (by first|exact p2|exact p3|exact p4|exact p5|exact p6) vz f4 h3 rfl;obtain⟨h5,e5⟩:=AS (p:=Ql (Ql (Ql (Ql p id 4) st 1) n 8) b 8) (l:=q) (k:=2) (by first|exact p6|exact p5|exact(QV _ _ _).trans ((jq _ _).trans hp)) vz f5 f7 h4 rfl;obtain⟨h6,e6⟩:=AS (l:=v) (k:=1) hp vz f6 f8 h5 rfl;refine⟨h6,?_⟩;simp only[txS,e1,e2,e3,e4,e5,e6]
def AU:∀(l:List Tx) {s p:List UInt8} (_:Pre (ee p l) s) (_:∀t ∈ l,t.fits) (out:List Tx) {a:Nat} (ha:a<=s.length) (_:a = p.length),
 ∃h,rdT s l.length out ⟨a,false,ha⟩=(out++l,⟨(ee p l).length,false,h⟩)
 |[],s,p,hp,_,out,a,ha,e=>⟨hp.len,by subst e;rw[JY];rfl⟩
 |n :: r,s,p,hp,hf,out,a,ha,e=>by
   obtain⟨h1,e1⟩:=LX (p:=p) (t:=n) ((uJ r _).trans hp) (hf n vv) ha e;obtain⟨h2,e2⟩:=AU r (p:=dZ p n) hp (fun m hm=>hf m (Jz _ hm)) (out++[n]) h1 rfl;refine⟨h2,?_⟩;rw[JP,rdT,if_neg vv,e1,e2,JM];rfl
def AV{lo n d:Int}(h:bP l lo n d=true)(h0:0<=lo)(hn:n<=1099511627776):∀x∈l,fit x 8:=fun x hx=>by
 obtain⟨i,hi,rfl⟩:=Kb hx;unfold bP at h;rw[Ju] at h;have:=(ja l lo n d i).1 (h i (JA.2 hi));rw[Qd l i hi] at this;exact .inr ⟨rfl,vz,vz⟩
def LY{t:Tx}(h:t.okB=true):t.fits:=by
 simp only[Tx.okB,Tx.hdB,Jd,JX,decide_eq_true_eq] at h;obtain⟨⟨hh,h1⟩,h2⟩:=h
 refine⟨.inl ⟨vz,vz,by show t.id<4294967296; omega⟩,.inl ⟨vz,vz,by show t.st<256; omega⟩,.inr ⟨rfl,vz,vz⟩,.inr ⟨rfl,vz,vz⟩,.inl ⟨vz,vz,by show(t.l.length:Int)<65536; omega⟩,.inl ⟨vz,vz,by show(t.s.length:Int)<256; omega⟩,
  AV h1 vz vz,AV h2 vz vz⟩
def LZ(h:al l=true):∀t∈l,t.fits:=fun t ht=>by
 obtain⟨i,hi,rfl⟩:=Kb ht;exact LY (eK h hi)
def L2(h:al l=true):jo (aU l)=(l,0):=by
 have hf:=LZ h;have hl:=lG h;generalize hs:aU l=s;have hp:Pre (ee (Ql [] l.length 2) l) s:=by rw[<-hs];exact .refl _
 obtain⟨h1,e1⟩:=kC (p:=[]) (n:=l.length) (k:=2) ((uJ l _).trans hp) vz (.inl ⟨vz,vz,by show(l.length:Int)<65536;omega⟩) (Jh s.length) rfl;obtain⟨h2,e2⟩:=AU l hp hf [] h1 rfl
 have e3:rdA s=(l,⟨(ee (Ql [] l.length 2) l).length,false,h2⟩):=by
  unfold rdA rq0;rw[e1,Jm,e2,Km]
 unfold jo;rw[e3];dsimp only;rw[if_neg vv,if_neg (by rw[<-hs];unfold aU;simp),if_neg (by rw[h];decide)]
def fW(hp:Pre (Ql p n k) s)(hf:fit n k)(e:a=p.length):a+k<=s.length/\IntKind.i64.wrap (aW s a k)=n:=by
 subst e;have hl:=hp.len;have hk8:k<=8:=by rcases hf with h|h<;>omega
 rw[Qe] at hl;refine⟨hl,?_⟩;obtain⟨t,rfl⟩:=hp;rw[nm p t n k hk8 k (JC _),AQ n k hf]
def Pre.app(s u:List UInt8):Pre s (s++u):=⟨u,rfl⟩
def L3(s:List UInt8)(r:Rw):Pre s (iB s r):=(QV _ _ _).trans ((QV _ _ _).trans (QV _ _ _))
def uK:∀(l:List Rw) (s:List UInt8),Pre s (dz s l)
 |[],s=>.refl s
 |a::r,s=>(L3 s a).trans (uK r (iB s a))
def L4(s:List UInt8)(r:Dt):Pre s (iC s r):=(QV _ _ _).trans ((QV _ _ _).trans (QV _ _ _))
def uL:∀(l:List Dt) (s:List UInt8),Pre s (cS s l)
 |[],s=>.refl s
 |a::r,s=>(L4 s a).trans (uL r (iC s a))
def AW:∀(l:List Rw) (s:List UInt8) (i:Nat),i<=l.length->Pre (dz s (l.take i)) (dz s l)
 |[],s,i,_=>by rw[Ks];exact .refl _
 |a::r,s,0,_=>uK _ _
 |a::r,s,i+1,h=>AW r (iB s a) i (by simpa using h)
def AX:∀(l:List Dt) (s:List UInt8) (i:Nat),i<=l.length->Pre (cS s (l.take i)) (cS s l)
 |[],s,i,_=>by rw[Ks];exact .refl _
 |a::r,s,0,_=>uL _ _
 |a::r,s,i+1,h=>AX r (iC s a) i (by simpa using h)
def L5(h:ixB l=true)(hi:i<l.length):fit (l.getD i Rw0).lsn 8/\fit (l.getD i Rw0).im 8/\fit (l.getD i Rw0).at_ 8:=by
 unfold ixB at h;simp only[Jd,Ju,JA] at h;have:=h.2 i hi;unfold ke eT at this;simp only[Jd,decide_eq_true_eq] at this;exact⟨.inr ⟨rfl,vz,vz⟩,.inr ⟨rfl,vz,vz⟩,.inr ⟨rfl,vz,vz⟩⟩
def L6(h:ixB l=true):IntKind.i64.wrap (aW (ca l) 0 2)=l.length/\(ca l).length=2+24*l.length:=by
 have h2:=yL h;exact⟨(fW (p:=[]) (n:=l.length) (k:=2) (uK l _) (.inl ⟨vz,vz,by show(l.length:Int)<65536;omega⟩) rfl).2,Ai l⟩
def L7(h:ixB l=true)(hi:i<l.length):IntKind.i64.wrap (aW (ca l) (2+24*i) 8)=(l.getD i Rw0).lsn/\IntKind.i64.wrap (aW (ca l) (10+24*i) 8)=(l.getD i Rw0).im/\IntKind.i64.wrap (aW (ca l) (18+24*i) 8)=(l.getD i Rw0).at_:=by
 obtain⟨f1,f2,f3⟩:=L5 h hi;have h1:=AW l (Ql [] l.length 2) (i+1) hi;rw[Ah _ _ _ hi] at h1
 have hl:(dz (Ql [] l.length 2) (l.take i)).length=2+24*i:=by
  rw[qK,Qe,Jt,JS];omega
 have hs:dz (Ql [] l.length 2) l=ca l:=rfl;rw[hs] at h1;generalize dz (Ql [] l.length 2) (l.take i)=p at *;unfold iB at h1;have h2:=(QV _ _ _).trans h1;have h3:=(QV _ _ _).trans h2;exact⟨(fW h3 f1 hl.symm).2,(fW h2 f2 (by rw[Qe];omega)).2,(fW h1 f3 (by rw[Qe,Qe];omega)).2⟩
def qW(h:laB l n=true)(hi:i<l.length):0<=(l.getD i Dt0).pg/\(l.getD i Dt0).pg<n/\1<=(l.getD i Dt0).rc/\(l.getD i Dt0).rc<=(l.getD i Dt0).last/\(l.getD i Dt0).last<=1099511627776/\(i=0\/(l.getD (i-1) Dt0).pg<(l.getD i Dt0).pg):=by
 unfold laB at h;rw[Ju] at h;exact(tW _ _ _).1 (h i (JA.2 hi))
def AY (h:laB l n = true):∀i:Nat,i < l.length->(i:Int)<=(l.getD i Dt0).pg
 |0,hi=>(qW h hi).1
 |i + 1,hi=>by
   have h1:=AY h i vz;have h2:=(qW h hi).2.2.2.2.2;rcases h2 with h2|h2
   ·omega
   ·rw[Nat.add_sub_cancel] at h2;omega
def L8(h:laB l n=true)(hn:0<=n):(l.length:Int)<=n:=by
 rcases Nat.eq_zero_or_pos l.length with h0|h0
 ·omega
 ·have h1:=AY h (l.length - 1) vz;have h2:=(qW h (i:=l.length-1) vz).2.1;omega
def jr(h:CkV c):(11+(aU c.tx).length+17*c.dl.length<=(aP c).length/\IntKind.i64.wrap (aW (aP c) 0 2)=c.pg/\IntKind.i64.wrap (aW (aP c) 2 4)=c.nx/\IntKind.i64.wrap (aW (aP c) 6 4)=(aU c.tx).length)/\((aP c).take (10+(aU c.tx).length)).drop 10=aU c.tx/\IntKind.i64.wrap (aW (aP c) (10+(aU c.tx).length) 1)=c.dl.length/\(aP c).drop (11+(aU c.tx).length+17*c.dl.length)=ca c.ix /\
 ∀i,i<c.dl.length->IntKind.i64.wrap (aW (aP c) (11+(aU c.tx).length+17*i) 1)=(c.dl.getD i Dt0).pg/\IntKind.i64.wrap (aW (aP c) (12+(aU c.tx).length+17*i) 8)=(c.dl.getD i Dt0).rc/\IntKind.i64.wrap (aW (aP c) (20+(aU c.tx).length+17*i) 8)=(c.dl.getD i Dt0).last:=by
 obtain⟨⟨v1,v2⟩,⟨v3,v4⟩,v5,v6,v7,v8⟩:=h;have hT:=Ag v5;have hL:=L8 v6 vz;have hs:aP c=cS (Ql (Ql (Ql (Ql [] c.pg 2) c.nx 4) (aU c.tx).length 4++aU c.tx) c.dl.length 1) c.dl++ca c.ix:=rfl;generalize aP c=s at *;generalize aU c.tx=T at *;have p5:Pre (cS (Ql (Ql (Ql (Ql [] c.pg 2) c.nx 4) T.length 4++T) c.dl.length 1) c.dl) s:=⟨_,hs⟩
 have p4:=(uL _ _).trans p5;have p3:=(QV _ _ _).trans p4;have p2:=(Pre.app _ _).trans p3;have p1:=(QV _ _ _).trans p2;have p0:=(QV _ _ _).trans p1;have l2:(Ql (Ql (Ql [] c.pg 2) c.nx 4) T.length 4).length=10:=by rw[Qe,Qe,Qe];rfl
 have l3:(Ql (Ql (Ql [] c.pg 2) c.nx 4) T.length 4++T).length=10+T.length:=by rw[Je,l2]
 have l4:(Ql (Ql (Ql (Ql [] c.pg 2) c.nx 4) T.length 4++T) c.dl.length 1).length=11+T.length:=by rw[Qe,l3];omega
 have l5:=qT c.dl (Ql (Ql (Ql (Ql [] c.pg 2) c.nx 4) T.length 4++T) c.dl.length 1);rw[l4] at l5;refine⟨⟨by have:=p5.len;omega,(fW p0 (.inl ⟨vz,vz,by show c.pg<65536;omega⟩) rfl).2,(fW p1 (.inl ⟨vz,vz,by show c.nx<4294967296;omega⟩) (by rw[Qe];rfl)).2,(fW p2 (.inl ⟨vz,vz,by show(T.length:Int)<4294967296;omega⟩) (by rw[Qe,Qe];rfl)).2⟩,?_,(fW p4 (.inl ⟨vz,vz,by show(c.dl.length:Int)<256;omega⟩) l3.symm).2,?_,fun i hi=>?_⟩
 ·obtain ⟨u,hu⟩:=p3;rw[hu,<-l3,J9,<-l2,Kq]
 ·rw[hs,<-l5,Kq]
 ·have h1:=(AX c.dl (Ql (Ql (Ql (Ql [] c.pg 2) c.nx 4) T.length 4 ++ T) c.dl.length 1) (i + 1) hi).trans p5;rw[AN _ _ _ hi] at h1;have hl:=qT (c.dl.take i) (Ql (Ql (Ql (Ql [] c.pg 2) c.nx 4) T.length 4++T) c.dl.length 1);rw[l4,Jt] at hl;obtain⟨a1,a2,a3,a4,a5,_⟩:=qW v6 hi;clear l5 p5 p4 p3 p2 p1 p0 hs l4;generalize cS (Ql (Ql (Ql (Ql [] c.pg 2) c.nx 4) T.length 4++T) c.dl.length 1) (c.dl.take i)=p at *;generalize c.dl.getD i Dt0=d at *;unfold iC at h1;have h2:=(QV _ _ _).trans h1;have h3:=(QV _ _ _).trans h2;exact⟨(fW h3 (.inl ⟨vz,vz,by show d.pg<256;omega⟩) vz).2,(fW h2 (.inr ⟨rfl,vz,vz⟩) (by rw[Qe];omega)).2,(fW h1 (.inr ⟨rfl,vz,vz⟩) (by rw[Qe,Qe];omega)).2⟩
@[go_sem] def niZ(a:Int×Int):DV:=.tup [.int .i64 a.1,.int .i64 a.2]
def kE(s:List UInt8)(hs:s.length<=100000000)(a:Int)(k:Nat)(h1:1<=k)(h8:k<=8)(h0:0<=a):VCalls prog 199 [.pv (.str s),.int .i64 a,.int .i64 k] [] (QM niZ fun r=>(k<=4->0<=r.1/\r.1<4294967296)/\(k<=2->r.1<65536)/\(k<=1->r.1<256)/\(r.2=0->a+k<=s.length)/\(a+k<=s.length->r.1=IntKind.i64.wrap (aW s a.toNat k))):=by
 by_cases h:a+k<=s.length
 ·obtain ⟨n,rfl⟩:∃n:Nat,a = n:=⟨a.toNat,vz⟩
  refine(lr s vz n k ⟨h1,h8⟩ vz).toS (IntKind.i64.wrap (aW s n k),0) rfl ⟨fun hk=>?_,fun hk=>?_,fun hk=>?_,fun _=>h,fun _=>by rw[Jm]⟩
  all_goals
   have e:=nr s n k vz;have h2:=nq s n k;dsimp only;rw[e,IntKind.wrap_i64]
  ·have:(2:Nat) ^ (8 * k)<=2 ^ 32:=JD vz vz;omega
  ·have:(2:Nat) ^ (8 * k)<=2 ^ 16:=JD vz vz;omega
  ·have:(2:Nat) ^ (8 * k)<=2 ^ 8:=JD vz vz;omega
 ·refine(pK s a k vz h0 h).toS (0,5) rfl ⟨fun _=>by decide,fun _=>by decide,fun _=>by decide,fun h=>by simp at h,fun h2=>absurd h2 h⟩
structure RwS(n:Nat)(s:List UInt8) where
 i:Nat
 l:List Rw
 hl:l.length=i
 hi:i<=n
 hx:∀l0,ixB l0=true->s=ca l0->l=l0.take i
@[go_sem] def ixD(a:List Rw×Int):DV:=.tup [.agg [.pv (.sl (fz ay a.1))],.int .i64 a.2]
def ixQ(s:List UInt8)(a:List Rw×Int):Prop:=a.1.length<=64/\(a.2=0->∀l0,ixB l0=true->s=ca l0->a.1=l0)
def L9(s:List UInt8)(hs:s.length<=100000000):VCalls prog 241 [.pv (.str s)] [] (QM ixD (ixQ s)):=by
 refine dk Tryz.func241 ?_;have c1:=kE s hs 0 2 vz vz vz;have c8:=fun a h=>kE s hs a 8 vz vz h;have e0:∀e,e≠0->ixQ s ([],e):=fun e h=>⟨Jh _,fun h2=>absurd h2 h⟩
 refine rn F ?_
 repeat' (first|with_reducible exact⟨⟩|(refine sG F ?_ ?_<;>intro hZ)|(refine sB F ?_ ?_<;>intro hZ)|(refine Qs (c1) rfl ?_;rintro⟨n,e⟩ hn;refine rn F ?_))
 all_goals first|exact⟨rfl,rfl,([],_),rfl,e0 _ vj⟩|skip
 dsimp only at hn;obtain⟨n,rfl⟩:∃m:Nat,n=m:=⟨n.toNat,vz⟩
 have hn2:n<65536:=vz
 have hnl:∀l0,ixB l0=true->s=ca l0->n=l0.length/\s.length=2+24*n:=fun l0 h1 h2=>by
  have h3:=L6 h1;have h4:=hn.2.2.2.2;rw[h2] at h4 |-;have h5:=h4 vz;rw[show(0:Int).toNat=0 from rfl] at h5;omega
 clear hn;refine VLoop.nilOwnC 1 0 279 3 rfl rfl ?_;refine rn trivial ?_;refine Qj (fun r:RwS n s=>⟨77,0,[(7,.int .i64 r.i),(6,.ptr 1 0),(4,.int .i64 n),(2,.ptr 0 0),(0,.pv (.str s))],[⟨36,true,[.pv (.slc [])]⟩,⟨36,true,[.own 2 3 0 r.i]⟩,⟨279,true,cells ay r.l⟩]⟩) (fun r=>n-r.i) ⟨0,[],rfl,Jh _,fun _ _ _=>by rw[Ka]⟩ (gc [0,1,2]) ?_;rintro⟨i,l,hl,hi,hx⟩;dsimp only at hi |-;subst hl;have hb:(l.length+1)*24<=140737488355328:=vz;have F:=@hb;refine rn F ?_
 repeat' (first|with_reducible exact⟨⟩|(refine sB F ?_ ?_<;>intro hZ)|(refine Qs (c8 (2+24*(l.length:Int)) vz) rfl ?_;rintro⟨a1,e1⟩ h1;refine rn F ?_)|(refine Qs (c8 (10+24*(l.length:Int)) vz) rfl ?_;rintro⟨a2,e2⟩ h2;refine rn F ?_)|(refine Qs (c8 (18+24*(l.length:Int)) vz) rfl ?_;rintro⟨a3,e3⟩ h3;refine rn F ?_))
 ·have hl2:(l ++ [(⟨a1,a2,a3⟩:Rw)]).length = l.length + 1:=vv;have hil:l.length<n:=vz
  have hx2:∀l0,ixB l0=true->s=ca l0->l++[(⟨a1,a2,a3⟩:Rw)]=l0.take (l.length+1):=fun l0 q1 q2=>by
   obtain⟨q3,q4⟩:=hnl l0 q1 q2;have q5:=hx l0 q1 q2;have hil2:l.length<l0.length:=vz;obtain⟨g1,g2,g3⟩:=L7 q1 hil2;have z1:=h1.2.2.2.2 vz;have z2:=h2.2.2.2.2 vz;have z3:=h3.2.2.2.2 vz;dsimp only at z1 z2 z3;rw[show((2:Int)+24*(l.length:Int)).toNat=2+24*l.length by omega,q2,g1] at z1;rw[show((10:Int)+24*(l.length:Int)).toNat=10+24*l.length by omega,q2,g2] at z2;rw[show((18:Int)+24*(l.length:Int)).toNat=18+24*l.length by omega,q2,g3] at z3;rw[Jk hil2,z1,z2,z3,Qd _ _ hil2,<-q5]
  clear h1 h2 h3;refine⟨⟨l.length+1,l++[⟨a1,a2,a3⟩],hl2,hil,hx2⟩,vu,?_⟩;exact(gc [0,1,5])
 have hix:=fun h:ixB l=true=>yL h;have c9:=lK l vz;generalize ixB l=ok at *;refine vl hb c9 ?_;cases ok
 ·skip
  have F:=@hb;refine rn F ?_;exact⟨rfl,rfl,([],_),rfl,e0 _ vj⟩
 ·skip
  have F:=@hb;refine rn F ?_
  exact⟨rfl,rfl,(l,0),rfl,(hix rfl).2,fun _ l0 q1 q2=>by
   have q3:=(hnl l0 q1 q2).1;have q4:=hx l0 q1 q2;dsimp only
   rw[q4,Jl vz]⟩
structure DtS(s:List UInt8)(n m:Nat) where
 i:Nat
 a:Int
 l:List Dt
 hl:l.length=i
 hi:i<=m
 ha:a=11+n+17*i
 hx:∀c,CkV c->s=aP c->l=c.dl.take i
def AZ(s:List UInt8)(a:Cp×Int):Prop:=smN 64 a.1.tx/\a.1.dl.length<=256/\a.1.ix.length<=64/\(a.2=0->s≠[]/\∀c,CkV c->s=aP c->a.1=c)
def Ma(s:List UInt8)(hs:s.length<=3000000):VCalls prog 237 [.pv (.str s)] [] (QM Aj (AZ s)):=by
 refine dk Tryz.func237 ?_;have c1:=kE s vz 0 2 vz vz vz;have c2:=kE s vz 2 4 vz vz vz;have c3:=kE s vz 6 4 vz vz vz;have c4:=fun a h=>kE s vz a 1 vz vz h;have c8:=fun a h=>kE s vz a 8 vz vz h;have err:∀e,e≠0->AZ s (Cp0,e):=fun e h=>⟨Q9 _,Jh _,Jh _,fun h2=>absurd h2 h⟩
 refine rn F ?_;refine Qs c1 rfl ?_;rintro⟨pg,e1⟩ h1;refine rn trivial ?_;refine Qs c2 rfl ?_;rintro⟨nx,e2⟩ h2;refine rn trivial ?_;refine Qs c3 rfl ?_;rintro⟨n,e3⟩ h3
 have hA:∀c,CkV c->s=aP c->pg=c.pg/\nx=c.nx/\n=(aU c.tx).length:=fun c q1 q2=>by
  obtain⟨⟨g1,g2,g3,g4⟩,_⟩:=jr q1;rw[<-q2] at g1 g2 g3 g4;exact⟨(h1.2.2.2.2 vz).trans g2,(h2.2.2.2.2 vz).trans g3,(h3.2.2.2.2 vz).trans g4⟩
 dsimp only at h3;obtain⟨n,rfl⟩:∃m:Nat,n=m:=⟨n.toNat,vz⟩
 have hn:n<4294967296:=vz;clear h1 h2 h3;refine rn F ?_
 repeat' (first|with_reducible exact⟨⟩|(refine sG F ?_ ?_<;>intro hZ)|(refine sB F ?_ ?_<;>intro hZ))
 all_goals first|exact⟨rfl,rfl,(Cp0,5),rfl,err _ vj⟩|skip
 have hns:n+10<=s.length:=vz;refine Qs (c4 (10+(n:Int)) vz) rfl ?_;rintro⟨m,e4⟩ h4
 have hM:∀c,CkV c->s=aP c->m=c.dl.length:=fun c q1 q2=>by
  obtain⟨_,_,q3⟩:=hA c q1 q2;obtain⟨⟨g0,_⟩,_,g1,_⟩:=jr q1;rw[<-q2,<-(by omega:n=(aU c.tx).length)] at g0 g1;have:=h4.2.2.2.2 vz;rw[show((10:Int)+(n:Int)).toNat=10+n by omega] at this;exact this.trans g1
 dsimp only at h4;obtain⟨m,rfl⟩:∃k:Nat,m=k:=⟨m.toNat,vz⟩
 have hm:m<256:=vz;clear h4;refine rn F ?_
 repeat' (first|with_reducible exact⟨⟩|(refine sG F ?_ ?_<;>intro hZ)|(refine sB F ?_ ?_<;>intro hZ))
 all_goals first|exact⟨rfl,rfl,(Cp0,5),rfl,err _ vj⟩|skip
 have hns2:11+n+17*m<=s.length:=vz;refine VLoop.nilOwnC 1 3 187 3 rfl rfl ?_;refine rn trivial ?_
 have hTX:∀c,CkV c->s=aP c->(s.take (10+(n:Int)).toNat).drop 10=aU c.tx:=fun c q1 q2=>by
  obtain⟨_,_,q3⟩:=hA c q1 q2;obtain⟨_,g1,_⟩:=jr q1;rw[<-q2,<-(by omega:n=(aU c.tx).length)] at g1;rw[show((10:Int)+(n:Int)).toNat=10+n by omega];exact g1
 generalize htx:(s.take (10+(n:Int)).toNat).drop 10=txs at *;have htl:txs.length<=3000000:=by rw[<-htx,JO,Jt];omega
 refine Qj (fun r:DtS s n m=>⟨130,0,[(11,.int .i64 r.i),(10,.int .i64 m),(9,.int .i64 r.a),(8,.pv (.str txs)),(4,.ptr 1 0),(2,.ptr 0 0),(0,.pv (.str s))],[⟨211,true,[.int .i64 0,.int .i64 0,.pv (.slc []),.pv (.slc []),.pv (.slc [])]⟩,⟨211,true,[.int .i64 pg,.int .i64 nx,.pv (.slc []),.own 2 3 0 r.i,.pv (.slc [])]⟩,⟨187,true,cells aF r.l⟩]⟩) (fun r=>m-r.i) ⟨0,10+(n:Int)+1,[],rfl,Jh _,vz,fun _ _ _=>by rw[Ka]⟩ (gc [0,1,2]) ?_;rintro⟨i,a,l,hl,hi,ha,hx⟩;dsimp only;subst hl;have hb:(l.length+1)*24<=140737488355328:=vz;by_cases hil:l.length<m
 ·skip
  have F:=@hb;refine rn F ?_
  repeat' (first|with_reducible exact⟨⟩|(refine Qs (c4 a vz) rfl ?_;rintro⟨a1,e1⟩ h1;refine rn F ?_)|(refine Qs (c8 (a+1) vz) rfl ?_;rintro⟨a2,e2⟩ h2;refine rn F ?_)|(refine Qs (c8 (a+9) vz) rfl ?_;rintro⟨a3,e3⟩ h3;refine rn F ?_))
  have hl2:(l++[(⟨a1,a2,a3⟩:Dt)]).length=l.length+1:=vv
  have hx2:∀c,CkV c->s=aP c->l++[(⟨a1,a2,a3⟩:Dt)]=c.dl.take (l.length+1):=fun c q1 q2=>by
   obtain⟨_,_,q3⟩:=hA c q1 q2;have q4:=hM c q1 q2;have q5:=hx c q1 q2;have hil2:l.length<c.dl.length:=vz;obtain⟨⟨g0,_⟩,_,_,_,gr⟩:=jr q1;obtain⟨g1,g2,g3⟩:=gr _ hil2;rw[<-q2,<-(by omega:n=(aU c.tx).length)] at g0 g1 g2 g3;have z1:=h1.2.2.2.2 vz;have z2:=h2.2.2.2.2 vz;have z3:=h3.2.2.2.2 vz;dsimp only at z1 z2 z3;rw[show a.toNat=11+n+17*l.length by omega,g1] at z1;rw[show(a+1).toNat=12+n+17*l.length by omega,g2] at z2;rw[show(a+9).toNat=20+n+17*l.length by omega,g3] at z3;rw[Jk hil2,z1,z2,z3,Qd _ _ hil2,<-q5]
  clear h1 h2 h3;refine⟨⟨l.length+1,a+17,l++[⟨a1,a2,a3⟩],hl2,hil,by rw[ha];omega,hx2⟩,vu,?_⟩;exact(gc [0,1,5])
 obtain rfl:m=l.length:=vz;have c9:=LO txs htl
 have hq:smN 64 (jo txs).1:=by
  unfold jo;split
  ·exact Q9 _
  split
  ·exact Q9 _
  split
  ·exact Q9 _
  ·rename_i h;exact qu (by simpa using h)
 have hD:∀c,CkV c->s=aP c->(jo txs).1=c.tx:=fun c q1 q2=>by rw[hTX c q1 q2,L2 q1.2.2.1]
 generalize jo txs=D at *;obtain⟨tx,et⟩:=D;dsimp only at hq hD
 have hX:∀c,CkV c->s=aP c->s.drop a.toNat=ca c.ix:=fun c q1 q2=>by
  obtain⟨_,_,q3⟩:=hA c q1 q2;have q4:=hM c q1 q2;obtain⟨_,_,_,g1,_⟩:=jr q1;rw[<-q2,<-(by omega:n=(aU c.tx).length),<-(by omega:l.length=c.dl.length)] at g1;rw[show a.toNat=11+n+17*l.length by omega];exact g1
 have ha2:0<=a/\a<=s.length:=vz;obtain⟨a,rfl⟩:∃k:Nat,a=k:=⟨a.toNat,vz⟩
 rw[Jm] at hX;have hsl:(s.drop a).length<=100000000:=by rw[JO];omega
 have hal:a<=s.length:=vz;have F:=(Jb @hb @hal)
 refine rn F ?_
 repeat' (first|with_reducible exact⟨⟩|(refine sB F ?_ ?_<;>intro hZ)|refine vp F (c9) ?_|(refine Qs (L9 _ hsl) rfl ?_;rintro⟨ix,ei⟩ hi2;refine rn F ?_))
 all_goals first|exact⟨rfl,rfl,(Cp0,_),rfl,err _ vq⟩|skip
 unfold ixQ at hi2;dsimp only at hi2;have c10:=AM ⟨pg,nx,tx,l,ix⟩ ⟨hq.mono vj,vu,hi2.1⟩;have F:=@hb;refine rn F ?_
 repeat' (first|with_reducible exact⟨⟩|(refine sB F ?_ ?_<;>intro hZ)|(refine Mb (c10) ?_ (fun _=>rfl) ?_;(focus (refine rd F));rintro b -;refine rn F ?_))
 all_goals first|exact⟨rfl,rfl,(Cp0,_),rfl,err _ vj⟩|skip
 refine⟨rfl,rfl,(⟨pg,nx,tx,l,ix⟩,0),rfl,hq,vu,hi2.1,fun _=>⟨fun h=>by rw[h] at hns;simp at hns,fun c q1 q2=>?_⟩⟩;obtain⟨q3,q4,_⟩:=hA c q1 q2;have q5:=hx c q1 q2;have q6:=hD c q1 q2;have q7:=hi2.2 vq c.ix q1.2.2.2.2.1 (hX c q1 q2);have q8:=hM c q1 q2;rw[Jl vz] at q5;dsimp only;rw[q3,q4,q6,q7,q5]
def lV{c:Ce}(h:c.no=true):c.data.length<=12:=by
 unfold Ce.no at h;grind
def qX{c:Ce}(h:c.okB=true):c.data.length<=12:=by
 unfold Ce.okB at h;grind
def oa{e:E}(h:e.okB=true):e.c.b.data.length<=12/\e.c.a.data.length<=12/\e.blob.length<=8192:=by
 unfold E.okB at h;simp only[Jd] at h;have h2:=h.2;clear h;unfold E.kindB at h2;have nb:∀{l:List UInt8},l==[]->l.length<=8192:=fun h=>by rw[beq_iff_eq] at h;rw[h];exact Jh _
 split at h2
 ·simp only [Jd,Ch.okB] at h2;exact⟨qX h2.2.1.2,qX h2.2.2,nb h2.1.2⟩
 split at h2
 ·simp only [Jd,Ch.okB] at h2;exact⟨qX h2.2.1.2,qX h2.2.2,nb h2.1.1.1.2⟩
 split at h2
 ·simp only [Jd,Ch.no] at h2;exact⟨lV h2.2.1.2,lV h2.2.2,nb h2.1.2⟩
 split at h2
 ·simp only [Jd,Ch.no,decide_eq_true_eq] at h2;exact⟨lV h2.2.1.2,lV h2.2.2,h2.1.2⟩
 split at h2
 ·simp only [Jd,Ch.ix] at h2;exact⟨lV h2.2.1.1.1.2,lV h2.2.1.1.2,nb h2.1.2⟩
 ·cases h2
def bm(s:List UInt8)(c:Ce):List UInt8:=if c.set=true then Ql s c.data.length 1++c.data else Ql s 255 1
def lW(s:List UInt8)(c:Ce):(bm s c).length<=s.length+1+c.data.length:=by
 unfold bm;split
 ·rw[Je,Qe];exact JC _
 ·rw[Qe];omega
def A0(s:List UInt8)(hs:s.length<=100000000)(c:Ce)(hc:c.data.length<=1000000):VCalls prog 228 [.pv (.str s),.agg c.d] [] (Ret (.pv (.str (bm s c)))):=by
 refine dd Tryz.func228 ?_;have c1:=Q4 s vz 255 1 vz vz;have c2:=Q4 s vz c.data.length 1 vz vz;have e:bm s c=if c.set=true then Ql s c.data.length 1++c.data else Ql s 255 1:=rfl
 have hadd:=ji (a:=Ql s c.data.length 1) (b:=c.data) (by rw[Qe];omega);generalize bm s c=r at *;have F:=@hadd;refine rn F ?_
 repeat' (first|with_reducible exact⟨⟩|(refine sB F ?_ ?_<;>intro hZ)|refine vp F (c1) ?_|refine vp F (c2) ?_|(refine Qf (id:=3) [0,1,2,3,5,6] [⟨[],[],4,[1,2,5,6],[7]⟩,⟨[],[],8,[],[]⟩] vw vw ?_;refine rn F ?_))
 all_goals first|(first|(rw[e];simp(disch:=first|assumption|omega|exact rfl|exact nf vq|exact nt vq|decide|fail) only[if_pos,if_neg];first|done|rfl)|(rw[e];simp(disch:=first|assumption|omega|exact rfl|exact nf vq|exact nt vq|decide|(simp_all;done)|fail) only[if_pos,if_neg];first|done|rfl))|skip
def cu(e:E):List UInt8:=Ql (Ql (Ql (Ql (Ql (Ql (Ql (Ql [] e.lsn 8) e.kind 1) e.tx 4) e.ptx 8) e.ppg 8) e.ref 8) e.c.pg 4) e.c.sl 1
def qY(e:E):(cu e).length=42:=by unfold cu;simp only[Qe,JS]
def jt(e:E):List UInt8:=Ql (bm (bm (cu e) e.c.b) e.c.a) e.blob.length 4++e.blob
def gR(e:E):List UInt8×Int:=if e.okB=true then (jt e,0) else ([],12)
def Mc(e:E):VCalls prog 197 [.agg e.d] [] (Ret (.tup [.pv (.str (gR e).1),.int .i64 (gR e).2])):=by
 refine dd Tryz.func197 ?_;have c1:=jY e;unfold gR;cases hv:e.okB
 ·rw [hv] at c1;refine rn F ?_
  repeat' (first|with_reducible exact⟨⟩|refine vp F (c1) ?_)
  all_goals rfl
 rw[hv] at c1;obtain⟨l1,l2,l3⟩:=oa hv;have n1:=lW (cu e) e.c.b;have n2:=lW (bm (cu e) e.c.b) e.c.a;rw[qY] at n1;have p9:=A0 (cu e) (by rw[qY];omega) e.c.b vz;have p10:=A0 (bm (cu e) e.c.b) vz e.c.a vz;have p11:=Q4 (bm (bm (cu e) e.c.b) e.c.a) vz e.blob.length 4 vz vz;have hadd:=ji (a:=Ql (bm (bm (cu e) e.c.b) e.c.a) e.blob.length 4) (b:=e.blob) (by rw[Qe];omega);have hh:cu e=Ql (Ql (Ql (Ql (Ql (Ql (Ql (Ql [] e.lsn 8) e.kind 1) e.tx 4) e.ptx 8) e.ppg 8) e.ref 8) e.c.pg 4) e.c.sl 1:=rfl;have q:=fun(s:List UInt8) (hs:s.length<=1000) (n:Int) (k:Nat) (h1:1<=k) (h8:k<=8)=>Q4 s vz n k h1 h8;have F:=@hh.symm;refine rn F ?_
 repeat' (first|with_reducible exact⟨⟩|refine vp F (c1) ?_|refine vp F (q _ (by simp[Qe]) _ 8 vz vz) ?_|refine vp F (q _ (by simp[Qe]) _ 1 vz vz) ?_|refine vp F (q _ (by simp[Qe]) _ 4 vz vz) ?_|(refine Qf (id:=11) [0,1,2,3,5,6,7] [⟨[],[],4,[1,2,5,6,7],[]⟩,⟨[],[],8,[0,1,2,3,5,6],[]⟩,⟨[],[],9,[],[]⟩] vw vw ?_;refine rn F ?_))
 have F:=@hadd;refine rn F ?_
 repeat' (first|with_reducible exact⟨⟩|refine vp F (p9) ?_|refine vp F (p10) ?_|refine vp F (p11) ?_|(refine Qf (id:=12) [0,1,2,3,5,6] [⟨[],[],4,[1,2,5,6],[7]⟩,⟨[],[],8,[],[]⟩,⟨[],[],9,[],[]⟩] vw vw ?_;refine rn F ?_))
 all_goals rfl
def A1(e:E):(gR e).1.length<=9000:=by
 unfold gR;split
 ·rename_i hv;obtain⟨l1,l2,l3⟩:=oa hv;have n1:=lW (cu e) e.c.b;have n2:=lW (bm (cu e) e.c.b) e.c.a;rw[qY] at n1;unfold jt;dsimp only;rw[Je,Qe];omega
 ·exact Jh _
def Md(e:E):VCalls prog 154 [.agg e.d] [] (Ret (.pv (.str (frm (gR e).1)))):=by
 refine dd Tryz.func154 ?_;have c1:=Mc e;have hl:=A1 e;generalize gR e=r at *;have c2:=xN r.1 vz;refine rn F ?_
 repeat' (first|with_reducible exact⟨⟩|refine vp F (c1) ?_|refine vp F (c2) ?_)
 all_goals rfl
def cT(n:Int):List UInt8:=frm (Ql [80,77,76,71] n 8)
def Me(n:Int):VCalls prog 153 [.int .i64 n] [] (Ret (.pv (.str (cT n)))):=by
 refine dd Tryz.func153 ?_;have c1:=Q4 [80,77,76,71] vv n 8 vz vz;have c2:=xN (Ql [80,77,76,71] n 8) (by rw[Qe];simp);refine rn F ?_
 repeat' (first|with_reducible exact⟨⟩|refine vp F (c1) ?_|refine vp F (c2) ?_)
 all_goals rfl
def frE(e:E):List UInt8:=frm (gR e).1
def A2(e:E):(frE e).length<=9008:=by
 have:=A1 e;unfold frE frm;split
 ·rw[Qe,Je,Qe,JS];omega
 ·exact Jh _
def fx(l:List E)(d:Int):List UInt8:=(l.filter fun e=>decide (e.lsn<=d)).flatMap frE
def fX(l:List E)(d:Int):List UInt8:=(l.filter fun e=>!decide (e.lsn<=d)).flatMap frE
def Mf(l:List E)(d:Int)(i:Nat)(h:i<l.length):fx (l.take (i+1)) d=if (l.getD i E0).lsn<=d then fx (l.take i) d++frE (l.getD i E0) else fx (l.take i) d:=by
 unfold fx;rw[Jk h,J1,Kc,Qd l i h];grind
def Mg(l:List E)(d:Int)(i:Nat)(h:i<l.length):fX (l.take (i+1)) d=if (l.getD i E0).lsn<=d then fX (l.take i) d else fX (l.take i) d++frE (l.getD i E0):=by
 unfold fX;rw[Jk h,J1,Kc,Qd l i h];grind
def A3 (l:List E):(l.flatMap frE).length<=9008 * l.length:=by
 induction l with
 |nil=>simp
 |cons a r ih =>
   have:=A2 a;rw[List.flatMap_cons,Je,JP];omega
def A4(l:List E)(d:Int):(fx l d).length<=9008*l.length:=
 Jo (A3 _) (Kd _ (JK _ _))
def A5(l:List E)(d:Int):(fX l d).length<=9008*l.length:=
 Jo (A3 _) (Kd _ (JK _ _))
def A6(n:Int):(cT n).length<=9008:=by
 unfold cT frm;split
 ·rw[Qe,Je,Qe,Qe,JS];simp
 ·exact Jh _
def fY(x:Lg)(torn:Int):List UInt8:=if lgB x=true then cT x.f++fx x.es x.d++(fX x.es x.d).take torn.toNat else []
def A7(x:Lg)(hx:x.es.length<=9223372036854775807)(torn:Int):VCalls prog 112 [.agg x.c,.int .i64 torn] [] (Ret (.pv (.str (fY x torn)))):=by
 refine dd Tryz.func112 ?_;have c1:=fS x hx;have c2:=Me x.f;have hh:=A6 x.f;unfold fY;refine rn F ?_;cases hv:lgB x
 ·rw [hv] at c1;refine rn F ?_
  repeat' (first|with_reducible exact⟨⟩|refine vp F (c1) ?_)
  all_goals rfl
 rw[hv] at c1;have hd:=bz hv;simp only[Lg.hd] at hd;refine rn F ?_
 repeat' (first|with_reducible exact⟨⟩|refine vp F (c1) ?_|refine vp F (c2) ?_)
 generalize cT x.f=H at *;refine Qj (fun s:To x.es.length=>⟨55,0,[(7,.int .i64 s.i),(6,.pv (.str (fX (x.es.take s.i) x.d))),(5,.pv (.str (H++fx (x.es.take s.i) x.d))),(2,.ptr 0 0),(1,.int .i64 torn)],[⟨26,true,x.c⟩]⟩) (fun s=>x.es.length-s.i) ⟨0,Jh _⟩ (by simp only[Ka];rw[show fx [] x.d=[] from rfl,show fX [] x.d=[] from rfl,JY];exact(gc [0])) ?_;rintro⟨i,hi⟩;dsimp only;have hg:=fun h:i<x.es.length=>jf x.es i h;have c3:=Md (x.es.getD i E0);have hf:=A2 (x.es.getD i E0);have hs1:=Mf x.es x.d i;have hs2:=Mg x.es x.d i;have l1:=A4 (x.es.take i) x.d;have l2:=A5 (x.es.take i) x.d;rw[Jt] at l1 l2;have hfr:frm (gR (x.es.getD i E0)).1=frE (x.es.getD i E0):=rfl;rw[hfr] at c3;have a1:=ji (a:=H++fx (x.es.take i) x.d) (b:=frE (x.es.getD i E0)) (by rw[Je];omega);have a2:=ji (a:=fX (x.es.take i) x.d) (b:=frE (x.es.getD i E0)) vz;have hH:(H++fx (x.es.take i) x.d).length=H.length+(fx (x.es.take i) x.d).length:=Je;have F:=(Jb @hg (Jb @a1 @a2))
 refine rn F ?_
 repeat' (first|with_reducible exact⟨⟩|(refine sB F ?_ ?_<;>intro hZ)|refine vp F (c3) ?_|(refine Qf (id:=7) [0,1,2,3,4,5,6,7,8] [] vw vw ?_;refine rn F ?_))
 ·have d1:=hs1 vz;have d2:=hs2 vz;rw[if_pos wz] at d1 d2;refine⟨⟨i+1,vz⟩,vu,?_⟩;dsimp only;rw[d1,d2,<-JM];exact(gc [0])
 ·have d1:=hs1 vz;have d2:=hs2 vz;rw[if_neg wz] at d1 d2;refine⟨⟨i+1,vz⟩,vu,?_⟩;dsimp only;rw[d1,d2];exact(gc [0])
 ·rw [Jl (show x.es.length<=i by omega)];congr 3;generalize fX x.es x.d=R;by_cases h0:0 > torn
  ·rw [if_pos h0];rw[if_neg vz,show torn.toNat=(0:Int).toNat by omega]
  ·rw [if_neg h0];by_cases h1:(R.length:Int)<torn
   ·rw[if_pos h1,Jm,List.take_length,Jl vz]
   ·rw[if_neg h1]
@[go_sem] def ltD(a:Cp×Int×Bool):DV:=.tup [.agg a.1.d,.int .i64 a.2.1,.bool a.2.2]
def Mh(h:lgB x=true):∀i,i<x.es.length->(x.es.getD i E0).blob.length<=8192:=by
 unfold lgB at h;simp only[Jd,Ju,JA] at h;intro i hi;have:=h.2 i hi;simp only[lgC,Jd] at this;exact(oa this.2).2.2
def cpQ(c:Cp):Prop:=smN 64 c.tx/\c.dl.length<=256/\c.ix.length<=64
def A8:cpQ Cp0:=⟨Q9 _,Jh _,Jh _⟩
def Mi(x:Lg)(a:Cp×Int×Bool):Prop:=cpQ a.1/\(a.2.2=true->∃i,i<x.es.length/\(x.es.getD i E0).kind=6/\a.2.1=(x.es.getD i E0).lsn/\(x.es.getD i E0).blob≠[]/\∀c,CkV c->(x.es.getD i E0).blob=aP c->a.1=c)
def Mj(x:Lg)(hx:x.es.length<=1000000):VCalls prog 232 [.agg x.c] [] (QM ltD (Mi x)):=by
 refine dk Tryz.func232 ?_;have c1:=fS x vz;refine rn F ?_;cases hv:lgB x
 ·rw [hv] at c1;refine rn F ?_
  repeat' (first|with_reducible exact⟨⟩|refine vp F (c1) ?_)
  exact⟨rfl,rfl,(Cp0,0,false),rfl,A8,fun h=>by simp at h⟩
 rw[hv] at c1;have hs:=Mh hv;refine rn F ?_
 repeat' (first|with_reducible exact⟨⟩|refine vp F (c1) ?_)
 refine Qj (fun r:{r:To x.es.length×Int // r.2=(r.1.i:Int)-1}=>⟨47,0,[(5,.int .i64 r.1.2),(2,.ptr 1 0),(1,.ptr 0 0)],[⟨26,true,x.c⟩,⟨211,true,Zc⟩]⟩) (fun r=>r.1.1.i) ⟨(⟨x.es.length,JC _⟩,(x.es.length:Int)-1),rfl⟩ (gc [0,1]) ?_;rintro⟨⟨⟨k,hk⟩,j⟩,hj⟩;dsimp only at hj |-;unfold Zc;by_cases h0:k=0
 ·subst h0;have hj2:¬j >= 0:=vz;have F:=@hj2;refine rn F ?_;exact⟨rfl,rfl,(Cp0,0,false),rfl,A8,fun h=>by simp at h⟩
 obtain⟨i,rfl⟩:∃i,k=i+1:=⟨k-1,vz⟩
 obtain rfl:j=(i:Int):=vz;have hg:=jf x.es i vz;have hb:=hs i vz;have c2:=Ma (x.es.getD i E0).blob vz;have F:=@hg;refine rn F ?_
 repeat' (first|with_reducible exact⟨⟩|(refine sB F ?_ ?_<;>intro hZ)|(refine Qs (c2) rfl ?_;rintro⟨c,e⟩ hc;refine rn F ?_)|(refine Qf (id:=9) [0,1,2,3,4,5,6] [⟨[],[],7,[1,2,3,4,5,6],[]⟩,⟨[],[],8,[],[]⟩,⟨[],[],9,[],[]⟩] vw vw ?_;refine rn F ?_))
 all_goals first|exact⟨⟨(⟨i,vz⟩,(i:Int)-1),rfl⟩,vu,(gc [0,1])⟩|exact⟨rfl,rfl,(c,_,true),rfl,⟨hc.1,hc.2.1,hc.2.2.1⟩,fun _=>⟨i,vz,wz,rfl,hc.2.2.2 wx⟩⟩|skip
def DyA(l:List Dt)(e:E)(ch:Bool)(y:Dt):Prop:=(y∈l/\y.pg≠e.c.pg)\/(y.pg=e.c.pg/\ch=true/\y.last=e.lsn)\/(y.pg=e.c.pg/\ch=false/\∃z∈l,z.pg=e.c.pg/\z.last=y.last/\e.ref<z.last)
structure DyP(l:List Dt)(e:E)(ch:Bool)(i:Nat)(d:Bool)(out:List Dt):Prop where
 ha:∀y∈out,DyA l e ch y
 hb:∀y∈l.take i,y.pg≠e.c.pg->y∈out
 hc:d=true->ch=true->∃y∈out,y.pg=e.c.pg
def DyP.ap(h:DyP l e ch i d out)(hi:i<l.length)(d':Bool)(ys:List Dt)(hA:∀y∈ys,DyA l e ch y)(hx:(l.getD i Dt0).pg≠e.c.pg->l.getD i Dt0∈ys)(hd:d'=true->ch=true->d=true\/∃y∈ys,y.pg=e.c.pg):DyP l e ch (i+1) d' (out++ys):=by
 refine⟨fun y hy=>?_,fun y hy hn=>?_,fun a b=>?_⟩
 ·rcases Jf.1 hy with hy|hy
  ·exact h.ha y hy
  ·exact hA y hy
 ·rw [Jk hi] at hy;rcases Jf.1 hy with hy|hy
  ·exact Jj _ (h.hb y hy hn)
  ·rw [Jc.1 hy] at hn |-;rw[Qd _ _ hi] at hx;exact JJ _ (hx hn)
 ·rcases hd a b with q|⟨y,q1,q2⟩
  ·obtain ⟨y,q1,q2⟩:=h.hc q b;exact⟨y,Jj _ q1,q2⟩
  ·exact⟨y,JJ _ q1,q2⟩
def DyP.p0(h:DyP l e ch i d out)(hi:i<l.length)(d':Bool)(hx:(l.getD i Dt0).pg=e.c.pg)(hc:ch=false):DyP l e ch (i+1) d' out:=by
 have:=h.ap hi d' [] (fun y hy=>by simp at hy) (fun q=>absurd hx q) (fun _ b=>by rw[hc] at b;cases b);grind
def DyP.p1(h:DyP l e ch i d out)(hi:i<l.length)(d':Bool)(y:Dt)(hA:DyA l e ch y)(hx:(l.getD i Dt0).pg≠e.c.pg->l.getD i Dt0=y)(hd:d'=true->ch=true->d=true\/y.pg=e.c.pg):DyP l e ch (i+1) d' (out++[y]):=
 h.ap hi d' [y] (fun z hz=>by rw[Jc.1 hz];exact hA) (fun q=>by rw[hx q];simp) fun a b=>(hd a b).imp id fun q=>⟨y,vv,q⟩
def DyP.p2(h:DyP l e ch i d out)(hi:i<l.length)(y z:Dt)(hA:DyA l e ch y)(hB:DyA l e ch z)(hx:(l.getD i Dt0).pg≠e.c.pg->l.getD i Dt0=z)(hy:y.pg=e.c.pg):DyP l e ch (i+1) true (out++[y]++[z]):=by
 rw[JM]
 exact h.ap hi true ([y]++[z]) (fun w hw=>by
  rcases Jf.1 hw with hw | hw<;>rw[Jc.1 hw]<;>assumption) (fun q=>by rw[hx q]; simp) fun _ _=>.inr ⟨y,vv,hy⟩
def ob(l:List Dt)(e:E)(m:List Dt):Prop:=(¬(e.kind=1\/e.kind=2)->e.kind≠7->m=l)/\((e.kind=1\/e.kind=2)\/e.kind=7->DyP l e (e.kind==1||e.kind==2) l.length true m)
structure DyS(l:List Dt)(e:E)(ch:Bool) where
 i:Nat
 d:Bool
 out:List Dt
 hi:i<=l.length
 ho:out.length<=i+d.toNat
 hP:DyP l e ch i d out
@[go_sem] def dtL(l:List Dt):DV:=.pv (.sl (fz aF l))
def Mk (l:List Dt) (hl:l.length<=1000000) (e:E):VCalls prog 233 [.pv (.sl (fz aF l)),.agg e.d] [] (QM dtL fun m=>m.length<=l.length + 1/\ob l e m):=by
 refine dk Tryz.func233 ?_;have c1:=nu e;have hch:(e.kind==1||e.kind==2)=true ↔ e.kind=1\/e.kind=2:=vv;unfold ob;generalize (e.kind==1||e.kind==2)=ch at *;cases ch
 ·have hnc:¬(e.kind = 1\/e.kind = 2):=fun h=>by have:=hch.2 h;cases this
  refine rn F ?_
  repeat' (first|with_reducible exact⟨⟩|(refine sB F ?_ ?_<;>intro hZ)|refine vp F (c1) ?_)
  all_goals first
   | (refine ⟨rfl,rfl,l,rfl,Kw _,fun _ _=>rfl,fun h=>?_⟩
      rcases h with h|h
      ·exact absurd h hnc
      ·exact absurd h vq)
   |skip
  have h7:e.kind=7:=vq;refine VLoop.nilOwn 5 187 3 rfl ?_;refine Qj (fun s:DyS l e false=>⟨100,0,[(7,.int .i64 s.i),(6,.bool s.d),(5,.own 1 3 0 s.out.length),(3,.ptr 0 0),(0,.pv (.sl (fz aF l)))],[⟨58,true,e.d⟩,⟨187,true,cells aF s.out⟩]⟩) (fun s=>l.length-s.i) ⟨0,false,[],Jh _,Jh _,⟨fun y h=>by simp at h,fun y h=>by simp at h,fun h=>by cases h⟩⟩ (gc [0,1]) ?_;rintro⟨i,d,out,hi,ho,hP⟩;dsimp only;have ho3:out.length<=i+1:=Jo ho (Nat.add_le_add_left (Ke d) i);by_cases hil:i<l.length;rotate_left
  ·have hPl:i = l.length:=vz;subst hPl;have hfin:DyP l e false l.length true out:=⟨hP.ha,hP.hb,fun _ h=>by cases h⟩
   have F:=@hil;refine rn F ?_
   repeat' (first|with_reducible exact⟨⟩|(refine sG F ?_ ?_<;>intro hZ)|refine vp F (c1) ?_)
   all_goals first|exact⟨rfl,rfl,out,rfl,vz,fun _ h=>absurd h7 h,fun _=>hfin⟩|skip
  have hg:=iz l i hil;have hxl:l.getD i Dt0∈l:=by rw[Qd _ _ hil];exact Ji hil
  have hp0:=fun d' hx=>hP.p0 hil d' hx rfl;have hp1:=fun d' y hA hx=>hP.p1 hil d' y hA hx fun _ h=>by cases h
  unfold DyA at hp1;generalize l.getD i Dt0=x at *;have hb1:(out.length+1)*24<=140737488355328:=Jo (JE 24 (show out.length+1<=1000002 by omega)) vj;have hb2:(out.length+1+1)*24<=140737488355328:=Jo (JE 24 (show out.length+1+1<=1000003 by omega)) vj;have ho4:∀d':Bool,d.toNat<=d'.toNat->out.length<=i+1+d'.toNat:=fun d' h=>by omega
  have ho5:∀d':Bool,d.toNat<=d'.toNat->∀y:Dt,(out++[y]).length<=i+1+d'.toNat:=fun d' h y=>by rw[Je,Js];omega
  have hdt:d.toNat<=1:=Ke d;by_cases hs:x.pg=e.c.pg
  ·by_cases hr:e.ref >= x.last
   ·skip
    have F:=(Jb @hil (Jb @hg (Jb @hb1 (Jb @hb2 (Jb @hs @hr)))))
    refine rn F ?_
    repeat' (first|with_reducible exact⟨⟩|refine vp F (c1) ?_)
    all_goals exact⟨⟨i+1,true,out,vz,ho4 true hdt,hp0 true hs⟩,vu,(gc [0,1])⟩
   ·have hlt:e.ref < x.last:=vz;have F:=(Jb @hil (Jb @hg (Jb @hb1 (Jb @hb2 (Jb @hs @hr)))))
    refine rn F ?_
    repeat' (first|with_reducible exact⟨⟩|(refine sB F ?_ ?_<;>intro hZ)|refine vp F (c1) ?_)
    all_goals first|(refine⟨⟨i+1,true,out++[⟨e.c.pg,IntKind.i64.wrap (e.ref+1),x.last⟩],vz,ho5 true hdt _,hp1 true _ (.inr (.inr ⟨rfl,rfl,x,hxl,hs,rfl,hlt⟩)) (fun h=>absurd hs h)⟩,vu,?_⟩;dsimp only;rw[Je];exact(gc [0,4]))|(refine⟨⟨i+1,true,out++[⟨x.pg,IntKind.i64.wrap (e.ref+1),x.last⟩],vz,ho5 true hdt _,hp1 true _ (.inr (.inr ⟨hs,rfl,x,hxl,hs,rfl,hlt⟩)) (fun h=>absurd hs h)⟩,vu,?_⟩;dsimp only;rw[Je];exact(gc [0,4]))|(refine⟨⟨i+1,true,out++[⟨e.c.pg,x.rc,x.last⟩],vz,ho5 true hdt _,hp1 true _ (.inr (.inr ⟨rfl,rfl,x,hxl,hs,rfl,hlt⟩)) (fun h=>absurd hs h)⟩,vu,?_⟩;dsimp only;rw[Je];exact(gc [0,4]))|(refine⟨⟨i+1,true,out++[⟨x.pg,x.rc,x.last⟩],vz,ho5 true hdt _,hp1 true _ (.inr (.inr ⟨hs,rfl,x,hxl,hs,rfl,hlt⟩)) (fun h=>absurd hs h)⟩,vu,?_⟩;dsimp only;rw[Je];exact(gc [0,4]))|skip
  ·cases d
   ·skip
    have F:=(Jb @hil (Jb @hg (Jb @hb1 (Jb @hb2 @hs))))
    refine rn F ?_
    repeat' (first|with_reducible exact⟨⟩|(refine sG F ?_ ?_<;>intro hZ)|refine vp F (c1) ?_)
    all_goals
     refine⟨⟨i+1,false,out++[⟨x.pg,x.rc,x.last⟩],vz,ho5 false (JC _) _,hp1 false _ (.inl ⟨hxl,hs⟩) (fun _=>rfl)⟩,vu,?_⟩;dsimp only;rw[Je];exact(gc [0,4])
   ·skip
    have F:=(Jb @hil (Jb @hg (Jb @hb1 (Jb @hb2 @hs))))
    refine rn F ?_
    repeat' (first|with_reducible exact⟨⟩|(refine sG F ?_ ?_<;>intro hZ))
    all_goals
     refine⟨⟨i+1,true,out++[⟨x.pg,x.rc,x.last⟩],vz,ho5 true (JC _) _,hp1 true _ (.inl ⟨hxl,hs⟩) (fun _=>rfl)⟩,vu,?_⟩;dsimp only;rw[Je];exact(gc [0,4])
 have hc:e.kind=1\/e.kind=2:=hch.1 rfl;have F:=trivial;refine rn F ?_
 repeat' (first|with_reducible exact⟨⟩|refine vp F (c1) ?_)
 refine VLoop.nilOwn 5 187 3 rfl ?_;refine Qj (fun s:DyS l e true=>⟨100,0,[(7,.int .i64 s.i),(6,.bool s.d),(5,.own 1 3 0 s.out.length),(3,.ptr 0 0),(0,.pv (.sl (fz aF l)))],[⟨58,true,e.d⟩,⟨187,true,cells aF s.out⟩]⟩) (fun s=>l.length-s.i) ⟨0,false,[],Jh _,Jh _,⟨fun y h=>by simp at h,fun y h=>by simp at h,fun h=>by cases h⟩⟩ (gc [0,1]) ?_;rintro⟨i,d,out,hi,ho,hP⟩;dsimp only;have hdt:d.toNat<=1:=Ke d;have ho3:out.length<=i+1:=vz;have hb1:(out.length+1)*24<=140737488355328:=Jo (JE 24 (show out.length+1<=1000002 by omega)) vj;have hb2:(out.length+1+1)*24<=140737488355328:=Jo (JE 24 (show out.length+1+1<=1000003 by omega)) vj;by_cases hil:i<l.length;rotate_left
 ·have hPl:i = l.length:=vz;subst hPl;cases d
  ·have hfin:DyP l e true l.length true (out ++ [⟨e.c.pg,e.lsn,e.lsn⟩]):=⟨fun y hy=>by
    rcases Jf.1 hy with hy|hy
    ·exact hP.ha y hy
    ·rw[Jc.1 hy]; exact .inr (.inl ⟨rfl,rfl,rfl⟩),fun y hy hn=>Jj _ (hP.hb y hy hn),fun _ _=>⟨⟨e.c.pg,e.lsn,e.lsn⟩,vv,rfl⟩⟩
   rw[Ki] at ho;have F:=(Jb @hil @hb1)
   refine rn F ?_
   repeat' (first|with_reducible exact⟨⟩|refine vp F (c1) ?_)
   exact⟨rfl,rfl,_,rfl,by rw[Je,Js];omega,fun h=>absurd hc h,fun _=>hfin⟩
  ·skip
   have F:=(Jb @hil @hb1)
   refine rn F ?_;exact⟨rfl,rfl,out,rfl,vz,fun h=>absurd hc h,fun _=>hP⟩
 have hg:=iz l i hil;have hxl:l.getD i Dt0∈l:=by rw[Qd _ _ hil];exact Ji hil
 have hp1:=fun d' y hA hx hd=>hP.p1 hil d' y hA hx hd;have hp2:=fun y z hA hB hx hy=>hP.p2 hil y z hA hB hx hy;unfold DyA at hp1 hp2;generalize l.getD i Dt0=x at *;by_cases hs:x.pg=e.c.pg
 ·have hng:¬x.pg > e.c.pg:=vz;have F:=(Jb @hil (Jb @hg (Jb @hb1 (Jb @hb2 (Jb @hs @hng)))))
  refine rn F ?_
  repeat' (first|with_reducible exact⟨⟩|refine vp F (c1) ?_)
  all_goals first|(refine⟨⟨i+1,true,out++[⟨e.c.pg,x.rc,e.lsn⟩],vz,vg,hp1 true _ (.inr (.inl ⟨rfl,rfl,rfl⟩)) (fun h=>absurd hs h) (fun _ _=>.inr rfl)⟩,vu,?_⟩;dsimp only;rw[Je];exact(gc [0,4]))|(refine⟨⟨i+1,true,out++[⟨x.pg,x.rc,e.lsn⟩],vz,vg,hp1 true _ (.inr (.inl ⟨hs,rfl,rfl⟩)) (fun h=>absurd hs h) (fun _ _=>.inr hs)⟩,vu,?_⟩;dsimp only;rw[Je];exact(gc [0,4]))|(exfalso;omega)|skip
 ·cases d
  ·by_cases hgt:x.pg > e.c.pg
   ·rw [Ki] at ho;have F:=(Jb @hil (Jb @hg (Jb @hb1 (Jb @hb2 (Jb @hs @hgt)))))
    refine rn F ?_
    repeat' (first|with_reducible exact⟨⟩|refine vp F (c1) ?_)
    refine⟨⟨i+1,true,out++[⟨e.c.pg,e.lsn,e.lsn⟩]++[⟨x.pg,x.rc,x.last⟩],vz,vg,hp2 _ _ (.inr (.inl ⟨rfl,rfl,rfl⟩)) (.inl ⟨hxl,hs⟩) (fun _=>rfl) rfl⟩,vu,?_⟩;dsimp only;rw[Je,Je];exact(gc [0,6])
   ·skip
    have F:=(Jb @hil (Jb @hg (Jb @hb1 (Jb @hb2 (Jb @hs @hgt)))))
    refine rn F ?_;refine⟨⟨i+1,false,out++[⟨x.pg,x.rc,x.last⟩],vz,by rw[Je,Js];omega,hp1 false _ (.inl ⟨hxl,hs⟩) (fun _=>rfl) (fun h=>by cases h)⟩,vu,?_⟩;dsimp only;rw[Je];exact(gc [0,4])
  ·skip
   have F:=(Jb @hil (Jb @hg (Jb @hb1 (Jb @hb2 @hs))))
   refine rn F ?_
   repeat' (first|with_reducible exact⟨⟩|(refine sG F ?_ ?_<;>intro hZ))
   all_goals
    refine⟨⟨i+1,true,out++[⟨x.pg,x.rc,x.last⟩],vz,by rw[Je,Js];omega,hp1 true _ (.inl ⟨hxl,hs⟩) (fun _=>rfl) (fun _ _=>.inl rfl)⟩,vu,?_⟩;dsimp only;rw[Je];exact(gc [0,4])
def A9(a b:Gr):VCalls prog 238 [.agg a.d,.agg b.d] [] (QM boD fun _=>True):=by
 refine dd Tryz.func238 ?_;refine rn F ?_
 repeat' (first|with_reducible exact⟨⟩|(refine sB F ?_ ?_<;>intro hZ))
 all_goals exact⟨rfl,rfl,_,rfl,trivial⟩
def Ml{a b:Gr}(h1:a.tx=b.tx)(h2:a.pg=b.pg)(h3:a.sl=b.sl)(h4:a.md=b.md):a=b:=by
 obtain⟨_,_,_,_⟩:=a;obtain⟨_,_,_,_⟩:=b;dsimp only at *;subst h1 h2 h3 h4;rfl
def Ba(l:List Gr)(i:Nat)(g x:Gr)(h:x∈l):x∈l.take i++[g]++l.drop i:=by
 rw[<-J7 i l,Jf] at h;grind
@[go_sem] def grL(l:List Gr):DV:=.pv (.sl (fz aj l))
def Mm(l:List Gr)(hl:l.length<=10000000)(g:Gr):VCalls prog 234 [.pv (.sl (fz aj l)),.agg g.d] [] (QM grL fun m=>m.length<=l.length+1/\g∈m/\∀x∈l,x∈m):=by
 refine dk Tryz.func234 ?_;have c1:=fun a=>A9 a g;refine rn F ?_;refine Qj (fun s:To l.length=>⟨44,0,[(5,.int .i64 s.i),(3,.ptr 0 0),(0,.pv (.sl (fz aj l)))],[⟨221,true,g.d⟩]⟩) (fun s=>l.length-s.i) ⟨0,Jh _⟩ (gc [0]) ?_;rintro⟨i,hi⟩;dsimp only;have hg:=fun h:i<l.length=>bM l i h;by_cases hil:i<l.length
 ·have hg:=bM l i hil;have c2:=A9 (l.getD i Gr0) g;have hxm:l.getD i Gr0∈l:=by rw[Qd l i hil];exact Ji hil
  generalize l.getD i Gr0=x at *;have he:=tO x.tx x.pg x.sl x.md g.tx g.pg g.sl g.md;have hb:(i+1+(l.length-i))*32<=140737488355328:=vz;have F:=(Jb @hg (Jb @he @hb))
  refine rn F ?_
  repeat' (first|with_reducible exact⟨⟩|(refine sB F ?_ ?_<;>intro hZ)|(refine Qs (c2) rfl ?_;rintro b -;refine rn F ?_)|(refine Qf (id:=2) [0,1,2,3,4,5,6,7,8,9] [⟨[],[],10,[0,1,2,3,5,6,7],[11]⟩] vw vw ?_;refine rn F ?_)|(refine Qf (id:=4) [0,1,2,3,4,5,6,7,8,9,10,11] [] vw vw ?_;refine rn F ?_)|(refine Qf (id:=6) [0,1,2,4,7,8,9] [⟨[5],[],3,[0,1,4,7,8,9],[]⟩,⟨[5],[5],6,[0,1,2,4,7,8,9],[]⟩,⟨[],[],10,[0,1,2,4,7,8],[]⟩,⟨[],[],11,[],[]⟩] vw vw ?_;refine rn F ?_))
  all_goals first|exact⟨⟨i+1,vz⟩,vu,(gc [0])⟩|exact⟨rfl,rfl,l,rfl,Kw _,by rw[<-Ml (a:=x) (b:=g) wz wz wz wz];exact hxm,fun _ h=>h⟩|exact⟨rfl,rfl,l.take i++[⟨g.tx,g.pg,g.sl,g.md⟩]++l.drop i,rfl,vg,vv,fun x h=>Ba l i _ x h⟩|skip
 ·skip
  have F:=trivial;refine rn F ?_
  repeat' (first|with_reducible exact⟨⟩|(refine Qf (id:=2) [0,1,2,3,4,5,6,7,8,9] [⟨[],[],10,[0,1,2,3,5,6,7],[11]⟩] vw vw ?_;refine rn F ?_)|(refine Qf (id:=4) [0,1,2,3,4,5,6,7,8,9,10,11] [] vw vw ?_;refine rn F ?_)|(refine Qf (id:=6) [0,1,2,4,7,8,9] [⟨[5],[],3,[0,1,4,7,8,9],[]⟩,⟨[5],[5],6,[0,1,2,4,7,8,9],[]⟩,⟨[],[],10,[0,1,2,4,7,8],[]⟩,⟨[],[],11,[],[]⟩] vw vw ?_;refine rn F ?_))
  first|exact⟨rfl,rfl,l.take i++[⟨g.tx,g.pg,g.sl,g.md⟩]++l.drop i,rfl,vg,vv,fun x h=>Ba l i _ x h⟩|exact⟨rfl,rfl,l++[⟨g.tx,g.pg,g.sl,g.md⟩],rfl,vv,vv,fun x h=>Jj _ h⟩
@[go_sem] def lkR(a:List Gr×Int):DV:=.tup [.pv (.sl (fz aj a.1)),.int .i64 a.2]
def GrOk(x:Lg)(t:Tx)(n:Int)(out:List Gr):Prop:=(ah x n).2=0/\(ah x n).1.tx=t.id/\exG out t.id (ah x n).1.c.pg (ah x n).1.c.sl
def iI(x:Lg)(t:Tx)(out:List Gr):Prop:=∀n∈t.l,GrOk x t n out
def GrOk.up(h:GrOk x t n o)(hs:∀g∈o,g∈o'):GrOk x t n o':=⟨h.1,h.2.1,by obtain⟨g,g1,g2⟩:=h.2.2;exact⟨g,hs g g1,g2⟩⟩
structure LkO(x:Lg)(l:List Tx)(n:Nat) where
 i:Nat
 out:List Gr
 hi:i<=n
 ho:out.length<=100000*i
 hg:∀t∈l.take i,iI x t out
structure LkI(x:Lg)(l:List Tx)(t:Tx)(n i:Nat) where
 k:Nat
 out:List Gr
 hk:k<=n
 ho:out.length<=100000*i+k
 hg:∀t∈l.take i,iI x t out
 h2:∀n∈t.l.take k,GrOk x t n out
def Mn (x:Lg) (hx:x.es.length<=1000000) (l:List Tx) (hl:smN 65 l):VCalls prog 203 [.agg x.c,.pv (.sl (fz ai l))] [] (QM lkR fun a=>a.1.length<=6500000/\(a.2 = 0->∀t ∈ l,iI x t a.1)):=by
 refine dk Tryz.func203 ?_;have h65:=hl.1;refine rn F ?_;refine VLoop.wkS ?_;refine rn trivial ?_;refine Qj (fun s:LkO x l l.length=>⟨68,0,[(7,.int .i64 s.i),(6,.pv (.sl (fz aj s.out))),(2,.ptr 0 0),(1,.pv (.sl (fz ai l)))],[⟨26,true,x.c⟩]⟩) (fun s=>l.length-s.i) ⟨0,[],Jh _,Jh _,fun t h=>by simp at h⟩ (gc [0]) ?_;rintro⟨i,out,hi,ho,hG⟩;dsimp only;by_cases hil:i<l.length;rotate_left
 ·skip
  refine rn F ?_;exact⟨rfl,rfl,(out,0),rfl,vu,fun _=>by rwa [Jl vz] at hG⟩
 have hg:=dx l i hil;have hss:(l.getD i Tx0).l.length<=100000:=by rw[Qd _ _ hil];exact(hl.2 _ (Ji hil)).1
 have htk:∀o,(∀t∈l.take i,iI x t o)->iI x (l.getD i Tx0) o->∀t∈l.take (i+1),iI x t o:=fun o h1 h2 t ht=>by
  rw[Jk hil,Jf,Jc,<-Qd l i hil Tx0] at ht;rcases ht with ht|ht
  ·exact h1 t ht
  ·rw[ht];exact h2
 generalize l.getD i Tx0=t at *;refine rn F ?_;refine Qj (fun s:LkI x l t t.l.length i=>⟨68,0,[(8,.int .i64 s.k),(7,.int .i64 i),(6,.pv (.sl (fz aj s.out))),(2,.ptr 0 0),(1,.pv (.sl (fz ai l)))],[⟨26,true,x.c⟩]⟩) (fun s=>t.l.length-s.k) ⟨0,out,Jh _,ho,hG,fun n h=>by simp at h⟩ (gc [0]) ?_;rintro⟨k,out2,hk,ho2,hG2,hN⟩;dsimp only;by_cases hkl:k<t.l.length;rotate_left
 ·skip
  have F:=@hg;refine rn F ?_;exact⟨⟨i+1,out2,hil,by rw[Nat.mul_succ];omega,htk out2 hG2 fun n hn=>hN n (by rwa [Jl vz])⟩,vu,(gc [0])⟩
 have hg2:=bL t.l k hkl;have c1:=lJ x vz (t.l.getD k 0)
 have hstep:∀ m,(∀ g∈out2,g∈m)->(ah x (t.l.getD k 0)).2=0->(ah x (t.l.getD k 0)).1.tx=t.id->(⟨(ah x (t.l.getD k 0)).1.tx,(ah x (t.l.getD k 0)).1.c.pg,(ah x (t.l.getD k 0)).1.c.sl,2⟩:Gr)∈m->(∀ t∈l.take i,iI x t m)/\∀ n∈t.l.take (k+1),GrOk x t n m:=fun m h1 h2 h3 h4=>⟨fun t ht n hn=>(hG2 t ht n hn).up h1,fun n hn=>by
  rw[Jk hkl,Jf,Jc,<-Qd t.l k hkl 0] at hn;rcases hn with hn|hn
  ·exact(hN n hn).up h1
  ·rw[hn]; exact⟨h2,h3,_,h4,h3,rfl,rfl,Jw _⟩⟩
 generalize ah x (t.l.getD k 0)=r at *;obtain⟨e,f⟩:=r;dsimp only at c1;have c2:=Mm out2 vz ⟨e.tx,e.c.pg,e.c.sl,2⟩;have F:=(Jb @hg @hg2)
 refine rn F ?_
 repeat' (first|with_reducible exact⟨⟩|(refine sG F ?_ ?_<;>intro hZ)|(refine sB F ?_ ?_<;>intro hZ)|refine vp F (c1) ?_|(refine Qs (c2) rfl ?_;rintro m hm;refine rn F ?_)|(refine Qf (id:=8) [0,1,2,3,4,5,6,7,8] [⟨[13],[],9,[1,2,3,4,5,6,7],[10,11,12]⟩,⟨[13],[13],14,[12],[]⟩,⟨[],[],15,[],[]⟩] vw vw ?_;refine rn F ?_)|(refine Qf (id:=11) [0,1,2,3,4,5,6,7,8,9,10,11,12] [] vw vw ?_;refine rn F ?_))
 all_goals first
  |exact⟨rfl,rfl,([],_),rfl,Jh _,fun h=>by first|(simp at h;done)|exact absurd h vq⟩
  | (obtain ⟨a1,a2⟩:=hstep m hm.2.2 wx wx hm.2.1
     exact⟨⟨k+1,m,hkl,by have:=hm.1; omega,a1,a2⟩,vu,(gc [0])⟩)
  |skip
structure An where
 pg:Int
 nx:Int
 cp:Int
 lo:List Tx
 lk:List Gr
 la:List Dt
 ix:List Rw
@[go_sem] def An.d(a:An):List DV:=[.int .i64 a.pg,.int .i64 a.nx,.int .i64 a.cp,.pv (.sl (fz ai a.lo)),.pv (.sl (fz aj a.lk)),.pv (.sl (fz aF a.la)),.pv (.sl (fz ay a.ix))]
def An0:An:=⟨0,0,0,[],[],[],[]⟩
def An.sm(a:An)(n:Nat):Prop:=smN 65 a.lo/\a.lk.length<=6500000/\a.la.length<=n/\a.ix.length<=64
def uM(n:Nat):An0.sm n:=⟨Q9 _,Jh _,Jh _,Jh _⟩
@[go_sem] def anD(a:An×Int):DV:=.tup [.agg a.1.d,.int .i64 a.2]
def lX(h:(QA l e).2=0):al l=true/\e.okB=true:=by
 unfold QA at h;grind
def qZ{e:E}(h:e.okB=true):0<=e.tx/\e.tx<=1073741824:=by
 unfold E.okB at h;rw[Jd] at h;have h2:=h.2;unfold E.kindB txB at h2;grind
def Bb(h:(QA l e).2=0)(n:Int):(if IntKind.i64.wrap (e.tx+1) > n then IntKind.i64.wrap (e.tx+1) else n)=max n (e.tx+1):=by
 have:=qZ (lX h).2;have hw:IntKind.i64.wrap (e.tx+1)=e.tx+1:=by rw[IntKind.wrap_i64];omega
 grind
def NoteR(a:An)(e:E)(b:An):Prop:=b.pg=a.pg/\b.cp=a.cp/\b.nx=max a.nx (e.tx+1) /\
 ((¬(0<e.tx/\idT a.lo e.tx<0)/\(QA a.lo e).2=0/\b.lo=(QA a.lo e).1)\/((0<e.tx/\idT a.lo e.tx<0)/\(aY a.lo e.tx).2=0/\(QA (aY a.lo e.tx).1 e).2=0/\b.lo=(QA (aY a.lo e.tx).1 e).1)) /\
 (aZ a.ix e).2=0/\b.ix=(aZ a.ix e).1/\((e.kind=1\/e.kind=2)->e.c.pg<a.pg)/\ob a.la e b.la
def Mo{a:An}{e:E}(q1:¬(0<e.tx/\idT a.lo e.tx<0))(q2:(QA a.lo e).2=0)(q3:(aZ a.ix e).2=0)(q4:(e.kind=1\/e.kind=2)->e.c.pg<a.pg)(la:List Dt)(q5:ob a.la e la)(x:Int)(q6:x=if IntKind.i64.wrap (e.tx+1) > a.nx then IntKind.i64.wrap (e.tx+1) else a.nx):NoteR a e ⟨a.pg,x,a.cp,(QA a.lo e).1,a.lk,la,(aZ a.ix e).1⟩:=
 ⟨rfl,rfl,q6.trans (Bb q2 _),.inl ⟨q1,q2,rfl⟩,q3,rfl,q4,q5⟩
def Mp{a:An}{e:E}(q1:0<e.tx/\idT a.lo e.tx<0)(q0:(aY a.lo e.tx).2=0)(q2:(QA (aY a.lo e.tx).1 e).2=0)(q3:(aZ a.ix e).2=0)(q4:(e.kind=1\/e.kind=2)->e.c.pg<a.pg)(la:List Dt)(q5:ob a.la e la)(x:Int)(q6:x=if IntKind.i64.wrap (e.tx+1) > a.nx then IntKind.i64.wrap (e.tx+1) else a.nx):NoteR a e ⟨a.pg,x,a.cp,(QA (aY a.lo e.tx).1 e).1,a.lk,la,(aZ a.ix e).1⟩:=
 ⟨rfl,rfl,q6.trans (Bb q2 _),.inr ⟨q1,q0,q2,rfl⟩,q3,rfl,q4,q5⟩
def Bc(a:An)(n:Nat)(e:E)(r:An×Int):Prop:=r.1.sm (n+1)/\(r.2=0->NoteR a e r.1)
def Mq(a:An)(n:Nat)(hn:n<=100000)(ha:a.sm n)(e:E):VCalls prog 202 [.agg a.d,.agg e.d] [] (QM anD (Bc a n e)):=by
 refine dk Tryz.func202 ?_;obtain⟨h1,h2,h3,h4⟩:=ha;have hl:=h1.1;have c1:=gF a.lo vz e.tx;have c2:=ye a.lo (h1.smL vz) e.tx;have c3:=tG a.lo (h1.smL vz) e;have hs2:=yN (l:=a.lo) e.tx;have hs3:=tV (l:=a.lo) e;have c4:=tG (aY a.lo e.tx).1 (hs2.smL vz) e;have hs4:=tV (l:=(aY a.lo e.tx).1) e;have c5:=yM a.ix vz e;have h5:=yU a.ix e h4;have c6:=nu e;have c7:=Mk a.la vz e;have k1:=@Mo a e;have k2:=@Mp a e;have hch:(e.kind==1||e.kind==2)=true ↔ e.kind=1\/e.kind=2:=vv;generalize QA (aY a.lo e.tx).1 e=N2 at *;generalize aY a.lo e.tx=B at *;generalize QA a.lo e=N1 at *;generalize aZ a.ix e=R at *;generalize (e.kind==1||e.kind==2)=ch at *;generalize idT a.lo e.tx=f at *;obtain⟨b,eb⟩:=B;obtain⟨n1,e1⟩:=N1;obtain⟨n2,e2⟩:=N2;obtain⟨r,er⟩:=R;dsimp only at *;have old:∀z,z≠0->QM anD (Bc a n e) (anD (a,z)) []:=fun z hz=>⟨rfl,rfl,(a,z),rfl,⟨h1,h2,vu,h4⟩,fun h=>absurd h hz⟩
 refine rn F ?_
 repeat' (first|with_reducible exact⟨⟩|(refine sG F ?_ ?_<;>intro hZ)|(refine sB F ?_ ?_<;>intro hZ)|refine vp F (c1) ?_|refine vp F (c2) ?_|refine vp F (c3) ?_|refine vp F (c4) ?_|refine vp F (c5) ?_|refine vp F (c6) ?_|(refine Qs (c7) rfl ?_;rintro la hla;refine rn F ?_))
 all_goals first|exact old _ wj|exact⟨rfl,rfl,(⟨a.pg,_,a.cp,b,a.lk,a.la,a.ix⟩,_),rfl,⟨hs2,h2,vu,h4⟩,fun h=>absurd h wg⟩|exact⟨rfl,rfl,(⟨a.pg,_,a.cp,n1,a.lk,a.la,a.ix⟩,_),rfl,⟨hs3,h2,vu,h4⟩,fun h=>absurd h wg⟩|exact⟨rfl,rfl,(⟨a.pg,_,a.cp,n1,a.lk,a.la,r⟩,_),rfl,⟨hs3,h2,vu,h5⟩,fun h=>absurd h wg⟩|exact⟨rfl,rfl,(⟨a.pg,_,a.cp,n2,a.lk,a.la,a.ix⟩,_),rfl,⟨hs4,h2,vu,h4⟩,fun h=>absurd h wg⟩|exact⟨rfl,rfl,(⟨a.pg,_,a.cp,n2,a.lk,a.la,r⟩,_),rfl,⟨hs4,h2,vu,h5⟩,fun h=>absurd h wg⟩|skip
 all_goals
  have h4c:(e.kind=1\/e.kind=2)->e.c.pg<a.pg:=fun h=>by
   have hc1:=hch.2 h
   first|assumption|(exfalso;simp_all;done)
  first|exact⟨rfl,rfl,(⟨a.pg,_,a.cp,n1,a.lk,la,r⟩,_),rfl,⟨hs3,h2,Jo hla.1 (Kj h3),h5⟩,fun _=>k1 vz vz vz h4c la hla.2 _ rfl⟩|exact⟨rfl,rfl,(⟨a.pg,_,a.cp,n2,a.lk,la,r⟩,_),rfl,⟨hs4,h2,Jo hla.1 (Kj h3),h5⟩,fun _=>k2 vz vz vz vz h4c la hla.2 _ rfl⟩
def Bd(x:Lg)(n:Int)(a:An):Prop:=a.pg=n/\((x.f<=1/\a.nx=1/\a.cp=0/\a.lo=[]/\a.la=[]/\a.ix=J3 n.toNat Rw0) \/
 ∃ i,i<x.es.length/\(x.es.getD i E0).kind=6/\a.cp=(x.es.getD i E0).lsn/\(x.es.getD i E0).blob≠[]/\∀ c,CkV c->(x.es.getD i E0).blob=aP c->c.pg=n/\a.nx=c.nx/\a.lo=c.tx/\a.la=c.dl/\a.ix=c.ix)
def Mr(x:Lg)(n:Int)(r:An×Int):Prop:=r.1.sm 256/\(r.2=0->Bd x n r.1)
def Ms (x:Lg) (hx:x.es.length<=1000000) (n:Int) (hn:1<=n/\n<=64):VCalls prog 201 [.agg x.c,.int .i64 n] [] (QM anD (Mr x n)):=by
 refine dk Tryz.func201 ?_;have c1:=Mj x hx;have c2:=Ab n;refine rn F ?_
 repeat' (first|with_reducible exact⟨⟩|(refine sB F ?_ ?_<;>intro hZ)|(refine Qs (c1) rfl ?_;rintro⟨c,at_,ok⟩ hc;refine rn F ?_)|(refine Qs (c2) rfl ?_;rintro⟨ix,e⟩ hi;refine rn F ?_))
 all_goals first
  |exact⟨rfl,rfl,(An0,24),rfl,uM _,fun h=>by simp at h⟩
  |exact⟨rfl,rfl,(⟨n,1,0,[],[],[],ix⟩,0),rfl,⟨Q9 _,Jh _,Jh _,hi.1⟩,fun _=>⟨rfl,.inl ⟨vz,rfl,rfl,rfl,rfl,hi.2.1 (hi.2.2 hn.1 hn.2)⟩⟩⟩
  | (have hl:=hc.2 (by first | assumption | (dsimp only; assumption))
     have hq:=hc.1;dsimp only at hl hq;obtain⟨i,l1,l2,l3,l5,l4⟩:=hl
     exact⟨rfl,rfl,(⟨n,c.nx,at_,c.tx,[],c.dl,c.ix⟩,0),rfl,⟨hq.1.mono vj,Jh _,hq.2.1,hq.2.2⟩,fun _=>⟨rfl,.inr ⟨i,l1,l2,l3,l5,fun c0 q1 q2=>by
      have:=l4 c0 q1 q2;subst this
      exact⟨wz,rfl,rfl,rfl,rfl⟩⟩⟩⟩)
  |skip
section
attribute [local go_sem] j5 lE nA nB fP fu dP nH nI iv iw
inductive AnC (x:Lg) (n:Int):Nat->An->Prop
 |init {a:An}:Bd x n a->AnC x n 0 a
 |skip {i:Nat} {a:An}:AnC x n i a->i<x.es.length->(x.es.getD i E0).lsn<=a.cp->AnC x n (i+1) a
 |note {i:Nat} {a b:An}:AnC x n i a->i<x.es.length->¬(x.es.getD i E0).lsn<=a.cp->NoteR a (x.es.getD i E0) b->AnC x n (i+1) b
def loF(a:An)(lk:List Gr):An:=⟨a.pg,a.nx,a.cp,a.lo.filter fun t=>decide (0<t.n),lk,a.la,a.ix⟩
def uN(x:Lg)(n:Int)(r:An×Int):Prop:=r.1.sm 10000/\(r.2=0->lgB x=true/\(1<=n/\n<=64)/\∃a lk,AnC x n x.es.length a/\r.1=loF a lk/\∀t∈(loF a lk).lo,iI x t lk)
structure AnS(x:Lg)(n:Int) where
 i:Nat
 a:An
 hi:i<=x.es.length
 ha:a.sm (256+i)
 hc:AnC x n i a
def flT(l:List Tx)(i:Nat):List Tx:=(l.take i).filter fun t=>decide (0<t.n)
def Mt(l:List Tx)(i:Nat)(h:i<l.length):flT l (i+1)=if 0<(l.getD i Tx0).n then flT l i++[l.getD i Tx0] else flT l i:=by
 unfold flT;rw[Jk h,J1,Qd l i h];grind
structure LoS(l:List Tx) where
 i:Nat
 out:List Tx
 hi:i<=l.length
 ho:out.length<=i
 hs:∀t∈out,t.ss
 he:out=flT l i
def Za:List DV:=[.int .i64 0,.int .i64 0,.int .i64 0,.pv (.slc []),.pv (.slc []),.pv (.slc []),.pv (.slc [])]
def Mu(x:Lg)(hx:x.es.length<=4096)(n:Int)(hv:lgB x=true)(hn:1<=n/\n<=64)(a:An)(ha:a.sm 10000)(hc:AnC x n x.es.length a)(out:List Tx)(ho:smN 65 out)(he:out=a.lo.filter fun t=>decide (0<t.n)):VWp prog (eM 8 (dP Tryz.f156)) (lY prog [ResultVar.cell 4 268,ResultVar.tmp 5] 0 (QM anD (uN x n))) ⟨98,0,[(9,.pv (.sl (fz ai out))),(6,.ptr 2 0),(4,.ptr 1 0),(2,.ptr 0 0)],[⟨26,true,x.c⟩,⟨268,true,Za⟩,⟨268,true,a.d⟩]⟩:=by
 refine Qx _ _ _ ?_;have c4:=Mn x vz out ho;unfold Za;(unfold Tryz.f156;refine rn trivial ?_)
 refine rn F ?_
 repeat' (first|with_reducible exact⟨⟩|(refine sB F ?_ ?_<;>intro hZ)|(refine Qs (c4) rfl ?_;rintro⟨lk,e⟩ hlk;refine rn F ?_))
 ·exact⟨rfl,rfl,(An0,_),rfl,uM _,fun h=>absurd h (by first|assumption|(dsimp only;assumption))⟩
 ·exact⟨rfl,rfl,(⟨a.pg,a.nx,a.cp,out,lk,a.la,a.ix⟩,0),rfl,⟨ho,hlk.1,ha.2.2.1,ha.2.2.2⟩,fun _=>⟨hv,hn,a,lk,hc,by unfold loF;rw[he],by unfold loF;rw[<-he];exact hlk.2 (by first|assumption|(dsimp only;assumption)|omega)⟩⟩
def Mv(x:Lg)(hx:x.es.length<=4096)(n:Int):VCalls prog 156 [.agg x.c,.int .i64 n] [] (QM anD (uN x n)):=by
 refine tE (fn:=Tryz.f156) (c:=dP Tryz.f156) Tryz.func156 rfl vw (by simp[Tryz.f156]) (VWp.postK ?_);refine tF 8 ?_;have tail:=fun hv hn a ha hc out ho he=>Mu x hx n hv hn a ha hc out ho he;generalize eM 8 (dP Tryz.f156)=rest at *;have c1:=fS x vz;have c2:=fun hn=>Ms x vz n hn;have err:∀z,z≠0->QM anD (uN x n) (anD (An0,z)) []:=fun z hz=>⟨rfl,rfl,(An0,z),rfl,uM _,fun h=>absurd h hz⟩
 (unfold Tryz.f156;refine rn trivial ?_)
 cases hv:lgB x
 ·rw [hv] at c1;refine rn F ?_
  repeat' (first|with_reducible exact⟨⟩|refine vp F (c1) ?_)
  exact err _ vj
 rw[hv] at c1;by_cases hn:1<=n/\n<=64;rotate_left
 ·skip
  refine rn F ?_
  repeat' (first|with_reducible exact⟨⟩|(refine sG F ?_ ?_<;>intro hZ)|refine vp F (c1) ?_)
  all_goals first|exact err _ vj|(exfalso;omega)
 refine rn F ?_
 repeat' (first|with_reducible exact⟨⟩|(refine sB F ?_ ?_<;>intro hZ)|refine vp F (c1) ?_|(refine Qs (c2 hn) rfl ?_;rintro⟨a0,e0⟩ h0;refine rn F ?_))
 all_goals first|exact err _ wj|(exfalso;omega)|skip
 have h0b:=h0.2 wx;replace h0:=h0.1;dsimp only at h0 h0b;refine Qj (fun s:AnS x n=>⟨98,0,[(8,.int .i64 s.i),(6,.ptr 2 0),(4,.ptr 1 0),(2,.ptr 0 0)],[⟨26,true,x.c⟩,⟨268,true,Za⟩,⟨268,true,s.a.d⟩]⟩) (fun s=>x.es.length-s.i) ⟨0,a0,Jh _,h0,.init h0b⟩ (gc [0,1,2]) ?_;rintro⟨i,a,hi,ha,hc⟩;dsimp only;unfold Za;by_cases hil:i<x.es.length
 ·have hg:=jf x.es i hil;have c3:=Mq a (256+i) vz ha (x.es.getD i E0);have hk1:=fun h=>AnC.skip hc hil h;have hk2:=fun h b hb=>AnC.note (b:=b) hc hil h hb;generalize x.es.getD i E0=e at *;have F:=@hg;refine rn F ?_
  repeat' (first|with_reducible exact⟨⟩|(refine sB F ?_ ?_<;>intro hZ)|(refine Qs (c3) rfl ?_;rintro⟨a1,e1⟩ h1;refine rn F ?_)|(refine Qf (id:=11) [0,1,2,3,4,5,6,7,8] [] vw vw ?_;refine rn F ?_)|(refine Qf (id:=12) [0,1,2,3,4,5] [⟨[],[],6,[1,2,3,4],[7,8,9]⟩,⟨[],[],10,[9],[]⟩,⟨[],[],11,[],[]⟩] vw vw ?_;refine rn F ?_))
  all_goals first|exact err _ wj|exact⟨⟨i+1,a,hil,⟨ha.1,ha.2.1,Jn ha.2.2.1,ha.2.2.2⟩,hk1 vz⟩,vu,(gc [0,1,2])⟩|exact⟨⟨i+1,a1,hil,h1.1,hk2 vz a1 (h1.2 wx)⟩,vu,(gc [0,1,2])⟩|skip
 have F:=trivial;refine rn F ?_;refine VLoop.nilOwn 9 64 6 rfl ?_;have hlo:=ha.1.1;refine Qj (fun s:LoS a.lo=>⟨98,0,[(10,.int .i64 s.i),(9,.own 3 6 0 s.out.length),(6,.ptr 2 0),(4,.ptr 1 0),(2,.ptr 0 0)],[⟨26,true,x.c⟩,⟨268,true,Za⟩,⟨268,true,a.d⟩,⟨64,true,cells ai s.out⟩]⟩) (fun s=>a.lo.length-s.i) ⟨0,[],Jh _,Jh _,fun t h=>by simp at h,rfl⟩ (gc [0,1,2,3]) ?_;rintro⟨k,out,hk,ho,hs,he⟩;dsimp only;unfold Za;by_cases hkl:k<a.lo.length
 ·have hg:=dx a.lo k hkl;have hss:(a.lo.getD k Tx0).ss:=by rw[Qd _ _ hkl];exact ha.1.2 _ (Ji hkl)
  have hb:(out.length+1)*80<=140737488355328:=Jo (JE 80 (show out.length+1<=1000 by omega)) vj;have hsu:=Mt a.lo k hkl;rw[<-he] at hsu;generalize a.lo.getD k Tx0=t at *;have F:=(Jb @hg @hb)
  refine rn F ?_
  repeat' (first|with_reducible exact⟨⟩|(refine sB F ?_ ?_<;>intro hZ))
  ·have hl2:(out ++ [t]).length = out.length + 1:=vv;rw[if_pos vz] at hsu;refine⟨⟨k+1,out++[t],hkl,by rw[hl2];omega,fun z hz=>?_,hsu.symm⟩,vu,?_⟩
   ·rcases Jf.1 hz with h|h
    ·exact hs z h
    ·rw[Jc.1 h];exact hss
   dsimp only;rw[hl2];exact(gc [0,1,2,5])
  ·rw [if_neg vz] at hsu;exact⟨⟨k+1,out,hkl,vz,hs,hsu.symm⟩,vu,(gc [0,1,2,3])⟩
 have hsm:smN 65 out:=⟨vz,hs⟩
 have F:=trivial;refine rn F ?_;refine⟨⟨98,0,[(9,.pv (.sl (fz ai out))),(6,.ptr 2 0),(4,.ptr 1 0),(2,.ptr 0 0)],[⟨26,true,x.c⟩,⟨268,true,Za⟩,⟨268,true,a.d⟩]⟩,.fzN (n:=3) ⟨rfl,rfl,Jh _,vv,?_,?_⟩,tail hv hn a (by have:=ha;exact⟨this.1,this.2.1,Jo this.2.2.1 vz,this.2.2.2⟩) (by rw[show x.es.length=i by omega];exact hc) out hsm (by rw[he];unfold flT;rw[Jl vz])⟩
 ·rfl
 ·refine ⟨?_,rfl,rfl,rfl,trivial⟩;(refine rn trivial ?_;try with_reducible exact⟨⟩)
end
section
attribute [local go_sem] ba
structure Rd where
 tx:Int
 pg:Int
 sl:Int
 at_:Int
 cell:Ce
def dg:Enc Rd:=⟨6,fun r=>[.lit (.int .i64 r.tx),.lit (.int .i64 r.pg),.lit (.int .i64 r.sl),.lit (.int .i64 r.at_),.lit (.bool r.cell.set),.str r.cell.data],vj,fun _=>rfl⟩
def Be(l:List Rd):(cells dg l).length=l.length*6:=QK dg l
def Mw(l:List Rd)(n:Nat)(h:l.length*6<=n):(cells dg l).take n=cells dg l:=by rw[Jl];rw[Be];exact h
def Mx(h:l.length=len):bw n hp 0 6 len (some (cells dg l))=some (.sl (fz dg l)):=Q3 dg h
def My(l:List Rd)(a b c d:Int)(x:Bool)(s:List UInt8):cells dg l++[.pv (.lit (.int .i64 a)),.pv (.lit (.int .i64 b)),.pv (.lit (.int .i64 c)),.pv (.lit (.int .i64 d)),.pv (.lit (.bool x)),.pv (.str s)]=cells dg (l++[⟨a,b,c,d,⟨x,s⟩⟩]):=by rw[QC];rfl
attribute [go_sem] Be Mw Mx My
structure Sp where
 kind:Int
 tx:Int
 pg:Int
 torn:Int
 cut:Int
 a:Ac
@[go_sem] def Sp.d(t:Sp):List DV:=[.int .i64 t.kind,.int .i64 t.tx,.int .i64 t.pg,.int .i64 t.torn,.int .i64 t.cut,.int .i64 t.a.kind,.int .i64 t.a.pg,.int .i64 t.a.sl,.pv (.str t.a.data)]
structure Sc where
 s:Sv
 tx:List Int
 rd:List Rd
 dead:Bool
def Sc.sm(c:Sc)(n:Nat):Prop:=c.s.sm/\c.tx.length<=n/\c.rd.length<=n
@[go_sem] def scB(c:Sc)(i j:Nat):Blk:=⟨123,true,c.s.d++[.own i 1 0 c.tx.length,.own j 6 0 c.rd.length,.bool c.dead]⟩
@[go_sem] def scT(l:List Int):Blk:=⟨3,true,cells Q7 l⟩
@[go_sem] def scR(l:List Rd):Blk:=⟨173,true,cells dg l⟩
@[go_sem] def oc:Blk:=⟨3,false,[]⟩
@[go_sem] def lZ:Blk:=⟨173,false,[]⟩
def ScEnd{α:Type}(f:α->DV)(Q:Nat->Sc->α->Prop):DV->Qb->Prop:=fun r h'=>∃c a B,r=f a/\(f a).nums (fun _=>false)=true/\((Q 0 c a/\h'=scB c 1 2::scT c.tx::scR c.rd::[B])\/(Q 1 c a/\h'=scB c 3 2::oc::scR c.rd::scT c.tx::[B])\/(Q 2 c a/\h'=scB c 1 3::scT c.tx::lZ::scR c.rd::[B]))
def ScEnd.mono(h:∀n c a,Q n c a->Q' n c a):∀r h',ScEnd f Q r h'->ScEnd f Q' r h'
 |_,_,⟨c,a,B,e1,e2,.inl ⟨q,e⟩⟩=>⟨c,a,B,e1,e2,.inl ⟨h _ _ _ q,e⟩⟩
 |_,_,⟨c,a,B,e1,e2,.inr (.inl ⟨q,e⟩)⟩=>⟨c,a,B,e1,e2,.inr (.inl ⟨h _ _ _ q,e⟩)⟩
 |_,_,⟨c,a,B,e1,e2,.inr (.inr ⟨q,e⟩)⟩=>⟨c,a,B,e1,e2,.inr (.inr ⟨h _ _ _ q,e⟩)⟩
def ju(k0 k1 k2:Nat)(cc:VCalls P g args0 [scB c 1 2,scT c.tx,scR c.rd] (ScEnd f Q))(hk0:hp[k0]?=some (scB c k1 k2))(hk1:hp[k1]?=some (scT c.tx))(hk2:hp[k2]?=some (scR c.rd))(n01:k0≠k1)(n02:k0≠k2)(n12:k1≠k2)(ha0:args0=args.map (DV.ren fun j=>[k0,k1,k2].idxOf j))(ha:DV.nums.go [k0,k1,k2].contains args=true)(hN:∀c a,Q 0 c a->∀B,K (f a) (((hp.set k0 (scB c k1 k2)).set k1 (scT c.tx)).set k2 (scR c.rd)++[B]))(hT:∀c a,Q 1 c a->∀B,K (f a) (((hp.set k0 (scB c hp.length k2)).set k1 oc).set k2 (scR c.rd)++scT c.tx::[B]))(hR:∀c a,Q 2 c a->∀B,K (f a) (((hp.set k0 (scB c k1 hp.length)).set k1 (scT c.tx)).set k2 lZ++scR c.rd::[B])):VCalls P g args hp K:=by
 have l0:k0<hp.length:=(JN.1 hk0).1;have l1:k1<hp.length:=(JN.1 hk1).1;have l2:k2<hp.length:=(JN.1 hk2).1;have q1:(k0==k1)=false:=by simp[n01]
 have q2:(k0==k2)=false:=by simp[n02]
 have q3:(k1==k2)=false:=by simp[n12]
 have rt:∀(σ:Nat->Nat) l,aG σ (scT l)=scT l:=fun σ l=>jh (Qw _ _ _);have rr:∀(σ:Nat->Nat) l,aG σ (scR l)=scR l:=fun σ l=>jh (Qw _ _ _);have rs:∀(σ:Nat->Nat) (c:Sc) i j,aG σ (scB c i j)=scB c (σ i) (σ j):=fun σ c i j=>rfl;have i0:[k0,k1,k2].idxOf k0=0:=vv;have i1:[k0,k1,k2].idxOf k1=1:=by simp[Ko,q1]
 have i2:[k0,k1,k2].idxOf k2=2:=by simp[Ko,q2,q3]
 refine(VCalls.frame [k0,k1,k2] (by simp[n01,n02,n12]) ?_ ?_ cc ha0 ha).mono ?_
 ·simp only[od,Kf,List.map_nil,hk0,hk1,hk2,Option.map_some,Qi,rt,rr,rs,i1,i2]
 ·unfold l8;rw[Ju];intro k hk;simp only[JL,List.not_mem_nil,or_false] at hk;rcases hk with rfl|rfl|rfl
  ·rw [hk0];simp[scB,Sv.d,DV.nums,DV.nums.go]
  ·rw [hk1];dsimp only;rw[show(scT c.tx).cells=cells Q7 c.tx from rfl,Q0 _ _ (Qw _ _ _)];simp
  ·rw [hk2];dsimp only;rw[show(scR c.rd).cells=cells dg c.rd from rfl,Q0 _ _ (Qw _ _ _)];simp
 ·rintro r h2 ⟨r0,h',⟨c1,a,B,rfl,hn,e⟩,-,rfl,rfl⟩;rw[iJ _ _ hn];have b1:back [k0,k1,k2] hp.length 1=k1:=rfl;have b2:back [k0,k1,k2] hp.length 2=k2:=rfl;have b3:back [k0,k1,k2] hp.length 3=hp.length:=rfl;have rI:∀(σ:Nat->Nat),aG σ oc=oc:=fun σ=>rfl;have rO:∀(σ:Nat->Nat),aG σ lZ=lZ:=fun σ=>rfl;rcases e with⟨q,rfl⟩|⟨q,rfl⟩|⟨q,rfl⟩<;>rw[Mz l0 l1 l2 n01 n02 n12]
  ·rw[rs,rt,rr,b1,b2];exact hN c1 a q _
  ·rw[rs,rI,rr,b2,b3,Kf,rt];exact hT c1 a q _
  ·rw[rs,rt,rO,b1,b3,Kf,rr];exact hR c1 a q _
def bn(e:Int):Rs:=if e=0 then ⟨1,0,0,Ce0,0⟩ else aJ e
def ra(e:Int):VCalls prog 61 [.int .i64 e] [] (Ret (.agg (bn e).d)):=by
 refine dd Tryz.func61 ?_;have c1:=dA e;refine rn F ?_;unfold bn;refine rn F ?_
 repeat' (first|with_reducible exact⟨⟩|(refine sB F ?_ ?_<;>intro hZ)|refine vp F (c1) ?_)
 all_goals first|(rw[if_pos vq];first|done|rfl)|(rw[if_neg vq];first|done|rfl)
@[go_sem] def rsD(r:Rs):DV:=.agg r.d
def oe(c:Sc)(s:Sv)(e:Int):VCalls prog 55 [.ptr 0 0,.agg s.d,.int .i64 e] [scB c 1 2,scT c.tx,scR c.rd] (ScEnd rsD fun n c' r=>n=0/\c'=⟨if e=0 then s else c.s,c.tx,c.rd,c.dead⟩/\r=bn e):=by
 refine QT (fn:=Tryz.f55) Tryz.func55 rfl vw (by simp[Tryz.f55]) ?_;have c1:=ra e;(unfold Tryz.f55;refine rn trivial ?_)
 refine rn F ?_
 repeat' (first|with_reducible exact⟨⟩|(refine sB F ?_ ?_<;>intro hZ)|refine vp F (c1) ?_)
 ·exact QI ⟨15,3,[(6,.ptr 3 0)],[scB ⟨s,c.tx,c.rd,c.dead⟩ 1 2,scT c.tx,scR c.rd,⟨125,true,(bn e).d⟩]⟩ (gc [0,1,2,4]) ⟨⟨s,c.tx,c.rd,c.dead⟩,bn e,_,rfl,rfl,.inl ⟨⟨rfl,by rw[if_pos vq],rfl⟩,rfl⟩⟩
 ·exact QI ⟨15,3,[(6,.ptr 3 0)],[scB c 1 2,scT c.tx,scR c.rd,⟨125,true,(bn e).d⟩]⟩ (gc [0,1,2,4]) ⟨c,bn e,_,rfl,rfl,.inl ⟨⟨rfl,by rw[if_neg vq],rfl⟩,rfl⟩⟩
end
section
attribute [local go_sem] ba
def scQ(c:Sc)(n m:Nat)(c':Sc)(_:Rs):Prop:=m≠1/\c'.sm n/\c'.dead=c.dead/\Sst 1 c.s c'.s
def MA(c:Sc)(n:Nat)(hc:c.sm n)(r:Rs):scQ c (n+1) 0 c r:=⟨vj,⟨hc.1,Jn hc.2.1,Jn hc.2.2⟩,rfl,Sst.refl _⟩
def MB (c:Sc) (n:Nat) (hn:n<=2000) (hc:c.sm n) (t:Sp):VCalls prog 56 [.ptr 0 0,.agg t.d] [scB c 1 2,scT c.tx,scR c.rd] (ScEnd rsD (scQ c (n + 1))):=by
 refine QT (fn:=Tryz.f56) Tryz.func56 rfl vw (by simp[Tryz.f56]) ?_;have c1:=dA 16;have hq0:=MA c n hc;have h1:=hc.2.1;have h2:=hc.2.2;by_cases h0:∃i:Nat,i<c.tx.length/\t.tx=i+1;rotate_left
 ·have h3:t.tx < 1\/c.tx.length < t.tx:=by
   by_cases ha:t.tx<1
   ·exact .inl ha
   ·by_cases hb:c.tx.length < t.tx
    ·exact .inr hb
    ·exact absurd ⟨(t.tx-1).toNat,vz,vz⟩ h0
  (unfold Tryz.f56;refine rn trivial ?_)
  refine rn F ?_
  repeat' (first|with_reducible exact⟨⟩|(refine sG F ?_ ?_<;>intro hZ)|refine vp F (c1) ?_|(refine Qf (id:=1) [0,1,2,3,4,5,6,7,8,9,10,11,12,13,14,15,16,17,18,19,20,21,22,23,24] [] vw vw ?_;refine rn F ?_))
  all_goals first|(exfalso;omega)|exact QI ⟨95,3,[(4,.ptr 3 0)],[scB c 1 2,scT (Sc.tx c),scR (Sc.rd c),⟨125,true,Rs.d (aJ 16)⟩]⟩ (gc [0,1,2,4]) ⟨c,aJ 16,_,rfl,rfl,.inl ⟨hq0 _,rfl⟩⟩|skip
 obtain⟨i,hi,ht⟩:=h0;have hg:=tD c.tx i hi;have d1:=I5 c.s hc.1 (c.tx.getD i 0) t.a;have e1:(↑i+1-1:Int)=↑i:=vz;have hlt:(i<c.tx.length)=True:=eq_true hi;(unfold Tryz.f56;refine rn trivial ?_)
 simp only[ht];have F:=(Jb @hg (Jb @e1 @hlt))
 refine rn F ?_
 repeat' (first|with_reducible exact⟨⟩|(refine sG F ?_ ?_<;>intro hZ)|(refine sB F ?_ ?_<;>intro hZ)|refine vp F (c1) ?_|(refine Qs (d1) rfl ?_;rintro⟨s2,r2⟩ hq;refine rn F ?_)|refine vp F (qt s2.k.lg (Jo hq.1.1.1 vj)) ?_|(refine Qf (id:=1) [0,1,2,3,4,5,6,7,8,9,10,11,12,13,14,15,16,17,18,19,20,21,22,23,24] [] vw vw ?_;refine rn F ?_)|(refine Qf (id:=3) [0,1,2,3,4,5,6,7,8] [⟨[],[],9,[],[]⟩] vw vw ?_;refine rn F ?_)|(refine Qf (id:=4) [0,1,2,3,4,5,6] [⟨[11,12],[],7,[0,1,2,5],[8,9,10]⟩,⟨[11,12],[11],13,[10],[]⟩,⟨[12],[12],14,[],[]⟩] vw vw ?_;refine rn F ?_)|(refine Qf (id:=9) [0,1,2,3,4,5,6,7,8,9,10,11,12,13,14,16,17] [⟨[],[],15,[0,1,2,3,4,5,6,7,8,9,10,11,12,13,16,17],[18]⟩,⟨[19],[19],20,[0,1,2,3,5,6,7,8,9,10,11,12,13,14,16,17,18],[21,22]⟩,⟨[],[],23,[21],[]⟩] vw vw ?_;refine rn F ?_))
 all_goals first|exact QI ⟨95,3,[(4,.ptr 3 0)],[scB c 1 2,scT (Sc.tx c),scR (Sc.rd c),⟨125,true,Rs.d (aJ 16)⟩]⟩ (gc [0,1,2,4]) ⟨c,aJ 16,_,rfl,rfl,.inl ⟨hq0 _,rfl⟩⟩|exact QI ⟨95,3,[(4,.ptr 3 0)],[scB c 1 2,scT (Sc.tx c),scR (Sc.rd c),⟨125,true,Rs.d (r2)⟩]⟩ (gc [0,1,2,4]) ⟨c,r2,_,rfl,rfl,.inl ⟨hq0 _,rfl⟩⟩|exact QI ⟨95,3,[(4,.ptr 3 0)],[scB ⟨s2,c.tx,c.rd,c.dead⟩ 1 2,scT (Sc.tx ⟨s2,c.tx,c.rd,c.dead⟩),scR (Sc.rd ⟨s2,c.tx,c.rd,c.dead⟩),⟨125,true,Rs.d (r2)⟩]⟩ (gc [0,1,2,4]) ⟨⟨s2,c.tx,c.rd,c.dead⟩,r2,_,rfl,rfl,.inl ⟨⟨vj,⟨hq.1,vu,vu⟩,rfl,hq.2.2 vu⟩,rfl⟩⟩|skip
 have hl:(c.rd++[(⟨c.tx.getD i 0,t.a.pg,t.a.sl,eR s2.k.lg,r2.cell⟩:Rd)]).length=c.rd.length+1:=vv;generalize hr:c.rd++[(⟨c.tx.getD i 0,t.a.pg,t.a.sl,eR s2.k.lg,r2.cell⟩:Rd)]=rd at *;rw[<-hl];exact QI ⟨95,3,[(4,.ptr 4 0)],[scB ⟨s2,c.tx,rd,c.dead⟩ 1 3,scT c.tx,lZ,scR rd,⟨125,true,r2.d⟩]⟩ (gc [0,1,2,8,4]) ⟨⟨s2,c.tx,rd,c.dead⟩,r2,_,rfl,rfl,.inr (.inr ⟨⟨vj,⟨hq.1,vu,vu⟩,rfl,hq.2.2 vu⟩,rfl⟩)⟩
end
section
attribute [local go_sem] ba
def scI(I:Nat->Sv->Prop)(c:Sc)(n _:Nat)(c':Sc)(_:Rs):Prop:=c'.sm n/\∀m,I m c.s->I (m+1) c'.s
abbrev fy(I:Nat->Sv->Prop):Prop:=∀n m s s',Sst m s s'->I n s->I (n+m) s'
def Bf(I:Nat->Sv->Prop)(hI:fy I)(c:Sc)(n:Nat)(hc:c.sm n)(r:Rs):scI I c (n+1) 0 c r:=⟨⟨hc.1,Jn hc.2.1,Jn hc.2.2⟩,fun m=>hI m 1 _ _ (Sst.refl _)⟩
abbrev fZ(I:Nat->Sv->Prop)(c:Sc)(n:Nat)(t:Sp):Prop:=VCalls prog 41 [.ptr 0 0,.agg t.d] [scB c 1 2,scT c.tx,scR c.rd] (ScEnd rsD (scI I c (n+1)))
def MC(k:Kn)(h:(QY k.lg n).2=0):Str 1 k ⟨k.pg,k.nx,(QY k.lg n).1,k.pl,k.lk,k.tx,k.ix,k.la⟩:=by
 have qf:=Stp.force (k:=k) (QY k.lg n).1.d (qU h).d fun hv=>by
  have:=(qU h).ok hv;rw[qV h] at this;exact this
 rw[<-qV h] at qf;exact(Str.one qf).mono vz
def oh(I:Nat->Sv->Prop)(hI:fy I){e:Int}(hs:s.sm)(hq:s2.sm/\(e=0->Sst 1 s s2)):(if e=0 then s2 else s).sm/\(∀m,I m s->I (m+1) (if e=0 then s2 else s)):=by
 split
 ·rename_i h;exact⟨hq.1,fun m=>hI m 1 _ _ (hq.2 h)⟩
 ·exact⟨hs,fun m=>hI m 1 _ _ (Sst.refl _)⟩
def MD(I:Nat->Sv->Prop)(hI:fy I)(c:Sc)(n:Nat)(hn:n<=2000)(hc:c.sm n)(t:Sp)(ht:t.kind=3):fZ I c n t:=by
 refine QT (fn:=Tryz.f41) Tryz.func41 rfl vw (by simp[Tryz.f41]) ?_;obtain⟨k,tx,pg,torn,cut,a⟩:=t;dsimp only at ht;subst ht;have c1:=IX c.s hc.1 pg;(unfold Tryz.f41;refine rn trivial ?_)
 refine rn F ?_
 repeat' (first|with_reducible exact⟨⟩|(refine Qs (c1) rfl ?_;rintro⟨s2,e2⟩ hq;refine rn F ?_)|(refine eQ (id:=12) [[],[],[1],[1,2],[1,2,3],[],[5],[1,2,3,4,5,6],[1,2,3,4,5,6,7],[1,2,3,4,5,6,7],[0,1,2,3,4,5,6,7,8,9],[0,1,2,3,4,5,6,7,8,9,10]] [0,1,2,3,4,5,6] [⟨[],[],7,[0],[8,9]⟩,⟨[],[],10,[],[]⟩,⟨[],[],11,[],[]⟩] vw vw vw ?_;refine rn F ?_))
 refine ju (c:=c) 0 1 2 (oe c s2 e2) rfl rfl rfl vj vj vj rfl rfl ?_ (fun _ _ h=>absurd h.1 vj) (fun _ _ h=>absurd h.1 vj);rintro _ _ ⟨-,rfl,rfl⟩ B;obtain⟨k1,k2⟩:=oh I hI hc.1 ⟨hq.1,fun h=>(hq.2 h).mono vz⟩;generalize (if e2=0 then s2 else c.s)=s' at *;refine rn trivial ?_;exact QI ⟨132,3,[(4,.ptr 3 0)],[scB ⟨s',c.tx,c.rd,c.dead⟩ 1 2,scT (Sc.tx ⟨s',c.tx,c.rd,c.dead⟩),scR (Sc.rd ⟨s',c.tx,c.rd,c.dead⟩),⟨125,true,Rs.d (bn e2)⟩]⟩ (gc [0,1,2,4]) ⟨⟨s',c.tx,c.rd,c.dead⟩,bn e2,_,rfl,rfl,.inl ⟨⟨⟨k1,Jn hc.2.1,Jn hc.2.2⟩,k2⟩,rfl⟩⟩
def ME(I:Nat->Sv->Prop)(hI:fy I)(c:Sc)(n:Nat)(hn:n<=2000)(hc:c.sm n)(t:Sp)(ht:t.kind=4):fZ I c n t:=by
 refine QT (fn:=Tryz.f41) Tryz.func41 rfl vw (by simp[Tryz.f41]) ?_;obtain⟨k,tx,pg,torn,cut,a⟩:=t;dsimp only at ht;subst ht;have c1:=LU c.s hc.1;(unfold Tryz.f41;refine rn trivial ?_)
 refine rn F ?_
 repeat' (first|with_reducible exact⟨⟩|(refine Qs (c1) rfl ?_;rintro⟨s2,n2,e2⟩ hq;refine rn F ?_))
 refine ju (c:=c) 0 1 2 (oe c s2 e2) rfl rfl rfl vj vj vj rfl rfl ?_ (fun _ _ h=>absurd h.1 vj) (fun _ _ h=>absurd h.1 vj);rintro _ _ ⟨-,rfl,rfl⟩ B;obtain⟨k1,k2⟩:=oh I hI hc.1 hq;generalize (if e2=0 then s2 else c.s)=s' at *;refine rn trivial ?_;exact QI ⟨132,3,[(4,.ptr 3 0)],[scB ⟨s',c.tx,c.rd,c.dead⟩ 1 2,scT (Sc.tx ⟨s',c.tx,c.rd,c.dead⟩),scR (Sc.rd ⟨s',c.tx,c.rd,c.dead⟩),⟨125,true,Rs.d (bn e2)⟩]⟩ (gc [0,1,2,4]) ⟨⟨s',c.tx,c.rd,c.dead⟩,bn e2,_,rfl,rfl,.inl ⟨⟨⟨k1,Jn hc.2.1,Jn hc.2.2⟩,k2⟩,rfl⟩⟩
def MF(I:Nat->Sv->Prop)(hI:fy I)(c:Sc)(n:Nat)(hn:n<=2000)(hc:c.sm n)(t:Sp)(ht:t.kind=7):fZ I c n t:=by
 refine QT (fn:=Tryz.f41) Tryz.func41 rfl vw (by simp[Tryz.f41]) ?_;obtain⟨k,tx,pg,torn,cut,a⟩:=t;dsimp only at ht;subst ht;have c1:=I7 c.s hc.1;(unfold Tryz.f41;refine rn trivial ?_)
 refine rn F ?_
 repeat' (first|with_reducible exact⟨⟩|(refine Qs (c1) rfl ?_;rintro⟨s2,n2,e2⟩ hq;refine rn F ?_))
 refine ju (c:=c) 0 1 2 (oe c s2 e2) rfl rfl rfl vj vj vj rfl rfl ?_ (fun _ _ h=>absurd h.1 vj) (fun _ _ h=>absurd h.1 vj);rintro _ _ ⟨-,rfl,rfl⟩ B;obtain⟨k1,k2⟩:=oh I hI hc.1 ⟨hq.1,fun h=>(hq.2 h).mono vz⟩;generalize (if e2=0 then s2 else c.s)=s' at *;refine rn trivial ?_;exact QI ⟨132,3,[(4,.ptr 3 0)],[scB ⟨s',c.tx,c.rd,c.dead⟩ 1 2,scT (Sc.tx ⟨s',c.tx,c.rd,c.dead⟩),scR (Sc.rd ⟨s',c.tx,c.rd,c.dead⟩),⟨125,true,Rs.d (bn e2)⟩]⟩ (gc [0,1,2,4]) ⟨⟨s',c.tx,c.rd,c.dead⟩,bn e2,_,rfl,rfl,.inl ⟨⟨⟨k1,Jn hc.2.1,Jn hc.2.2⟩,k2⟩,rfl⟩⟩
def MG(I:Nat->Sv->Prop)(hI:fy I)(c:Sc)(n:Nat)(hn:n<=2000)(hc:c.sm n)(t:Sp)(ht:t.kind=5):fZ I c n t:=by
 refine QT (fn:=Tryz.f41) Tryz.func41 rfl vw (by simp[Tryz.f41]) ?_;obtain⟨k,tx,pg,torn,cut,a⟩:=t;dsimp only at ht;subst ht;have c1:=qt c.s.k.lg (Jo hc.1.1.1 vj);have c2:=tT c.s.k.lg (Jo hc.1.1.1 vj) (eR c.s.k.lg);have c3:=fun e=>ra e;(unfold Tryz.f41;refine rn trivial ?_)
 refine rn F ?_
 repeat' (first|with_reducible exact⟨⟩|(refine sB F ?_ ?_<;>intro hZ)|refine vp F (c1) ?_|refine vp F (c2) ?_|refine vp F (c3 _) ?_|(refine eQ (id:=17) [[],[0],[0,1],[0,1,2],[0,1,2,3],[0,1,2,3,4],[],[6],[6,7],[6,7,8],[6,7,8,9],[6,7,8,9,10],[6,7,8,9,10,11],[0,1,2,3,4,5,6,7,8,9,10,11,12],[0,1,2,3,4,5,6,7,8,9,10,11,12,13],[0,1,2,3,4,5,6,7,8,9,10,11,12,13,14],[0,1,2,3,4,5,6,7,8,9,10,11,12,13,14],[],[0,1,2,3,4,5,6,7,8,9,10,11,12,13,14,15,17],[0,1,2,3,4,5,6,7,8,9,10,11,12,13,14,15,16,17,18]] [0,1,2,3,4,5,6,7,8,9,10,11] [⟨[17],[],12,[0,1,2,3,4,5],[]⟩,⟨[17],[],13,[],[14,15,16]⟩,⟨[17],[17],18,[16],[]⟩,⟨[],[],19,[],[]⟩] vw vw vw ?_;refine rn F ?_))
 ·exact QI ⟨132,3,[(4,.ptr 3 0)],[scB ⟨⟨⟨c.s.k.pg,c.s.k.nx,(QY c.s.k.lg (eR c.s.k.lg)).1,c.s.k.pl,c.s.k.lk,c.s.k.tx,c.s.k.ix,c.s.k.la⟩,c.s.v⟩,c.tx,c.rd,c.dead⟩ 1 2,scT (Sc.tx ⟨⟨⟨c.s.k.pg,c.s.k.nx,(QY c.s.k.lg (eR c.s.k.lg)).1,c.s.k.pl,c.s.k.lk,c.s.k.tx,c.s.k.ix,c.s.k.la⟩,c.s.v⟩,c.tx,c.rd,c.dead⟩),scR (Sc.rd ⟨⟨⟨c.s.k.pg,c.s.k.nx,(QY c.s.k.lg (eR c.s.k.lg)).1,c.s.k.pl,c.s.k.lk,c.s.k.tx,c.s.k.ix,c.s.k.la⟩,c.s.v⟩,c.tx,c.rd,c.dead⟩),⟨125,true,Rs.d (bn _)⟩]⟩ (gc [0,1,2,4]) ⟨⟨⟨⟨c.s.k.pg,c.s.k.nx,(QY c.s.k.lg (eR c.s.k.lg)).1,c.s.k.pl,c.s.k.lk,c.s.k.tx,c.s.k.ix,c.s.k.la⟩,c.s.v⟩,c.tx,c.rd,c.dead⟩,bn _,_,rfl,rfl,.inl ⟨⟨⟨⟨⟨AO _ _ hc.1.1.1,hc.1.1.2⟩,hc.1.2⟩,Jn hc.2.1,Jn hc.2.2⟩,fun m=>hI m 1 _ _ ((MC c.s.k vq).sv c.s.v)⟩,rfl⟩⟩
 ·exact QI ⟨132,3,[(4,.ptr 3 0)],[scB c 1 2,scT (Sc.tx c),scR (Sc.rd c),⟨125,true,Rs.d (bn _)⟩]⟩ (gc [0,1,2,4]) ⟨c,bn _,_,rfl,rfl,.inl ⟨Bf I hI c n hc _,rfl⟩⟩
def MH(I:Nat->Sv->Prop)(hI:fy I)(c:Sc)(n:Nat)(hn:n<=2000)(hc:c.sm n)(t:Sp)(ht:t.kind=2):fZ I c n t:=by
 refine QT (fn:=Tryz.f41) Tryz.func41 rfl vw (by simp[Tryz.f41]) ?_;obtain⟨k,tx,pg,torn,cut,a⟩:=t;dsimp only at ht;subst ht;(unfold Tryz.f41;refine rn trivial ?_)
 refine ju (c:=c) 0 1 2 (MB c n hn hc ⟨2,tx,pg,torn,cut,a⟩) rfl rfl rfl vj vj vj rfl rfl ?_ (fun _ _ h=>absurd rfl h.1) ?_
 ·rintro c1 r1 ⟨-,q1,-,q2⟩ B;refine rn trivial ?_;exact QI ⟨132,3,[(4,.ptr 3 0)],[scB c1 1 2,scT (Sc.tx c1),scR (Sc.rd c1),⟨125,true,Rs.d (r1)⟩]⟩ (gc [0,1,2,4]) ⟨c1,r1,_,rfl,rfl,.inl ⟨⟨q1,fun m=>hI m 1 _ _ q2⟩,rfl⟩⟩
 ·rintro c1 r1 ⟨-,q1,-,q2⟩ B;refine rn trivial ?_;exact QI ⟨132,3,[(4,.ptr 4 0)],[scB c1 1 3,scT c1.tx,lZ,scR c1.rd,⟨125,true,r1.d⟩]⟩ (gc [0,1,2,5,4]) ⟨c1,r1,_,rfl,rfl,.inr (.inr ⟨⟨q1,fun m=>hI m 1 _ _ q2⟩,rfl⟩)⟩
def MI(I:Nat->Sv->Prop)(hI:fy I)(c:Sc)(n:Nat)(hn:n<=2000)(hc:c.sm n)(t:Sp)(ht:t.kind=1):fZ I c n t:=by
 refine QT (fn:=Tryz.f41) Tryz.func41 rfl vw (by simp[Tryz.f41]) ?_;obtain⟨k,tx,pg,torn,cut,a⟩:=t;dsimp only at ht;subst ht;have c1:=IR c.s hc.1;(unfold Tryz.f41;refine rn trivial ?_)
 have hb:(c.tx.length+1)*8<=140737488355328:=by have:=hc.2.1;omega
 have F:=@hb;refine rn F ?_
 repeat' (first|with_reducible exact⟨⟩|(refine sB F ?_ ?_<;>intro hZ)|(refine Qs (c1) rfl ?_;rintro⟨s2,n2,e2⟩ hq;refine rn F ?_))
 rotate_left
 ·refine ju (c:=c) 0 1 2 (oe c s2 e2) rfl rfl rfl vj vj vj rfl rfl ?_ (fun _ _ h=>absurd h.1 vj) (fun _ _ h=>absurd h.1 vj);rintro _ _ ⟨-,rfl,rfl⟩ B;obtain⟨k1,k2⟩:=oh I hI hc.1 hq;generalize (if e2=0 then s2 else c.s)=s' at *;refine rn trivial ?_;exact QI ⟨132,3,[(4,.ptr 3 0)],[scB ⟨s',c.tx,c.rd,c.dead⟩ 1 2,scT (Sc.tx ⟨s',c.tx,c.rd,c.dead⟩),scR (Sc.rd ⟨s',c.tx,c.rd,c.dead⟩),⟨125,true,Rs.d ({ bn e2 with tx:=n2 })⟩]⟩ (gc [0,1,2,4]) ⟨⟨s',c.tx,c.rd,c.dead⟩,{ bn e2 with tx:=n2 },_,rfl,rfl,.inl ⟨⟨⟨k1,Jn hc.2.1,Jn hc.2.2⟩,k2⟩,rfl⟩⟩
 have hl:(c.tx++[n2]).length=c.tx.length+1:=vv;generalize c.tx++[n2]=l at *;rw[<-hl];refine ju (c:=⟨c.s,l,c.rd,c.dead⟩) 0 7 2 (oe ⟨c.s,l,c.rd,c.dead⟩ s2 e2) rfl rfl rfl vj vj vj rfl rfl ?_ (fun _ _ h=>absurd h.1 vj) (fun _ _ h=>absurd h.1 vj);rintro _ _ ⟨-,rfl,rfl⟩ B;obtain⟨k1,k2⟩:=oh I hI hc.1 hq;generalize (if e2=0 then s2 else c.s)=s' at *;have h1:=hc.2.1;refine rn trivial ?_;exact QI ⟨132,3,[(4,.ptr 4 0)],[scB ⟨s',l,c.rd,c.dead⟩ 3 2,oc,scR c.rd,scT l,⟨125,true,Rs.d { bn e2 with tx:=n2 }⟩]⟩ (gc [0,1,2,7,4]) ⟨⟨s',l,c.rd,c.dead⟩,{ bn e2 with tx:=n2 },_,rfl,rfl,.inr (.inl ⟨⟨⟨k1,vu,Jn hc.2.2⟩,k2⟩,rfl⟩)⟩
end
section
attribute [local go_sem] ba
def MJ(I:Nat->Sv->Prop)(hI:fy I)(c:Sc)(n:Nat)(hc:c.sm n)(t:Sp)(h1:t.kind≠1)(h2:t.kind≠2)(h3:t.kind≠3)(h4:t.kind≠4)(h5:t.kind≠5)(h6:t.kind≠6)(h7:t.kind≠7):fZ I c n t:=by
 refine QT (fn:=Tryz.f41) Tryz.func41 rfl vw (by simp[Tryz.f41]) ?_;have c1:=dA 1;(unfold Tryz.f41;refine rn (Jb @h1 (Jb @h2 (Jb @h3 (Jb @h4 (Jb @h5 (Jb @h6 @h7)))))) ?_)
 have F:=(Jb @h1 (Jb @h2 (Jb @h3 (Jb @h4 (Jb @h5 (Jb @h6 @h7))))))
 refine rn F ?_
 repeat' (first|with_reducible exact⟨⟩|refine vp F (c1) ?_)
 exact QI ⟨132,3,[(4,.ptr 3 0)],[scB c 1 2,scT (Sc.tx c),scR (Sc.rd c),⟨125,true,Rs.d (aJ 1)⟩]⟩ (gc [0,1,2,4]) ⟨c,aJ 1,_,rfl,rfl,.inl ⟨Bf I hI c n hc _,rfl⟩⟩
def MK(I:Nat->Sv->Prop)(hI:fy I)(c:Sc)(n:Nat)(hn:n<=2000)(hc:c.sm n)(t:Sp)(h6:t.kind=6->fZ I c n t):fZ I c n t:=by
 by_cases q1:t.kind=1
 ·exact MI I hI c n hn hc t q1
 by_cases q2:t.kind=2
 ·exact MH I hI c n hn hc t q2
 by_cases q3:t.kind=3
 ·exact MD I hI c n hn hc t q3
 by_cases q4:t.kind=4
 ·exact ME I hI c n hn hc t q4
 by_cases q5:t.kind=5
 ·exact MG I hI c n hn hc t q5
 by_cases q6:t.kind=6
 ·exact h6 q6
 by_cases q7:t.kind=7
 ·exact MF I hI c n hn hc t q7
 exact MJ I hI c n hc t q1 q2 q3 q4 q5 q6 q7
def dC:Enc Sp:=⟨9,fun t=>[.lit (.int .i64 t.kind),.lit (.int .i64 t.tx),.lit (.int .i64 t.pg),.lit (.int .i64 t.torn),.lit (.int .i64 t.cut),.lit (.int .i64 t.a.kind),.lit (.int .i64 t.a.pg),.lit (.int .i64 t.a.sl),.str t.a.data],vj,fun _=>rfl⟩
def Bg(l:List Sp):(cells dC l).length=l.length*9:=QK dC l
def ML(l:List Sp)(n:Nat)(h:l.length*9<=n):(cells dC l).take n=cells dC l:=by rw[Jl];rw[Bg];exact h
def MM(h:l.length=len):bw n hp 0 9 len (some (cells dC l))=some (.sl (fz dC l)):=Q3 dC h
def Sp0:Sp:=⟨0,0,0,0,0,0,0,0,[]⟩
def MN(l:List Sp)(i:Nat)(h:i<l.length):(fz dC l)[i]?=some [.lit (.int .i64 (l.getD i Sp0).kind),.lit (.int .i64 (l.getD i Sp0).tx),.lit (.int .i64 (l.getD i Sp0).pg),.lit (.int .i64 (l.getD i Sp0).torn),.lit (.int .i64 (l.getD i Sp0).cut),.lit (.int .i64 (l.getD i Sp0).a.kind),.lit (.int .i64 (l.getD i Sp0).a.pg),.lit (.int .i64 (l.getD i Sp0).a.sl),.str (l.getD i Sp0).a.data]:=iy dC l Sp0 i h
attribute [go_sem] Bg ML MM
def dE:Enc Rs:=⟨6,fun r=>[.lit (.int .i64 r.st),.lit (.int .i64 r.tx),.lit (.int .i64 r.pg),.lit (.bool r.cell.set),.str r.cell.data,.lit (.int .i64 r.er)],vj,fun _=>rfl⟩
def Bh(l:List Rs):(cells dE l).length=l.length*6:=QK dE l
def MO(l:List Rs)(n:Nat)(h:l.length*6<=n):(cells dE l).take n=cells dE l:=by rw[Jl];rw[Bh];exact h
def MP(h:l.length=len):bw n hp 0 6 len (some (cells dE l))=some (.sl (fz dE l)):=Q3 dE h
def MQ(l:List Rs)(a b c:Int)(x:Bool)(s:List UInt8)(d:Int):cells dE l++[.pv (.lit (.int .i64 a)),.pv (.lit (.int .i64 b)),.pv (.lit (.int .i64 c)),.pv (.lit (.bool x)),.pv (.str s),.pv (.lit (.int .i64 d))]=cells dE (l++[⟨a,b,c,⟨x,s⟩,d⟩]):=by rw[QC];rfl
attribute [go_sem] Bh MO MP MQ
def MR(l:List Rd):DV.wk.go (cells dg l)=cells dg l:=gE dg l fun a p hp=>by
 simp[dg] at hp;rcases hp with h|h|h|h|h|h<;>subst h<;>rfl
def MS(l:List Rs):DV.wk.go (cells dE l)=cells dE l:=gE dE l fun a p hp=>by
 simp[dE] at hp;rcases hp with h|h|h|h|h|h<;>subst h<;>rfl
attribute [go_sem] MR MS
structure Ru(I:Nat->Sv->Prop)(s:Sv)(l:List Sp) where
 i:Nat
 c:Sc
 out:List Rs
 hi:i<=l.length
 h1:i<=1000
 hc:c.sm i
 ho:out.length=i
 hI:I 0 s->I i c.s
@[go_sem] def MT(a:Sv×List Rs×List Rd):DV:=.tup [.agg a.1.d,.pv (.sl (fz dE a.2.1)),.pv (.sl (fz dg a.2.2))]
def MU(I:Nat->Sv->Prop)(hI:fy I)(s:Sv)(hs:s.sm)(l:List Sp)(h6:∀i,i<l.length->(l.getD i Sp0).kind=6->∀c n,n<=2000->c.sm n->fZ I c n (l.getD i Sp0)):VCalls prog 32 [.agg s.d,.pv (.sl (fz dC l))] [] (QM MT fun a=>a.1.sm/\(I 0 s->∃i,i<=l.length/\I i a.1)):=by
 refine dk Tryz.func32 ?_;refine rn F ?_;refine VLoop.nilOwnC 2 18 3 1 rfl rfl ?_;refine VLoop.nilOwnC 2 19 173 6 rfl rfl ?_;refine VLoop.nilOwn 8 125 6 rfl ?_;refine rn trivial ?_;refine Qj (fun r:Ru I s l=>⟨48,0,[(9,.int .i64 r.i),(8,.own 4 6 0 r.out.length),(7,.ptr 1 0),(4,.ptr 0 0),(1,.pv (.sl (fz dC l)))],[⟨77,true,Zv⟩,scB r.c 2 3,scT r.c.tx,scR r.c.rd,⟨125,true,cells dE r.out⟩]⟩) (fun r=>l.length-r.i) ⟨0,⟨s,[],[],false⟩,[],Jh _,vj,⟨hs,Jh _,Jh _⟩,rfl,id⟩ (gc [1,2,3,4,5]) ?_;rintro⟨i,c,out,hi,h1,hc,ho,h⟩;dsimp only;unfold Zv;have hg:=fun h:i<l.length=>MN l i h;have hb:(out.length+1)*72<=140737488355328:=vz;obtain⟨sv,tx,rd,dead⟩:=c;cases dead;rotate_left
 ·skip
  have F:=@hg;refine rn F ?_
  repeat' (first|with_reducible exact⟨⟩|(refine sG F ?_ ?_<;>intro hZ)|(refine eQ (id:=7) [[],[0],[0,1],[0,1,2],[],[],[5],[5,6],[5,6,7],[0,1,2,3],[0,1,2,3,4,9],[0,1,2,3,4,5,6,7,8,9,10]] [0,1,2,3,4,5,6,7,8] [⟨[],[],9,[4,5,6,7,8],[]⟩,⟨[],[],10,[5,6,7,8],[]⟩,⟨[],[],11,[],[]⟩] vw vw vw ?_;refine rn F ?_))
  all_goals exact⟨rfl,rfl,(sv,out,rd),rfl,hc.1,fun x=>⟨i,hi,h x⟩⟩
 have F:=@hg;refine rn F ?_
 repeat' (first|with_reducible exact⟨⟩|(refine sG F ?_ ?_<;>intro hZ)|(refine eQ (id:=7) [[],[0],[0,1],[0,1,2],[],[],[5],[5,6],[5,6,7],[0,1,2,3],[0,1,2,3,4,9],[0,1,2,3,4,5,6,7,8,9,10]] [0,1,2,3,4,5,6,7,8] [⟨[],[],9,[4,5,6,7,8],[]⟩,⟨[],[],10,[5,6,7,8],[]⟩,⟨[],[],11,[],[]⟩] vw vw vw ?_;refine rn F ?_))
 all_goals first|exact⟨rfl,rfl,(sv,out,rd),rfl,hc.1,fun x=>⟨i,hi,h x⟩⟩|skip
 have hil:i<l.length:=vz;refine ju (c:=⟨sv,tx,rd,false⟩) 1 2 3 (MK I hI _ i vz hc (l.getD i Sp0) (fun hk=>h6 i hil hk _ i vz hc)) rfl rfl rfl vj vj vj rfl rfl ?_ ?_ ?_
 all_goals
  rintro c1 r1 ⟨q1,q2⟩ B;refine rn @hb ?_;have hl2:(out++[r1]).length=out.length+1:=vv;refine⟨⟨i+1,c1,out++[r1],hil,vz,q1,by rw[hl2];omega,fun x=>q2 i (h x)⟩,vu,?_⟩;dsimp only;rw[hl2]
 ·exact(gc [0,1,2,3,7])
 ·exact(gc [0,1,5,3,8])
 ·exact(gc [0,1,2,5,8])
end
section
attribute [local go_sem] cb cc
def MV(b:Int)(hb:0<=b/\b<=255):∃y:UInt8,b=(y.toNat:Int):=⟨UInt8.ofNat b.toNat,by simp only[UInt8.toNat_ofNat'];omega⟩
def MW{α:Type}{n:Nat}{A B:α}(hn:n<=1000000000):(if 0<=(n:Int)/\((1:Nat):Int)*n<=281474976710656/\(n:Int)<=9223372036854775807 then A else B)=A:=
 if_pos ⟨vz,vz,vz⟩
abbrev Dx(n:Nat):DV->Prop:=fun r=>∃t:List UInt8,r=.pv (.str t)/\t.length<=n
structure DSt(n:Nat) where
 c:C
 l:List UInt8
 hl:l.length<=n
def MX(c:C):VCalls prog 91 [.ptr 0 0] [cb c] (CX (Dx 13)):=by
 refine dd Tryz.func91 ?_;refine rn F ?_;refine aT (k:=0) (c:=c) (bQ c 5 vz vz) rfl rfl ?_;rintro _ c1 ⟨z,rfl,hz⟩;refine rn trivial ?_;refine aT (k:=0) (c:=c1) (bQ c1 6 vz vz) rfl rfl ?_;rintro _ c2 ⟨z2,rfl,hz2⟩;have hcw:=fun(hp:Qb) (k o n:Nat)=>pJ (hp:=hp) (k:=k) (off:=o) (len:=n) tK;have mk:=fun(n:Nat) (h:n<=1000000000) (A B:Option (DV×Qb))=>MW (n:=n) (A:=A) (B:=B) h;refine rn F ?_
 repeat' (first|with_reducible exact⟨⟩|(refine sB F ?_ ?_<;>intro hZ))
 case' refine_1=>
  refine aT (k:=0) (c:=c2) (bQ c2 14 vz vz) rfl rfl ?_;rintro _ c3 ⟨n,rfl,hn⟩
 case' refine_2=>
  obtain⟨n,rfl,hn⟩:∃n:Nat,n=z/\n<14:=⟨z,rfl,vz⟩
  obtain⟨c3,rfl⟩:∃c3,c3=c2:=⟨c2,rfl⟩
 all_goals
  have hm:=fun A B=>mk n vz A B;have hr:J3 0 (0:UInt8)=[]:=rfl;refine rn (Jb @hm @hr) ?_;refine Qj (fun i:DSt n=>⟨29,1,[(5,.int .i64 i.l.length),(3,.int .i64 n),(4,.own 1 1 0 i.l.length),(0,.ptr 0 0)],[cb i.c,⟨5,true,cells a9 i.l⟩]⟩) (fun i=>n-i.l.length) ⟨c3,[],Jh _⟩ (gc [0,1]) ?_;rintro⟨c4,l,hl⟩;dsimp only;have hvc:=fun hp:Qb=>@uk hp l _ rfl;by_cases hc:l.length<n
  ·skip
   refine rn F ?_;refine aT (k:=0) (c:=c4) (bQ c4 3 vz vz) rfl rfl ?_;rintro r c5 ⟨y,rfl,hy⟩;obtain⟨u,hu⟩:∃u:UInt8,97+(y:Int)=(u.toNat:Int):=MV _ vz;have e2:cells a9 l++[.pv (.lit (.int .u8 u.toNat))]=cells a9 (l++[u]):=(QC a9 l [u]).symm;have e3:(cells a9 l).take l.length=cells a9 l:=by rw[Jl];rw[rh];exact JC _
   have hub:u.toNat<256:=u.toNat_lt;have hs2:l.length<=140737488355327:=vz;refine rn (Jb @hu (Jb @hs2 (Jb @e3 @e2))) ?_;have hl2:(l++[u]).length=l.length+1:=vv;refine⟨⟨c5,l++[u],by rw[hl2];omega⟩,by dsimp only;rw[hl2];omega,?_⟩;dsimp only;rw[hl2];exact(gc [0,3])
  ·skip
   have F:=(Jb @hcw @hvc)
   refine rn F ?_;exact⟨_,rfl,rfl,gG _,rfl,⟨_,rfl,vz⟩,c4,rfl⟩
end
section
attribute [local go_sem] cb cc
def MY(i:Nat)(h:i<12):∃n:Int,([.pv (.lit (.int .i64 1)),.pv (.lit (.int .i64 1)),.pv (.lit (.int .i64 2)),.pv (.lit (.int .i64 2)),.pv (.lit (.int .i64 2)),.pv (.lit (.int .i64 3)),.pv (.lit (.int .i64 4)),.pv (.lit (.int .i64 5)),.pv (.lit (.int .i64 6)),.pv (.lit (.int .i64 7)),.pv (.lit (.int .i64 2)),.pv (.lit (.int .i64 4))]:List DV)[i]?=some (.int .i64 n):=by
 have e:([.pv (.lit (.int .i64 1)),.pv (.lit (.int .i64 1)),.pv (.lit (.int .i64 2)),.pv (.lit (.int .i64 2)),.pv (.lit (.int .i64 2)),.pv (.lit (.int .i64 3)),.pv (.lit (.int .i64 4)),.pv (.lit (.int .i64 5)),.pv (.lit (.int .i64 6)),.pv (.lit (.int .i64 7)),.pv (.lit (.int .i64 2)),.pv (.lit (.int .i64 4))]:List DV)=([1,1,2,2,2,3,4,5,6,7,2,4]:List Int).map (DV.int .i64):=rfl;refine⟨([1,1,2,2,2,3,4,5,6,7,2,4]:List Int)[i]'h,?_⟩;grind
def MZ(c:C)(m:Nat)(h1:1<=m)(h2:m<=1000):VCalls prog 65 [.ptr 0 0,.int .i64 m] [cb c] (CX fun r=>∃a:Ac,r=.agg a.d):=by
 refine dd Tryz.func65 ?_;refine rn F ?_;refine aT (k:=0) (c:=c) (bQ c 12 vz vz) rfl rfl ?_;rintro _ c1 ⟨y,rfl,hy⟩;obtain⟨n,hn⟩:=MY y hy;have F:=@hn;refine rn F ?_
 repeat' (first|with_reducible exact⟨⟩|(refine sB F ?_ ?_<;>intro hZ)|(refine aT (k:=0) (bQ _ 2 vz vz) rfl rfl ?_;rintro _ _ ⟨_,rfl,_⟩;refine rn F ?_)|(refine aT (k:=0) (bQ _ 40 vz vz) rfl rfl ?_;rintro _ _ ⟨_,rfl,_⟩;refine rn F ?_)|(refine aT (k:=0) (bQ _ m vz vz) rfl rfl ?_;rintro _ _ ⟨_,rfl,_⟩;refine rn F ?_)|(refine aT (k:=0) (MX _) rfl rfl ?_;rintro _ _ ⟨_,rfl,_⟩;refine rn F ?_)|(refine aT (k:=0) (GI _) rfl rfl ?_;rintro _ _ ⟨_,rfl,_⟩;refine rn F ?_))
 all_goals first|exact⟨_,rfl,rfl,gG _,rfl,⟨⟨_,_,_,_⟩,rfl⟩,_,rfl⟩|skip
end
section
attribute [local go_sem] cb cc
def M0(n:Int)(h:1<=n/\n<=64):VCalls prog 40 [.int .i64 n] [] (QM dvD fun a=>Ii a/\a.2=0):=by
 refine dk Tryz.func40 ?_;have c1:=Ih n;refine rn F ?_
 repeat' (first|with_reducible exact⟨⟩|(refine Qs (c1 vz) rfl ?_;rintro l hl;refine rn F ?_))
 all_goals first|(exfalso;omega)|exact⟨rfl,rfl,(⟨l,0,false⟩,0),rfl,hl,rfl⟩|skip
def dh(n m:Int):Kn:=⟨n,1,Lg1,⟨m,[],0⟩,Lk0,[],J3 n.toNat Rw0,[]⟩
def M1(n m:Int)(h:1<=n/\n<=64)(h2:1<=m/\m<=64):VCalls prog 39 [.int .i64 n,.int .i64 m] [] (QM kiD fun a=>a.1.sm/\a.2=0/\a.1=dh n m):=by
 refine dk Tryz.func39 ?_;have c1:=yF m;have c2:=Ab n;have c3:=IV;have hf:gL m=(⟨m,[],0⟩,0):=by unfold gL;rw[if_neg vz]
 rw[hf] at c1;refine rn F ?_
 repeat' (first|with_reducible exact⟨⟩|refine vp F (c1) ?_|(refine Qs (c2) rfl ?_;rintro⟨l,e⟩ hl;refine rn F ?_)|refine vp F (c3) ?_|(refine Qf (id:=5) [0,2,3] [⟨[],[],1,[0,2,3],[4]⟩,⟨[],[],5,[],[]⟩,⟨[],[],6,[],[]⟩] vw vw ?_;refine rn F ?_))
 all_goals first|(exfalso;omega)|skip
 have e1:=hl.2.1 (hl.2.2 h.1 h.2);dsimp only at e1;subst e1;exact⟨rfl,rfl,(dh n m,0),rfl,⟨Jh _,Jh _,Jh _,Q9 _,hl.1,Jh _⟩,rfl,rfl⟩
def M3(n m:Int)(h:1<=n/\n<=64)(h2:1<=m/\m<=64):VCalls prog 31 [.int .i64 n,.int .i64 m] [] (QM svD fun a=>a.1.sm/\a.2=0/\a.1.k=dh n m/\∀b∈a.1.v.ps,b=J3 256 0):=by
 refine dk Tryz.func31 ?_;have c1:=M1 n m h h2;have c2:=M0 n h;refine rn F ?_;refine Qs c1 rfl ?_;rintro⟨k,e⟩ ⟨hk,he,hg⟩;dsimp only at hk he hg;subst he;refine rn trivial ?_;refine Qs c2 rfl ?_;rintro⟨v,e⟩ ⟨hv,he⟩;dsimp only at he;subst he;refine rn trivial ?_;exact⟨rfl,rfl,(⟨k,v⟩,0),rfl,⟨hk,hv.1⟩,rfl,hg,hv.2⟩
def M4(l:List Sp)(a b c d e f g h:Int)(s:List UInt8):cells dC l++[.pv (.lit (.int .i64 a)),.pv (.lit (.int .i64 b)),.pv (.lit (.int .i64 c)),.pv (.lit (.int .i64 d)),.pv (.lit (.int .i64 e)),.pv (.lit (.int .i64 f)),.pv (.lit (.int .i64 g)),.pv (.lit (.int .i64 h)),.pv (.str s)]=cells dC (l++[⟨a,b,c,d,e,⟨f,g,h,s⟩⟩]):=by rw[QC];rfl
def spB:Sp:=⟨1,0,0,0,0,⟨0,0,0,[]⟩⟩
end
def M5(t:Lk)(h:1024<t.sum)(h2:t.held.length<=10000000/\t.wait.length<=10000000):VCalls prog 158 [.agg t.d] [] (Ret (.bool false)):=by
 refine dd Tryz.func158 ?_;unfold Lk.sum at h;have h':(1024:Int)<t.held.length+t.wait.length:=vz;(refine rn @h' ?_;try with_reducible exact⟨⟩)
def Kn.smX(k:Kn):Prop:=k.lg.es.length<=4096/\k.pl.fs.length<=64/\smN 65 k.tx/\k.ix.length<=64/\k.la.length<=10000
def M6(k:Kn)(hk:k.smX)(h:1024<k.lk.sum)(hq:k.lk.held.length<=10000000/\k.lk.wait.length<=10000000):VCalls prog 114 [.agg k.d] [] (Ret (.bool false)):=by
 refine dd Tryz.func114 ?_;obtain⟨h1,h2,h4,h5,h6⟩:=hk;have c1:=fS k.lg vz;have c2:=gJ k.pl vz;have c3:=M5 k.lk h hq;generalize lgB k.lg=b1 at *;generalize plB k.pl=b2 at *;refine rn F ?_
 repeat' (first|with_reducible exact⟨⟩|(refine sG F ?_ ?_<;>intro hZ)|refine vp F (c1) ?_|refine vp F (c2) ?_|refine vp F (c3) ?_)
 all_goals first|rfl|skip
def M7(k:Kn)(hk:k.smX)(h:1024<k.lk.sum)(hq:k.lk.held.length<=10000000/\k.lk.wait.length<=10000000):VCalls prog 87 [.agg k.d] [] (Ret (.bool false)):=by
 refine dd Tryz.func87 ?_;have c1:=M6 k hk h hq;refine rn F ?_
 repeat' (first|with_reducible exact⟨⟩|refine vp F (c1) ?_)
 all_goals first|rfl|skip
def adK(x:Lg)(a:An)(n:Int):Kn:=⟨a.pg,a.nx,x,(gL n).1,⟨a.lk,[]⟩,a.lo,a.ix,a.la⟩
def jv(h:al l=true)(hi:i<l.length):idT l (l.getD i Tx0).id=i:=by
 have hs:=tw h;rw[Qd _ _ hi];rcases QB l l[i].id with hn|⟨j,hj,h1,h2⟩
 ·have:=(lP (l:=l) (a:=l[i].id)).2 (Kh.2 ⟨l[i],Ji hi,rfl⟩);omega
 ·rw [h1];rw[Jp] at hs;rcases JF i j with h3|h3|h3
  ·have:=hs i j (by simpa using hi) (by simpa using hj) h3;rw[Jr,Jr] at this;omega
  ·omega
  ·have:=hs j i (by simpa using hj) (by simpa using hi) h3;rw[Jr,Jr] at this;omega
def Bj(h:(QA l e).2=0)(hk:e.kind=4)(ht:0<e.tx)(ha:a≠e.tx)(h0:0<=idT l a):QW (QA l e).1 a=QW l a:=by
 have hid:=uc _ _ (nS h ⟨vz,vz⟩) a;unfold QW;rw[hid];unfold QA at h |-;split at h
 ·simp at h
 rename_i q1;split at h
 ·simp at h
 rename_i q2;split at h
 ·omega
 rename_i q3;split at h
 ·simp at h
 rename_i q4;rw[if_neg q1,if_neg q2,if_neg q3,if_neg q4];rcases QB l e.tx with hn|⟨i,hi,hid2,he⟩
 ·omega
 rcases QB l a with hn|⟨j,hj,hjd,hja⟩
 ·omega
 rw[hid2,Jm] at h |-;unfold ir at h |-;grind
inductive Abt (k:Kn):Kn->Prop
 |refl:Abt k k
 |step {k1:Kn} {e e':E}:Abt k k1->AddOk k1 e e'->e.kind=4->kk k1 e->Abt k (k1.add e')
def Abt.str(h:Abt k k'):Str 0 k k':=by
 induction h with
 |refl=>exact .refl _
 |step _ h1 h2 h3 ih=>exact ih.step (.fin h1 (.inr (.inl h2)) h3)
def M8(hq:dY k e (k1,n1,e1))(h:e1=0)(h0:Abt k0 k)(hk:e.kind=4)(hf:kk k e):Abt k0 k1:=by
 obtain⟨e',ha,hk1,_,hl⟩:=hq.2 h;dsimp only at hk1;subst hk1;exact h0.step ha hk hf
structure AdS(x:Lg)(a:An)(n:Int) where
 i:Nat
 k:Kn
 hi:i<=a.lo.length
 hk:k.sm
 he:Abt (adK x a n) k
 hl:∀j,i<=j->j<a.lo.length->0<=idT k.tx (a.lo.getD j Tx0).id/\QW k.tx (a.lo.getD j Tx0).id=a.lo.getD j Tx0
 h3:∀j,j<i->(QW k.tx (a.lo.getD j Tx0).id).st=3
def AdS.nx{a:An}{k k1:Kn}{i:Nat}(ht:al a.lo=true){e:E}{n1 e1:Int}(hq:dY k e (k1,n1,e1))(h:e1=0)(hk:e.kind=4)(hil:i<a.lo.length)(he:e.tx=(a.lo.getD i Tx0).id)
 (hl:∀j,i<=j->j<a.lo.length->0<=idT k.tx (a.lo.getD j Tx0).id/\QW k.tx (a.lo.getD j Tx0).id=a.lo.getD j Tx0):∀j,i+1<=j->j<a.lo.length->0<=idT k1.tx (a.lo.getD j Tx0).id/\QW k1.tx (a.lo.getD j Tx0).id=a.lo.getD j Tx0:=fun j h1 h2=>by
 obtain⟨q1,q2⟩:=hl j vz h2;refine⟨yZ hq h ⟨vz,vz⟩ q1,?_⟩;obtain⟨e',⟨v,s,_,_,_,hn,_⟩,hk1,_,_⟩:=hq.2 h;dsimp only at hk1;subst hk1;have i1:=jv ht hil;have i2:=jv ht h2;have ho:=qZ (lX hn).2
 have hne:(a.lo.getD j Tx0).id≠e'.tx:=fun q=>by
  rw[s.2.1,he] at q;rw[q,i1] at i2;omega
 have hpos:0<e'.tx:=by
  have:=eK ht hil;rw[s.2.1,he,Qd _ _ hil];simp only[Tx.okB,Tx.hdB,Jd,decide_eq_true_eq] at this;omega
 exact(Bj hn (by rw[s.1];exact hk) hpos hne q1).trans q2
def AdS.n3{a:An}{k k1:Kn}{i:Nat}(ht:al a.lo=true){e:E}{n1 e1:Int}(hq:dY k e (k1,n1,e1))(h:e1=0)(hk:e.kind=4)(hil:i<a.lo.length)(he:e.tx=(a.lo.getD i Tx0).id)(hin:∀j,j<a.lo.length->0<=idT k.tx (a.lo.getD j Tx0).id)
 (h3:∀j,j<i->(QW k.tx (a.lo.getD j Tx0).id).st=3):∀j,j<i+1->(QW k1.tx (a.lo.getD j Tx0).id).st=3:=fun j hj=>by
 by_cases hji:j=i
 ·subst hji;rw[<-he];exact zb hq h hk
 have q1:=h3 j vz;have q2:=hin j vz;obtain⟨e',⟨v,s,_,_,_,hn,_⟩,hk1,_,_⟩:=hq.2 h;dsimp only at hk1;subst hk1;have i1:=jv ht hil;have i2:=jv ht (show j<a.lo.length by omega);have ho:=qZ (lX hn).2
 have hne:(a.lo.getD j Tx0).id≠e'.tx:=fun q=>by
  rw[s.2.1,he] at q;rw[q,i1] at i2;exact hji (Int.ofNat_inj.1 i2).symm
 have hpos:0<e'.tx:=by
  have:=eK ht hil;rw[s.2.1,he,Qd _ _ hil];simp only[Tx.okB,Tx.hdB,Jd,decide_eq_true_eq] at this;omega
 show(QW (QA k.tx e').1 _).st=3
 rw[Bj hn (by rw[s.1];exact hk) hpos hne q2];exact q1
def Abt.ids (h:Abt k k') (a:Int):idT k'.tx a = idT k.tx a:=by
 induction h with
 |refl=>rfl
 |step _ h1 h2 _ ih =>
   obtain⟨_,s,_,_,_,hn,_⟩:=h1;rw[<-ih];exact uc _ _ (nS hn ⟨by rw[s.1];omega,by rw[s.1];omega⟩) a
def AdS.all{x:Lg}{a:An}{n:Int}{k:Kn}{i:Nat}(he:Abt (adK x a n) k)(h3:∀j,j<i->(QW k.tx (a.lo.getD j Tx0).id).st=3)(hi:¬i<a.lo.length)(b:Int)(hb:0<=idT k.tx b):(QW k.tx b).st=3:=by
 rw[he.ids] at hb;rcases QB (adK x a n).tx b with hn|⟨j,hj,_,hje⟩
 ·omega
 have hj':j<a.lo.length:=hj;have:=h3 j vz;rw[Qd a.lo j hj'] at this;have e:a.lo[j].id=b:=hje;grind
def adQ(x:Lg)(a:An)(n:Int)(r:Kn×Int):Prop:=r.1.sm/\(r.2=0->kB (adK x a n)=true/\(adK x a n).pl.fs=[]/\Abt (adK x a n) r.1/\∀b,0<=idT r.1.tx b->(QW r.1.tx b).st=3)
def M9(x:Lg)(hx:x.es.length<=4096)(a:An)(ha:a.sm 10000)(n:Int):VCalls prog 157 [.agg x.c,.agg a.d,.int .i64 n] [] (QM kiD (adQ x a n)):=by
 refine dk Tryz.func157 ?_;obtain⟨h1,h2,h3,h4⟩:=ha;have c1:=yF n;have hf:=IW n;have had:adK x a n=⟨a.pg,a.nx,x,(gL n).1,⟨a.lk,[]⟩,a.lo,a.ix,a.la⟩:=rfl;unfold adQ;generalize hpn:gL n=p at *;obtain⟨p,e0⟩:=p;dsimp only at c1 hf had;have err:∀z,z≠0->QM kiD (fun r:Kn×Int=>r.1.sm/\(r.2=0->kB (adK x a n)=true/\(adK x a n).pl.fs=[]/\Abt (adK x a n) r.1/\∀b,0<=idT r.1.tx b->(QW r.1.tx b).st=3)) (kiD (Kn0,z)) []:=fun z hz=>⟨rfl,rfl,(Kn0,z),rfl,dy,fun h=>absurd h hz⟩
 refine rn F ?_
 repeat' (first|with_reducible exact⟨⟩|(refine sB F ?_ ?_<;>intro hZ)|refine vp F (c1) ?_)
 all_goals first|exact err 1 vj|skip
 by_cases hs:a.lk.length<=1024;rotate_left
 ·have c2:=M7 ⟨a.pg,a.nx,x,p,⟨a.lk,[]⟩,a.lo,a.ix,a.la⟩ ⟨hx,by dsimp only;rw [hf];exact Jh _,h1,h4,h3⟩ (by unfold Lk.sum;simp;omega) ⟨vu,Jh _⟩;refine rn F ?_;refine VCalls.wkH ?_;simp only[pV,pW,pX,pY,DV.wk,PV.wk,tI];refine rn F ?_
  repeat' (first|with_reducible exact⟨⟩|refine vp F (c2) ?_)
  exact err 15 vj
 have hk0:(⟨a.pg,a.nx,x,p,⟨a.lk,[]⟩,a.lo,a.ix,a.la⟩:Kn).sm:=⟨hx,by dsimp only;rw[hf];exact Jh _,by unfold Lk.sum;simp;omega,h1,h4,h3⟩
 have c2:=gN ⟨a.pg,a.nx,x,p,⟨a.lk,[]⟩,a.lo,a.ix,a.la⟩ hk0;refine rn F ?_;refine VCalls.wkH ?_;simp only[pV,pW,pX,pY,DV.wk,PV.wk,tI];cases hv:kB ⟨a.pg,a.nx,x,p,⟨a.lk,[]⟩,a.lo,a.ix,a.la⟩
 ·rw [hv] at c2;refine rn F ?_
  repeat' (first|with_reducible exact⟨⟩|refine vp F (c2) ?_)
  exact err 15 vj
 rw[hv] at c2;rw[<-had] at hv;have htb:al a.lo=true:=by have:=(dW hv).2.2.2.2.1;rw[had] at this;exact this
 refine rn F ?_
 repeat' (first|with_reducible exact⟨⟩|refine vp F (c2) ?_)
 have hlo:=h1.1;have hpf:(adK x a n).pl.fs=[]:=by rw[had];exact hf
 refine Qj (fun s:AdS x a n=>⟨72,0,[(11,.int .i64 s.i),(10,.ptr 4 0),(6,.ptr 2 0),(4,.ptr 1 0)],[⟨26,true,x.c⟩,⟨268,true,a.d⟩,⟨39,true,Kn.d Kn0⟩,⟨29,true,p.d⟩,⟨39,true,s.k.d⟩]⟩) (fun s=>a.lo.length-s.i) ⟨0,⟨a.pg,a.nx,x,p,⟨a.lk,[]⟩,a.lo,a.ix,a.la⟩,Jh _,hk0,by rw[had]; exact .refl,fun j _ hj=>by
  have i1:=jv htb hj
  exact⟨by dsimp only; rw[i1]; omega,km i1⟩,fun j h=>absurd h (Nat.not_lt_zero _)⟩ (gc [0,1,2,3,4]) ?_
 rintro⟨i,k,hi,hk,he,hl,h3⟩;dsimp only;by_cases hil:i<a.lo.length;rotate_left
 ·skip
  refine rn F ?_;exact⟨rfl,rfl,(k,0),rfl,hk,fun _=>⟨hv,hpf,he,AdS.all he h3 hil⟩⟩
 have hg:=dx a.lo i hil;have hl0:=hl i (JC _) hil;have hfp:(a.lo.getD i Tx0).st≠3->kk k ⟨0,4,(a.lo.getD i Tx0).id,0,0,0,Ch0,[]⟩:=fun h=>⟨hl0.1,fun _=>by dsimp only;rw[hl0.2];exact h,fun h=>by simp at h⟩
 have hnx:=fun k1 n1 e1 hq h=>AdS.nx (k1:=k1) (n1:=n1) (e1:=e1) htb (e:=⟨0,4,(a.lo.getD i Tx0).id,0,0,0,Ch0,[]⟩) hq h rfl hil rfl hl
 have hin:∀j,j<a.lo.length->0<=idT k.tx (a.lo.getD j Tx0).id:=fun j hj=>by
  rw[he.ids];have:idT (adK x a n).tx (a.lo.getD j Tx0).id=j:=jv htb hj;omega
 have hn3:=fun k1 n1 e1 hq h=>AdS.n3 (k1:=k1) (n1:=n1) (e1:=e1) htb (e:=⟨0,4,(a.lo.getD i Tx0).id,0,0,0,Ch0,[]⟩) hq h rfl hil rfl hin h3
 have h3s:(a.lo.getD i Tx0).st=3->∀j,j<i+1->(QW k.tx (a.lo.getD j Tx0).id).st=3:=fun q j hj=>by
  by_cases hji:j=i
  ·subst hji;rw[hl0.2];exact q
  ·exact h3 j vz
 generalize htt:a.lo.getD i Tx0=t at *;have c3:=kg k hk ⟨0,4,t.id,0,0,0,Ch0,[]⟩;have F:=@hg;refine rn F ?_
 repeat' (first|with_reducible exact⟨⟩|(refine sB F ?_ ?_<;>intro hZ)|(refine Qs (c3) rfl ?_;rintro⟨k1,n1,e1⟩ hq;refine rn F ?_)|(refine Qf (id:=11) [0,1,2,3,4,5,6,7] [⟨[],[],8,[1,2,3,4,5,6],[9,10,11,12]⟩,⟨[],[],13,[11,12],[]⟩,⟨[],[],14,[],[]⟩] vw vw ?_;refine rn F ?_))
 all_goals first|exact err _ vq|exact⟨⟨i+1,k,hil,hk,he,fun j h1 h2=>hl j vz h2,h3s wz⟩,vu,(gc [0,1,2,3,4])⟩|exact⟨⟨i+1,k1,hil,hq.1,M8 hq vq he rfl (hfp vq),hnx k1 n1 e1 hq vq,hn3 k1 n1 e1 hq vq⟩,vu,(gc [0,1,2,3,4])⟩|skip
def unf(s:List UInt8)(a:Int):List UInt8×Int×Int:=
 if a<0\/(s.length:Int)<a then ([],0,1)
 else if ¬a.toNat+4<=s.length then ([],0,5)
 else if 8392<n4 s a.toNat then ([],0,2)
 else if ¬a.toNat+4+n4 s a.toNat+4<=s.length then ([],0,5)
 else if ¬(n4 s (a.toNat+4+n4 s a.toNat):Int)=bY ((s.take (a.toNat+4+n4 s a.toNat)).drop a.toNat) then ([],0,3)
 else ((s.take (a.toNat+4+n4 s a.toNat)).drop (a.toNat+4),(a.toNat+4+n4 s a.toNat+4:Nat),0)
def Bk(s:List UInt8)(a:Int):(unf s a).1.length<=s.length/\((unf s a).2.2=0->0<=a/\0<=(unf s a).2.1/\(unf s a).2.1<=s.length):=by
 unfold unf;split
 ·exact⟨Jh _,fun h=>by simp at h⟩
 rename_i h1;split
 ·exact⟨Jh _,fun h=>by simp at h⟩
 split
 ·exact⟨Jh _,fun h=>by simp at h⟩
 split
 ·exact⟨Jh _,fun h=>by simp at h⟩
 rename_i h2;split
 ·exact⟨Jh _,fun h=>by simp at h⟩
 ·refine⟨by dsimp only;rw[JO,Jt];omega,fun _=>⟨vz,vu,vu⟩⟩
def ri(s:List UInt8)(a:Int):DV:=.tup [.pv (.str (unf s a).1),.int .i64 (unf s a).2.1,.int .i64 (unf s a).2.2]
def Bl(s:List UInt8)(hs:s.length<=100000000)(a:Int):VCalls prog 198 [.pv (.str s),.int .i64 a] [] (Ret (ri s a)):=by
 refine dd Tryz.func198 ?_;unfold ri unf;by_cases h1:a<0
 ·rw [if_pos (.inl h1)];(refine rn @h1 ?_;try with_reducible exact⟨⟩)
 ·by_cases h2:(s.length:Int) < a
  ·rw [if_pos (.inr h2)];(refine rn (Jb @h1 @h2) ?_;try with_reducible exact⟨⟩)
  ·rw [if_neg vz];obtain⟨k,rfl⟩:∃k:Nat,a=k:=⟨a.toNat,vz⟩
   rw[Jm];by_cases h3:k+4<=s.length
   ·rw [if_neg vz];have hn:=s8 s k;refine rn (Jb @h1 @h2) ?_;refine bZ (xO s vz k h3) rfl ?_;by_cases h4:8392<n4 s k
    ·rw [if_pos h4];have h4':8392<(n4 s k:Int):=vz;(refine rn @h4' ?_;try with_reducible exact⟨⟩)
    ·rw [if_neg h4];have h4':¬8392<(n4 s k:Int):=vz
     have hw:IntKind.u32.wrap (n4 s (k+4+n4 s k):Int)=(n4 s (k+4+n4 s k):Int):=by
      have:=s8 s (k+4+n4 s k);simp[IntKind.wrap,IntKind.signed,IntKind.bits];omega
     by_cases h5:k+4+n4 s k+4<=s.length
     ·rw [if_neg vz];have hg:=xO s vz (k+4+n4 s k) h5;have e:(((k+4+n4 s k:Nat)):Int)=(k:Int)+4+(n4 s k:Int):=vz;rw[e] at hg;have h5':¬(s.length:Int)-(k:Int)<(n4 s k:Int)+8:=vz;refine rn (Jb @h4' @h5') ?_;refine bZ hg rfl ?_;have ht:((k:Int)+4+(n4 s k:Int)).toNat=k+4+n4 s k:=vz;have q1:(0:Int)<=(k:Int)+4+(n4 s k:Int):=vz;have q2:k<=k+4+n4 s k:=vz;have q3:k+4+n4 s k<=s.length:=vz;have hx:=pM ((s.take (k+4+n4 s k)).drop k);refine rn (Jb @ht (Jb @q1 (Jb @q2 (Jb @q3 @hw)))) ?_;refine bZ (pN _ (by rw[JO,Jt];omega)) rfl ?_;by_cases h6:(n4 s (k+4+n4 s k):Int)=bY ((s.take (k+4+n4 s k)).drop k)
      ·rw [if_neg vz];have q4:((k:Int)+4).toNat=k+4:=vz;have q5:k+4<=k+4+n4 s k:=vz;have q6:(0:Int)<=(k:Int)+4:=vz;have e8:(((k+4+n4 s k+4:Nat)):Int)=(k:Int)+8+(n4 s k:Int):=vz;refine rn (Jb @h6 (Jb @ht (Jb @q1 (Jb @q2 (Jb @q3 (Jb @q4 (Jb @q5 @q6))))))) ?_;rw[e8]
      ·rw [if_pos h6];(refine rn @h6 ?_;try with_reducible exact⟨⟩)
     ·rw [if_pos vz];have h5':(s.length:Int)-(k:Int)<(n4 s k:Int)+8:=vz;(refine rn (Jb @h4' @h5') ?_;try with_reducible exact⟨⟩)
   ·rw [if_pos h3];refine rn (Jb @h1 @h2) ?_;refine bZ (pK s k 4 vz vz vz) rfl ?_;(refine rn trivial ?_;try with_reducible exact⟨⟩)
section
structure RS(s:List UInt8) where
 at_:Int
 e:Int
 h:0<=at_/\at_<=s.length
def dF(s:List UInt8)(a k:Nat):Int:=IntKind.i64.wrap (aW s a k)
def aE(s:List UInt8)(r:RS s)(k:Nat):Int×RS s:=
 if r.e=0 then if h:r.at_+k<=s.length then (dF s r.at_.toNat k,⟨r.at_+k,0,by have:=r.h;omega⟩) else (0,⟨r.at_,5,r.h⟩) else (0,r)
def eU(s:List UInt8)(r:RS s)(n:Int):List UInt8×RS s:=
 if r.e=0 then if h:0<=n/\r.at_+n<=s.length then ((s.take (r.at_+n).toNat).drop r.at_.toNat,⟨r.at_+n,0,by have:=r.h;omega⟩) else ([],⟨r.at_,5,r.h⟩) else ([],r)
def l9(s:List UInt8)(p:Int×RS s):Ce×RS s :=
 if p.2.e=0/\¬p.1=255 then
  if 12<p.1 then (Ce0,⟨p.2.at_,4,p.2.h⟩) else (⟨true,(eU s p.2 p.1).1⟩,(eU s p.2 p.1).2)
 else (Ce0,p.2)
def eV(s:List UInt8)(r:RS s):Ce×RS s:=l9 s (aE s r 1)
def uO(s:List UInt8)(a k:Nat)(h:k<=7):0<=dF s a k/\dF s a k<2 ^ (8*k):=by
 have h1:=nr s a k vz;have h2:=nq s a k;have h3:(2:Nat) ^ (8*k)<=2 ^ 56:=JD vz vz;have h4:((2:Int) ^ (8*k))=((2 ^ (8*k):Nat):Int):=by rw[Kl];rfl
 unfold dF;rw[h1,IntKind.wrap_i64,h4];omega
def Bm(s:List UInt8)(r:RS s)(k:Nat)(h:k<=7):0<=(aE s r k).1:=by
 unfold aE;split
 ·split
  ·exact(uO s _ k h).1
  ·exact Jw _
 ·exact Jw _
abbrev RC(B:Blk)(d:DV):DV->Qb->Prop:=fun r h'=>∃B',h'=[B']/\B'.live=true/\DV.nums.go (fun _=>false) B'.cells=true/\r.nums (fun _=>false)=true/\(r=d/\B'=B)
def rdB(T:TypeId)(s:List UInt8)(r:RS s):Blk:=⟨T,true,[.pv (.str s),.int .i64 r.at_,.int .i64 r.e]⟩
attribute [go_sem] rdB
attribute [local go_sem] Ce.d
def ej(h:VCalls prog g (args.map (DV.ren fun _=>0)) [rdB T s r0] (RC (rdB T s r1) d))(hk:hp[k]?=some (rdB T s r0))(ha:DV.nums.go (fun i=>i==k) args=true)(hK:K d (hp.set k (rdB T s r1))):VCalls prog g args hp K:=
 (VCalls.ptr1 (R:=fun r B'=>r=d/\B'=rdB T s r1) hk rfl rfl h ha).mono fun r h' ⟨B',e1,_,_,e2,e3⟩=>by subst e1 e2 e3;exact hK
def gS(s:List UInt8)(hs:s.length<=100000000)(r:RS s)(k:Nat)(hk:1<=k/\k<=8):VCalls prog 229 [.ptr 0 0,.int .i64 k] [rdB 341 s r] (RC (rdB 341 s (aE s r k).2) (.int .i64 (aE s r k).1)):=by
 refine dd Tryz.func229 ?_;obtain⟨a,e,ha⟩:=r;obtain⟨n,rfl⟩:∃n:Nat,a=n:=⟨a.toNat,vz⟩
 unfold aE;dsimp only;by_cases he:e=0
 ·subst he;rw[if_pos rfl];by_cases h:(n:Int)+k<=s.length
  ·rw [dif_pos h];have hg:=lr s vz n k hk vz;refine rn F ?_;refine Qf (id:=3) [0,1,2,3,4,5,6,7,8] [⟨[],[],9,[0,1,2,4,5,6],[10,11,12]⟩,⟨[],[],13,[12],[]⟩,⟨[],[],14,[],[]⟩] vw vw ?_;refine rn trivial ?_;refine bZ hg rfl ?_;refine rn trivial ?_;exact⟨_,rfl,rfl,rfl,rfl,rfl,rfl⟩
  ·rw [dif_neg h];have hg:=pK s n k vz vz h;refine rn F ?_;refine Qf (id:=3) [0,1,2,3,4,5,6,7,8] [⟨[],[],9,[0,1,2,4,5,6],[10,11,12]⟩,⟨[],[],13,[12],[]⟩,⟨[],[],14,[],[]⟩] vw vw ?_;refine rn trivial ?_;refine bZ hg rfl ?_;refine rn trivial ?_;exact⟨_,rfl,rfl,rfl,rfl,rfl,rfl⟩
 ·rw [if_neg he];refine rn @he ?_;exact⟨_,rfl,rfl,rfl,rfl,rfl,rfl⟩
def Bn(s:List UInt8)(hs:s.length<=100000000)(r:RS s)(n:Int)(hn:0<=n/\n<=4294967296):VCalls prog 231 [.ptr 0 0,.int .i64 n] [rdB 341 s r] (RC (rdB 341 s (eU s r n).2) (.pv (.str (eU s r n).1))):=by
 refine dd Tryz.func231 ?_;obtain⟨a,e,ha⟩:=r;obtain⟨n,rfl⟩:∃m:Nat,n=m:=⟨n.toNat,vz⟩
 obtain⟨a,rfl⟩:∃m:Nat,a=m:=⟨a.toNat,vz⟩
 unfold eU;dsimp only;by_cases he:e=0
 ·subst he;rw[if_pos rfl];by_cases h:0<=(n:Int)/\(a:Int)+n<=s.length
  ·rw [dif_pos h];have q1:¬(s.length:Int)-a<n:=vz;have q2:¬(s.length:Int)-a<n:=vz;have q3:¬(s.length:Int)-(a:Int)<(n:Int):=vz;have q4:((a:Int)+n).toNat=a+n:=vz;have q5:(a:Int)+n-n=a:=vz;have q6:a<=a+n:=vz;have q7:a+n<=s.length:=vz;have q8:0<=(a:Int)+n:=vz;have q9:(a:Int).toNat=a:=vz;have q10:¬(n:Int) > (s.length:Int)-a:=vz;refine rn @q3 ?_;refine eO vw vw ?_;refine rn (Jb @q3 @q10) ?_;refine eO vw vw ?_;refine rn (Jb @q4 (Jb @q5 (Jb @q6 (Jb @q7 @q8)))) ?_;exact⟨_,rfl,rfl,rfl,rfl,rfl,rfl⟩
  ·rw [dif_neg h];have q3:(s.length:Int)-(a:Int)<(n:Int):=vz;refine rn @q3 ?_;refine eO vw vw ?_;refine rn @q3 ?_;exact⟨_,rfl,rfl,rfl,rfl,rfl,rfl⟩
 ·rw [if_neg he];refine rn @he ?_;exact⟨_,rfl,rfl,rfl,rfl,rfl,rfl⟩
def Bo(s:List UInt8)(hs:s.length<=100000000)(r:RS s):VCalls prog 230 [.ptr 0 0] [rdB 341 s r] (RC (rdB 341 s (eV s r).2) (.agg (eV s r).1.d)):=by
 refine dd Tryz.func230 ?_;have hn:=gS s hs r 1 vz;have h0:=Bm s r 1 vz
 have h1:(aE s r 1).1<=255:=by
  unfold aE;split
  ·split
   ·have:=(uO s r.at_.toNat 1 vz).2;dsimp only;omega
   ·simp
  ·simp
 unfold eV;generalize aE s r 1=p at hn h0 h1 |-;obtain⟨n,r1⟩:=p;unfold l9;dsimp only at hn h0 h1 |-;refine rn F ?_;refine ej (k:=0) hn rfl rfl ?_;by_cases he:r1.e=0
 ·by_cases h2:n = 255
  ·subst h2;rw[if_neg vv];refine rn @he ?_;exact⟨_,rfl,rfl,rfl,rfl,rfl,by rw[<-he]⟩
  ·rw [if_pos ⟨he,h2⟩];by_cases h3:12<n
   ·rw [if_pos h3];refine rn (Jb @he (Jb @h2 @h3)) ?_;exact⟨_,rfl,rfl,rfl,rfl,rfl,rfl⟩
   ·rw [if_neg h3];have ht:=Bn s hs r1 n vz;refine rn (Jb @he (Jb @h2 @h3)) ?_;have e9:(⟨341,true,[.pv (.str s),.int .i64 r1.at_,.int .i64 0]⟩:Blk)=rdB 341 s r1:=by rw[rdB,he]
    rw[e9];refine ej (k:=0) ht rfl rfl ?_;refine rn trivial ?_;exact⟨_,rfl,rfl,rfl,rfl,rfl,rfl⟩
 ·rw [if_neg (fun h=>he h.1)];refine rn @he ?_;exact⟨_,rfl,rfl,rfl,rfl,rfl,rfl⟩
end
section
attribute [local go_sem] Ce.d
def rs0(s:List UInt8):RS s:=⟨0,0,vz⟩
def Na(s:List UInt8)(r:RS s):(aE s r 4).1<=4294967296:=by
 unfold aE;split
 ·split
  ·have:=(uO s r.at_.toNat 4 vz).2;dsimp only;omega
  ·simp
 ·simp
def ga(s:List UInt8):E×RS s:=
 let p1:=aE s (rs0 s) 8
 let p2:=aE s p1.2 1
 let p3:=aE s p2.2 4
 let p4:=aE s p3.2 8
 let p5:=aE s p4.2 8
 let p6:=aE s p5.2 8
 let p7:=aE s p6.2 4
 let p8:=aE s p7.2 1
 let c1:=eV s p8.2
 let c2:=eV s c1.2
 let p9:=aE s c2.2 4
 let t:=eU s p9.2 p9.1
 (⟨p1.1,p2.1,p3.1,p4.1,p5.1,p6.1,⟨p7.1,p8.1,c1.1,c2.1⟩,t.1⟩,t.2)
def fA(s:List UInt8):E×Int:=
 if (ga s).2.e=0 then if (ga s).2.at_=s.length then if (ga s).1.okB=true then ((ga s).1,0) else (E0,12) else (E0,4) else (E0,(ga s).2.e)
def Nb(s:List UInt8)(hs:s.length<=100000000):VCalls prog 200 [.pv (.str s)] [] (Ret (.tup [.agg (fA s).1.d,.int .i64 (fA s).2])):=by
 have hp1:=gS s hs (rs0 s) 8 vz;generalize hqp1:aE s (rs0 s) 8=p1 at hp1;have hp2:=gS s hs p1.2 1 vz;generalize hqp2:aE s p1.2 1=p2 at hp2;have hp3:=gS s hs p2.2 4 vz;generalize hqp3:aE s p2.2 4=p3 at hp3;have hp4:=gS s hs p3.2 8 vz;generalize hqp4:aE s p3.2 8=p4 at hp4;have hp5:=gS s hs p4.2 8 vz;generalize hqp5:aE s p4.2 8=p5 at hp5;have hp6:=gS s hs p5.2 8 vz;generalize hqp6:aE s p5.2 8=p6 at hp6;have hp7:=gS s hs p6.2 4 vz;generalize hqp7:aE s p6.2 4=p7 at hp7;have hp8:=gS s hs p7.2 1 vz;generalize hqp8:aE s p7.2 1=p8 at hp8;have hc1:=Bo s hs p8.2;generalize hqc1:eV s p8.2  = c1 at hc1;have hc2:=Bo s hs c1.2;generalize hqc2:eV s c1.2  = c2 at hc2;have hp9:=gS s hs c2.2 4 vz;generalize hqp9:aE s c2.2 4=p9 at hp9;have ht:=Bn s hs p9.2 p9.1 ⟨by rw[<-hqp9];exact Bm s _ 4 vz,by rw[<-hqp9];exact Na s _⟩;generalize hqt:eU s p9.2 p9.1=t at ht
 have hd:ga s=(⟨p1.1,p2.1,p3.1,p4.1,p5.1,p6.1,⟨p7.1,p8.1,c1.1,c2.1⟩,t.1⟩,t.2):=by
  unfold ga;simp only[hqp1,hqp2,hqp3,hqp4,hqp5,hqp6,hqp7,hqp8,hqc1,hqc2,hqp9,hqt]
 have hv:=jY ⟨p1.1,p2.1,p3.1,p4.1,p5.1,p6.1,⟨p7.1,p8.1,c1.1,c2.1⟩,t.1⟩;unfold fA;rw[hd];clear hqt hqp9 hqc2 hqc1 hqp8 hqp7 hqp6 hqp5 hqp4 hqp3 hqp2 hqp1 hd;obtain⟨n1,r1⟩:=p1;obtain⟨n2,r2⟩:=p2;obtain⟨n3,r3⟩:=p3;obtain⟨n4,r4⟩:=p4;obtain⟨n5,r5⟩:=p5;obtain⟨n6,r6⟩:=p6;obtain⟨n7,r7⟩:=p7;obtain⟨n8,r8⟩:=p8;obtain⟨x1,r9⟩:=c1;obtain⟨x2,r10⟩:=c2;obtain⟨n9,r11⟩:=p9;obtain⟨tt,r12⟩:=t;dsimp only at *;refine dd Tryz.func200 ?_;refine rn F ?_;have e0:(⟨341,true,[.pv (.str s),.int .i64 0,.int .i64 0]⟩:Blk)=rdB 341 s (rs0 s):=rfl;rw[e0];refine ej (k:=1) hp1 rfl rfl ?_;refine rn trivial ?_;refine ej (k:=1) hp2 rfl rfl ?_;refine rn trivial ?_;refine ej (k:=1) hp3 rfl rfl ?_;refine rn trivial ?_;refine ej (k:=1) hp4 rfl rfl ?_;refine rn trivial ?_;refine ej (k:=1) hp5 rfl rfl ?_;refine rn trivial ?_;refine ej (k:=1) hp6 rfl rfl ?_;refine rn trivial ?_;refine ej (k:=1) hp7 rfl rfl ?_;refine rn trivial ?_;refine ej (k:=1) hp8 rfl rfl ?_;refine rn trivial ?_;refine ej (k:=1) hc1 rfl rfl ?_;refine rn trivial ?_;refine ej (k:=1) hc2 rfl rfl ?_;refine rn trivial ?_;refine ej (k:=1) hp9 rfl rfl ?_;refine rn trivial ?_;refine ej (k:=1) ht rfl rfl ?_;refine rn trivial ?_;by_cases he:r12.e=0
 ·rw [if_pos he];by_cases ha:r12.at_=s.length
  ·rw [if_pos ha];refine rn (Jb @he @ha) ?_;by_cases hb:E.okB ⟨n1,n2,n3,n4,n5,n6,⟨n7,n8,x1,x2⟩,tt⟩=true
   ·rw [if_pos hb];rw[hb] at hv;refine bZ hv rfl ?_;refine rn trivial ?_;first|exact⟨⟩|rfl
   ·rw [if_neg hb];have hb:E.okB ⟨n1,n2,n3,n4,n5,n6,⟨n7,n8,x1,x2⟩,tt⟩=false:=by simpa using hb
    rw[hb] at hv;refine bZ hv rfl ?_;refine rn trivial ?_;rfl
  ·rw [if_neg ha];refine rn (Jb @he @ha) ?_;rfl
 ·rw [if_neg he];refine rn @he ?_;refine eO vw vw ?_;refine rn trivial ?_;rfl
end
end Go.Proofs.YtalibkpienbliaaGreat
