/-
  Contracts of functions and plain laws. No condition.
-/
import Derived.Test.YtdnbdbgdfocpgaaGreatP2
import Derived.Test.YtdnbdbgdfocpgaaGreatP1
import Derived.Test.YtdnbdbgdfocpgaaGreatV3
set_option linter.unusedSimpArgs false
set_option linter.unusedVariables false
set_option linter.defProp false
set_option maxRecDepth 100000
set_option maxHeartbeats 8000000
set_option autoImplicit true
set_option relaxedAutoImplicit true
open And renaming intro->Ja
open Bool renaming and_eq_true->Jd,or_eq_true->JW,beq_eq_decide_eq->JY,toNat_le->J3,toNat_false->J8
open Int renaming toNat_natCast->Jn,le_refl->JA,natCast_pow->JV
open List renaming length_append->Jb,take_succ_eq_append_getElem->Je,mem_singleton->Jf,append_assoc->Jg,getD_eq_getElem?_getD->Ji,mem_append->Jk,take_of_length_le->Jl,length_take->Jm,length_cons->Jo,mem_iff_getElem->Jp,getElem_mem->Jq,append_nil->Js,length_singleton->Jt,mem_append_left->Ju,flatMap_cons->Jv,all_eq_true->Jw,mem_filter->Jz,length_drop->JB,length_nil->JC,mem_range->JD,take_zero->JE,getElem?_eq_some_iff->JF,filter_append->JG,prefix_append->JH,getElem_take->JI,replicate->JJ,mem_append_right->JK,getElem_map->JL,map_cons->JM,nil_append->JN,getElem_of_mem->JO,flatMap_append->JP,getD_cons_succ->JQ,getElem?_append_right->JR,drop_left->JS,prefix_refl->JU,length_filter_le->JX,mem_of_mem_take->JZ,mem_cons_of_mem->J0,take_succ_cons->J2,getElem?_take->J4,getElem?_drop->J5,take_length->J7,filter_cons->J9,idxOf_cons->Ka,length_set->Kb,filter_nil->Kc,take_nil->Kd,mem_map->Ke,range->Kg
open Nat renaming zero_le->Jc,le_succ_of_le->Jh,le_trans->Jj,le_refl->Jr,pow_le_pow_right->Jx,mul_le_mul_right->Jy,succ_le_succ->JT,mul_le_mul_left->J1,mod_eq_of_lt->J6,le_succ->Kf
namespace Go.Proofs.YtdnbdbgdfocpgaaGreat
open Go.V Go
open Tryz (prog)
def QfU(h:(QaY p a n).2=0)(hi:i<p.fs.length)(hid:idF p.fs a=(i:Nat))(hn:(p.fs.getD i Fm0).pg.lsn=n):((p.fs.getD i Fm0).dirty=false/\(QaY p a n).1=p)\/∃ u:Fm,u.pg=(p.fs.getD i Fm0).pg/\u.dirty=false/\(QaY p a n).1=⟨p.size,p.fs.set i u,p.hand⟩:=by
 unfold QaY at h |-
 split at h
 ·simp at h
 rename_i q1
 split at h
 ·simp at h
 rename_i q2
 split at h
 ·simp at h
 rename_i q3
 rw[if_neg q1,if_neg q2,if_neg q3,hid,Jn]
 split
 ·rename_i q4; exact .inl ⟨by simpa using q4,rfl⟩
 ·refine .inr ⟨_,?_,?_,rfl⟩<;>unfold Qfk<;>rw[if_pos hn]
def Qur(h:(QaN l n).2=true):∃ d∈l,d.pg=n:=by
 unfold QaN at h
 split at h
 ·rename_i d hd
  exact⟨d,List.mem_of_find?_eq_some hd,by simpa using List.find?_some hd⟩
 ·cases h
def QB0(h:ixB l=true)(p:Nat):0<=(l.getD p Rw0).lsn:=by
 by_cases hp:p<l.length
 ·unfold ixB at h
  simp only[Jd,Jw,JD] at h
  have:=h.2 p hp
  unfold QBg Qqi at this
  simp only[Jd,decide_eq_true_eq] at this
  omega
 ·rw[Ji,List.getElem?_eq_none (by omega)]; exact JA _
def KI.wrt(hk:KI k)(ha:AddOk k e e')(h7:e.kind=7)(hw:QHc k e):KI (k.wrt e'):=by
 have F:=ha.facts hk
 obtain⟨v,s,ho,hl,hn,hnt,hnr,h0,hi,hp1,hp2⟩:=id ha
 obtain⟨s1,s2,s3,s4,s5⟩:=s
 have hk':e'.kind=7:=by rw[s1]; exact h7
 have hn:¬ (e'.kind=1\/e'.kind=2):=by omega
 have n5:e'.kind≠5:=by omega
 have n2:e'.kind≠2:=by omega
 have n6:e'.kind≠6:=by omega
 have htx:¬ 0<e'.tx:=fun h=>by have:=Qe0 ho (by omega); omega
 obtain⟨i,hil,hid,hls,hcl,hdd⟩:=hw
 rw[<- s4,<- s3] at hcl
 rw[<- s4] at hid
 rw[<- s3] at hls
 have hpl:=(Qj3 v).2.2.2.1
 have hpg:(k.pl.fs.getD i Fm0).pg.id=e'.c.pg:=by
  rcases Qa9 k.pl.fs e'.c.pg with q | ⟨j,_,q1,q2⟩
  ·omega
  ·obtain rfl:j = i:=by omega
   exact q2
 have hother:∀ j,(hj:j<k.pl.fs.length)->j≠i->(k.pl.fs[j]).pg.id≠e'.c.pg:=fun j hj hji q=>by
  have:=QtT hpl hj
  rw[Qf _ _ hj,q,hid] at this
  omega
 have hmi:k.pl.fs.getD i Fm0∈k.pl.fs:=by rw[Qf _ _ hil]; exact Jq hil
 have hfs:(k.wrt e').pl.fs=(QaY k.pl e'.c.pg e'.ref).1.fs:=rfl
 have hsub:∀ f∈(k.wrt e').pl.fs,∃ g∈k.pl.fs,g.pg=f.pg/\(f.dirty=true->g=f):=fun f hf=>by
  rw[hfs] at hf
  rcases QfU hcl hil hid hls with⟨_,q⟩ | ⟨u,u1,u2,q⟩
  ·rw[q] at hf; exact⟨f,hf,rfl,fun _=>rfl⟩
  ·rw [q] at hf
   rcases QgD hf with⟨j,hj,_,rfl⟩ | ⟨rfl,_⟩
   ·exact⟨_,Jq hj,rfl,fun _=>rfl⟩
   ·exact⟨_,hmi,u1.symm,fun h=>by rw[u2] at h; cases h⟩
 have hsup:∀ f∈k.pl.fs,f.dirty=true->f.pg.id≠e'.c.pg->f∈(k.wrt e').pl.fs:=fun f hf hd hne=>by
  rw[hfs]
  rcases QfU hcl hil hid hls with⟨_,q⟩ | ⟨u,u1,u2,q⟩
  ·rw[q]; exact hf
  ·rw [q]
   obtain⟨j,hj,rfl⟩:=Jp.1 hf
   by_cases hji:i=j
   ·subst hji; rw[Qf _ _ hil] at hpg; exact absurd hpg hne
   ·exact QiI hj hji
 refine hk.addP ha ⟨fun q=>absurd q htx,fun q=>absurd q htx,fun q=>absurd q htx,fun q=>absurd q n5,fun q=>absurd q hn,fun q=>absurd q n2,fun _=>?_,fun q=>absurd q n6,fun _=>?_⟩ rfl rfl rfl rfl rfl (fun p n q=>.inr ⟨?_,fun h=>absurd h hn⟩) (fun p q=>⟨?_,fun h=>absurd h hn⟩) (fun f q=>?_) (fun _ n q=>?_)
 ·rw[<- hls,hk.fr _ hmi,hpg]
 ·have hp0:=QeY ho (.inr (.inr hk'))
  have hlt:=hk.cor.lt e'.c.pg.toNat e'.ref (.inr ⟨_,hmi,hdd,by rw[hpg]; omega,hls⟩)
  have hix:=QB0 (Qj3 v).2.2.2.2.2.1 e'.c.pg.toNat
  refine⟨by omega,fun x hx h7x ⟨g1,g2⟩=>?_⟩
  have:=hk.cor.w7 x hx h7x
  rw[g1] at this
  omega
 ·rcases q with q | ⟨f,d1,d2,d3,d4⟩
  ·exact .inl q
  ·obtain ⟨g,g1,g2,g3⟩:=hsub f d1
   obtain rfl:=g3 d2
   exact .inr ⟨g,g1,d2,d3,d4⟩
 ·by_cases hpe:p = e'.c.pg
  ·exact .inr ⟨hk',hpe⟩
  ·refine .inl fun n hL=>?_
   rcases hL with hL | ⟨f,d1,d2,d3,d4⟩
   ·exact q n (.inl hL)
   ·exact q n (.inr ⟨f,hsup f d1 d2 (by rw[d3]; exact hpe),d2,d3,d4⟩)
 ·obtain ⟨g,g1,g2,_⟩:=hsub f q
  rw[Qbo _ _ _ fun h=>hn h.1,<- g2]
  exact hk.fr g g1
 ·rcases q with ⟨d,d1,d2,d3⟩ | ⟨f,d1,d2,d3,d4⟩
  ·have hlk:=((Qux v).frs i hil).2
   rw[hpg] at hlk
   obtain⟨b,hb⟩:∃ b,(b,false)=QaN k.la e'.c.pg:=⟨(QaN k.la e'.c.pg).1,by rw[<- hlk]⟩
   exact QgF hb d d1 d2
  ·rw [hfs] at d1
   rcases QfU hcl hil hid hls with⟨g,_⟩ | ⟨u,u1,u2,g⟩
   ·rw[hdd] at g; cases g
   ·rw [g] at d1
    rcases QgD d1 with⟨j,hj,hji,rfl⟩ | ⟨rfl,_⟩
    ·exact hother j hj hji d3
    ·rw[u2] at d2; cases d2
def KI.pool(hk:KI k)(h1:∀ f∈p.fs,∃ g∈k.pl.fs,g.pg=f.pg/\g.dirty=f.dirty)(h2:∀ g∈k.pl.fs,g.dirty=true->∃ f∈p.fs,f.pg=g.pg/\f.dirty=true):KI ⟨k.pg,k.nx,k.lg,p,k.lk,k.tx,k.ix,k.la⟩:=by
 refine⟨hk.lg,hk.f,hk.log,hk.cor.weak (JA _) (fun q n h=>?_) (fun q h n hL=>?_),fun f hf=>?_⟩
 ·rcases h with h | ⟨f,d1,d2,d3,d4⟩
  ·exact .inl h
  ·obtain ⟨g,g1,g2,g3⟩:=h1 f d1
   exact .inr ⟨g,g1,by rw[g3]; exact d2,by rw[g2]; exact d3,by rw[g2]; exact d4⟩
 ·rcases hL with hL | ⟨f,d1,d2,d3,d4⟩
  ·exact h n (.inl hL)
  ·obtain ⟨g,g1,g2,g3⟩:=h2 f d1 d2
   exact h n (.inr ⟨g,g1,g3,by rw[g2]; exact d3,by rw[g2]; exact d4⟩)
 ·obtain ⟨g,g1,g2,_⟩:=h1 f hf
  show f.pg.lsn=_
  rw[<- g2]; exact hk.fr g g1
def SameF.mem(h:SameF l m)(hf:f∈m):∃ g∈l,g.pg=f.pg/\g.dirty=f.dirty:=by
 obtain⟨i,hi,rfl⟩:=Jp.1 hf
 have hl:=h.len
 have:=h.at_ i
 rw[Qf _ _ hi,Qf _ _ (by omega:i<l.length)] at this
 unfold Fm.clr at this
 simp only[Fm.mk.injEq] at this
 exact⟨_,Jq (by omega:i<l.length),this.1.symm,this.2.1.symm⟩
def SameF.symm(h:SameF l m):SameF m l:=Eq.symm h
def Qvp(h:(Qd5 p a).2=0):∃ i:Nat,(p.fs.getD i Fm0).dirty=false/\(Qd5 p a).1.fs=p.fs.take i++p.fs.drop (i+1):=by
 unfold Qd5 at h |-
 split at h
 ·simp at h
 rename_i q1
 split at h
 ·simp at h
 rename_i q2
 split at h
 ·simp at h
 rename_i q3
 rw[if_neg q1,if_neg q2,if_neg q3]
 exact⟨(idF p.fs a).toNat,by simpa using q3,by dsimp only⟩
def KI.drop(hk:KI k)(h:(Qd5 k.pl a).2=0):KI ⟨k.pg,k.nx,k.lg,(Qd5 k.pl a).1,k.lk,k.tx,k.ix,k.la⟩:=by
 obtain⟨i,hd,hf⟩:=Qvp h
 refine hk.pool (fun f q=>?_) fun g q hg=>?_
 ·rw [hf] at q
  rcases Jk.1 q with q | q
  ·exact⟨f,JZ q,rfl,rfl⟩
  ·exact⟨f,List.mem_of_mem_drop q,rfl,rfl⟩
 ·obtain ⟨j,hj,rfl⟩:=Jp.1 q
  have hji:j≠i:=fun h=>by subst h; rw[Qf _ _ hj,hg] at hd; cases hd
  refine⟨k.pl.fs[j],?_,rfl,hg⟩
  rw[hf,Jk]
  rcases Nat.lt_or_gt_of_ne hji with h | h
  ·left; rw[Jp]; exact⟨j,by rw[Jm]; omega,by rw[JI]⟩
  ·right; rw[Jp]; exact⟨j-(i+1),by rw[JB]; omega,by rw[List.getElem_drop]; congr 1; omega⟩
def KI.put(hk:KI k)(v:kB k=true)(hr:0<=x.id/\x.id<k.pg)(hl:x.lsn=QfO k x.id):KI ⟨k.pg,k.nx,k.lg,⟨k.pl.size,k.pl.fs++[⟨x,false,0,true⟩],k.pl.hand⟩,k.lk,k.tx,k.ix,k.la⟩:=by
 rw[hk.head v hr.1 hr.2] at hl
 refine⟨hk.lg,hk.f,hk.log,hk.cor.weak (JA _) (fun q n h=>?_) (fun q h n hL=>?_),fun f hf=>?_⟩
 ·rcases h with h | ⟨f,d1,d2,d3,d4⟩
  ·exact .inl h
  ·rcases Jk.1 d1 with d1 | d1
   ·exact .inr ⟨f,d1,d2,d3,d4⟩
   ·rw[Jf.1 d1] at d2; cases d2
 ·rcases hL with hL | ⟨f,d1,d2⟩
  ·exact h n (.inl hL)
  ·exact h n (.inr ⟨f,Ju _ d1,d2⟩)
 ·rcases Jk.1 hf with d1 | d1
  ·exact hk.fr f d1
  ·rw[Jf.1 d1]; exact hl
def KI.putl(hk:KI k)(v:kB k=true)(hr:0<=x.id/\x.id<k.pg)(hl:x.lsn=QfO k x.id)(hla:(QaN k.la x.id).2=true):KI ⟨k.pg,k.nx,k.lg,⟨k.pl.size,k.pl.fs++[⟨x,true,rc,true⟩],k.pl.hand⟩,k.lk,k.tx,k.ix,k.la.filter fun d=>decide (d.pg≠x.id)⟩:=by
 rw[hk.head v hr.1 hr.2] at hl
 refine⟨hk.lg,hk.f,hk.log,⟨hk.cor.pgr,hk.cor.ids,hk.cor.ok,hk.cor.all,hk.cor.len,fun p hp=>⟨(hk.cor.row p hp).1,fun q=>(hk.cor.row p hp).2 fun n hL=>?_⟩,fun p n h=>?_,fun p n h=>?_,hk.cor.w7⟩,fun f hf=>?_⟩
 ·have hxp:(p:Int) ≠ x.id:=fun h=>q x.lsn (.inr ⟨_,JK _ (Jf.2 rfl),rfl,h.symm,rfl⟩)
  rcases hL with⟨d,d1,d2,d3⟩ | ⟨f,d1,d2⟩
  ·exact q n (.inl ⟨d,Jz.2 ⟨d1,by simp; omega⟩,d2,d3⟩)
  ·exact q n (.inr ⟨f,Ju _ d1,d2⟩)
 ·rcases h with ⟨d,d1,d2,d3⟩ | ⟨f,d1,d2,d3,d4⟩
  ·exact hk.cor.la p n (.inl ⟨d,(Jz.1 d1).1,d2,d3⟩)
  ·rcases Jk.1 d1 with d1 | d1
   ·exact hk.cor.la p n (.inr ⟨f,d1,d2,d3,d4⟩)
   ·rw [Jf.1 d1] at d3 d4
    rw[<- d4,<- d3]; exact hl
 ·rcases h with ⟨d,d1,d2,d3⟩ | ⟨f,d1,d2,d3,d4⟩
  ·exact hk.cor.lt p n (.inl ⟨d,(Jz.1 d1).1,d2,d3⟩)
  ·rcases Jk.1 d1 with d1 | d1
   ·exact hk.cor.lt p n (.inr ⟨f,d1,d2,d3,d4⟩)
   ·rw [Jf.1 d1] at d3 d4
    obtain⟨d,g1,g2⟩:=Qur hla
    have:=hk.cor.la p d.last (.inl ⟨d,g1,by rw[g2]; exact d3,rfl⟩)
    refine hk.cor.lt p n (.inl ⟨d,g1,by rw[g2]; exact d3,?_⟩)
    rw[this,<- d4,<- d3]; exact hl.symm
 ·rcases Jk.1 hf with d1 | d1
  ·exact hk.fr f d1
  ·rw[Jf.1 d1]; exact hl
def KI.rem(hk:KI k)(hi:0<=idT k.tx a)(hn:(Qbl k.tx a).n=0):KI ⟨k.pg,k.nx,k.lg,k.pl,k.lk,Qky k.tx a,k.ix,k.la⟩:=by
 obtain⟨g1,g2⟩:=QnN hi
 have g3:=(hk.cor.ok _ g1).n
 rw[g2,hn] at g3
 refine hk.txs (hk.cor.same (JA _) (fun t q=>hk.cor.ok t (mem_remS.1 q).1) fun x hx _ ⟨t,q1,q2⟩=>⟨t,mem_remS.2 ⟨q1,fun h=>?_⟩,q2⟩)
 have:=Qhv k.lg.es (a:=a) (fun y hy=>(QnJ hk.lg hk.f hy).1) ⟨x,hx,by omega⟩
 omega
def Stp.KI (h:Stp n k k') (hk:KI k):KI k':=by
 cases h with
 | begin v hb =>
   refine⟨hk.lg,hk.f,hk.log,hk.cor.beginT (show k.nx<=k.nx+1 by omega) hb fun x hx=>?_,hk.fr⟩
   have:=hk.cor.ids x hx
   omega
 | fin ha h3 hf=>exact hk.fin ha h3 hf
 | ckpt ha h6 hc=>exact hk.ckpt ha h6 hc
 | change ha h1 hs hu=>exact hk.setE ha (.inl h1) hs hu
 | undo ha h2 hs hu=>exact hk.setE ha (.inr h2) hs hu
 | wrt ha h7 hw=>exact hk.wrt ha h7 hw
 | lock u=>exact⟨hk.lg,hk.f,hk.log,hk.cor,hk.fr⟩
 | save a h =>
   obtain⟨i,hi,e⟩:=QsN h
   rw[e]
   exact hk.txs (hk.cor.setT hi rfl rfl rfl Iff.rfl)
 | back a b h =>
   obtain⟨i,hi,u,e,h1,h2,h3,h4⟩:=QvS h
   rw[e]
   exact hk.txs (hk.cor.setT hi h1 h2 h3 h4)
 | rem a hi hn=>exact hk.rem hi hn
 | pool p hs =>
   refine hk.pool (fun f q=>hs.mem q) fun g q hg=>?_
   obtain⟨f,f1,f2,f3⟩:=hs.symm.mem q
   exact⟨f,f1,f2,by rw[f3]; exact hg⟩
 | drop a h=>exact hk.drop h
 | put x v hr hl _ _=>exact hk.put v hr hl
 | putl x v hr hl _ hla=>exact hk.putl v hr hl hla
 | force d h=>exact⟨h hk.lg,hk.f,hk.log,hk.cor,hk.fr⟩
def Str.KI(h:Str n k k')(hk:KI k):KI k':=by
 induction h with
 | refl k=>exact hk
 | step _ h2 ih=>exact h2.KI (ih hk)
section
structure RQ(s:List UInt8) where
 at_:Nat
 sh:Bool
 ha:at_<=s.length
def rbQ(T:TypeId)(s:List UInt8)(r:RQ s):Blk:=⟨T,true,[.pv (.str s),.int .i64 r.at_,.bool r.sh]⟩
theorem QBt(T:TypeId)(s:List UInt8)(r:RQ s):DV.nums.go (fun _=>false) (rbQ T s r).cells=true:=rfl
def Qcq(s:List UInt8)(k:Nat)(r:RQ s):Int×RQ s:=
 if h:r.sh=true\/¬ r.at_+k<=s.length then (0,⟨r.at_,true,r.ha⟩) else (IntKind.i64.wrap (Qfp s r.at_ k),⟨r.at_+k,false,by omega⟩)
def Qhq(h:r.sh=true\/¬ r.at_+k<=s.length):Qcq s k r=(0,⟨r.at_,true,r.ha⟩):=by unfold Qcq; rw[dif_pos h]
def QjS(h:r.sh=false)(h':r.at_+k<=s.length):Qcq s k r=(IntKind.i64.wrap (Qfp s r.at_ k),⟨r.at_+k,false,h'⟩):=by
 unfold Qcq; rw[dif_neg (fun z=>z.elim (fun z=>by rw[h] at z; cases z) (fun z=>z h'))]
def RQ.lim{s:List UInt8}(r:RQ s):Nat:=r.at_+(if r.sh then 4 else 0)
def RQ.lim_le(r:RQ s):r.lim<=s.length+4:=by have:=r.ha; unfold RQ.lim; split<;>omega
def Qhr(hk:4<=k)(r:RQ s)(hr:r.sh=false):r.lim+4<=(Qcq s k r).2.lim:=by
 by_cases h:r.at_+k<=s.length
 ·rw[QjS hr h]; simp only[RQ.lim,hr]; simp; omega
 ·rw[Qhq (.inr h)]; simp only[RQ.lim,hr]; simp
def QgC(r:RQ s):r.lim<=(Qcq s k r).2.lim:=by
 cases hr:r.sh
 ·by_cases h:r.at_ + k<=s.length
  ·rw[QjS hr h]; simp only[RQ.lim,hr]; simp
  ·rw[Qhq (.inr h)]; simp only[RQ.lim,hr]; simp
 ·rw[Qhq (.inl hr)]; simp only[RQ.lim,hr]; simp
def QoM(r:RQ s): -9223372036854775808<=(Qcq s k r).1/\(Qcq s k r).1<=9223372036854775807:=by
 unfold Qcq
 split
 ·dsimp only; omega
 ·dsimp only; rw[IntKind.wrap_i64]; omega
def rdN(s:List UInt8):Nat->List Int->RQ s->List Int×RQ s
 | 0,out,r=>(out,r)
 | n+1,out,r=>if r.sh=true then (out,r) else rdN s n (out++[(Qcq s 8 r).1]) (Qcq s 8 r).2
def QEe(h:r.sh=true):rdN s n out r=(out,r):=by cases n; rfl; rw[rdN,if_pos h]
def Qns:∀ (n:Nat) (out:List Int) (r:RQ s),4 * out.length<=r.lim->4 * (rdN s n out r).1.length<=(rdN s n out r).2.lim/\r.lim<=(rdN s n out r).2.lim
 | 0,_,_,h=>⟨h,Jr _⟩
 | n + 1,out,r,h=>by
   unfold rdN
   split
   ·exact⟨h,Jr _⟩
   ·rename_i hr
    have h1:=Qhr (k:=8) (by omega) r (by simpa using hr)
    have h2:=Qns n (out++[(Qcq s 8 r).1]) (Qcq s 8 r).2 (by simp; omega)
    exact⟨h2.1,by omega⟩
def Qe4(s:List UInt8)(k:Nat)(r:RQ s):List Int×RQ s:=rdN s (Qcq s k r).1.toNat [] (Qcq s k r).2
def QlX(r:RQ s):4*(Qe4 s k r).1.length<=s.length+4:=Jj (Qns _ _ _ (Jc _)).1 (RQ.lim_le _)
def QlW(r:RQ s):r.lim<=(Qe4 s k r).2.lim:=Jj (QgC r) (Qns _ _ _ (Jc _)).2
def txS(s:List UInt8)(r:RQ s):Tx×RQ s:=
 let a:=Qcq s 4 r
 let b:=Qcq s 1 a.2
 let c:=Qcq s 8 b.2
 let d:=Qcq s 8 c.2
 let q:=Qe4 s 2 d.2
 let v:=Qe4 s 1 q.2
 (⟨a.1,b.1,c.1,d.1,q.1,v.1⟩,v.2)
def Qod(r:RQ s)(hr:r.sh=false):r.lim+4<=(txS s r).2.lim:=by
 have h1:=Qhr (k:=4) (by omega) r hr
 refine Jj h1 ?_
 unfold txS
 refine Jj (QgC _) (Jj (QgC _) (Jj (QgC _) (Jj (QlW _) (QlW _))))
def QDL(hs:s.length<=3000000)(r:RQ s):(txS s r).1.sm:=⟨by have:=QlX (k:=2) (Qcq s 8 (Qcq s 8 (Qcq s 1 (Qcq s 4 r).2).2).2).2; show(Qe4 s 2 _).1.length<=_; omega,by have:=QlX (k:=1) (Qe4 s 2 (Qcq s 8 (Qcq s 8 (Qcq s 1 (Qcq s 4 r).2).2).2).2).2; show(Qe4 s 1 _).1.length<=_; omega⟩
def rdT(s:List UInt8):Nat->List Tx->RQ s->List Tx×RQ s
 | 0,out,r=>(out,r)
 | n+1,out,r=>if r.sh=true then (out,r) else rdT s n (out++[(txS s r).1]) (txS s r).2
def QEd(h:r.sh=true):rdT s n out r=(out,r):=by cases n; rfl; rw[rdT,if_pos h]
def Qtx:∀ (n:Nat) (out:List Tx) (r:RQ s),4 * out.length<=r.lim->4 * (rdT s n out r).1.length<=(rdT s n out r).2.lim
 | 0,_,_,h=>h
 | n + 1,out,r,h=>by
   unfold rdT
   split
   ·exact h
   ·rename_i hr
    have h1:=Qod r (by simpa using hr)
    exact Qtx n (out++[(txS s r).1]) (txS s r).2 (by simp; omega)
def Qzz (hs:s.length<=3000000):∀ (n:Nat) (out:List Tx) (r:RQ s),(∀ t ∈ out,t.sm)->∀ t ∈ (rdT s n out r).1,t.sm
 | 0,_,_,h=>h
 | n + 1,out,r,h=>by
   unfold rdT
   split
   ·exact h
   ·refine Qzz hs n _ _ fun t ht=>?_
    rcases Jk.1 ht with h1 | h1
    ·exact h t h1
    ·rw[Jf.1 h1]; exact QDL hs r
def rq0(s:List UInt8):RQ s:=⟨0,false,Jc _⟩
def rdA(s:List UInt8):List Tx×RQ s:=rdT s (Qcq s 2 (rq0 s)).1.toNat [] (Qcq s 2 (rq0 s)).2
def QEf(hs:s.length<=3000000):smL (rdA s).1:=
 ⟨by have:=Qtx (Qcq s 2 (rq0 s)).1.toNat [] (Qcq s 2 (rq0 s)).2 (Jc _); have h2:=(rdA s).2.lim_le; unfold rdA at h2 |-; omega,Qzz hs _ _ _ (by simp)⟩
def QzW(s:List UInt8):List Tx×Int:=
 if (rdA s).2.sh=true then ([],5) else if ((rdA s).2.at_:Int)≠s.length then ([],4) else if QbG (rdA s).1=false then ([],15) else ((rdA s).1,0)
abbrev RY(T:TypeId)(s:List UInt8)(v:DV)(q:RQ s):DV->Qa->Prop:=fun r h'=>∃ B',h'=[B']/\B'.live=true/\DV.nums.go (fun _=>false) B'.cells=true/\r.nums (fun _=>false)=true/\(r=v/\B'=rbQ T s q)
def Qjt(h:VCalls prog g (args.map (DV.ren fun _=>0)) [rbQ T s r] (RY T s v q))(hk:hp[k]?=some (rbQ T s r))(ha:DV.nums.go (fun i=>i==k) args=true)(hK:K v (hp.set k (rbQ T s q))):VCalls prog g args hp K:=
 (VCalls.ptr1 (R:=fun x B'=>x=v/\B'=rbQ T s q) hk rfl (QBt T s r) h ha).mono fun x h' ⟨B',e1,_,_,e2,e3⟩=>by subst e1 e2 e3; exact hK
attribute [local go_sem] rbQ
attribute [local go_sem] QBT QDs QDU QDT QuU Qgq
@[go_sem] def lb(l:List Int):DV:=.pv (.sl (fz Q8 l))
def Qei(s:List UInt8)(hs:s.length<=3000000)(k:Nat)(h1:1<=k)(h8:k<=8)(r:RQ s):VCalls prog 240 [.ptr 0 0,.int .i64 k] [rbQ 336 s r] (RY 336 s (.int .i64 (Qcq s k r).1) (Qcq s k r).2):=by
 refine dd Tryz.func240 ?_
 have ha:=r.ha
 by_cases h:r.at_+k<=s.length
 ·have c1:=QiM s (by omega) r.at_ k ⟨h1,h8⟩ h
  cases hr:r.sh
  ·rw [QjS hr h]
   (unfold Tryz.f240; refine rn trivial ?_)
   have F:=@hr
   refine rn F ?_
   repeat' (first
    | with_reducible exact⟨⟩
    | refine vp F (c1) ?_
    | (refine Qd (id:=1) [0,1,2,3,4,5,6,7,8] [⟨[],[],9,[0,1,2,4,5,6],[10,11,12]⟩,⟨[],[],13,[12],[]⟩,⟨[],[],14,[],[]⟩] (by kernel_rfl) (by kernel_rfl) ?_; refine rn F ?_))
   all_goals exact⟨_,rfl,rfl,rfl,rfl,rfl,rfl⟩
  ·rw [Qhq (.inl hr)]
   (unfold Tryz.f240; refine rn trivial ?_)
   have F:=@hr
   refine rn F ?_
   repeat' (first
    | with_reducible exact⟨⟩
    | refine vp F (c1) ?_
    | (refine Qd (id:=1) [0,1,2,3,4,5,6,7,8] [⟨[],[],9,[0,1,2,4,5,6],[10,11,12]⟩,⟨[],[],13,[12],[]⟩,⟨[],[],14,[],[]⟩] (by kernel_rfl) (by kernel_rfl) ?_; refine rn F ?_))
   all_goals exact⟨_,rfl,rfl,rfl,rfl,rfl,(by first | rfl | simp only[rbQ,hr])⟩
 ·have c1:=QdP s r.at_ k (by omega) (by omega) (by omega)
  rw[Qhq (.inr h)]
  (unfold Tryz.f240; refine rn trivial ?_)
  have F:=trivial
  refine rn F ?_
  repeat' (first
   | with_reducible exact⟨⟩
   | (refine sG F ?_ ?_<;>intro hZ)
   | refine vp F (c1) ?_
   | (refine Qd (id:=1) [0,1,2,3,4,5,6,7,8] [⟨[],[],9,[0,1,2,4,5,6],[10,11,12]⟩,⟨[],[],13,[12],[]⟩,⟨[],[],14,[],[]⟩] (by kernel_rfl) (by kernel_rfl) ?_; refine rn F ?_))
  all_goals exact⟨_,rfl,rfl,rfl,rfl,rfl,rfl⟩
structure LSrnum(s:List UInt8)(fin:List Int×RQ s) where
 n:Int
 out:List Int
 r:RQ s
 hn : -9223372036854775808<=n/\n<=9223372036854775807
 ho:4*out.length<=r.lim
 he:rdN s n.toNat out r=fin
def Qzy(s:List UInt8)(hs:s.length<=3000000)(k:Nat)(h1:1<=k)(h8:k<=8)(r:RQ s):VCalls prog 241 [.ptr 0 0,.int .i64 k] [rbQ 336 s r] (RY 336 s (lb (Qe4 s k r).1) (Qe4 s k r).2):=by
 refine dd Tryz.func241 ?_
 (unfold Tryz.f241; refine rn trivial ?_)
 refine Qjt (k:=0) (Qei s hs k h1 h8 r) rfl rfl ?_
 refine rn trivial ?_
 refine VLoop.nilOwn 5 3 1 rfl ?_
 refine Qj (fun t:LSrnum s (Qe4 s k r)=>⟨27,1,[(6,.int .i64 t.n),(5,.own 1 1 0 t.out.length),(0,.ptr 0 0)],[rbQ 336 s t.r,⟨3,true,cells Q8 t.out⟩]⟩) (fun t=>t.n.toNat) ⟨(Qcq s k r).1,[],(Qcq s k r).2,QoM r,Jc _,rfl⟩ (gc [0,1]) ?_
 rintro⟨n,out,q,hn,ho,he⟩
 dsimp only
 have hl:=q.lim_le
 have hl1:out.length+1<=1000000:=by omega
 have hb:(out.length+1)*8<=140737488355328:=by omega
 obtain⟨a,sh,ha⟩:=q
 cases sh
 ·by_cases h0:0 < n
  ·have e:n.toNat = (n - 1).toNat + 1:=by omega
   rw[e,rdN,if_neg (by simp)] at he
   have hm:=Qhr (k:=8) (by omega) (⟨a,false,ha⟩:RQ s) rfl
   have F:=(Ja @h0 (Ja @QmB @hb))
   refine rn F ?_
   refine Qjt (k:=0) (Qei s hs 8 (by omega) (by omega) ⟨a,false,ha⟩) rfl rfl ?_
   have F:=(Ja @QmB @hb)
   refine rn F ?_
   refine⟨⟨n-1,_,_,by omega,by simp; omega,he⟩,by show(n-1).toNat<n.toNat; omega,?_⟩
   dsimp only
   rw[Jb]
   exact(gc [0,3])
  ·have e:n.toNat = 0:=by omega
   rw[e,rdN] at he
   have F:=(Ja @QmB @hb)
   (refine rn F ?_; try with_reducible exact⟨⟩)
   all_goals exact⟨_,rfl,rfl,rfl,rfl,(by rw[<- he]; try rfl),(by rw[<- he]; try rfl)⟩
 ·rw [QEe rfl] at he
  have F:=(Ja @QmB @hb)
  refine rn F ?_
  repeat' (first
   | with_reducible exact⟨⟩
   | (refine sG F ?_ ?_<;>intro hZ))
  all_goals exact⟨_,rfl,rfl,rfl,rfl,(by rw[<- he]; try rfl),(by rw[<- he]; try rfl)⟩
structure DTrnum(s:List UInt8) where
 n:Int
 out:List Tx
 r:RQ s
 hn : -9223372036854775808<=n/\n<=9223372036854775807
 ho:4*out.length<=r.lim
 he:rdT s n.toNat out r=rdA s
def Qp0(s:List UInt8)(hs:s.length<=3000000):VCalls prog 238 [.pv (.str s)] [] (Ret (QDm (QzW s))):=by
 refine VCalls.unwk ?_
 refine dd Tryz.func238 ?_
 (unfold Tryz.f238; refine rn trivial ?_)
 refine Qjt (k:=0) (Qei s hs 2 (by omega) (by omega) (rq0 s)) rfl rfl ?_
 refine rn trivial ?_
 refine VLoop.nilOwn 5 201 6 rfl ?_
 refine Qj (fun t:DTrnum s=>⟨64,0,[(6,.int .i64 t.n),(5,.own 1 6 0 t.out.length),(4,.ptr 0 0),(0,.pv (.str s))],[rbQ 336 s t.r,⟨201,true,cells Qal t.out⟩]⟩) (fun t=>t.n.toNat) ⟨(Qcq s 2 (rq0 s)).1,[],(Qcq s 2 (rq0 s)).2,QoM _,Jc _,rfl⟩ (gc [0,1]) ?_
 rintro⟨n,out,q,hn,ho,he⟩
 dsimp only
 have hl:=q.lim_le
 have hb:(out.length+1)*80<=140737488355328:=by omega
 have hsm:=QEf hs
 have ed:QzW s=if (rdA s).2.sh=true then ([],5) else if ((rdA s).2.at_:Int)≠s.length then ([],4) else if QbG (rdA s).1=false then ([],15) else ((rdA s).1,0):=rfl
 obtain⟨a,sh,ha⟩:=q
 cases sh
 ·by_cases h0:0 < n
  ·have e:n.toNat = (n - 1).toNat + 1:=by omega
   rw[e,rdT,if_neg (by simp)] at he
   have hm:=Qod (⟨a,false,ha⟩:RQ s) rfl
   simp only[txS] at he hm
   have cA:=Qei s hs 4 (by omega) (by omega) ⟨a,false,ha⟩
   generalize Qcq s 4 ⟨a,false,ha⟩=A at cA he hm
   have cB:=Qei s hs 1 (by omega) (by omega) A.2
   generalize Qcq s 1 A.2=B at cB he hm
   have cC:=Qei s hs 8 (by omega) (by omega) B.2
   generalize Qcq s 8 B.2=C at cC he hm
   have cD:=Qei s hs 8 (by omega) (by omega) C.2
   generalize Qcq s 8 C.2=D at cD he hm
   have cE:=Qzy s hs 2 (by omega) (by omega) D.2
   generalize Qe4 s 2 D.2=E at cE he hm
   have cF:=Qzy s hs 1 (by omega) (by omega) E.2
   generalize Qe4 s 1 E.2=W at cF he hm
   have F:=(Ja @h0 (Ja @Qgq @hb))
   refine rn F ?_
   refine Qjt (k:=0) cA rfl rfl ?_
   have F:=(Ja @h0 (Ja @Qgq @hb))
   refine rn F ?_
   refine Qjt (k:=0) cB rfl rfl ?_
   have F:=(Ja @h0 (Ja @Qgq @hb))
   refine rn F ?_
   refine Qjt (k:=0) cC rfl rfl ?_
   have F:=(Ja @h0 (Ja @Qgq @hb))
   refine rn F ?_
   refine Qjt (k:=0) cD rfl rfl ?_
   have F:=(Ja @h0 (Ja @Qgq @hb))
   refine rn F ?_
   refine Qjt (k:=0) cE rfl rfl ?_
   have F:=(Ja @h0 (Ja @Qgq @hb))
   refine rn F ?_
   refine Qjt (k:=0) cF rfl rfl ?_
   have F:=(Ja @h0 (Ja @Qgq @hb))
   refine rn F ?_
   refine⟨⟨n-1,_,_,by omega,by simp; omega,he⟩,by show(n-1).toNat<n.toNat; omega,?_⟩
   dsimp only
   have e2:cells Qal out++[.pv (.lit (.int .i64 A.1)),.pv (.lit (.int .i64 B.1)),.pv (.lit (.int .i64 C.1)),.pv (.lit (.int .i64 D.1)),.pv (.sl (fz Q8 E.1)),.pv (.sl (fz Q8 W.1))]=cells Qal (out++[⟨A.1,B.1,C.1,D.1,E.1,W.1⟩]):=Qgq out ⟨A.1,B.1,C.1,D.1,E.1,W.1⟩
   rw[Jb]
   rw[e2]
   exact(gc [0,4])
  ·have e:n.toNat = 0:=by omega
   rw[e,rdT] at he
   rw[<- he] at ed hsm
   have c1:=QbY out hsm
   rw[ed]
   by_cases h1:(a:Int)=s.length
   ·cases hv:QbG out
    ·rw [hv] at c1
     dsimp only
     rw[if_neg (by simp),if_neg (by simpa using h1),if_pos (by first | rfl | exact hv)]
     have F:=(Ja @h0 (Ja @h1 @hb))
     refine rn F ?_
     repeat' (first
      | with_reducible exact⟨⟩
      | refine vl F (c1) ?_)
     all_goals first | rfl | contradiction
    ·rw [hv] at c1
     dsimp only
     rw[if_neg (by simp),if_neg (by simpa using h1),if_neg (by first | simp; done | (rw[hv]; simp))]
     have F:=(Ja @h0 (Ja @h1 @hb))
     refine rn F ?_
     repeat' (first
      | with_reducible exact⟨⟩
      | refine vl F (c1) ?_)
     all_goals first | rfl | contradiction
   ·dsimp only
    rw[if_neg (by simp),if_pos (by simpa using h1)]
    have F:=(Ja @h0 (Ja @h1 @hb))
    (refine rn F ?_; try with_reducible exact⟨⟩)
    all_goals first | rfl | contradiction
 ·rw [QEd rfl] at he
  rw[<- he] at ed
  rw[ed]
  dsimp only
  rw[if_pos rfl]
  have F:=@hb
  refine rn F ?_
  repeat' (first
   | with_reducible exact⟨⟩
   | (refine sG F ?_ ?_<;>intro hZ))
  all_goals first | rfl | contradiction
end
def QiP(c:Cp)(h:c.sm):VCalls prog 143 [.agg c.d] [] (QI boD fun b=>b=true->CkV c):=by
 refine dd Tryz.func143 ?_
 obtain⟨h1,h2,h3⟩:=h
 have h10:=h1.1
 have c1:=QbY c.tx (h1.smL (by omega))
 have c2:=fun n=>Qll c.dl (by omega) n
 have c3:=QbO c.ix (by omega)
 have e:CkV c=((1<=c.pg/\c.pg<=64)/\(1<=c.nx/\c.nx<=1073741825)/\QbG c.tx=true/\laB c.dl c.pg=true/\ixB c.ix=true/\(c.ix.length:Int)=c.pg):=rfl
 generalize QbG c.tx=b1 at *
 generalize ixB c.ix=b2 at *
 (unfold Tryz.f143; refine rn trivial ?_)
 refine rn F ?_
 repeat' (first
  | with_reducible exact⟨⟩
  | (refine sG F ?_ ?_<;>intro hZ)
  | (refine sB F ?_ ?_<;>intro hZ)
  | refine vp F (c1) ?_
  | (refine Qp (c2 _) rfl ?_; rintro b3 hb3; refine rn F ?_)
  | refine vp F (c3) ?_)
 all_goals first
  | exact⟨rfl,rfl,false,rfl,fun h=>by cases h⟩
  | skip
 all_goals
  have hV:CkV c:=by
   rw[e]
   refine⟨⟨by omega,by omega⟩,⟨by omega,by omega⟩,?_,?_,?_,?_⟩<;>first | assumption | omega | (simp_all; done)
  refine Qj (fun s:To c.tx.length=>⟨67,0,[(3,.int .i64 s.i),(1,.ptr 0 0)],[⟨193,true,c.d⟩]⟩) (fun s=>c.tx.length-s.i) ⟨0,Jc _⟩ (gc [0]) ?_
  rintro⟨i,hi⟩
  dsimp only
  have hg:=fun h:i<c.tx.length=>Qep c.tx i h
  have F:=@hg
  refine rn F ?_
  repeat' (first
   | with_reducible exact⟨⟩
   | (refine sB F ?_ ?_<;>intro hZ)
   | (refine Qd (id:=6) [0,1,2,3,4,5,6,7,8] [] (by kernel_rfl) (by kernel_rfl) ?_; refine rn F ?_))
 all_goals first
  | exact⟨rfl,rfl,false,rfl,fun h=>by cases h⟩
  | exact⟨rfl,rfl,true,rfl,fun _=>hV⟩
  | exact⟨⟨i+1,by omega⟩,by dsimp only; omega,(gc [0])⟩
  | skip
def Qfg:∀ (l:List Dt) (s:List UInt8),(Qdv s l).length = s.length + 17 * l.length
 | [],s=>by simp[Qdv]
 | t :: r,s=>by
   show(Qdv (Qkd s t) r).length=_
   rw[Qfg r]
   unfold Qkd
   rw[Qe,Qe,Qe,Jo]; omega
def Qi0(s:List UInt8)(l:List Dt)(i:Nat)(h:i<l.length):Qdv s (l.take (i+1))=Qkd (Qdv s (l.take i)) (l.getD i Dt0):=by
 rw[Je h,Qdv,List.foldl_append,Qf l i h]; rfl
def QE3(c:Cp)(a:List UInt8×Int):Prop:=a.1.length<=300000000/\(a.1=[]\/CkV c/\a.1=QaO c)
def QxE(c:Cp)(h:c.sm):VCalls prog 106 [.agg c.d] [] (QI siD (QE3 c)):=by
 refine dd Tryz.func106 ?_
 have c1:=QiP c h
 obtain⟨h1,h2,h3⟩:=h
 have c2:=QA2 c.tx h1
 have c3:=Qxt c.ix h3
 have p1:=QU [] (by simp) c.pg 2 (by omega) (by omega)
 have p2:=QU (Qm [] c.pg 2) (by rw[Qe]; simp) c.nx 4 (by omega) (by omega)
 (unfold Tryz.f106; refine rn trivial ?_)
 refine Qp c1 rfl ?_
 rintro b hb
 cases b
 ·skip
  refine rn F ?_
  exact⟨rfl,rfl,([],24),rfl,by simp,.inl rfl⟩
 have hV:=hb rfl
 obtain⟨_,_,v3,v4,v5,_⟩:=hb rfl
 have hle:=Qo7 v3
 have hlx:=Qmk c.ix
 have eck:QaO c=Qdv (Qm (Qm (Qm (Qm [] c.pg 2) c.nx 4) (Qa3 c.tx).length 4++Qa3 c.tx) c.dl.length 1) c.dl++QcK c.ix:=rfl
 replace c2:=c2 v3
 replace c3:=c3 v5
 generalize Qa3 c.tx=t at *
 generalize QcK c.ix=w at *
 have p3:=QU (Qm (Qm [] c.pg 2) c.nx 4) (by rw[Qe,Qe]; simp) t.length 4 (by omega) (by omega)
 have l3:(Qm (Qm (Qm [] c.pg 2) c.nx 4) t.length 4).length=10:=by rw[Qe,Qe,Qe]; simp
 have hadd:=Qdh (a:=Qm (Qm (Qm [] c.pg 2) c.nx 4) t.length 4) (b:=t) (by omega)
 have p4:=QU (Qm (Qm (Qm [] c.pg 2) c.nx 4) t.length 4++t) (by rw[Jb]; omega) c.dl.length 1 (by omega) (by omega)
 have l4:(Qm (Qm (Qm (Qm [] c.pg 2) c.nx 4) t.length 4++t) c.dl.length 1).length=11+t.length:=by rw[Qe,Jb]; omega
 have F:=@hadd
 refine rn F ?_
 repeat' (first
  | with_reducible exact⟨⟩
  | refine vp F (p1) ?_
  | refine vp F (p2) ?_
  | refine vp F (c2) ?_
  | refine vp F (p3) ?_
  | refine vp F (p4) ?_)
 generalize Qm (Qm (Qm (Qm [] c.pg 2) c.nx 4) t.length 4++t) c.dl.length 1=u at *
 refine Qj (fun r:To c.dl.length=>⟨77,0,[(7,.int .i64 r.i),(6,.pv (.str (Qdv u (c.dl.take r.i)))),(1,.ptr 0 0)],[⟨193,true,c.d⟩]⟩) (fun r=>c.dl.length-r.i) ⟨0,Jc _⟩ (gc [0]) ?_
 rintro⟨i,hi⟩
 dsimp only
 have hy:=fun h:i<c.dl.length=>Qfa c.dl i h
 have hlen:=Qfg (c.dl.take i) u
 rw[Jm] at hlen
 have hsc:=Qi0 u c.dl i
 have hend:c.dl.length<=i->c.dl.take i=c.dl:=fun h=>Jl h
 by_cases hc:i<c.dl.length
 ·replace hsc:=hsc hc
  generalize Qdv u (c.dl.take i)=s at *
  generalize c.dl.getD i Dt0=x at *
  unfold Qkd at hsc
  have q1:=QU s (by omega) x.pg 1 (by omega) (by omega)
  have q2:=QU (Qm s x.pg 1) (by rw[Qe]; omega) x.rc 8 (by omega) (by omega)
  have q3:=QU (Qm (Qm s x.pg 1) x.rc 8) (by rw[Qe,Qe]; omega) x.last 8 (by omega) (by omega)
  have F:=@hy
  refine rn F ?_
  repeat' (first
   | with_reducible exact⟨⟩
   | refine vp F (q1) ?_
   | refine vp F (q2) ?_
   | refine vp F (q3) ?_)
  refine⟨⟨i+1,by omega⟩,by dsimp only; omega,?_⟩
  dsimp only
  rw[hsc]
  exact(gc [0])
 ·rw [hend (by omega)] at hlen |-
  generalize Qdv u c.dl=v at *
  have hadd2:=Qdh (a:=v) (b:=w) (by omega)
  have F:=(Ja @hy @hadd2)
  refine rn F ?_
  repeat' (first
   | with_reducible exact⟨⟩
   | refine vp F (c3) ?_)
  exact⟨rfl,rfl,(v++w,0),rfl,by dsimp only; rw[Jb]; omega,.inr ⟨hV,eck.symm⟩⟩
def Qmg(h:(QW x n).2=0):Ev x (QW x n).1:=by
 unfold QW at h |-
 split at h
 ·simp at h
 rename_i q1
 split at h
 ·simp at h
 rename_i q2
 rw[if_neg q1,if_neg q2]
 refine⟨rfl,List.prefix_rfl,fun hv=>?_⟩
 have hd:=Qat hv
 unfold lgB at hv |-
 simp only[Jd,decide_eq_true_eq] at hv |-
 refine⟨?_,hv.2⟩
 simp only[Lg.hd,Lg.end_] at hd q2 |-
 split<;>omega
def QiY(x:Lg)(n:Int)(h:x.es.length<=4096):(QW x n).1.es.length<=4096:=by
 unfold QW
 repeat' split
 all_goals first | exact Jc _ | exact h
def Qrf(hq:Qwb k e (k1,n1,e1))(h:e1=0):(QW k1.lg n1).2=0:=by
 obtain⟨e',⟨_,_,_,hl,_⟩,hk,hn,hv⟩:=hq.2 h
 dsimp only at hk hn hv
 subst hk
 unfold QW
 rw[if_neg (by rw[hv]; decide),if_neg]
 simp only[Kn.add,Lg.end_,Jb,Jo,JC] at *
 omega
def Qfb(h:(QW x n).2=0):(QW x n).1=⟨x.f,x.es,(QW x n).1.d⟩:=by
 unfold QW at h |-
 split at h
 ·simp at h
 rename_i q1
 split at h
 ·simp at h
 rename_i q2
 rw[if_neg q1,if_neg q2]
def QDP(k:Kn)(a:Kn×Int×Int):Prop:=a.1.sm/\(a.2.2=0->Str 1 k a.1)
def QA4(k:Kn)(h:k.sm):VCalls prog 84 [.agg k.d] [] (QI kie (QDP k)):=by
 refine dk Tryz.func84 ?_
 have c1:=QBp k h
 have c2:=fun c hc=>QxE c hc
 have c3:=fun t=>Qej k h ⟨0,6,0,0,0,0,Ch0,t⟩
 have e0:∀ n e,e≠0->QDP k (Kn0,n,e):=fun n e h=>⟨Qca,fun h2=>absurd h2 h⟩
 (unfold Tryz.f84; refine rn trivial ?_)
 refine rn F ?_
 repeat' (first
  | with_reducible exact⟨⟩
  | (refine sB F ?_ ?_<;>intro hZ)
  | (refine Qp (c1) rfl ?_; rintro⟨c,e⟩ hc; refine rn F ?_)
  | (refine Qp (c2 c hc.1) rfl ?_; rintro⟨t,e2⟩ ht; refine rn F ?_)
  | (refine Qp (c3 _) rfl ?_; rintro⟨k1,n1,e1⟩ hq; refine rn F ?_)
  | refine vp F (Qgw k1.lg (Jj hq.1.1 (by decide)) n1) ?_)
 all_goals first
  | exact⟨rfl,rfl,(Kn0,0,21),rfl,e0 _ _ (by decide)⟩
  | exact⟨rfl,rfl,(Kn0,0,e),rfl,e0 _ _ (by assumption)⟩
  | exact⟨rfl,rfl,(Kn0,0,e1),rfl,e0 _ _ (by assumption)⟩
  | skip
 have he1:e1=0:=by omega
 obtain⟨r1,r2,r3,r4,r5,r6⟩:=hq.1
 have hf0:=Qrf hq he1
 obtain⟨e',ha,hk1,_,_⟩:=hq.2 he1
 dsimp only at hk1
 have qs:Str 1 k k1:=by
  rw[hk1]
  refine .one (.ckpt ha rfl ?_)
  rcases ht.2 with h | ⟨h,h'⟩
  ·exact .inl h
  ·exact .inr ⟨c,hc.2 (by first | assumption | (dsimp only; omega)),h,h'⟩
 have qf:=Stp.force (k:=k1) (QW k1.lg n1).1.d fun _=>by
  have:=(Qmg hf0).ok (hq.2 he1).choose_spec.2.2.2
  rw[Qfb hf0] at this
  exact this
 rw[<- Qfb hf0] at qf
 exact⟨rfl,rfl,(⟨k1.pg,k1.nx,(QW k1.lg n1).1,k1.pl,k1.lk,k1.tx,k1.ix,k1.la⟩,n1,0),rfl,⟨QiY _ _ r1,r2,r3,r4,r5,r6⟩,fun _=>qs.step qf⟩
def Qs1(s:Sv)(hs:s.sm):VCalls prog 69 [.agg s.d] [] (QI QGX fun a=>a.1.sm/\(a.2.2=0->Str 1 s.k a.1.k)):=by
 refine dk Tryz.func69 ?_
 have c1:=QA4 s.k hs.1
 (unfold Tryz.f69; refine rn trivial ?_)
 refine rn F ?_
 repeat' (first
  | with_reducible exact⟨⟩
  | (refine sB F ?_ ?_<;>intro hZ)
  | (refine Qp (c1) rfl ?_; rintro⟨k1,n1,e1⟩ hq; refine rn F ?_))
 all_goals first
  | exact⟨rfl,rfl,(Sv0,0,e1),rfl,QdD,fun h=>absurd h (by assumption)⟩
  | exact⟨rfl,rfl,(⟨k1,s.v⟩,n1,0),rfl,⟨hq.1,hs.2⟩,fun _=>hq.2 (by dsimp only; omega)⟩
  | skip
def Pre(q s:List UInt8):Prop:=∃ u,s=q++u
def Pre.trans(h:Pre p q)(h':Pre q s):Pre p s:=by
 obtain⟨u,rfl⟩:=h; obtain⟨v,rfl⟩:=h'; exact⟨u++v,by rw[Jg]⟩
def Pre.refl(s:List UInt8):Pre s s:=⟨[],by simp⟩
def Pre.len(h:Pre p s):p.length<=s.length:=by obtain⟨u,rfl⟩:=h; simp
def QP(s:List UInt8)(n:Int)(k:Nat):Pre s (Qm s n k):=⟨_,rfl⟩
def Qcd:∀ (l:List Int) (s:List UInt8),Pre s (Qkz s l)
 | [],s=>.refl s
 | a::r,s=>(QP s a 8).trans (Qcd r (Qm s a 8))
def Qvj(s:List UInt8)(t:Tx):Pre s (Qfe s t):=by
 unfold Qfe
 exact(QP _ _ _).trans ((QP _ _ _).trans ((QP _ _ _).trans ((QP _ _ _).trans ((QP _ _ _).trans ((Qcd _ _).trans ((QP _ _ _).trans (Qcd _ _)))))))
def QhH:∀ (l:List Tx) (s:List UInt8),Pre s (Qfd s l)
 | [],s=>.refl s
 | a::r,s=>(Qvj s a).trans (QhH r (Qfe s a))
def fit(n:Int)(k:Nat):Prop:=(k<=7/\0<=n/\n<2 ^ (8*k))\/(k=8/\-9223372036854775808<=n/\n<=9223372036854775807)
def Qvd(n:Int)(k:Nat)(h:fit n k):IntKind.i64.wrap ((u64N n % 2 ^ (8*k):Nat):Int)=n:=by
 rcases h with⟨hk,h0,h1⟩ | ⟨rfl,h1⟩
 ·rw [Qpm n (8 * k) (by omega)]
  have hp:(2:Nat) ^ (8*k)<=2 ^ 56:=Jx (by omega) (by omega)
  have e2:((2:Int) ^ (8*k))=((2 ^ (8*k):Nat):Int):=by rw[JV]; rfl
  rw[e2] at h1
  generalize 2 ^ (8*k)=z at *
  have e3:u64N n=n.toNat:=by unfold u64N; omega
  rw[e3,J6 (by omega)]; omega
 ·exact Qrt n h1
def QGa(e:a=b):(⟨a,sh,ha⟩:RQ s)=⟨b,sh,hb⟩:=by subst e; rfl
def QcW(hp:Pre (Qm p n k) s)(hk:1<=k)(hf:fit n k)(ha:a<=s.length)(e:a=p.length):
 ∃ h,Qcq s k ⟨a,false,ha⟩=(n,⟨(Qm p n k).length,false,h⟩):=by
 subst e
 have hl:=hp.len
 have hl0:=hp.len
 have hk8:k<=8:=by rcases hf with h | h<;>omega
 rw[Qe] at hl
 rw[QjS rfl hl]
 obtain⟨t,rfl⟩:=hp
 refine⟨hl0,?_⟩
 dsimp only
 rw[QhV p t n k hk8 k (Jr _),Qvd n k hf]
 exact congrArg (Prod.mk n) (QGa (Qe _ _ _).symm)
def Qty:∀ (l:List Int) {s p:List UInt8} (_:Pre (Qkz p l) s) (_:∀ n ∈ l,fit n 8) (out:List Int) {a:Nat} (ha:a<=s.length) (_:a = p.length),
 ∃ h,rdN s l.length out ⟨a,false,ha⟩=(out++l,⟨(Qkz p l).length,false,h⟩)
 | [],s,p,hp,_,out,a,ha,e=>⟨hp.len,by subst e; rw[Js]; rfl⟩
 | n :: r,s,p,hp,hf,out,a,ha,e=>by
   obtain⟨h1,e1⟩:=QcW (p:=p) (n:=n) (k:=8) ((Qcd r _).trans hp) (by omega) (hf n (by simp)) ha e
   obtain⟨h2,e2⟩:=Qty r (p:=Qm p n 8) hp (fun m hm=>hf m (J0 _ hm)) (out++[n]) h1 rfl
   refine⟨h2,?_⟩
   rw[Jo,rdN,if_neg (by simp),e1,e2,Jg]
   rfl
def QlV(hp:Pre (Qkz (Qm p l.length k) l) s)(hk:1<=k)(hfk:fit l.length k)(hf:∀ n∈l,fit n 8)(ha:a<=s.length)(e:a=p.length):
 ∃ h,Qe4 s k ⟨a,false,ha⟩=(l,⟨(Qkz (Qm p l.length k) l).length,false,h⟩):=by
 obtain⟨h1,e1⟩:=QcW (p:=p) (n:=l.length) (k:=k) ((Qcd l _).trans hp) hk hfk ha e
 obtain⟨h2,e2⟩:=Qty l hp hf [] h1 rfl
 refine⟨h2,?_⟩
 unfold Qe4
 rw[e1,Jn,e2,JN]
def Tx.fits(t:Tx):Prop:=fit t.id 4/\fit t.st 1/\fit t.n 8/\fit t.b 8/\fit t.l.length 2/\fit t.s.length 1/\(∀ n∈t.l,fit n 8)/\∀ n∈t.s,fit n 8
def QAN(hp:Pre (Qfe p t) s)(hf:t.fits)(ha:a<=s.length)(e:a=p.length):
 ∃ h,txS s ⟨a,false,ha⟩=(t,⟨(Qfe p t).length,false,h⟩):=by
 obtain⟨f1,f2,f3,f4,f5,f6,f7,f8⟩:=hf
 obtain⟨id,st,n,b,q,v⟩:=t
 unfold Qfe at hp |-
 dsimp only at *
 have p6:=(QP _ _ _).trans ((Qcd _ _).trans hp)
 have p5:=(QP _ _ _).trans ((Qcd _ _).trans p6)
 have p4:=(QP _ _ _).trans p5
 have p3:=(QP _ _ _).trans p4
 have p2:=(QP _ _ _).trans p3
 obtain⟨h1,e1⟩:=QcW (p:=p) (n:=id) (k:=4) (by first | exact p2 | exact p3 | exact p4 | exact p5) (by omega) f1 ha e
 obtain⟨h2,e2⟩:=QcW (p:=Qm p id 4) (n:=st) (k:=1) (by first | exact p2 | exact p3 | exact p4 | exact p5) (by omega) f2 h1 rfl
 obtain⟨h3,e3⟩:=QcW (p:=Qm (Qm p id 4) st 1) (n:=n) (k:=8) (by first | exact p2 | exact p3 | exact p4 | exact p5) (by omega) f3 h2 rfl
 obtain⟨h4,e4⟩:=QcW (p:=Qm (Qm (Qm p id 4) st 1) n 8) (n:=b) (k:=8) (by first | exact p2 | exact p3 | exact p4 | exact p5 | exact p6) (by omega) f4 h3 rfl
 obtain⟨h5,e5⟩:=QlV (p:=Qm (Qm (Qm (Qm p id 4) st 1) n 8) b 8) (l:=q) (k:=2) (by first | exact p6 | exact p5 | exact(QP _ _ _).trans ((Qcd _ _).trans hp)) (by omega) f5 f7 h4 rfl
 obtain⟨h6,e6⟩:=QlV (l:=v) (k:=1) hp (by omega) f6 f8 h5 rfl
 refine⟨h6,?_⟩
 simp only[txS,e1,e2,e3,e4,e5,e6]
def Qtw:∀ (l:List Tx) {s p:List UInt8} (_:Pre (Qfd p l) s) (_:∀ t ∈ l,t.fits) (out:List Tx) {a:Nat} (ha:a<=s.length) (_:a = p.length),
 ∃ h,rdT s l.length out ⟨a,false,ha⟩=(out++l,⟨(Qfd p l).length,false,h⟩)
 | [],s,p,hp,_,out,a,ha,e=>⟨hp.len,by subst e; rw[Js]; rfl⟩
 | n :: r,s,p,hp,hf,out,a,ha,e=>by
   obtain⟨h1,e1⟩:=QAN (p:=p) (t:=n) ((QhH r _).trans hp) (hf n (by simp)) ha e
   obtain⟨h2,e2⟩:=Qtw r (p:=Qfe p n) hp (fun m hm=>hf m (J0 _ hm)) (out++[n]) h1 rfl
   refine⟨h2,?_⟩
   rw[Jo,rdT,if_neg (by simp),e1,e2,Jg]
   rfl
def QvV{lo n d:Int}(h:Qph l lo n d=true)(h0:0<=lo)(hn:n<=1099511627776):∀ x∈l,fit x 8:=fun x hx=>by
 obtain⟨i,hi,rfl⟩:=JO hx
 unfold Qph at h
 rw[Jw] at h
 have:=(Qd1 l lo n d i).1 (h i (JD.2 hi))
 rw[Qf l i hi] at this
 exact .inr ⟨rfl,by omega,by omega⟩
def Qx2{t:Tx}(h:t.okB=true):t.fits:=by
 simp only[Tx.okB,Tx.hdB,Jd,JW,decide_eq_true_eq] at h
 obtain⟨⟨hh,h1⟩,h2⟩:=h
 refine⟨.inl ⟨by omega,by omega,by show t.id<4294967296; omega⟩,.inl ⟨by omega,by omega,by show t.st<256; omega⟩,.inr ⟨rfl,by omega,by omega⟩,.inr ⟨rfl,by omega,by omega⟩,.inl ⟨by omega,by omega,by show(t.l.length:Int)<65536; omega⟩,.inl ⟨by omega,by omega,by show(t.s.length:Int)<256; omega⟩,
  QvV h1 (by omega) (by omega),QvV h2 (by omega) (by omega)⟩
def Qsv(h:QbG l=true):∀ t∈l,t.fits:=fun t ht=>by
 obtain⟨i,hi,rfl⟩:=JO ht
 exact Qx2 (QbB h hi)
def QEZ(h:QbG l=true):QzW (Qa3 l)=(l,0):=by
 have hf:=Qsv h
 have hl:=QeH h
 generalize hs:Qa3 l=s
 have hp:Pre (Qfd (Qm [] l.length 2) l) s:=by rw[<- hs]; exact .refl _
 obtain⟨h1,e1⟩:=QcW (p:=[]) (n:=l.length) (k:=2) ((QhH l _).trans hp) (by omega) (.inl ⟨by omega,by omega,by show(l.length:Int)<65536; omega⟩) (Jc s.length) rfl
 obtain⟨h2,e2⟩:=Qtw l hp hf [] h1 rfl
 have e3:rdA s=(l,⟨(Qfd (Qm [] l.length 2) l).length,false,h2⟩):=by
  unfold rdA rq0
  rw[e1,Jn,e2,JN]
 unfold QzW
 rw[e3]
 dsimp only
 rw[if_neg (by simp),if_neg (by rw[<- hs]; unfold Qa3; simp),if_neg (by rw[h]; decide)]
def Qb5(hp:Pre (Qm p n k) s)(hf:fit n k)(e:a=p.length):a+k<=s.length/\IntKind.i64.wrap (Qfp s a k)=n:=by
 subst e
 have hl:=hp.len
 have hk8:k<=8:=by rcases hf with h | h<;>omega
 rw[Qe] at hl
 refine⟨hl,?_⟩
 obtain⟨t,rfl⟩:=hp
 rw[QhV p t n k hk8 k (Jr _),Qvd n k hf]
def Pre.app(s u:List UInt8):Pre s (s++u):=⟨u,rfl⟩
def Qvl(s:List UInt8)(r:Rw):Pre s (Qkc s r):=(QP _ _ _).trans ((QP _ _ _).trans (QP _ _ _))
def QhI:∀ (l:List Rw) (s:List UInt8),Pre s (Qet s l)
 | [],s=>.refl s
 | a::r,s=>(Qvl s a).trans (QhI r (Qkc s a))
def Qvm(s:List UInt8)(r:Dt):Pre s (Qkd s r):=(QP _ _ _).trans ((QP _ _ _).trans (QP _ _ _))
def QhJ:∀ (l:List Dt) (s:List UInt8),Pre s (Qdv s l)
 | [],s=>.refl s
 | a::r,s=>(Qvm s a).trans (QhJ r (Qkd s a))
def Qo8:∀ (l:List Rw) (s:List UInt8) (i:Nat),i<=l.length->Pre (Qet s (l.take i)) (Qet s l)
 | [],s,i,_=>by rw[Kd]; exact .refl _
 | a::r,s,0,_=>QhI _ _
 | a::r,s,i+1,h=>Qo8 r (Qkc s a) i (by simpa using h)
def Qo9:∀ (l:List Dt) (s:List UInt8) (i:Nat),i<=l.length->Pre (Qdv s (l.take i)) (Qdv s l)
 | [],s,i,_=>by rw[Kd]; exact .refl _
 | a::r,s,0,_=>QhJ _ _
 | a::r,s,i+1,h=>Qo9 r (Qkd s a) i (by simpa using h)
def QBZ(h:ixB l=true)(hi:i<l.length):fit (l.getD i Rw0).lsn 8/\fit (l.getD i Rw0).im 8/\fit (l.getD i Rw0).at_ 8:=by
 unfold ixB at h
 simp only[Jd,Jw,JD] at h
 have:=h.2 i hi
 unfold QBg Qqi at this
 simp only[Jd,decide_eq_true_eq] at this
 exact⟨.inr ⟨rfl,by omega,by omega⟩,.inr ⟨rfl,by omega,by omega⟩,.inr ⟨rfl,by omega,by omega⟩⟩
def QEI(h:ixB l=true):IntKind.i64.wrap (Qfp (QcK l) 0 2)=l.length/\(QcK l).length=2+24*l.length:=by
 have h2:=Quz h
 exact⟨(Qb5 (p:=[]) (n:=l.length) (k:=2) (QhI l _) (.inl ⟨by omega,by omega,by show(l.length:Int)<65536; omega⟩) rfl).2,Qmk l⟩
def QEH(h:ixB l=true)(hi:i<l.length):IntKind.i64.wrap (Qfp (QcK l) (2+24*i) 8)=(l.getD i Rw0).lsn/\IntKind.i64.wrap (Qfp (QcK l) (10+24*i) 8)=(l.getD i Rw0).im/\IntKind.i64.wrap (Qfp (QcK l) (18+24*i) 8)=(l.getD i Rw0).at_:=by
 obtain⟨f1,f2,f3⟩:=QBZ h hi
 have h1:=Qo8 l (Qm [] l.length 2) (i+1) hi
 rw[QiZ _ _ _ hi] at h1
 have hl:(Qet (Qm [] l.length 2) (l.take i)).length=2+24*i:=by
  rw[Qff,Qe,Jm,JC]; omega
 have hs:Qet (Qm [] l.length 2) l=QcK l:=rfl
 rw[hs] at h1
 generalize Qet (Qm [] l.length 2) (l.take i)=p at *
 unfold Qkc at h1
 have h2:=(QP _ _ _).trans h1
 have h3:=(QP _ _ _).trans h2
 exact⟨(Qb5 h3 f1 hl.symm).2,(Qb5 h2 f2 (by rw[Qe]; omega)).2,(Qb5 h1 f3 (by rw[Qe,Qe]; omega)).2⟩
def QoU(h:laB l n=true)(hi:i<l.length):0<=(l.getD i Dt0).pg/\(l.getD i Dt0).pg<n/\1<=(l.getD i Dt0).rc/\(l.getD i Dt0).rc<=(l.getD i Dt0).last/\(l.getD i Dt0).last<=1099511627776/\(i=0\/(l.getD (i-1) Dt0).pg<(l.getD i Dt0).pg):=by
 unfold laB at h
 rw[Jw] at h
 exact(QnK _ _ _).1 (h i (JD.2 hi))
def QzJ (h:laB l n = true):∀ i:Nat,i < l.length->(i:Int)<=(l.getD i Dt0).pg
 | 0,hi=>(QoU h hi).1
 | i + 1,hi=>by
   have h1:=QzJ h i (by omega)
   have h2:=(QoU h hi).2.2.2.2.2
   rcases h2 with h2 | h2
   ·omega
   ·rw[Nat.add_sub_cancel] at h2; omega
def QBW(h:laB l n=true)(hn:0<=n):(l.length:Int)<=n:=by
 rcases Nat.eq_zero_or_pos l.length with h0 | h0
 ·omega
 ·have h1:=QzJ h (l.length - 1) (by omega)
  have h2:=(QoU h (i:=l.length-1) (by omega)).2.1
  omega
def Qms(h:CkV c):(11+(Qa3 c.tx).length+17*c.dl.length<=(QaO c).length/\IntKind.i64.wrap (Qfp (QaO c) 0 2)=c.pg/\IntKind.i64.wrap (Qfp (QaO c) 2 4)=c.nx/\IntKind.i64.wrap (Qfp (QaO c) 6 4)=(Qa3 c.tx).length)/\((QaO c).take (10+(Qa3 c.tx).length)).drop 10=Qa3 c.tx/\IntKind.i64.wrap (Qfp (QaO c) (10+(Qa3 c.tx).length) 1)=c.dl.length/\(QaO c).drop (11+(Qa3 c.tx).length+17*c.dl.length)=QcK c.ix /\
 ∀ i,i<c.dl.length->IntKind.i64.wrap (Qfp (QaO c) (11+(Qa3 c.tx).length+17*i) 1)=(c.dl.getD i Dt0).pg/\IntKind.i64.wrap (Qfp (QaO c) (12+(Qa3 c.tx).length+17*i) 8)=(c.dl.getD i Dt0).rc/\IntKind.i64.wrap (Qfp (QaO c) (20+(Qa3 c.tx).length+17*i) 8)=(c.dl.getD i Dt0).last:=by
 obtain⟨⟨v1,v2⟩,⟨v3,v4⟩,v5,v6,v7,v8⟩:=h
 have hT:=Qo7 v5
 have hL:=QBW v6 (by omega)
 have hs:QaO c=Qdv (Qm (Qm (Qm (Qm [] c.pg 2) c.nx 4) (Qa3 c.tx).length 4++Qa3 c.tx) c.dl.length 1) c.dl++QcK c.ix:=rfl
 generalize QaO c=s at *
 generalize Qa3 c.tx=T at *
 have p5:Pre (Qdv (Qm (Qm (Qm (Qm [] c.pg 2) c.nx 4) T.length 4++T) c.dl.length 1) c.dl) s:=⟨_,hs⟩
 have p4:=(QhJ _ _).trans p5
 have p3:=(QP _ _ _).trans p4
 have p2:=(Pre.app _ _).trans p3
 have p1:=(QP _ _ _).trans p2
 have p0:=(QP _ _ _).trans p1
 have l2:(Qm (Qm (Qm [] c.pg 2) c.nx 4) T.length 4).length=10:=by rw[Qe,Qe,Qe]; rfl
 have l3:(Qm (Qm (Qm [] c.pg 2) c.nx 4) T.length 4++T).length=10+T.length:=by rw[Jb,l2]
 have l4:(Qm (Qm (Qm (Qm [] c.pg 2) c.nx 4) T.length 4++T) c.dl.length 1).length=11+T.length:=by rw[Qe,l3]; omega
 have l5:=Qfg c.dl (Qm (Qm (Qm (Qm [] c.pg 2) c.nx 4) T.length 4++T) c.dl.length 1)
 rw[l4] at l5
 refine⟨⟨by have:=p5.len; omega,(Qb5 p0 (.inl ⟨by omega,by omega,by show c.pg<65536; omega⟩) rfl).2,(Qb5 p1 (.inl ⟨by omega,by omega,by show c.nx<4294967296; omega⟩) (by rw[Qe]; rfl)).2,(Qb5 p2 (.inl ⟨by omega,by omega,by show(T.length:Int)<4294967296; omega⟩) (by rw[Qe,Qe]; rfl)).2⟩,?_,(Qb5 p4 (.inl ⟨by omega,by omega,by show(c.dl.length:Int)<256; omega⟩) l3.symm).2,?_,fun i hi=>?_⟩
 ·obtain ⟨u,hu⟩:=p3
  rw[hu,<- l3,List.take_left,<- l2,JS]
 ·rw[hs,<- l5,JS]
 ·have h1:=(Qo9 c.dl (Qm (Qm (Qm (Qm [] c.pg 2) c.nx 4) T.length 4 ++ T) c.dl.length 1) (i + 1) hi).trans p5
  rw[Qi0 _ _ _ hi] at h1
  have hl:=Qfg (c.dl.take i) (Qm (Qm (Qm (Qm [] c.pg 2) c.nx 4) T.length 4++T) c.dl.length 1)
  rw[l4,Jm] at hl
  obtain⟨a1,a2,a3,a4,a5,_⟩:=QoU v6 hi
  clear l5 p5 p4 p3 p2 p1 p0 hs l4
  generalize Qdv (Qm (Qm (Qm (Qm [] c.pg 2) c.nx 4) T.length 4++T) c.dl.length 1) (c.dl.take i)=p at *
  generalize c.dl.getD i Dt0=d at *
  unfold Qkd at h1
  have h2:=(QP _ _ _).trans h1
  have h3:=(QP _ _ _).trans h2
  exact⟨(Qb5 h3 (.inl ⟨by omega,by omega,by show d.pg<256; omega⟩) (by omega)).2,(Qb5 h2 (.inr ⟨rfl,by omega,by omega⟩) (by rw[Qe]; omega)).2,(Qb5 h1 (.inr ⟨rfl,by omega,by omega⟩) (by rw[Qe,Qe]; omega)).2⟩
@[go_sem] def niZ(a:Int×Int):DV:=.tup [.int .i64 a.1,.int .i64 a.2]
def Qek(s:List UInt8)(hs:s.length<=100000000)(a:Int)(k:Nat)(h1:1<=k)(h8:k<=8)(h0:0<=a):VCalls prog 197 [.pv (.str s),.int .i64 a,.int .i64 k] [] (QI niZ fun r=>(k<=4->0<=r.1/\r.1<4294967296)/\(k<=2->r.1<65536)/\(k<=1->r.1<256)/\(r.2=0->a+k<=s.length)/\(a+k<=s.length->r.1=IntKind.i64.wrap (Qfp s a.toNat k))):=by
 by_cases h:a+k<=s.length
 ·obtain ⟨n,rfl⟩:∃ n:Nat,a = n:=⟨a.toNat,by omega⟩
  refine(QiM s (by omega) n k ⟨h1,h8⟩ (by omega)).toS (IntKind.i64.wrap (Qfp s n k),0) rfl ⟨fun hk=>?_,fun hk=>?_,fun hk=>?_,fun _=>h,fun _=>by rw[Jn]⟩
  all_goals
   have e:=Qfo s n k (by omega)
   have h2:=Ql0 s n k
   dsimp only
   rw[e,IntKind.wrap_i64]
  ·have:(2:Nat) ^ (8 * k)<=2 ^ 32:=Jx (by omega) (by omega)
   omega
  ·have:(2:Nat) ^ (8 * k)<=2 ^ 16:=Jx (by omega) (by omega)
   omega
  ·have:(2:Nat) ^ (8 * k)<=2 ^ 8:=Jx (by omega) (by omega)
   omega
 ·refine(QdP s a k (by omega) h0 h).toS (0,5) rfl ⟨fun _=>by decide,fun _=>by decide,fun _=>by decide,fun h=>by simp at h,fun h2=>absurd h2 h⟩
structure RwS(n:Nat)(s:List UInt8) where
 i:Nat
 l:List Rw
 hl:l.length=i
 hi:i<=n
 hx:∀ l0,ixB l0=true->s=QcK l0->l=l0.take i
@[go_sem] def ixD(a:List Rw×Int):DV:=.tup [.agg [.pv (.sl (fz Qcr a.1))],.int .i64 a.2]
def ixQ(s:List UInt8)(a:List Rw×Int):Prop:=a.1.length<=64/\(a.2=0->∀ l0,ixB l0=true->s=QcK l0->a.1=l0)
def Qxu(s:List UInt8)(hs:s.length<=100000000):VCalls prog 239 [.pv (.str s)] [] (QI ixD (ixQ s)):=by
 refine dk Tryz.func239 ?_
 have c1:=Qek s hs 0 2 (by omega) (by omega) (by omega)
 have c8:=fun a h=>Qek s hs a 8 (by omega) (by omega) h
 have e0:∀ e,e≠0->ixQ s ([],e):=fun e h=>⟨Jc _,fun h2=>absurd h2 h⟩
 (unfold Tryz.f239; refine rn trivial ?_)
 refine rn F ?_
 repeat' (first
  | with_reducible exact⟨⟩
  | (refine sG F ?_ ?_<;>intro hZ)
  | (refine sB F ?_ ?_<;>intro hZ)
  | (refine Qp (c1) rfl ?_; rintro⟨n,e⟩ hn; refine rn F ?_))
 all_goals first
  | exact⟨rfl,rfl,([],_),rfl,e0 _ (by decide)⟩
  | skip
 dsimp only at hn
 obtain⟨n,rfl⟩:∃ m:Nat,n=m:=⟨n.toNat,by omega⟩
 have hn2:n<65536:=by omega
 have hnl:∀ l0,ixB l0=true->s=QcK l0->n=l0.length/\s.length=2+24*n:=fun l0 h1 h2=>by
  have h3:=QEI h1
  have h4:=hn.2.2.2.2
  rw[h2] at h4 |-
  have h5:=h4 (by omega)
  rw[show(0:Int).toNat=0 from rfl] at h5
  omega
 clear hn
 refine VLoop.nilOwnC 1 0 263 3 rfl rfl ?_
 refine rn trivial ?_
 refine Qj (fun r:RwS n s=>⟨77,0,[(7,.int .i64 r.i),(6,.ptr 1 0),(4,.int .i64 n),(2,.ptr 0 0),(0,.pv (.str s))],[⟨38,true,[.pv (.slc [])]⟩,⟨38,true,[.own 2 3 0 r.i]⟩,⟨263,true,cells Qcr r.l⟩]⟩) (fun r=>n-r.i) ⟨0,[],rfl,Jc _,fun _ _ _=>by rw[JE]⟩ (gc [0,1,2]) ?_
 rintro⟨i,l,hl,hi,hx⟩
 dsimp only at hi |-
 subst hl
 have hb:(l.length+1)*24<=140737488355328:=by omega
 have F:=@hb
 refine rn F ?_
 repeat' (first
  | with_reducible exact⟨⟩
  | (refine sB F ?_ ?_<;>intro hZ)
  | (refine Qp (c8 (2+24*(l.length:Int)) (by omega)) rfl ?_; rintro⟨a1,e1⟩ h1; refine rn F ?_)
  | (refine Qp (c8 (10+24*(l.length:Int)) (by omega)) rfl ?_; rintro⟨a2,e2⟩ h2; refine rn F ?_)
  | (refine Qp (c8 (18+24*(l.length:Int)) (by omega)) rfl ?_; rintro⟨a3,e3⟩ h3; refine rn F ?_))
 ·have hl2:(l ++ [(⟨a1,a2,a3⟩:Rw)]).length = l.length + 1:=by simp
  have hil:l.length<n:=by omega
  have hx2:∀ l0,ixB l0=true->s=QcK l0->l++[(⟨a1,a2,a3⟩:Rw)]=l0.take (l.length+1):=fun l0 q1 q2=>by
   obtain⟨q3,q4⟩:=hnl l0 q1 q2
   have q5:=hx l0 q1 q2
   have hil2:l.length<l0.length:=by omega
   obtain⟨g1,g2,g3⟩:=QEH q1 hil2
   have z1:=h1.2.2.2.2 (by omega)
   have z2:=h2.2.2.2.2 (by omega)
   have z3:=h3.2.2.2.2 (by omega)
   dsimp only at z1 z2 z3
   rw[show((2:Int)+24*(l.length:Int)).toNat=2+24*l.length by omega,q2,g1] at z1
   rw[show((10:Int)+24*(l.length:Int)).toNat=10+24*l.length by omega,q2,g2] at z2
   rw[show((18:Int)+24*(l.length:Int)).toNat=18+24*l.length by omega,q2,g3] at z3
   rw[Je hil2,z1,z2,z3,Qf _ _ hil2,<- q5]
  clear h1 h2 h3
  refine⟨⟨l.length+1,l++[⟨a1,a2,a3⟩],hl2,hil,hx2⟩,by dsimp only; omega,?_⟩
  exact(gc [0,1,5])
 have hix:=fun h:ixB l=true=>Quz h
 have c9:=QbO l (by omega)
 generalize ixB l=ok at *
 refine vl hb c9 ?_
 cases ok
 ·skip
  have F:=@hb
  refine rn F ?_
  exact⟨rfl,rfl,([],_),rfl,e0 _ (by decide)⟩
 ·skip
  have F:=@hb
  refine rn F ?_
  exact⟨rfl,rfl,(l,0),rfl,(hix rfl).2,fun _ l0 q1 q2=>by
   have q3:=(hnl l0 q1 q2).1
   have q4:=hx l0 q1 q2
   dsimp only
   rw[q4,Jl (by omega)]⟩
structure DtS(s:List UInt8)(n m:Nat) where
 i:Nat
 a:Int
 l:List Dt
 hl:l.length=i
 hi:i<=m
 ha:a=11+n+17*i
 hx:∀ c,CkV c->s=QaO c->l=c.dl.take i
def QE8(s:List UInt8)(a:Cp×Int):Prop:=smN 64 a.1.tx/\a.1.dl.length<=256/\a.1.ix.length<=64/\(a.2=0->s≠[]/\∀ c,CkV c->s=QaO c->a.1=c)
def QxF(s:List UInt8)(hs:s.length<=3000000):VCalls prog 235 [.pv (.str s)] [] (QI QG8 (QE8 s)):=by
 refine dk Tryz.func235 ?_
 have c1:=Qek s (by omega) 0 2 (by omega) (by omega) (by omega)
 have c2:=Qek s (by omega) 2 4 (by omega) (by omega) (by omega)
 have c3:=Qek s (by omega) 6 4 (by omega) (by omega) (by omega)
 have c4:=fun a h=>Qek s (by omega) a 1 (by omega) (by omega) h
 have c8:=fun a h=>Qek s (by omega) a 8 (by omega) (by omega) h
 have err:∀ e,e≠0->QE8 s (Cp0,e):=fun e h=>⟨Q0 _,Jc _,Jc _,fun h2=>absurd h2 h⟩
 (unfold Tryz.f235; refine rn trivial ?_)
 refine Qp c1 rfl ?_
 rintro⟨pg,e1⟩ h1
 refine rn trivial ?_
 refine Qp c2 rfl ?_
 rintro⟨nx,e2⟩ h2
 refine rn trivial ?_
 refine Qp c3 rfl ?_
 rintro⟨n,e3⟩ h3
 have hA:∀ c,CkV c->s=QaO c->pg=c.pg/\nx=c.nx/\n=(Qa3 c.tx).length:=fun c q1 q2=>by
  obtain⟨⟨g1,g2,g3,g4⟩,_⟩:=Qms q1
  rw[<- q2] at g1 g2 g3 g4
  exact⟨(h1.2.2.2.2 (by omega)).trans g2,(h2.2.2.2.2 (by omega)).trans g3,(h3.2.2.2.2 (by omega)).trans g4⟩
 dsimp only at h3
 obtain⟨n,rfl⟩:∃ m:Nat,n=m:=⟨n.toNat,by omega⟩
 have hn:n<4294967296:=by omega
 clear h1 h2 h3
 refine rn F ?_
 repeat' (first
  | with_reducible exact⟨⟩
  | (refine sG F ?_ ?_<;>intro hZ)
  | (refine sB F ?_ ?_<;>intro hZ))
 all_goals first | exact⟨rfl,rfl,(Cp0,5),rfl,err _ (by decide)⟩ | skip
 have hns:n+10<=s.length:=by omega
 refine Qp (c4 (10+(n:Int)) (by omega)) rfl ?_
 rintro⟨m,e4⟩ h4
 have hM:∀ c,CkV c->s=QaO c->m=c.dl.length:=fun c q1 q2=>by
  obtain⟨_,_,q3⟩:=hA c q1 q2
  obtain⟨⟨g0,_⟩,_,g1,_⟩:=Qms q1
  rw[<- q2,<- (by omega:n=(Qa3 c.tx).length)] at g0 g1
  have:=h4.2.2.2.2 (by omega)
  rw[show((10:Int)+(n:Int)).toNat=10+n by omega] at this
  exact this.trans g1
 dsimp only at h4
 obtain⟨m,rfl⟩:∃ k:Nat,m=k:=⟨m.toNat,by omega⟩
 have hm:m<256:=by omega
 clear h4
 refine rn F ?_
 repeat' (first
  | with_reducible exact⟨⟩
  | (refine sG F ?_ ?_<;>intro hZ)
  | (refine sB F ?_ ?_<;>intro hZ))
 all_goals first | exact⟨rfl,rfl,(Cp0,5),rfl,err _ (by decide)⟩ | skip
 have hns2:11+n+17*m<=s.length:=by omega
 refine VLoop.nilOwnC 1 3 171 3 rfl rfl ?_
 refine rn trivial ?_
 have hTX:∀ c,CkV c->s=QaO c->(s.take (10+(n:Int)).toNat).drop 10=Qa3 c.tx:=fun c q1 q2=>by
  obtain⟨_,_,q3⟩:=hA c q1 q2
  obtain⟨_,g1,_⟩:=Qms q1
  rw[<- q2,<- (by omega:n=(Qa3 c.tx).length)] at g1
  rw[show((10:Int)+(n:Int)).toNat=10+n by omega]
  exact g1
 generalize htx:(s.take (10+(n:Int)).toNat).drop 10=txs at *
 have htl:txs.length<=3000000:=by rw[<- htx,JB,Jm]; omega
 refine Qj (fun r:DtS s n m=>⟨130,0,[(11,.int .i64 r.i),(10,.int .i64 m),(9,.int .i64 r.a),(8,.pv (.str txs)),(4,.ptr 1 0),(2,.ptr 0 0),(0,.pv (.str s))],[⟨193,true,[.int .i64 0,.int .i64 0,.pv (.slc []),.pv (.slc []),.pv (.slc [])]⟩,⟨193,true,[.int .i64 pg,.int .i64 nx,.pv (.slc []),.own 2 3 0 r.i,.pv (.slc [])]⟩,⟨171,true,cells Qc6 r.l⟩]⟩) (fun r=>m-r.i) ⟨0,10+(n:Int)+1,[],rfl,Jc _,by omega,fun _ _ _=>by rw[JE]⟩ (gc [0,1,2]) ?_
 rintro⟨i,a,l,hl,hi,ha,hx⟩
 dsimp only
 subst hl
 have hb:(l.length+1)*24<=140737488355328:=by omega
 by_cases hil:l.length<m
 ·skip
  have F:=@hb
  refine rn F ?_
  repeat' (first
   | with_reducible exact⟨⟩
   | (refine Qp (c4 a (by omega)) rfl ?_; rintro⟨a1,e1⟩ h1; refine rn F ?_)
   | (refine Qp (c8 (a+1) (by omega)) rfl ?_; rintro⟨a2,e2⟩ h2; refine rn F ?_)
   | (refine Qp (c8 (a+9) (by omega)) rfl ?_; rintro⟨a3,e3⟩ h3; refine rn F ?_))
  have hl2:(l++[(⟨a1,a2,a3⟩:Dt)]).length=l.length+1:=by simp
  have hx2:∀ c,CkV c->s=QaO c->l++[(⟨a1,a2,a3⟩:Dt)]=c.dl.take (l.length+1):=fun c q1 q2=>by
   obtain⟨_,_,q3⟩:=hA c q1 q2
   have q4:=hM c q1 q2
   have q5:=hx c q1 q2
   have hil2:l.length<c.dl.length:=by omega
   obtain⟨⟨g0,_⟩,_,_,_,gr⟩:=Qms q1
   obtain⟨g1,g2,g3⟩:=gr _ hil2
   rw[<- q2,<- (by omega:n=(Qa3 c.tx).length)] at g0 g1 g2 g3
   have z1:=h1.2.2.2.2 (by omega)
   have z2:=h2.2.2.2.2 (by omega)
   have z3:=h3.2.2.2.2 (by omega)
   dsimp only at z1 z2 z3
   rw[show a.toNat=11+n+17*l.length by omega,g1] at z1
   rw[show(a+1).toNat=12+n+17*l.length by omega,g2] at z2
   rw[show(a+9).toNat=20+n+17*l.length by omega,g3] at z3
   rw[Je hil2,z1,z2,z3,Qf _ _ hil2,<- q5]
  clear h1 h2 h3
  refine⟨⟨l.length+1,a+17,l++[⟨a1,a2,a3⟩],hl2,hil,by rw[ha]; omega,hx2⟩,by dsimp only; omega,?_⟩
  exact(gc [0,1,5])
 obtain rfl:m=l.length:=by omega
 have c9:=Qp0 txs htl
 have hq:smN 64 (QzW txs).1:=by
  unfold QzW
  split
  ·exact Q0 _
  split
  ·exact Q0 _
  split
  ·exact Q0 _
  ·rename_i h; exact Qgt (by simpa using h)
 have hD:∀ c,CkV c->s=QaO c->(QzW txs).1=c.tx:=fun c q1 q2=>by rw[hTX c q1 q2,QEZ q1.2.2.1]
 generalize QzW txs=D at *
 obtain⟨tx,et⟩:=D
 dsimp only at hq hD
 have hX:∀ c,CkV c->s=QaO c->s.drop a.toNat=QcK c.ix:=fun c q1 q2=>by
  obtain⟨_,_,q3⟩:=hA c q1 q2
  have q4:=hM c q1 q2
  obtain⟨_,_,_,g1,_⟩:=Qms q1
  rw[<- q2,<- (by omega:n=(Qa3 c.tx).length),<- (by omega:l.length=c.dl.length)] at g1
  rw[show a.toNat=11+n+17*l.length by omega]
  exact g1
 have ha2:0<=a/\a<=s.length:=by omega
 obtain⟨a,rfl⟩:∃ k:Nat,a=k:=⟨a.toNat,by omega⟩
 rw[Jn] at hX
 have hsl:(s.drop a).length<=100000000:=by rw[JB]; omega
 have hal:a<=s.length:=by omega
 have F:=(Ja @hb @hal)
 refine rn F ?_
 repeat' (first
  | with_reducible exact⟨⟩
  | (refine sB F ?_ ?_<;>intro hZ)
  | refine vp F (c9) ?_
  | (refine Qp (Qxu _ hsl) rfl ?_; rintro⟨ix,ei⟩ hi2; refine rn F ?_))
 all_goals first | exact⟨rfl,rfl,(Cp0,_),rfl,err _ (by assumption)⟩ | skip
 unfold ixQ at hi2
 dsimp only at hi2
 have c10:=QiP ⟨pg,nx,tx,l,ix⟩ ⟨hq.mono (by decide),by dsimp only; omega,hi2.1⟩
 have F:=@hb
 refine rn F ?_
 repeat' (first
  | with_reducible exact⟨⟩
  | (refine sB F ?_ ?_<;>intro hZ)
  | (refine QwD (c10) ?_ (fun _=>rfl) ?_; (focus (refine rd F)); rintro b -; refine rn F ?_))
 all_goals first
  | exact⟨rfl,rfl,(Cp0,_),rfl,err _ (by decide)⟩
  | skip
 refine⟨rfl,rfl,(⟨pg,nx,tx,l,ix⟩,0),rfl,hq,by dsimp only; omega,hi2.1,fun _=>⟨fun h=>by rw[h] at hns; simp at hns,fun c q1 q2=>?_⟩⟩
 obtain⟨q3,q4,_⟩:=hA c q1 q2
 have q5:=hx c q1 q2
 have q6:=hD c q1 q2
 have q7:=hi2.2 (by assumption) c.ix q1.2.2.2.2.1 (hX c q1 q2)
 have q8:=hM c q1 q2
 rw[Jl (by omega)] at q5
 dsimp only
 rw[q3,q4,q6,q7,q5]
def Qq3{c:Ce}(h:c.no=true):c.data.length<=12:=by
 unfold Ce.no at h
 simp only[Jd,beq_iff_eq] at h
 rw[h.2]; exact Jc _
def Qy4{c:Ce}(h:c.okB=true):c.data.length<=12:=by
 unfold Ce.okB at h
 simp only[Jd,decide_eq_true_eq] at h
 exact h.1
def QeZ{e:E}(h:e.okB=true):e.c.b.data.length<=12/\e.c.a.data.length<=12/\e.blob.length<=8192:=by
 unfold E.okB at h
 simp only[Jd] at h
 have h2:=h.2
 clear h
 unfold E.kindB at h2
 have nb:∀ {l:List UInt8},l==[]->l.length<=8192:=fun h=>by rw[beq_iff_eq] at h; rw[h]; exact Jc _
 split at h2
 ·simp only [Jd,Ch.okB] at h2
  exact⟨Qy4 h2.2.1.2,Qy4 h2.2.2,nb h2.1.2⟩
 split at h2
 ·simp only [Jd,Ch.okB] at h2
  exact⟨Qy4 h2.2.1.2,Qy4 h2.2.2,nb h2.1.1.1.2⟩
 split at h2
 ·simp only [Jd,Ch.no] at h2
  exact⟨Qq3 h2.2.1.2,Qq3 h2.2.2,nb h2.1.2⟩
 split at h2
 ·simp only [Jd,Ch.no,decide_eq_true_eq] at h2
  exact⟨Qq3 h2.2.1.2,Qq3 h2.2.2,h2.1.2⟩
 split at h2
 ·simp only [Jd,Ch.ix] at h2
  exact⟨Qq3 h2.2.1.1.1.2,Qq3 h2.2.1.1.2,nb h2.1.2⟩
 ·cases h2
def Qam(s:List UInt8)(c:Ce):List UInt8:=if c.set=true then Qm s c.data.length 1++c.data else Qm s 255 1
def QbR(s:List UInt8)(c:Ce):(Qam s c).length<=s.length+1+c.data.length:=by
 unfold Qam; split
 ·rw[Jb,Qe]; exact Jr _
 ·rw[Qe]; omega
def Qlr(s:List UInt8)(hs:s.length<=100000000)(c:Ce)(hc:c.data.length<=1000000):VCalls prog 226 [.pv (.str s),.agg c.d] [] (Ret (.pv (.str (Qam s c)))):=by
 refine dd Tryz.func226 ?_
 have c1:=QU s (by omega) 255 1 (by omega) (by omega)
 have c2:=QU s (by omega) c.data.length 1 (by omega) (by omega)
 have e:Qam s c=if c.set=true then Qm s c.data.length 1++c.data else Qm s 255 1:=rfl
 have hadd:=Qdh (a:=Qm s c.data.length 1) (b:=c.data) (by rw[Qe]; omega)
 generalize Qam s c=r at *
 (unfold Tryz.f226; refine rn trivial ?_)
 have F:=@hadd
 refine rn F ?_
 repeat' (first
  | with_reducible exact⟨⟩
  | (refine sB F ?_ ?_<;>intro hZ)
  | refine vp F (c1) ?_
  | refine vp F (c2) ?_
  | (refine Qd (id:=3) [0,1,2,3,5,6] [⟨[],[],4,[1,2,5,6],[7]⟩,⟨[],[],8,[],[]⟩] (by kernel_rfl) (by kernel_rfl) ?_; refine rn F ?_))
 all_goals first | (first | (rw[e]; simp(disch:=first | assumption | omega | exact rfl | exact nf (by assumption) | exact nt (by assumption) | decide | fail) only[if_pos,if_neg]; first | done | rfl) | (rw[e]; simp(disch:=first | assumption | omega | exact rfl | exact nf (by assumption) | exact nt (by assumption) | decide | (simp_all; done) | fail) only[if_pos,if_neg]; first | done | rfl)) | skip
def Qba(e:E):List UInt8:=Qm (Qm (Qm (Qm (Qm (Qm (Qm (Qm [] e.lsn 8) e.kind 1) e.tx 4) e.ptx 8) e.ppg 8) e.ref 8) e.c.pg 4) e.c.sl 1
def QdW(e:E):(Qba e).length=42:=by unfold Qba; simp only[Qe,JC]
def Qmm(e:E):List UInt8:=Qm (Qam (Qam (Qba e) e.c.b) e.c.a) e.blob.length 4++e.blob
def Qiq(e:E):List UInt8×Int:=if e.okB=true then (Qmm e,0) else ([],12)
def QBo(e:E):VCalls prog 195 [.agg e.d] [] (Ret (.tup [.pv (.str (Qiq e).1),.int .i64 (Qiq e).2])):=by
 refine dd Tryz.func195 ?_
 have c1:=QcS e
 unfold Qiq
 cases hv:e.okB
 ·rw [hv] at c1
  (unfold Tryz.f195; refine rn trivial ?_)
  refine rn F ?_
  repeat' (first
   | with_reducible exact⟨⟩
   | refine vp F (c1) ?_)
  all_goals rfl
 rw[hv] at c1
 obtain⟨l1,l2,l3⟩:=QeZ hv
 have n1:=QbR (Qba e) e.c.b
 have n2:=QbR (Qam (Qba e) e.c.b) e.c.a
 rw[QdW] at n1
 have p9:=Qlr (Qba e) (by rw[QdW]; omega) e.c.b (by omega)
 have p10:=Qlr (Qam (Qba e) e.c.b) (by omega) e.c.a (by omega)
 have p11:=QU (Qam (Qam (Qba e) e.c.b) e.c.a) (by omega) e.blob.length 4 (by omega) (by omega)
 have hadd:=Qdh (a:=Qm (Qam (Qam (Qba e) e.c.b) e.c.a) e.blob.length 4) (b:=e.blob) (by rw[Qe]; omega)
 have hh:Qba e=Qm (Qm (Qm (Qm (Qm (Qm (Qm (Qm [] e.lsn 8) e.kind 1) e.tx 4) e.ptx 8) e.ppg 8) e.ref 8) e.c.pg 4) e.c.sl 1:=rfl
 have q:=fun(s:List UInt8) (hs:s.length<=1000) (n:Int) (k:Nat) (h1:1<=k) (h8:k<=8)=>QU s (by omega) n k h1 h8
 (unfold Tryz.f195; refine rn trivial ?_)
 have F:=@hh.symm
 refine rn F ?_
 repeat' (first
  | with_reducible exact⟨⟩
  | refine vp F (c1) ?_
  | refine vp F (q _ (by simp[Qe]) _ 8 (by omega) (by omega)) ?_
  | refine vp F (q _ (by simp[Qe]) _ 1 (by omega) (by omega)) ?_
  | refine vp F (q _ (by simp[Qe]) _ 4 (by omega) (by omega)) ?_
  | (refine Qd (id:=11) [0,1,2,3,5,6,7] [⟨[],[],4,[1,2,5,6,7],[]⟩,⟨[],[],8,[0,1,2,3,5,6],[]⟩,⟨[],[],9,[],[]⟩] (by kernel_rfl) (by kernel_rfl) ?_; refine rn F ?_))
 have F:=@hadd
 refine rn F ?_
 repeat' (first
  | with_reducible exact⟨⟩
  | refine vp F (p9) ?_
  | refine vp F (p10) ?_
  | refine vp F (p11) ?_
  | (refine Qd (id:=12) [0,1,2,3,5,6] [⟨[],[],4,[1,2,5,6],[7]⟩,⟨[],[],8,[],[]⟩,⟨[],[],9,[],[]⟩] (by kernel_rfl) (by kernel_rfl) ?_; refine rn F ?_))
 all_goals rfl
def Qml(e:E):(Qiq e).1.length<=9000:=by
 unfold Qiq
 split
 ·rename_i hv
  obtain⟨l1,l2,l3⟩:=QeZ hv
  have n1:=QbR (Qba e) e.c.b
  have n2:=QbR (Qam (Qba e) e.c.b) e.c.a
  rw[QdW] at n1
  unfold Qmm
  dsimp only
  rw[Jb,Qe]
  omega
 ·exact Jc _
def Qti(e:E):VCalls prog 152 [.agg e.d] [] (Ret (.pv (.str (frm (Qiq e).1)))):=by
 refine dd Tryz.func152 ?_
 have c1:=QBo e
 have hl:=Qml e
 generalize Qiq e=r at *
 have c2:=Qow r.1 (by omega)
 (unfold Tryz.f152; refine rn trivial ?_)
 refine rn F ?_
 repeat' (first
  | with_reducible exact⟨⟩
  | refine vp F (c1) ?_
  | refine vp F (c2) ?_)
 all_goals rfl
def Qdr(n:Int):List UInt8:=frm (Qm [80,77,76,71] n 8)
def Qxx(n:Int):VCalls prog 151 [.int .i64 n] [] (Ret (.pv (.str (Qdr n)))):=by
 refine dd Tryz.func151 ?_
 have c1:=QU [80,77,76,71] (by simp) n 8 (by omega) (by omega)
 have c2:=Qow (Qm [80,77,76,71] n 8) (by rw[Qe]; simp)
 (unfold Tryz.f151; refine rn trivial ?_)
 refine rn F ?_
 repeat' (first
  | with_reducible exact⟨⟩
  | refine vp F (c1) ?_
  | refine vp F (c2) ?_)
 all_goals rfl
def frE(e:E):List UInt8:=frm (Qiq e).1
def Qu3(e:E):(frE e).length<=9008:=by
 have:=Qml e
 unfold frE frm
 split
 ·rw[Qe,Jb,Qe,JC]; omega
 ·exact Jc _
def Qrm(l:List E)(d:Int):List UInt8:=(l.filter fun e=>decide (e.lsn<=d)).flatMap frE
def Qtl(l:List E)(d:Int):List UInt8:=(l.filter fun e=>!decide (e.lsn<=d)).flatMap frE
def Qvn(l:List E)(d:Int)(i:Nat)(h:i<l.length):Qrm (l.take (i+1)) d=if (l.getD i E0).lsn<=d then Qrm (l.take i) d++frE (l.getD i E0) else Qrm (l.take i) d:=by
 unfold Qrm
 rw[Je h,JG,JP,Qf l i h]
 split<;>rename_i hx<;>simp[hx]
def Qtk(l:List E)(d:Int)(i:Nat)(h:i<l.length):Qtl (l.take (i+1)) d=if (l.getD i E0).lsn<=d then Qtl (l.take i) d else Qtl (l.take i) d++frE (l.getD i E0):=by
 unfold Qtl
 rw[Je h,JG,JP,Qf l i h]
 split<;>rename_i hx<;>simp[hx]
def QzO (l:List E):(l.flatMap frE).length<=9008 * l.length:=by
 induction l with
 | nil=>simp
 | cons a r ih =>
   have:=Qu3 a
   rw[Jv,Jb,Jo]; omega
def Qpa(l:List E)(d:Int):(Qrm l d).length<=9008*l.length:=
 Jj (QzO _) (J1 _ (JX _ _))
def Qoz(l:List E)(d:Int):(Qtl l d).length<=9008*l.length:=
 Jj (QzO _) (J1 _ (JX _ _))
def Ql9(n:Int):(Qdr n).length<=9008:=by
 unfold Qdr frm
 split
 ·rw[Qe,Jb,Qe,Qe,JC]; simp
 ·exact Jc _
def Qdz(x:Lg)(torn:Int):List UInt8:=if lgB x=true then Qdr x.f++Qrm x.es x.d++(Qtl x.es x.d).take torn.toNat else []
def QoA(x:Lg)(hx:x.es.length<=9223372036854775807)(torn:Int):VCalls prog 109 [.agg x.c,.int .i64 torn] [] (Ret (.pv (.str (Qdz x torn)))):=by
 refine dd Tryz.func109 ?_
 have c1:=Qaz x hx
 have c2:=Qxx x.f
 have hh:=Ql9 x.f
 unfold Qdz
 (unfold Tryz.f109; refine rn trivial ?_)
 cases hv:lgB x
 ·rw [hv] at c1
  refine rn F ?_
  repeat' (first
   | with_reducible exact⟨⟩
   | refine vp F (c1) ?_)
  all_goals rfl
 rw[hv] at c1
 have hd:=Qat hv
 simp only[Lg.hd] at hd
 refine rn F ?_
 repeat' (first
  | with_reducible exact⟨⟩
  | refine vp F (c1) ?_
  | refine vp F (c2) ?_)
 generalize Qdr x.f=H at *
 refine Qj (fun s:To x.es.length=>⟨55,0,[(7,.int .i64 s.i),(6,.pv (.str (Qtl (x.es.take s.i) x.d))),(5,.pv (.str (H++Qrm (x.es.take s.i) x.d))),(2,.ptr 0 0),(1,.int .i64 torn)],[⟨28,true,x.c⟩]⟩) (fun s=>x.es.length-s.i) ⟨0,Jc _⟩ (by simp only[JE]; rw[show Qrm [] x.d=[] from rfl,show Qtl [] x.d=[] from rfl,Js]; exact(gc [0])) ?_
 rintro⟨i,hi⟩
 dsimp only
 have hg:=fun h:i<x.es.length=>Qqs x.es i h
 have c3:=Qti (x.es.getD i E0)
 have hf:=Qu3 (x.es.getD i E0)
 have hs1:=Qvn x.es x.d i
 have hs2:=Qtk x.es x.d i
 have l1:=Qpa (x.es.take i) x.d
 have l2:=Qoz (x.es.take i) x.d
 rw[Jm] at l1 l2
 have hfr:frm (Qiq (x.es.getD i E0)).1=frE (x.es.getD i E0):=rfl
 rw[hfr] at c3
 have a1:=Qdh (a:=H++Qrm (x.es.take i) x.d) (b:=frE (x.es.getD i E0)) (by rw[Jb]; omega)
 have a2:=Qdh (a:=Qtl (x.es.take i) x.d) (b:=frE (x.es.getD i E0)) (by omega)
 have hH:(H++Qrm (x.es.take i) x.d).length=H.length+(Qrm (x.es.take i) x.d).length:=Jb
 have F:=(Ja @hg (Ja @a1 @a2))
 refine rn F ?_
 repeat' (first
  | with_reducible exact⟨⟩
  | (refine sB F ?_ ?_<;>intro hZ)
  | refine vp F (c3) ?_
  | (refine Qd (id:=7) [0,1,2,3,4,5,6,7,8] [] (by kernel_rfl) (by kernel_rfl) ?_; refine rn F ?_))
 ·have d1:=hs1 (by omega)
  have d2:=hs2 (by omega)
  rw[if_pos (by first | assumption | omega)] at d1 d2
  refine⟨⟨i+1,by omega⟩,by dsimp only; omega,?_⟩
  dsimp only
  rw[d1,d2,<- Jg]
  exact(gc [0])
 ·have d1:=hs1 (by omega)
  have d2:=hs2 (by omega)
  rw[if_neg (by first | assumption | omega)] at d1 d2
  refine⟨⟨i+1,by omega⟩,by dsimp only; omega,?_⟩
  dsimp only
  rw[d1,d2]
  exact(gc [0])
 ·rw [Jl (show x.es.length<=i by omega)]
  congr 3
  generalize Qtl x.es x.d=R
  by_cases h0:0 > torn
  ·rw [if_pos h0]
   rw[if_neg (by omega),show torn.toNat=(0:Int).toNat by omega]
  ·rw [if_neg h0]
   by_cases h1:(R.length:Int)<torn
   ·rw[if_pos h1,Jn,J7,Jl (by omega)]
   ·rw[if_neg h1]
@[go_sem] def ltD(a:Cp×Int×Bool):DV:=.tup [.agg a.1.d,.int .i64 a.2.1,.bool a.2.2]
def QEC(h:lgB x=true):∀ i,i<x.es.length->(x.es.getD i E0).blob.length<=8192:=by
 unfold lgB at h
 simp only[Jd,Jw,JD] at h
 intro i hi
 have:=h.2 i hi
 simp only[lgC,Jd] at this
 exact(QeZ this.2).2.2
def cpQ(c:Cp):Prop:=smN 64 c.tx/\c.dl.length<=256/\c.ix.length<=64
def QFt:cpQ Cp0:=⟨Q0 _,Jc _,Jc _⟩
def QHB(x:Lg)(a:Cp×Int×Bool):Prop:=cpQ a.1/\(a.2.2=true->∃ i,i<x.es.length/\(x.es.getD i E0).kind=6/\a.2.1=(x.es.getD i E0).lsn/\(x.es.getD i E0).blob≠[]/\∀ c,CkV c->(x.es.getD i E0).blob=QaO c->a.1=c)
def Qtd(x:Lg)(hx:x.es.length<=1000000):VCalls prog 230 [.agg x.c] [] (QI ltD (QHB x)):=by
 refine dk Tryz.func230 ?_
 have c1:=Qaz x (by omega)
 (unfold Tryz.f230; refine rn trivial ?_)
 cases hv:lgB x
 ·rw [hv] at c1
  refine rn F ?_
  repeat' (first
   | with_reducible exact⟨⟩
   | refine vp F (c1) ?_)
  exact⟨rfl,rfl,(Cp0,0,false),rfl,QFt,fun h=>by simp at h⟩
 rw[hv] at c1
 have hs:=QEC hv
 refine rn F ?_
 repeat' (first
  | with_reducible exact⟨⟩
  | refine vp F (c1) ?_)
 refine Qj (fun r:{r:To x.es.length×Int // r.2=(r.1.i:Int)-1}=>⟨47,0,[(5,.int .i64 r.1.2),(2,.ptr 1 0),(1,.ptr 0 0)],[⟨28,true,x.c⟩,⟨193,true,Zc⟩]⟩) (fun r=>r.1.1.i) ⟨(⟨x.es.length,Jr _⟩,(x.es.length:Int)-1),rfl⟩ (gc [0,1]) ?_
 rintro⟨⟨⟨k,hk⟩,j⟩,hj⟩
 dsimp only at hj |-
 unfold Zc
 by_cases h0:k=0
 ·subst h0
  have hj2:¬ j >= 0:=by omega
  have F:=@hj2
  refine rn F ?_
  exact⟨rfl,rfl,(Cp0,0,false),rfl,QFt,fun h=>by simp at h⟩
 obtain⟨i,rfl⟩:∃ i,k=i+1:=⟨k-1,by omega⟩
 obtain rfl:j=(i:Int):=by omega
 have hg:=Qqs x.es i (by omega)
 have hb:=hs i (by omega)
 have c2:=QxF (x.es.getD i E0).blob (by omega)
 have F:=@hg
 refine rn F ?_
 repeat' (first
  | with_reducible exact⟨⟩
  | (refine sB F ?_ ?_<;>intro hZ)
  | (refine Qp (c2) rfl ?_; rintro⟨c,e⟩ hc; refine rn F ?_)
  | (refine Qd (id:=9) [0,1,2,3,4,5,6] [⟨[],[],7,[1,2,3,4,5,6],[]⟩,⟨[],[],8,[],[]⟩,⟨[],[],9,[],[]⟩] (by kernel_rfl) (by kernel_rfl) ?_; refine rn F ?_))
 all_goals first
  | exact⟨⟨(⟨i,by omega⟩,(i:Int)-1),rfl⟩,by dsimp only; omega,(gc [0,1])⟩
  | exact⟨rfl,rfl,(c,_,true),rfl,⟨hc.1,hc.2.1,hc.2.2.1⟩,fun _=>⟨i,by omega,by first | assumption | omega,rfl,hc.2.2.2 (by first | assumption | (dsimp only; omega))⟩⟩
  | skip
def DyA(l:List Dt)(e:E)(ch:Bool)(y:Dt):Prop:=(y∈l/\y.pg≠e.c.pg)\/(y.pg=e.c.pg/\ch=true/\y.last=e.lsn)\/(y.pg=e.c.pg/\ch=false/\∃ z∈l,z.pg=e.c.pg/\z.last=y.last/\e.ref<z.last)
structure DyP(l:List Dt)(e:E)(ch:Bool)(i:Nat)(d:Bool)(out:List Dt):Prop where
 ha:∀ y∈out,DyA l e ch y
 hb:∀ y∈l.take i,y.pg≠e.c.pg->y∈out
 hc:d=true->ch=true->∃ y∈out,y.pg=e.c.pg
def DyP.ap(h:DyP l e ch i d out)(hi:i<l.length)(d':Bool)(ys:List Dt)(hA:∀ y∈ys,DyA l e ch y)(hx:(l.getD i Dt0).pg≠e.c.pg->l.getD i Dt0∈ys)(hd:d'=true->ch=true->d=true\/∃ y∈ys,y.pg=e.c.pg):DyP l e ch (i+1) d' (out++ys):=by
 refine⟨fun y hy=>?_,fun y hy hn=>?_,fun a b=>?_⟩
 ·rcases Jk.1 hy with hy | hy
  ·exact h.ha y hy
  ·exact hA y hy
 ·rw [Je hi] at hy
  rcases Jk.1 hy with hy | hy
  ·exact Ju _ (h.hb y hy hn)
  ·rw [Jf.1 hy] at hn |-
   rw[Qf _ _ hi] at hx
   exact JK _ (hx hn)
 ·rcases hd a b with q | ⟨y,q1,q2⟩
  ·obtain ⟨y,q1,q2⟩:=h.hc q b
   exact⟨y,Ju _ q1,q2⟩
  ·exact⟨y,JK _ q1,q2⟩
def DyP.p0(h:DyP l e ch i d out)(hi:i<l.length)(d':Bool)(hx:(l.getD i Dt0).pg=e.c.pg)(hc:ch=false):DyP l e ch (i+1) d' out:=by
 have:=h.ap hi d' [] (fun y hy=>by simp at hy) (fun q=>absurd hx q) (fun _ b=>by rw[hc] at b; cases b)
 rwa [Js] at this
def DyP.p1(h:DyP l e ch i d out)(hi:i<l.length)(d':Bool)(y:Dt)(hA:DyA l e ch y)(hx:(l.getD i Dt0).pg≠e.c.pg->l.getD i Dt0=y)(hd:d'=true->ch=true->d=true\/y.pg=e.c.pg):DyP l e ch (i+1) d' (out++[y]):=
 h.ap hi d' [y] (fun z hz=>by rw[Jf.1 hz]; exact hA) (fun q=>by rw[hx q]; simp) fun a b=>(hd a b).imp id fun q=>⟨y,by simp,q⟩
def DyP.p2(h:DyP l e ch i d out)(hi:i<l.length)(y z:Dt)(hA:DyA l e ch y)(hB:DyA l e ch z)(hx:(l.getD i Dt0).pg≠e.c.pg->l.getD i Dt0=z)(hy:y.pg=e.c.pg):DyP l e ch (i+1) true (out++[y]++[z]):=by
 rw[Jg]
 exact h.ap hi true ([y]++[z]) (fun w hw=>by
  rcases Jk.1 hw with hw | hw<;>rw[Jf.1 hw]<;>assumption) (fun q=>by rw[hx q]; simp) fun _ _=>.inr ⟨y,by simp,hy⟩
def QFr(l:List Dt)(e:E)(m:List Dt):Prop:=(¬ (e.kind=1\/e.kind=2)->e.kind≠7->m=l)/\((e.kind=1\/e.kind=2)\/e.kind=7->DyP l e (e.kind==1||e.kind==2) l.length true m)
structure DyS(l:List Dt)(e:E)(ch:Bool) where
 i:Nat
 d:Bool
 out:List Dt
 hi:i<=l.length
 ho:out.length<=i+d.toNat
 hP:DyP l e ch i d out
@[go_sem] def dtL(l:List Dt):DV:=.pv (.sl (fz Qc6 l))
def QxC (l:List Dt) (hl:l.length<=1000000) (e:E):VCalls prog 231 [.pv (.sl (fz Qc6 l)),.agg e.d] [] (QI dtL fun m=>m.length<=l.length + 1/\QFr l e m):=by
 refine dk Tryz.func231 ?_
 have c1:=Qcy e
 have hch:(e.kind==1||e.kind==2)=true ↔ e.kind=1\/e.kind=2:=by simp
 unfold QFr
 generalize (e.kind==1||e.kind==2)=ch at *
 cases ch
 ·have hnc:¬ (e.kind = 1\/e.kind = 2):=fun h=>by have:=hch.2 h; cases this
  (unfold Tryz.f231; refine rn trivial ?_)
  refine rn F ?_
  repeat' (first
   | with_reducible exact⟨⟩
   | (refine sB F ?_ ?_<;>intro hZ)
   | refine vp F (c1) ?_)
  all_goals first
   | (refine ⟨rfl,rfl,l,rfl,Kf _,fun _ _=>rfl,fun h=>?_⟩
      rcases h with h | h
      ·exact absurd h hnc
      ·exact absurd h (by assumption))
   | skip
  have h7:e.kind=7:=by assumption
  refine VLoop.nilOwn 5 171 3 rfl ?_
  refine Qj (fun s:DyS l e false=>⟨100,0,[(7,.int .i64 s.i),(6,.bool s.d),(5,.own 1 3 0 s.out.length),(3,.ptr 0 0),(0,.pv (.sl (fz Qc6 l)))],[⟨57,true,e.d⟩,⟨171,true,cells Qc6 s.out⟩]⟩) (fun s=>l.length-s.i) ⟨0,false,[],Jc _,Jc _,⟨fun y h=>by simp at h,fun y h=>by simp at h,fun h=>by cases h⟩⟩ (gc [0,1]) ?_
  rintro⟨i,d,out,hi,ho,hP⟩
  dsimp only
  have ho3:out.length<=i+1:=Jj ho (Nat.add_le_add_left (J3 d) i)
  by_cases hil:i<l.length
  rotate_left
  ·have hPl:i = l.length:=by omega
   subst hPl
   have hfin:DyP l e false l.length true out:=⟨hP.ha,hP.hb,fun _ h=>by cases h⟩
   have F:=@hil
   refine rn F ?_
   repeat' (first
    | with_reducible exact⟨⟩
    | (refine sG F ?_ ?_<;>intro hZ)
    | refine vp F (c1) ?_)
   all_goals first
    | exact⟨rfl,rfl,out,rfl,by omega,fun _ h=>absurd h7 h,fun _=>hfin⟩
    | skip
  have hg:=Qfa l i hil
  have hxl:l.getD i Dt0∈l:=by rw[Qf _ _ hil]; exact Jq hil
  have hp0:=fun d' hx=>hP.p0 hil d' hx rfl
  have hp1:=fun d' y hA hx=>hP.p1 hil d' y hA hx fun _ h=>by cases h
  unfold DyA at hp1
  generalize l.getD i Dt0=x at *
  have hb1:(out.length+1)*24<=140737488355328:=Jj (Jy 24 (show out.length+1<=1000002 by omega)) (by decide)
  have hb2:(out.length+1+1)*24<=140737488355328:=Jj (Jy 24 (show out.length+1+1<=1000003 by omega)) (by decide)
  have ho4:∀ d':Bool,d.toNat<=d'.toNat->out.length<=i+1+d'.toNat:=fun d' h=>by omega
  have ho5:∀ d':Bool,d.toNat<=d'.toNat->∀ y:Dt,(out++[y]).length<=i+1+d'.toNat:=fun d' h y=>by rw[Jb,Jt]; omega
  have hdt:d.toNat<=1:=J3 d
  by_cases hs:x.pg=e.c.pg
  ·by_cases hr:e.ref >= x.last
   ·skip
    have F:=(Ja @hil (Ja @hg (Ja @hb1 (Ja @hb2 (Ja @hs @hr)))))
    refine rn F ?_
    repeat' (first
     | with_reducible exact⟨⟩
     | refine vp F (c1) ?_)
    all_goals exact⟨⟨i+1,true,out,by omega,ho4 true hdt,hp0 true hs⟩,by dsimp only; omega,(gc [0,1])⟩
   ·have hlt:e.ref < x.last:=by omega
    have F:=(Ja @hil (Ja @hg (Ja @hb1 (Ja @hb2 (Ja @hs @hr)))))
    refine rn F ?_
    repeat' (first
     | with_reducible exact⟨⟩
     | (refine sB F ?_ ?_<;>intro hZ)
     | refine vp F (c1) ?_)
    all_goals first
     | (refine⟨⟨i+1,true,out++[⟨e.c.pg,IntKind.i64.wrap (e.ref+1),x.last⟩],by omega,ho5 true hdt _,hp1 true _ (.inr (.inr ⟨rfl,rfl,x,hxl,hs,rfl,hlt⟩)) (fun h=>absurd hs h)⟩,by dsimp only; omega,?_⟩; dsimp only; rw[Jb]; exact(gc [0,4]))
     | (refine⟨⟨i+1,true,out++[⟨x.pg,IntKind.i64.wrap (e.ref+1),x.last⟩],by omega,ho5 true hdt _,hp1 true _ (.inr (.inr ⟨hs,rfl,x,hxl,hs,rfl,hlt⟩)) (fun h=>absurd hs h)⟩,by dsimp only; omega,?_⟩; dsimp only; rw[Jb]; exact(gc [0,4]))
     | (refine⟨⟨i+1,true,out++[⟨e.c.pg,x.rc,x.last⟩],by omega,ho5 true hdt _,hp1 true _ (.inr (.inr ⟨rfl,rfl,x,hxl,hs,rfl,hlt⟩)) (fun h=>absurd hs h)⟩,by dsimp only; omega,?_⟩; dsimp only; rw[Jb]; exact(gc [0,4]))
     | (refine⟨⟨i+1,true,out++[⟨x.pg,x.rc,x.last⟩],by omega,ho5 true hdt _,hp1 true _ (.inr (.inr ⟨hs,rfl,x,hxl,hs,rfl,hlt⟩)) (fun h=>absurd hs h)⟩,by dsimp only; omega,?_⟩; dsimp only; rw[Jb]; exact(gc [0,4]))
     | skip
  ·cases d
   ·skip
    have F:=(Ja @hil (Ja @hg (Ja @hb1 (Ja @hb2 @hs))))
    refine rn F ?_
    repeat' (first
     | with_reducible exact⟨⟩
     | (refine sG F ?_ ?_<;>intro hZ)
     | refine vp F (c1) ?_)
    all_goals
     refine⟨⟨i+1,false,out++[⟨x.pg,x.rc,x.last⟩],by omega,ho5 false (Jr _) _,hp1 false _ (.inl ⟨hxl,hs⟩) (fun _=>rfl)⟩,by dsimp only; omega,?_⟩
     dsimp only
     rw[Jb]
     exact(gc [0,4])
   ·skip
    have F:=(Ja @hil (Ja @hg (Ja @hb1 (Ja @hb2 @hs))))
    refine rn F ?_
    repeat' (first
     | with_reducible exact⟨⟩
     | (refine sG F ?_ ?_<;>intro hZ))
    all_goals
     refine⟨⟨i+1,true,out++[⟨x.pg,x.rc,x.last⟩],by omega,ho5 true (Jr _) _,hp1 true _ (.inl ⟨hxl,hs⟩) (fun _=>rfl)⟩,by dsimp only; omega,?_⟩
     dsimp only
     rw[Jb]
     exact(gc [0,4])
 have hc:e.kind=1\/e.kind=2:=hch.1 rfl
 (unfold Tryz.f231; refine rn trivial ?_)
 have F:=trivial
 refine rn F ?_
 repeat' (first
  | with_reducible exact⟨⟩
  | refine vp F (c1) ?_)
 refine VLoop.nilOwn 5 171 3 rfl ?_
 refine Qj (fun s:DyS l e true=>⟨100,0,[(7,.int .i64 s.i),(6,.bool s.d),(5,.own 1 3 0 s.out.length),(3,.ptr 0 0),(0,.pv (.sl (fz Qc6 l)))],[⟨57,true,e.d⟩,⟨171,true,cells Qc6 s.out⟩]⟩) (fun s=>l.length-s.i) ⟨0,false,[],Jc _,Jc _,⟨fun y h=>by simp at h,fun y h=>by simp at h,fun h=>by cases h⟩⟩ (gc [0,1]) ?_
 rintro⟨i,d,out,hi,ho,hP⟩
 dsimp only
 have hdt:d.toNat<=1:=J3 d
 have ho3:out.length<=i+1:=by omega
 have hb1:(out.length+1)*24<=140737488355328:=Jj (Jy 24 (show out.length+1<=1000002 by omega)) (by decide)
 have hb2:(out.length+1+1)*24<=140737488355328:=Jj (Jy 24 (show out.length+1+1<=1000003 by omega)) (by decide)
 by_cases hil:i<l.length
 rotate_left
 ·have hPl:i = l.length:=by omega
  subst hPl
  cases d
  ·have hfin:DyP l e true l.length true (out ++ [⟨e.c.pg,e.lsn,e.lsn⟩]):=⟨fun y hy=>by
    rcases Jk.1 hy with hy | hy
    ·exact hP.ha y hy
    ·rw[Jf.1 hy]; exact .inr (.inl ⟨rfl,rfl,rfl⟩),fun y hy hn=>Ju _ (hP.hb y hy hn),fun _ _=>⟨⟨e.c.pg,e.lsn,e.lsn⟩,by simp,rfl⟩⟩
   rw[J8] at ho
   have F:=(Ja @hil @hb1)
   refine rn F ?_
   repeat' (first
    | with_reducible exact⟨⟩
    | refine vp F (c1) ?_)
   exact⟨rfl,rfl,_,rfl,by rw[Jb,Jt]; omega,fun h=>absurd hc h,fun _=>hfin⟩
  ·skip
   have F:=(Ja @hil @hb1)
   refine rn F ?_
   exact⟨rfl,rfl,out,rfl,by omega,fun h=>absurd hc h,fun _=>hP⟩
 have hg:=Qfa l i hil
 have hxl:l.getD i Dt0∈l:=by rw[Qf _ _ hil]; exact Jq hil
 have hp1:=fun d' y hA hx hd=>hP.p1 hil d' y hA hx hd
 have hp2:=fun y z hA hB hx hy=>hP.p2 hil y z hA hB hx hy
 unfold DyA at hp1 hp2
 generalize l.getD i Dt0=x at *
 by_cases hs:x.pg=e.c.pg
 ·have hng:¬ x.pg > e.c.pg:=by omega
  have F:=(Ja @hil (Ja @hg (Ja @hb1 (Ja @hb2 (Ja @hs @hng)))))
  refine rn F ?_
  repeat' (first
   | with_reducible exact⟨⟩
   | refine vp F (c1) ?_)
  all_goals first
   | (refine⟨⟨i+1,true,out++[⟨e.c.pg,x.rc,e.lsn⟩],by omega,by simp; omega,hp1 true _ (.inr (.inl ⟨rfl,rfl,rfl⟩)) (fun h=>absurd hs h) (fun _ _=>.inr rfl)⟩,by dsimp only; omega,?_⟩; dsimp only; rw[Jb]; exact(gc [0,4]))
   | (refine⟨⟨i+1,true,out++[⟨x.pg,x.rc,e.lsn⟩],by omega,by simp; omega,hp1 true _ (.inr (.inl ⟨hs,rfl,rfl⟩)) (fun h=>absurd hs h) (fun _ _=>.inr hs)⟩,by dsimp only; omega,?_⟩; dsimp only; rw[Jb]; exact(gc [0,4]))
   | (exfalso; omega)
   | skip
 ·cases d
  ·by_cases hgt:x.pg > e.c.pg
   ·rw [J8] at ho
    have F:=(Ja @hil (Ja @hg (Ja @hb1 (Ja @hb2 (Ja @hs @hgt)))))
    refine rn F ?_
    repeat' (first
     | with_reducible exact⟨⟩
     | refine vp F (c1) ?_)
    refine⟨⟨i+1,true,out++[⟨e.c.pg,e.lsn,e.lsn⟩]++[⟨x.pg,x.rc,x.last⟩],by omega,by simp; omega,hp2 _ _ (.inr (.inl ⟨rfl,rfl,rfl⟩)) (.inl ⟨hxl,hs⟩) (fun _=>rfl) rfl⟩,by dsimp only; omega,?_⟩
    dsimp only; rw[Jb,Jb]; exact(gc [0,6])
   ·skip
    have F:=(Ja @hil (Ja @hg (Ja @hb1 (Ja @hb2 (Ja @hs @hgt)))))
    refine rn F ?_
    refine⟨⟨i+1,false,out++[⟨x.pg,x.rc,x.last⟩],by omega,by rw[Jb,Jt]; omega,hp1 false _ (.inl ⟨hxl,hs⟩) (fun _=>rfl) (fun h=>by cases h)⟩,by dsimp only; omega,?_⟩
    dsimp only; rw[Jb]; exact(gc [0,4])
  ·skip
   have F:=(Ja @hil (Ja @hg (Ja @hb1 (Ja @hb2 @hs))))
   refine rn F ?_
   repeat' (first
    | with_reducible exact⟨⟩
    | (refine sG F ?_ ?_<;>intro hZ))
   all_goals
    refine⟨⟨i+1,true,out++[⟨x.pg,x.rc,x.last⟩],by omega,by rw[Jb,Jt]; omega,hp1 true _ (.inl ⟨hxl,hs⟩) (fun _=>rfl) (fun _ _=>.inl rfl)⟩,by dsimp only; omega,?_⟩
    dsimp only
    rw[Jb]
    exact(gc [0,4])
def Qtc(a b:Gr):VCalls prog 236 [.agg a.d,.agg b.d] [] (QI boD fun _=>True):=by
 refine dd Tryz.func236 ?_
 (unfold Tryz.f236; refine rn trivial ?_)
 refine rn F ?_
 repeat' (first
  | with_reducible exact⟨⟩
  | (refine sB F ?_ ?_<;>intro hZ))
 all_goals exact⟨rfl,rfl,_,rfl,trivial⟩
@[go_sem] def grL(l:List Gr):DV:=.pv (.sl (fz Qav l))
def QsO(l:List Gr)(hl:l.length<=10000000)(g:Gr):VCalls prog 232 [.pv (.sl (fz Qav l)),.agg g.d] [] (QI grL fun m=>m.length<=l.length+1):=by
 refine dk Tryz.func232 ?_
 have c1:=fun a=>Qtc a g
 (unfold Tryz.f232; refine rn trivial ?_)
 refine Qj (fun s:To l.length=>⟨44,0,[(5,.int .i64 s.i),(3,.ptr 0 0),(0,.pv (.sl (fz Qav l)))],[⟨205,true,g.d⟩]⟩) (fun s=>l.length-s.i) ⟨0,Jc _⟩ (gc [0]) ?_
 rintro⟨i,hi⟩
 dsimp only
 have hg:=fun h:i<l.length=>QaI l i h
 by_cases hil:i<l.length
 ·have hg:=QaI l i hil
  have c2:=Qtc (l.getD i Gr0) g
  generalize l.getD i Gr0=x at *
  have he:=Qv0 x.tx x.pg x.sl x.md g.tx g.pg g.sl g.md
  have hb:(i+1+(l.length-i))*32<=140737488355328:=by omega
  have F:=(Ja @hg (Ja @he @hb))
  refine rn F ?_
  repeat' (first
   | with_reducible exact⟨⟩
   | (refine sB F ?_ ?_<;>intro hZ)
   | (refine Qp (c2) rfl ?_; rintro b -; refine rn F ?_)
   | (refine Qd (id:=2) [0,1,2,3,4,5,6,7,8,9] [⟨[],[],10,[0,1,2,3,5,6,7],[11]⟩] (by kernel_rfl) (by kernel_rfl) ?_; refine rn F ?_)
   | (refine Qd (id:=4) [0,1,2,3,4,5,6,7,8,9,10,11] [] (by kernel_rfl) (by kernel_rfl) ?_; refine rn F ?_)
   | (refine Qd (id:=6) [0,1,2,4,7,8,9] [⟨[5],[],3,[0,1,4,7,8,9],[]⟩,⟨[5],[5],6,[0,1,2,4,7,8,9],[]⟩,⟨[],[],10,[0,1,2,4,7,8],[]⟩,⟨[],[],11,[],[]⟩] (by kernel_rfl) (by kernel_rfl) ?_; refine rn F ?_))
  all_goals first
   | exact⟨⟨i+1,by omega⟩,by dsimp only; omega,(gc [0])⟩
   | exact⟨rfl,rfl,l,rfl,Kf _⟩
   | exact⟨rfl,rfl,_,rfl,by simp; omega⟩
   | skip
 ·skip
  have F:=trivial
  refine rn F ?_
  repeat' (first
   | with_reducible exact⟨⟩
   | (refine Qd (id:=2) [0,1,2,3,4,5,6,7,8,9] [⟨[],[],10,[0,1,2,3,5,6,7],[11]⟩] (by kernel_rfl) (by kernel_rfl) ?_; refine rn F ?_)
   | (refine Qd (id:=4) [0,1,2,3,4,5,6,7,8,9,10,11] [] (by kernel_rfl) (by kernel_rfl) ?_; refine rn F ?_)
   | (refine Qd (id:=6) [0,1,2,4,7,8,9] [⟨[5],[],3,[0,1,4,7,8,9],[]⟩,⟨[5],[5],6,[0,1,2,4,7,8,9],[]⟩,⟨[],[],10,[0,1,2,4,7,8],[]⟩,⟨[],[],11,[],[]⟩] (by kernel_rfl) (by kernel_rfl) ?_; refine rn F ?_))
  exact⟨rfl,rfl,_,rfl,by simp; omega⟩
@[go_sem] def lkR(a:List Gr×Int):DV:=.tup [.pv (.sl (fz Qav a.1)),.int .i64 a.2]
structure LkO(n:Nat) where
 i:Nat
 out:List Gr
 hi:i<=n
 ho:out.length<=100000*i
structure LkI(n i:Nat) where
 k:Nat
 out:List Gr
 hk:k<=n
 ho:out.length<=100000*i+k
def Qxn(x:Lg)(hx:x.es.length<=1000000)(l:List Tx)(hl:smN 65 l):VCalls prog 201 [.agg x.c,.pv (.sl (fz Qal l))] [] (QI lkR fun a=>a.1.length<=6500000):=by
 refine dk Tryz.func201 ?_
 have h65:=hl.1
 (unfold Tryz.f201; refine rn trivial ?_)
 refine VLoop.wkS ?_
 refine rn trivial ?_
 refine Qj (fun s:LkO l.length=>⟨68,0,[(7,.int .i64 s.i),(6,.pv (.sl (fz Qav s.out))),(2,.ptr 0 0),(1,.pv (.sl (fz Qal l)))],[⟨28,true,x.c⟩]⟩) (fun s=>l.length-s.i) ⟨0,[],Jc _,Jc _⟩ (gc [0]) ?_
 rintro⟨i,out,hi,ho⟩
 dsimp only
 by_cases hil:i<l.length
 rotate_left
 ·skip
  refine rn F ?_
  exact⟨rfl,rfl,(out,0),rfl,by dsimp only; omega⟩
 have hg:=Qep l i hil
 have hss:(l.getD i Tx0).l.length<=100000:=by rw[Qf _ _ hil]; exact(hl.2 _ (Jq hil)).1
 generalize l.getD i Tx0=t at *
 refine rn F ?_
 refine Qj (fun s:LkI t.l.length i=>⟨68,0,[(8,.int .i64 s.k),(7,.int .i64 i),(6,.pv (.sl (fz Qav s.out))),(2,.ptr 0 0),(1,.pv (.sl (fz Qal l)))],[⟨28,true,x.c⟩]⟩) (fun s=>t.l.length-s.k) ⟨0,out,Jc _,ho⟩ (gc [0]) ?_
 rintro⟨k,out2,hk,ho2⟩
 dsimp only
 by_cases hkl:k<t.l.length
 rotate_left
 ·skip
  have F:=@hg
  refine rn F ?_
  exact⟨⟨i+1,out2,hil,by rw[Nat.mul_succ]; omega⟩,by dsimp only; omega,(gc [0])⟩
 have hg2:=Q7 t.l k hkl
 have c1:=QiN x (by omega) (t.l.getD k 0)
 generalize QbD x (t.l.getD k 0)=r at *
 obtain⟨e,f⟩:=r
 dsimp only at c1
 have c2:=QsO out2 (by omega) ⟨e.tx,e.c.pg,e.c.sl,2⟩
 have F:=(Ja @hg @hg2)
 refine rn F ?_
 repeat' (first
  | with_reducible exact⟨⟩
  | (refine sG F ?_ ?_<;>intro hZ)
  | (refine sB F ?_ ?_<;>intro hZ)
  | refine vp F (c1) ?_
  | (refine Qp (c2) rfl ?_; rintro m hm; refine rn F ?_)
  | (refine Qd (id:=8) [0,1,2,3,4,5,6,7,8] [⟨[13],[],9,[1,2,3,4,5,6,7],[10,11,12]⟩,⟨[13],[13],14,[12],[]⟩,⟨[],[],15,[],[]⟩] (by kernel_rfl) (by kernel_rfl) ?_; refine rn F ?_)
  | (refine Qd (id:=11) [0,1,2,3,4,5,6,7,8,9,10,11,12] [] (by kernel_rfl) (by kernel_rfl) ?_; refine rn F ?_))
 all_goals first
  | exact⟨rfl,rfl,([],_),rfl,Jc _⟩
  | exact⟨⟨k+1,m,hkl,by omega⟩,by dsimp only; omega,(gc [0])⟩
  | skip
structure An where
 pg:Int
 nx:Int
 cp:Int
 lo:List Tx
 lk:List Gr
 la:List Dt
 ix:List Rw
@[go_sem] def An.d(a:An):List DV:=[.int .i64 a.pg,.int .i64 a.nx,.int .i64 a.cp,.pv (.sl (fz Qal a.lo)),.pv (.sl (fz Qav a.lk)),.pv (.sl (fz Qc6 a.la)),.pv (.sl (fz Qcr a.ix))]
def An0:An:=⟨0,0,0,[],[],[],[]⟩
def An.sm(a:An)(n:Nat):Prop:=smN 65 a.lo/\a.lk.length<=6500000/\a.la.length<=n/\a.ix.length<=64
def Qv8(n:Nat):An0.sm n:=⟨Q0 _,Jc _,Jc _,Jc _⟩
@[go_sem] def anD(a:An×Int):DV:=.tup [.agg a.1.d,.int .i64 a.2]
def Qdl(h:(QV l e).2=0):QbG l=true/\e.okB=true:=by
 unfold QV at h
 split at h
 ·simp at h
 rename_i q1
 split at h
 ·simp at h
 rename_i q2
 exact⟨by simpa using q1,by simpa using q2⟩
def Qt4{e:E}(h:e.okB=true):0<=e.tx/\e.tx<=1073741824:=by
 unfold E.okB at h
 rw[Jd] at h
 have h2:=h.2
 unfold E.kindB txB at h2
 split at h2
 ·simp only[Jd,decide_eq_true_eq] at h2; omega
 split at h2
 ·simp only[Jd,decide_eq_true_eq] at h2; omega
 split at h2
 ·simp only[Jd,decide_eq_true_eq] at h2; omega
 split at h2
 ·simp only[Jd,beq_iff_eq] at h2; omega
 split at h2
 ·simp only[Jd,beq_iff_eq] at h2; omega
 ·cases h2
def QzE(h:(QV l e).2=0)(n:Int):(if IntKind.i64.wrap (e.tx+1) > n then IntKind.i64.wrap (e.tx+1) else n)=max n (e.tx+1):=by
 have:=Qt4 (Qdl h).2
 have hw:IntKind.i64.wrap (e.tx+1)=e.tx+1:=by rw[IntKind.wrap_i64]; omega
 rw[hw]
 split<;>omega
def NoteR(a:An)(e:E)(b:An):Prop:=b.pg=a.pg/\b.cp=a.cp/\b.nx=max a.nx (e.tx+1) /\
 ((¬ (0<e.tx/\idT a.lo e.tx<0)/\(QV a.lo e).2=0/\b.lo=(QV a.lo e).1)\/((0<e.tx/\idT a.lo e.tx<0)/\(Qae a.lo e.tx).2=0/\(QV (Qae a.lo e.tx).1 e).2=0/\b.lo=(QV (Qae a.lo e.tx).1 e).1)) /\
 (QbC a.ix e).2=0/\b.ix=(QbC a.ix e).1/\((e.kind=1\/e.kind=2)->e.c.pg<a.pg)/\QFr a.la e b.la
def QEu{a:An}{e:E}(q1:¬ (0<e.tx/\idT a.lo e.tx<0))(q2:(QV a.lo e).2=0)(q3:(QbC a.ix e).2=0)(q4:(e.kind=1\/e.kind=2)->e.c.pg<a.pg)(la:List Dt)(q5:QFr a.la e la)(x:Int)(q6:x=if IntKind.i64.wrap (e.tx+1) > a.nx then IntKind.i64.wrap (e.tx+1) else a.nx):NoteR a e ⟨a.pg,x,a.cp,(QV a.lo e).1,a.lk,la,(QbC a.ix e).1⟩:=
 ⟨rfl,rfl,q6.trans (QzE q2 _),.inl ⟨q1,q2,rfl⟩,q3,rfl,q4,q5⟩
def QEt{a:An}{e:E}(q1:0<e.tx/\idT a.lo e.tx<0)(q0:(Qae a.lo e.tx).2=0)(q2:(QV (Qae a.lo e.tx).1 e).2=0)(q3:(QbC a.ix e).2=0)(q4:(e.kind=1\/e.kind=2)->e.c.pg<a.pg)(la:List Dt)(q5:QFr a.la e la)(x:Int)(q6:x=if IntKind.i64.wrap (e.tx+1) > a.nx then IntKind.i64.wrap (e.tx+1) else a.nx):NoteR a e ⟨a.pg,x,a.cp,(QV (Qae a.lo e.tx).1 e).1,a.lk,la,(QbC a.ix e).1⟩:=
 ⟨rfl,rfl,q6.trans (QzE q2 _),.inr ⟨q1,q0,q2,rfl⟩,q3,rfl,q4,q5⟩
def QEv(a:An)(n:Nat)(e:E)(r:An×Int):Prop:=r.1.sm (n+1)/\(r.2=0->NoteR a e r.1)
def Qs8(a:An)(n:Nat)(hn:n<=100000)(ha:a.sm n)(e:E):VCalls prog 200 [.agg a.d,.agg e.d] [] (QI anD (QEv a n e)):=by
 refine dk Tryz.func200 ?_
 obtain⟨h1,h2,h3,h4⟩:=ha
 have hl:=h1.1
 have c1:=Qcj a.lo (by omega) e.tx
 have c2:=QoC a.lo (h1.smL (by omega)) e.tx
 have c3:=Qno a.lo (h1.smL (by omega)) e
 have hs2:=Qmy (l:=a.lo) e.tx
 have hs3:=QjT (l:=a.lo) e
 have c4:=Qno (Qae a.lo e.tx).1 (hs2.smL (by omega)) e
 have hs4:=QjT (l:=(Qae a.lo e.tx).1) e
 have c5:=Qlp a.ix (by omega) e
 have h5:=QlR a.ix e h4
 have c6:=Qcy e
 have c7:=QxC a.la (by omega) e
 have k1:=@QEu a e
 have k2:=@QEt a e
 have hch:(e.kind==1||e.kind==2)=true ↔ e.kind=1\/e.kind=2:=by simp
 generalize QV (Qae a.lo e.tx).1 e=N2 at *
 generalize Qae a.lo e.tx=B at *
 generalize QV a.lo e=N1 at *
 generalize QbC a.ix e=R at *
 generalize (e.kind==1||e.kind==2)=ch at *
 generalize idT a.lo e.tx=f at *
 obtain⟨b,eb⟩:=B
 obtain⟨n1,e1⟩:=N1
 obtain⟨n2,e2⟩:=N2
 obtain⟨r,er⟩:=R
 dsimp only at *
 have old:∀ z,z≠0->QI anD (QEv a n e) (anD (a,z)) []:=fun z hz=>⟨rfl,rfl,(a,z),rfl,⟨h1,h2,by dsimp only; omega,h4⟩,fun h=>absurd h hz⟩
 (unfold Tryz.f200; refine rn trivial ?_)
 refine rn F ?_
 repeat' (first
  | with_reducible exact⟨⟩
  | (refine sG F ?_ ?_<;>intro hZ)
  | (refine sB F ?_ ?_<;>intro hZ)
  | refine vp F (c1) ?_
  | refine vp F (c2) ?_
  | refine vp F (c3) ?_
  | refine vp F (c4) ?_
  | refine vp F (c5) ?_
  | refine vp F (c6) ?_
  | (refine Qp (c7) rfl ?_; rintro la hla; refine rn F ?_))
 all_goals first
  | exact old _ (by first | assumption | decide)
  | exact⟨rfl,rfl,(⟨a.pg,_,a.cp,b,a.lk,a.la,a.ix⟩,_),rfl,⟨hs2,h2,by dsimp only; omega,h4⟩,fun h=>absurd h (by first | assumption | (dsimp only; assumption) | (dsimp only; decide))⟩
  | exact⟨rfl,rfl,(⟨a.pg,_,a.cp,n1,a.lk,a.la,a.ix⟩,_),rfl,⟨hs3,h2,by dsimp only; omega,h4⟩,fun h=>absurd h (by first | assumption | (dsimp only; assumption) | (dsimp only; decide))⟩
  | exact⟨rfl,rfl,(⟨a.pg,_,a.cp,n1,a.lk,a.la,r⟩,_),rfl,⟨hs3,h2,by dsimp only; omega,h5⟩,fun h=>absurd h (by first | assumption | (dsimp only; assumption) | (dsimp only; decide))⟩
  | exact⟨rfl,rfl,(⟨a.pg,_,a.cp,n2,a.lk,a.la,a.ix⟩,_),rfl,⟨hs4,h2,by dsimp only; omega,h4⟩,fun h=>absurd h (by first | assumption | (dsimp only; assumption) | (dsimp only; decide))⟩
  | exact⟨rfl,rfl,(⟨a.pg,_,a.cp,n2,a.lk,a.la,r⟩,_),rfl,⟨hs4,h2,by dsimp only; omega,h5⟩,fun h=>absurd h (by first | assumption | (dsimp only; assumption) | (dsimp only; decide))⟩
  | skip
 all_goals
  have h4c:(e.kind=1\/e.kind=2)->e.c.pg<a.pg:=fun h=>by
   have hc1:=hch.2 h
   first
    | assumption
    | (exfalso; simp_all; done)
  first
   | exact⟨rfl,rfl,(⟨a.pg,_,a.cp,n1,a.lk,la,r⟩,_),rfl,⟨hs3,h2,Jj hla.1 (JT h3),h5⟩,fun _=>k1 (by omega) (by omega) (by omega) h4c la hla.2 _ rfl⟩
   | exact⟨rfl,rfl,(⟨a.pg,_,a.cp,n2,a.lk,la,r⟩,_),rfl,⟨hs4,h2,Jj hla.1 (JT h3),h5⟩,fun _=>k2 (by omega) (by omega) (by omega) (by omega) h4c la hla.2 _ rfl⟩
def QHf(x:Lg)(n:Int)(a:An):Prop:=a.pg=n/\((x.f<=1/\a.nx=1/\a.cp=0/\a.lo=[]/\a.la=[]/\a.ix=JJ n.toNat Rw0) \/
 ∃ i,i<x.es.length/\(x.es.getD i E0).kind=6/\a.cp=(x.es.getD i E0).lsn/\(x.es.getD i E0).blob≠[]/\∀ c,CkV c->(x.es.getD i E0).blob=QaO c->c.pg=n/\a.nx=c.nx/\a.lo=c.tx/\a.la=c.dl/\a.ix=c.ix)
def QHM(x:Lg)(n:Int)(r:An×Int):Prop:=r.1.sm 256/\(r.2=0->QHf x n r.1)
def Qp8 (x:Lg) (hx:x.es.length<=1000000) (n:Int) (hn:1<=n/\n<=64):VCalls prog 199 [.agg x.c,.int .i64 n] [] (QI anD (QHM x n)):=by
 refine dk Tryz.func199 ?_
 have c1:=Qtd x hx
 have c2:=Qov n
 (unfold Tryz.f199; refine rn trivial ?_)
 refine rn F ?_
 repeat' (first
  | with_reducible exact⟨⟩
  | (refine sB F ?_ ?_<;>intro hZ)
  | (refine Qp (c1) rfl ?_; rintro⟨c,at_,ok⟩ hc; refine rn F ?_)
  | (refine Qp (c2) rfl ?_; rintro⟨ix,e⟩ hi; refine rn F ?_))
 all_goals first
  | exact⟨rfl,rfl,(An0,24),rfl,Qv8 _,fun h=>by simp at h⟩
  | exact⟨rfl,rfl,(⟨n,1,0,[],[],[],ix⟩,0),rfl,⟨Q0 _,Jc _,Jc _,hi.1⟩,fun _=>⟨rfl,.inl ⟨by omega,rfl,rfl,rfl,rfl,hi.2.1 (hi.2.2 hn.1 hn.2)⟩⟩⟩
  | (have hl:=hc.2 (by first | assumption | (dsimp only; assumption))
     have hq:=hc.1
     dsimp only at hl hq
     obtain⟨i,l1,l2,l3,l5,l4⟩:=hl
     exact⟨rfl,rfl,(⟨n,c.nx,at_,c.tx,[],c.dl,c.ix⟩,0),rfl,⟨hq.1.mono (by decide),Jc _,hq.2.1,hq.2.2⟩,fun _=>⟨rfl,.inr ⟨i,l1,l2,l3,l5,fun c0 q1 q2=>by
      have:=l4 c0 q1 q2
      subst this
      exact⟨by first | assumption | omega,rfl,rfl,rfl,rfl⟩⟩⟩⟩)
  | skip
section
attribute [local go_sem] QBT QDs QDU QDT QuU Qgq Qev Qdq QcG QaK Qar
inductive AnC (x:Lg) (n:Int):Nat->An->Prop
 | init {a:An}:QHf x n a->AnC x n 0 a
 | skip {i:Nat} {a:An}:AnC x n i a->i<x.es.length->(x.es.getD i E0).lsn<=a.cp->AnC x n (i+1) a
 | note {i:Nat} {a b:An}:AnC x n i a->i<x.es.length->¬ (x.es.getD i E0).lsn<=a.cp->NoteR a (x.es.getD i E0) b->AnC x n (i+1) b
def loF(a:An)(lk:List Gr):An:=⟨a.pg,a.nx,a.cp,a.lo.filter fun t=>decide (0<t.n),lk,a.la,a.ix⟩
def QGM(x:Lg)(n:Int)(r:An×Int):Prop:=r.1.sm 10000/\(r.2=0->lgB x=true/\(1<=n/\n<=64)/\∃ a lk,AnC x n x.es.length a/\r.1=loF a lk)
structure AnS(x:Lg)(n:Int) where
 i:Nat
 a:An
 hi:i<=x.es.length
 ha:a.sm (256+i)
 hc:AnC x n i a
def flT(l:List Tx)(i:Nat):List Tx:=(l.take i).filter fun t=>decide (0<t.n)
def QyJ(l:List Tx)(i:Nat)(h:i<l.length):flT l (i+1)=if 0<(l.getD i Tx0).n then flT l i++[l.getD i Tx0] else flT l i:=by
 unfold flT
 rw[Je h,JG,Qf l i h]
 split<;>rename_i hx<;>simp[hx]
structure LoS(l:List Tx) where
 i:Nat
 out:List Tx
 hi:i<=l.length
 ho:out.length<=i
 hs:∀ t∈out,t.ss
 he:out=flT l i
def Za:List DV:=[.int .i64 0,.int .i64 0,.int .i64 0,.pv (.slc []),.pv (.slc []),.pv (.slc []),.pv (.slc [])]
def QmD(x:Lg)(hx:x.es.length<=4096)(n:Int)(hv:lgB x=true)(hn:1<=n/\n<=64)(a:An)(ha:a.sm 10000)(hc:AnC x n x.es.length a)(out:List Tx)(ho:smN 65 out)(he:out=a.lo.filter fun t=>decide (0<t.n)):VWp prog (QeQ 8 (Qev Tryz.f154)) (QkH prog [ResultVar.cell 4 252,ResultVar.tmp 5] 0 (QI anD (QGM x n))) ⟨98,0,[(9,.pv (.sl (fz Qal out))),(6,.ptr 2 0),(4,.ptr 1 0),(2,.ptr 0 0)],[⟨28,true,x.c⟩,⟨252,true,Za⟩,⟨252,true,a.d⟩]⟩:=by
 refine Qv _ _ _ ?_
 have c4:=Qxn x (by omega) out ho
 unfold Za
 (unfold Tryz.f154; refine rn trivial ?_)
 refine rn F ?_
 repeat' (first
  | with_reducible exact⟨⟩
  | (refine sB F ?_ ?_<;>intro hZ)
  | (refine Qp (c4) rfl ?_; rintro⟨lk,e⟩ hlk; refine rn F ?_))
 ·exact⟨rfl,rfl,(An0,_),rfl,Qv8 _,fun h=>absurd h (by first | assumption | (dsimp only; assumption))⟩
 ·exact⟨rfl,rfl,(⟨a.pg,a.nx,a.cp,out,lk,a.la,a.ix⟩,0),rfl,⟨ho,hlk,ha.2.2.1,ha.2.2.2⟩,fun _=>⟨hv,hn,a,lk,hc,by unfold loF; rw[he]⟩⟩
def Qp9(x:Lg)(hx:x.es.length<=4096)(n:Int):VCalls prog 154 [.agg x.c,.int .i64 n] [] (QI anD (QGM x n)):=by
 refine Qde (fn:=Tryz.f154) (c:=Qev Tryz.f154) Tryz.func154 rfl (by kernel_rfl) (by simp[Tryz.f154]) (VWp.postK ?_)
 refine QF1 8 ?_
 have tail:=fun hv hn a ha hc out ho he=>QmD x hx n hv hn a ha hc out ho he
 generalize QeQ 8 (Qev Tryz.f154)=rest at *
 have c1:=Qaz x (by omega)
 have c2:=fun hn=>Qp8 x (by omega) n hn
 have err:∀ z,z≠0->QI anD (QGM x n) (anD (An0,z)) []:=fun z hz=>⟨rfl,rfl,(An0,z),rfl,Qv8 _,fun h=>absurd h hz⟩
 (unfold Tryz.f154; refine rn trivial ?_)
 cases hv:lgB x
 ·rw [hv] at c1
  refine rn F ?_
  repeat' (first
   | with_reducible exact⟨⟩
   | refine vp F (c1) ?_)
  exact err _ (by decide)
 rw[hv] at c1
 by_cases hn:1<=n/\n<=64
 rotate_left
 ·skip
  refine rn F ?_
  repeat' (first
   | with_reducible exact⟨⟩
   | (refine sG F ?_ ?_<;>intro hZ)
   | refine vp F (c1) ?_)
  all_goals first | exact err _ (by decide) | (exfalso; omega)
 refine rn F ?_
 repeat' (first
  | with_reducible exact⟨⟩
  | (refine sB F ?_ ?_<;>intro hZ)
  | refine vp F (c1) ?_
  | (refine Qp (c2 hn) rfl ?_; rintro⟨a0,e0⟩ h0; refine rn F ?_))
 all_goals first | exact err _ (by first | assumption | decide) | (exfalso; omega) | skip
 have h0b:=h0.2 (by first | assumption | (dsimp only; omega))
 replace h0:=h0.1
 dsimp only at h0 h0b
 refine Qj (fun s:AnS x n=>⟨98,0,[(8,.int .i64 s.i),(6,.ptr 2 0),(4,.ptr 1 0),(2,.ptr 0 0)],[⟨28,true,x.c⟩,⟨252,true,Za⟩,⟨252,true,s.a.d⟩]⟩) (fun s=>x.es.length-s.i) ⟨0,a0,Jc _,h0,.init h0b⟩ (gc [0,1,2]) ?_
 rintro⟨i,a,hi,ha,hc⟩
 dsimp only
 unfold Za
 by_cases hil:i<x.es.length
 ·have hg:=Qqs x.es i hil
  have c3:=Qs8 a (256+i) (by omega) ha (x.es.getD i E0)
  have hk1:=fun h=>AnC.skip hc hil h
  have hk2:=fun h b hb=>AnC.note (b:=b) hc hil h hb
  generalize x.es.getD i E0=e at *
  have F:=@hg
  refine rn F ?_
  repeat' (first
   | with_reducible exact⟨⟩
   | (refine sB F ?_ ?_<;>intro hZ)
   | (refine Qp (c3) rfl ?_; rintro⟨a1,e1⟩ h1; refine rn F ?_)
   | (refine Qd (id:=11) [0,1,2,3,4,5,6,7,8] [] (by kernel_rfl) (by kernel_rfl) ?_; refine rn F ?_)
   | (refine Qd (id:=12) [0,1,2,3,4,5] [⟨[],[],6,[1,2,3,4],[7,8,9]⟩,⟨[],[],10,[9],[]⟩,⟨[],[],11,[],[]⟩] (by kernel_rfl) (by kernel_rfl) ?_; refine rn F ?_))
  all_goals first
   | exact err _ (by first | assumption | decide)
   | exact⟨⟨i+1,a,hil,⟨ha.1,ha.2.1,Jh ha.2.2.1,ha.2.2.2⟩,hk1 (by omega)⟩,by dsimp only; omega,(gc [0,1,2])⟩
   | exact⟨⟨i+1,a1,hil,h1.1,hk2 (by omega) a1 (h1.2 (by first | assumption | (dsimp only; omega)))⟩,by dsimp only; omega,(gc [0,1,2])⟩
   | skip
 have F:=trivial
 refine rn F ?_
 refine VLoop.nilOwn 9 201 6 rfl ?_
 have hlo:=ha.1.1
 refine Qj (fun s:LoS a.lo=>⟨98,0,[(10,.int .i64 s.i),(9,.own 3 6 0 s.out.length),(6,.ptr 2 0),(4,.ptr 1 0),(2,.ptr 0 0)],[⟨28,true,x.c⟩,⟨252,true,Za⟩,⟨252,true,a.d⟩,⟨201,true,cells Qal s.out⟩]⟩) (fun s=>a.lo.length-s.i) ⟨0,[],Jc _,Jc _,fun t h=>by simp at h,rfl⟩ (gc [0,1,2,3]) ?_
 rintro⟨k,out,hk,ho,hs,he⟩
 dsimp only
 unfold Za
 by_cases hkl:k<a.lo.length
 ·have hg:=Qep a.lo k hkl
  have hss:(a.lo.getD k Tx0).ss:=by rw[Qf _ _ hkl]; exact ha.1.2 _ (Jq hkl)
  have hb:(out.length+1)*80<=140737488355328:=Jj (Jy 80 (show out.length+1<=1000 by omega)) (by decide)
  have hsu:=QyJ a.lo k hkl
  rw[<- he] at hsu
  generalize a.lo.getD k Tx0=t at *
  have F:=(Ja @hg @hb)
  refine rn F ?_
  repeat' (first
   | with_reducible exact⟨⟩
   | (refine sB F ?_ ?_<;>intro hZ))
  ·have hl2:(out ++ [t]).length = out.length + 1:=by simp
   rw[if_pos (by omega)] at hsu
   refine⟨⟨k+1,out++[t],hkl,by rw[hl2]; omega,fun z hz=>?_,hsu.symm⟩,by dsimp only; omega,?_⟩
   ·rcases Jk.1 hz with h | h
    ·exact hs z h
    ·rw[Jf.1 h]; exact hss
   dsimp only
   rw[hl2]
   exact(gc [0,1,2,5])
  ·rw [if_neg (by omega)] at hsu
   exact⟨⟨k+1,out,hkl,by omega,hs,hsu.symm⟩,by dsimp only; omega,(gc [0,1,2,3])⟩
 have hsm:smN 65 out:=⟨by omega,hs⟩
 have F:=trivial
 refine rn F ?_
 refine⟨⟨98,0,[(9,.pv (.sl (fz Qal out))),(6,.ptr 2 0),(4,.ptr 1 0),(2,.ptr 0 0)],[⟨28,true,x.c⟩,⟨252,true,Za⟩,⟨252,true,a.d⟩]⟩,.fzN (n:=3) ⟨rfl,rfl,Jc _,by simp,?_,?_⟩,tail hv hn a (by have:=ha; exact⟨this.1,this.2.1,Jj this.2.2.1 (by omega),this.2.2.2⟩) (by rw[show x.es.length=i by omega]; exact hc) out hsm (by rw[he]; unfold flT; rw[Jl (by omega)])⟩
 ·rfl
 ·refine ⟨?_,rfl,rfl,rfl,trivial⟩
  (refine rn trivial ?_; try with_reducible exact⟨⟩)
end
section
attribute [local go_sem] Qbp
structure Rd where
 tx:Int
 pg:Int
 sl:Int
 at_:Int
 cell:Ce
def QmN:Enc Rd:=⟨6,fun r=>[.lit (.int .i64 r.tx),.lit (.int .i64 r.pg),.lit (.int .i64 r.sl),.lit (.int .i64 r.at_),.lit (.bool r.cell.set),.str r.cell.data],by decide,fun _=>rfl⟩
def QG4(l:List Rd):(cells QmN l).length=l.length*6:=QS QmN l
def QHT(l:List Rd)(n:Nat)(h:l.length*6<=n):(cells QmN l).take n=cells QmN l:=by rw[Jl]; rw[QG4]; exact h
def QHG(h:l.length=len):QhC n hp 0 6 len (some (cells QmN l))=some (.sl (fz QmN l)):=Q4 QmN h
def QGK(l:List Rd)(a b c d:Int)(x:Bool)(s:List UInt8):cells QmN l++[.pv (.lit (.int .i64 a)),.pv (.lit (.int .i64 b)),.pv (.lit (.int .i64 c)),.pv (.lit (.int .i64 d)),.pv (.lit (.bool x)),.pv (.str s)]=cells QmN (l++[⟨a,b,c,d,⟨x,s⟩⟩]):=by rw[QF]; rfl
attribute [go_sem] QG4 QHT QHG QGK
structure Sp where
 kind:Int
 tx:Int
 pg:Int
 torn:Int
 cut:Int
 a:Ac
@[go_sem] def Sp.d(t:Sp):List DV:=[.int .i64 t.kind,.int .i64 t.tx,.int .i64 t.pg,.int .i64 t.torn,.int .i64 t.cut,.int .i64 t.a.kind,.int .i64 t.a.pg,.int .i64 t.a.sl,.pv (.str t.a.data)]
structure Sc where
 s:Sv
 tx:List Int
 rd:List Rd
 dead:Bool
def Sc.sm(c:Sc)(n:Nat):Prop:=c.s.sm/\c.tx.length<=n/\c.rd.length<=n
@[go_sem] def scB(c:Sc)(i j:Nat):Blk:=⟨116,true,c.s.d++[.own i 1 0 c.tx.length,.own j 6 0 c.rd.length,.bool c.dead]⟩
@[go_sem] def scT(l:List Int):Blk:=⟨3,true,cells Q8 l⟩
@[go_sem] def scR(l:List Rd):Blk:=⟨156,true,cells QmN l⟩
@[go_sem] def Qvt:Blk:=⟨3,false,[]⟩
@[go_sem] def QqG:Blk:=⟨156,false,[]⟩
def ScEnd{α:Type}(f:α->DV)(Q:Nat->Sc->α->Prop):DV->Qa->Prop:=fun r h'=>∃ c a B,r=f a/\(f a).nums (fun _=>false)=true/\((Q 0 c a/\h'=scB c 1 2::scT c.tx::scR c.rd::[B])\/(Q 1 c a/\h'=scB c 3 2::Qvt::scR c.rd::scT c.tx::[B])\/(Q 2 c a/\h'=scB c 1 3::scT c.tx::QqG::scR c.rd::[B]))
def ScEnd.mono(h:∀ n c a,Q n c a->Q' n c a):∀ r h',ScEnd f Q r h'->ScEnd f Q' r h'
 | _,_,⟨c,a,B,e1,e2,.inl ⟨q,e⟩⟩=>⟨c,a,B,e1,e2,.inl ⟨h _ _ _ q,e⟩⟩
 | _,_,⟨c,a,B,e1,e2,.inr (.inl ⟨q,e⟩)⟩=>⟨c,a,B,e1,e2,.inr (.inl ⟨h _ _ _ q,e⟩)⟩
 | _,_,⟨c,a,B,e1,e2,.inr (.inr ⟨q,e⟩)⟩=>⟨c,a,B,e1,e2,.inr (.inr ⟨h _ _ _ q,e⟩)⟩
def QkX(k0 k1 k2:Nat)(cc:VCalls P g args0 [scB c 1 2,scT c.tx,scR c.rd] (ScEnd f Q))(hk0:hp[k0]?=some (scB c k1 k2))(hk1:hp[k1]?=some (scT c.tx))(hk2:hp[k2]?=some (scR c.rd))(n01:k0≠k1)(n02:k0≠k2)(n12:k1≠k2)(ha0:args0=args.map (DV.ren fun j=>[k0,k1,k2].idxOf j))(ha:DV.nums.go [k0,k1,k2].contains args=true)(hN:∀ c a,Q 0 c a->∀ B,K (f a) (((hp.set k0 (scB c k1 k2)).set k1 (scT c.tx)).set k2 (scR c.rd)++[B]))(hT:∀ c a,Q 1 c a->∀ B,K (f a) (((hp.set k0 (scB c hp.length k2)).set k1 Qvt).set k2 (scR c.rd)++scT c.tx::[B]))(hR:∀ c a,Q 2 c a->∀ B,K (f a) (((hp.set k0 (scB c k1 hp.length)).set k1 (scT c.tx)).set k2 QqG++scR c.rd::[B])):VCalls P g args hp K:=by
 have l0:k0<hp.length:=(JF.1 hk0).1
 have l1:k1<hp.length:=(JF.1 hk1).1
 have l2:k2<hp.length:=(JF.1 hk2).1
 have q1:(k0==k1)=false:=by simp[n01]
 have q2:(k0==k2)=false:=by simp[n02]
 have q3:(k1==k2)=false:=by simp[n12]
 have rt:∀ (σ:Nat->Nat) l,Qc4 σ (scT l)=scT l:=fun σ l=>QaT (Qs _ _ _)
 have rr:∀ (σ:Nat->Nat) l,Qc4 σ (scR l)=scR l:=fun σ l=>QaT (Qs _ _ _)
 have rs:∀ (σ:Nat->Nat) (c:Sc) i j,Qc4 σ (scB c i j)=scB c (σ i) (σ j):=fun σ c i j=>rfl
 have i0:[k0,k1,k2].idxOf k0=0:=by simp
 have i1:[k0,k1,k2].idxOf k1=1:=by simp[Ka,q1]
 have i2:[k0,k1,k2].idxOf k2=2:=by simp[Ka,q2,q3]
 refine(VCalls.frame [k0,k1,k2] (by simp[n01,n02,n12]) ?_ ?_ cc ha0 ha).mono ?_
 ·simp only[QlY,JM,List.map_nil,hk0,hk1,hk2,Option.map_some,Qi,rt,rr,rs,i1,i2]
 ·unfold QiT
  rw[Jw]
  intro k hk
  simp only[List.mem_cons,List.not_mem_nil,or_false] at hk
  rcases hk with rfl | rfl | rfl
  ·rw [hk0]
   simp[scB,Sv.d,DV.nums,DV.nums.go]
  ·rw [hk1]
   dsimp only
   rw[show(scT c.tx).cells=cells Q8 c.tx from rfl,QT _ _ (Qs _ _ _)]; simp
  ·rw [hk2]
   dsimp only
   rw[show(scR c.rd).cells=cells QmN c.rd from rfl,QT _ _ (Qs _ _ _)]; simp
 ·rintro r h2 ⟨r0,h',⟨c1,a,B,rfl,hn,e⟩,-,rfl,rfl⟩
  rw[QeR _ _ hn]
  have b1:back [k0,k1,k2] hp.length 1=k1:=rfl
  have b2:back [k0,k1,k2] hp.length 2=k2:=rfl
  have b3:back [k0,k1,k2] hp.length 3=hp.length:=rfl
  have rI:∀ (σ:Nat->Nat),Qc4 σ Qvt=Qvt:=fun σ=>rfl
  have rO:∀ (σ:Nat->Nat),Qc4 σ QqG=QqG:=fun σ=>rfl
  rcases e with⟨q,rfl⟩ | ⟨q,rfl⟩ | ⟨q,rfl⟩<;>rw[Qmx l0 l1 l2 n01 n02 n12]
  ·rw[rs,rt,rr,b1,b2]; exact hN c1 a q _
  ·rw[rs,rI,rr,b2,b3,JM,rt]; exact hT c1 a q _
  ·rw[rs,rt,rO,b1,b3,JM,rr]; exact hR c1 a q _
def Qgk(e:Int):Rs:=if e=0 then ⟨1,0,0,Ce0,0⟩ else QaH e
def QeM(e:Int):VCalls prog 70 [.int .i64 e] [] (Ret (.agg (Qgk e).d)):=by
 refine dd Tryz.func70 ?_
 have c1:=Qag e
 (unfold Tryz.f70; refine rn trivial ?_)
 unfold Qgk
 refine rn F ?_
 repeat' (first
  | with_reducible exact⟨⟩
  | (refine sB F ?_ ?_<;>intro hZ)
  | refine vp F (c1) ?_)
 all_goals first
  | (rw[if_pos (by assumption)]; first | done | rfl)
  | (rw[if_neg (by assumption)]; first | done | rfl)
@[go_sem] def rsD(r:Rs):DV:=.agg r.d
def Qhg(c:Sc)(s:Sv)(e:Int):VCalls prog 66 [.ptr 0 0,.agg s.d,.int .i64 e] [scB c 1 2,scT c.tx,scR c.rd] (ScEnd rsD fun n c' r=>n=0/\c'=⟨if e=0 then s else c.s,c.tx,c.rd,c.dead⟩/\r=Qgk e):=by
 refine QO (fn:=Tryz.f66) Tryz.func66 rfl (by kernel_rfl) (by simp[Tryz.f66]) ?_
 have c1:=QeM e
 (unfold Tryz.f66; refine rn trivial ?_)
 refine rn F ?_
 repeat' (first
  | with_reducible exact⟨⟩
  | (refine sB F ?_ ?_<;>intro hZ)
  | refine vp F (c1) ?_)
 ·exact QC ⟨15,3,[(6,.ptr 3 0)],[scB ⟨s,c.tx,c.rd,c.dead⟩ 1 2,scT c.tx,scR c.rd,⟨118,true,(Qgk e).d⟩]⟩ (gc [0,1,2,4]) ⟨⟨s,c.tx,c.rd,c.dead⟩,Qgk e,_,rfl,rfl,.inl ⟨⟨rfl,by rw[if_pos (by assumption)],rfl⟩,rfl⟩⟩
 ·exact QC ⟨15,3,[(6,.ptr 3 0)],[scB c 1 2,scT c.tx,scR c.rd,⟨118,true,(Qgk e).d⟩]⟩ (gc [0,1,2,4]) ⟨c,Qgk e,_,rfl,rfl,.inl ⟨⟨rfl,by rw[if_neg (by assumption)],rfl⟩,rfl⟩⟩
end
section
attribute [local go_sem] Qbp
def scQ(c:Sc)(n m:Nat)(c':Sc)(_:Rs):Prop:=m≠1/\c'.sm n/\c'.dead=c.dead/\Str 1 c.s.k c'.s.k
def Qw2(c:Sc)(n:Nat)(hc:c.sm n)(r:Rs):scQ c (n+1) 0 c r:=⟨by decide,⟨hc.1,Jh hc.2.1,Jh hc.2.2⟩,rfl,Str.refl _⟩
def QEh (c:Sc) (n:Nat) (hn:n<=2000) (hc:c.sm n) (t:Sp):VCalls prog 67 [.ptr 0 0,.agg t.d] [scB c 1 2,scT c.tx,scR c.rd] (ScEnd rsD (scQ c (n + 1))):=by
 refine QO (fn:=Tryz.f67) Tryz.func67 rfl (by kernel_rfl) (by simp[Tryz.f67]) ?_
 have c1:=Qag 16
 have hq0:=Qw2 c n hc
 have h1:=hc.2.1
 have h2:=hc.2.2
 by_cases h0:∃ i:Nat,i<c.tx.length/\t.tx=i+1
 rotate_left
 ·have h3:t.tx < 1\/c.tx.length < t.tx:=by
   by_cases ha:t.tx<1
   ·exact .inl ha
   ·by_cases hb:c.tx.length < t.tx
    ·exact .inr hb
    ·exact absurd ⟨(t.tx-1).toNat,by omega,by omega⟩ h0
  (unfold Tryz.f67; refine rn trivial ?_)
  refine rn F ?_
  repeat' (first
   | with_reducible exact⟨⟩
   | (refine sG F ?_ ?_<;>intro hZ)
   | refine vp F (c1) ?_
   | (refine Qd (id:=1) [0,1,2,3,4,5,6,7,8,9,10,11,12,13,14,15,16,17,18,19,20,21,22,23,24] [] (by kernel_rfl) (by kernel_rfl) ?_; refine rn F ?_))
  all_goals first
   | (exfalso; omega)
   | exact QC ⟨95,3,[(4,.ptr 3 0)],[scB c 1 2,scT (Sc.tx c),scR (Sc.rd c),⟨118,true,Rs.d (QaH 16)⟩]⟩ (gc [0,1,2,4]) ⟨c,QaH 16,_,rfl,rfl,.inl ⟨hq0 _,rfl⟩⟩
   | skip
 obtain⟨i,hi,ht⟩:=h0
 have hg:=QfW c.tx i hi
 have d1:=QD7 c.s hc.1 (c.tx.getD i 0) t.a
 have e1:(↑i+1-1:Int)=↑i:=by omega
 have hlt:(i<c.tx.length)=True:=eq_true hi
 (unfold Tryz.f67; refine rn trivial ?_)
 simp only[ht]
 have F:=(Ja @hg (Ja @e1 @hlt))
 refine rn F ?_
 repeat' (first
  | with_reducible exact⟨⟩
  | (refine sG F ?_ ?_<;>intro hZ)
  | (refine sB F ?_ ?_<;>intro hZ)
  | refine vp F (c1) ?_
  | (refine Qp (d1) rfl ?_; rintro⟨s2,r2⟩ hq; refine rn F ?_)
  | refine vp F (QeN s2.k.lg (Jj hq.1.1.1 (by decide))) ?_
  | (refine Qd (id:=1) [0,1,2,3,4,5,6,7,8,9,10,11,12,13,14,15,16,17,18,19,20,21,22,23,24] [] (by kernel_rfl) (by kernel_rfl) ?_; refine rn F ?_)
  | (refine Qd (id:=3) [0,1,2,3,4,5,6,7,8] [⟨[],[],9,[],[]⟩] (by kernel_rfl) (by kernel_rfl) ?_; refine rn F ?_)
  | (refine Qd (id:=4) [0,1,2,3,4,5,6] [⟨[11,12],[],7,[0,1,2,5],[8,9,10]⟩,⟨[11,12],[11],13,[10],[]⟩,⟨[12],[12],14,[],[]⟩] (by kernel_rfl) (by kernel_rfl) ?_; refine rn F ?_)
  | (refine Qd (id:=9) [0,1,2,3,4,5,6,7,8,9,10,11,12,13,14,16,17] [⟨[],[],15,[0,1,2,3,4,5,6,7,8,9,10,11,12,13,16,17],[18]⟩,⟨[19],[19],20,[0,1,2,3,5,6,7,8,9,10,11,12,13,14,16,17,18],[21,22]⟩,⟨[],[],23,[21],[]⟩] (by kernel_rfl) (by kernel_rfl) ?_; refine rn F ?_))
 all_goals first
  | exact QC ⟨95,3,[(4,.ptr 3 0)],[scB c 1 2,scT (Sc.tx c),scR (Sc.rd c),⟨118,true,Rs.d (QaH 16)⟩]⟩ (gc [0,1,2,4]) ⟨c,QaH 16,_,rfl,rfl,.inl ⟨hq0 _,rfl⟩⟩
  | exact QC ⟨95,3,[(4,.ptr 3 0)],[scB c 1 2,scT (Sc.tx c),scR (Sc.rd c),⟨118,true,Rs.d (r2)⟩]⟩ (gc [0,1,2,4]) ⟨c,r2,_,rfl,rfl,.inl ⟨hq0 _,rfl⟩⟩
  | exact QC ⟨95,3,[(4,.ptr 3 0)],[scB ⟨s2,c.tx,c.rd,c.dead⟩ 1 2,scT (Sc.tx ⟨s2,c.tx,c.rd,c.dead⟩),scR (Sc.rd ⟨s2,c.tx,c.rd,c.dead⟩),⟨118,true,Rs.d (r2)⟩]⟩ (gc [0,1,2,4]) ⟨⟨s2,c.tx,c.rd,c.dead⟩,r2,_,rfl,rfl,.inl ⟨⟨by decide,⟨hq.1,by dsimp only; omega,by dsimp only; omega⟩,rfl,hq.2.2 (by dsimp only; omega)⟩,rfl⟩⟩
  | skip
 have hl:(c.rd++[(⟨c.tx.getD i 0,t.a.pg,t.a.sl,QfI s2.k.lg,r2.cell⟩:Rd)]).length=c.rd.length+1:=by simp
 generalize hr:c.rd++[(⟨c.tx.getD i 0,t.a.pg,t.a.sl,QfI s2.k.lg,r2.cell⟩:Rd)]=rd at *
 rw[<- hl]
 exact QC ⟨95,3,[(4,.ptr 4 0)],[scB ⟨s2,c.tx,rd,c.dead⟩ 1 3,scT c.tx,QqG,scR rd,⟨118,true,r2.d⟩]⟩ (gc [0,1,2,8,4]) ⟨⟨s2,c.tx,rd,c.dead⟩,r2,_,rfl,rfl,.inr (.inr ⟨⟨by decide,⟨hq.1,by dsimp only; omega,by dsimp only; omega⟩,rfl,hq.2.2 (by dsimp only; omega)⟩,rfl⟩)⟩
end
section
attribute [local go_sem] Qbp
def scI(I:Nat->Kn->Prop)(c:Sc)(n _:Nat)(c':Sc)(_:Rs):Prop:=c'.sm n/\∀ m,I m c.s.k->I (m+1) c'.s.k
abbrev Qro(I:Nat->Kn->Prop):Prop:=∀ n m k k',Str m k k'->I n k->I (n+m) k'
def Qon(I:Nat->Kn->Prop)(hI:Qro I)(c:Sc)(n:Nat)(hc:c.sm n)(r:Rs):scI I c (n+1) 0 c r:=⟨⟨hc.1,Jh hc.2.1,Jh hc.2.2⟩,fun m=>hI m 1 _ _ (Str.refl _)⟩
abbrev QhX(I:Nat->Kn->Prop)(c:Sc)(n:Nat)(t:Sp):Prop:=VCalls prog 46 [.ptr 0 0,.agg t.d] [scB c 1 2,scT c.tx,scR c.rd] (ScEnd rsD (scI I c (n+1)))
def Qqw(k:Kn)(h:(QW k.lg n).2=0):Str 1 k ⟨k.pg,k.nx,(QW k.lg n).1,k.pl,k.lk,k.tx,k.ix,k.la⟩:=by
 have qf:=Stp.force (k:=k) (QW k.lg n).1.d fun hv=>by
  have:=(Qmg h).ok hv
  rw[Qfb h] at this
  exact this
 rw[<- Qfb h] at qf
 exact(Str.one qf).mono (by omega)
def Quw(I:Nat->Kn->Prop)(hI:Qro I){s s2:Sv}{e:Int}(hs:s.sm)(hq:s2.sm/\(e=0->Str 1 s.k s2.k)):(if e=0 then s2 else s).sm/\(∀ m,I m s.k->I (m+1) (if e=0 then s2 else s).k):=by
 split
 ·rename_i h; exact⟨hq.1,fun m=>hI m 1 _ _ (hq.2 h)⟩
 ·exact⟨hs,fun m=>hI m 1 _ _ (Str.refl _)⟩
def Qxb(I:Nat->Kn->Prop)(hI:Qro I)(c:Sc)(n:Nat)(hn:n<=2000)(hc:c.sm n)(t:Sp)(ht:t.kind=3):QhX I c n t:=by
 refine QO (fn:=Tryz.f46) Tryz.func46 rfl (by kernel_rfl) (by simp[Tryz.f46]) ?_
 obtain⟨k,tx,pg,torn,cut,a⟩:=t
 dsimp only at ht
 subst ht
 have c1:=QsY c.s hc.1 pg
 (unfold Tryz.f46; refine rn trivial ?_)
 refine rn F ?_
 repeat' (first
  | with_reducible exact⟨⟩
  | (refine Qp (c1) rfl ?_; rintro⟨s2,e2⟩ hq; refine rn F ?_)
  | (refine Qbh (id:=12) [[],[],[1],[1,2],[1,2,3],[],[5],[1,2,3,4,5,6],[1,2,3,4,5,6,7],[1,2,3,4,5,6,7],[0,1,2,3,4,5,6,7,8,9],[0,1,2,3,4,5,6,7,8,9,10]] [0,1,2,3,4,5,6] [⟨[],[],7,[0],[8,9]⟩,⟨[],[],10,[],[]⟩,⟨[],[],11,[],[]⟩] (by kernel_rfl) (by kernel_rfl) (by kernel_rfl) ?_; refine rn F ?_))
 refine QkX (c:=c) 0 1 2 (Qhg c s2 e2) rfl rfl rfl (by decide) (by decide) (by decide) rfl rfl ?_ (fun _ _ h=>absurd h.1 (by decide)) (fun _ _ h=>absurd h.1 (by decide))
 rintro _ _ ⟨-,rfl,rfl⟩ B
 obtain⟨k1,k2⟩:=Quw I hI hc.1 ⟨hq.1,fun h=>(hq.2 h).mono (by omega)⟩
 generalize (if e2=0 then s2 else c.s)=s' at *
 refine rn trivial ?_
 exact QC ⟨132,3,[(4,.ptr 3 0)],[scB ⟨s',c.tx,c.rd,c.dead⟩ 1 2,scT (Sc.tx ⟨s',c.tx,c.rd,c.dead⟩),scR (Sc.rd ⟨s',c.tx,c.rd,c.dead⟩),⟨118,true,Rs.d (Qgk e2)⟩]⟩ (gc [0,1,2,4]) ⟨⟨s',c.tx,c.rd,c.dead⟩,Qgk e2,_,rfl,rfl,.inl ⟨⟨⟨k1,Jh hc.2.1,Jh hc.2.2⟩,k2⟩,rfl⟩⟩
def Qxa(I:Nat->Kn->Prop)(hI:Qro I)(c:Sc)(n:Nat)(hn:n<=2000)(hc:c.sm n)(t:Sp)(ht:t.kind=4):QhX I c n t:=by
 refine QO (fn:=Tryz.f46) Tryz.func46 rfl (by kernel_rfl) (by simp[Tryz.f46]) ?_
 obtain⟨k,tx,pg,torn,cut,a⟩:=t
 dsimp only at ht
 subst ht
 have c1:=Qs1 c.s hc.1
 (unfold Tryz.f46; refine rn trivial ?_)
 refine rn F ?_
 repeat' (first
  | with_reducible exact⟨⟩
  | (refine Qp (c1) rfl ?_; rintro⟨s2,n2,e2⟩ hq; refine rn F ?_))
 refine QkX (c:=c) 0 1 2 (Qhg c s2 e2) rfl rfl rfl (by decide) (by decide) (by decide) rfl rfl ?_ (fun _ _ h=>absurd h.1 (by decide)) (fun _ _ h=>absurd h.1 (by decide))
 rintro _ _ ⟨-,rfl,rfl⟩ B
 obtain⟨k1,k2⟩:=Quw I hI hc.1 hq
 generalize (if e2=0 then s2 else c.s)=s' at *
 refine rn trivial ?_
 exact QC ⟨132,3,[(4,.ptr 3 0)],[scB ⟨s',c.tx,c.rd,c.dead⟩ 1 2,scT (Sc.tx ⟨s',c.tx,c.rd,c.dead⟩),scR (Sc.rd ⟨s',c.tx,c.rd,c.dead⟩),⟨118,true,Rs.d (Qgk e2)⟩]⟩ (gc [0,1,2,4]) ⟨⟨s',c.tx,c.rd,c.dead⟩,Qgk e2,_,rfl,rfl,.inl ⟨⟨⟨k1,Jh hc.2.1,Jh hc.2.2⟩,k2⟩,rfl⟩⟩
def Qw7(I:Nat->Kn->Prop)(hI:Qro I)(c:Sc)(n:Nat)(hn:n<=2000)(hc:c.sm n)(t:Sp)(ht:t.kind=7):QhX I c n t:=by
 refine QO (fn:=Tryz.f46) Tryz.func46 rfl (by kernel_rfl) (by simp[Tryz.f46]) ?_
 obtain⟨k,tx,pg,torn,cut,a⟩:=t
 dsimp only at ht
 subst ht
 have c1:=QAZ c.s hc.1
 (unfold Tryz.f46; refine rn trivial ?_)
 refine rn F ?_
 repeat' (first
  | with_reducible exact⟨⟩
  | (refine Qp (c1) rfl ?_; rintro⟨s2,n2,e2⟩ hq; refine rn F ?_))
 refine QkX (c:=c) 0 1 2 (Qhg c s2 e2) rfl rfl rfl (by decide) (by decide) (by decide) rfl rfl ?_ (fun _ _ h=>absurd h.1 (by decide)) (fun _ _ h=>absurd h.1 (by decide))
 rintro _ _ ⟨-,rfl,rfl⟩ B
 obtain⟨k1,k2⟩:=Quw I hI hc.1 ⟨hq.1,fun h=>(hq.2 h).mono (by omega)⟩
 generalize (if e2=0 then s2 else c.s)=s' at *
 refine rn trivial ?_
 exact QC ⟨132,3,[(4,.ptr 3 0)],[scB ⟨s',c.tx,c.rd,c.dead⟩ 1 2,scT (Sc.tx ⟨s',c.tx,c.rd,c.dead⟩),scR (Sc.rd ⟨s',c.tx,c.rd,c.dead⟩),⟨118,true,Rs.d (Qgk e2)⟩]⟩ (gc [0,1,2,4]) ⟨⟨s',c.tx,c.rd,c.dead⟩,Qgk e2,_,rfl,rfl,.inl ⟨⟨⟨k1,Jh hc.2.1,Jh hc.2.2⟩,k2⟩,rfl⟩⟩
def Qw9(I:Nat->Kn->Prop)(hI:Qro I)(c:Sc)(n:Nat)(hn:n<=2000)(hc:c.sm n)(t:Sp)(ht:t.kind=5):QhX I c n t:=by
 refine QO (fn:=Tryz.f46) Tryz.func46 rfl (by kernel_rfl) (by simp[Tryz.f46]) ?_
 obtain⟨k,tx,pg,torn,cut,a⟩:=t
 dsimp only at ht
 subst ht
 have c1:=QeN c.s.k.lg (Jj hc.1.1.1 (by decide))
 have c2:=Qgw c.s.k.lg (Jj hc.1.1.1 (by decide)) (QfI c.s.k.lg)
 have c3:=fun e=>QeM e
 (unfold Tryz.f46; refine rn trivial ?_)
 refine rn F ?_
 repeat' (first
  | with_reducible exact⟨⟩
  | (refine sB F ?_ ?_<;>intro hZ)
  | refine vp F (c1) ?_
  | refine vp F (c2) ?_
  | refine vp F (c3 _) ?_
  | (refine Qbh (id:=17) [[],[0],[0,1],[0,1,2],[0,1,2,3],[0,1,2,3,4],[],[6],[6,7],[6,7,8],[6,7,8,9],[6,7,8,9,10],[6,7,8,9,10,11],[0,1,2,3,4,5,6,7,8,9,10,11,12],[0,1,2,3,4,5,6,7,8,9,10,11,12,13],[0,1,2,3,4,5,6,7,8,9,10,11,12,13,14],[0,1,2,3,4,5,6,7,8,9,10,11,12,13,14],[],[0,1,2,3,4,5,6,7,8,9,10,11,12,13,14,15,17],[0,1,2,3,4,5,6,7,8,9,10,11,12,13,14,15,16,17,18]] [0,1,2,3,4,5,6,7,8,9,10,11] [⟨[17],[],12,[0,1,2,3,4,5],[]⟩,⟨[17],[],13,[],[14,15,16]⟩,⟨[17],[17],18,[16],[]⟩,⟨[],[],19,[],[]⟩] (by kernel_rfl) (by kernel_rfl) (by kernel_rfl) ?_; refine rn F ?_))
 ·exact QC ⟨132,3,[(4,.ptr 3 0)],[scB ⟨⟨⟨c.s.k.pg,c.s.k.nx,(QW c.s.k.lg (QfI c.s.k.lg)).1,c.s.k.pl,c.s.k.lk,c.s.k.tx,c.s.k.ix,c.s.k.la⟩,c.s.v⟩,c.tx,c.rd,c.dead⟩ 1 2,scT (Sc.tx ⟨⟨⟨c.s.k.pg,c.s.k.nx,(QW c.s.k.lg (QfI c.s.k.lg)).1,c.s.k.pl,c.s.k.lk,c.s.k.tx,c.s.k.ix,c.s.k.la⟩,c.s.v⟩,c.tx,c.rd,c.dead⟩),scR (Sc.rd ⟨⟨⟨c.s.k.pg,c.s.k.nx,(QW c.s.k.lg (QfI c.s.k.lg)).1,c.s.k.pl,c.s.k.lk,c.s.k.tx,c.s.k.ix,c.s.k.la⟩,c.s.v⟩,c.tx,c.rd,c.dead⟩),⟨118,true,Rs.d (Qgk _)⟩]⟩ (gc [0,1,2,4]) ⟨⟨⟨⟨c.s.k.pg,c.s.k.nx,(QW c.s.k.lg (QfI c.s.k.lg)).1,c.s.k.pl,c.s.k.lk,c.s.k.tx,c.s.k.ix,c.s.k.la⟩,c.s.v⟩,c.tx,c.rd,c.dead⟩,Qgk _,_,rfl,rfl,.inl ⟨⟨⟨⟨⟨QiY _ _ hc.1.1.1,hc.1.1.2⟩,hc.1.2⟩,Jh hc.2.1,Jh hc.2.2⟩,fun m=>hI m 1 _ _ (Qqw _ (by assumption))⟩,rfl⟩⟩
 ·exact QC ⟨132,3,[(4,.ptr 3 0)],[scB c 1 2,scT (Sc.tx c),scR (Sc.rd c),⟨118,true,Rs.d (Qgk _)⟩]⟩ (gc [0,1,2,4]) ⟨c,Qgk _,_,rfl,rfl,.inl ⟨Qon I hI c n hc _,rfl⟩⟩
def Qxc(I:Nat->Kn->Prop)(hI:Qro I)(c:Sc)(n:Nat)(hn:n<=2000)(hc:c.sm n)(t:Sp)(ht:t.kind=2):QhX I c n t:=by
 refine QO (fn:=Tryz.f46) Tryz.func46 rfl (by kernel_rfl) (by simp[Tryz.f46]) ?_
 obtain⟨k,tx,pg,torn,cut,a⟩:=t
 dsimp only at ht
 subst ht
 (unfold Tryz.f46; refine rn trivial ?_)
 refine QkX (c:=c) 0 1 2 (QEh c n hn hc ⟨2,tx,pg,torn,cut,a⟩) rfl rfl rfl (by decide) (by decide) (by decide) rfl rfl ?_ (fun _ _ h=>absurd rfl h.1) ?_
 ·rintro c1 r1 ⟨-,q1,-,q2⟩ B
  refine rn trivial ?_
  exact QC ⟨132,3,[(4,.ptr 3 0)],[scB c1 1 2,scT (Sc.tx c1),scR (Sc.rd c1),⟨118,true,Rs.d (r1)⟩]⟩ (gc [0,1,2,4]) ⟨c1,r1,_,rfl,rfl,.inl ⟨⟨q1,fun m=>hI m 1 _ _ q2⟩,rfl⟩⟩
 ·rintro c1 r1 ⟨-,q1,-,q2⟩ B
  refine rn trivial ?_
  exact QC ⟨132,3,[(4,.ptr 4 0)],[scB c1 1 3,scT c1.tx,QqG,scR c1.rd,⟨118,true,r1.d⟩]⟩ (gc [0,1,2,5,4]) ⟨c1,r1,_,rfl,rfl,.inr (.inr ⟨⟨q1,fun m=>hI m 1 _ _ q2⟩,rfl⟩)⟩
def Qxd(I:Nat->Kn->Prop)(hI:Qro I)(c:Sc)(n:Nat)(hn:n<=2000)(hc:c.sm n)(t:Sp)(ht:t.kind=1):QhX I c n t:=by
 refine QO (fn:=Tryz.f46) Tryz.func46 rfl (by kernel_rfl) (by simp[Tryz.f46]) ?_
 obtain⟨k,tx,pg,torn,cut,a⟩:=t
 dsimp only at ht
 subst ht
 have c1:=Qs2 c.s hc.1
 (unfold Tryz.f46; refine rn trivial ?_)
 have hb:(c.tx.length+1)*8<=140737488355328:=by have:=hc.2.1; omega
 have F:=@hb
 refine rn F ?_
 repeat' (first
  | with_reducible exact⟨⟩
  | (refine sB F ?_ ?_<;>intro hZ)
  | (refine Qp (c1) rfl ?_; rintro⟨s2,n2,e2⟩ hq; refine rn F ?_))
 rotate_left
 ·refine QkX (c:=c) 0 1 2 (Qhg c s2 e2) rfl rfl rfl (by decide) (by decide) (by decide) rfl rfl ?_ (fun _ _ h=>absurd h.1 (by decide)) (fun _ _ h=>absurd h.1 (by decide))
  rintro _ _ ⟨-,rfl,rfl⟩ B
  obtain⟨k1,k2⟩:=Quw I hI hc.1 hq
  generalize (if e2=0 then s2 else c.s)=s' at *
  refine rn trivial ?_
  exact QC ⟨132,3,[(4,.ptr 3 0)],[scB ⟨s',c.tx,c.rd,c.dead⟩ 1 2,scT (Sc.tx ⟨s',c.tx,c.rd,c.dead⟩),scR (Sc.rd ⟨s',c.tx,c.rd,c.dead⟩),⟨118,true,Rs.d ({ Qgk e2 with tx:=n2 })⟩]⟩ (gc [0,1,2,4]) ⟨⟨s',c.tx,c.rd,c.dead⟩,{ Qgk e2 with tx:=n2 },_,rfl,rfl,.inl ⟨⟨⟨k1,Jh hc.2.1,Jh hc.2.2⟩,k2⟩,rfl⟩⟩
 have hl:(c.tx++[n2]).length=c.tx.length+1:=by simp
 generalize c.tx++[n2]=l at *
 rw[<- hl]
 refine QkX (c:=⟨c.s,l,c.rd,c.dead⟩) 0 7 2 (Qhg ⟨c.s,l,c.rd,c.dead⟩ s2 e2) rfl rfl rfl (by decide) (by decide) (by decide) rfl rfl ?_ (fun _ _ h=>absurd h.1 (by decide)) (fun _ _ h=>absurd h.1 (by decide))
 rintro _ _ ⟨-,rfl,rfl⟩ B
 obtain⟨k1,k2⟩:=Quw I hI hc.1 hq
 generalize (if e2=0 then s2 else c.s)=s' at *
 have h1:=hc.2.1
 refine rn trivial ?_
 exact QC ⟨132,3,[(4,.ptr 4 0)],[scB ⟨s',l,c.rd,c.dead⟩ 3 2,Qvt,scR c.rd,scT l,⟨118,true,Rs.d { Qgk e2 with tx:=n2 }⟩]⟩ (gc [0,1,2,7,4]) ⟨⟨s',l,c.rd,c.dead⟩,{ Qgk e2 with tx:=n2 },_,rfl,rfl,.inr (.inl ⟨⟨⟨k1,by dsimp only; omega,Jh hc.2.2⟩,k2⟩,rfl⟩)⟩
end
section
attribute [local go_sem] Qbp
def Qw5(I:Nat->Kn->Prop)(hI:Qro I)(c:Sc)(n:Nat)(hc:c.sm n)(t:Sp)(h1:t.kind≠1)(h2:t.kind≠2)(h3:t.kind≠3)(h4:t.kind≠4)(h5:t.kind≠5)(h6:t.kind≠6)(h7:t.kind≠7):QhX I c n t:=by
 refine QO (fn:=Tryz.f46) Tryz.func46 rfl (by kernel_rfl) (by simp[Tryz.f46]) ?_
 have c1:=Qag 1
 (unfold Tryz.f46; refine rn (Ja @h1 (Ja @h2 (Ja @h3 (Ja @h4 (Ja @h5 (Ja @h6 @h7)))))) ?_)
 have F:=(Ja @h1 (Ja @h2 (Ja @h3 (Ja @h4 (Ja @h5 (Ja @h6 @h7))))))
 refine rn F ?_
 repeat' (first
  | with_reducible exact⟨⟩
  | refine vp F (c1) ?_)
 exact QC ⟨132,3,[(4,.ptr 3 0)],[scB c 1 2,scT (Sc.tx c),scR (Sc.rd c),⟨118,true,Rs.d (QaH 1)⟩]⟩ (gc [0,1,2,4]) ⟨c,QaH 1,_,rfl,rfl,.inl ⟨Qon I hI c n hc _,rfl⟩⟩
def Qw6(I:Nat->Kn->Prop)(hI:Qro I)(c:Sc)(n:Nat)(hn:n<=2000)(hc:c.sm n)(t:Sp)(h6:t.kind=6->QhX I c n t):QhX I c n t:=by
 by_cases q1:t.kind=1
 ·exact Qxd I hI c n hn hc t q1
 by_cases q2:t.kind=2
 ·exact Qxc I hI c n hn hc t q2
 by_cases q3:t.kind=3
 ·exact Qxb I hI c n hn hc t q3
 by_cases q4:t.kind=4
 ·exact Qxa I hI c n hn hc t q4
 by_cases q5:t.kind=5
 ·exact Qw9 I hI c n hn hc t q5
 by_cases q6:t.kind=6
 ·exact h6 q6
 by_cases q7:t.kind=7
 ·exact Qw7 I hI c n hn hc t q7
 exact Qw5 I hI c n hc t q1 q2 q3 q4 q5 q6 q7
def QnX:Enc Sp:=⟨9,fun t=>[.lit (.int .i64 t.kind),.lit (.int .i64 t.tx),.lit (.int .i64 t.pg),.lit (.int .i64 t.torn),.lit (.int .i64 t.cut),.lit (.int .i64 t.a.kind),.lit (.int .i64 t.a.pg),.lit (.int .i64 t.a.sl),.str t.a.data],by decide,fun _=>rfl⟩
def QG2(l:List Sp):(cells QnX l).length=l.length*9:=QS QnX l
def QHR(l:List Sp)(n:Nat)(h:l.length*9<=n):(cells QnX l).take n=cells QnX l:=by rw[Jl]; rw[QG2]; exact h
def QHE(h:l.length=len):QhC n hp 0 9 len (some (cells QnX l))=some (.sl (fz QnX l)):=Q4 QnX h
def Sp0:Sp:=⟨0,0,0,0,0,0,0,0,[]⟩
def QEQ(l:List Sp)(i:Nat)(h:i<l.length):(fz QnX l)[i]?=some [.lit (.int .i64 (l.getD i Sp0).kind),.lit (.int .i64 (l.getD i Sp0).tx),.lit (.int .i64 (l.getD i Sp0).pg),.lit (.int .i64 (l.getD i Sp0).torn),.lit (.int .i64 (l.getD i Sp0).cut),.lit (.int .i64 (l.getD i Sp0).a.kind),.lit (.int .i64 (l.getD i Sp0).a.pg),.lit (.int .i64 (l.getD i Sp0).a.sl),.str (l.getD i Sp0).a.data]:=Qdt QnX l Sp0 i h
attribute [go_sem] QG2 QHR QHE
def Qes:Enc Rs:=⟨6,fun r=>[.lit (.int .i64 r.st),.lit (.int .i64 r.tx),.lit (.int .i64 r.pg),.lit (.bool r.cell.set),.str r.cell.data,.lit (.int .i64 r.er)],by decide,fun _=>rfl⟩
def QEE(l:List Rs):(cells Qes l).length=l.length*6:=QS Qes l
def QGN(l:List Rs)(n:Nat)(h:l.length*6<=n):(cells Qes l).take n=cells Qes l:=by rw[Jl]; rw[QEE]; exact h
def QGs(h:l.length=len):QhC n hp 0 6 len (some (cells Qes l))=some (.sl (fz Qes l)):=Q4 Qes h
def QFe(l:List Rs)(a b c:Int)(x:Bool)(s:List UInt8)(d:Int):cells Qes l++[.pv (.lit (.int .i64 a)),.pv (.lit (.int .i64 b)),.pv (.lit (.int .i64 c)),.pv (.lit (.bool x)),.pv (.str s),.pv (.lit (.int .i64 d))]=cells Qes (l++[⟨a,b,c,⟨x,s⟩,d⟩]):=by rw[QF]; rfl
attribute [go_sem] QEE QGN QGs QFe
def QHj(l:List Rd):DV.wk.go (cells QmN l)=cells QmN l:=Qbr QmN l fun a p hp=>by
 simp[QmN] at hp
 rcases hp with h | h | h | h | h | h<;>subst h<;>rfl
def QFT(l:List Rs):DV.wk.go (cells Qes l)=cells Qes l:=Qbr Qes l fun a p hp=>by
 simp[Qes] at hp
 rcases hp with h | h | h | h | h | h<;>subst h<;>rfl
attribute [go_sem] QHj QFT
structure Ru(I:Nat->Kn->Prop)(s:Sv)(l:List Sp) where
 i:Nat
 c:Sc
 out:List Rs
 hi:i<=l.length
 h1:i<=1000
 hc:c.sm i
 ho:out.length=i
 hI:I 0 s.k->I i c.s.k
@[go_sem] def QHz(a:Sv×List Rs×List Rd):DV:=.tup [.agg a.1.d,.pv (.sl (fz Qes a.2.1)),.pv (.sl (fz QmN a.2.2))]
def QD1(I:Nat->Kn->Prop)(hI:Qro I)(s:Sv)(hs:s.sm)(l:List Sp)(h6:∀ i,i<l.length->(l.getD i Sp0).kind=6->∀ c n,n<=2000->c.sm n->QhX I c n (l.getD i Sp0)):VCalls prog 35 [.agg s.d,.pv (.sl (fz QnX l))] [] (QI QHz fun a=>a.1.sm/\(I 0 s.k->∃ i,i<=l.length/\I i a.1.k)):=by
 refine dk Tryz.func35 ?_
 (unfold Tryz.f35; refine rn trivial ?_)
 refine VLoop.nilOwnC 2 18 3 1 rfl rfl ?_
 refine VLoop.nilOwnC 2 19 156 6 rfl rfl ?_
 refine VLoop.nilOwn 8 118 6 rfl ?_
 refine rn trivial ?_
 refine Qj (fun r:Ru I s l=>⟨48,0,[(9,.int .i64 r.i),(8,.own 4 6 0 r.out.length),(7,.ptr 1 0),(4,.ptr 0 0),(1,.pv (.sl (fz QnX l)))],[⟨74,true,Zv⟩,scB r.c 2 3,scT r.c.tx,scR r.c.rd,⟨118,true,cells Qes r.out⟩]⟩) (fun r=>l.length-r.i) ⟨0,⟨s,[],[],false⟩,[],Jc _,by decide,⟨hs,Jc _,Jc _⟩,rfl,id⟩ (gc [1,2,3,4,5]) ?_
 rintro⟨i,c,out,hi,h1,hc,ho,h⟩
 dsimp only
 unfold Zv
 have hg:=fun h:i<l.length=>QEQ l i h
 have hb:(out.length+1)*72<=140737488355328:=by omega
 obtain⟨sv,tx,rd,dead⟩:=c
 cases dead
 rotate_left
 ·skip
  have F:=@hg
  refine rn F ?_
  repeat' (first
   | with_reducible exact⟨⟩
   | (refine sG F ?_ ?_<;>intro hZ)
   | (refine Qbh (id:=7) [[],[0],[0,1],[0,1,2],[],[],[5],[5,6],[5,6,7],[0,1,2,3],[0,1,2,3,4,9],[0,1,2,3,4,5,6,7,8,9,10]] [0,1,2,3,4,5,6,7,8] [⟨[],[],9,[4,5,6,7,8],[]⟩,⟨[],[],10,[5,6,7,8],[]⟩,⟨[],[],11,[],[]⟩] (by kernel_rfl) (by kernel_rfl) (by kernel_rfl) ?_; refine rn F ?_))
  all_goals exact⟨rfl,rfl,(sv,out,rd),rfl,hc.1,fun x=>⟨i,hi,h x⟩⟩
 have F:=@hg
 refine rn F ?_
 repeat' (first
  | with_reducible exact⟨⟩
  | (refine sG F ?_ ?_<;>intro hZ)
  | (refine Qbh (id:=7) [[],[0],[0,1],[0,1,2],[],[],[5],[5,6],[5,6,7],[0,1,2,3],[0,1,2,3,4,9],[0,1,2,3,4,5,6,7,8,9,10]] [0,1,2,3,4,5,6,7,8] [⟨[],[],9,[4,5,6,7,8],[]⟩,⟨[],[],10,[5,6,7,8],[]⟩,⟨[],[],11,[],[]⟩] (by kernel_rfl) (by kernel_rfl) (by kernel_rfl) ?_; refine rn F ?_))
 all_goals first | exact⟨rfl,rfl,(sv,out,rd),rfl,hc.1,fun x=>⟨i,hi,h x⟩⟩ | skip
 have hil:i<l.length:=by omega
 refine QkX (c:=⟨sv,tx,rd,false⟩) 1 2 3 (Qw6 I hI _ i (by omega) hc (l.getD i Sp0) (fun hk=>h6 i hil hk _ i (by omega) hc)) rfl rfl rfl (by decide) (by decide) (by decide) rfl rfl ?_ ?_ ?_
 all_goals
  rintro c1 r1 ⟨q1,q2⟩ B
  refine rn @hb ?_
  have hl2:(out++[r1]).length=out.length+1:=by simp
  refine⟨⟨i+1,c1,out++[r1],hil,by omega,q1,by rw[hl2]; omega,fun x=>q2 i (h x)⟩,by dsimp only; omega,?_⟩
  dsimp only
  rw[hl2]
 ·exact(gc [0,1,2,3,7])
 ·exact(gc [0,1,5,3,8])
 ·exact(gc [0,1,2,5,8])
end
section
attribute [local go_sem] cb cc
def QE9(b:Int)(hb:0<=b/\b<=255):∃ y:UInt8,b=(y.toNat:Int):=⟨UInt8.ofNat b.toNat,by simp only[UInt8.toNat_ofNat']; omega⟩
def Qug{α:Type}{n:Nat}{A B:α}(hn:n<=1000000000):(if 0<=(n:Int)/\((1:Nat):Int)*n<=281474976710656/\(n:Int)<=9223372036854775807 then A else B)=A:=
 if_pos ⟨by omega,by omega,by omega⟩
abbrev Dx(n:Nat):DV->Prop:=fun r=>∃ t:List UInt8,r=.pv (.str t)/\t.length<=n
structure DSt(n:Nat) where
 c:C
 l:List UInt8
 hl:l.length<=n
def QE2(c:C):VCalls prog 91 [.ptr 0 0] [cb c] (CX (Dx 13)):=by
 refine dd Tryz.func91 ?_
 (unfold Tryz.f91; refine rn trivial ?_)
 refine Qa2 (k:=0) (c:=c) (QaM c 5 (by omega) (by omega)) rfl rfl ?_
 rintro _ c1 ⟨z,rfl,hz⟩
 refine rn trivial ?_
 refine Qa2 (k:=0) (c:=c1) (QaM c1 6 (by omega) (by omega)) rfl rfl ?_
 rintro _ c2 ⟨z2,rfl,hz2⟩
 have hcw:=fun(hp:Qa) (k o n:Nat)=>QgN (hp:=hp) (k:=k) (off:=o) (len:=n) QGD
 have mk:=fun(n:Nat) (h:n<=1000000000) (A B:Option (DV×Qa))=>Qug (n:=n) (A:=A) (B:=B) h
 refine rn F ?_
 repeat' (first
  | with_reducible exact⟨⟩
  | (refine sB F ?_ ?_<;>intro hZ))
 case' refine_1=>
  refine Qa2 (k:=0) (c:=c2) (QaM c2 14 (by omega) (by omega)) rfl rfl ?_
  rintro _ c3 ⟨n,rfl,hn⟩
 case' refine_2=>
  obtain⟨n,rfl,hn⟩:∃ n:Nat,n=z/\n<14:=⟨z,rfl,by omega⟩
  obtain⟨c3,rfl⟩:∃ c3,c3=c2:=⟨c2,rfl⟩
 all_goals
  have hm:=fun A B=>mk n (by omega) A B
  have hr:JJ 0 (0:UInt8)=[]:=rfl
  refine rn (Ja @hm @hr) ?_
  refine Qj (fun i:DSt n=>⟨29,1,[(5,.int .i64 i.l.length),(3,.int .i64 n),(4,.own 1 1 0 i.l.length),(0,.ptr 0 0)],[cb i.c,⟨5,true,cells QfT i.l⟩]⟩) (fun i=>n-i.l.length) ⟨c3,[],Jc _⟩ (gc [0,1]) ?_
  rintro⟨c4,l,hl⟩
  dsimp only
  have hvc:=fun hp:Qa=>@Qfw hp l _ rfl
  by_cases hc:l.length<n
  ·skip
   refine rn F ?_
   refine Qa2 (k:=0) (c:=c4) (QaM c4 3 (by omega) (by omega)) rfl rfl ?_
   rintro r c5 ⟨y,rfl,hy⟩
   obtain⟨u,hu⟩:∃ u:UInt8,97+(y:Int)=(u.toNat:Int):=QE9 _ (by omega)
   have e2:cells QfT l++[.pv (.lit (.int .u8 u.toNat))]=cells QfT (l++[u]):=(QF QfT l [u]).symm
   have e3:(cells QfT l).take l.length=cells QfT l:=by rw[Jl]; rw[QdZ]; exact Jr _
   have hub:u.toNat<256:=u.toNat_lt
   have hs2:l.length<=140737488355327:=by omega
   refine rn (Ja @hu (Ja @hs2 (Ja @e3 @e2))) ?_
   have hl2:(l++[u]).length=l.length+1:=by simp
   refine⟨⟨c5,l++[u],by rw[hl2]; omega⟩,by dsimp only; rw[hl2]; omega,?_⟩
   dsimp only
   rw[hl2]
   exact(gc [0,3])
  ·skip
   have F:=(Ja @hcw @hvc)
   refine rn F ?_
   exact⟨_,rfl,rfl,Qcp _,rfl,⟨_,rfl,by omega⟩,c4,rfl⟩
end
section
attribute [local go_sem] cb cc
def Qus(i:Nat)(h:i<12):∃ n:Int,([.pv (.lit (.int .i64 1)),.pv (.lit (.int .i64 1)),.pv (.lit (.int .i64 2)),.pv (.lit (.int .i64 2)),.pv (.lit (.int .i64 2)),.pv (.lit (.int .i64 3)),.pv (.lit (.int .i64 4)),.pv (.lit (.int .i64 5)),.pv (.lit (.int .i64 6)),.pv (.lit (.int .i64 7)),.pv (.lit (.int .i64 2)),.pv (.lit (.int .i64 4))]:List DV)[i]?=some (.int .i64 n):=by
 have e:([.pv (.lit (.int .i64 1)),.pv (.lit (.int .i64 1)),.pv (.lit (.int .i64 2)),.pv (.lit (.int .i64 2)),.pv (.lit (.int .i64 2)),.pv (.lit (.int .i64 3)),.pv (.lit (.int .i64 4)),.pv (.lit (.int .i64 5)),.pv (.lit (.int .i64 6)),.pv (.lit (.int .i64 7)),.pv (.lit (.int .i64 2)),.pv (.lit (.int .i64 4))]:List DV)=([1,1,2,2,2,3,4,5,6,7,2,4]:List Int).map (DV.int .i64):=rfl
 refine⟨([1,1,2,2,2,3,4,5,6,7,2,4]:List Int)[i]'h,?_⟩
 rw[e,List.getElem?_map,List.getElem?_eq_getElem h]; rfl
def Qzj(c:C)(m:Nat)(h1:1<=m)(h2:m<=1000):VCalls prog 74 [.ptr 0 0,.int .i64 m] [cb c] (CX fun r=>∃ a:Ac,r=.agg a.d):=by
 refine dd Tryz.func74 ?_
 (unfold Tryz.f74; refine rn trivial ?_)
 refine Qa2 (k:=0) (c:=c) (QaM c 12 (by omega) (by omega)) rfl rfl ?_
 rintro _ c1 ⟨y,rfl,hy⟩
 obtain⟨n,hn⟩:=Qus y hy
 have F:=@hn
 refine rn F ?_
 repeat' (first
  | with_reducible exact⟨⟩
  | (refine sB F ?_ ?_<;>intro hZ)
  | (refine Qa2 (k:=0) (QaM _ 2 (by omega) (by omega)) rfl rfl ?_; rintro _ _ ⟨_,rfl,_⟩; refine rn F ?_)
  | (refine Qa2 (k:=0) (QaM _ 40 (by omega) (by omega)) rfl rfl ?_; rintro _ _ ⟨_,rfl,_⟩; refine rn F ?_)
  | (refine Qa2 (k:=0) (QaM _ m (by omega) (by omega)) rfl rfl ?_; rintro _ _ ⟨_,rfl,_⟩; refine rn F ?_)
  | (refine Qa2 (k:=0) (QE2 _) rfl rfl ?_; rintro _ _ ⟨_,rfl,_⟩; refine rn F ?_)
  | (refine Qa2 (k:=0) (QGp _) rfl rfl ?_; rintro _ _ ⟨_,rfl,_⟩; refine rn F ?_))
 all_goals first
  | exact⟨_,rfl,rfl,Qcp _,rfl,⟨⟨_,_,_,_⟩,rfl⟩,_,rfl⟩
  | skip
end
section
attribute [local go_sem] cb cc
def QEc(n:Int)(h:1<=n/\n<=64):VCalls prog 45 [.int .i64 n] [] (QI dvD fun a=>dvQ a/\a.2=0):=by
 refine dk Tryz.func45 ?_
 have c1:=QtE n
 (unfold Tryz.f45; refine rn trivial ?_)
 refine rn F ?_
 repeat' (first
  | with_reducible exact⟨⟩
  | (refine Qp (c1 (by omega)) rfl ?_; rintro l hl; refine rn F ?_))
 all_goals first
  | (exfalso; omega)
  | exact⟨rfl,rfl,(⟨l,0,false⟩,0),rfl,hl,rfl⟩
  | skip
def Qrl(n m:Int):Kn:=⟨n,1,Lg1,⟨m,[],0⟩,Lk0,[],JJ n.toNat Rw0,[]⟩
def QD4(n m:Int)(h:1<=n/\n<=64)(h2:1<=m/\m<=64):VCalls prog 44 [.int .i64 n,.int .i64 m] [] (QI kiD fun a=>a.1.sm/\a.2=0/\a.1=Qrl n m):=by
 refine dk Tryz.func44 ?_
 have c1:=Qs4 m
 have c2:=Qov n
 have c3:=QBj
 have hf:Qid m=(⟨m,[],0⟩,0):=by unfold Qid; rw[if_neg (by omega)]
 rw[hf] at c1
 (unfold Tryz.f44; refine rn trivial ?_)
 refine rn F ?_
 repeat' (first
  | with_reducible exact⟨⟩
  | refine vp F (c1) ?_
  | (refine Qp (c2) rfl ?_; rintro⟨l,e⟩ hl; refine rn F ?_)
  | refine vp F (c3) ?_
  | (refine Qd (id:=5) [0,2,3] [⟨[],[],1,[0,2,3],[4]⟩,⟨[],[],5,[],[]⟩,⟨[],[],6,[],[]⟩] (by kernel_rfl) (by kernel_rfl) ?_; refine rn F ?_))
 all_goals first
  | (exfalso; omega)
  | skip
 have e1:=hl.2.1 (hl.2.2 h.1 h.2)
 dsimp only at e1
 subst e1
 exact⟨rfl,rfl,(Qrl n m,0),rfl,⟨Jc _,Jc _,Jc _,Q0 _,hl.1,Jc _⟩,rfl,rfl⟩
def QDZ(n m:Int)(h:1<=n/\n<=64)(h2:1<=m/\m<=64):VCalls prog 34 [.int .i64 n,.int .i64 m] [] (QI svD fun a=>a.1.sm/\a.2=0/\a.1.k=Qrl n m):=by
 refine dk Tryz.func34 ?_
 have c1:=QD4 n m h h2
 have c2:=QEc n h
 (unfold Tryz.f34; refine rn trivial ?_)
 refine Qp c1 rfl ?_
 rintro⟨k,e⟩ ⟨hk,he,hg⟩
 dsimp only at hk he hg
 subst he
 refine rn trivial ?_
 refine Qp c2 rfl ?_
 rintro⟨v,e⟩ ⟨hv,he⟩
 dsimp only at he
 subst he
 refine rn trivial ?_
 exact⟨rfl,rfl,(⟨k,v⟩,0),rfl,⟨hk,hv⟩,rfl,hg⟩
def QGH(l:List Sp)(a b c d e f g h:Int)(s:List UInt8):cells QnX l++[.pv (.lit (.int .i64 a)),.pv (.lit (.int .i64 b)),.pv (.lit (.int .i64 c)),.pv (.lit (.int .i64 d)),.pv (.lit (.int .i64 e)),.pv (.lit (.int .i64 f)),.pv (.lit (.int .i64 g)),.pv (.lit (.int .i64 h)),.pv (.str s)]=cells QnX (l++[⟨a,b,c,d,e,⟨f,g,h,s⟩⟩]):=by rw[QF]; rfl
def spB:Sp:=⟨1,0,0,0,0,⟨0,0,0,[]⟩⟩
end
def Qtb(t:Lk)(h:1024<t.sum)(h2:t.held.length<=10000000/\t.wait.length<=10000000):VCalls prog 156 [.agg t.d] [] (Ret (.bool false)):=by
 refine dd Tryz.func156 ?_
 unfold Lk.sum at h
 have h':(1024:Int)<t.held.length+t.wait.length:=by omega
 (unfold Tryz.f156; refine rn @h' ?_; try with_reducible exact⟨⟩)
def Kn.smX(k:Kn):Prop:=k.lg.es.length<=4096/\k.pl.fs.length<=64/\smN 65 k.tx/\k.ix.length<=64/\k.la.length<=10000
def QBf(k:Kn)(hk:k.smX)(h:1024<k.lk.sum)(hq:k.lk.held.length<=10000000/\k.lk.wait.length<=10000000):VCalls prog 111 [.agg k.d] [] (Ret (.bool false)):=by
 refine dd Tryz.func111 ?_
 obtain⟨h1,h2,h4,h5,h6⟩:=hk
 have c1:=Qaz k.lg (by omega)
 have c2:=Qaq k.pl (by omega)
 have c3:=Qtb k.lk h hq
 generalize lgB k.lg=b1 at *
 generalize plB k.pl=b2 at *
 (unfold Tryz.f111; refine rn trivial ?_)
 refine rn F ?_
 repeat' (first
  | with_reducible exact⟨⟩
  | (refine sG F ?_ ?_<;>intro hZ)
  | refine vp F (c1) ?_
  | refine vp F (c2) ?_
  | refine vp F (c3) ?_)
 all_goals first | rfl | skip
def Qxq(k:Kn)(hk:k.smX)(h:1024<k.lk.sum)(hq:k.lk.held.length<=10000000/\k.lk.wait.length<=10000000):VCalls prog 87 [.agg k.d] [] (Ret (.bool false)):=by
 refine dd Tryz.func87 ?_
 have c1:=QBf k hk h hq
 (unfold Tryz.f87; refine rn trivial ?_)
 refine rn F ?_
 repeat' (first
  | with_reducible exact⟨⟩
  | refine vp F (c1) ?_)
 all_goals first | rfl | skip
def adK(x:Lg)(a:An)(n:Int):Kn:=⟨a.pg,a.nx,x,(Qid n).1,⟨a.lk,[]⟩,a.lo,a.ix,a.la⟩
def QCh(h:l.map (·.id)=m.map (·.id))(a:Int):idT l a=idT m a:=by
 have e:∀ l:List Tx,idT l a=QgH (l.map (·.id)) fun n=>n==a:=fun l=>by
  unfold idT QgH
  rw[List.any_map,List.findIdx_map]
  rfl
 rw[e,e,h]
def QfN(h:QbG l=true)(hi:i<l.length):idT l (l.getD i Tx0).id=i:=by
 have hs:=Qef h
 rw[Qf _ _ hi]
 rcases QE l l[i].id with hn | ⟨j,hj,h1,h2⟩
 ·have:=(Qj4 (l:=l) (a:=l[i].id)).2 (Ke.2 ⟨l[i],Jq hi,rfl⟩)
  omega
 ·rw [h1]
  rw[List.pairwise_iff_getElem] at hs
  rcases Nat.lt_trichotomy i j with h3 | h3 | h3
  ·have:=hs i j (by simpa using hi) (by simpa using hj) h3
   rw[JL,JL] at this
   omega
  ·omega
  ·have:=hs j i (by simpa using hj) (by simpa using hi) h3
   rw[JL,JL] at this
   omega
def QnF(h:(QV l e).2=0)(hk:e.kind=4)(ht:0<e.tx)(ha:a≠e.tx)(h0:0<=idT l a):Qbl (QV l e).1 a=Qbl l a:=by
 have hid:=QCh (QlQ h ⟨by omega,by omega⟩) a
 unfold Qbl
 rw[hid]
 unfold QV at h |-
 split at h
 ·simp at h
 rename_i q1
 split at h
 ·simp at h
 rename_i q2
 split at h
 ·omega
 rename_i q3
 split at h
 ·simp at h
 rename_i q4
 rw[if_neg q1,if_neg q2,if_neg q3,if_neg q4]
 rcases QE l e.tx with hn | ⟨i,hi,hid2,he⟩
 ·omega
 rcases QE l a with hn | ⟨j,hj,hjd,hja⟩
 ·omega
 rw[hid2,Jn] at h |-
 unfold QlS at h |-
 split at h
 ·simp at h
 rename_i q5
 split at h
 ·rename_i q6; omega
 rename_i q6
 rw[if_neg q5,if_neg q6,hjd,Jn]
 have hij:i≠j:=fun h=>ha (by subst h; rw[<- hja,<- he])
 simp only[Ji,List.getElem?_set_ne hij]
structure AdS(x:Lg)(a:An)(n:Int) where
 i:Nat
 k:Kn
 hi:i<=a.lo.length
 hk:k.sm
 he:Str 0 (adK x a n) k
 hl:∀ j,i<=j->j<a.lo.length->0<=idT k.tx (a.lo.getD j Tx0).id/\Qbl k.tx (a.lo.getD j Tx0).id=a.lo.getD j Tx0
def AdS.nx{a:An}{i:Nat}{k k1:Kn}(ht:QbG a.lo=true)(hq:Qwb k e (k1,n1,e1))(h:e1=0)(hk:e.kind=4)(hil:i<a.lo.length)(he:e.tx=(a.lo.getD i Tx0).id)(hl:∀ j,i<=j->j<a.lo.length->0<=idT k.tx (a.lo.getD j Tx0).id/\Qbl k.tx (a.lo.getD j Tx0).id=a.lo.getD j Tx0):∀ j,i+1<=j->j<a.lo.length->0<=idT k1.tx (a.lo.getD j Tx0).id/\Qbl k1.tx (a.lo.getD j Tx0).id=a.lo.getD j Tx0:=fun j h1 h2=>by
 obtain⟨q1,q2⟩:=hl j (by omega) h2
 refine⟨QmG hq h ⟨by omega,by omega⟩ q1,?_⟩
 obtain⟨e',⟨v,s,_,_,_,hn,_⟩,hk1,_,_⟩:=hq.2 h
 dsimp only at hk1
 subst hk1
 have i1:=QfN ht hil
 have i2:=QfN ht h2
 have ho:=Qt4 (Qdl hn).2
 have hne:(a.lo.getD j Tx0).id≠e'.tx:=fun q=>by
  rw[s.2.1,he] at q
  rw[q,i1] at i2
  omega
 have hpos:0<e'.tx:=by
  have:=QbB ht hil
  rw[s.2.1,he,Qf _ _ hil]
  simp only[Tx.okB,Tx.hdB,Jd,decide_eq_true_eq] at this
  omega
 exact(QnF hn (by rw[s.1]; exact hk) hpos hne q1).trans q2
def adQ(x:Lg)(a:An)(n:Int)(r:Kn×Int):Prop:=r.1.sm/\(r.2=0->kB (adK x a n)=true/\(adK x a n).pl.fs=[]/\Str 0 (adK x a n) r.1)
def QxL(x:Lg)(hx:x.es.length<=4096)(a:An)(ha:a.sm 10000)(n:Int):VCalls prog 155 [.agg x.c,.agg a.d,.int .i64 n] [] (QI kiD (adQ x a n)):=by
 refine dk Tryz.func155 ?_
 obtain⟨h1,h2,h3,h4⟩:=ha
 have c1:=Qs4 n
 have hf:=QxS n
 have had:adK x a n=⟨a.pg,a.nx,x,(Qid n).1,⟨a.lk,[]⟩,a.lo,a.ix,a.la⟩:=rfl
 unfold adQ
 have hst0:=fun k=>Str 0 (adK x a n) k
 clear hst0
 generalize hpn:Qid n=p at *
 obtain⟨p,e0⟩:=p
 dsimp only at c1 hf had
 have err:∀ z,z≠0->QI kiD (fun r:Kn×Int=>r.1.sm/\(r.2=0->kB (adK x a n)=true/\(adK x a n).pl.fs=[]/\Str 0 (adK x a n) r.1)) (kiD (Kn0,z)) []:=fun z hz=>⟨rfl,rfl,(Kn0,z),rfl,Qca,fun h=>absurd h hz⟩
 (unfold Tryz.f155; refine rn trivial ?_)
 refine rn F ?_
 repeat' (first
  | with_reducible exact⟨⟩
  | (refine sB F ?_ ?_<;>intro hZ)
  | refine vp F (c1) ?_)
 all_goals first | exact err 1 (by decide) | skip
 by_cases hs:a.lk.length<=1024
 rotate_left
 ·have c2:=Qxq ⟨a.pg,a.nx,x,p,⟨a.lk,[]⟩,a.lo,a.ix,a.la⟩ ⟨hx,by dsimp only; rw [hf]; exact Jc _,h1,h4,h3⟩ (by unfold Lk.sum; simp; omega) ⟨by dsimp only; omega,Jc _⟩
  refine rn F ?_
  refine VCalls.wkH ?_; simp only[QgI,Qe7,Qex,QdE,DV.wk,PV.wk,QFV]
  refine rn F ?_
  repeat' (first
   | with_reducible exact⟨⟩
   | refine vp F (c2) ?_)
  exact err 15 (by decide)
 have hk0:(⟨a.pg,a.nx,x,p,⟨a.lk,[]⟩,a.lo,a.ix,a.la⟩:Kn).sm:=⟨hx,by dsimp only; rw[hf]; exact Jc _,by unfold Lk.sum; simp; omega,h1,h4,h3⟩
 have c2:=QbZ ⟨a.pg,a.nx,x,p,⟨a.lk,[]⟩,a.lo,a.ix,a.la⟩ hk0
 refine rn F ?_
 refine VCalls.wkH ?_; simp only[QgI,Qe7,Qex,QdE,DV.wk,PV.wk,QFV]
 cases hv:kB ⟨a.pg,a.nx,x,p,⟨a.lk,[]⟩,a.lo,a.ix,a.la⟩
 ·rw [hv] at c2
  refine rn F ?_
  repeat' (first
   | with_reducible exact⟨⟩
   | refine vp F (c2) ?_)
  exact err 15 (by decide)
 rw[hv] at c2
 rw[<- had] at hv
 have htb:QbG a.lo=true:=by have:=(Qj3 hv).2.2.2.2.1; rw[had] at this; exact this
 refine rn F ?_
 repeat' (first
  | with_reducible exact⟨⟩
  | refine vp F (c2) ?_)
 have hlo:=h1.1
 have hpf:(adK x a n).pl.fs=[]:=by rw[had]; exact hf
 refine Qj (fun s:AdS x a n=>⟨72,0,[(11,.int .i64 s.i),(10,.ptr 4 0),(6,.ptr 2 0),(4,.ptr 1 0)],[⟨28,true,x.c⟩,⟨252,true,a.d⟩,⟨41,true,Kn.d Kn0⟩,⟨31,true,p.d⟩,⟨41,true,s.k.d⟩]⟩) (fun s=>a.lo.length-s.i) ⟨0,⟨a.pg,a.nx,x,p,⟨a.lk,[]⟩,a.lo,a.ix,a.la⟩,Jc _,hk0,by rw[had]; exact Str.refl _,fun j _ hj=>by
  have i1:=QfN htb hj
  exact⟨by dsimp only; rw[i1]; omega,Qee i1⟩⟩ (gc [0,1,2,3,4]) ?_
 rintro⟨i,k,hi,hk,he,hl⟩
 dsimp only
 by_cases hil:i<a.lo.length
 rotate_left
 ·skip
  refine rn F ?_
  exact⟨rfl,rfl,(k,0),rfl,hk,fun _=>⟨hv,hpf,he⟩⟩
 have hg:=Qep a.lo i hil
 have hl0:=hl i (Jr _) hil
 have hfp:(a.lo.getD i Tx0).st≠3->QFq k ⟨0,4,(a.lo.getD i Tx0).id,0,0,0,Ch0,[]⟩:=fun h=>⟨hl0.1,fun _=>by dsimp only; rw[hl0.2]; exact h,fun h=>by simp at h⟩
 have hnx:=fun k1 n1 e1 hq h=>AdS.nx (k1:=k1) (n1:=n1) (e1:=e1) htb (e:=⟨0,4,(a.lo.getD i Tx0).id,0,0,0,Ch0,[]⟩) hq h rfl hil rfl hl
 generalize htt:a.lo.getD i Tx0=t at *
 have c3:=Qej k hk ⟨0,4,t.id,0,0,0,Ch0,[]⟩
 have F:=@hg
 refine rn F ?_
 repeat' (first
  | with_reducible exact⟨⟩
  | (refine sB F ?_ ?_<;>intro hZ)
  | (refine Qp (c3) rfl ?_; rintro⟨k1,n1,e1⟩ hq; refine rn F ?_)
  | (refine Qd (id:=11) [0,1,2,3,4,5,6,7] [⟨[],[],8,[1,2,3,4,5,6],[9,10,11,12]⟩,⟨[],[],13,[11,12],[]⟩,⟨[],[],14,[],[]⟩] (by kernel_rfl) (by kernel_rfl) ?_; refine rn F ?_))
 all_goals first
  | exact err _ (by assumption)
  | exact⟨⟨i+1,k,hil,hk,he,fun j h1 h2=>hl j (by omega) h2⟩,by dsimp only; omega,(gc [0,1,2,3,4])⟩
  | exact⟨⟨i+1,k1,hil,hq.1,he.trans (QgO hq (by assumption) (.inr (.inl rfl)) (hfp (by assumption))),hnx k1 n1 e1 hq (by assumption)⟩,by dsimp only; omega,(gc [0,1,2,3,4])⟩
  | skip
def unf(s:List UInt8)(a:Int):List UInt8×Int×Int:=
 if a<0\/(s.length:Int)<a then ([],0,1)
 else if ¬ a.toNat+4<=s.length then ([],0,5)
 else if 8392<n4 s a.toNat then ([],0,2)
 else if ¬ a.toNat+4+n4 s a.toNat+4<=s.length then ([],0,5)
 else if ¬ (n4 s (a.toNat+4+n4 s a.toNat):Int)=Qna ((s.take (a.toNat+4+n4 s a.toNat)).drop a.toNat) then ([],0,3)
 else ((s.take (a.toNat+4+n4 s a.toNat)).drop (a.toNat+4),(a.toNat+4+n4 s a.toNat+4:Nat),0)
def Qzp(s:List UInt8)(a:Int):(unf s a).1.length<=s.length/\((unf s a).2.2=0->0<=a/\0<=(unf s a).2.1/\(unf s a).2.1<=s.length):=by
 unfold unf
 split
 ·exact⟨Jc _,fun h=>by simp at h⟩
 rename_i h1
 split
 ·exact⟨Jc _,fun h=>by simp at h⟩
 split
 ·exact⟨Jc _,fun h=>by simp at h⟩
 split
 ·exact⟨Jc _,fun h=>by simp at h⟩
 rename_i h2
 split
 ·exact⟨Jc _,fun h=>by simp at h⟩
 ·refine⟨by dsimp only; rw[JB,Jm]; omega,fun _=>⟨by omega,by dsimp only; omega,by dsimp only; omega⟩⟩
def QFC(s:List UInt8)(a:Int):DV:=.tup [.pv (.str (unf s a).1),.int .i64 (unf s a).2.1,.int .i64 (unf s a).2.2]
def QiK(s:List UInt8)(hs:s.length<=100000000)(a:Int):VCalls prog 196 [.pv (.str s),.int .i64 a] [] (Ret (QFC s a)):=by
 refine dd Tryz.func196 ?_
 unfold QFC unf
 by_cases h1:a<0
 ·rw [if_pos (.inl h1)]
  (unfold Tryz.f196; refine rn @h1 ?_; try with_reducible exact⟨⟩)
 ·by_cases h2:(s.length:Int) < a
  ·rw [if_pos (.inr h2)]
   (unfold Tryz.f196; refine rn (Ja @h1 @h2) ?_; try with_reducible exact⟨⟩)
  ·rw [if_neg (by omega)]
   obtain⟨k,rfl⟩:∃ k:Nat,a=k:=⟨a.toNat,by omega⟩
   rw[Jn]
   by_cases h3:k+4<=s.length
   ·rw [if_neg (by omega)]
    have hn:=QBN s k
    (unfold Tryz.f196; refine rn (Ja @h1 @h2) ?_)
    refine Qaa (QD9 s (by omega) k h3) rfl ?_
    by_cases h4:8392<n4 s k
    ·rw [if_pos h4]
     have h4':8392<(n4 s k:Int):=by omega
     (refine rn @h4' ?_; try with_reducible exact⟨⟩)
    ·rw [if_neg h4]
     have h4':¬ 8392<(n4 s k:Int):=by omega
     have hw:IntKind.u32.wrap (n4 s (k+4+n4 s k):Int)=(n4 s (k+4+n4 s k):Int):=by
      have:=QBN s (k+4+n4 s k)
      simp[IntKind.wrap,IntKind.signed,IntKind.bits]; omega
     by_cases h5:k+4+n4 s k+4<=s.length
     ·rw [if_neg (by omega)]
      have hg:=QD9 s (by omega) (k+4+n4 s k) h5
      have e:(((k+4+n4 s k:Nat)):Int)=(k:Int)+4+(n4 s k:Int):=by omega
      rw[e] at hg
      have h5':¬ (s.length:Int)-(k:Int)<(n4 s k:Int)+8:=by omega
      refine rn (Ja @h4' @h5') ?_
      refine Qaa hg rfl ?_
      have ht:((k:Int)+4+(n4 s k:Int)).toNat=k+4+n4 s k:=by omega
      have q1:(0:Int)<=(k:Int)+4+(n4 s k:Int):=by omega
      have q2:k<=k+4+n4 s k:=by omega
      have q3:k+4+n4 s k<=s.length:=by omega
      have hx:=Qm9 ((s.take (k+4+n4 s k)).drop k)
      refine rn (Ja @ht (Ja @q1 (Ja @q2 (Ja @q3 @hw)))) ?_
      refine Qaa (Qop _ (by rw[JB,Jm]; omega)) rfl ?_
      by_cases h6:(n4 s (k+4+n4 s k):Int)=Qna ((s.take (k+4+n4 s k)).drop k)
      ·rw [if_neg (by omega)]
       have q4:((k:Int)+4).toNat=k+4:=by omega
       have q5:k+4<=k+4+n4 s k:=by omega
       have q6:(0:Int)<=(k:Int)+4:=by omega
       have e8:(((k+4+n4 s k+4:Nat)):Int)=(k:Int)+8+(n4 s k:Int):=by omega
       refine rn (Ja @h6 (Ja @ht (Ja @q1 (Ja @q2 (Ja @q3 (Ja @q4 (Ja @q5 @q6))))))) ?_
       rw[e8]
      ·rw [if_pos h6]
       (refine rn @h6 ?_; try with_reducible exact⟨⟩)
     ·rw [if_pos (by omega)]
      have h5':(s.length:Int)-(k:Int)<(n4 s k:Int)+8:=by omega
      (refine rn (Ja @h4' @h5') ?_; try with_reducible exact⟨⟩)
   ·rw [if_pos h3]
    (unfold Tryz.f196; refine rn (Ja @h1 @h2) ?_)
    refine Qaa (QdP s k 4 (by omega) (by omega) (by omega)) rfl ?_
    (refine rn trivial ?_; try with_reducible exact⟨⟩)
section
structure RS(s:List UInt8) where
 at_:Int
 e:Int
 h:0<=at_/\at_<=s.length
def QnE(s:List UInt8)(a k:Nat):Int:=IntKind.i64.wrap (Qfp s a k)
def Qc2(s:List UInt8)(r:RS s)(k:Nat):Int×RS s:=
 if r.e=0 then if h:r.at_+k<=s.length then (QnE s r.at_.toNat k,⟨r.at_+k,0,by have:=r.h; omega⟩) else (0,⟨r.at_,5,r.h⟩) else (0,r)
def QfC(s:List UInt8)(r:RS s)(n:Int):List UInt8×RS s:=
 if r.e=0 then if h:0<=n/\r.at_+n<=s.length then ((s.take (r.at_+n).toNat).drop r.at_.toNat,⟨r.at_+n,0,by have:=r.h; omega⟩) else ([],⟨r.at_,5,r.h⟩) else ([],r)
def Qq2(s:List UInt8)(p:Int×RS s):Ce×RS s :=
 if p.2.e=0/\¬ p.1=255 then
  if 12<p.1 then (Ce0,⟨p.2.at_,4,p.2.h⟩) else (⟨true,(QfC s p.2 p.1).1⟩,(QfC s p.2 p.1).2)
 else (Ce0,p.2)
def QfX(s:List UInt8)(r:RS s):Ce×RS s:=Qq2 s (Qc2 s r 1)
def QnD(s:List UInt8)(a k:Nat)(h:k<=7):0<=QnE s a k/\QnE s a k<2 ^ (8*k):=by
 have h1:=Qfo s a k (by omega)
 have h2:=Ql0 s a k
 have h3:(2:Nat) ^ (8*k)<=2 ^ 56:=Jx (by omega) (by omega)
 have h4:((2:Int) ^ (8*k))=((2 ^ (8*k):Nat):Int):=by rw[JV]; rfl
 unfold QnE
 rw[h1,IntKind.wrap_i64,h4]
 omega
def Qt8(s:List UInt8)(r:RS s)(k:Nat)(h:k<=7):0<=(Qc2 s r k).1:=by
 unfold Qc2
 split
 ·split
  ·exact(QnD s _ k h).1
  ·exact JA _
 ·exact JA _
abbrev RC(B:Blk)(d:DV):DV->Qa->Prop:=fun r h'=>∃ B',h'=[B']/\B'.live=true/\DV.nums.go (fun _=>false) B'.cells=true/\r.nums (fun _=>false)=true/\(r=d/\B'=B)
def rdB(T:TypeId)(s:List UInt8)(r:RS s):Blk:=⟨T,true,[.pv (.str s),.int .i64 r.at_,.int .i64 r.e]⟩
attribute [go_sem] rdB
attribute [local go_sem] Ce.d
def QeB(h:VCalls prog g (args.map (DV.ren fun _=>0)) [rdB T s r0] (RC (rdB T s r1) d))(hk:hp[k]?=some (rdB T s r0))(ha:DV.nums.go (fun i=>i==k) args=true)(hK:K d (hp.set k (rdB T s r1))):VCalls prog g args hp K:=
 (VCalls.ptr1 (R:=fun r B'=>r=d/\B'=rdB T s r1) hk rfl rfl h ha).mono fun r h' ⟨B',e1,_,_,e2,e3⟩=>by subst e1 e2 e3; exact hK
def Qcn(s:List UInt8)(hs:s.length<=100000000)(r:RS s)(k:Nat)(hk:1<=k/\k<=8):VCalls prog 227 [.ptr 0 0,.int .i64 k] [rdB 325 s r] (RC (rdB 325 s (Qc2 s r k).2) (.int .i64 (Qc2 s r k).1)):=by
 refine dd Tryz.func227 ?_
 obtain⟨a,e,ha⟩:=r
 obtain⟨n,rfl⟩:∃ n:Nat,a=n:=⟨a.toNat,by omega⟩
 unfold Qc2
 dsimp only
 by_cases he:e=0
 ·subst he
  rw[if_pos rfl]
  by_cases h:(n:Int)+k<=s.length
  ·rw [dif_pos h]
   have hg:=QiM s (by omega) n k hk (by omega)
   (unfold Tryz.f227; refine rn trivial ?_)
   refine Qd (id:=3) [0,1,2,3,4,5,6,7,8] [⟨[],[],9,[0,1,2,4,5,6],[10,11,12]⟩,⟨[],[],13,[12],[]⟩,⟨[],[],14,[],[]⟩] (by kernel_rfl) (by kernel_rfl) ?_
   refine rn trivial ?_
   refine Qaa hg rfl ?_
   refine rn trivial ?_
   exact⟨_,rfl,rfl,rfl,rfl,rfl,rfl⟩
  ·rw [dif_neg h]
   have hg:=QdP s n k (by omega) (by omega) h
   (unfold Tryz.f227; refine rn trivial ?_)
   refine Qd (id:=3) [0,1,2,3,4,5,6,7,8] [⟨[],[],9,[0,1,2,4,5,6],[10,11,12]⟩,⟨[],[],13,[12],[]⟩,⟨[],[],14,[],[]⟩] (by kernel_rfl) (by kernel_rfl) ?_
   refine rn trivial ?_
   refine Qaa hg rfl ?_
   refine rn trivial ?_
   exact⟨_,rfl,rfl,rfl,rfl,rfl,rfl⟩
 ·rw [if_neg he]
  (unfold Tryz.f227; refine rn @he ?_)
  exact⟨_,rfl,rfl,rfl,rfl,rfl,rfl⟩
def QoX(s:List UInt8)(hs:s.length<=100000000)(r:RS s)(n:Int)(hn:0<=n/\n<=4294967296):VCalls prog 229 [.ptr 0 0,.int .i64 n] [rdB 325 s r] (RC (rdB 325 s (QfC s r n).2) (.pv (.str (QfC s r n).1))):=by
 refine dd Tryz.func229 ?_
 obtain⟨a,e,ha⟩:=r
 obtain⟨n,rfl⟩:∃ m:Nat,n=m:=⟨n.toNat,by omega⟩
 obtain⟨a,rfl⟩:∃ m:Nat,a=m:=⟨a.toNat,by omega⟩
 unfold QfC
 dsimp only
 by_cases he:e=0
 ·subst he
  rw[if_pos rfl]
  by_cases h:0<=(n:Int)/\(a:Int)+n<=s.length
  ·rw [dif_pos h]
   have q1:¬ (s.length:Int)-a<n:=by omega
   have q2:¬ (s.length:Int)-a<n:=by omega
   have q3:¬ (s.length:Int)-(a:Int)<(n:Int):=by omega
   have q4:((a:Int)+n).toNat=a+n:=by omega
   have q5:(a:Int)+n-n=a:=by omega
   have q6:a<=a+n:=by omega
   have q7:a+n<=s.length:=by omega
   have q8:0<=(a:Int)+n:=by omega
   have q9:(a:Int).toNat=a:=by omega
   have q10:¬ (n:Int) > (s.length:Int)-a:=by omega
   (unfold Tryz.f229; refine rn @q3 ?_)
   refine Qgh (by kernel_rfl) (by kernel_rfl) ?_
   refine rn (Ja @q3 @q10) ?_
   refine Qgh (by kernel_rfl) (by kernel_rfl) ?_
   refine rn (Ja @q4 (Ja @q5 (Ja @q6 (Ja @q7 @q8)))) ?_
   exact⟨_,rfl,rfl,rfl,rfl,rfl,rfl⟩
  ·rw [dif_neg h]
   have q3:(s.length:Int)-(a:Int)<(n:Int):=by omega
   (unfold Tryz.f229; refine rn @q3 ?_)
   refine Qgh (by kernel_rfl) (by kernel_rfl) ?_
   refine rn @q3 ?_
   exact⟨_,rfl,rfl,rfl,rfl,rfl,rfl⟩
 ·rw [if_neg he]
  (unfold Tryz.f229; refine rn @he ?_)
  exact⟨_,rfl,rfl,rfl,rfl,rfl,rfl⟩
def Ql3(s:List UInt8)(hs:s.length<=100000000)(r:RS s):VCalls prog 228 [.ptr 0 0] [rdB 325 s r] (RC (rdB 325 s (QfX s r).2) (.agg (QfX s r).1.d)):=by
 refine dd Tryz.func228 ?_
 have hn:=Qcn s hs r 1 (by omega)
 have h0:=Qt8 s r 1 (by omega)
 have h1:(Qc2 s r 1).1<=255:=by
  unfold Qc2
  split
  ·split
   ·have:=(QnD s r.at_.toNat 1 (by omega)).2; dsimp only; omega
   ·simp
  ·simp
 unfold QfX
 generalize Qc2 s r 1=p at hn h0 h1 |-
 obtain⟨n,r1⟩:=p
 unfold Qq2
 dsimp only at hn h0 h1 |-
 (unfold Tryz.f228; refine rn trivial ?_)
 refine QeB (k:=0) hn rfl rfl ?_
 by_cases he:r1.e=0
 ·by_cases h2:n = 255
  ·subst h2
   rw[if_neg (by simp)]
   refine rn @he ?_
   exact⟨_,rfl,rfl,rfl,rfl,rfl,by rw[<- he]⟩
  ·rw [if_pos ⟨he,h2⟩]
   by_cases h3:12<n
   ·rw [if_pos h3]
    refine rn (Ja @he (Ja @h2 @h3)) ?_
    exact⟨_,rfl,rfl,rfl,rfl,rfl,rfl⟩
   ·rw [if_neg h3]
    have ht:=QoX s hs r1 n (by omega)
    refine rn (Ja @he (Ja @h2 @h3)) ?_
    have e9:(⟨325,true,[.pv (.str s),.int .i64 r1.at_,.int .i64 0]⟩:Blk)=rdB 325 s r1:=by rw[rdB,he]
    rw[e9]
    refine QeB (k:=0) ht rfl rfl ?_
    refine rn trivial ?_
    exact⟨_,rfl,rfl,rfl,rfl,rfl,rfl⟩
 ·rw [if_neg (fun h=>he h.1)]
  refine rn @he ?_
  exact⟨_,rfl,rfl,rfl,rfl,rfl,rfl⟩
end
section
attribute [local go_sem] Ce.d
def rs0(s:List UInt8):RS s:=⟨0,0,by omega⟩
def Qx3(s:List UInt8)(r:RS s):(Qc2 s r 4).1<=4294967296:=by
 unfold Qc2
 split
 ·split
  ·have:=(QnD s r.at_.toNat 4 (by omega)).2; dsimp only; omega
  ·simp
 ·simp
def Qvr(s:List UInt8):E×RS s:=
 let p1:=Qc2 s (rs0 s) 8
 let p2:=Qc2 s p1.2 1
 let p3:=Qc2 s p2.2 4
 let p4:=Qc2 s p3.2 8
 let p5:=Qc2 s p4.2 8
 let p6:=Qc2 s p5.2 8
 let p7:=Qc2 s p6.2 4
 let p8:=Qc2 s p7.2 1
 let c1:=QfX s p8.2
 let c2:=QfX s c1.2
 let p9:=Qc2 s c2.2 4
 let t:=QfC s p9.2 p9.1
 (⟨p1.1,p2.1,p3.1,p4.1,p5.1,p6.1,⟨p7.1,p8.1,c1.1,c2.1⟩,t.1⟩,t.2)
def Qrn(s:List UInt8):E×Int:=
 if (Qvr s).2.e=0 then if (Qvr s).2.at_=s.length then if (Qvr s).1.okB=true then ((Qvr s).1,0) else (E0,12) else (E0,4) else (E0,(Qvr s).2.e)
def Qql(s:List UInt8)(hs:s.length<=100000000):VCalls prog 198 [.pv (.str s)] [] (Ret (.tup [.agg (Qrn s).1.d,.int .i64 (Qrn s).2])):=by
 have hp1:=Qcn s hs (rs0 s) 8 (by omega)
 generalize hqp1:Qc2 s (rs0 s) 8=p1 at hp1
 have hp2:=Qcn s hs p1.2 1 (by omega)
 generalize hqp2:Qc2 s p1.2 1=p2 at hp2
 have hp3:=Qcn s hs p2.2 4 (by omega)
 generalize hqp3:Qc2 s p2.2 4=p3 at hp3
 have hp4:=Qcn s hs p3.2 8 (by omega)
 generalize hqp4:Qc2 s p3.2 8=p4 at hp4
 have hp5:=Qcn s hs p4.2 8 (by omega)
 generalize hqp5:Qc2 s p4.2 8=p5 at hp5
 have hp6:=Qcn s hs p5.2 8 (by omega)
 generalize hqp6:Qc2 s p5.2 8=p6 at hp6
 have hp7:=Qcn s hs p6.2 4 (by omega)
 generalize hqp7:Qc2 s p6.2 4=p7 at hp7
 have hp8:=Qcn s hs p7.2 1 (by omega)
 generalize hqp8:Qc2 s p7.2 1=p8 at hp8
 have hc1:=Ql3 s hs p8.2
 generalize hqc1:QfX s p8.2  = c1 at hc1
 have hc2:=Ql3 s hs c1.2
 generalize hqc2:QfX s c1.2  = c2 at hc2
 have hp9:=Qcn s hs c2.2 4 (by omega)
 generalize hqp9:Qc2 s c2.2 4=p9 at hp9
 have ht:=QoX s hs p9.2 p9.1 ⟨by rw[<- hqp9]; exact Qt8 s _ 4 (by omega),by rw[<- hqp9]; exact Qx3 s _⟩
 generalize hqt:QfC s p9.2 p9.1=t at ht
 have hd:Qvr s=(⟨p1.1,p2.1,p3.1,p4.1,p5.1,p6.1,⟨p7.1,p8.1,c1.1,c2.1⟩,t.1⟩,t.2):=by
  unfold Qvr
  simp only[hqp1,hqp2,hqp3,hqp4,hqp5,hqp6,hqp7,hqp8,hqc1,hqc2,hqp9,hqt]
 have hv:=QcS ⟨p1.1,p2.1,p3.1,p4.1,p5.1,p6.1,⟨p7.1,p8.1,c1.1,c2.1⟩,t.1⟩
 unfold Qrn
 rw[hd]
 clear hqt hqp9 hqc2 hqc1 hqp8 hqp7 hqp6 hqp5 hqp4 hqp3 hqp2 hqp1 hd
 obtain⟨n1,r1⟩:=p1
 obtain⟨n2,r2⟩:=p2
 obtain⟨n3,r3⟩:=p3
 obtain⟨n4,r4⟩:=p4
 obtain⟨n5,r5⟩:=p5
 obtain⟨n6,r6⟩:=p6
 obtain⟨n7,r7⟩:=p7
 obtain⟨n8,r8⟩:=p8
 obtain⟨x1,r9⟩:=c1
 obtain⟨x2,r10⟩:=c2
 obtain⟨n9,r11⟩:=p9
 obtain⟨tt,r12⟩:=t
 dsimp only at *
 refine dd Tryz.func198 ?_
 (unfold Tryz.f198; refine rn trivial ?_)
 have e0:(⟨325,true,[.pv (.str s),.int .i64 0,.int .i64 0]⟩:Blk)=rdB 325 s (rs0 s):=rfl
 rw[e0]
 refine QeB (k:=1) hp1 rfl rfl ?_
 refine rn trivial ?_
 refine QeB (k:=1) hp2 rfl rfl ?_
 refine rn trivial ?_
 refine QeB (k:=1) hp3 rfl rfl ?_
 refine rn trivial ?_
 refine QeB (k:=1) hp4 rfl rfl ?_
 refine rn trivial ?_
 refine QeB (k:=1) hp5 rfl rfl ?_
 refine rn trivial ?_
 refine QeB (k:=1) hp6 rfl rfl ?_
 refine rn trivial ?_
 refine QeB (k:=1) hp7 rfl rfl ?_
 refine rn trivial ?_
 refine QeB (k:=1) hp8 rfl rfl ?_
 refine rn trivial ?_
 refine QeB (k:=1) hc1 rfl rfl ?_
 refine rn trivial ?_
 refine QeB (k:=1) hc2 rfl rfl ?_
 refine rn trivial ?_
 refine QeB (k:=1) hp9 rfl rfl ?_
 refine rn trivial ?_
 refine QeB (k:=1) ht rfl rfl ?_
 refine rn trivial ?_
 by_cases he:r12.e=0
 ·rw [if_pos he]
  by_cases ha:r12.at_=s.length
  ·rw [if_pos ha]
   refine rn (Ja @he @ha) ?_
   by_cases hb:E.okB ⟨n1,n2,n3,n4,n5,n6,⟨n7,n8,x1,x2⟩,tt⟩=true
   ·rw [if_pos hb]
    rw[hb] at hv
    refine Qaa hv rfl ?_
    refine rn trivial ?_
    first | exact⟨⟩ | rfl
   ·rw [if_neg hb]
    have hb:E.okB ⟨n1,n2,n3,n4,n5,n6,⟨n7,n8,x1,x2⟩,tt⟩=false:=by simpa using hb
    rw[hb] at hv
    refine Qaa hv rfl ?_
    refine rn trivial ?_
    rfl
  ·rw [if_neg ha]
   refine rn (Ja @he @ha) ?_
   rfl
 ·rw [if_neg he]
  refine rn @he ?_
  refine Qgh (by kernel_rfl) (by kernel_rfl) ?_
  refine rn trivial ?_
  rfl
end
def Qg8(s:List UInt8)(a l:Int):Option (E×Int):=if (unf s a).2.2=0/\(Qrn (unf s a).1).2=0/\(Qrn (unf s a).1).1.lsn=l then some ((Qrn (unf s a).1).1,(unf s a).2.1) else none
def opn (s:List UInt8):Nat->Int->Int->List E
 | 0,_,_=>[]
 | n + 1,a,l=>match Qg8 s a l with
   | some (x,b)=>x::opn s n b (l+1)
   | none=>[]
def QDo(s:List UInt8):List E:=opn s 4096 (unf s 0).2.1 (QnE (unf s 0).1 4 8)
def hdO(s:List UInt8):Prop:=(unf s 0).2.2=0/\(unf s 0).1.length=12/\(unf s 0).1.take 4=[80,77,76,71]/\1<=QnE (unf s 0).1 4 8/\QnE (unf s 0).1 4 8<=1099511627776
instance (s:List UInt8):Decidable (hdO s):=by unfold hdO; infer_instance
def Qcl(s:List UInt8):Lg×Int:=if hdO s then (⟨QnE (unf s 0).1 4 8,QDo s,QnE (unf s 0).1 4 8+(QDo s).length-1⟩,0) else (Lg0,4)
def Qt2 (s:List UInt8):∀ n a l,(opn s n a l).length<=n
 | 0,_,_=>Jr _
 | n + 1,a,l=>by
   unfold opn
   split
   ·rw[Jo]; have:=Qt2 s n; exact JT (this _ _)
   ·exact Jc _
def QoJ(n:Nat)(h:Qg8 s a l=none):opn s n a l=[]:=by
 cases n
 ·rfl
 ·unfold opn; rw[h]
def QsF(h:(unf s a).2.2≠0):Qg8 s a l=none:=if_neg fun x=>h x.1
structure Op(s:List UInt8)(f a0:Int) where
 l:List E
 a:Int
 hl:l.length<=4096
 h:l++opn s (4096-l.length) a (f+l.length)=opn s 4096 a0 f
def Op.start(s:List UInt8)(f a0:Int):Op s f a0:=⟨[],a0,Jc _,by simp⟩
def Qx0(hn:n<4096)(h:Qg8 s a l=some (x,b)):opn s (4096-n) a l=x::opn s (4096-(n+1)) b (l+1):=by
 obtain⟨m,hm⟩:∃ m,4096-n=m+1:=⟨4095-n,by omega⟩
 rw[hm,show 4096-(n+1)=m by omega]
 conv=>lhs; unfold opn
 rw[h]
def Op.next{s:List UInt8}{f a0:Int}(o:Op s f a0)(hn:o.l.length<4096){x:E}{b:Int}(h:Qg8 s o.a (f+o.l.length)=some (x,b)):Op s f a0:=⟨o.l++[x],b,by simp; omega,by
 have:=o.h
 rw[Qx0 hn h] at this
 rw[<- this,Jb,Jt,Jg,List.singleton_append]
 congr 3
 omega⟩
def Op.stop(o:Op s f a0)(h:o.l.length<4096->Qg8 s o.a (f+o.l.length)=none):opn s 4096 a0 f=o.l:=by
 rw[<- o.h]
 by_cases hc:o.l.length<4096
 ·rw[QoJ _ (h hc),Js]
 ·have:=o.hl
  rw[show 4096-o.l.length=0 by omega]; exact Js _
def QBh(s:List UInt8)(hs:s.length<=100000000):VCalls prog 153 [.pv (.str s)] [] (Ret (lgD (Qcl s))):=by
 refine VCalls.unwk ?_
 refine dd Tryz.func153 ?_
 have c0:=QiK s hs 0
 have hu:=Qzp s 0
 generalize hR:Qcl s=R
 unfold QFC at c0
 generalize hU:unf s 0=u at *
 obtain⟨u,a0,e0⟩:=u
 dsimp only at hu c0
 (unfold Tryz.f153; refine rn trivial ?_)
 by_cases he:e0=0
 rotate_left
 ·skip
  have F:=@he
  refine rn F ?_
  repeat' (first
   | with_reducible exact⟨⟩
   | refine vp F (c0) ?_)
  all_goals
   rw[<- hR]
   unfold Qcl
   rw[if_neg (fun h=>by have h1:=h.1; rw[hU] at h1; exact he h1)]
   rfl
 subst he
 by_cases hl:u.length=12
 rotate_left
 ·have hl2:¬ (u.length:Int) = 12:=by omega
  have F:=@hl2
  refine rn F ?_
  repeat' (first
   | with_reducible exact⟨⟩
   | refine vp F (c0) ?_)
  all_goals first
   | (rw[<- hR]; unfold Qcl; rw[if_neg (fun h=>by have h1:=h.2.1; rw[hU] at h1; exact hl h1)]; rfl)
   | (exfalso; omega)
 have h4:4<=u.length:=by omega
 have c3:=QiM u (by omega) 4 8 (by omega) (by omega)
 have hN:IntKind.i64.wrap (Qfp u 4 8)=QnE u 4 8:=rfl
 rw[hN] at c3
 generalize hn:QnE u 4 8=f at *
 have hl3:(u.length:Int)=12:=by omega
 by_cases hp:u.take 4=[80,77,76,71]
 rotate_left
 ·skip
  have F:=(Ja @h4 (Ja @hl3 @hp))
  refine rn F ?_
  repeat' (first
   | with_reducible exact⟨⟩
   | (refine sG F ?_ ?_<;>intro hZ)
   | (refine sB F ?_ ?_<;>intro hZ)
   | refine vp F (c0) ?_
   | refine vp F (c3) ?_)
  all_goals first
   | (rw[<- hR]; unfold Qcl; rw[if_neg (fun h=>by have h1:=h.2.2.1; rw[hU] at h1; exact hp h1)]; rfl)
   | (exfalso; omega)
   | skip
  all_goals (exfalso; simp_all)
 by_cases hf:1<=f/\f<=1099511627776
 rotate_left
 ·skip
  have F:=(Ja @h4 (Ja @hl3 @hp))
  refine rn F ?_
  repeat' (first
   | with_reducible exact⟨⟩
   | (refine sG F ?_ ?_<;>intro hZ)
   | refine vp F (c0) ?_
   | refine vp F (c3) ?_)
  all_goals first
   | (rw[<- hR]; unfold Qcl; rw[if_neg (fun h=>by have h1:=h.2.2.2; rw[hU,hn] at h1; exact hf h1)]; rfl)
   | (exfalso; omega)
 have F:=(Ja @h4 (Ja @hl3 @hp))
 refine rn F ?_
 repeat' (first
  | with_reducible exact⟨⟩
  | refine vp F (c0) ?_
  | refine vp F (c3) ?_)
 all_goals first | (exfalso; omega) | skip
 refine VLoop.nilOwnC 1 1 57 13 rfl rfl ?_
 refine rn trivial ?_
 refine Qj (fun o:{o:Op s f a0×Int // o.2=f+o.1.l.length-1}=>⟨90,0,[(9,.ptr 1 0),(5,.int .i64 o.1.1.a),(2,.ptr 0 0),(0,.pv (.str s))],[⟨28,true,[.int .i64 0,.pv (.slc []),.int .i64 0]⟩,⟨28,true,[.int .i64 f,.own 2 13 0 o.1.1.l.length,.int .i64 o.1.2]⟩,⟨57,true,cells encE o.1.1.l⟩]⟩) (fun o=>4096-o.1.1.l.length) ⟨(Op.start s f a0,f-1),by simp[Op.start]⟩ (gc [0,1,2]) ?_
 rintro⟨⟨o,d⟩,hd⟩
 dsimp only at hd |-
 have hol:=o.hl
 have hst:=o.stop
 have c4:=QiK s hs o.a
 unfold QFC at c4
 have hu2:=Qzp s o.a
 have hso:Qg8 s o.a (f+o.l.length)=if (unf s o.a).2.2=0/\(Qrn (unf s o.a).1).2=0/\(Qrn (unf s o.a).1).1.lsn=f+o.l.length then some ((Qrn (unf s o.a).1).1,(unf s o.a).2.1) else none:=rfl
 generalize unf s o.a=v at *
 obtain⟨v,b,e⟩:=v
 dsimp only at hu2 hso c4
 have c5:=Qql v (by omega)
 generalize Qrn v=D at *
 have hb:(o.l.length+1)*128<=140737488355328:=by omega
 have fin:(o.l.length<4096->Qg8 s o.a (f+o.l.length)=none)->DV.tup [.agg [.int .i64 f,.pv (.sl (fz encE o.l)),.int .i64 d],.int .i64 0]=lgD R:=fun h=>by
  have h1:hdO s:=by unfold hdO; rw[hU,hn]; exact⟨rfl,hl,hp,hf⟩
  have h2:QDo s=o.l:=by unfold QDo; rw[hU,hn]; exact hst h
  rw[<- hR,hd]
  unfold Qcl
  rw[if_pos h1,h2,hU,hn]
  rfl
 have F:=@hb
 refine rn F ?_
 repeat' (first
  | with_reducible exact⟨⟩
  | (refine sG F ?_ ?_<;>intro hZ)
  | (refine sB F ?_ ?_<;>intro hZ)
  | refine vp F (c4) ?_
  | refine vp F (c5) ?_)
 ·exact fin fun _=>by rw[hso,if_neg fun h=>by have h1:=h.1; omega]
 ·exact fin fun _=>by rw[hso,if_neg fun h=>by have h1:=h.2.1; have h2:=h.2.2; omega]
 ·have hl1:(o.l ++ [D.1]).length = o.l.length + 1:=by simp
  refine⟨⟨(o.next (by omega) (x:=D.1) (b:=b) (by rw[hso,if_pos ⟨by omega,by omega,by omega⟩]),D.1.lsn),?_⟩,?_,?_⟩
  ·dsimp only[Op.next]; rw[hl1]; omega
  ·dsimp only[Op.next]; rw[hl1]; omega
  ·dsimp only [Op.next]
   rw[hl1]
   exact(gc [0,1,5])
 ·exact fin fun _=>by rw[hso,if_neg fun h=>by have h1:=h.2.1; omega]
 ·exact fin fun h=>by omega
def Ql1:∀ {k:Nat},(∀ i,i<k->s.getD (a+i) 0=t.getD (b+i) 0)->leN s a k=leN t b k
 | 0,_=>rfl
 | k+1,h=>by rw[leN,leN,Ql1 (fun i hi=>h i (by omega)),h k (by omega)]
def Quo(s t:List UInt8)(n:Int)(k:Nat)(hk:k<=8):leN (Qm s n k++t) s.length k=u64N n % 2 ^ (8*k):=by
 have h:=QhV s t n k hk k (Jr _)
 rw[Qfo _ _ _ hk] at h
 omega
def frq(q:List UInt8):List UInt8:=Qm [] q.length 4++q
def QnS(q:List UInt8):(frq q).length=q.length+4:=by rw[frq,Jb,Qe]; simp; omega
def Qu0(h:q.length<=8392):frm q=Qm (frq q) (Qna (frq q)) 4:=by rw[frm,if_pos h]; rfl
def QhD(h:q.length<=8392):(frm q).length=q.length+8:=by rw[Qu0 h,Qe,QnS]
def QtN(p q:List UInt8)(n:Int)(k:Nat):p++Qm q n k=Qm (p++q) n k:=by simp[Qm]
def QuZ(h:q.length<=8392)(p r:List UInt8):p++(frm q++r)=Qm (p++frq q) (Qna (frq q)) 4++r:=by
 rw[Qu0 h,<- QtN,Jg]
def QEy(h:q.length<=8392)(p r:List UInt8):n4 (p++(frm q++r)) p.length=q.length:=by
 have:=Quo p (q++((Kg 4).map (Qmw (Qna (frq q)))++r)) q.length 4 (by omega)
 have e:p++(frm q++r)=Qm p q.length 4++(q++((Kg 4).map (Qmw (Qna (frq q)))++r)):=by
  rw[Qu0 h]
  generalize Qna (frq q)=z
  simp only[frq,Qm,JN,Jg]
 rw[n4,e,this]
 unfold u64N; omega
def QEx(h:q.length<=8392)(p r:List UInt8):(n4 (p++(frm q++r)) (p.length+4+q.length):Int)=Qna (frq q):=by
 have:=Quo (p++frq q) r (Qna (frq q)) 4 (by omega)
 have hx:=Qm9 (frq q)
 have hl:(p++frq q).length=p.length+4+q.length:=by rw[Jb,QnS]; omega
 rw[QuZ h,n4,<- hl,this]
 unfold u64N; omega
def QET(h:q.length<=8392)(p r:List UInt8):((p++(frm q++r)).take (p.length+4+q.length)).drop p.length=frq q:=by
 have hl:(p++frq q).length=p.length+4+q.length:=by rw[Jb,QnS]; omega
 rw[QuZ h,Qm,Jg,List.take_left' hl,JS]
def Qzq(h:q.length<=8392)(p r:List UInt8):unf (p++(frm q++r)) p.length=(q,((p.length+(q.length+8):Nat):Int),0):=by
 have h1:=QEy h p r
 have h2:=QEx h p r
 have h3:=QET h p r
 have hl:=QhD h
 have hs:(p++(frm q++r)).length=p.length+(q.length+8)+r.length:=by rw[Jb,Jb,hl]; omega
 unfold unf
 rw[Jn,if_neg (by omega),if_neg (by omega),h1,if_neg (by omega),if_neg (by omega),h2,h3,if_neg (by simp)]
 have e:((p++(frm q++r)).take (p.length+4+q.length)).drop (p.length+4)=q:=by
  rw[<- List.drop_drop,h3,frq,List.drop_left' (by rw[Qe]; rfl)]
 rw[e]
 congr 2
 omega
def QAJ(h:q.length<=8392)(p:List UInt8)(k:Nat)(hk:k<q.length+8):(unf (p++(frm q).take k) p.length).2.2=5:=by
 have hl:=QhD h
 have hs:(p++(frm q).take k).length=p.length+k:=by rw[Jb,Jm]; omega
 unfold unf
 rw[Jn,if_neg (by omega)]
 by_cases h4:k<4
 ·rw[if_pos (by omega)]
 have h1:=QEy h p []
 have h0:n4 (p++(frm q).take k) p.length=q.length:=by
  rw[<- h1]
  refine Ql1 fun i hi=>?_
  rw[Ji,Ji,JR (by omega),JR (by omega),J4,if_pos (by omega),Js]
 rw[if_neg (by omega),h0,if_neg (by omega),if_pos (by omega)]
def QAI(p:List UInt8):(unf p p.length).2.2=5:=by
 unfold unf
 rw[Jn,if_neg (by omega),if_pos (by omega)]
def Qt7(s p:List UInt8)(n:Int)(k:Nat)(hk:k<=8)(hp:Qm p n k <+: s)(h:0<=n/\n<2 ^ (8*k)/\n<=9223372036854775807):QnE s p.length k=n:=by
 obtain⟨t,rfl⟩:=hp
 unfold QnE
 rw[QhV p t n k hk k (Jr _)]
 have e:u64N n % 2 ^ (8*k)=n.toNat:=by
  have h1:u64N n=n.toNat:=by unfold u64N; omega
  have h2:((2:Int) ^ (8*k))=((2 ^ (8*k):Nat):Int):=by rw[JV]; rfl
  rw[h1]
  exact J6 (by omega)
 rw[e,IntKind.wrap_i64]
 omega
def At{t:List UInt8}(r:RS t)(p:List UInt8):Prop:=(r.e=5/\t.length<p.length)\/(r.e=0/\r.at_=p.length)
def Qbt(p:List UInt8)(n:Int)(k:Nat):p <+: Qm p n k:=JH _ _
def QzA{t s p:List UInt8}(ht:t <+: s)(hp:p <+: s)(hl:p.length<=t.length):p <+: t:=List.prefix_of_prefix_length_le hp ht hl
def Qdk(ht:t <+: s)(n:Int)(k:Nat)(hk:k<=8)(hp:Qm p n k <+: s)(h:0<=n/\n<2 ^ (8*k)/\n<=9223372036854775807)(ha:At r p):
 At (Qc2 t r k).2 (Qm p n k)/\((Qc2 t r k).2.e=0->(Qc2 t r k).1=n):=by
 have hl:=Qe p n k
 unfold Qc2
 rcases ha with⟨h1,h2⟩ | ⟨h1,h2⟩
 ·rw [if_neg (by omega)]
  refine⟨.inl ⟨h1,by omega⟩,fun h=>absurd (h1.symm.trans h) (by decide)⟩
 ·rw [if_pos h1]
  split
  ·rename_i hb
   refine⟨.inr ⟨rfl,by dsimp only; omega⟩,fun _=>?_⟩
   have e:r.at_.toNat=p.length:=by omega
   dsimp only
   rw[e]
   exact Qt7 t p n k hk (QzA ht hp (by omega)) h
  ·refine⟨.inl ⟨rfl,by omega⟩,fun h=>absurd (show(5:Int)=0 from h) (by decide)⟩
def Qsp(ht:t <+: s)(hp:p++d <+: s){n:Int}(ha:At r p)(hn:r.e=0->n=d.length):
 At (QfC t r n).2 (p++d)/\((QfC t r n).2.e=0->(QfC t r n).1=d):=by
 have hl:(p++d).length=p.length+d.length:=Jb
 unfold QfC
 rcases ha with⟨h1,h2⟩ | ⟨h1,h2⟩
 ·rw [if_neg (by omega)]
  refine⟨.inl ⟨h1,by omega⟩,fun h=>absurd (h1.symm.trans h) (by decide)⟩
 ·rw [if_pos h1]
  have hn:=hn h1
  split
  ·rename_i hb
   refine⟨.inr ⟨rfl,by dsimp only; omega⟩,fun _=>?_⟩
   have e:r.at_.toNat=p.length:=by omega
   have e2:(r.at_+n).toNat=(p++d).length:=by omega
   dsimp only
   rw[e,e2]
   have:=QzA ht hp (by omega)
   rw[<- List.prefix_iff_eq_take.1 this,JS]
  ·refine⟨.inl ⟨rfl,by omega⟩,fun h=>absurd (show(5:Int)=0 from h) (by decide)⟩
def QvN(ht:t <+: s)(c:Ce)(hc:c.okB=true)(hp:Qam p c <+: s)(ha:At r p):
 At (QfX t r).2 (Qam p c)/\((QfX t r).2.e=0->(QfX t r).1=c):=by
 obtain⟨set,data⟩:=c
 simp only[Ce.okB,Jd,decide_eq_true_eq,JW,beq_iff_eq] at hc
 unfold QfX Qq2
 unfold Qam at hp |-
 cases set
 ·simp only [Bool.false_eq_true,if_false] at hp |-
  obtain⟨h1,h2⟩:=Qdk (r:=r) ht 255 1 (by omega) hp ⟨by omega,by omega,by omega⟩ ha
  have hd:data=[]:=by rcases hc.2 with h | h; cases h; exact h
  subst hd
  split
  ·rename_i h
   exact absurd (h2 h.1) h.2
  ·exact⟨h1,fun _=>rfl⟩
 ·simp only [if_true] at hp |-
  obtain⟨h1,h2⟩:=Qdk (r:=r) ht data.length 1 (by omega) ((JH _ _).trans hp) ⟨by omega,by omega,by omega⟩ ha
  split
  ·rename_i h
   have h3:=h2 h.1
   rw[if_neg (by omega)]
   obtain⟨h4,h5⟩:=Qsp ht hp h1 (n:=(Qc2 t r 1).1) (fun _=>h3)
   exact⟨h4,fun h=>by rw[h5 h]⟩
  ·rename_i h
   have h3:(Qc2 t r 1).2.e≠0:=fun e=>h ⟨e,by rw[h2 e]; omega⟩
   rcases h1 with⟨h4,h5⟩ | ⟨h4,h5⟩
   ·refine ⟨.inl ⟨h4,?_⟩,fun e=>absurd e h3⟩
    rw[Jb]; omega
   ·exact absurd h4 h3
def Qij(h:(Qc2 t r k).2.e=0):r.e=0:=by
 unfold Qc2 at h
 split at h
 ·assumption
 ·exact h
def QDO(h:(QfC t r n).2.e=0):r.e=0:=by
 unfold QfC at h
 split at h
 ·assumption
 ·exact h
def Qz1(h:(QfX t r).2.e=0):r.e=0:=by
 unfold QfX Qq2 at h
 split at h
 ·rename_i hc
  exact Qij hc.1
 ·exact Qij h
def QGf(e:E)(h:e.okB=true):(0<=e.lsn/\e.lsn<=1099511627776)/\(0<=e.kind/\e.kind<256)/\(0<=e.tx/\e.tx<4294967296)/\(0<=e.ptx/\e.ptx<=1099511627776)/\(0<=e.ppg/\e.ppg<=1099511627776)/\(0<=e.ref/\e.ref<=1099511627776)/\(0<=e.c.pg/\e.c.pg<64)/\(0<=e.c.sl/\e.c.sl<16)/\e.c.b.okB=true/\e.c.a.okB=true:=by
 obtain⟨lsn,kind,tx,ptx,ppg,ref,⟨pg,sl,⟨b1,b2⟩,⟨a1,a2⟩⟩,blob⟩:=e
 simp only[E.okB,Jd,bef,decide_eq_true_eq] at h
 obtain⟨h0,h⟩:=h
 unfold E.kindB at h
 dsimp only at h0 h |-
 split at h
 ·simp[Ch.okB,Ce.okB,txB] at h |-; grind
 split at h
 ·simp[Ch.okB,Ce.okB,txB] at h |-; grind
 split at h
 ·simp[Ch.no,Ce.no,Ce.okB,txB] at h |-; grind
 split at h
 ·simp[Ch.no,Ce.no,Ce.okB] at h |-; grind
 split at h
 ·simp[Ch.ix,Ce.no,Ce.okB] at h |-; grind
 ·simp at h
def Qi4(p:List UInt8)(c:Ce):p <+: Qam p c:=by
 unfold Qam
 split
 ·exact(Qbt _ _ _).trans (JH _ _)
 ·exact Qbt _ _ _
def QE1(x:E)(h:x.okB=true)(ht:t <+: s)(hx:Qmm x <+: s):At (Qvr t).2 (Qmm x)/\((Qvr t).2.e=0->(Qvr t).1=x):=by
 obtain⟨i1,i2,i3,i4,i5,i6,i7,i8,i9,i10⟩:=QGf x h
 obtain⟨l1,l2,l3⟩:=QeZ h
 have a0:At (rs0 t) []:=.inr ⟨rfl,rfl⟩
 have P10:Qm (Qam (Qam (Qba x) x.c.b) x.c.a) x.blob.length 4 <+: s:=(JH _ _).trans hx
 have P9:Qam (Qam (Qba x) x.c.b) x.c.a <+: s:=(Qbt _ _ _).trans P10
 have P8:Qam (Qba x) x.c.b <+: s:=(Qi4 _ _).trans P9
 have PH:Qba x <+: s:=(Qi4 _ _).trans P8
 unfold Qba at PH P8 P9 P10
 have P7:=(Qbt _ _ _).trans PH
 have P6:=(Qbt _ _ _).trans P7
 have P5:=(Qbt _ _ _).trans P6
 have P4:=(Qbt _ _ _).trans P5
 have P3:=(Qbt _ _ _).trans P4
 have P2:=(Qbt _ _ _).trans P3
 have P1:=(Qbt _ _ _).trans P2
 obtain⟨b1,c1⟩:=Qdk (r:=rs0 t) ht x.lsn 8 (by omega) P1 ⟨by omega,by omega,by omega⟩ a0
 obtain⟨b2,c2⟩:=Qdk ht x.kind 1 (by omega) P2 ⟨by omega,by omega,by omega⟩ b1
 obtain⟨b3,c3⟩:=Qdk ht x.tx 4 (by omega) P3 ⟨by omega,by omega,by omega⟩ b2
 obtain⟨b4,c4⟩:=Qdk ht x.ptx 8 (by omega) P4 ⟨by omega,by omega,by omega⟩ b3
 obtain⟨b5,c5⟩:=Qdk ht x.ppg 8 (by omega) P5 ⟨by omega,by omega,by omega⟩ b4
 obtain⟨b6,c6⟩:=Qdk ht x.ref 8 (by omega) P6 ⟨by omega,by omega,by omega⟩ b5
 obtain⟨b7,c7⟩:=Qdk ht x.c.pg 4 (by omega) P7 ⟨by omega,by omega,by omega⟩ b6
 obtain⟨b8,c8⟩:=Qdk ht x.c.sl 1 (by omega) PH ⟨by omega,by omega,by omega⟩ b7
 obtain⟨b9,c9⟩:=QvN ht x.c.b i9 P8 b8
 obtain⟨b10,c10⟩:=QvN ht x.c.a i10 P9 b9
 obtain⟨b11,c11⟩:=Qdk ht x.blob.length 4 (by omega) P10 ⟨by omega,by omega,by omega⟩ b10
 obtain⟨b12,c12⟩:=Qsp ht hx b11 c11
 unfold Qvr
 dsimp only
 refine⟨b12,fun e12=>?_⟩
 have e11:=QDO e12
 have e10:=Qij e11
 have e9:=Qz1 e10
 have e8:=Qz1 e9
 have e7:=Qij e8
 have e6:=Qij e7
 have e5:=Qij e6
 have e4:=Qij e5
 have e3:=Qij e4
 have e2:=Qij e3
 have e1:=Qij e2
 rw[c1 e1,c2 e2,c3 e3,c4 e4,c5 e5,c6 e6,c7 e7,c8 e8,c9 e9,c10 e10,c12 e12]
def QE0(x:E)(h:x.okB=true):Qrn (Qmm x)=(x,0):=by
 obtain⟨h1,h2⟩:=QE1 x h (JU _) (JU _)
 unfold Qrn
 rcases h1 with⟨h3,h4⟩ | ⟨h3,h4⟩
 ·omega
 ·rw[if_pos h3,if_pos h4,h2 h3,if_pos h]
def Qfh(h:e.okB=true):(Qmm e).length<=8392:=by
 obtain⟨l1,l2,l3⟩:=QeZ h
 have n1:=QbR (Qba e) e.c.b
 have n2:=QbR (Qam (Qba e) e.c.b) e.c.a
 rw[QdW] at n1
 unfold Qmm
 rw[Jb,Qe]
 omega
def QzP(h:e.okB=true):frE e=frm (Qmm e):=by unfold frE Qiq; rw[if_pos h]
def QwT(h:e.okB=true)(p r:List UInt8):Qg8 (p++(frE e++r)) p.length e.lsn=some (e,((p.length+(frE e).length:Nat):Int)):=by
 have h1:=Qzq (Qfh h) p r
 have h2:=QE0 e h
 have hl:=QhD (Qfh h)
 rw[QzP h]
 unfold Qg8
 rw[h1]
 dsimp only
 rw[h2,if_pos ⟨rfl,rfl,rfl⟩,hl]
def Qzu(l:Int)(es:List E):Prop:=∀ i:Nat,i<es.length->(es.getD i E0).lsn=l+i/\(es.getD i E0).okB=true
def Qli(h:Qzu l (e::r)):e.lsn=l/\e.okB=true/\Qzu (l+1) r:=by
 have h0:=h 0 (by simp)
 refine⟨by simpa using h0.1,by simpa using h0.2,fun i hi=>?_⟩
 have:=h (i+1) (by simpa using hi)
 simp only[JQ] at this
 exact⟨by omega,this.2⟩
def QiQ (r:List UInt8):∀ (es:List E) (p:List UInt8) (l:Int) (n:Nat),Qzu l es->es.length<=n ->
 opn (p++(es.flatMap frE++r)) n p.length l=es++opn (p++(es.flatMap frE++r)) (n-es.length) ((p.length+(es.flatMap frE).length:Nat):Int) (l+es.length)
 | [],p,l,n,_,_=>by simp
 | e :: t,p,l,n,h,hn=>by
   obtain⟨h1,h2,h3⟩:=Qli h
   rw[Jo] at hn
   obtain⟨m,rfl⟩:∃ m,n=m+1:=⟨n-1,by omega⟩
   have hs:p++((e::t).flatMap frE++r)=p++(frE e++(t.flatMap frE++r)):=by rw[Jv]; simp only[Jg]
   have hs2:p++((e::t).flatMap frE++r)=(p++frE e)++(t.flatMap frE++r):=by rw[Jv]; simp only[Jg]
   have h4:=QwT h2 p (t.flatMap frE++r)
   rw[<- hs,h1] at h4
   have ih:=QiQ r t (p++frE e) (l+1) m h3 (by omega)
   rw[<- hs2] at ih
   have e1:opn (p++((e::t).flatMap frE++r)) (m+1) p.length l=e::opn (p++((e::t).flatMap frE++r)) m ((p.length+(frE e).length:Nat):Int) (l+1):=by
    conv=>lhs; unfold opn
    rw[h4]
   rw[e1,<- Jb,ih,Jo,Jv,Jb,Jb]
   rw[show m+1-(t.length+1)=m-t.length by omega,List.cons_append]
   congr 3
   ·omega
   ·omega
def Ql8(r:List UInt8):unf (Qdr f++r) 0=(Qm [80,77,76,71] f 8,20,0):=by
 have:=Qzq (q:=Qm [80,77,76,71] f 8) (by rw[Qe]; simp) [] r
 rw[JN] at this
 unfold Qdr
 rw[show(([]:List UInt8).length:Int)=0 from rfl] at this
 rw[this,Qe]
 rfl
def QfP(f:Int):(Qdr f).length=20:=by
 unfold Qdr
 rw[QhD (by rw[Qe]; simp),Qe]; rfl
def Qyu(h:1<=f/\f<=1099511627776)(r:List UInt8):hdO (Qdr f++r)/\QnE (unf (Qdr f++r) 0).1 4 8=f:=by
 have h1:=Ql8 (f:=f) r
 have h2:QnE (Qm [80,77,76,71] f 8) 4 8=f:=Qt7 _ [80,77,76,71] f 8 (by omega) (JU _) ⟨by omega,by omega,by omega⟩
 unfold hdO
 rw[h1]
 dsimp only
 refine⟨⟨rfl,by rw[Qe]; rfl,?_,by omega,by omega⟩,h2⟩
 simp[Qm]
def QlE(h:1<=f/\f<=1099511627776)(he:Qzu f es)(hl:es.length<=4096)(r:List UInt8)(hr:es.length<4096->Qg8 (Qdr f++(es.flatMap frE++r)) ((20+(es.flatMap frE).length:Nat):Int) (f+es.length)=none):Qcl (Qdr f++(es.flatMap frE++r))=(⟨f,es,f+es.length-1⟩,0):=by
 obtain⟨h1,h2⟩:=Qyu h (es.flatMap frE++r)
 have h3:=Ql8 (f:=f) (es.flatMap frE++r)
 have h4:=QiQ r es (Qdr f) f 4096 he hl
 rw[QfP] at h4
 have h5:QDo (Qdr f++(es.flatMap frE++r))=es:=by
  unfold QDo
  rw[h2,h3]
  dsimp only
  refine h4.trans ?_
  by_cases hc:es.length<4096
  ·rw[QoJ _ (hr hc),Js]
  ·rw[show 4096-es.length=0 by omega]; exact Js _
 unfold Qcl
 rw[if_pos h1,h2,h5]
def Qul(h:lgB x=true):Qzu x.f x.es:=by
 unfold lgB at h
 simp only[Jd,Jw,JD] at h
 intro i hi
 have:=h.2 i hi
 simpa [lgC] using this
def QuP{α:Type}(l:List α)(n i:Nat)(h:i<n)(d:α):(l.take n).getD i d=l.getD i d:=by
 rw[Ji,Ji,J4,if_pos h]
def QsM(h:Qzu l es)(n:Nat):Qzu l (es.take n):=fun i hi=>by
 rw[Jm] at hi
 rw[QuP _ _ _ (by omega)]
 exact h i (by omega)
def QhF:∀ (es:List E) (t:Nat),∃ j m,j<=es.length/\(es.flatMap frE).take t = (es.take j).flatMap frE ++ (frE (es.getD j E0)).take m/\(j < es.length->m < (frE (es.getD j E0)).length)/\(j = es.length->m = 0)
 | [],t=>⟨0,0,Jr _,by simp,fun h=>absurd h (by simp),fun _=>rfl⟩
 | e :: r,t=>by
   by_cases h:t<(frE e).length
   ·refine ⟨0,t,Jc _,?_,fun _=>by simpa using h,fun h=>absurd h (by simp)⟩
    rw[Jv,List.take_append_of_le_length (by omega)]
    simp
   ·obtain ⟨j,m,h1,h2,h3,h4⟩:=QhF r (t - (frE e).length)
    refine⟨j+1,m,by rw[Jo]; omega,?_,fun h=>?_,fun h=>?_⟩
    ·rw[Jv,List.take_append,Jl (by omega),h2,J2,Jv,JQ,Jg]
    ·rw [Jo] at h
     rw[JQ]; exact h3 (by omega)
    ·rw [Jo] at h
     exact h4 (by omega)
def Qf7:∀ (es:List E),Qzu l es->l - 1<=d->d<=l + es.length - 1->(es.filter fun e=>decide (e.lsn<=d)) = es.take (d - l + 1).toNat/\(es.filter fun e=>!decide (e.lsn<=d)) = es.drop (d - l + 1).toNat
 | [],_,h1,h2=>by simp
 | e :: r,h,h1,h2=>by
   obtain⟨a1,a2,a3⟩:=Qli h
   rw[Jo] at h2
   by_cases hc:l<=d
   ·obtain ⟨b1,b2⟩:=Qf7 (d:=d) (l:=l + 1) r a3 (by omega) (by omega)
    obtain⟨k,hk,hk2⟩:∃ k,(d-l+1).toNat=k+1/\(d-(l+1)+1).toNat=k:=⟨(d-l).toNat,by omega,by omega⟩
    rw[hk2] at b1 b2
    rw[hk,J2,List.drop_succ_cons,J9,J9,if_pos (by simp; omega),if_neg (by simp; omega),b1,b2]
    exact⟨rfl,rfl⟩
   ·have hk:(d - l + 1).toNat = 0:=by omega
    rw[hk,JE,List.drop_zero]
    have hall:∀ x∈(e::r),¬ x.lsn<=d:=fun x hx=>by
     obtain⟨i,hi,rfl⟩:=JO hx
     have:=(h i hi).1
     rw[Qf _ _ hi] at this
     omega
    refine⟨List.filter_eq_nil_iff.2 fun x hx=>by have:=hall x hx; simp; omega,List.filter_eq_self.2 fun x hx=>by have:=hall x hx; simp; omega⟩
def QqP(h:lgB x=true)(torn:Int):∃ n,(x.d-x.f+1).toNat<=n/\n<=x.es.length/\Qcl (Qdz x torn)=(⟨x.f,x.es.take n,x.f+n-1⟩,0):=by
 have hh:=Qat h
 simp only[Lg.hd] at hh
 have hs:=Qul h
 obtain⟨f1,f2⟩:=Qf7 (d:=x.d) (l:=x.f) x.es hs (by omega) (by omega)
 unfold Qdz
 rw[if_pos h]
 unfold Qrm Qtl
 rw[f1,f2]
 generalize hk:(x.d-x.f+1).toNat=k
 obtain⟨j,m,h1,h2,h3,h4⟩:=QhF (x.es.drop k) torn.toNat
 rw[JB] at h1 h3 h4
 have hget:(x.es.drop k).getD j E0=x.es.getD (k+j) E0:=by
  rw[Ji,Ji,J5]
 have htk:x.es.take k++(x.es.drop k).take j=x.es.take (k+j):=by rw[<- List.take_add]
 have hlen:(x.es.take (k+j)).length=k+j:=by rw[Jm]; omega
 refine⟨k+j,by omega,by omega,?_⟩
 rw[h2,hget,Jg,<- Jg,<- Jg,Jg,Jg,<- Jg (List.flatMap frE _),<- JP,htk]
 have:=QlE (f:=x.f) ⟨by omega,by omega⟩ (QsM hs (k+j)) (by rw[hlen]; omega) ((frE (x.es.getD (k+j) E0)).take m) (fun _=>QsF (by
  by_cases hc:j<x.es.length-k
  ·have h5:=h3 hc
   rw[hget] at h5
   have hok:=(hs (k+j) (by omega)).2
   rw[QzP hok] at h5 |-
   rw[QhD (Qfh hok)] at h5
   have:=QAJ (Qfh hok) (Qdr x.f++(x.es.take (k+j)).flatMap frE) m h5
   rw[Jb,QfP,Jg] at this
   rw[this]; decide
  ·rw [h4 (by omega),JE,Js]
   have:=QAI (Qdr x.f++(x.es.take (k+j)).flatMap frE)
   rw[Jb,QfP] at this
   rw[this]; decide))
 rw[hlen] at this
 exact this
def Qt3(s:List UInt8):(Qcl s).1.es.length<=4096:=by
 unfold Qcl
 split
 ·exact Qt2 _ _ _ _
 ·exact Jc _
def CrR(x:Lg)(n m:Int)(k:Kn):Prop:=lgB x=true/\(1<=n/\n<=64)/\∃ a lk,AnC x n x.es.length a/\kB (adK x (loF a lk) m)=true/\(adK x (loF a lk) m).pl.fs=[]/\Str 0 (adK x (loF a lk) m) k
def Qs7(v:Dv)(hv:v.ps.length<=64)(s:List UInt8)(hs:s.length<=100000000)(n m:Int):VCalls prog 110 [.agg v.d,.pv (.str s),.int .i64 n,.int .i64 m] [] (QI svD fun r=>r.1.sm/\(r.2=0->(Qcl s).2=0/\CrR (Qcl s).1 n m r.1.k)):=by
 refine dk Tryz.func110 ?_
 have c1:=QBh s hs
 have hl:=Qt3 s
 generalize Qcl s=o at *
 obtain⟨x,e0⟩:=o
 dsimp only at hl c1 |-
 have c2:=Qp9 x hl n
 have c3:=fun a ha=>QxL x hl a ha m
 have err:∀ z,z≠0->QI svD (fun r=>r.1.sm/\(r.2=0->e0=0/\CrR x n m r.1.k)) (svD (Sv0,z)) []:=fun z hz=>⟨rfl,rfl,(Sv0,z),rfl,QdD,fun h=>absurd h hz⟩
 (unfold Tryz.f110; refine rn trivial ?_)
 refine rn F ?_
 repeat' (first
  | with_reducible exact⟨⟩
  | (refine sB F ?_ ?_<;>intro hZ)
  | refine vp F (c1) ?_
  | (refine Qp (c2) rfl ?_; rintro⟨a,e1⟩ ha; refine rn F ?_)
  | (refine Qp (c3 a ha.1) rfl ?_; rintro⟨k,e2⟩ hk; refine rn F ?_))
 all_goals first
  | exact err _ (by assumption)
  | exact⟨rfl,rfl,(⟨k,v⟩,0),rfl,⟨hk.1,hv⟩,fun _=>⟨by assumption,by
   obtain⟨g1,g2,a0,lk,g3,g4⟩:=ha.2 (by assumption)
   have g5:=hk.2 (by assumption)
   dsimp only at g4
   subst g4
   exact⟨g1,g2,a0,lk,g3,g5⟩⟩⟩
  | skip
def Qs6(v:Dv)(hv:v.ps.length<=64)(s:List UInt8)(hs:s.length<=100000000)(n m:Int):VCalls prog 86 [.agg v.d,.pv (.str s),.int .i64 n,.int .i64 m] [] (QI svD fun r=>r.1.sm/\(r.2=0->(Qcl s).2=0/\CrR (Qcl s).1 n m r.1.k)):=by
 refine dk Tryz.func86 ?_
 have c1:=Qs7 v hv s hs n m
 generalize Qcl s=o at *
 (unfold Tryz.f86; refine rn trivial ?_)
 refine rn F ?_
 repeat' (first
  | with_reducible exact⟨⟩
  | (refine Qp (c1) rfl ?_; rintro⟨k,e⟩ hk; refine rn F ?_))
 all_goals first
  | exact⟨rfl,rfl,(k,e),rfl,hk⟩
  | skip
section
attribute [local go_sem] Qbp
@[go_sem] def crD(a:Dv×Lg×Int):DV:=.tup [.agg a.1.d,.pv (.str (Qdz a.2.1 a.2.2))]
def crQ(s:Sv)(a:Dv×Lg×Int):Prop:=a.1.ps.length<=64/\a.2.1.f=s.k.lg.f/\a.2.1.es=s.k.lg.es/\(lgB s.k.lg=true->lgB a.2.1=true)
def Qs0(s:Sv)(hs:s.sm)(torn id cut:Int):VCalls prog 85 [.agg s.d,.int .i64 torn,.int .i64 id,.int .i64 cut] [] (QI crD (crQ s)):=by
 refine dk Tryz.func85 ?_
 have c1:=QcT s.k.pl (Jj hs.1.2.1 (by decide)) id
 have hl:=hs.1.1
 have c2:=QoA s.k.lg (by omega) torn
 have c3:=fun d=>QoA ⟨s.k.lg.f,s.k.lg.es,d⟩ (by dsimp only; omega) torn
 have h0:crQ s (s.v,s.k.lg,torn):=⟨hs.2,rfl,rfl,fun h=>h⟩
 (unfold Tryz.f85; refine rn trivial ?_)
 refine rn F ?_
 repeat' (first
  | with_reducible exact⟨⟩
  | (refine Qd (id:=1) [0,1,2,3] [⟨[4,5],[4],6,[2,3],[]⟩,⟨[5],[5],7,[],[]⟩] (by kernel_rfl) (by kernel_rfl) ?_; refine rn F ?_))
 refine vp hl c1 ?_
 rcases Qb6 s.k.pl id with hn | ⟨_,i,hi,hfi,_⟩
 ·rw [hn]
  refine rn @hl ?_
  refine rn F ?_
  repeat' (first
   | with_reducible exact⟨⟩
   | refine vp F (c2) ?_
   | (refine Qd (id:=9) [0,1,2,3] [⟨[],[],4,[0,1],[]⟩,⟨[],[],5,[1,2,3],[]⟩,⟨[],[],6,[],[]⟩] (by kernel_rfl) (by kernel_rfl) ?_; refine rn F ?_))
  exact⟨rfl,rfl,(s.v,s.k.lg,torn),rfl,h0⟩
 ·rw [hfi]
  have hg:=Qcg s.k.pl.fs i hi
  generalize s.k.pl.fs.getD i Fm0=f at *
  have c4:=Qnm f.pg
  have c5:=QeO s.k hs.1 f.pg.lsn
  refine rn @hg ?_
  have c6:=fun b (hb:b.length<=256)=>QA3 s.v (Jj hs.2 (by decide)) id b (Jj hb (by decide)) cut
  have F:=@hg
  refine rn F ?_
  repeat' (first
   | with_reducible exact⟨⟩
   | (refine sB F ?_ ?_<;>intro hZ)
   | refine vp F (c2) ?_
   | (refine Qp (c4) rfl ?_; rintro⟨b,e1⟩ hb; refine rn F ?_)
   | (refine Qp (c5) rfl ?_; rintro d hd; refine rn F ?_)
   | (refine Qp (c6 b hb) rfl ?_; rintro⟨v2,e2⟩ hv; refine rn F ?_)
   | refine vp F (c3 d) ?_
   | (refine Qd (id:=5) [0,1,2,3,4,5,6,7,8] [⟨[],[],9,[1,2,3,4,5,6,7],[]⟩,⟨[],[],10,[],[]⟩] (by kernel_rfl) (by kernel_rfl) ?_; refine rn F ?_)
   | (refine Qd (id:=9) [0,1,2,3] [⟨[],[],4,[0,1],[]⟩,⟨[],[],5,[1,2,3],[]⟩,⟨[],[],6,[],[]⟩] (by kernel_rfl) (by kernel_rfl) ?_; refine rn F ?_))
  all_goals first
   | exact⟨rfl,rfl,(s.v,s.k.lg,torn),rfl,h0⟩
   | exact⟨rfl,rfl,(v2,⟨s.k.lg.f,s.k.lg.es,d⟩,torn),rfl,hv,rfl,rfl,hd⟩
   | exact⟨rfl,rfl,(s.v,⟨s.k.lg.f,s.k.lg.es,d⟩,torn),rfl,hs.2,rfl,rfl,hd⟩
   | skip
end
section
attribute [local go_sem] Qbp
def CrK(k k':Kn):Prop:=∃ j,j<=k.lg.es.length/\CrR ⟨k.lg.f,k.lg.es.take j,k.lg.f+j-1⟩ k.pg k.pl.size k'
structure ICr(I:Nat->Kn->Prop):Prop where
 st:Qro I
 ok:∀ m k,I m k->lgB k.lg=true
 cr:∀ m k k',CrK k k'->I m k->I (m+1) k'
def QCJ(hI:ICr I)(hf:y.f=k.lg.f)(he:y.es=k.lg.es)(hv:lgB k.lg=true->lgB y=true)(h:CrR (Qcl (Qdz y t)).1 k.pg k.pl.size k')(m:Nat)(hm:I m k):I (m+1) k':=by
 obtain⟨n,h1,h2,h3⟩:=QqP (hv (hI.ok m k hm)) t
 rw[h3] at h
 dsimp only at h
 rw[hf,he] at h
 exact hI.cr m k k' ⟨n,by rw[<- he]; omega,h⟩ hm
def QvB(hx:x.es.length<=4096)(t:Int):(Qdz x t).length<=100000000:=by
 have h9:=Ql9 x.f
 have h8:=Qpa x.es x.d
 have h7:=Qoz x.es x.d
 unfold Qdz
 split
 ·rw [Jb,Jb,Jm]
  omega
 ·exact Jc _
structure Tz(n:Nat) where
 i:Nat
 l:List Int
 hi:i<=n
 hl:l.length=n
def crI(I:Nat->Kn->Prop)(c:Sc)(n m:Nat)(c':Sc)(_:Rs):Prop:=m=0/\c'.sm n/\∀ q,I q c.s.k->I (q+1) c'.s.k
def Qtz(I:Nat->Kn->Prop)(hIc:ICr I)(c:Sc)(n:Nat)(hn:n<=2000)(hc:c.sm n)(t:Sp):VCalls prog 71 [.ptr 0 0,.agg t.d] [scB c 1 2,scT c.tx,scR c.rd] (ScEnd rsD (crI I c n)):=by
 refine QO (fn:=Tryz.f71) Tryz.func71 rfl (by kernel_rfl) (by simp[Tryz.f71]) ?_
 have c1:=Qs0 c.s hc.1 t.torn t.pg t.cut
 (unfold Tryz.f71; refine rn trivial ?_)
 refine rn F ?_
 repeat' (first
  | with_reducible exact⟨⟩
  | (refine Qp (c1) rfl ?_; rintro⟨v,y,tn⟩ hq; refine rn F ?_)
  | (refine Qbh (id:=1) [[],[0],[0,1],[0,1,2],[],[4],[],[6],[],[8],[0,1,2,3,4,5,6,7,8,9],[0,1,2,3,4,5,6,7,8,9,10],[0,1,2,3,4,5,6,7,8,9,10,11],[0,1,2,3,4,5,6,7,8,9,10,11],[],[0,1,2,3,4,5,6,7,8,9,10,11,12,14],[0,1,2,3,4,5,6,7,8,9,10,11,12,13,14,15]] [0,1,2,3,4,5,6,7,8,9] [⟨[14],[],10,[],[11,12,13]⟩,⟨[14],[14],15,[13],[]⟩,⟨[],[],16,[],[]⟩] (by kernel_rfl) (by kernel_rfl) (by kernel_rfl) ?_; refine rn F ?_)
  | (refine Qbh (id:=2) [[],[],[],[2],[2,3],[2,3,4],[2,3,4,5],[2,3,4,5,6],[],[8],[8,9],[8,9,10],[8,9,10,11],[8,9,10,11,12],[8,9,10,11,12,13],[0,1,2,3,4,5,6,7,8,9,10,11,12,13,14],[0,1,2,3,4,5,6,7,8,9,10,11,12,13,14,15],[0,1,2,3,4,5,6,7,8,9,10,11,12,13,14,15,16],[0,1,2,3,4,5,6,7,8,9,10,11,12,13,14,15,16],[],[0,1,2,3,4,5,6,7,8,9,10,11,12,13,14,15,16,17,19],[0,1,2,3,4,5,6,7,8,9,10,11,12,13,14,15,16,17,18,19,20]] [0,1,2,3,4,5,6,7,8,9,10,11,12,13,14] [⟨[19],[],15,[],[16,17,18]⟩,⟨[19],[19],20,[18],[]⟩,⟨[],[],21,[],[]⟩] (by kernel_rfl) (by kernel_rfl) (by kernel_rfl) ?_; refine rn F ?_))
 obtain⟨q1,q2,q3,q4⟩:=hq
 dsimp only at q1 q2 q3 q4
 have c2:=Qs6 v q1 (Qdz y tn) (QvB (by rw[q3]; exact hc.1.1.1) tn) c.s.k.pg c.s.k.pl.size
 have hI:=fun(k':Kn) (h:CrR (Qcl (Qdz y tn)).1 c.s.k.pg c.s.k.pl.size k')=>QCJ hIc q2 q3 q4 h
 generalize Qdz y tn=str at *
 generalize Qcl str=o at *
 refine rn F ?_
 repeat' (first
  | with_reducible exact⟨⟩
  | (refine Qp (c2) rfl ?_; rintro⟨s2,e⟩ hk; refine rn F ?_))
 obtain⟨k1,k2⟩:=hk
 dsimp only at k1 k2
 refine Qj (fun r:Tz c.tx.length=>⟨70,3,[(9,.int .i64 r.i),(8,.int .i64 e),(7,.ptr 4 0),(4,.ptr 3 0),(0,.ptr 0 0)],[scB ⟨c.s,r.l,c.rd,c.dead⟩ 1 2,scT r.l,scR c.rd,⟨118,true,[.int .i64 0,.int .i64 0,.int .i64 0,.bool false,.pv (.str []),.int .i64 0]⟩,⟨74,true,s2.d⟩]⟩) (fun r=>c.tx.length-r.i) ⟨0,c.tx,Jc _,rfl⟩ (gc [0,1,2,4,6]) ?_
 rintro⟨i,l,hi,hl⟩
 dsimp only
 have hsm:∀ (z:Sv) (d:Bool),z.sm->(⟨z,l,c.rd,d⟩:Sc).sm n:=fun z d hz=>⟨hz,by dsimp only; rw[hl]; exact hc.2.1,hc.2.2⟩
 have htx:=hc.2.1
 by_cases hil:i<c.tx.length
 ·have hil2:i < l.length:=by omega
  have hset:=Qi3 l i 0
  have F:=@hil2
  refine rn F ?_
  refine⟨⟨i+1,l.set i 0,hil,by rw[Kb]; exact hl⟩,by dsimp only; omega,?_⟩
  dsimp only
  rw[Kb]
  exact(gc [0,1,2,3,4])
 have hil2:¬ i<l.length:=by omega
 by_cases he:e=0
 ·subst he
  have c3:=QeM 0
  have F:=trivial
  refine rn F ?_
  repeat' (first
   | with_reducible exact⟨⟩
   | refine vp F (c3) ?_)
  exact QC ⟨70,3,[(4,.ptr 3 0)],[scB ⟨s2,l,c.rd,c.dead⟩ 1 2,scT l,scR c.rd,⟨118,true,(Qgk 0).d⟩]⟩ (gc [0,1,2,3]) ⟨⟨s2,l,c.rd,c.dead⟩,Qgk 0,_,rfl,rfl,.inl ⟨⟨rfl,hsm s2 _ k1,hI s2.k (k2 rfl).2⟩,rfl⟩⟩
 ·have c3:=QeM e
  have F:=@he
  refine rn F ?_
  repeat' (first
   | with_reducible exact⟨⟩
   | refine vp F (c3) ?_)
  exact QC ⟨70,3,[(4,.ptr 3 0)],[scB ⟨c.s,l,c.rd,true⟩ 1 2,scT l,scR c.rd,⟨118,true,(Qgk e).d⟩]⟩ (gc [0,1,2,3]) ⟨⟨c.s,l,c.rd,true⟩,Qgk e,_,rfl,rfl,.inl ⟨⟨rfl,hsm c.s _ hc.1,fun q=>hIc.st q 1 _ _ (Str.refl _)⟩,rfl⟩⟩
def Qw8(I:Nat->Kn->Prop)(hIc:ICr I)(c:Sc)(n:Nat)(hn:n<=2000)(hc:c.sm n)(t:Sp)(ht:t.kind=6):QhX I c n t:=by
 refine QO (fn:=Tryz.f46) Tryz.func46 rfl (by kernel_rfl) (by simp[Tryz.f46]) ?_
 obtain⟨k,tx,pg,torn,cut,a⟩:=t
 dsimp only at ht
 subst ht
 (unfold Tryz.f46; refine rn trivial ?_)
 refine QkX (c:=c) 0 1 2 (Qtz I hIc c n hn hc ⟨6,tx,pg,torn,cut,a⟩) rfl rfl rfl (by decide) (by decide) (by decide) rfl rfl ?_ (fun _ _ h=>absurd h.1 (by decide)) (fun _ _ h=>absurd h.1 (by decide))
 rintro c1 r1 ⟨-,q1,q2⟩ B
 refine rn trivial ?_
 exact QC ⟨132,3,[(4,.ptr 3 0)],[scB c1 1 2,scT (Sc.tx c1),scR (Sc.rd c1),⟨118,true,Rs.d (r1)⟩]⟩ (gc [0,1,2,4]) ⟨c1,r1,_,rfl,rfl,.inl ⟨⟨⟨q1.1,Jh q1.2.1,Jh q1.2.2⟩,q2⟩,rfl⟩⟩
end
def QyQ(hc:CkV c)(hd:CkV d)(h:QaO c=QaO d):c.nx=d.nx:=by
 have h1:=(Qms hc).1.2.2.1
 have h2:=(Qms hd).1.2.2.1
 rw[h,h2] at h1
 exact h1.symm
def Cor.ckE(h:Cor es pg nx tx ix L)(h1:e.tx=0)(h2:e.kind=6)(hn:0<nx)(ht:QbG tx=true):Cor (es++[e]) pg nx tx ix L:=
 ⟨h.pgr,fun x hx=>by
  rcases Jk.1 hx with hx | hx
  ·exact h.ids x hx
  ·rw[Jf.1 hx,h1]; exact hn,fun t q=>(h.ok t q).other (by have:=Qoi ht q; omega),fun x hx h0=>by
  rcases Jk.1 hx with hx | hx
  ·exact(h.all x hx h0).imp id fun q=>(Qdu _ _ _).2 (.inl q)
  ·rw[Jf.1 hx] at h0; omega,h.len,fun p hp=>by
  rw[Qbo _ _ _ fun q=>by omega]; exact h.row p hp,fun p n q=>by
  rw[Qbo _ _ _ fun q=>by omega]; exact h.la p n q,h.lt,fun x hx h7=>by
  rcases Jk.1 hx with hx | hx
  ·exact h.w7 x hx h7
  ·rw[Jf.1 hx] at h7; omega⟩
def Cor.zero(h1:1<=pg/\pg<=64)(L:Int->Int->Prop)(hL:∀ p n,¬ L p n):Cor [] pg nx [] (JJ pg.toNat Rw0) L:=
 ⟨h1,fun e h=>by simp at h,fun t h=>by simp at h,fun x h=>by simp at h,by rw [List.length_replicate]; omega,fun p hp=>by
  have:(JJ pg.toNat Rw0).getD p Rw0=Rw0:=by
   rw[Ji,List.getElem?_replicate]; split<;>rfl
  rw[this]
  exact⟨JA _,fun _=>rfl⟩,fun p n h=>absurd h (hL p n),fun p n h=>absurd h (hL p n),fun e h=>by simp at h⟩
def QBM(h1:1<=n)(h2:n<=64):KI (Qrl n m):=
 ⟨QFn,rfl,LogOk.nil,Cor.zero ⟨h1,h2⟩ _ fun p n h=>by rcases h with⟨d,q,_⟩ | ⟨f,q,_⟩<;>simp[Qrl] at q,fun f q=>by simp[Qrl] at q⟩
def CkN(b:Int)(es:List E):Prop:=∀ e∈es,e.kind=6->∀ c,CkV c->e.blob=QaO c->c.nx<=b
def NoteR.cor(h:NoteR a e b)(hc:Cor es a.pg a.nx a.lo a.ix (LD a.la))(he:EnOk es e)(hlt:∀ x∈es,x.lsn<e.lsn):Cor (es++[e]) b.pg b.nx b.lo b.ix (LD b.la):=by
 obtain⟨h1,h2,h3,h4,h5,h6,h7,h8⟩:=h
 rw[h1,h3,h6]
 have h1':∀ p n,LD b.la p n->((e.kind=1\/e.kind=2)/\p=e.c.pg/\n=e.lsn)\/(LD a.la p n/\((e.kind=1\/e.kind=2)->p≠e.c.pg)):=fun p n q=>by
  by_cases hk:(e.kind=1\/e.kind=2)\/e.kind=7
  ·have D:=h8.2 hk
   obtain⟨d,d1,d2,d3⟩:=q
   rcases D.ha d d1 with⟨q1,q2⟩ | ⟨q1,q2,q3⟩ | ⟨q1,q2,z,q3,q4,q5,q6⟩
   ·exact .inr ⟨⟨d,q1,d2,d3⟩,fun _=>by rw[<- d2]; exact q2⟩
   ·exact .inl ⟨by simpa using q2,by omega,by omega⟩
   ·exact .inr ⟨⟨z,q3,by omega,by omega⟩,fun h=>by
    have:(e.kind==1||e.kind==2)=true:=by simpa using h
    rw[this] at q2; cases q2⟩
  ·rw [h8.1 (fun h=>hk (.inl h)) (fun h=>hk (.inr h))] at q
   exact .inr ⟨q,fun h=>absurd (.inl h) hk⟩
 have h2':∀ p,(∀ n,¬ LD b.la p n)->((∀ n,¬ LD a.la p n)\/(e.kind=7/\p=e.c.pg))/\((e.kind=1\/e.kind=2)->p≠e.c.pg):=fun p q=>by
  by_cases hk:(e.kind=1\/e.kind=2)\/e.kind=7
  ·have D:=h8.2 hk
   refine⟨?_,fun h hp=>?_⟩
   ·by_cases hp:p = e.c.pg
    ·by_cases h7':e.kind = 7
     ·exact .inr ⟨h7',hp⟩
     ·have hc1:e.kind = 1\/e.kind = 2:=hk.resolve_right h7'
      obtain⟨y,y1,y2⟩:=D.hc rfl (by simpa using hc1)
      exact absurd ⟨y,y1,by omega,rfl⟩ (q y.last)
    ·refine .inl fun n ⟨d,d1,d2,d3⟩=>q n ⟨d,?_,d2,d3⟩
     exact D.hb d (by rw[J7]; exact d1) (by omega)
   ·obtain ⟨y,y1,y2⟩:=D.hc rfl (by simpa using h)
    exact q y.last ⟨y,y1,by omega,rfl⟩
  ·rw [h8.1 (fun h=>hk (.inl h)) (fun h=>hk (.inr h))] at q
   exact⟨.inl q,fun h=>absurd (.inl h) hk⟩
 have h3':e.kind=7->∀ n,¬ LD b.la e.c.pg n:=fun h7' n ⟨d,d1,d2,d3⟩=>by
  have D:=h8.2 (.inr h7')
  rcases D.ha d d1 with⟨q1,q2⟩ | ⟨q1,q2,q3⟩ | ⟨q1,q2,z,q3,q4,q5,q6⟩
  ·exact q2 d2
  ·have:e.kind = 1\/e.kind = 2:=by simpa using q2
   omega
  ·have:=hc.la e.c.pg z.last ⟨z,q3,q4,rfl⟩
   have:=he.ix h7'
   omega
 have hn:a.nx<=max a.nx (e.tx+1):=by omega
 rcases h4 with⟨q1,q2,q3⟩ | ⟨q1,q0,q2,q3⟩
 ·have hl1:=(Qt4 (Qdl q2).2)
  have hls:=Qt5 (Qdl q2).2
  rw[q3]
  exact hc.add he.ix hlt (by omega) q2 h5 hn (by omega) h1' h2' h3'
 ·have hls:=Qt5 (Qdl q2).2
  rw[q3]
  have hfr:∀ x∈es,x.tx≠e.tx:=fun x hx hxe=>by
   rcases hc.all x hx (by omega) with⟨t,t1,t2⟩ | q
   ·have:=(Qj4 (l:=a.lo) (a:=e.tx)).2 (Ke.2 ⟨t,t1,by omega⟩)
    omega
   ·rw[hxe] at q; exact he.ne q1.1 q
  exact(hc.beginT (JA _) q0 hfr).add he.ix hlt (by omega) q2 h5 hn (by omega) h1' h2' h3'
section
attribute [local go_sem] cb cc
def QAR(c:C)(m n:Nat)(h1:1<=m)(h2:m<=1000)(h3:1<=n)(h4:n<=1000):VCalls prog 47 [.ptr 0 0,.int .i64 m,.int .i64 n,.bool true] [cb c] (CX fun r=>∃ t:Sp,r=.agg t.d):=by
 refine dd Tryz.func47 ?_
 (unfold Tryz.f47; refine rn trivial ?_)
 refine rn F ?_
 repeat' (first
  | with_reducible exact⟨⟩
  | (refine sB F ?_ ?_<;>intro hZ)
  | (refine Qa2 (k:=0) (QaM _ 16 (by omega) (by omega)) rfl rfl ?_; rintro _ _ ⟨_,rfl,_⟩; refine rn F ?_)
  | (refine Qa2 (k:=0) (QaM _ 4 (by omega) (by omega)) rfl rfl ?_; rintro _ _ ⟨_,rfl,_⟩; refine rn F ?_)
  | (refine Qa2 (k:=0) (QaM _ 90 (by omega) (by omega)) rfl rfl ?_; rintro _ _ ⟨_,rfl,_⟩; refine rn F ?_)
  | (refine Qa2 (k:=0) (QaM _ 257 (by omega) (by omega)) rfl rfl ?_; rintro _ _ ⟨_,rfl,_⟩; refine rn F ?_)
  | (refine Qa2 (k:=0) (QaM _ m (by omega) (by omega)) rfl rfl ?_; rintro _ _ ⟨_,rfl,_⟩; refine rn F ?_)
  | (refine Qa2 (k:=0) (QaM _ n (by omega) (by omega)) rfl rfl ?_; rintro _ _ ⟨_,rfl,_⟩; refine rn F ?_)
  | (refine Qa2 (k:=0) (QzF _ ((m:Int)+1) (by omega) (by omega)) rfl rfl ?_; rintro _ _ ⟨_,rfl,_⟩; refine rn F ?_)
  | (refine Qa2 (k:=0) (Qzj _ m h1 h2) rfl rfl ?_; rintro _ _ ⟨_,rfl,_⟩; refine rn F ?_))
 all_goals exact⟨_,rfl,rfl,Qcp _,rfl,⟨⟨_,_,_,_,_,⟨_,_,_,_⟩⟩,rfl⟩,_,rfl⟩
structure Sd1(most:Nat) where
 k:Nat
 c:C
 l:List Sp
 hk:k+l.length<=most+2
def Qw1(c:C)(m most:Nat)(h1:1<=m)(h2:m<=1000)(hm:most<=1000):VCalls prog 36 [.ptr 0 0,.int .i64 m,.int .i64 most,.bool true] [cb c] (CX fun r=>∃ l:List Sp,r=.pv (.sl (fz QnX l))/\l.length<=most+2):=by
 refine dd Tryz.func36 ?_
 (unfold Tryz.f36; refine rn trivial ?_)
 refine Qa2 (k:=0) (c:=c) (QzF c ((most:Int)+1) (by omega) (by omega)) rfl rfl ?_
 rintro _ c1 ⟨k,rfl,hk⟩
 refine rn trivial ?_
 refine Qj (fun s:Sd1 most=>⟨30,1,[(10,.int .i64 s.k),(9,.own 1 9 0 s.l.length),(3,.bool true),(1,.int .i64 m),(0,.ptr 0 0)],[cb s.c,⟨123,true,cells QnX s.l⟩]⟩) (fun s=>s.k) ⟨k,c1,[spB,spB],by simp; omega⟩ (gc [0,1]) ?_
 rintro⟨k,c2,l,hk⟩
 dsimp only
 have hb:(l.length+1)*80<=140737488355328:=by omega
 by_cases hc:0<k
 ·obtain ⟨k,rfl⟩:∃ k':Nat,k = k' + 1:=⟨k - 1,by omega⟩
  have hkk:((k+1:Nat):Int)-1=k:=by omega
  have F:=(Ja @hb @hkk)
  refine rn F ?_
  refine Qa2 (k:=0) (c:=c2) (QAR c2 m 5 h1 h2 (by omega) (by omega)) rfl rfl ?_
  rintro _ c3 ⟨t,rfl⟩
  have F:=(Ja @hb (Ja @QGH @hkk))
  refine rn F ?_
  have hl2:(l++[t]).length=l.length+1:=by simp
  refine⟨⟨k,c3,l++[t],by rw[hl2]; omega⟩,by dsimp only; omega,?_⟩
  dsimp only
  rw[hl2]
  exact(gc [0,3])
 ·skip
  have F:=@hb
  refine rn F ?_
  exact⟨_,rfl,rfl,Qcp _,rfl,⟨l,rfl,by omega⟩,_,rfl⟩
def QpU(I:Nat->Kn->Prop)(hI:ICr I)(h0:∀ n m:Int,1<=n->n<=4->1<=m->m<=64->I 0 (Qrl n m))(c:C)(most:Nat)(hm:most<=1000):VCalls prog 20 [.ptr 0 0,.int .i64 most,.bool true] [cb c] (CX fun r=>∃ s:Sv,r=.agg s.d/\s.sm/\∃ i,i<=most+2/\I i s.k):=by
 refine dd Tryz.func20 ?_
 (unfold Tryz.f20; refine rn trivial ?_)
 refine Qa2 (k:=0) (c:=c) (QaM c 4 (by omega) (by omega)) rfl rfl ?_
 rintro _ c1 ⟨x,rfl,hx⟩
 obtain⟨m,hm1,hm2⟩:∃ m:Nat,1+(x:Int)=m/\m<=4:=⟨1+x,by omega,by omega⟩
 refine rn @hm1 ?_
 refine Qa2 (k:=0) (c:=c1) (QaM c1 3 (by omega) (by omega)) rfl rfl ?_
 rintro _ c2 ⟨y,rfl,hy⟩
 refine rn trivial ?_
 refine Qp (QDZ m (1+y) (by omega) (by omega)) rfl ?_
 rintro⟨s,e⟩ ⟨hs,he,hg⟩
 dsimp only at hs he hg
 subst he
 refine rn F ?_
 repeat' (first
  | with_reducible exact⟨⟩
  | (refine Qd (id:=3) [0,1,2,3,4] [⟨[],[],5,[0],[]⟩,⟨[],[],6,[1,2,3,4],[7,8,9,10]⟩,⟨[],[],11,[9,10],[]⟩] (by kernel_rfl) (by kernel_rfl) ?_; refine rn F ?_))
 refine Qa2 (k:=0) (c:=c2) (Qw1 c2 m most (by omega) (by omega) hm) rfl rfl ?_
 rintro _ c3 ⟨l,rfl,hl⟩
 have c9:=QD1 I hI.st s hs l (fun i _ hk c n hn hc=>Qw8 I hI c n hn hc _ hk)
 refine rn trivial ?_
 refine Qp c9 rfl ?_
 rintro⟨s1,out,rd⟩ ⟨q1,q2⟩
 refine rn trivial ?_
 exact⟨_,rfl,rfl,Qcp _,rfl,⟨s1,rfl,q1,by
  obtain⟨i,q3,q4⟩:=q2 (by rw[hg]; exact h0 _ _ (by omega) (by omega) (by omega) (by omega))
  exact⟨i,by omega,q4⟩⟩,_,rfl⟩
def Quv(I:Nat->Kn->Prop)(hI:ICr I)(h0:∀ n m:Int,1<=n->n<=4->1<=m->m<=64->I 0 (Qrl n m))(c:C)(most:Nat)(hm:most<=1000):VCalls prog 7 [.ptr 0 0,.int .i64 most,.bool true] [cb c] (CX fun r=>∃ k:Kn,r=.agg k.d/\k.sm/\∃ i,i<=most+2/\I i k):=by
 refine dd Tryz.func7 ?_
 (unfold Tryz.f7; refine rn trivial ?_)
 refine Qa2 (k:=0) (c:=c) (QpU I hI h0 c most hm) rfl rfl ?_
 rintro _ c1 ⟨s,rfl,hs,hi⟩
 refine rn trivial ?_
 exact⟨_,rfl,rfl,Qcp _,rfl,⟨s.k,rfl,hs.1,hi⟩,_,rfl⟩
end
def AnC.cor (h:AnC x n i a) (hv:lgB x = true) (hf:x.f = 1) (hlog:LogOk x.es) (hb1:1<=b) (hb2:∀ e ∈ x.es,e.tx < b) (hb3:CkN b x.es) (hn:1<=n/\n<=64):
 a.pg=n/\a.nx<=b/\∃ m:Nat,a.cp=m/\m<=x.es.length/\Cor (x.es.take (max i m)) n a.nx a.lo a.ix (LD a.la):=by
 induction h with
 | @init a h =>
   obtain⟨h1,h2⟩:=h
   refine⟨h1,?_⟩
   rcases h2 with⟨_,q2,q3,q4,q5,q6⟩ | ⟨i0,l1,l2,l3,l4,l5⟩
   ·refine ⟨by omega,0,by omega,Jc _,?_⟩
    rw[Nat.max_self,JE,q4,q6]
    exact Cor.zero hn _ fun p m ⟨d,q,_⟩=>by rw[q5] at q; simp at q
   ·have hat:=Qau hv l1
    have hm:x.es.getD i0 E0∈x.es:=by rw[Qf _ _ l1]; exact Jq l1
    rcases(hlog i0 l1).ck l2 with q | ⟨c,c1,c2,c3⟩
    ·exact absurd q l4
    obtain⟨g1,g2,g3,g4,g5⟩:=l5 c c1 c2
    have hnx:=hb3 _ hm l2 c c1 c2
    refine⟨by omega,i0+1,by rw[l3,hat.1,hf]; omega,l1,?_⟩
    rw[Nat.max_eq_right (Jc _),Je l1,<- Qf _ _ l1 E0,g2,g3,g4,g5,<- g1]
    refine c3.ckE ?_ l2 (by have:=c1.2.1; omega) c1.2.2.1
    by_cases h:(x.es.getD i0 E0).tx=0
    ·exact h
    ·have:=Qe0 hat.2 h; omega
 | @skip i a h hi hl ih =>
   obtain⟨h1,h2,m,h3,h4,h5⟩:=ih
   have hat:=(Qau hv hi).1
   refine⟨h1,h2,m,h3,h4,?_⟩
   rw[show max (i+1) m=max i m by omega]
   exact h5
 | @note i a b' h hi hl hr ih =>
   obtain⟨h1,h2,m,h3,h4,h5⟩:=ih
   have hat:=(Qau hv hi).1
   obtain⟨r1,r2,r3,_⟩:=id hr
   have hm:x.es.getD i E0∈x.es:=by rw[Qf _ _ hi]; exact Jq hi
   have:=hb2 _ hm
   refine⟨by omega,by omega,m,by omega,h4,?_⟩
   rw[show max i m=i by omega,<- h1] at h5
   rw[show max (i+1) m=i+1 by omega,Je hi,<- Qf _ _ hi E0]
   have hc:=hr.cor h5 (hlog i hi) fun y hy=>by
    obtain⟨j,hj,rfl⟩:=Jp.1 hy
    rw[Jm] at hj
    rw[JI]
    have:=(Qau hv (i:=j) (by omega)).1
    rw[Qf _ _ (by omega)] at this
    omega
   rw[r1,h1] at hc
   exact hc
def QFk(hv:lgB x=true)(hf:x.f=1)(hlog:LogOk x.es)(hfs:(adK x (loF a lk) m).pl.fs=[])(hc:Cor x.es a.pg a.nx a.lo a.ix (LD a.la)):KI (adK x (loF a lk) m):=by
 have hL:∀ p n,LkK (adK x (loF a lk) m) p n ↔ LD a.la p n:=fun p n=>by
  unfold LkK
  rw[hfs]
  constructor
  ·rintro (h | ⟨f,h,_⟩)
   ·exact h
   ·simp at h
  ·intro h; exact .inl h
 have hc2:=hc.weak (JA _) (L':=LkK (adK x (loF a lk) m)) (fun p n q=>(hL p n).1 q) fun p q n h=>q n ((hL p n).2 h)
 refine⟨hv,hf,hlog,hc2.same (JA _) (fun t q=>hc.ok t (Jz.1 q).1) fun y hy h0 ⟨t,q1,q2⟩=>⟨t,Jz.2 ⟨q1,?_⟩,q2⟩,fun f q=>by rw[hfs] at q; simp at q⟩
 have:=Qhv x.es (a:=t.id) (fun z hz=>(QnJ hv hf hz).1) ⟨y,hy,q2.symm⟩
 have:=(hc.ok t q1).n
 simp
 omega
def CkN.snoc(h:CkN b es)(he:e.kind=6->∀ c,CkV c->e.blob=QaO c->c.nx<=b):CkN b (es++[e]):=fun x hx=>by
 rcases Jk.1 hx with hx | hx
 ·exact h x hx
 ·rw[Jf.1 hx]; exact he
def CkN.mono(h:CkN b es)(hb:b<=b'):CkN b' es:=fun e he h6 c hc hq=>Int.le_trans (h e he h6 c hc hq) hb
def c16(e:E):Bool:=decide (e.kind=1)||decide (e.kind=6)
structure CI(m:Nat)(k:Kn):Prop where
 nx:k.nx<=1+m
 ck:CkN (1+m) k.lg.es
 n16:(k.lg.es.filter c16).length<=m
 no8:∀ e∈k.lg.es,e.kind≠8
def CI.mono(h:CI m k)(hm:m<=m'):CI m' k:=⟨by have:=h.nx; omega,h.ck.mono (by omega),Jj h.n16 hm,h.no8⟩
def CI.app(h:CI m k)(ha:AddOk k e e')(h1:k'.nx=k.nx)(h2:k'.lg.es=k.lg.es++[e'])(h6:e'.kind=6->∀ c,CkV c->e'.blob=QaO c->c.nx<=1+(m+n:Nat))(hn:e.kind=1\/e.kind=6->1<=n)(h8:e.kind≠8):CI (m+n) k':=by
 have s:=ha.2.1.1
 refine⟨by rw[h1]; have:=h.nx; omega,by rw[h2]; exact(h.ck.mono (by omega)).snoc h6,?_,fun x hx=>?_⟩
 ·rw [h2,JG,Jb]
  have:=h.n16
  by_cases hc:c16 e'=true
  ·have hk:e.kind = 1\/e.kind = 6:=by unfold c16 at hc; rw [s] at hc; simpa using hc
   have:=hn hk
   rw[List.filter_cons_of_pos hc,Kc,Jt]
   omega
  ·rw [List.filter_cons_of_neg hc,Kc,JC]
   omega
 ·rw [h2] at hx
  rcases Jk.1 hx with hx | hx
  ·exact h.no8 x hx
  ·rw[Jf.1 hx,s]; exact h8
def CI.add(h:CI m k)(ha:AddOk k e e')(h1:k'.nx=k.nx)(h2:k'.lg.es=k.lg.es++[e'])(hk:e.kind=2\/e.kind=3\/e.kind=4\/e.kind=5\/e.kind=7):CI m k':=
 h.app (n:=0) ha h1 h2 (fun q=>by have:=ha.2.1.1; omega) (fun q=>by omega) (by omega)
def Stp.ci (h:Stp n k k') (hc:CI m k):CI (m + n) k':=by
 cases h with
 | begin v hb=>exact⟨by have:=hc.nx; show k.nx+1<=_; omega,hc.ck.mono (by omega),Jh hc.n16,hc.no8⟩
 | fin ha h3 hf=>exact hc.add ha rfl rfl (by omega)
 | ckpt ha h6 hk =>
   refine hc.app ha rfl rfl (fun _ c c1 c2=>?_) (fun _=>Jr _) (by omega)
   rw[ha.2.1.2.2.2.2] at c2
   rcases hk with q | ⟨c0,q1,q2,q3⟩
   ·have:=(Qms c1).1.1
    rw[<- c2,q] at this
    simp at this
   ·have:=QyQ c1 q2 (c2.symm.trans q3)
    rw[this,q1.nx]
    have:=hc.nx
    omega
 | @change _ e e' ha h1 hs hu=>exact hc.app (k':=k.set e') ha rfl rfl (fun q=>by have:=ha.2.1.1; omega) (fun _=>Jr _) (by omega)
 | undo ha h2 hs hu=>exact hc.add ha rfl rfl (by omega)
 | wrt ha h7 hw=>exact hc.add ha rfl rfl (by omega)
 | lock u=>exact⟨hc.nx,hc.ck,hc.n16,hc.no8⟩
 | save a h=>exact⟨hc.nx,hc.ck,hc.n16,hc.no8⟩
 | back a b h=>exact⟨hc.nx,hc.ck,hc.n16,hc.no8⟩
 | rem a hi hn=>exact⟨hc.nx,hc.ck,hc.n16,hc.no8⟩
 | pool p hs=>exact⟨hc.nx,hc.ck,hc.n16,hc.no8⟩
 | drop a h=>exact⟨hc.nx,hc.ck,hc.n16,hc.no8⟩
 | put x v hr hl _ _=>exact⟨hc.nx,hc.ck,hc.n16,hc.no8⟩
 | putl x v hr hl _ _=>exact⟨hc.nx,hc.ck,hc.n16,hc.no8⟩
 | force d h=>exact⟨hc.nx,hc.ck,hc.n16,hc.no8⟩
def Str.ci(h:Str n k k')(hc:CI m k):CI (m+n) k':=by
 induction h generalizing m with
 | refl k=>exact hc.mono (by omega)
 | step _ h2 ih=>rw[<- Nat.add_assoc]; exact h2.ci (ih hc)
def CrK.go(h:CrK k k')(hk:KI k)(hc:CI m k):KI k'/\CI m k':=by
 obtain⟨j,hj,hv,hn,a,lk,h1,h2,h3,h4⟩:=h
 have hsub:∀ e∈k.lg.es.take j,e∈k.lg.es:=fun e he=>JZ he
 have hckn:CkN (1+m) (k.lg.es.take j):=fun e he=>hc.ck e (hsub e he)
 have hnx:=hc.nx
 obtain⟨g1,g2,mm,g3,g4,g5⟩:=h1.cor hv hk.f (hk.log.take j) (b:=1+m) (by omega) (fun e he=>by have:=hk.cor.ids e (hsub e he); omega) hckn hn
 dsimp only at g4 g5
 rw[Jl (l:=k.lg.es.take j) (by omega),<- g1] at g5
 have hK:=QFk (lk:=lk) (m:=k.pl.size) hv hk.f (hk.log.take j) h3 g5
 have:=h4.ci (m:=m) ⟨g2,hckn,Jj ((List.take_sublist j k.lg.es).filter _).length_le hc.n16,fun e he=>hc.no8 e (hsub e he)⟩
 exact⟨h4.KI hK,this⟩
def I0(m:Nat)(k:Kn):Prop:=KI k/\CI m k
def QGQ:ICr I0:=
 ⟨fun n m k k' h hi=>⟨h.KI hi.1,h.ci hi.2⟩,fun m k h=>h.1.lg,fun m k k' h hi=>by
  obtain⟨h1,h2⟩:=h.go hi.1 hi.2
  exact⟨h1,h2.mono (by omega)⟩⟩
def QFp(n m:Int)(h1:1<=n)(h2:n<=4):I0 0 (Qrl n m):=⟨QBM h1 (by omega),⟨by show(1:Int)<=_; omega,fun e he=>by simp[Qrl,Lg1] at he,by simp[Qrl,Lg1],fun e he=>by simp[Qrl,Lg1] at he⟩⟩
def Quu(c:C)(most:Nat)(hm:most<=1000):VCalls prog 7 [.ptr 0 0,.int .i64 most,.bool true] [cb c] (CX fun r=>∃ k:Kn,r=.agg k.d/\k.sm/\KI k/\CI (most+2) k):=
 (Quv I0 QGQ (fun n m h1 h2 _ _=>QFp n m h1 h2) c most hm).mono fun r h' ⟨B',e1,e2,e3,e4,⟨k,q1,q2,i,q3,q4,q5⟩,e5⟩=>⟨B',e1,e2,e3,e4,⟨k,q1,q2,q4,q5.mono q3⟩,e5⟩
def Qgu{es:List E}(h:i<k)(hk:k<=es.length):es.getD i E0∈es.take k:=by
 rw[Jp]
 exact⟨i,by rw[Jm]; omega,by rw[JI,Qf _ _ (by omega)]⟩
def Qdg(es:List E)(h:j<es.length):es.take (j+1)=es.take j++[es.getD j E0]:=by
 rw[Je h,Qf _ _ h]
def QJ(es:List E)(m i:Nat):(es.drop m).getD i E0=es.getD (m+i) E0:=by
 rw[Ji,J5,<- Ji]
def QdV{es:List E}(h:y∈es.take j):∃ k,k<j/\k<es.length/\es.getD k E0=y:=by
 obtain⟨k,hk,rfl⟩:=Jp.1 h
 rw[Jm] at hk
 exact⟨k,by omega,by omega,by rw[Qf _ _ (by omega),JI]⟩
def Qvh{es:List E}(hk:k<j)(hl:j<=es.length)(h1:(es.getD k E0).tx=a)(h2:(es.getD k E0).kind=3\/(es.getD k E0).kind=5):Qvi (es.take j) a:=⟨_,Qgu hk hl,h1,h2⟩
def QjM (hv:lgB x = true) (hf:x.f = 1) (hlog:LogOk x.es) (a n:Int):∀ j,j<=x.es.length->(n ∈ Qck (x.es.take j) a ↔ (∃ k,k < j/\(x.es.getD k E0).lsn = n/\(x.es.getD k E0).kind = 1/\(x.es.getD k E0).tx = a)/\∀ q,q < j->(x.es.getD q E0).kind = 2->(x.es.getD q E0).ref ≠ n)
 | 0,_=>by simp[Qck]
 | j + 1,hj=>by
   have ih:=QjM hv hf hlog a n j (by omega)
   have hat:=(Qau hv (i:=j) (by omega)).1
   have ho:=(Qau hv (i:=j) (by omega)).2
   have he:=hlog j (by omega)
   rw[Qdg _ (by omega),Qcz]
   have hu:∀ k,k<j->(x.es.getD k E0).lsn≠(x.es.getD j E0).lsn:=fun k hk=>by
    have:=(Qau hv (i:=k) (by omega)).1
    omega
   have hr:(x.es.getD j E0).kind=2->∃ k,k<j/\(x.es.getD k E0).lsn=(x.es.getD j E0).ref/\(x.es.getD k E0).tx=(x.es.getD j E0).tx:=fun q=>by
    obtain⟨_,y,y1,y2,_,y3,_⟩:=he.un q
    obtain⟨k,k1,_,rfl⟩:=QdV y1
    exact⟨k,k1,y2,y3⟩
   have hlt:∀ q,q<x.es.length->(x.es.getD q E0).kind=2->(x.es.getD q E0).ref<1+q:=fun q hq h2=>by
    obtain⟨_,y,y1,y2,_⟩:=(hlog q hq).un h2
    obtain⟨k,k1,_,rfl⟩:=QdV y1
    have:=(Qau hv (i:=k) (by omega)).1
    omega
   constructor
   ·intro h
    have old:n∈Qck (x.es.take j) a->((x.es.getD j E0).kind=2->(x.es.getD j E0).ref≠n)->(∃ k,k<j+1/\(x.es.getD k E0).lsn=n/\(x.es.getD k E0).kind=1/\(x.es.getD k E0).tx=a)/\∀ q,q<j+1->(x.es.getD q E0).kind=2->(x.es.getD q E0).ref≠n:=fun h h'=>by
     obtain⟨⟨k,k1,k2⟩,q⟩:=ih.1 h
     refine⟨⟨k,by omega,k2⟩,fun r hr=>?_⟩
     by_cases hrj:r=j
     ·subst hrj; exact h'
     ·exact q r (by omega)
    split at h
    ·rename_i ht
     split at h
     ·rename_i hk
      rcases Jk.1 h with h | h
      ·exact old h fun q=>by omega
      ·rw [Jf.1 h]
       exact⟨⟨j,by omega,rfl,hk,ht⟩,fun q hq h2=>by have:=hlt q (by omega) h2; omega⟩
     split at h
     ·obtain ⟨h3,h4⟩:=Jz.1 h
      exact old h3 fun _ q=>of_decide_eq_true h4 q.symm
     ·rename_i hk hk2
      exact old h fun q=>absurd q hk2
    ·rename_i ht
     refine old h fun q hq=>?_
     obtain⟨k,k1,k2,k3⟩:=hr q
     obtain⟨⟨k',r1,r2,_,r4⟩,_⟩:=ih.1 h
     have e1:=(Qau hv (i:=k) (by omega)).1
     have e2:=(Qau hv (i:=k') (by omega)).1
     obtain rfl:k=k':=by omega
     exact ht (by rw[<- k3,r4])
   ·rintro ⟨⟨k,k1,k2,k3,k4⟩,q⟩
    by_cases hkj:k=j
    ·subst hkj
     rw[if_pos k4,if_pos k3,k2]
     simp
    ·have hm:n ∈ Qck (x.es.take j) a:=ih.2 ⟨⟨k,by omega,k2,k3,k4⟩,fun r hr=>q r (by omega)⟩
     split
     ·split
      ·exact Ju _ hm
      split
      ·rename_i h2
       exact Jz.2 ⟨hm,decide_eq_true fun h=>q j (by omega) h2 h.symm⟩
      ·exact hm
     ·exact hm
section
attribute [local go_sem] Ce.d Ch.d E.d
theorem Qwf:vt prog 79=some none:=by kernel_rfl
theorem Qwe:vt prog 80=some none:=by kernel_rfl
theorem Qwd:vt prog 81=some none:=by kernel_rfl
theorem um1:prog.underlying 79=some (.map 3 99):=by kernel_rfl
theorem um2:prog.underlying 80=some (.map 3 3):=by kernel_rfl
theorem um3:prog.underlying 81=some (.map 3 4):=by kernel_rfl
def Qj2:KeyT prog 3 kI:=Qym (by kernel_rfl)
theorem z1:Qrp prog 99=some (.pointer none):=by kernel_rfl
theorem z2:Qrp prog 3=some (.int .i64 0):=by kernel_rfl
theorem z3:Qrp prog 4=some (.bool false):=by kernel_rfl
attribute [local go_sem] Qwf Qwe Qwd
def ckC(f:Int)(bt bp bu:Nat):List DV:=[.int .i64 f,.pv (.lit (.map (some bt))),.pv (.lit (.map (some bp))),.pv (.lit (.map (some bu)))]
def Qmb:List (Int×Int)->Int->Option Int
 | [],_=>none
 | (a,x)::r,k=>if a=k then some x else Qmb r k
def Qrj:List (Int×Int)->Int->Int->List (Int×Int)
 | [],k,v=>[(k,v)]
 | (a,x)::r,k,v=>if a=k then (a,v)::r else (a,x)::Qrj r k v
def QmK(L:List (Int×Int)):List (Int×DV):=L.map fun p=>(p.1,.int .i64 p.2)
def QzM (L:List (Int × Int)) (k:Int):Qds (QmK L) k = (Qmb L k).map fun x=>DV.int .i64 x:=by
 induction L with
 | nil=>rfl
 | cons p r ih =>
   obtain⟨a,x⟩:=p
   unfold QmK at ih |-
   simp only[JM,Qds,Qmb,ih]
   split<;>rfl
def QEi (L:List (Int × Int)) (k v:Int):Qgl (QmK L) k (.int .i64 v) = QmK (Qrj L k v):=by
 induction L with
 | nil=>rfl
 | cons p r ih =>
   obtain⟨a,x⟩:=p
   unfold QmK at ih |-
   simp only[JM,Qgl,Qrj]
   split
   ·rfl
   ·rw[ih]; rfl
def QEO(L:List (Int×Int))(k:Int):(Qds (QmK L) k).getD (.int .i64 0)=.int .i64 ((Qmb L k).getD 0):=by rw[QzM]; cases Qmb L k<;>rfl
def QEN(L:List (Int×Int))(k:Int):(Qds (QmK L) k).isSome=(Qmb L k).isSome:=by rw[QzM]; cases Qmb L k<;>rfl
def pagedB(f:Int)(L:List (Int×Int))(e:E):Bool:=match Qmb L e.c.pg with
 | none=>decide (e.ppg<f)
 | some x=>decide (e.ppg=x)
def Qpd(hp:Qa)(g:MapsD)(kc bt bp bu:Nat)(f:Int)(e:E)(L:List (Int×Int))(hk:kc<hp.length)(hc:Qc hp kc=some (ckC f bt bp bu))(hg:(bp,Qbg kI (QmK L))∈g) :
 VCallsG prog 39 [.ptr kc 0,.agg e.d] hp g (fun r h' g'=>r=.bool (pagedB f L e)/\(∃ x,h'=hp++[x])/\g'=g.map fun p=>if p.1=bp then (bp,Qbg kI (QmK (Qrj L e.c.pg e.lsn))) else p):=by
 refine Q3 (fn:=Tryz.f39) Tryz.func39 rfl (by kernel_rfl) (by simp[Tryz.f39]) (fun c=>?_)
 unfold ckC at hc
 refine VWpG.first (Qb c) ?_
 (unfold Tryz.f39; refine rn trivial ?_)
 refine VWpG.seq ?_
 refine VWpG.drawn (k:=7) (f:=6) (Qb c) (by kernel_rfl) (by kernel_rfl) (by kernel_rfl) (by kernel_rfl) rfl ?_; refine QY (by kernel_rfl) ?_
 refine rn (Ja @hk @hc) ?_
 refine Qeu (zv:=.int .i64 0) (L:=QmK L) (k:=e.c.pg) rfl rfl um2 Qj2 (Qai z2) (QaQ rfl) rfl hg (Qaf rfl) ?_
 rw[QEO,QEN]
 refine rn trivial ?_
 refine VWpG.seq ?_
 refine VWpG.drawn (k:=9) (f:=6) (Qb c) (by kernel_rfl) (by kernel_rfl) (by kernel_rfl) (by kernel_rfl) rfl ?_; refine QY (by kernel_rfl) ?_
 refine rn (Ja @hk @hc) ?_
 refine QcX (L:=QmK L) (k:=e.c.pg) rfl rfl um2 Qj2 rfl hg (Qaf rfl) ?_
 refine rn trivial ?_
 rw[QEi]
 refine VWpG.seq ?_
 refine VWpG.first (Qb c) ?_
 refine rn trivial ?_
 refine VWpG.cond rfl (fun hZ=>?_) (fun hZ=>?_)
 ·refine VWpG.plain (Qb c) ?_
  refine rn trivial ?_
  refine Qgh (by kernel_rfl) (by kernel_rfl) ?_
  refine rn (Ja @hk @hc) ?_
  refine⟨?_,_,rfl⟩
  unfold pagedB
  cases h:Qmb L e.c.pg with
  | none=>rfl
  | some x=>simp[h] at hZ
 ·refine VWpG.plain (Qb c) ?_
  refine rn trivial ?_
  refine VWpG.plain (Qb c) ?_
  refine rn trivial ?_
  refine⟨?_,_,rfl⟩
  unfold pagedB
  cases h:Qmb L e.c.pg with
  | none=>simp[h] at hZ
  | some x=>exact congrArg DV.bool (JY _ _)
def rnC(last:Int)(ea ab en:Bool)(p:DV):List DV:=[.int .i64 last,.bool ea,.bool ab,.bool en,p]
def Qmn(hp:Qa)(g:MapsD)(kc bt bp bu:Nat)(f:Int)(e:E)(L:List (Int×DV))(hk:kc<hp.length)(hc:Qc hp kc=some (ckC f bt bp bu))(hg:(bt,Qbg kI L)∈g)(hn:Qds L e.tx=none) :
 VCallsG prog 38 [.ptr kc 0,.agg e.d] hp g (fun r h' g'=>r=.bool (decide (e.ptx<f))/\(∃ x,h'=hp++[x]++[⟨101,true,rnC e.lsn (decide (0<e.ptx)) false false (.pv (.slc []))⟩])/\g'=g.map fun p=>if p.1=bt then (bt,Qbg kI (Qgl L e.tx (.ptr (hp.length+1) 0))) else p):=by
 refine Q3 (fn:=Tryz.f38) Tryz.func38 rfl (by kernel_rfl) (by simp[Tryz.f38]) (fun c=>?_)
 unfold ckC at hc
 refine VWpG.first (Qb c) ?_
 (unfold Tryz.f38; refine rn trivial ?_)
 refine VWpG.seq ?_
 refine VWpG.drawn (k:=6) (f:=6) (Qb c) (by kernel_rfl) (by kernel_rfl) (by kernel_rfl) (by kernel_rfl) rfl ?_; refine QY (by kernel_rfl) ?_
 refine rn (Ja @hk @hc) ?_
 refine Qeu (zv:=.pointer none) (L:=L) (k:=e.tx) rfl rfl um1 Qj2 (Qai z1) (QaQ rfl) rfl hg (Qaf rfl) ?_
 rw[hn]
 refine rn trivial ?_
 refine VWpG.seq ?_
 refine VWpG.first (Qb c) ?_
 refine rn trivial ?_
 refine VWpG.cond rfl (fun hZ=>?_) (fun hZ=>?_)
 ·refine VWpG.seq ?_
  refine VWpG.drawn (k:=13) (f:=6) (Qb c) (by kernel_rfl) (by kernel_rfl) (by kernel_rfl) (by kernel_rfl) rfl ?_; refine Qra [0,1,2,3,4,5,6,7,8,9,10,11] [⟨[],[],12,[0,1,2,3,4,5,6,7,8,9,10],[]⟩] (by kernel_rfl) ?_
  refine rn (Ja @hk @hc) ?_
  refine QcX (L:=L) (k:=e.tx) rfl rfl um1 Qj2 rfl hg (Qaf rfl) ?_
  refine rn trivial ?_
  refine VWpG.plain (Qb c) ?_
  refine rn trivial ?_
  refine Qgh (by kernel_rfl) (by kernel_rfl) ?_
  refine rn (Ja @hk @hc) ?_
  exact⟨_,rfl⟩
 ·simp at hZ
def Qvv(hp:Qa)(g:MapsD)(kc bt bp bu:Nat)(f:Int)(e:E)(L:List (Int×DV))(hk:kc<hp.length)(hc:Qc hp kc=some (ckC f bt bp bu))(hg:(bt,Qbg kI L)∈g)(k:Nat)(la:Int)(ea ab en:Bool)(p:DV)(hkl:k<hp.length)(hb:Qc hp k=some (rnC la ea ab en p))(hn:Qds L e.tx=some (.ptr k 0)) :
 VCallsG prog 38 [.ptr kc 0,.agg e.d] hp g (fun r h' g'=>r=.bool (decide (e.ptx=la)&&!en)/\(∃ x,h'=Ql hp k (rnC e.lsn ea ab en p)++[x])/\g'=g):=by
 refine Q3 (fn:=Tryz.f38) Tryz.func38 rfl (by kernel_rfl) (by simp[Tryz.f38]) (fun c=>?_)
 unfold ckC at hc
 unfold rnC at hb
 refine VWpG.first (Qb c) ?_
 (unfold Tryz.f38; refine rn trivial ?_)
 refine VWpG.seq ?_
 refine VWpG.drawn (k:=6) (f:=6) (Qb c) (by kernel_rfl) (by kernel_rfl) (by kernel_rfl) (by kernel_rfl) rfl ?_; refine QY (by kernel_rfl) ?_
 refine rn (Ja @hk @hc) ?_
 refine Qeu (zv:=.pointer none) (L:=L) (k:=e.tx) rfl rfl um1 Qj2 (Qai z1) (QaQ rfl) rfl hg (Qaf rfl) ?_
 rw[hn]
 refine rn trivial ?_
 refine VWpG.seq ?_
 refine VWpG.first (Qb c) ?_
 refine rn trivial ?_
 refine VWpG.cond rfl (fun hZ=>?_) (fun hZ=>?_)
 ·simp at hZ
 refine VWpG.plain (Qb c) ?_
 refine rn trivial ?_
 refine VWpG.plain (Qb c) ?_
 have F:=(Ja @hk (Ja @hc (Ja @hkl @hb)))
 refine rn F ?_
 repeat' (first
  | with_reducible exact⟨⟩
  | (refine sG F ?_ ?_<;>intro hZ)
  | (refine Qd (id:=5) [0,1,2,3,4,5,6,7,8,9,10,11,12,13] [⟨[],[],14,[],[]⟩] (by kernel_rfl) (by kernel_rfl) ?_; refine rn F ?_))
 all_goals exact⟨_,rfl⟩
end
section
attribute [local go_sem] Ce.d Ch.d E.d Qj0 Qrd Qq8 Qok QpM Qqu Qfn
def QcD(l:List E)(hl:l.length<=1000000)(g:FuncId)(caps:List DV)(hc:DV.nums.go (fun _=>false) caps=true)(p:E->Bool)(hf:∀ x,VCalls prog g (.agg x.d::caps) [] (Ret (.bool (p x)))) :
 VCalls prog 50 [.pv (.sl (fz encE l)),.fn (.func g) [] caps] [] (Ret (.int .i64 (QgH l p))):=by
 refine dd Tryz.func50 ?_
 have hf':=hf
 unfold E.d at hf
 (unfold Tryz.f50; refine rn trivial ?_)
 refine QrX (fun i:Pass l (fun x=>p x=true)=>⟨19,0,[(8,.int .i64 i.i),(7,.int .i64 l.length),(0,.pv (.sl (fz encE l))),(1,.fn (.func g) [] caps)],[]⟩) (fun i=>l.length-i.i) (Pass.start l _) (by refine⟨rfl,rfl,by simp,?_,?_,.inl rfl⟩<;>(repeat' apply Ja)<;>first | rfl | trivial) ?_
 intro i
 have hi:=i.hi
 refine rn trivial ?_
 refine Qay (fun hc1=>?_) (fun hc1=>?_)<;>simp only[decide_eq_true_eq,decide_eq_false_iff_not,JW,Jd,Bool.or_eq_false_iff,Bool.and_eq_false_imp,Bool.not_eq_true',Bool.not_eq_false',beq_iff_eq,beq_eq_false_iff_ne,bne_iff_ne,bne_eq_false_iff_eq,ne_eq] at hc1
 ·have hlt:i.i < l.length:=by omega
  have hg:=QyB l i.i hlt
  have hm:=hf (l.getD i.i E0)
  have hgd:=Qf l i.i hlt E0
  refine rn @hg ?_
  refine Qaa hm (by simpa [DV.nums.go,DV.nums] using hc) ?_
  refine rn trivial ?_
  refine Qay (fun hx=>?_) (fun hx=>?_)
  ·(refine rn trivial ?_; try with_reducible exact ⟨⟩)
   rw[QnL l p i.i hlt (by rw[<- hgd]; exact hx) i.no]
  ·(refine rn trivial ?_; try with_reducible exact ⟨⟩)
   exact⟨i.next hlt (by rw[<- hgd,hx]; simp),by show l.length-(i.i+1)<l.length-i.i; omega,(by refine⟨rfl,rfl,by simp,?_,?_,.inl rfl⟩<;>(repeat' apply Ja)<;>first | rfl | trivial)⟩
 ·(refine rn trivial ?_; try with_reducible exact ⟨⟩)
  have:=i.all (by omega)
  rw[QgH,if_neg (by simpa using this)]
def QbA(l:List E)(hl:l.length<=1000000)(g:FuncId)(caps:List DV)(hc:DV.nums.go (fun _=>false) caps=true)(p:E->Bool)(hf:∀ x,VCalls prog g (.agg x.d::caps) [] (Ret (.bool (p x)))) :
 VCalls prog 54 [.pv (.sl (fz encE l)),.fn (.func g) [] caps] [] (Ret (.bool (l.any p))):=by
 refine dd Tryz.func54 ?_
 have hi:=QcD l hl g caps hc p hf
 (unfold Tryz.f54; refine rn trivial ?_)
 refine Qaa hi (by simpa [DV.nums.go,DV.nums] using hc) ?_
 by_cases ha:l.any p=true
 ·rw [QgH,if_pos ha]
  (refine rn @ha ?_; try with_reducible exact⟨⟩)
 ·have ha':l.any p = false:=by simpa using ha
  rw[QgH,if_neg ha]
  (refine rn @ha' ?_; try with_reducible exact⟨⟩)
@[local go_sem] def Ch.inv (x:Ch):Ch:=⟨x.pg,x.sl,x.a,x.b⟩
def Ql5(x:Ch):VCalls prog 52 [.agg x.d] [] (Ret (.agg x.inv.d)):=by
 refine dd Tryz.func52 ?_
 (unfold Tryz.f52; refine rn trivial ?_; try with_reducible exact⟨⟩)
@[local go_sem] def E.q (x:E):List PV:=[.lit (.int .i64 x.lsn),.lit (.int .i64 x.kind),.lit (.int .i64 x.tx),.lit (.int .i64 x.ptx),.lit (.int .i64 x.ppg),.lit (.int .i64 x.ref),.lit (.int .i64 x.c.pg),.lit (.int .i64 x.c.sl),.lit (.bool x.c.b.set),.str x.c.b.data,.lit (.bool x.c.a.set),.str x.c.a.data,.str x.blob]
def Qg2(x:E)(e:E):VCalls prog 51 [.agg x.d,.ip e.q] [] (Ret (.bool (decide (x.lsn >= e.ref)))):=by
 refine dd Tryz.func51 ?_
 (unfold Tryz.f51; refine rn trivial ?_; try with_reducible exact⟨⟩)
def Qg1(x:E)(e:E):VCalls prog 55 [.agg x.d,.ip e.q] [] (Ret (.bool (decide (x.c.pg=e.c.pg)&&decide (x.c.sl=e.c.sl)))):=by
 refine dd Tryz.func55 ?_
 (unfold Tryz.f55; refine rn trivial ?_)
 refine rn F ?_
 repeat' (first
  | with_reducible exact⟨⟩
  | (refine sG F ?_ ?_<;>intro hZ))
 all_goals exact congrArg DV.bool (JY _ _)
def zE:List DV:=[.pv (.lit (.int .i64 0)),.pv (.lit (.int .i64 0)),.pv (.lit (.int .i64 0)),.pv (.lit (.int .i64 0)),.pv (.lit (.int .i64 0)),.pv (.lit (.int .i64 0)),.pv (.lit (.int .i64 0)),.pv (.lit (.int .i64 0)),.pv (.lit (.bool false)),.pv (.str []),.pv (.lit (.bool false)),.pv (.str []),.pv (.str [])]
def QCj(n:Int)(h0:0<=n)(h1:n<=100000):VCalls prog 76 [.pv (.slc []),.int .i64 n] [] (QhY noK [] 13 0 57 []):=by
 refine VCalls.newSl_cut (t:=mk zE n.toNat) (VCalls.newSl ?_)
 refine QgW (fn:=Tryz.f76) Tryz.func76 rfl (by kernel_rfl) (by simp[Tryz.f76]) (fun c=>?_)
 have hn:¬ n<0:=by omega
 have hs:n-(0-((0:Nat):Int))=n:=by omega
 refine VWpG.first (Qb c) ?_
 (unfold Tryz.f76; refine rn trivial ?_)
 refine VWpG.seq ?_
 refine VWpG.first (Qb c) ?_
 refine rn @hn ?_
 refine VWpG.cond rfl (fun hZ=>?_) (fun hZ=>?_)
 ·simp at hZ
 refine VWpG.plain (Qb c) ?_
 refine rn trivial ?_
 refine VWpG.seq ?_
 refine VWpG.seq ?_
 refine VWpG.cut1 (Qb c) 2 [] ?_
 refine rn trivial ?_
 refine Qbu rfl (fun c=>by simp) (Qkf (Qb c) rfl (Qmu (x:=.tmp 9) rfl Tryz.velem26 rfl) ?_)
 refine rn trivial ?_
 rw[hs]
 refine VWpG.first (Qb c) ?_
 refine rn trivial ?_
 refine VWpG.cond rfl (fun hZ=>?_) (fun hZ=>?_)
 ·have hn0:0 < n:=by simpa using hZ
  refine VWpG.cut1 (Qb c) 2 [0,1] ?_
  refine rn trivial ?_
  refine Qbu rfl (fun c=>by simp) (Qkf (Qb c) rfl (Qmu (x:=.tmp 18) rfl Tryz.velem26 rfl) (QbF ?_))
  refine rn trivial ?_
  refine Qbu rfl (fun c=>by simp) (Qkf (Qb c) rfl (Qni (x:=.tmp 17) (y:=.tmp 19) rfl Tryz.velem26 rfl rfl) (QbF ?_))
  refine rn trivial ?_
  refine Qbu rfl (fun c=>by simp) (Qkf (Qb c) rfl (QmA (x:=.tmp 20) (y:=.tmp 21) (z:=zE) (l:=n) rfl Tryz.velem26 (by kernel_rfl) Tryz.bytes57 Tryz.vzero57 hn0 (by omega) (by decide) rfl rfl (by decide) (by omega) rfl rfl) ?_)
  refine rn trivial ?_
  refine VWpG.plain (Qb c) ?_
  refine rn trivial ?_
  exact⟨by simp,.inr ⟨_,.inl rfl,by simp,rfl,Que _ _ rfl _⟩⟩
 ·have hn0:n = 0:=by simp at hZ; omega
  subst hn0
  refine VWpG.plain (Qb c) ?_
  refine rn trivial ?_
  refine VWpG.plain (Qb c) ?_
  refine rn trivial ?_
  exact⟨by simp,.inl ⟨rfl,rfl,rfl⟩⟩
@[local go_sem] def l2 (a b:List E):List (List PV):=[[.sl (fz encE a)],[.sl (fz encE b)]]
structure C2(a b:List E) where
 i:Nat
 hi:i<=2
def C2.n{a b:List E}(s:C2 a b):Nat:=match s.i with | 0=>0 | 1=>a.length | _=>a.length+b.length
def C2.l{a b:List E}(s:C2 a b):List E:=match s.i with | 0=>[] | 1=>a | _=>a++b
theorem C2.n0(a b:List E)(h:0<=2):(⟨0,h⟩:C2 a b).n=0:=rfl
theorem C2.n1(a b:List E)(h:1<=2):(⟨1,h⟩:C2 a b).n=a.length:=rfl
theorem C2.n2(a b:List E)(h:2<=2):(⟨2,h⟩:C2 a b).n=a.length+b.length:=rfl
theorem C2.l0(a b:List E)(h:0<=2):(⟨0,h⟩:C2 a b).l=[]:=rfl
theorem C2.l1(a b:List E)(h:1<=2):(⟨1,h⟩:C2 a b).l=a:=rfl
theorem C2.l2(a b:List E)(h:2<=2):(⟨2,h⟩:C2 a b).l=a++b:=rfl
def Qmr(a b:List E)(h:a.length+b.length<=100000):VCalls prog 53 [.pv (.sl (l2 a b))] [] (QhY noK [] 13 (a.length+b.length) 57 (cells encE (a++b))):=by
 refine VCalls.newSl ?_
 refine Qbj (fn:=Tryz.f53) Tryz.func53 rfl (by kernel_rfl) (by simp[Tryz.f53]) ?_
 (unfold Tryz.f53; refine rn trivial ?_)
 refine QrX (fun s:C2 a b=>⟨36,0,[(11,.int .i64 s.i),(10,.int .i64 2),(9,.pv (.sl (l2 a b))),(3,.int .i64 s.n),(0,.pv (.sl (l2 a b)))],[]⟩) (fun s=>2-s.i) ⟨0,by omega⟩ (by refine⟨rfl,rfl,by simp,?_,?_,.inl rfl⟩<;>(repeat' apply Ja)<;>first | rfl | trivial) ?_
 rintro⟨i,hi⟩
 have hh:i=0\/i=1\/i=2:=by omega
 have q0:((0:Nat):Int)+a.length=a.length:=by omega
 have q1:¬ ((a.length:Int)<0):=by omega
 have q2:¬ (((a.length+b.length:Nat):Int)<0):=by omega
 have q3:(a.length:Int)+b.length=((a.length+b.length:Nat):Int):=by omega
 rcases hh with rfl | rfl | rfl
 ·(refine rn (Ja (C2.n0 a b) (Ja @q0 @q1)) ?_; try with_reducible exact ⟨⟩)
  exact⟨⟨1,by omega⟩,by dsimp only; omega,(by refine⟨rfl,rfl,by simp,?_,?_,.inl rfl⟩<;>(repeat' apply Ja)<;>first | rfl | trivial)⟩
 ·(refine rn (Ja (C2.n1 a b) (Ja @q2 @q3)) ?_; try with_reducible exact ⟨⟩)
  exact⟨⟨2,by omega⟩,by dsimp only; omega,(by refine⟨rfl,rfl,by simp,?_,?_,.inl rfl⟩<;>(repeat' apply Ja)<;>first | rfl | trivial)⟩
 ·(refine rn ((C2.n2 a b)) ?_; try with_reducible exact ⟨⟩)
  refine Qsd (QCj _ (by omega) (by omega)) rfl rfl ?_
  refine rn trivial ?_
  refine Qj (fun s:C2 a b=>⟨36,0,[(27,.int .i64 s.i),(26,.int .i64 2),(25,.pv (.sl (l2 a b))),(6,.own 0 13 0 s.n)],[⟨57,true,cells encE s.l⟩]⟩) (fun s=>2-s.i) ⟨0,by omega⟩ (gc [0]) ?_
  rintro⟨i,hi⟩
  have hh:i=0\/i=1\/i=2:=by omega
  have ha:=Qj8 encE a
  have hb:=Qj8 encE b
  have m1:a.length*128<=140737488355328:=by omega
  have m2:(a.length+b.length)*128<=140737488355328:=by omega
  rcases hh with rfl | rfl | rfl
  ·(refine rn (Ja (C2.l0 a b) (Ja (C2.n0 a b) (Ja @ha @m1))) ?_; try with_reducible exact ⟨⟩)
   exact⟨⟨1,by omega⟩,by dsimp only; omega,(gc [1])⟩
  ·(refine rn (Ja (C2.l1 a b) (Ja (C2.n1 a b) (Ja @hb @m2))) ?_; try with_reducible exact ⟨⟩)
   exact⟨⟨2,by omega⟩,by dsimp only; omega,(gc [1])⟩
  ·(refine rn (Ja (C2.l2 a b) ((C2.n2 a b))) ?_; try with_reducible exact ⟨⟩)
   exact⟨by simp,.inr ⟨0,.inl rfl,by simp,rfl,Qs _ _ _⟩⟩
end
end Go.Proofs.YtdnbdbgdfocpgaaGreat
