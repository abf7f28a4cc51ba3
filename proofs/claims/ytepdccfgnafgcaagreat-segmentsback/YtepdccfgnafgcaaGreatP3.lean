/-
  Contracts of functions and plain laws. No condition.
-/
import Derived.Test.YtepdccfgnafgcaaGreatP2
import Derived.Test.YtepdccfgnafgcaaGreatP1
import Derived.Test.YtepdccfgnafgcaaGreatV3
set_option linter.unusedSimpArgs false
set_option linter.unusedVariables false
set_option linter.defProp false
set_option maxRecDepth 100000
set_option maxHeartbeats 8000000
set_option autoImplicit true
set_option relaxedAutoImplicit true
open And renaming intro->Jb
open Bool renaming and_eq_true->Jf,toNat_le->Kf,toNat_false->Kj,or_eq_true->Km
open Int renaming toNat_natCast->Ji,le_refl->JA,lt_of_lt_of_le->JZ,natCast_pow->J6,le_trans->Ku
open List renaming length_append->Ja,getD_eq_getElem?_getD->Jc,mem_iff_getElem->Je,mem_singleton->Jg,mem_append->Jh,mem_append_left->Jj,getElem_mem->Jk,append_assoc->Jl,take_succ_eq_append_getElem->Jn,take_of_length_le->Jo,length_take->Jp,all_eq_true->Jr,length_cons->Js,getElem_map->Jt,mem_range->Ju,append_nil->Jv,length_singleton->Jw,length_set->Jy,flatMap_cons->JB,pairwise_iff_getElem->JC,length_drop->JF,getElem_set_self->JG,getElem?_append_right->JI,getElem?_set_ne->JJ,getElem?_eq_some_iff->JK,getElem_set_ne->JL,length_nil->JM,prefix_append->JN,mem_filter->JO,getElem?_set_self->JP,foldl_append->JQ,take_zero->JR,mem_append_right->JS,take_append_of_le_length->JT,nil_append->JU,getElem_of_mem->JV,flatMap_append->JW,getD_cons_succ->JX,filter_append->JY,mem_of_find?_eq_some->J0,drop_left->J1,getElem?_eq_getElem->J2,prefix_refl->J4,length_filter_le->J7,getElem?_eq_none->J8,mem_cons_of_mem->J9,mem_of_mem_take->Ka,mem_of_mem_drop->Kb,replicate->Kc,take_succ_cons->Ke,map_cons->Kg,getElem?_take->Kh,filter_cons->Kk,find?_some->Kl,idxOf_cons->Ko,take_left->Kp,take_nil->Kq,mem_cons->Kr,mem_map->Kt,range->Kw
open Nat renaming zero_le->Jd,le_succ_of_le->Jm,le_trans->Jq,le_refl->Jz,pow_le_pow_right->JD,mul_le_mul_right->JE,lt_trichotomy->JH,succ_le_succ->J3,mul_le_mul_left->Kd,mod_eq_of_lt->Ki,lt_or_ge->Ks,le_succ->Kv
open Option renaming getD_some->J5
namespace Go.Proofs.YtepdccfgnafgcaaGreat
open Go.V Go
open Tryz (prog)
section
attribute [local go_sem] Qbk
@[go_sem] def Cp.d(c:Cp):List DV:=[.int .i64 c.pg,.int .i64 c.nx,.pv (.sl (fz Qaf c.tx)),.pv (.sl (fz QcG c.dl)),.pv (.sl (fz Qb2 c.ix))]
def Cp0:Cp:=⟨0,0,[],[],[]⟩
def Cp.sm(c:Cp):Prop:=smN 65 c.tx/\c.dl.length<=10000/\c.ix.length<=64
def QCF:Cp0.sm:=⟨QV _,by decide,by decide⟩
@[go_sem] def QEd(a:Cp×Int):DV:=.tup [.agg a.1.d,.int .i64 a.2]
def Zc:List DV:=[.int .i64 0,.int .i64 0,.pv (.slc []),.pv (.slc []),.pv (.slc [])]
def Qj9(h:plB p=true)(hi:i<p.fs.length):frC p.fs i=true:=by
 unfold plB at h
 rw[Jf,Jr] at h
 exact h.2 i (Ju.2 hi)
def QsO(h:frC l i=true)(hk:k<i):(l.getD k Fm0).pg.id≠(l.getD i Fm0).pg.id:=by
 unfold frC at h
 rw[Jf,Jr] at h
 have:=h.2 k (Ju.2 hk)
 unfold Qxb at this
 simpa using this
def Qmf(h:frC l i=true):0<=(l.getD i Fm0).pg.id/\(l.getD i Fm0).pg.id<64:=by
 unfold frC Pg.okB Pg.numB at h
 simp only[Jf,decide_eq_true_eq] at h
 omega
def QrH(h:plB p=true)(hi:i<p.fs.length):idF p.fs (p.fs.getD i Fm0).pg.id=i:=by
 obtain⟨j,hj,h1,h2⟩:=Qnk (l:=p.fs) (a:=(p.fs.getD i Fm0).pg.id) ⟨i,hi,rfl⟩
 rcases JH i j with h3 | h3 | h3
 ·exact absurd h2.symm (QsO (Qj9 h hj) h3)
 ·rw[h1,h3]
 ·exact absurd h2 (QsO (Qj9 h hi) h3)
structure DyL(p:Pl)(l:List Dt):Prop where
 le:l.length<=64
 to:∀ d∈l,∃ f∈p.fs,f.dirty=true/\f.pg.id=d.pg/\f.pg.lsn=d.last
 of:plB p=true->∀ f∈p.fs,f.dirty=true->∃ d∈l,d.pg=f.pg.id
structure DyI(p:Pl) where
 i:Nat
 out:List Dt
 hi:i<=64
 ho:out.length<=i
 to:∀ d∈out,∃ f∈p.fs,f.dirty=true/\f.pg.id=d.pg/\f.pg.lsn=d.last
 of:∀ a:Nat,a<i->0<=idF p.fs a->(p.fs.getD (idF p.fs a).toNat Fm0).dirty=true->∃ d∈out,d.pg=a
def QuX(p:Pl)(hl:p.fs.length<=100000):VCalls prog 185 [.agg p.d] [] (Qz (fun l:List Dt=>.pv (.sl (fz QcG l))) (DyL p)):=by
 refine dk Tryz.func185 ?_
 have c1:=Qaj p (by omega)
 have c2:=Qct p (by omega)
 have hfin:=fun(out:List Dt) (h1:out.length<=64) (h2:∀ d∈out,∃ f∈p.fs,f.dirty=true/\f.pg.id=d.pg/\f.pg.lsn=d.last) (h3:plB p=true->∀ a:Nat,a<64->0<=idF p.fs a->(p.fs.getD (idF p.fs a).toNat Fm0).dirty=true->∃ d∈out,d.pg=a)=>(⟨h1,h2,fun hp f hf hd=>by
  obtain⟨i,hi,rfl⟩:=Je.1 hf
  have e1:=Qd p.fs i hi Fm0
  have e2:=QrH hp hi
  have e3:=Qmf (Qj9 hp hi)
  rw[e1] at e2 e3
  obtain⟨m,hm⟩:∃ m:Nat,(p.fs[i]).pg.id=m:=⟨(p.fs[i]).pg.id.toNat,by omega⟩
  rw[hm] at e2 e3 |-
  exact h3 hp m (by omega) (by omega) (by rw[e2,Ji,e1]; exact hd)⟩:DyL p out)
 generalize plB p=b at *
 (unfold Tryz.f185; refine rn trivial ?_)
 refine rn F ?_
 repeat' (first
  | with_reducible exact⟨⟩
  | (refine sB F ?_ ?_<;>intro hZ)
  | refine vp F (c1) ?_)
 ·exact⟨rfl,rfl,[],rfl,hfin [] (Jd _) (fun d h=>by simp at h) (fun h=>by simp_all)⟩
 refine VLoop.nilOwn 3 219 3 rfl ?_
 refine rn trivial ?_
 refine Qg (fun s:DyI p=>⟨45,0,[(4,.int .i64 s.i),(3,.own 1 3 0 s.out.length),(1,.ptr 0 0)],[⟨52,true,p.d⟩,⟨219,true,cells QcG s.out⟩]⟩) (fun s=>64-s.i) ⟨0,[],Jd _,Jd _,fun d h=>by simp at h,fun a h=>by omega⟩ (gc [0,1]) ?_
 rintro⟨i,out,hi,ho,hto,hof⟩
 dsimp only
 have c3:=c2 i
 have hnx:=fun(out2:List Dt) (hs:∀ d∈out,d∈out2) (hn:0<=idF p.fs i->(p.fs.getD (idF p.fs i).toNat Fm0).dirty=true->∃ d∈out2,d.pg=i) (a:Nat) (ha:a<i+1) (h0:0<=idF p.fs a) (h1:(p.fs.getD (idF p.fs a).toNat Fm0).dirty=true)=>(by
  rcases Ks a i with h2 | h2
  ·obtain ⟨d,hd,he⟩:=hof a h2 h0 h1
   exact⟨d,hs d hd,he⟩
  ·obtain rfl:a = i:=by omega
   exact hn h0 h1:∃ d∈out2,d.pg=a)
 have hfi:64<=i->DyL p out:=fun h=>hfin out (by omega) hto fun _ a ha=>hof a (by omega)
 rcases QaU p.fs i with h | ⟨j,hj,h,hpg⟩
 all_goals rw[h] at c3
 ·rw [h] at hnx
  refine rn F ?_
  repeat' (first
   | with_reducible exact⟨⟩
   | (refine sB F ?_ ?_<;>intro hZ)
   | refine vp F (c3) ?_)
  ·exact⟨⟨i+1,out,by omega,by omega,hto,hnx out (fun d h=>h) (fun h=>by omega)⟩,by dsimp only; omega,(gc [0,1])⟩
  ·exact⟨rfl,rfl,out,rfl,hfi (by omega)⟩
 ·have hg:=QbV p.fs j hj
  have hb:(out.length+1)*24<=140737488355328:=by omega
  have hfm:p.fs.getD j Fm0∈p.fs:=by rw[Qd _ _ hj]; exact Jk hj
  rw[h,Ji] at hnx
  generalize p.fs.getD j Fm0=f at *
  have F:=(Jb @hg @hb)
  refine rn F ?_
  repeat' (first
   | with_reducible exact⟨⟩
   | (refine sB F ?_ ?_<;>intro hZ)
   | refine vp F (c3) ?_
   | (refine Qc (id:=9) [0,1,2,3,4,5,6,7,8,9,10,11,12,13,14,15] [⟨[16],[16],17,[1,2,3,4,5,6,7,8,9,10,11,12,13,14,15],[]⟩,⟨[],[],18,[],[]⟩] (by kernel_rfl) (by kernel_rfl) ?_; refine rn F ?_))
  ·exact ⟨⟨i + 1,out ++ [⟨i,f.rc,f.pg.lsn⟩],by omega,by simp; omega,fun d hd=>by
   rcases Jh.1 hd with hd | hd
   ·exact hto d hd
   ·rw[Jg.1 hd]; exact⟨f,hfm,by first | assumption | simp_all,hpg,rfl⟩,hnx _ (fun d h=>Jj _ h) (fun _ _=>⟨⟨i,f.rc,f.pg.lsn⟩,by simp,rfl⟩)⟩,by dsimp only; omega,by dsimp only; rw[Ja]; exact(gc [0,3])⟩
  ·exact⟨⟨i+1,out,by omega,by omega,hto,hnx out (fun d h=>h) (fun _ h=>by simp_all)⟩,by dsimp only; omega,(gc [0,1])⟩
  ·exact⟨rfl,rfl,out,rfl,hfi (by omega)⟩
def Qkz(h:(d,true)=QaB l n):d∈l/\d.pg=n:=by
 unfold QaB at h
 split at h
 ·rename_i e he
  obtain rfl:d=e:=by simpa using congrArg Prod.fst h
  exact⟨J0 he,by simpa using Kl he⟩
 ·simp at h
def QfL(h:(d,false)=QaB l n):∀ e∈l,e.pg≠n:=by
 unfold QaB at h
 split at h
 ·simp at h
 ·rename_i he
  rw[List.find?_eq_none] at he
  intro e h1
  simpa using he e h1
structure OfI(k:Kn)(n m:Nat)(out:List Dt):Prop where
 dl:∀ d∈out,(∃ e∈k.la,e.pg=d.pg/\e.last=d.last)\/∃ f∈k.pl.fs,f.dirty=true/\f.pg.id=d.pg/\f.pg.lsn=d.last
 la:∀ e∈k.la,0<=e.pg->e.pg<n->∃ d∈out,d.pg=e.pg
 fs:∀ f∈k.pl.fs,f.dirty=true->f.pg.id<m->∃ d∈out,d.pg=f.pg.id
def OfI.ex (h:OfI k n m out) (hd:(∃ e ∈ k.la,e.pg = d.pg/\e.last = d.last)\/∃ f ∈ k.pl.fs,f.dirty = true/\f.pg.id = d.pg/\f.pg.lsn = d.last):OfI k n m (out ++ [d]) :=
 ⟨fun e he=>by
   rcases Jh.1 he with he | he
   ·exact h.dl e he
   ·rw[Jg.1 he]; exact hd,
  fun e a b c=>by obtain⟨x,h1,h2⟩:=h.la e a b c; exact⟨x,Jj _ h1,h2⟩,
  fun e a b c=>by obtain⟨x,h1,h2⟩:=h.fs e a b c; exact⟨x,Jj _ h1,h2⟩⟩
def OfI.hit(h:OfI k n m out)(hd:(d,true)=QaB k.la n):OfI k (n+1) m (out++[d]):=by
 obtain⟨h1,h2⟩:=Qkz hd
 have:=h.ex (d:=d) (.inl ⟨d,h1,rfl,rfl⟩)
 refine⟨this.dl,fun e a b c=>?_,this.fs⟩
 by_cases hn:e.pg=n
 ·exact⟨d,by simp,by rw[h2,hn]⟩
 ·exact this.la e a b (by omega)
def OfI.miss(h:OfI k n m out)(hd:(d,false)=QaB k.la n):OfI k (n+1) m out:=
 ⟨h.dl,fun e a b c=>h.la e a b (by have:=QfL hd e a; omega),h.fs⟩
def OfI.up(h:OfI k n m out)(hv:plB k.pl=true)(hl:DyL k.pl l)(hs:∀ d∈l,d.pg=m->∃ e∈out,e.pg=m):OfI k n (m+1) out:=
 ⟨h.dl,h.la,fun f a b c=>by
  by_cases hn:f.pg.id=m
  ·obtain ⟨d,h1,h2⟩:=hl.of hv f a b
   rw[hn] at h2 |-
   exact hs d h1 h2
  ·exact h.fs f a b (by omega)⟩
structure OfL(k:Kn) where
 i:Nat
 out:List Dt
 hi:(i:Int)<=k.pg
 ho:out.length<=65*i
 h:OfI k i i out
structure OfJ(k:Kn)(i:Nat)(l:List Dt) where
 j:Nat
 out:List Dt
 hj:j<=l.length
 ho:out.length<=65*i+1+j
 h:OfI k (i+1) i out
 s:∀ d∈l.take j,d.pg=i->∃ e∈out,e.pg=i
def OfJ.nx(r:OfJ k i l)(hj:r.j<l.length)(out2:List Dt)(hs:∀ d∈r.out,d∈out2)(hn:(l.getD r.j Dt0).pg=i->∃ e∈out2,e.pg=i):∀ d∈l.take (r.j+1),d.pg=i->∃ e∈out2,e.pg=i:=fun d hd he=>by
 rw[Jn hj] at hd
 rcases Jh.1 hd with hd | hd
 ·obtain ⟨x,h1,h2⟩:=r.s d hd he
  exact⟨x,hs x h1,h2⟩
 ·rw [Jg.1 hd] at he
  exact hn (by rw[Qd _ _ hj]; exact he)
def QDF(k:Kn)(a:Cp×Int):Prop:=a.1.sm/\(a.2=0->CkOf k a.1)
def QyF(k:Kn)(h:k.sm):VCalls prog 148 [.agg k.d] [] (Qz QEd (QDF k)):=by
 refine dk Tryz.func148 ?_
 have c1:=QbE k h
 obtain⟨h1,h2,h3,h4,h5,h6⟩:=h
 have c2:=fun n=>QfA k (by omega) n
 have c3:=QuX k.pl (by omega)
 (unfold Tryz.f148; refine rn trivial ?_)
 cases hv:kB k
 ·rw [hv] at c1
  refine rn F ?_
  repeat' (first
   | with_reducible exact⟨⟩
   | refine vp F (c1) ?_)
  exact⟨rfl,rfl,(Cp0,15),rfl,QCF,fun h=>by simp at h⟩
 rw[hv] at c1
 obtain⟨⟨vk,_,vla⟩,v2⟩:=(⟨QBV hv,Qsj hv⟩:VP k/\V2 k)
 have hpg:=vk.1
 have hpl:=vk.2.2.2.1
 have hend:∀ (i:Nat) out,(i:Int)=k.pg->OfI k i i out->CkOf k ⟨k.pg,k.nx,k.tx,out,k.ix⟩:=fun i out hi ho=>⟨rfl,rfl,rfl,rfl,ho.dl,fun e he=>by
  obtain⟨j,hj,rfl⟩:=Je.1 he
  unfold laB at vla
  rw[Jr] at vla
  have:=(Ql4 _ _ _).1 (vla j (Ju.2 hj))
  rw[Qd _ _ hj] at this
  exact ho.la _ he this.1 (by omega),fun f hf hd=>by
  obtain⟨j,hj,rfl⟩:=Je.1 hf
  have:=(v2.frs j hj).1
  rw[Qd _ _ hj] at this
  exact ho.fs _ hf hd (by omega)⟩
 refine rn F ?_
 repeat' (first
  | with_reducible exact⟨⟩
  | refine vp F (c1) ?_)
 refine VLoop.nilOwnC 2 3 219 3 rfl rfl ?_
 refine rn trivial ?_
 refine Qg (fun s:OfL k=>⟨62,0,[(5,.int .i64 s.i),(4,.ptr 2 0),(2,.ptr 1 0),(1,.ptr 0 0)],[⟨62,true,k.d⟩,⟨238,true,Zc⟩,⟨238,true,[.int .i64 k.pg,.int .i64 k.nx,.pv (.sl (fz Qaf k.tx)),.own 3 3 0 s.out.length,.pv (.sl (fz Qb2 k.ix))]⟩,⟨219,true,cells QcG s.out⟩]⟩) (fun s=>64-s.i) ⟨0,[],by omega,by simp,⟨fun d h=>by simp at h,fun e _ _ h=>by omega,fun f hf hd h=>by
  obtain⟨j,hj,rfl⟩:=Je.1 hf
  have:=Qmf (Qj9 hpl hj)
  rw[Qd _ _ hj] at this
  omega⟩⟩ (gc [0,1,2,3]) ?_
 rintro⟨i,out,hi,ho,hI⟩
 dsimp only
 unfold Zc
 have hb1:(out.length+1)*24<=140737488355328:=by omega
 by_cases hc:(i:Int)<k.pg
 rotate_left
 ·skip
  have F:=@hc
  refine rn F ?_
  exact⟨rfl,rfl,(⟨k.pg,k.nx,k.tx,out,k.ix⟩,0),rfl,⟨h4,by dsimp only; omega,h5⟩,fun _=>hend i out (by omega) hI⟩
 have F:=(Jb @hb1 @hc)
 refine rn F ?_
 refine Ql (c2 i) rfl ?_
 rintro⟨d,b2⟩ hdl
 have hdl2:=hdl
 cases b2
 case' false=>have hI2:=hI.miss hdl
 case' true=>have hI2:=hI.hit hdl
 all_goals clear hdl hdl2
 all_goals
  have F:=(Jb @hb1 @hc)
  refine rn F ?_
  refine Ql c3 rfl ?_
  rintro l hl
  have hll:=hl.le
  have F:=(Jb @hb1 @hc)
  (refine rn F ?_; try with_reducible exact⟨⟩)
 all_goals
  first
   | refine Qg (fun s:OfJ k i l=>⟨62,0,[(46,.int .i64 s.j),(45,.int .i64 l.length),(44,.pv (.sl (fz QcG l))),(5,.int .i64 i),(4,.ptr 2 0),(2,.ptr 1 0),(1,.ptr 0 0)],[⟨62,true,k.d⟩,⟨238,true,Zc⟩,⟨238,true,[.int .i64 k.pg,.int .i64 k.nx,.pv (.sl (fz Qaf k.tx)),.own 3 3 0 s.out.length,.pv (.sl (fz Qb2 k.ix))]⟩,⟨219,true,cells QcG s.out⟩]⟩) (fun s=>l.length-s.j) ⟨0,out++[d],Jd _,by rw[Ja]; simp; omega,hI2,fun d h=>by simp at h⟩ (by dsimp only; rw[Ja]; exact(gc [0,1,2,6])) ?_
   | refine Qg (fun s:OfJ k i l=>⟨62,0,[(46,.int .i64 s.j),(45,.int .i64 l.length),(44,.pv (.sl (fz QcG l))),(5,.int .i64 i),(4,.ptr 2 0),(2,.ptr 1 0),(1,.ptr 0 0)],[⟨62,true,k.d⟩,⟨238,true,Zc⟩,⟨238,true,[.int .i64 k.pg,.int .i64 k.nx,.pv (.sl (fz Qaf k.tx)),.own 3 3 0 s.out.length,.pv (.sl (fz Qb2 k.ix))]⟩,⟨219,true,cells QcG s.out⟩]⟩) (fun s=>l.length-s.j) ⟨0,out,Jd _,by omega,hI2,fun d h=>by simp at h⟩ (gc [0,1,2,3]) ?_
  rintro⟨j,o2,hj,ho2,hJ,hs2⟩
  dsimp only
  unfold Zc
  have hb2:(o2.length+1)*24<=140737488355328:=by omega
  have hnx:=fun h=>OfJ.nx ⟨j,o2,hj,ho2,hJ,hs2⟩ h
  dsimp only at hnx
  by_cases hjl:j<l.length
  rotate_left
  ·have hup:=hJ.up hpl hl (by rw [Jo (by omega)] at hs2; exact hs2)
   have F:=@hjl
   refine rn F ?_
   exact⟨⟨i+1,o2,by omega,by omega,hup⟩,by dsimp only; omega,(gc [0,1,2,3])⟩
  have hy:=Qeq l j hjl
  have hto:=hl.to (l.getD j Dt0) (by rw[Qd _ _ hjl]; exact Jk hjl)
  replace hnx:=hnx hjl
  generalize l.getD j Dt0=x at *
  have F:=(Jb @hy (Jb @hb2 @hjl))
  refine rn F ?_
  repeat' (first
   | with_reducible exact⟨⟩
   | (refine sB F ?_ ?_<;>intro hZ))
 all_goals first
  | exact⟨⟨j+1,o2,hjl,by omega,hJ,hnx o2 (fun d h=>h) (fun h=>absurd h (by assumption))⟩,by dsimp only; omega,(gc [0,1,2,3])⟩
  | exact⟨⟨j+1,o2++[x],hjl,by simp; omega,hJ.ex (.inr hto),hnx _ (fun d h=>Jj _ h) (fun _=>⟨x,by simp,by assumption⟩)⟩,by dsimp only; omega,by dsimp only; rw[Ja]; exact(gc [0,1,2,6])⟩
  | skip
end
def QhO(c:Cp)(h:c.sm):VCalls prog 186 [.agg c.d] [] (Qz boD fun b=>b=true->CkV c):=by
 refine dd Tryz.func186 ?_
 obtain⟨h1,h2,h3⟩:=h
 have h10:=h1.1
 have c1:=QbD c.tx (h1.smL (by omega))
 have c2:=fun n=>QjW c.dl (by omega) n
 have c3:=Qbw c.ix (by omega)
 have e:CkV c=((1<=c.pg/\c.pg<=64)/\(1<=c.nx/\c.nx<=1073741825)/\Qbm c.tx=true/\laB c.dl c.pg=true/\ixB c.ix=true/\(c.ix.length:Int)=c.pg):=rfl
 generalize Qbm c.tx=b1 at *
 generalize ixB c.ix=b2 at *
 (unfold Tryz.f186; refine rn trivial ?_)
 refine rn F ?_
 repeat' (first
  | with_reducible exact⟨⟩
  | (refine sG F ?_ ?_<;>intro hZ)
  | (refine sB F ?_ ?_<;>intro hZ)
  | refine vp F (c1) ?_
  | (refine Ql (c2 _) rfl ?_; rintro b3 hb3; refine rn F ?_)
  | refine vp F (c3) ?_)
 all_goals first
  | exact⟨rfl,rfl,false,rfl,fun h=>by cases h⟩
  | skip
 all_goals
  have hV:CkV c:=by
   rw[e]
   refine⟨⟨by omega,by omega⟩,⟨by omega,by omega⟩,?_,?_,?_,?_⟩<;>first | assumption | omega | (simp_all; done)
  refine Qg (fun s:To c.tx.length=>⟨67,0,[(3,.int .i64 s.i),(1,.ptr 0 0)],[⟨238,true,c.d⟩]⟩) (fun s=>c.tx.length-s.i) ⟨0,Jd _⟩ (gc [0]) ?_
  rintro⟨i,hi⟩
  dsimp only
  have hg:=fun h:i<c.tx.length=>QdO c.tx i h
  have F:=@hg
  refine rn F ?_
  repeat' (first
   | with_reducible exact⟨⟩
   | (refine sB F ?_ ?_<;>intro hZ)
   | (refine Qc (id:=6) [0,1,2,3,4,5,6,7,8] [] (by kernel_rfl) (by kernel_rfl) ?_; refine rn F ?_))
 all_goals first
  | exact⟨rfl,rfl,false,rfl,fun h=>by cases h⟩
  | exact⟨rfl,rfl,true,rfl,fun _=>hV⟩
  | exact⟨⟨i+1,by omega⟩,by dsimp only; omega,(gc [0])⟩
  | skip
def Qew:∀ (l:List Dt) (s:List UInt8),(Qc6 s l).length = s.length + 17 * l.length
 | [],s=>by simp[Qc6]
 | t :: r,s=>by
   show(Qc6 (Qi5 s t) r).length=_
   rw[Qew r]
   unfold Qi5
   rw[Qb,Qb,Qb,Js]; omega
def Qh0(s:List UInt8)(l:List Dt)(i:Nat)(h:i<l.length):Qc6 s (l.take (i+1))=Qi5 (Qc6 s (l.take i)) (l.getD i Dt0):=by
 rw[Jn h,Qc6,JQ,Qd l i h]; rfl
def QCf(c:Cp)(a:List UInt8×Int):Prop:=a.1.length<=300000000/\(a.1=[]\/CkV c/\a.1=QaC c)
def Qvf(c:Cp)(h:c.sm):VCalls prog 149 [.agg c.d] [] (Qz siD (QCf c)):=by
 refine dd Tryz.func149 ?_
 have c1:=QhO c h
 obtain⟨h1,h2,h3⟩:=h
 have c2:=Qyi c.tx h1
 have c3:=Qu5 c.ix h3
 have p1:=QS [] (by simp) c.pg 2 (by omega) (by omega)
 have p2:=QS (Qj [] c.pg 2) (by rw[Qb]; simp) c.nx 4 (by omega) (by omega)
 (unfold Tryz.f149; refine rn trivial ?_)
 refine Ql c1 rfl ?_
 rintro b hb
 cases b
 ·skip
  refine rn F ?_
  exact⟨rfl,rfl,([],24),rfl,by simp,.inl rfl⟩
 have hV:=hb rfl
 obtain⟨_,_,v3,v4,v5,_⟩:=hb rfl
 have hle:=Qnp v3
 have hlx:=QkM c.ix
 have eck:QaC c=Qc6 (Qj (Qj (Qj (Qj [] c.pg 2) c.nx 4) (QaK c.tx).length 4++QaK c.tx) c.dl.length 1) c.dl++Qck c.ix:=rfl
 replace c2:=c2 v3
 replace c3:=c3 v5
 generalize QaK c.tx=t at *
 generalize Qck c.ix=w at *
 have p3:=QS (Qj (Qj [] c.pg 2) c.nx 4) (by rw[Qb,Qb]; simp) t.length 4 (by omega) (by omega)
 have l3:(Qj (Qj (Qj [] c.pg 2) c.nx 4) t.length 4).length=10:=by rw[Qb,Qb,Qb]; simp
 have hadd:=QcR (a:=Qj (Qj (Qj [] c.pg 2) c.nx 4) t.length 4) (b:=t) (by omega)
 have p4:=QS (Qj (Qj (Qj [] c.pg 2) c.nx 4) t.length 4++t) (by rw[Ja]; omega) c.dl.length 1 (by omega) (by omega)
 have l4:(Qj (Qj (Qj (Qj [] c.pg 2) c.nx 4) t.length 4++t) c.dl.length 1).length=11+t.length:=by rw[Qb,Ja]; omega
 have F:=@hadd
 refine rn F ?_
 repeat' (first
  | with_reducible exact⟨⟩
  | refine vp F (p1) ?_
  | refine vp F (p2) ?_
  | refine vp F (c2) ?_
  | refine vp F (p3) ?_
  | refine vp F (p4) ?_)
 generalize Qj (Qj (Qj (Qj [] c.pg 2) c.nx 4) t.length 4++t) c.dl.length 1=u at *
 refine Qg (fun r:To c.dl.length=>⟨77,0,[(7,.int .i64 r.i),(6,.pv (.str (Qc6 u (c.dl.take r.i)))),(1,.ptr 0 0)],[⟨238,true,c.d⟩]⟩) (fun r=>c.dl.length-r.i) ⟨0,Jd _⟩ (gc [0]) ?_
 rintro⟨i,hi⟩
 dsimp only
 have hy:=fun h:i<c.dl.length=>Qeq c.dl i h
 have hlen:=Qew (c.dl.take i) u
 rw[Jp] at hlen
 have hsc:=Qh0 u c.dl i
 have hend:c.dl.length<=i->c.dl.take i=c.dl:=fun h=>Jo h
 by_cases hc:i<c.dl.length
 ·replace hsc:=hsc hc
  generalize Qc6 u (c.dl.take i)=s at *
  generalize c.dl.getD i Dt0=x at *
  unfold Qi5 at hsc
  have q1:=QS s (by omega) x.pg 1 (by omega) (by omega)
  have q2:=QS (Qj s x.pg 1) (by rw[Qb]; omega) x.rc 8 (by omega) (by omega)
  have q3:=QS (Qj (Qj s x.pg 1) x.rc 8) (by rw[Qb,Qb]; omega) x.last 8 (by omega) (by omega)
  have F:=@hy
  refine rn F ?_
  repeat' (first
   | with_reducible exact⟨⟩
   | refine vp F (q1) ?_
   | refine vp F (q2) ?_
   | refine vp F (q3) ?_)
  refine⟨⟨i+1,by omega⟩,by dsimp only; omega,?_⟩
  dsimp only
  rw[hsc]
  exact(gc [0])
 ·rw [hend (by omega)] at hlen |-
  generalize Qc6 u c.dl=v at *
  have hadd2:=QcR (a:=v) (b:=w) (by omega)
  have F:=(Jb @hy @hadd2)
  refine rn F ?_
  repeat' (first
   | with_reducible exact⟨⟩
   | refine vp F (c3) ?_)
  exact⟨rfl,rfl,(v++w,0),rfl,by dsimp only; rw[Ja]; omega,.inr ⟨hV,eck.symm⟩⟩
def Qes(h:(QG x n).2=0):Ev x (QG x n).1:=by
 unfold QG at h |-
 split at h
 ·simp at h
 rename_i q1
 split at h
 ·simp at h
 rename_i q2
 rw[if_neg q1,if_neg q2]
 refine⟨rfl,List.prefix_rfl,fun hv=>?_⟩
 have hd:=Qan hv
 unfold lgB at hv |-
 simp only[Jf,decide_eq_true_eq] at hv |-
 refine⟨?_,hv.2⟩
 simp only[Lg.hd,Lg.end_] at hd q2 |-
 split<;>omega
def QhY(x:Lg)(n:Int)(h:x.es.length<=4096):(QG x n).1.es.length<=4096:=by
 unfold QG
 repeat' split
 all_goals first | exact Jd _ | exact h
def Qpf(hq:QtS k e (k1,n1,e1))(h:e1=0):(QG k1.lg n1).2=0:=by
 obtain⟨e',⟨_,_,_,hl,_⟩,hk,hn,hv⟩:=hq.2 h
 dsimp only at hk hn hv
 subst hk
 unfold QG
 rw[if_neg (by rw[hv]; decide),if_neg]
 simp only[Kn.add,Lg.end_,Ja,Js,JM] at *
 omega
def Qer(h:(QG x n).2=0):(QG x n).1=⟨x.f,x.es,(QG x n).1.d⟩:=by
 unfold QG at h |-
 split at h
 ·simp at h
 rename_i q1
 split at h
 ·simp at h
 rename_i q2
 rw[if_neg q1,if_neg q2]
def QA8(k:Kn)(a:Kn×Int×Int):Prop:=a.1.sm/\(a.2.2=0->Str 1 k a.1)
def Qyk(k:Kn)(h:k.sm):VCalls prog 128 [.agg k.d] [] (Qz kie (QA8 k)):=by
 refine dk Tryz.func128 ?_
 have c1:=QyF k h
 have c2:=fun c hc=>Qvf c hc
 have c3:=fun t=>QdK k h ⟨0,6,0,0,0,0,Ch0,t⟩
 have e0:∀ n e,e≠0->QA8 k (Kn0,n,e):=fun n e h=>⟨QbQ,fun h2=>absurd h2 h⟩
 (unfold Tryz.f128; refine rn trivial ?_)
 refine rn F ?_
 repeat' (first
  | with_reducible exact⟨⟩
  | (refine sB F ?_ ?_<;>intro hZ)
  | (refine Ql (c1) rfl ?_; rintro⟨c,e⟩ hc; refine rn F ?_)
  | (refine Ql (c2 c hc.1) rfl ?_; rintro⟨t,e2⟩ ht; refine rn F ?_)
  | (refine Ql (c3 _) rfl ?_; rintro⟨k1,n1,e1⟩ hq; refine rn F ?_)
  | refine vp F (QfB k1.lg (Jq hq.1.1 (by decide)) n1) ?_)
 all_goals first
  | exact⟨rfl,rfl,(Kn0,0,21),rfl,e0 _ _ (by decide)⟩
  | exact⟨rfl,rfl,(Kn0,0,e),rfl,e0 _ _ (by assumption)⟩
  | exact⟨rfl,rfl,(Kn0,0,e1),rfl,e0 _ _ (by assumption)⟩
  | skip
 have he1:e1=0:=by omega
 obtain⟨r1,r2,r3,r4,r5,r6⟩:=hq.1
 have hf0:=Qpf hq he1
 obtain⟨e',ha,hk1,_,_⟩:=hq.2 he1
 dsimp only at hk1
 have qs:Str 1 k k1:=by
  rw[hk1]
  refine .one (.ckpt ha rfl ?_)
  rcases ht.2 with h | ⟨h,h'⟩
  ·exact .inl h
  ·exact .inr ⟨c,hc.2 (by first | assumption | (dsimp only; omega)),h,h'⟩
 have qf:=Stp.force (k:=k1) (QG k1.lg n1).1.d fun _=>by
  have:=(Qes hf0).ok (hq.2 he1).choose_spec.2.2.2
  rw[Qer hf0] at this
  exact this
 rw[<- Qer hf0] at qf
 exact⟨rfl,rfl,(⟨k1.pg,k1.nx,(QG k1.lg n1).1,k1.pl,k1.lk,k1.tx,k1.ix,k1.la⟩,n1,0),rfl,⟨QhY _ _ r1,r2,r3,r4,r5,r6⟩,fun _=>qs.step qf⟩
def QqX(s:Sv)(hs:s.sm):VCalls prog 114 [.agg s.d] [] (Qz QD0 fun a=>a.1.sm/\(a.2.2=0->Str 1 s.k a.1.k)):=by
 refine dk Tryz.func114 ?_
 have c1:=Qyk s.k hs.1
 (unfold Tryz.f114; refine rn trivial ?_)
 refine rn F ?_
 repeat' (first
  | with_reducible exact⟨⟩
  | (refine sB F ?_ ?_<;>intro hZ)
  | (refine Ql (c1) rfl ?_; rintro⟨k1,n1,e1⟩ hq; refine rn F ?_))
 all_goals first
  | exact⟨rfl,rfl,(Sv0,0,e1),rfl,Qde,fun h=>absurd h (by assumption)⟩
  | exact⟨rfl,rfl,(⟨k1,s.v⟩,n1,0),rfl,⟨hq.1,hs.2⟩,fun _=>hq.2 (by dsimp only; omega)⟩
  | skip
def Pre(q s:List UInt8):Prop:=∃ u,s=q++u
def Pre.trans(h:Pre p q)(h':Pre q s):Pre p s:=by
 obtain⟨u,rfl⟩:=h; obtain⟨v,rfl⟩:=h'; exact⟨u++v,by rw[Jl]⟩
def Pre.refl(s:List UInt8):Pre s s:=⟨[],by simp⟩
def Pre.len(h:Pre p s):p.length<=s.length:=by obtain⟨u,rfl⟩:=h; simp
def QI(s:List UInt8)(n:Int)(k:Nat):Pre s (Qj s n k):=⟨_,rfl⟩
def QbU:∀ (l:List Int) (s:List UInt8),Pre s (Qjf s l)
 | [],s=>.refl s
 | a::r,s=>(QI s a 8).trans (QbU r (Qj s a 8))
def Qs1(s:List UInt8)(t:Tx):Pre s (Qeu s t):=by
 unfold Qeu
 exact(QI _ _ _).trans ((QI _ _ _).trans ((QI _ _ _).trans ((QI _ _ _).trans ((QI _ _ _).trans ((QbU _ _).trans ((QI _ _ _).trans (QbU _ _)))))))
def QgI:∀ (l:List Tx) (s:List UInt8),Pre s (Qet s l)
 | [],s=>.refl s
 | a::r,s=>(Qs1 s a).trans (QgI r (Qeu s a))
def fit(n:Int)(k:Nat):Prop:=(k<=7/\0<=n/\n<2 ^ (8*k))\/(k=8/\-9223372036854775808<=n/\n<=9223372036854775807)
def QsX(n:Int)(k:Nat)(h:fit n k):IntKind.i64.wrap ((u64N n % 2 ^ (8*k):Nat):Int)=n:=by
 rcases h with⟨hk,h0,h1⟩ | ⟨rfl,h1⟩
 ·rw [QnG n (8 * k) (by omega)]
  have hp:(2:Nat) ^ (8*k)<=2 ^ 56:=JD (by omega) (by omega)
  have e2:((2:Int) ^ (8*k))=((2 ^ (8*k):Nat):Int):=by rw[J6]; rfl
  rw[e2] at h1
  generalize 2 ^ (8*k)=z at *
  have e3:u64N n=n.toNat:=by unfold u64N; omega
  rw[e3,Ki (by omega)]; omega
 ·exact Qpt n h1
def QDj(e:a=b):(⟨a,sh,ha⟩:RQ s)=⟨b,sh,hb⟩:=by subst e; rfl
def Qcv(hp:Pre (Qj p n k) s)(hk:1<=k)(hf:fit n k)(ha:a<=s.length)(e:a=p.length):
 ∃ h,Qb1 s k ⟨a,false,ha⟩=(n,⟨(Qj p n k).length,false,h⟩):=by
 subst e
 have hl:=hp.len
 have hl0:=hp.len
 have hk8:k<=8:=by rcases hf with h | h<;>omega
 rw[Qb] at hl
 rw[QiP rfl hl]
 obtain⟨t,rfl⟩:=hp
 refine⟨hl0,?_⟩
 dsimp only
 rw[QgU p t n k hk8 k (Jz _),QsX n k hf]
 exact congrArg (Prod.mk n) (QDj (Qb _ _ _).symm)
def Qrr:∀ (l:List Int) {s p:List UInt8} (_:Pre (Qjf p l) s) (_:∀ n ∈ l,fit n 8) (out:List Int) {a:Nat} (ha:a<=s.length) (_:a = p.length),
 ∃ h,rdN s l.length out ⟨a,false,ha⟩=(out++l,⟨(Qjf p l).length,false,h⟩)
 | [],s,p,hp,_,out,a,ha,e=>⟨hp.len,by subst e; rw[Jv]; rfl⟩
 | n :: r,s,p,hp,hf,out,a,ha,e=>by
   obtain⟨h1,e1⟩:=Qcv (p:=p) (n:=n) (k:=8) ((QbU r _).trans hp) (by omega) (hf n (by simp)) ha e
   obtain⟨h2,e2⟩:=Qrr r (p:=Qj p n 8) hp (fun m hm=>hf m (J9 _ hm)) (out++[n]) h1 rfl
   refine⟨h2,?_⟩
   rw[Js,rdN,if_neg (by simp),e1,e2,Jl]
   rfl
def Qks(hp:Pre (Qjf (Qj p l.length k) l) s)(hk:1<=k)(hfk:fit l.length k)(hf:∀ n∈l,fit n 8)(ha:a<=s.length)(e:a=p.length):
 ∃ h,Qel s k ⟨a,false,ha⟩=(l,⟨(Qjf (Qj p l.length k) l).length,false,h⟩):=by
 obtain⟨h1,e1⟩:=Qcv (p:=p) (n:=l.length) (k:=k) ((QbU l _).trans hp) hk hfk ha e
 obtain⟨h2,e2⟩:=Qrr l hp hf [] h1 rfl
 refine⟨h2,?_⟩
 unfold Qel
 rw[e1,Ji,e2,JU]
def Tx.fits(t:Tx):Prop:=fit t.id 4/\fit t.st 1/\fit t.n 8/\fit t.b 8/\fit t.l.length 2/\fit t.s.length 1/\(∀ n∈t.l,fit n 8)/\∀ n∈t.s,fit n 8
def QxX(hp:Pre (Qeu p t) s)(hf:t.fits)(ha:a<=s.length)(e:a=p.length):
 ∃ h,txS s ⟨a,false,ha⟩=(t,⟨(Qeu p t).length,false,h⟩):=by
 obtain⟨f1,f2,f3,f4,f5,f6,f7,f8⟩:=hf
 obtain⟨id,st,n,b,q,v⟩:=t
 unfold Qeu at hp |-
 dsimp only at *
 have p6:=(QI _ _ _).trans ((QbU _ _).trans hp)
 have p5:=(QI _ _ _).trans ((QbU _ _).trans p6)
 have p4:=(QI _ _ _).trans p5
 have p3:=(QI _ _ _).trans p4
 have p2:=(QI _ _ _).trans p3
 obtain⟨h1,e1⟩:=Qcv (p:=p) (n:=id) (k:=4) (by first | exact p2 | exact p3 | exact p4 | exact p5) (by omega) f1 ha e
 obtain⟨h2,e2⟩:=Qcv (p:=Qj p id 4) (n:=st) (k:=1) (by first | exact p2 | exact p3 | exact p4 | exact p5) (by omega) f2 h1 rfl
 obtain⟨h3,e3⟩:=Qcv (p:=Qj (Qj p id 4) st 1) (n:=n) (k:=8) (by first | exact p2 | exact p3 | exact p4 | exact p5) (by omega) f3 h2 rfl
 obtain⟨h4,e4⟩:=Qcv (p:=Qj (Qj (Qj p id 4) st 1) n 8) (n:=b) (k:=8) (by first | exact p2 | exact p3 | exact p4 | exact p5 | exact p6) (by omega) f4 h3 rfl
 obtain⟨h5,e5⟩:=Qks (p:=Qj (Qj (Qj (Qj p id 4) st 1) n 8) b 8) (l:=q) (k:=2) (by first | exact p6 | exact p5 | exact(QI _ _ _).trans ((QbU _ _).trans hp)) (by omega) f5 f7 h4 rfl
 obtain⟨h6,e6⟩:=Qks (l:=v) (k:=1) hp (by omega) f6 f8 h5 rfl
 refine⟨h6,?_⟩
 simp only[txS,e1,e2,e3,e4,e5,e6]
def Qrp:∀ (l:List Tx) {s p:List UInt8} (_:Pre (Qet p l) s) (_:∀ t ∈ l,t.fits) (out:List Tx) {a:Nat} (ha:a<=s.length) (_:a = p.length),
 ∃ h,rdT s l.length out ⟨a,false,ha⟩=(out++l,⟨(Qet p l).length,false,h⟩)
 | [],s,p,hp,_,out,a,ha,e=>⟨hp.len,by subst e; rw[Jv]; rfl⟩
 | n :: r,s,p,hp,hf,out,a,ha,e=>by
   obtain⟨h1,e1⟩:=QxX (p:=p) (t:=n) ((QgI r _).trans hp) (hf n (by simp)) ha e
   obtain⟨h2,e2⟩:=Qrp r (p:=Qeu p n) hp (fun m hm=>hf m (J9 _ hm)) (out++[n]) h1 rfl
   refine⟨h2,?_⟩
   rw[Js,rdT,if_neg (by simp),e1,e2,Jl]
   rfl
def Qty{lo n d:Int}(h:QnA l lo n d=true)(h0:0<=lo)(hn:n<=1099511627776):∀ x∈l,fit x 8:=fun x hx=>by
 obtain⟨i,hi,rfl⟩:=JV hx
 unfold QnA at h
 rw[Jr] at h
 have:=(Qdw l lo n d i).1 (h i (Ju.2 hi))
 rw[Qd l i hi] at this
 exact .inr ⟨rfl,by omega,by omega⟩
def Qvx{t:Tx}(h:t.okB=true):t.fits:=by
 simp only[Tx.okB,Tx.hdB,Jf,Km,decide_eq_true_eq] at h
 obtain⟨⟨hh,h1⟩,h2⟩:=h
 refine⟨.inl ⟨by omega,by omega,by show t.id<4294967296; omega⟩,.inl ⟨by omega,by omega,by show t.st<256; omega⟩,.inr ⟨rfl,by omega,by omega⟩,.inr ⟨rfl,by omega,by omega⟩,.inl ⟨by omega,by omega,by show(t.l.length:Int)<65536; omega⟩,.inl ⟨by omega,by omega,by show(t.s.length:Int)<256; omega⟩,
  Qty h1 (by omega) (by omega),Qty h2 (by omega) (by omega)⟩
def Qqj(h:Qbm l=true):∀ t∈l,t.fits:=fun t ht=>by
 obtain⟨i,hi,rfl⟩:=JV ht
 exact Qvx (Qbg h hi)
def QCb(h:Qbm l=true):Qxc (QaK l)=(l,0):=by
 have hf:=Qqj h
 have hl:=Qd3 h
 generalize hs:QaK l=s
 have hp:Pre (Qet (Qj [] l.length 2) l) s:=by rw[<- hs]; exact .refl _
 obtain⟨h1,e1⟩:=Qcv (p:=[]) (n:=l.length) (k:=2) ((QgI l _).trans hp) (by omega) (.inl ⟨by omega,by omega,by show(l.length:Int)<65536; omega⟩) (Jd s.length) rfl
 obtain⟨h2,e2⟩:=Qrp l hp hf [] h1 rfl
 have e3:rdA s=(l,⟨(Qet (Qj [] l.length 2) l).length,false,h2⟩):=by
  unfold rdA rq0
  rw[e1,Ji,e2,JU]
 unfold Qxc
 rw[e3]
 dsimp only
 rw[if_neg (by simp),if_neg (by rw[<- hs]; unfold QaK; simp),if_neg (by rw[h]; decide)]
def QbL(hp:Pre (Qj p n k) s)(hf:fit n k)(e:a=p.length):a+k<=s.length/\IntKind.i64.wrap (QeG s a k)=n:=by
 subst e
 have hl:=hp.len
 have hk8:k<=8:=by rcases hf with h | h<;>omega
 rw[Qb] at hl
 refine⟨hl,?_⟩
 obtain⟨t,rfl⟩:=hp
 rw[QgU p t n k hk8 k (Jz _),QsX n k hf]
def Pre.app(s u:List UInt8):Pre s (s++u):=⟨u,rfl⟩
def Qs3(s:List UInt8)(r:Rw):Pre s (Qi4 s r):=(QI _ _ _).trans ((QI _ _ _).trans (QI _ _ _))
def QgJ:∀ (l:List Rw) (s:List UInt8),Pre s (QdS s l)
 | [],s=>.refl s
 | a::r,s=>(Qs3 s a).trans (QgJ r (Qi4 s a))
def Qs4(s:List UInt8)(r:Dt):Pre s (Qi5 s r):=(QI _ _ _).trans ((QI _ _ _).trans (QI _ _ _))
def QgK:∀ (l:List Dt) (s:List UInt8),Pre s (Qc6 s l)
 | [],s=>.refl s
 | a::r,s=>(Qs4 s a).trans (QgK r (Qi5 s a))
def Qnq:∀ (l:List Rw) (s:List UInt8) (i:Nat),i<=l.length->Pre (QdS s (l.take i)) (QdS s l)
 | [],s,i,_=>by rw[Kq]; exact .refl _
 | a::r,s,0,_=>QgJ _ _
 | a::r,s,i+1,h=>Qnq r (Qi4 s a) i (by simpa using h)
def Qnr:∀ (l:List Dt) (s:List UInt8) (i:Nat),i<=l.length->Pre (Qc6 s (l.take i)) (Qc6 s l)
 | [],s,i,_=>by rw[Kq]; exact .refl _
 | a::r,s,0,_=>QgK _ _
 | a::r,s,i+1,h=>Qnr r (Qi5 s a) i (by simpa using h)
def Qzh(h:ixB l=true)(hi:i<l.length):fit (l.getD i Rw0).lsn 8/\fit (l.getD i Rw0).im 8/\fit (l.getD i Rw0).at_ 8:=by
 unfold ixB at h
 simp only[Jf,Jr,Ju] at h
 have:=h.2 i hi
 unfold Qyw Qos at this
 simp only[Jf,decide_eq_true_eq] at this
 exact⟨.inr ⟨rfl,by omega,by omega⟩,.inr ⟨rfl,by omega,by omega⟩,.inr ⟨rfl,by omega,by omega⟩⟩
def QBY(h:ixB l=true):IntKind.i64.wrap (QeG (Qck l) 0 2)=l.length/\(Qck l).length=2+24*l.length:=by
 have h2:=Qsk h
 exact⟨(QbL (p:=[]) (n:=l.length) (k:=2) (QgJ l _) (.inl ⟨by omega,by omega,by show(l.length:Int)<65536; omega⟩) rfl).2,QkM l⟩
def QBX(h:ixB l=true)(hi:i<l.length):IntKind.i64.wrap (QeG (Qck l) (2+24*i) 8)=(l.getD i Rw0).lsn/\IntKind.i64.wrap (QeG (Qck l) (10+24*i) 8)=(l.getD i Rw0).im/\IntKind.i64.wrap (QeG (Qck l) (18+24*i) 8)=(l.getD i Rw0).at_:=by
 obtain⟨f1,f2,f3⟩:=Qzh h hi
 have h1:=Qnq l (Qj [] l.length 2) (i+1) hi
 rw[QhZ _ _ _ hi] at h1
 have hl:(QdS (Qj [] l.length 2) (l.take i)).length=2+24*i:=by
  rw[Qev,Qb,Jp,JM]; omega
 have hs:QdS (Qj [] l.length 2) l=Qck l:=rfl
 rw[hs] at h1
 generalize QdS (Qj [] l.length 2) (l.take i)=p at *
 unfold Qi4 at h1
 have h2:=(QI _ _ _).trans h1
 have h3:=(QI _ _ _).trans h2
 exact⟨(QbL h3 f1 hl.symm).2,(QbL h2 f2 (by rw[Qb]; omega)).2,(QbL h1 f3 (by rw[Qb,Qb]; omega)).2⟩
def Qng(h:laB l n=true)(hi:i<l.length):0<=(l.getD i Dt0).pg/\(l.getD i Dt0).pg<n/\1<=(l.getD i Dt0).rc/\(l.getD i Dt0).rc<=(l.getD i Dt0).last/\(l.getD i Dt0).last<=1099511627776/\(i=0\/(l.getD (i-1) Dt0).pg<(l.getD i Dt0).pg):=by
 unfold laB at h
 rw[Jr] at h
 exact(Ql4 _ _ _).1 (h i (Ju.2 hi))
def Qw0 (h:laB l n = true):∀ i:Nat,i < l.length->(i:Int)<=(l.getD i Dt0).pg
 | 0,hi=>(Qng h hi).1
 | i + 1,hi=>by
   have h1:=Qw0 h i (by omega)
   have h2:=(Qng h hi).2.2.2.2.2
   rcases h2 with h2 | h2
   ·omega
   ·rw[Nat.add_sub_cancel] at h2; omega
def Qzf(h:laB l n=true)(hn:0<=n):(l.length:Int)<=n:=by
 rcases Nat.eq_zero_or_pos l.length with h0 | h0
 ·omega
 ·have h1:=Qw0 h (l.length - 1) (by omega)
  have h2:=(Qng h (i:=l.length-1) (by omega)).2.1
  omega
def QkS(h:CkV c):(11+(QaK c.tx).length+17*c.dl.length<=(QaC c).length/\IntKind.i64.wrap (QeG (QaC c) 0 2)=c.pg/\IntKind.i64.wrap (QeG (QaC c) 2 4)=c.nx/\IntKind.i64.wrap (QeG (QaC c) 6 4)=(QaK c.tx).length)/\((QaC c).take (10+(QaK c.tx).length)).drop 10=QaK c.tx/\IntKind.i64.wrap (QeG (QaC c) (10+(QaK c.tx).length) 1)=c.dl.length/\(QaC c).drop (11+(QaK c.tx).length+17*c.dl.length)=Qck c.ix /\
 ∀ i,i<c.dl.length->IntKind.i64.wrap (QeG (QaC c) (11+(QaK c.tx).length+17*i) 1)=(c.dl.getD i Dt0).pg/\IntKind.i64.wrap (QeG (QaC c) (12+(QaK c.tx).length+17*i) 8)=(c.dl.getD i Dt0).rc/\IntKind.i64.wrap (QeG (QaC c) (20+(QaK c.tx).length+17*i) 8)=(c.dl.getD i Dt0).last:=by
 obtain⟨⟨v1,v2⟩,⟨v3,v4⟩,v5,v6,v7,v8⟩:=h
 have hT:=Qnp v5
 have hL:=Qzf v6 (by omega)
 have hs:QaC c=Qc6 (Qj (Qj (Qj (Qj [] c.pg 2) c.nx 4) (QaK c.tx).length 4++QaK c.tx) c.dl.length 1) c.dl++Qck c.ix:=rfl
 generalize QaC c=s at *
 generalize QaK c.tx=T at *
 have p5:Pre (Qc6 (Qj (Qj (Qj (Qj [] c.pg 2) c.nx 4) T.length 4++T) c.dl.length 1) c.dl) s:=⟨_,hs⟩
 have p4:=(QgK _ _).trans p5
 have p3:=(QI _ _ _).trans p4
 have p2:=(Pre.app _ _).trans p3
 have p1:=(QI _ _ _).trans p2
 have p0:=(QI _ _ _).trans p1
 have l2:(Qj (Qj (Qj [] c.pg 2) c.nx 4) T.length 4).length=10:=by rw[Qb,Qb,Qb]; rfl
 have l3:(Qj (Qj (Qj [] c.pg 2) c.nx 4) T.length 4++T).length=10+T.length:=by rw[Ja,l2]
 have l4:(Qj (Qj (Qj (Qj [] c.pg 2) c.nx 4) T.length 4++T) c.dl.length 1).length=11+T.length:=by rw[Qb,l3]; omega
 have l5:=Qew c.dl (Qj (Qj (Qj (Qj [] c.pg 2) c.nx 4) T.length 4++T) c.dl.length 1)
 rw[l4] at l5
 refine⟨⟨by have:=p5.len; omega,(QbL p0 (.inl ⟨by omega,by omega,by show c.pg<65536; omega⟩) rfl).2,(QbL p1 (.inl ⟨by omega,by omega,by show c.nx<4294967296; omega⟩) (by rw[Qb]; rfl)).2,(QbL p2 (.inl ⟨by omega,by omega,by show(T.length:Int)<4294967296; omega⟩) (by rw[Qb,Qb]; rfl)).2⟩,?_,(QbL p4 (.inl ⟨by omega,by omega,by show(c.dl.length:Int)<256; omega⟩) l3.symm).2,?_,fun i hi=>?_⟩
 ·obtain ⟨u,hu⟩:=p3
  rw[hu,<- l3,Kp,<- l2,J1]
 ·rw[hs,<- l5,J1]
 ·have h1:=(Qnr c.dl (Qj (Qj (Qj (Qj [] c.pg 2) c.nx 4) T.length 4 ++ T) c.dl.length 1) (i + 1) hi).trans p5
  rw[Qh0 _ _ _ hi] at h1
  have hl:=Qew (c.dl.take i) (Qj (Qj (Qj (Qj [] c.pg 2) c.nx 4) T.length 4++T) c.dl.length 1)
  rw[l4,Jp] at hl
  obtain⟨a1,a2,a3,a4,a5,_⟩:=Qng v6 hi
  clear l5 p5 p4 p3 p2 p1 p0 hs l4
  generalize Qc6 (Qj (Qj (Qj (Qj [] c.pg 2) c.nx 4) T.length 4++T) c.dl.length 1) (c.dl.take i)=p at *
  generalize c.dl.getD i Dt0=d at *
  unfold Qi5 at h1
  have h2:=(QI _ _ _).trans h1
  have h3:=(QI _ _ _).trans h2
  exact⟨(QbL h3 (.inl ⟨by omega,by omega,by show d.pg<256; omega⟩) (by omega)).2,(QbL h2 (.inr ⟨rfl,by omega,by omega⟩) (by rw[Qb]; omega)).2,(QbL h1 (.inr ⟨rfl,by omega,by omega⟩) (by rw[Qb,Qb]; omega)).2⟩
@[go_sem] def niZ(a:Int×Int):DV:=.tup [.int .i64 a.1,.int .i64 a.2]
def QdL(s:List UInt8)(hs:s.length<=100000000)(a:Int)(k:Nat)(h1:1<=k)(h8:k<=8)(h0:0<=a):VCalls prog 240 [.pv (.str s),.int .i64 a,.int .i64 k] [] (Qz niZ fun r=>(k<=4->0<=r.1/\r.1<4294967296)/\(k<=2->r.1<65536)/\(k<=1->r.1<256)/\(r.2=0->a+k<=s.length)/\(a+k<=s.length->r.1=IntKind.i64.wrap (QeG s a.toNat k))):=by
 by_cases h:a+k<=s.length
 ·obtain ⟨n,rfl⟩:∃ n:Nat,a = n:=⟨a.toNat,by omega⟩
  refine(QhJ s (by omega) n k ⟨h1,h8⟩ (by omega)).toS (IntKind.i64.wrap (QeG s n k),0) rfl ⟨fun hk=>?_,fun hk=>?_,fun hk=>?_,fun _=>h,fun _=>by rw[Ji]⟩
  all_goals
   have e:=QeF s n k (by omega)
   have h2:=Qkw s n k
   dsimp only
   rw[e,IntKind.wrap_i64]
  ·have:(2:Nat) ^ (8 * k)<=2 ^ 32:=JD (by omega) (by omega)
   omega
  ·have:(2:Nat) ^ (8 * k)<=2 ^ 16:=JD (by omega) (by omega)
   omega
  ·have:(2:Nat) ^ (8 * k)<=2 ^ 8:=JD (by omega) (by omega)
   omega
 ·refine(Qdm s a k (by omega) h0 h).toS (0,5) rfl ⟨fun _=>by decide,fun _=>by decide,fun _=>by decide,fun h=>by simp at h,fun h2=>absurd h2 h⟩
structure RwS(n:Nat)(s:List UInt8) where
 i:Nat
 l:List Rw
 hl:l.length=i
 hi:i<=n
 hx:∀ l0,ixB l0=true->s=Qck l0->l=l0.take i
@[go_sem] def ixD(a:List Rw×Int):DV:=.tup [.agg [.pv (.sl (fz Qb2 a.1))],.int .i64 a.2]
def ixQ(s:List UInt8)(a:List Rw×Int):Prop:=a.1.length<=64/\(a.2=0->∀ l0,ixB l0=true->s=Qck l0->a.1=l0)
def Qu6(s:List UInt8)(hs:s.length<=100000000):VCalls prog 282 [.pv (.str s)] [] (Qz ixD (ixQ s)):=by
 refine dk Tryz.func282 ?_
 have c1:=QdL s hs 0 2 (by omega) (by omega) (by omega)
 have c8:=fun a h=>QdL s hs a 8 (by omega) (by omega) h
 have e0:∀ e,e≠0->ixQ s ([],e):=fun e h=>⟨Jd _,fun h2=>absurd h2 h⟩
 (unfold Tryz.f282; refine rn trivial ?_)
 refine rn F ?_
 repeat' (first
  | with_reducible exact⟨⟩
  | (refine sG F ?_ ?_<;>intro hZ)
  | (refine sB F ?_ ?_<;>intro hZ)
  | (refine Ql (c1) rfl ?_; rintro⟨n,e⟩ hn; refine rn F ?_))
 all_goals first
  | exact⟨rfl,rfl,([],_),rfl,e0 _ (by decide)⟩
  | skip
 dsimp only at hn
 obtain⟨n,rfl⟩:∃ m:Nat,n=m:=⟨n.toNat,by omega⟩
 have hn2:n<65536:=by omega
 have hnl:∀ l0,ixB l0=true->s=Qck l0->n=l0.length/\s.length=2+24*n:=fun l0 h1 h2=>by
  have h3:=QBY h1
  have h4:=hn.2.2.2.2
  rw[h2] at h4 |-
  have h5:=h4 (by omega)
  rw[show(0:Int).toNat=0 from rfl] at h5
  omega
 clear hn
 refine VLoop.nilOwnC 1 0 300 3 rfl rfl ?_
 refine rn trivial ?_
 refine Qg (fun r:RwS n s=>⟨77,0,[(7,.int .i64 r.i),(6,.ptr 1 0),(4,.int .i64 n),(2,.ptr 0 0),(0,.pv (.str s))],[⟨59,true,[.pv (.slc [])]⟩,⟨59,true,[.own 2 3 0 r.i]⟩,⟨300,true,cells Qb2 r.l⟩]⟩) (fun r=>n-r.i) ⟨0,[],rfl,Jd _,fun _ _ _=>by rw[JR]⟩ (gc [0,1,2]) ?_
 rintro⟨i,l,hl,hi,hx⟩
 dsimp only at hi |-
 subst hl
 have hb:(l.length+1)*24<=140737488355328:=by omega
 have F:=@hb
 refine rn F ?_
 repeat' (first
  | with_reducible exact⟨⟩
  | (refine sB F ?_ ?_<;>intro hZ)
  | (refine Ql (c8 (2+24*(l.length:Int)) (by omega)) rfl ?_; rintro⟨a1,e1⟩ h1; refine rn F ?_)
  | (refine Ql (c8 (10+24*(l.length:Int)) (by omega)) rfl ?_; rintro⟨a2,e2⟩ h2; refine rn F ?_)
  | (refine Ql (c8 (18+24*(l.length:Int)) (by omega)) rfl ?_; rintro⟨a3,e3⟩ h3; refine rn F ?_))
 ·have hl2:(l ++ [(⟨a1,a2,a3⟩:Rw)]).length = l.length + 1:=by simp
  have hil:l.length<n:=by omega
  have hx2:∀ l0,ixB l0=true->s=Qck l0->l++[(⟨a1,a2,a3⟩:Rw)]=l0.take (l.length+1):=fun l0 q1 q2=>by
   obtain⟨q3,q4⟩:=hnl l0 q1 q2
   have q5:=hx l0 q1 q2
   have hil2:l.length<l0.length:=by omega
   obtain⟨g1,g2,g3⟩:=QBX q1 hil2
   have z1:=h1.2.2.2.2 (by omega)
   have z2:=h2.2.2.2.2 (by omega)
   have z3:=h3.2.2.2.2 (by omega)
   dsimp only at z1 z2 z3
   rw[show((2:Int)+24*(l.length:Int)).toNat=2+24*l.length by omega,q2,g1] at z1
   rw[show((10:Int)+24*(l.length:Int)).toNat=10+24*l.length by omega,q2,g2] at z2
   rw[show((18:Int)+24*(l.length:Int)).toNat=18+24*l.length by omega,q2,g3] at z3
   rw[Jn hil2,z1,z2,z3,Qd _ _ hil2,<- q5]
  clear h1 h2 h3
  refine⟨⟨l.length+1,l++[⟨a1,a2,a3⟩],hl2,hil,hx2⟩,by dsimp only; omega,?_⟩
  exact(gc [0,1,5])
 have hix:=fun h:ixB l=true=>Qsk h
 have c9:=Qbw l (by omega)
 generalize ixB l=ok at *
 refine vl hb c9 ?_
 cases ok
 ·skip
  have F:=@hb
  refine rn F ?_
  exact⟨rfl,rfl,([],_),rfl,e0 _ (by decide)⟩
 ·skip
  have F:=@hb
  refine rn F ?_
  exact⟨rfl,rfl,(l,0),rfl,(hix rfl).2,fun _ l0 q1 q2=>by
   have q3:=(hnl l0 q1 q2).1
   have q4:=hx l0 q1 q2
   dsimp only
   rw[q4,Jo (by omega)]⟩
structure DtS(s:List UInt8)(n m:Nat) where
 i:Nat
 a:Int
 l:List Dt
 hl:l.length=i
 hi:i<=m
 ha:a=11+n+17*i
 hx:∀ c,CkV c->s=QaC c->l=c.dl.take i
def QCk(s:List UInt8)(a:Cp×Int):Prop:=smN 64 a.1.tx/\a.1.dl.length<=256/\a.1.ix.length<=64/\(a.2=0->s≠[]/\∀ c,CkV c->s=QaC c->a.1=c)
def Qvg(s:List UInt8)(hs:s.length<=3000000):VCalls prog 278 [.pv (.str s)] [] (Qz QEd (QCk s)):=by
 refine dk Tryz.func278 ?_
 have c1:=QdL s (by omega) 0 2 (by omega) (by omega) (by omega)
 have c2:=QdL s (by omega) 2 4 (by omega) (by omega) (by omega)
 have c3:=QdL s (by omega) 6 4 (by omega) (by omega) (by omega)
 have c4:=fun a h=>QdL s (by omega) a 1 (by omega) (by omega) h
 have c8:=fun a h=>QdL s (by omega) a 8 (by omega) (by omega) h
 have err:∀ e,e≠0->QCk s (Cp0,e):=fun e h=>⟨QV _,Jd _,Jd _,fun h2=>absurd h2 h⟩
 (unfold Tryz.f278; refine rn trivial ?_)
 refine Ql c1 rfl ?_
 rintro⟨pg,e1⟩ h1
 refine rn trivial ?_
 refine Ql c2 rfl ?_
 rintro⟨nx,e2⟩ h2
 refine rn trivial ?_
 refine Ql c3 rfl ?_
 rintro⟨n,e3⟩ h3
 have hA:∀ c,CkV c->s=QaC c->pg=c.pg/\nx=c.nx/\n=(QaK c.tx).length:=fun c q1 q2=>by
  obtain⟨⟨g1,g2,g3,g4⟩,_⟩:=QkS q1
  rw[<- q2] at g1 g2 g3 g4
  exact⟨(h1.2.2.2.2 (by omega)).trans g2,(h2.2.2.2.2 (by omega)).trans g3,(h3.2.2.2.2 (by omega)).trans g4⟩
 dsimp only at h3
 obtain⟨n,rfl⟩:∃ m:Nat,n=m:=⟨n.toNat,by omega⟩
 have hn:n<4294967296:=by omega
 clear h1 h2 h3
 refine rn F ?_
 repeat' (first
  | with_reducible exact⟨⟩
  | (refine sG F ?_ ?_<;>intro hZ)
  | (refine sB F ?_ ?_<;>intro hZ))
 all_goals first | exact⟨rfl,rfl,(Cp0,5),rfl,err _ (by decide)⟩ | skip
 have hns:n+10<=s.length:=by omega
 refine Ql (c4 (10+(n:Int)) (by omega)) rfl ?_
 rintro⟨m,e4⟩ h4
 have hM:∀ c,CkV c->s=QaC c->m=c.dl.length:=fun c q1 q2=>by
  obtain⟨_,_,q3⟩:=hA c q1 q2
  obtain⟨⟨g0,_⟩,_,g1,_⟩:=QkS q1
  rw[<- q2,<- (by omega:n=(QaK c.tx).length)] at g0 g1
  have:=h4.2.2.2.2 (by omega)
  rw[show((10:Int)+(n:Int)).toNat=10+n by omega] at this
  exact this.trans g1
 dsimp only at h4
 obtain⟨m,rfl⟩:∃ k:Nat,m=k:=⟨m.toNat,by omega⟩
 have hm:m<256:=by omega
 clear h4
 refine rn F ?_
 repeat' (first
  | with_reducible exact⟨⟩
  | (refine sG F ?_ ?_<;>intro hZ)
  | (refine sB F ?_ ?_<;>intro hZ))
 all_goals first | exact⟨rfl,rfl,(Cp0,5),rfl,err _ (by decide)⟩ | skip
 have hns2:11+n+17*m<=s.length:=by omega
 refine VLoop.nilOwnC 1 3 219 3 rfl rfl ?_
 refine rn trivial ?_
 have hTX:∀ c,CkV c->s=QaC c->(s.take (10+(n:Int)).toNat).drop 10=QaK c.tx:=fun c q1 q2=>by
  obtain⟨_,_,q3⟩:=hA c q1 q2
  obtain⟨_,g1,_⟩:=QkS q1
  rw[<- q2,<- (by omega:n=(QaK c.tx).length)] at g1
  rw[show((10:Int)+(n:Int)).toNat=10+n by omega]
  exact g1
 generalize htx:(s.take (10+(n:Int)).toNat).drop 10=txs at *
 have htl:txs.length<=3000000:=by rw[<- htx,JF,Jp]; omega
 refine Qg (fun r:DtS s n m=>⟨130,0,[(11,.int .i64 r.i),(10,.int .i64 m),(9,.int .i64 r.a),(8,.pv (.str txs)),(4,.ptr 1 0),(2,.ptr 0 0),(0,.pv (.str s))],[⟨238,true,[.int .i64 0,.int .i64 0,.pv (.slc []),.pv (.slc []),.pv (.slc [])]⟩,⟨238,true,[.int .i64 pg,.int .i64 nx,.pv (.slc []),.own 2 3 0 r.i,.pv (.slc [])]⟩,⟨219,true,cells QcG r.l⟩]⟩) (fun r=>m-r.i) ⟨0,10+(n:Int)+1,[],rfl,Jd _,by omega,fun _ _ _=>by rw[JR]⟩ (gc [0,1,2]) ?_
 rintro⟨i,a,l,hl,hi,ha,hx⟩
 dsimp only
 subst hl
 have hb:(l.length+1)*24<=140737488355328:=by omega
 by_cases hil:l.length<m
 ·skip
  have F:=@hb
  refine rn F ?_
  repeat' (first
   | with_reducible exact⟨⟩
   | (refine Ql (c4 a (by omega)) rfl ?_; rintro⟨a1,e1⟩ h1; refine rn F ?_)
   | (refine Ql (c8 (a+1) (by omega)) rfl ?_; rintro⟨a2,e2⟩ h2; refine rn F ?_)
   | (refine Ql (c8 (a+9) (by omega)) rfl ?_; rintro⟨a3,e3⟩ h3; refine rn F ?_))
  have hl2:(l++[(⟨a1,a2,a3⟩:Dt)]).length=l.length+1:=by simp
  have hx2:∀ c,CkV c->s=QaC c->l++[(⟨a1,a2,a3⟩:Dt)]=c.dl.take (l.length+1):=fun c q1 q2=>by
   obtain⟨_,_,q3⟩:=hA c q1 q2
   have q4:=hM c q1 q2
   have q5:=hx c q1 q2
   have hil2:l.length<c.dl.length:=by omega
   obtain⟨⟨g0,_⟩,_,_,_,gr⟩:=QkS q1
   obtain⟨g1,g2,g3⟩:=gr _ hil2
   rw[<- q2,<- (by omega:n=(QaK c.tx).length)] at g0 g1 g2 g3
   have z1:=h1.2.2.2.2 (by omega)
   have z2:=h2.2.2.2.2 (by omega)
   have z3:=h3.2.2.2.2 (by omega)
   dsimp only at z1 z2 z3
   rw[show a.toNat=11+n+17*l.length by omega,g1] at z1
   rw[show(a+1).toNat=12+n+17*l.length by omega,g2] at z2
   rw[show(a+9).toNat=20+n+17*l.length by omega,g3] at z3
   rw[Jn hil2,z1,z2,z3,Qd _ _ hil2,<- q5]
  clear h1 h2 h3
  refine⟨⟨l.length+1,a+17,l++[⟨a1,a2,a3⟩],hl2,hil,by rw[ha]; omega,hx2⟩,by dsimp only; omega,?_⟩
  exact(gc [0,1,5])
 obtain rfl:m=l.length:=by omega
 have c9:=Qoc txs htl
 have hq:smN 64 (Qxc txs).1:=by
  unfold Qxc
  split
  ·exact QV _
  split
  ·exact QV _
  split
  ·exact QV _
  ·rename_i h; exact Qfz (by simpa using h)
 have hD:∀ c,CkV c->s=QaC c->(Qxc txs).1=c.tx:=fun c q1 q2=>by rw[hTX c q1 q2,QCb q1.2.2.1]
 generalize Qxc txs=D at *
 obtain⟨tx,et⟩:=D
 dsimp only at hq hD
 have hX:∀ c,CkV c->s=QaC c->s.drop a.toNat=Qck c.ix:=fun c q1 q2=>by
  obtain⟨_,_,q3⟩:=hA c q1 q2
  have q4:=hM c q1 q2
  obtain⟨_,_,_,g1,_⟩:=QkS q1
  rw[<- q2,<- (by omega:n=(QaK c.tx).length),<- (by omega:l.length=c.dl.length)] at g1
  rw[show a.toNat=11+n+17*l.length by omega]
  exact g1
 have ha2:0<=a/\a<=s.length:=by omega
 obtain⟨a,rfl⟩:∃ k:Nat,a=k:=⟨a.toNat,by omega⟩
 rw[Ji] at hX
 have hsl:(s.drop a).length<=100000000:=by rw[JF]; omega
 have hal:a<=s.length:=by omega
 have F:=(Jb @hb @hal)
 refine rn F ?_
 repeat' (first
  | with_reducible exact⟨⟩
  | (refine sB F ?_ ?_<;>intro hZ)
  | refine vp F (c9) ?_
  | (refine Ql (Qu6 _ hsl) rfl ?_; rintro⟨ix,ei⟩ hi2; refine rn F ?_))
 all_goals first | exact⟨rfl,rfl,(Cp0,_),rfl,err _ (by assumption)⟩ | skip
 unfold ixQ at hi2
 dsimp only at hi2
 have c10:=QhO ⟨pg,nx,tx,l,ix⟩ ⟨hq.mono (by decide),by dsimp only; omega,hi2.1⟩
 have F:=@hb
 refine rn F ?_
 repeat' (first
  | with_reducible exact⟨⟩
  | (refine sB F ?_ ?_<;>intro hZ)
  | (refine Quc (c10) ?_ (fun _=>rfl) ?_; (focus (refine rd F)); rintro b -; refine rn F ?_))
 all_goals first
  | exact⟨rfl,rfl,(Cp0,_),rfl,err _ (by decide)⟩
  | skip
 refine⟨rfl,rfl,(⟨pg,nx,tx,l,ix⟩,0),rfl,hq,by dsimp only; omega,hi2.1,fun _=>⟨fun h=>by rw[h] at hns; simp at hns,fun c q1 q2=>?_⟩⟩
 obtain⟨q3,q4,_⟩:=hA c q1 q2
 have q5:=hx c q1 q2
 have q6:=hD c q1 q2
 have q7:=hi2.2 (by assumption) c.ix q1.2.2.2.2.1 (hX c q1 q2)
 have q8:=hM c q1 q2
 rw[Jo (by omega)] at q5
 dsimp only
 rw[q3,q4,q6,q7,q5]
def Qo4{c:Ce}(h:c.no=true):c.data.length<=12:=by
 unfold Ce.no at h
 simp only[Jf,beq_iff_eq] at h
 rw[h.2]; exact Jd _
def Qwn{c:Ce}(h:c.okB=true):c.data.length<=12:=by
 unfold Ce.okB at h
 simp only[Jf,decide_eq_true_eq] at h
 exact h.1
def Qef{e:E}(h:e.okB=true):e.c.b.data.length<=12/\e.c.a.data.length<=12/\e.blob.length<=8192:=by
 unfold E.okB at h
 simp only[Jf] at h
 have h2:=h.2
 clear h
 unfold E.kindB at h2
 have nb:∀ {l:List UInt8},l==[]->l.length<=8192:=fun h=>by rw[beq_iff_eq] at h; rw[h]; exact Jd _
 split at h2
 ·simp only [Jf,Ch.okB] at h2
  exact⟨Qwn h2.2.1.2,Qwn h2.2.2,nb h2.1.2⟩
 split at h2
 ·simp only [Jf,Ch.okB] at h2
  exact⟨Qwn h2.2.1.2,Qwn h2.2.2,nb h2.1.1.1.2⟩
 split at h2
 ·simp only [Jf,Ch.no] at h2
  exact⟨Qo4 h2.2.1.2,Qo4 h2.2.2,nb h2.1.2⟩
 split at h2
 ·simp only [Jf,Ch.no,decide_eq_true_eq] at h2
  exact⟨Qo4 h2.2.1.2,Qo4 h2.2.2,h2.1.2⟩
 split at h2
 ·simp only [Jf,Ch.ix] at h2
  exact⟨Qo4 h2.2.1.1.1.2,Qo4 h2.2.1.1.2,nb h2.1.2⟩
 ·cases h2
def Qag(s:List UInt8)(c:Ce):List UInt8:=if c.set=true then Qj s c.data.length 1++c.data else Qj s 255 1
def Qbx(s:List UInt8)(c:Ce):(Qag s c).length<=s.length+1+c.data.length:=by
 unfold Qag; split
 ·rw[Ja,Qb]; exact Jz _
 ·rw[Qb]; omega
def Qj2(s:List UInt8)(hs:s.length<=100000000)(c:Ce)(hc:c.data.length<=1000000):VCalls prog 269 [.pv (.str s),.agg c.d] [] (Ret (.pv (.str (Qag s c)))):=by
 refine dd Tryz.func269 ?_
 have c1:=QS s (by omega) 255 1 (by omega) (by omega)
 have c2:=QS s (by omega) c.data.length 1 (by omega) (by omega)
 have e:Qag s c=if c.set=true then Qj s c.data.length 1++c.data else Qj s 255 1:=rfl
 have hadd:=QcR (a:=Qj s c.data.length 1) (b:=c.data) (by rw[Qb]; omega)
 generalize Qag s c=r at *
 (unfold Tryz.f269; refine rn trivial ?_)
 have F:=@hadd
 refine rn F ?_
 repeat' (first
  | with_reducible exact⟨⟩
  | (refine sB F ?_ ?_<;>intro hZ)
  | refine vp F (c1) ?_
  | refine vp F (c2) ?_
  | (refine Qc (id:=3) [0,1,2,3,5,6] [⟨[],[],4,[1,2,5,6],[7]⟩,⟨[],[],8,[],[]⟩] (by kernel_rfl) (by kernel_rfl) ?_; refine rn F ?_))
 all_goals first | (first | (rw[e]; simp(disch:=first | assumption | omega | exact rfl | exact nf (by assumption) | exact nt (by assumption) | decide | fail) only[if_pos,if_neg]; first | done | rfl) | (rw[e]; simp(disch:=first | assumption | omega | exact rfl | exact nf (by assumption) | exact nt (by assumption) | decide | (simp_all; done) | fail) only[if_pos,if_neg]; first | done | rfl)) | skip
def QaV(e:E):List UInt8:=Qj (Qj (Qj (Qj (Qj (Qj (Qj (Qj [] e.lsn 8) e.kind 1) e.tx 4) e.ptx 8) e.ppg 8) e.ref 8) e.c.pg 4) e.c.sl 1
def Qdu(e:E):(QaV e).length=42:=by unfold QaV; simp only[Qb,JM]
def QkO(e:E):List UInt8:=Qj (Qag (Qag (QaV e) e.c.b) e.c.a) e.blob.length 4++e.blob
def Qho(e:E):List UInt8×Int:=if e.okB=true then (QkO e,0) else ([],12)
def QyE(e:E):VCalls prog 238 [.agg e.d] [] (Ret (.tup [.pv (.str (Qho e).1),.int .i64 (Qho e).2])):=by
 refine dd Tryz.func238 ?_
 have c1:=Qcr e
 unfold Qho
 cases hv:e.okB
 ·rw [hv] at c1
  (unfold Tryz.f238; refine rn trivial ?_)
  refine rn F ?_
  repeat' (first
   | with_reducible exact⟨⟩
   | refine vp F (c1) ?_)
  all_goals rfl
 rw[hv] at c1
 obtain⟨l1,l2,l3⟩:=Qef hv
 have n1:=Qbx (QaV e) e.c.b
 have n2:=Qbx (Qag (QaV e) e.c.b) e.c.a
 rw[Qdu] at n1
 have p9:=Qj2 (QaV e) (by rw[Qdu]; omega) e.c.b (by omega)
 have p10:=Qj2 (Qag (QaV e) e.c.b) (by omega) e.c.a (by omega)
 have p11:=QS (Qag (Qag (QaV e) e.c.b) e.c.a) (by omega) e.blob.length 4 (by omega) (by omega)
 have hadd:=QcR (a:=Qj (Qag (Qag (QaV e) e.c.b) e.c.a) e.blob.length 4) (b:=e.blob) (by rw[Qb]; omega)
 have hh:QaV e=Qj (Qj (Qj (Qj (Qj (Qj (Qj (Qj [] e.lsn 8) e.kind 1) e.tx 4) e.ptx 8) e.ppg 8) e.ref 8) e.c.pg 4) e.c.sl 1:=rfl
 have q:=fun(s:List UInt8) (hs:s.length<=1000) (n:Int) (k:Nat) (h1:1<=k) (h8:k<=8)=>QS s (by omega) n k h1 h8
 (unfold Tryz.f238; refine rn trivial ?_)
 have F:=@hh.symm
 refine rn F ?_
 repeat' (first
  | with_reducible exact⟨⟩
  | refine vp F (c1) ?_
  | refine vp F (q _ (by simp[Qb]) _ 8 (by omega) (by omega)) ?_
  | refine vp F (q _ (by simp[Qb]) _ 1 (by omega) (by omega)) ?_
  | refine vp F (q _ (by simp[Qb]) _ 4 (by omega) (by omega)) ?_
  | (refine Qc (id:=11) [0,1,2,3,5,6,7] [⟨[],[],4,[1,2,5,6,7],[]⟩,⟨[],[],8,[0,1,2,3,5,6],[]⟩,⟨[],[],9,[],[]⟩] (by kernel_rfl) (by kernel_rfl) ?_; refine rn F ?_))
 have F:=@hadd
 refine rn F ?_
 repeat' (first
  | with_reducible exact⟨⟩
  | refine vp F (p9) ?_
  | refine vp F (p10) ?_
  | refine vp F (p11) ?_
  | (refine Qc (id:=12) [0,1,2,3,5,6] [⟨[],[],4,[1,2,5,6],[7]⟩,⟨[],[],8,[],[]⟩,⟨[],[],9,[],[]⟩] (by kernel_rfl) (by kernel_rfl) ?_; refine rn F ?_))
 all_goals rfl
def QkN(e:E):(Qho e).1.length<=9000:=by
 unfold Qho
 split
 ·rename_i hv
  obtain⟨l1,l2,l3⟩:=Qef hv
  have n1:=Qbx (QaV e) e.c.b
  have n2:=Qbx (Qag (QaV e) e.c.b) e.c.a
  rw[Qdu] at n1
  unfold QkO
  dsimp only
  rw[Ja,Qb]
  omega
 ·exact Jd _
def Qre(e:E):VCalls prog 195 [.agg e.d] [] (Ret (.pv (.str (frm (Qho e).1)))):=by
 refine dd Tryz.func195 ?_
 have c1:=QyE e
 have hl:=QkN e
 generalize Qho e=r at *
 have c2:=QmR r.1 (by omega)
 (unfold Tryz.f195; refine rn trivial ?_)
 refine rn F ?_
 repeat' (first
  | with_reducible exact⟨⟩
  | refine vp F (c1) ?_
  | refine vp F (c2) ?_)
 all_goals rfl
def Qc2(n:Int):List UInt8:=frm (Qj [80,77,76,71] n 8)
def Qu8(n:Int):VCalls prog 194 [.int .i64 n] [] (Ret (.pv (.str (Qc2 n)))):=by
 refine dd Tryz.func194 ?_
 have c1:=QS [80,77,76,71] (by simp) n 8 (by omega) (by omega)
 have c2:=QmR (Qj [80,77,76,71] n 8) (by rw[Qb]; simp)
 (unfold Tryz.f194; refine rn trivial ?_)
 refine rn F ?_
 repeat' (first
  | with_reducible exact⟨⟩
  | refine vp F (c1) ?_
  | refine vp F (c2) ?_)
 all_goals rfl
def frE(e:E):List UInt8:=frm (Qho e).1
def QsN(e:E):(frE e).length<=9008:=by
 have:=QkN e
 unfold frE frm
 split
 ·rw[Qb,Ja,Qb,JM]; omega
 ·exact Jd _
def Qpm(l:List E)(d:Int):List UInt8:=(l.filter fun e=>decide (e.lsn<=d)).flatMap frE
def Qrg(l:List E)(d:Int):List UInt8:=(l.filter fun e=>!decide (e.lsn<=d)).flatMap frE
def Qs5(l:List E)(d:Int)(i:Nat)(h:i<l.length):Qpm (l.take (i+1)) d=if (l.getD i E0).lsn<=d then Qpm (l.take i) d++frE (l.getD i E0) else Qpm (l.take i) d:=by
 unfold Qpm
 rw[Jn h,JY,JW,Qd l i h]
 split<;>rename_i hx<;>simp[hx]
def Qrf(l:List E)(d:Int)(i:Nat)(h:i<l.length):Qrg (l.take (i+1)) d=if (l.getD i E0).lsn<=d then Qrg (l.take i) d else Qrg (l.take i) d++frE (l.getD i E0):=by
 unfold Qrg
 rw[Jn h,JY,JW,Qd l i h]
 split<;>rename_i hx<;>simp[hx]
def Qw5 (l:List E):(l.flatMap frE).length<=9008 * l.length:=by
 induction l with
 | nil=>simp
 | cons a r ih =>
   have:=QsN a
   rw[JB,Ja,Js]; omega
def Qns(l:List E)(d:Int):(Qpm l d).length<=9008*l.length:=
 Jq (Qw5 _) (Kd _ (J7 _ _))
def QmU(l:List E)(d:Int):(Qrg l d).length<=9008*l.length:=
 Jq (Qw5 _) (Kd _ (J7 _ _))
def QkG(n:Int):(Qc2 n).length<=9008:=by
 unfold Qc2 frm
 split
 ·rw[Qb,Ja,Qb,Qb,JM]; simp
 ·exact Jd _
def Qc9(x:Lg)(torn:Int):List UInt8:=if lgB x=true then Qc2 x.f++Qpm x.es x.d++(Qrg x.es x.d).take torn.toNat else []
def QmW(x:Lg)(hx:x.es.length<=9223372036854775807)(torn:Int):VCalls prog 152 [.agg x.c,.int .i64 torn] [] (Ret (.pv (.str (Qc9 x torn)))):=by
 refine dd Tryz.func152 ?_
 have c1:=Qae x hx
 have c2:=Qu8 x.f
 have hh:=QkG x.f
 unfold Qc9
 (unfold Tryz.f152; refine rn trivial ?_)
 cases hv:lgB x
 ·rw [hv] at c1
  refine rn F ?_
  repeat' (first
   | with_reducible exact⟨⟩
   | refine vp F (c1) ?_)
  all_goals rfl
 rw[hv] at c1
 have hd:=Qan hv
 simp only[Lg.hd] at hd
 refine rn F ?_
 repeat' (first
  | with_reducible exact⟨⟩
  | refine vp F (c1) ?_
  | refine vp F (c2) ?_)
 generalize Qc2 x.f=H at *
 refine Qg (fun s:To x.es.length=>⟨55,0,[(7,.int .i64 s.i),(6,.pv (.str (Qrg (x.es.take s.i) x.d))),(5,.pv (.str (H++Qpm (x.es.take s.i) x.d))),(2,.ptr 0 0),(1,.int .i64 torn)],[⟨34,true,x.c⟩]⟩) (fun s=>x.es.length-s.i) ⟨0,Jd _⟩ (by simp only[JR]; rw[show Qpm [] x.d=[] from rfl,show Qrg [] x.d=[] from rfl,Jv]; exact(gc [0])) ?_
 rintro⟨i,hi⟩
 dsimp only
 have hg:=fun h:i<x.es.length=>Qma x.es i h
 have c3:=Qre (x.es.getD i E0)
 have hf:=QsN (x.es.getD i E0)
 have hs1:=Qs5 x.es x.d i
 have hs2:=Qrf x.es x.d i
 have l1:=Qns (x.es.take i) x.d
 have l2:=QmU (x.es.take i) x.d
 rw[Jp] at l1 l2
 have hfr:frm (Qho (x.es.getD i E0)).1=frE (x.es.getD i E0):=rfl
 rw[hfr] at c3
 have a1:=QcR (a:=H++Qpm (x.es.take i) x.d) (b:=frE (x.es.getD i E0)) (by rw[Ja]; omega)
 have a2:=QcR (a:=Qrg (x.es.take i) x.d) (b:=frE (x.es.getD i E0)) (by omega)
 have hH:(H++Qpm (x.es.take i) x.d).length=H.length+(Qpm (x.es.take i) x.d).length:=Ja
 have F:=(Jb @hg (Jb @a1 @a2))
 refine rn F ?_
 repeat' (first
  | with_reducible exact⟨⟩
  | (refine sB F ?_ ?_<;>intro hZ)
  | refine vp F (c3) ?_
  | (refine Qc (id:=7) [0,1,2,3,4,5,6,7,8] [] (by kernel_rfl) (by kernel_rfl) ?_; refine rn F ?_))
 ·have d1:=hs1 (by omega)
  have d2:=hs2 (by omega)
  rw[if_pos (by first | assumption | omega)] at d1 d2
  refine⟨⟨i+1,by omega⟩,by dsimp only; omega,?_⟩
  dsimp only
  rw[d1,d2,<- Jl]
  exact(gc [0])
 ·have d1:=hs1 (by omega)
  have d2:=hs2 (by omega)
  rw[if_neg (by first | assumption | omega)] at d1 d2
  refine⟨⟨i+1,by omega⟩,by dsimp only; omega,?_⟩
  dsimp only
  rw[d1,d2]
  exact(gc [0])
 ·rw [Jo (show x.es.length<=i by omega)]
  congr 3
  generalize Qrg x.es x.d=R
  by_cases h0:0 > torn
  ·rw [if_pos h0]
   rw[if_neg (by omega),show torn.toNat=(0:Int).toNat by omega]
  ·rw [if_neg h0]
   by_cases h1:(R.length:Int)<torn
   ·rw[if_pos h1,Ji,List.take_length,Jo (by omega)]
   ·rw[if_neg h1]
@[go_sem] def ltD(a:Cp×Int×Bool):DV:=.tup [.agg a.1.d,.int .i64 a.2.1,.bool a.2.2]
def QBQ(h:lgB x=true):∀ i,i<x.es.length->(x.es.getD i E0).blob.length<=8192:=by
 unfold lgB at h
 simp only[Jf,Jr,Ju] at h
 intro i hi
 have:=h.2 i hi
 simp only[lgC,Jf] at this
 exact(Qef this.2).2.2
def cpQ(c:Cp):Prop:=smN 64 c.tx/\c.dl.length<=256/\c.ix.length<=64
def QCG:cpQ Cp0:=⟨QV _,Jd _,Jd _⟩
def QEH(x:Lg)(a:Cp×Int×Bool):Prop:=cpQ a.1/\(a.2.2=true->∃ i,i<x.es.length/\(x.es.getD i E0).kind=6/\a.2.1=(x.es.getD i E0).lsn/\(x.es.getD i E0).blob≠[]/\∀ c,CkV c->(x.es.getD i E0).blob=QaC c->a.1=c)
def Qq9(x:Lg)(hx:x.es.length<=1000000):VCalls prog 273 [.agg x.c] [] (Qz ltD (QEH x)):=by
 refine dk Tryz.func273 ?_
 have c1:=Qae x (by omega)
 (unfold Tryz.f273; refine rn trivial ?_)
 cases hv:lgB x
 ·rw [hv] at c1
  refine rn F ?_
  repeat' (first
   | with_reducible exact⟨⟩
   | refine vp F (c1) ?_)
  exact⟨rfl,rfl,(Cp0,0,false),rfl,QCG,fun h=>by simp at h⟩
 rw[hv] at c1
 have hs:=QBQ hv
 refine rn F ?_
 repeat' (first
  | with_reducible exact⟨⟩
  | refine vp F (c1) ?_)
 refine Qg (fun r:{r:To x.es.length×Int // r.2=(r.1.i:Int)-1}=>⟨47,0,[(5,.int .i64 r.1.2),(2,.ptr 1 0),(1,.ptr 0 0)],[⟨34,true,x.c⟩,⟨238,true,Zc⟩]⟩) (fun r=>r.1.1.i) ⟨(⟨x.es.length,Jz _⟩,(x.es.length:Int)-1),rfl⟩ (gc [0,1]) ?_
 rintro⟨⟨⟨k,hk⟩,j⟩,hj⟩
 dsimp only at hj |-
 unfold Zc
 by_cases h0:k=0
 ·subst h0
  have hj2:¬ j >= 0:=by omega
  have F:=@hj2
  refine rn F ?_
  exact⟨rfl,rfl,(Cp0,0,false),rfl,QCG,fun h=>by simp at h⟩
 obtain⟨i,rfl⟩:∃ i,k=i+1:=⟨k-1,by omega⟩
 obtain rfl:j=(i:Int):=by omega
 have hg:=Qma x.es i (by omega)
 have hb:=hs i (by omega)
 have c2:=Qvg (x.es.getD i E0).blob (by omega)
 have F:=@hg
 refine rn F ?_
 repeat' (first
  | with_reducible exact⟨⟩
  | (refine sB F ?_ ?_<;>intro hZ)
  | (refine Ql (c2) rfl ?_; rintro⟨c,e⟩ hc; refine rn F ?_)
  | (refine Qc (id:=9) [0,1,2,3,4,5,6] [⟨[],[],7,[1,2,3,4,5,6],[]⟩,⟨[],[],8,[],[]⟩,⟨[],[],9,[],[]⟩] (by kernel_rfl) (by kernel_rfl) ?_; refine rn F ?_))
 all_goals first
  | exact⟨⟨(⟨i,by omega⟩,(i:Int)-1),rfl⟩,by dsimp only; omega,(gc [0,1])⟩
  | exact⟨rfl,rfl,(c,_,true),rfl,⟨hc.1,hc.2.1,hc.2.2.1⟩,fun _=>⟨i,by omega,by first | assumption | omega,rfl,hc.2.2.2 (by first | assumption | (dsimp only; omega))⟩⟩
  | skip
def DyA(l:List Dt)(e:E)(ch:Bool)(y:Dt):Prop:=(y∈l/\y.pg≠e.c.pg)\/(y.pg=e.c.pg/\ch=true/\y.last=e.lsn)\/(y.pg=e.c.pg/\ch=false/\∃ z∈l,z.pg=e.c.pg/\z.last=y.last/\e.ref<z.last)
structure DyP(l:List Dt)(e:E)(ch:Bool)(i:Nat)(d:Bool)(out:List Dt):Prop where
 ha:∀ y∈out,DyA l e ch y
 hb:∀ y∈l.take i,y.pg≠e.c.pg->y∈out
 hc:d=true->ch=true->∃ y∈out,y.pg=e.c.pg
def DyP.ap(h:DyP l e ch i d out)(hi:i<l.length)(d':Bool)(ys:List Dt)(hA:∀ y∈ys,DyA l e ch y)(hx:(l.getD i Dt0).pg≠e.c.pg->l.getD i Dt0∈ys)(hd:d'=true->ch=true->d=true\/∃ y∈ys,y.pg=e.c.pg):DyP l e ch (i+1) d' (out++ys):=by
 refine⟨fun y hy=>?_,fun y hy hn=>?_,fun a b=>?_⟩
 ·rcases Jh.1 hy with hy | hy
  ·exact h.ha y hy
  ·exact hA y hy
 ·rw [Jn hi] at hy
  rcases Jh.1 hy with hy | hy
  ·exact Jj _ (h.hb y hy hn)
  ·rw [Jg.1 hy] at hn |-
   rw[Qd _ _ hi] at hx
   exact JS _ (hx hn)
 ·rcases hd a b with q | ⟨y,q1,q2⟩
  ·obtain ⟨y,q1,q2⟩:=h.hc q b
   exact⟨y,Jj _ q1,q2⟩
  ·exact⟨y,JS _ q1,q2⟩
def DyP.p0(h:DyP l e ch i d out)(hi:i<l.length)(d':Bool)(hx:(l.getD i Dt0).pg=e.c.pg)(hc:ch=false):DyP l e ch (i+1) d' out:=by
 have:=h.ap hi d' [] (fun y hy=>by simp at hy) (fun q=>absurd hx q) (fun _ b=>by rw[hc] at b; cases b)
 rwa [Jv] at this
def DyP.p1(h:DyP l e ch i d out)(hi:i<l.length)(d':Bool)(y:Dt)(hA:DyA l e ch y)(hx:(l.getD i Dt0).pg≠e.c.pg->l.getD i Dt0=y)(hd:d'=true->ch=true->d=true\/y.pg=e.c.pg):DyP l e ch (i+1) d' (out++[y]):=
 h.ap hi d' [y] (fun z hz=>by rw[Jg.1 hz]; exact hA) (fun q=>by rw[hx q]; simp) fun a b=>(hd a b).imp id fun q=>⟨y,by simp,q⟩
def DyP.p2(h:DyP l e ch i d out)(hi:i<l.length)(y z:Dt)(hA:DyA l e ch y)(hB:DyA l e ch z)(hx:(l.getD i Dt0).pg≠e.c.pg->l.getD i Dt0=z)(hy:y.pg=e.c.pg):DyP l e ch (i+1) true (out++[y]++[z]):=by
 rw[Jl]
 exact h.ap hi true ([y]++[z]) (fun w hw=>by
  rcases Jh.1 hw with hw | hw<;>rw[Jg.1 hw]<;>assumption) (fun q=>by rw[hx q]; simp) fun _ _=>.inr ⟨y,by simp,hy⟩
def QCE(l:List Dt)(e:E)(m:List Dt):Prop:=(¬ (e.kind=1\/e.kind=2)->e.kind≠7->m=l)/\((e.kind=1\/e.kind=2)\/e.kind=7->DyP l e (e.kind==1||e.kind==2) l.length true m)
structure DyS(l:List Dt)(e:E)(ch:Bool) where
 i:Nat
 d:Bool
 out:List Dt
 hi:i<=l.length
 ho:out.length<=i+d.toNat
 hP:DyP l e ch i d out
@[go_sem] def dtL(l:List Dt):DV:=.pv (.sl (fz QcG l))
def Qvd (l:List Dt) (hl:l.length<=1000000) (e:E):VCalls prog 274 [.pv (.sl (fz QcG l)),.agg e.d] [] (Qz dtL fun m=>m.length<=l.length + 1/\QCE l e m):=by
 refine dk Tryz.func274 ?_
 have c1:=Qb9 e
 have hch:(e.kind==1||e.kind==2)=true ↔ e.kind=1\/e.kind=2:=by simp
 unfold QCE
 generalize (e.kind==1||e.kind==2)=ch at *
 cases ch
 ·have hnc:¬ (e.kind = 1\/e.kind = 2):=fun h=>by have:=hch.2 h; cases this
  (unfold Tryz.f274; refine rn trivial ?_)
  refine rn F ?_
  repeat' (first
   | with_reducible exact⟨⟩
   | (refine sB F ?_ ?_<;>intro hZ)
   | refine vp F (c1) ?_)
  all_goals first
   | (refine ⟨rfl,rfl,l,rfl,Kv _,fun _ _=>rfl,fun h=>?_⟩
      rcases h with h | h
      ·exact absurd h hnc
      ·exact absurd h (by assumption))
   | skip
  have h7:e.kind=7:=by assumption
  refine VLoop.nilOwn 5 219 3 rfl ?_
  refine Qg (fun s:DyS l e false=>⟨100,0,[(7,.int .i64 s.i),(6,.bool s.d),(5,.own 1 3 0 s.out.length),(3,.ptr 0 0),(0,.pv (.sl (fz QcG l)))],[⟨44,true,e.d⟩,⟨219,true,cells QcG s.out⟩]⟩) (fun s=>l.length-s.i) ⟨0,false,[],Jd _,Jd _,⟨fun y h=>by simp at h,fun y h=>by simp at h,fun h=>by cases h⟩⟩ (gc [0,1]) ?_
  rintro⟨i,d,out,hi,ho,hP⟩
  dsimp only
  have ho3:out.length<=i+1:=Jq ho (Nat.add_le_add_left (Kf d) i)
  by_cases hil:i<l.length
  rotate_left
  ·have hPl:i = l.length:=by omega
   subst hPl
   have hfin:DyP l e false l.length true out:=⟨hP.ha,hP.hb,fun _ h=>by cases h⟩
   have F:=@hil
   refine rn F ?_
   repeat' (first
    | with_reducible exact⟨⟩
    | (refine sG F ?_ ?_<;>intro hZ)
    | refine vp F (c1) ?_)
   all_goals first
    | exact⟨rfl,rfl,out,rfl,by omega,fun _ h=>absurd h7 h,fun _=>hfin⟩
    | skip
  have hg:=Qeq l i hil
  have hxl:l.getD i Dt0∈l:=by rw[Qd _ _ hil]; exact Jk hil
  have hp0:=fun d' hx=>hP.p0 hil d' hx rfl
  have hp1:=fun d' y hA hx=>hP.p1 hil d' y hA hx fun _ h=>by cases h
  unfold DyA at hp1
  generalize l.getD i Dt0=x at *
  have hb1:(out.length+1)*24<=140737488355328:=Jq (JE 24 (show out.length+1<=1000002 by omega)) (by decide)
  have hb2:(out.length+1+1)*24<=140737488355328:=Jq (JE 24 (show out.length+1+1<=1000003 by omega)) (by decide)
  have ho4:∀ d':Bool,d.toNat<=d'.toNat->out.length<=i+1+d'.toNat:=fun d' h=>by omega
  have ho5:∀ d':Bool,d.toNat<=d'.toNat->∀ y:Dt,(out++[y]).length<=i+1+d'.toNat:=fun d' h y=>by rw[Ja,Jw]; omega
  have hdt:d.toNat<=1:=Kf d
  by_cases hs:x.pg=e.c.pg
  ·by_cases hr:e.ref >= x.last
   ·skip
    have F:=(Jb @hil (Jb @hg (Jb @hb1 (Jb @hb2 (Jb @hs @hr)))))
    refine rn F ?_
    repeat' (first
     | with_reducible exact⟨⟩
     | refine vp F (c1) ?_)
    all_goals exact⟨⟨i+1,true,out,by omega,ho4 true hdt,hp0 true hs⟩,by dsimp only; omega,(gc [0,1])⟩
   ·have hlt:e.ref < x.last:=by omega
    have F:=(Jb @hil (Jb @hg (Jb @hb1 (Jb @hb2 (Jb @hs @hr)))))
    refine rn F ?_
    repeat' (first
     | with_reducible exact⟨⟩
     | (refine sB F ?_ ?_<;>intro hZ)
     | refine vp F (c1) ?_)
    all_goals first
     | (refine⟨⟨i+1,true,out++[⟨e.c.pg,IntKind.i64.wrap (e.ref+1),x.last⟩],by omega,ho5 true hdt _,hp1 true _ (.inr (.inr ⟨rfl,rfl,x,hxl,hs,rfl,hlt⟩)) (fun h=>absurd hs h)⟩,by dsimp only; omega,?_⟩; dsimp only; rw[Ja]; exact(gc [0,4]))
     | (refine⟨⟨i+1,true,out++[⟨x.pg,IntKind.i64.wrap (e.ref+1),x.last⟩],by omega,ho5 true hdt _,hp1 true _ (.inr (.inr ⟨hs,rfl,x,hxl,hs,rfl,hlt⟩)) (fun h=>absurd hs h)⟩,by dsimp only; omega,?_⟩; dsimp only; rw[Ja]; exact(gc [0,4]))
     | (refine⟨⟨i+1,true,out++[⟨e.c.pg,x.rc,x.last⟩],by omega,ho5 true hdt _,hp1 true _ (.inr (.inr ⟨rfl,rfl,x,hxl,hs,rfl,hlt⟩)) (fun h=>absurd hs h)⟩,by dsimp only; omega,?_⟩; dsimp only; rw[Ja]; exact(gc [0,4]))
     | (refine⟨⟨i+1,true,out++[⟨x.pg,x.rc,x.last⟩],by omega,ho5 true hdt _,hp1 true _ (.inr (.inr ⟨hs,rfl,x,hxl,hs,rfl,hlt⟩)) (fun h=>absurd hs h)⟩,by dsimp only; omega,?_⟩; dsimp only; rw[Ja]; exact(gc [0,4]))
     | skip
  ·cases d
   ·skip
    have F:=(Jb @hil (Jb @hg (Jb @hb1 (Jb @hb2 @hs))))
    refine rn F ?_
    repeat' (first
     | with_reducible exact⟨⟩
     | (refine sG F ?_ ?_<;>intro hZ)
     | refine vp F (c1) ?_)
    all_goals
     refine⟨⟨i+1,false,out++[⟨x.pg,x.rc,x.last⟩],by omega,ho5 false (Jz _) _,hp1 false _ (.inl ⟨hxl,hs⟩) (fun _=>rfl)⟩,by dsimp only; omega,?_⟩
     dsimp only
     rw[Ja]
     exact(gc [0,4])
   ·skip
    have F:=(Jb @hil (Jb @hg (Jb @hb1 (Jb @hb2 @hs))))
    refine rn F ?_
    repeat' (first
     | with_reducible exact⟨⟩
     | (refine sG F ?_ ?_<;>intro hZ))
    all_goals
     refine⟨⟨i+1,true,out++[⟨x.pg,x.rc,x.last⟩],by omega,ho5 true (Jz _) _,hp1 true _ (.inl ⟨hxl,hs⟩) (fun _=>rfl)⟩,by dsimp only; omega,?_⟩
     dsimp only
     rw[Ja]
     exact(gc [0,4])
 have hc:e.kind=1\/e.kind=2:=hch.1 rfl
 (unfold Tryz.f274; refine rn trivial ?_)
 have F:=trivial
 refine rn F ?_
 repeat' (first
  | with_reducible exact⟨⟩
  | refine vp F (c1) ?_)
 refine VLoop.nilOwn 5 219 3 rfl ?_
 refine Qg (fun s:DyS l e true=>⟨100,0,[(7,.int .i64 s.i),(6,.bool s.d),(5,.own 1 3 0 s.out.length),(3,.ptr 0 0),(0,.pv (.sl (fz QcG l)))],[⟨44,true,e.d⟩,⟨219,true,cells QcG s.out⟩]⟩) (fun s=>l.length-s.i) ⟨0,false,[],Jd _,Jd _,⟨fun y h=>by simp at h,fun y h=>by simp at h,fun h=>by cases h⟩⟩ (gc [0,1]) ?_
 rintro⟨i,d,out,hi,ho,hP⟩
 dsimp only
 have hdt:d.toNat<=1:=Kf d
 have ho3:out.length<=i+1:=by omega
 have hb1:(out.length+1)*24<=140737488355328:=Jq (JE 24 (show out.length+1<=1000002 by omega)) (by decide)
 have hb2:(out.length+1+1)*24<=140737488355328:=Jq (JE 24 (show out.length+1+1<=1000003 by omega)) (by decide)
 by_cases hil:i<l.length
 rotate_left
 ·have hPl:i = l.length:=by omega
  subst hPl
  cases d
  ·have hfin:DyP l e true l.length true (out ++ [⟨e.c.pg,e.lsn,e.lsn⟩]):=⟨fun y hy=>by
    rcases Jh.1 hy with hy | hy
    ·exact hP.ha y hy
    ·rw[Jg.1 hy]; exact .inr (.inl ⟨rfl,rfl,rfl⟩),fun y hy hn=>Jj _ (hP.hb y hy hn),fun _ _=>⟨⟨e.c.pg,e.lsn,e.lsn⟩,by simp,rfl⟩⟩
   rw[Kj] at ho
   have F:=(Jb @hil @hb1)
   refine rn F ?_
   repeat' (first
    | with_reducible exact⟨⟩
    | refine vp F (c1) ?_)
   exact⟨rfl,rfl,_,rfl,by rw[Ja,Jw]; omega,fun h=>absurd hc h,fun _=>hfin⟩
  ·skip
   have F:=(Jb @hil @hb1)
   refine rn F ?_
   exact⟨rfl,rfl,out,rfl,by omega,fun h=>absurd hc h,fun _=>hP⟩
 have hg:=Qeq l i hil
 have hxl:l.getD i Dt0∈l:=by rw[Qd _ _ hil]; exact Jk hil
 have hp1:=fun d' y hA hx hd=>hP.p1 hil d' y hA hx hd
 have hp2:=fun y z hA hB hx hy=>hP.p2 hil y z hA hB hx hy
 unfold DyA at hp1 hp2
 generalize l.getD i Dt0=x at *
 by_cases hs:x.pg=e.c.pg
 ·have hng:¬ x.pg > e.c.pg:=by omega
  have F:=(Jb @hil (Jb @hg (Jb @hb1 (Jb @hb2 (Jb @hs @hng)))))
  refine rn F ?_
  repeat' (first
   | with_reducible exact⟨⟩
   | refine vp F (c1) ?_)
  all_goals first
   | (refine⟨⟨i+1,true,out++[⟨e.c.pg,x.rc,e.lsn⟩],by omega,by simp; omega,hp1 true _ (.inr (.inl ⟨rfl,rfl,rfl⟩)) (fun h=>absurd hs h) (fun _ _=>.inr rfl)⟩,by dsimp only; omega,?_⟩; dsimp only; rw[Ja]; exact(gc [0,4]))
   | (refine⟨⟨i+1,true,out++[⟨x.pg,x.rc,e.lsn⟩],by omega,by simp; omega,hp1 true _ (.inr (.inl ⟨hs,rfl,rfl⟩)) (fun h=>absurd hs h) (fun _ _=>.inr hs)⟩,by dsimp only; omega,?_⟩; dsimp only; rw[Ja]; exact(gc [0,4]))
   | (exfalso; omega)
   | skip
 ·cases d
  ·by_cases hgt:x.pg > e.c.pg
   ·rw [Kj] at ho
    have F:=(Jb @hil (Jb @hg (Jb @hb1 (Jb @hb2 (Jb @hs @hgt)))))
    refine rn F ?_
    repeat' (first
     | with_reducible exact⟨⟩
     | refine vp F (c1) ?_)
    refine⟨⟨i+1,true,out++[⟨e.c.pg,e.lsn,e.lsn⟩]++[⟨x.pg,x.rc,x.last⟩],by omega,by simp; omega,hp2 _ _ (.inr (.inl ⟨rfl,rfl,rfl⟩)) (.inl ⟨hxl,hs⟩) (fun _=>rfl) rfl⟩,by dsimp only; omega,?_⟩
    dsimp only; rw[Ja,Ja]; exact(gc [0,6])
   ·skip
    have F:=(Jb @hil (Jb @hg (Jb @hb1 (Jb @hb2 (Jb @hs @hgt)))))
    refine rn F ?_
    refine⟨⟨i+1,false,out++[⟨x.pg,x.rc,x.last⟩],by omega,by rw[Ja,Jw]; omega,hp1 false _ (.inl ⟨hxl,hs⟩) (fun _=>rfl) (fun h=>by cases h)⟩,by dsimp only; omega,?_⟩
    dsimp only; rw[Ja]; exact(gc [0,4])
  ·skip
   have F:=(Jb @hil (Jb @hg (Jb @hb1 (Jb @hb2 @hs))))
   refine rn F ?_
   repeat' (first
    | with_reducible exact⟨⟩
    | (refine sG F ?_ ?_<;>intro hZ))
   all_goals
    refine⟨⟨i+1,true,out++[⟨x.pg,x.rc,x.last⟩],by omega,by rw[Ja,Jw]; omega,hp1 true _ (.inl ⟨hxl,hs⟩) (fun _=>rfl) (fun _ _=>.inl rfl)⟩,by dsimp only; omega,?_⟩
    dsimp only
    rw[Ja]
    exact(gc [0,4])
def Qq8(a b:Gr):VCalls prog 279 [.agg a.d,.agg b.d] [] (Qz boD fun _=>True):=by
 refine dd Tryz.func279 ?_
 (unfold Tryz.f279; refine rn trivial ?_)
 refine rn F ?_
 repeat' (first
  | with_reducible exact⟨⟩
  | (refine sB F ?_ ?_<;>intro hZ))
 all_goals exact⟨rfl,rfl,_,rfl,trivial⟩
@[go_sem] def grL(l:List Gr):DV:=.pv (.sl (fz Qak l))
def QqK(l:List Gr)(hl:l.length<=10000000)(g:Gr):VCalls prog 275 [.pv (.sl (fz Qak l)),.agg g.d] [] (Qz grL fun m=>m.length<=l.length+1):=by
 refine dk Tryz.func275 ?_
 have c1:=fun a=>Qq8 a g
 (unfold Tryz.f275; refine rn trivial ?_)
 refine Qg (fun s:To l.length=>⟨44,0,[(5,.int .i64 s.i),(3,.ptr 0 0),(0,.pv (.sl (fz Qak l)))],[⟨248,true,g.d⟩]⟩) (fun s=>l.length-s.i) ⟨0,Jd _⟩ (gc [0]) ?_
 rintro⟨i,hi⟩
 dsimp only
 have hg:=fun h:i<l.length=>Qax l i h
 by_cases hil:i<l.length
 ·have hg:=Qax l i hil
  have c2:=Qq8 (l.getD i Gr0) g
  generalize l.getD i Gr0=x at *
  have he:=QtE x.tx x.pg x.sl x.md g.tx g.pg g.sl g.md
  have hb:(i+1+(l.length-i))*32<=140737488355328:=by omega
  have F:=(Jb @hg (Jb @he @hb))
  refine rn F ?_
  repeat' (first
   | with_reducible exact⟨⟩
   | (refine sB F ?_ ?_<;>intro hZ)
   | (refine Ql (c2) rfl ?_; rintro b -; refine rn F ?_)
   | (refine Qc (id:=2) [0,1,2,3,4,5,6,7,8,9] [⟨[],[],10,[0,1,2,3,5,6,7],[11]⟩] (by kernel_rfl) (by kernel_rfl) ?_; refine rn F ?_)
   | (refine Qc (id:=4) [0,1,2,3,4,5,6,7,8,9,10,11] [] (by kernel_rfl) (by kernel_rfl) ?_; refine rn F ?_)
   | (refine Qc (id:=6) [0,1,2,4,7,8,9] [⟨[5],[],3,[0,1,4,7,8,9],[]⟩,⟨[5],[5],6,[0,1,2,4,7,8,9],[]⟩,⟨[],[],10,[0,1,2,4,7,8],[]⟩,⟨[],[],11,[],[]⟩] (by kernel_rfl) (by kernel_rfl) ?_; refine rn F ?_))
  all_goals first
   | exact⟨⟨i+1,by omega⟩,by dsimp only; omega,(gc [0])⟩
   | exact⟨rfl,rfl,l,rfl,Kv _⟩
   | exact⟨rfl,rfl,_,rfl,by simp; omega⟩
   | skip
 ·skip
  have F:=trivial
  refine rn F ?_
  repeat' (first
   | with_reducible exact⟨⟩
   | (refine Qc (id:=2) [0,1,2,3,4,5,6,7,8,9] [⟨[],[],10,[0,1,2,3,5,6,7],[11]⟩] (by kernel_rfl) (by kernel_rfl) ?_; refine rn F ?_)
   | (refine Qc (id:=4) [0,1,2,3,4,5,6,7,8,9,10,11] [] (by kernel_rfl) (by kernel_rfl) ?_; refine rn F ?_)
   | (refine Qc (id:=6) [0,1,2,4,7,8,9] [⟨[5],[],3,[0,1,4,7,8,9],[]⟩,⟨[5],[5],6,[0,1,2,4,7,8,9],[]⟩,⟨[],[],10,[0,1,2,4,7,8],[]⟩,⟨[],[],11,[],[]⟩] (by kernel_rfl) (by kernel_rfl) ?_; refine rn F ?_))
  exact⟨rfl,rfl,_,rfl,by simp; omega⟩
@[go_sem] def lkR(a:List Gr×Int):DV:=.tup [.pv (.sl (fz Qak a.1)),.int .i64 a.2]
structure LkO(n:Nat) where
 i:Nat
 out:List Gr
 hi:i<=n
 ho:out.length<=100000*i
structure LkI(n i:Nat) where
 k:Nat
 out:List Gr
 hk:k<=n
 ho:out.length<=100000*i+k
def QuZ(x:Lg)(hx:x.es.length<=1000000)(l:List Tx)(hl:smN 65 l):VCalls prog 244 [.agg x.c,.pv (.sl (fz Qaf l))] [] (Qz lkR fun a=>a.1.length<=6500000):=by
 refine dk Tryz.func244 ?_
 have h65:=hl.1
 (unfold Tryz.f244; refine rn trivial ?_)
 refine VLoop.wkS ?_
 refine rn trivial ?_
 refine Qg (fun s:LkO l.length=>⟨68,0,[(7,.int .i64 s.i),(6,.pv (.sl (fz Qak s.out))),(2,.ptr 0 0),(1,.pv (.sl (fz Qaf l)))],[⟨34,true,x.c⟩]⟩) (fun s=>l.length-s.i) ⟨0,[],Jd _,Jd _⟩ (gc [0]) ?_
 rintro⟨i,out,hi,ho⟩
 dsimp only
 by_cases hil:i<l.length
 rotate_left
 ·skip
  refine rn F ?_
  exact⟨rfl,rfl,(out,0),rfl,by dsimp only; omega⟩
 have hg:=QdO l i hil
 have hss:(l.getD i Tx0).l.length<=100000:=by rw[Qd _ _ hil]; exact(hl.2 _ (Jk hil)).1
 generalize l.getD i Tx0=t at *
 refine rn F ?_
 refine Qg (fun s:LkI t.l.length i=>⟨68,0,[(8,.int .i64 s.k),(7,.int .i64 i),(6,.pv (.sl (fz Qak s.out))),(2,.ptr 0 0),(1,.pv (.sl (fz Qaf l)))],[⟨34,true,x.c⟩]⟩) (fun s=>t.l.length-s.k) ⟨0,out,Jd _,ho⟩ (gc [0]) ?_
 rintro⟨k,out2,hk,ho2⟩
 dsimp only
 by_cases hkl:k<t.l.length
 rotate_left
 ·skip
  have F:=@hg
  refine rn F ?_
  exact⟨⟨i+1,out2,hil,by rw[Nat.mul_succ]; omega⟩,by dsimp only; omega,(gc [0])⟩
 have hg2:=Q0 t.l k hkl
 have c1:=QhK x (by omega) (t.l.getD k 0)
 generalize Qbj x (t.l.getD k 0)=r at *
 obtain⟨e,f⟩:=r
 dsimp only at c1
 have c2:=QqK out2 (by omega) ⟨e.tx,e.c.pg,e.c.sl,2⟩
 have F:=(Jb @hg @hg2)
 refine rn F ?_
 repeat' (first
  | with_reducible exact⟨⟩
  | (refine sG F ?_ ?_<;>intro hZ)
  | (refine sB F ?_ ?_<;>intro hZ)
  | refine vp F (c1) ?_
  | (refine Ql (c2) rfl ?_; rintro m hm; refine rn F ?_)
  | (refine Qc (id:=8) [0,1,2,3,4,5,6,7,8] [⟨[13],[],9,[1,2,3,4,5,6,7],[10,11,12]⟩,⟨[13],[13],14,[12],[]⟩,⟨[],[],15,[],[]⟩] (by kernel_rfl) (by kernel_rfl) ?_; refine rn F ?_)
  | (refine Qc (id:=11) [0,1,2,3,4,5,6,7,8,9,10,11,12] [] (by kernel_rfl) (by kernel_rfl) ?_; refine rn F ?_))
 all_goals first
  | exact⟨rfl,rfl,([],_),rfl,Jd _⟩
  | exact⟨⟨k+1,m,hkl,by omega⟩,by dsimp only; omega,(gc [0])⟩
  | skip
structure An where
 pg:Int
 nx:Int
 cp:Int
 lo:List Tx
 lk:List Gr
 la:List Dt
 ix:List Rw
@[go_sem] def An.d(a:An):List DV:=[.int .i64 a.pg,.int .i64 a.nx,.int .i64 a.cp,.pv (.sl (fz Qaf a.lo)),.pv (.sl (fz Qak a.lk)),.pv (.sl (fz QcG a.la)),.pv (.sl (fz Qb2 a.ix))]
def An0:An:=⟨0,0,0,[],[],[],[]⟩
def An.sm(a:An)(n:Nat):Prop:=smN 65 a.lo/\a.lk.length<=6500000/\a.la.length<=n/\a.ix.length<=64
def QtN(n:Nat):An0.sm n:=⟨QV _,Jd _,Jd _,Jd _⟩
@[go_sem] def anD(a:An×Int):DV:=.tup [.agg a.1.d,.int .i64 a.2]
def QcV(h:(QT l e).2=0):Qbm l=true/\e.okB=true:=by
 unfold QT at h
 split at h
 ·simp at h
 rename_i q1
 split at h
 ·simp at h
 rename_i q2
 exact⟨by simpa using q1,by simpa using q2⟩
def QrS{e:E}(h:e.okB=true):0<=e.tx/\e.tx<=1073741824:=by
 unfold E.okB at h
 rw[Jf] at h
 have h2:=h.2
 unfold E.kindB txB at h2
 split at h2
 ·simp only[Jf,decide_eq_true_eq] at h2; omega
 split at h2
 ·simp only[Jf,decide_eq_true_eq] at h2; omega
 split at h2
 ·simp only[Jf,decide_eq_true_eq] at h2; omega
 split at h2
 ·simp only[Jf,beq_iff_eq] at h2; omega
 split at h2
 ·simp only[Jf,beq_iff_eq] at h2; omega
 ·cases h2
def QwW(h:(QT l e).2=0)(n:Int):(if IntKind.i64.wrap (e.tx+1) > n then IntKind.i64.wrap (e.tx+1) else n)=max n (e.tx+1):=by
 have:=QrS (QcV h).2
 have hw:IntKind.i64.wrap (e.tx+1)=e.tx+1:=by rw[IntKind.wrap_i64]; omega
 rw[hw]
 split<;>omega
def NoteR(a:An)(e:E)(b:An):Prop:=b.pg=a.pg/\b.cp=a.cp/\b.nx=max a.nx (e.tx+1) /\
 ((¬ (0<e.tx/\idT a.lo e.tx<0)/\(QT a.lo e).2=0/\b.lo=(QT a.lo e).1)\/((0<e.tx/\idT a.lo e.tx<0)/\(Q9 a.lo e.tx).2=0/\(QT (Q9 a.lo e.tx).1 e).2=0/\b.lo=(QT (Q9 a.lo e.tx).1 e).1)) /\
 (Qbi a.ix e).2=0/\b.ix=(Qbi a.ix e).1/\((e.kind=1\/e.kind=2)->e.c.pg<a.pg)/\QCE a.la e b.la
def QBI{a:An}{e:E}(q1:¬ (0<e.tx/\idT a.lo e.tx<0))(q2:(QT a.lo e).2=0)(q3:(Qbi a.ix e).2=0)(q4:(e.kind=1\/e.kind=2)->e.c.pg<a.pg)(la:List Dt)(q5:QCE a.la e la)(x:Int)(q6:x=if IntKind.i64.wrap (e.tx+1) > a.nx then IntKind.i64.wrap (e.tx+1) else a.nx):NoteR a e ⟨a.pg,x,a.cp,(QT a.lo e).1,a.lk,la,(Qbi a.ix e).1⟩:=
 ⟨rfl,rfl,q6.trans (QwW q2 _),.inl ⟨q1,q2,rfl⟩,q3,rfl,q4,q5⟩
def QBH{a:An}{e:E}(q1:0<e.tx/\idT a.lo e.tx<0)(q0:(Q9 a.lo e.tx).2=0)(q2:(QT (Q9 a.lo e.tx).1 e).2=0)(q3:(Qbi a.ix e).2=0)(q4:(e.kind=1\/e.kind=2)->e.c.pg<a.pg)(la:List Dt)(q5:QCE a.la e la)(x:Int)(q6:x=if IntKind.i64.wrap (e.tx+1) > a.nx then IntKind.i64.wrap (e.tx+1) else a.nx):NoteR a e ⟨a.pg,x,a.cp,(QT (Q9 a.lo e.tx).1 e).1,a.lk,la,(Qbi a.ix e).1⟩:=
 ⟨rfl,rfl,q6.trans (QwW q2 _),.inr ⟨q1,q0,q2,rfl⟩,q3,rfl,q4,q5⟩
def QBJ(a:An)(n:Nat)(e:E)(r:An×Int):Prop:=r.1.sm (n+1)/\(r.2=0->NoteR a e r.1)
def Qq4(a:An)(n:Nat)(hn:n<=100000)(ha:a.sm n)(e:E):VCalls prog 243 [.agg a.d,.agg e.d] [] (Qz anD (QBJ a n e)):=by
 refine dk Tryz.func243 ?_
 obtain⟨h1,h2,h3,h4⟩:=ha
 have hl:=h1.1
 have c1:=QbX a.lo (by omega) e.tx
 have c2:=QmY a.lo (h1.smL (by omega)) e.tx
 have c3:=QlI a.lo (h1.smL (by omega)) e
 have hs2:=QkX (l:=a.lo) e.tx
 have hs3:=QiQ (l:=a.lo) e
 have c4:=QlI (Q9 a.lo e.tx).1 (hs2.smL (by omega)) e
 have hs4:=QiQ (l:=(Q9 a.lo e.tx).1) e
 have c5:=QjZ a.ix (by omega) e
 have h5:=Qkm a.ix e h4
 have c6:=Qb9 e
 have c7:=Qvd a.la (by omega) e
 have k1:=@QBI a e
 have k2:=@QBH a e
 have hch:(e.kind==1||e.kind==2)=true ↔ e.kind=1\/e.kind=2:=by simp
 generalize QT (Q9 a.lo e.tx).1 e=N2 at *
 generalize Q9 a.lo e.tx=B at *
 generalize QT a.lo e=N1 at *
 generalize Qbi a.ix e=R at *
 generalize (e.kind==1||e.kind==2)=ch at *
 generalize idT a.lo e.tx=f at *
 obtain⟨b,eb⟩:=B
 obtain⟨n1,e1⟩:=N1
 obtain⟨n2,e2⟩:=N2
 obtain⟨r,er⟩:=R
 dsimp only at *
 have old:∀ z,z≠0->Qz anD (QBJ a n e) (anD (a,z)) []:=fun z hz=>⟨rfl,rfl,(a,z),rfl,⟨h1,h2,by dsimp only; omega,h4⟩,fun h=>absurd h hz⟩
 (unfold Tryz.f243; refine rn trivial ?_)
 refine rn F ?_
 repeat' (first
  | with_reducible exact⟨⟩
  | (refine sG F ?_ ?_<;>intro hZ)
  | (refine sB F ?_ ?_<;>intro hZ)
  | refine vp F (c1) ?_
  | refine vp F (c2) ?_
  | refine vp F (c3) ?_
  | refine vp F (c4) ?_
  | refine vp F (c5) ?_
  | refine vp F (c6) ?_
  | (refine Ql (c7) rfl ?_; rintro la hla; refine rn F ?_))
 all_goals first
  | exact old _ (by first | assumption | decide)
  | exact⟨rfl,rfl,(⟨a.pg,_,a.cp,b,a.lk,a.la,a.ix⟩,_),rfl,⟨hs2,h2,by dsimp only; omega,h4⟩,fun h=>absurd h (by first | assumption | (dsimp only; assumption) | (dsimp only; decide))⟩
  | exact⟨rfl,rfl,(⟨a.pg,_,a.cp,n1,a.lk,a.la,a.ix⟩,_),rfl,⟨hs3,h2,by dsimp only; omega,h4⟩,fun h=>absurd h (by first | assumption | (dsimp only; assumption) | (dsimp only; decide))⟩
  | exact⟨rfl,rfl,(⟨a.pg,_,a.cp,n1,a.lk,a.la,r⟩,_),rfl,⟨hs3,h2,by dsimp only; omega,h5⟩,fun h=>absurd h (by first | assumption | (dsimp only; assumption) | (dsimp only; decide))⟩
  | exact⟨rfl,rfl,(⟨a.pg,_,a.cp,n2,a.lk,a.la,a.ix⟩,_),rfl,⟨hs4,h2,by dsimp only; omega,h4⟩,fun h=>absurd h (by first | assumption | (dsimp only; assumption) | (dsimp only; decide))⟩
  | exact⟨rfl,rfl,(⟨a.pg,_,a.cp,n2,a.lk,a.la,r⟩,_),rfl,⟨hs4,h2,by dsimp only; omega,h5⟩,fun h=>absurd h (by first | assumption | (dsimp only; assumption) | (dsimp only; decide))⟩
  | skip
 all_goals
  have h4c:(e.kind=1\/e.kind=2)->e.c.pg<a.pg:=fun h=>by
   have hc1:=hch.2 h
   first
    | assumption
    | (exfalso; simp_all; done)
  first
   | exact⟨rfl,rfl,(⟨a.pg,_,a.cp,n1,a.lk,la,r⟩,_),rfl,⟨hs3,h2,Jq hla.1 (J3 h3),h5⟩,fun _=>k1 (by omega) (by omega) (by omega) h4c la hla.2 _ rfl⟩
   | exact⟨rfl,rfl,(⟨a.pg,_,a.cp,n2,a.lk,la,r⟩,_),rfl,⟨hs4,h2,Jq hla.1 (J3 h3),h5⟩,fun _=>k2 (by omega) (by omega) (by omega) (by omega) h4c la hla.2 _ rfl⟩
def QEi(x:Lg)(n:Int)(a:An):Prop:=a.pg=n/\((x.f<=1/\a.nx=1/\a.cp=0/\a.lo=[]/\a.la=[]/\a.ix=Kc n.toNat Rw0) \/
 ∃ i,i<x.es.length/\(x.es.getD i E0).kind=6/\a.cp=(x.es.getD i E0).lsn/\(x.es.getD i E0).blob≠[]/\∀ c,CkV c->(x.es.getD i E0).blob=QaC c->c.pg=n/\a.nx=c.nx/\a.lo=c.tx/\a.la=c.dl/\a.ix=c.ix)
def QER(x:Lg)(n:Int)(r:An×Int):Prop:=r.1.sm 256/\(r.2=0->QEi x n r.1)
def Qoj (x:Lg) (hx:x.es.length<=1000000) (n:Int) (hn:1<=n/\n<=64):VCalls prog 242 [.agg x.c,.int .i64 n] [] (Qz anD (QER x n)):=by
 refine dk Tryz.func242 ?_
 have c1:=Qq9 x hx
 have c2:=QmQ n
 (unfold Tryz.f242; refine rn trivial ?_)
 refine rn F ?_
 repeat' (first
  | with_reducible exact⟨⟩
  | (refine sB F ?_ ?_<;>intro hZ)
  | (refine Ql (c1) rfl ?_; rintro⟨c,at_,ok⟩ hc; refine rn F ?_)
  | (refine Ql (c2) rfl ?_; rintro⟨ix,e⟩ hi; refine rn F ?_))
 all_goals first
  | exact⟨rfl,rfl,(An0,24),rfl,QtN _,fun h=>by simp at h⟩
  | exact⟨rfl,rfl,(⟨n,1,0,[],[],[],ix⟩,0),rfl,⟨QV _,Jd _,Jd _,hi.1⟩,fun _=>⟨rfl,.inl ⟨by omega,rfl,rfl,rfl,rfl,hi.2.1 (hi.2.2 hn.1 hn.2)⟩⟩⟩
  | (have hl:=hc.2 (by first | assumption | (dsimp only; assumption))
     have hq:=hc.1
     dsimp only at hl hq
     obtain⟨i,l1,l2,l3,l5,l4⟩:=hl
     exact⟨rfl,rfl,(⟨n,c.nx,at_,c.tx,[],c.dl,c.ix⟩,0),rfl,⟨hq.1.mono (by decide),Jd _,hq.2.1,hq.2.2⟩,fun _=>⟨rfl,.inr ⟨i,l1,l2,l3,l5,fun c0 q1 q2=>by
      have:=l4 c0 q1 q2
      subst this
      exact⟨by first | assumption | omega,rfl,rfl,rfl,rfl⟩⟩⟩⟩)
  | skip
section
attribute [local go_sem] Qzd QAN QBd QBc QsG Qfx Qmo QkE QhU Qj0 QhL
inductive AnC (x:Lg) (n:Int):Nat->An->Prop
 | init {a:An}:QEi x n a->AnC x n 0 a
 | skip {i:Nat} {a:An}:AnC x n i a->i<x.es.length->(x.es.getD i E0).lsn<=a.cp->AnC x n (i+1) a
 | note {i:Nat} {a b:An}:AnC x n i a->i<x.es.length->¬ (x.es.getD i E0).lsn<=a.cp->NoteR a (x.es.getD i E0) b->AnC x n (i+1) b
def loF(a:An)(lk:List Gr):An:=⟨a.pg,a.nx,a.cp,a.lo.filter fun t=>decide (0<t.n),lk,a.la,a.ix⟩
def QDQ(x:Lg)(n:Int)(r:An×Int):Prop:=r.1.sm 10000/\(r.2=0->lgB x=true/\(1<=n/\n<=64)/\∃ a lk,AnC x n x.es.length a/\r.1=loF a lk)
structure AnS(x:Lg)(n:Int) where
 i:Nat
 a:An
 hi:i<=x.es.length
 ha:a.sm (256+i)
 hc:AnC x n i a
def flT(l:List Tx)(i:Nat):List Tx:=(l.take i).filter fun t=>decide (0<t.n)
def Qv3(l:List Tx)(i:Nat)(h:i<l.length):flT l (i+1)=if 0<(l.getD i Tx0).n then flT l i++[l.getD i Tx0] else flT l i:=by
 unfold flT
 rw[Jn h,JY,Qd l i h]
 split<;>rename_i hx<;>simp[hx]
structure LoS(l:List Tx) where
 i:Nat
 out:List Tx
 hi:i<=l.length
 ho:out.length<=i
 hs:∀ t∈out,t.ss
 he:out=flT l i
def Za:List DV:=[.int .i64 0,.int .i64 0,.int .i64 0,.pv (.slc []),.pv (.slc []),.pv (.slc []),.pv (.slc [])]
def Qk0(x:Lg)(hx:x.es.length<=4096)(n:Int)(hv:lgB x=true)(hn:1<=n/\n<=64)(a:An)(ha:a.sm 10000)(hc:AnC x n x.es.length a)(out:List Tx)(ho:smN 65 out)(he:out=a.lo.filter fun t=>decide (0<t.n)):VWp prog (QiG 8 (Qmo Tryz.f197)) (QfX prog [ResultVar.cell 4 289,ResultVar.tmp 5] 0 (Qz anD (QDQ x n))) ⟨98,0,[(9,.pv (.sl (fz Qaf out))),(6,.ptr 2 0),(4,.ptr 1 0),(2,.ptr 0 0)],[⟨34,true,x.c⟩,⟨289,true,Za⟩,⟨289,true,a.d⟩]⟩:=by
 refine Qv _ _ _ ?_
 have c4:=QuZ x (by omega) out ho
 unfold Za
 (unfold Tryz.f197; refine rn trivial ?_)
 refine rn F ?_
 repeat' (first
  | with_reducible exact⟨⟩
  | (refine sB F ?_ ?_<;>intro hZ)
  | (refine Ql (c4) rfl ?_; rintro⟨lk,e⟩ hlk; refine rn F ?_))
 ·exact⟨rfl,rfl,(An0,_),rfl,QtN _,fun h=>absurd h (by first | assumption | (dsimp only; assumption))⟩
 ·exact⟨rfl,rfl,(⟨a.pg,a.nx,a.cp,out,lk,a.la,a.ix⟩,0),rfl,⟨ho,hlk,ha.2.2.1,ha.2.2.2⟩,fun _=>⟨hv,hn,a,lk,hc,by unfold loF; rw[he]⟩⟩
def Qok(x:Lg)(hx:x.es.length<=4096)(n:Int):VCalls prog 197 [.agg x.c,.int .i64 n] [] (Qz anD (QDQ x n)):=by
 refine QcO (fn:=Tryz.f197) (c:=Qmo Tryz.f197) Tryz.func197 rfl (by kernel_rfl) (by simp[Tryz.f197]) (VWp.postK ?_)
 refine QC9 8 ?_
 have tail:=fun hv hn a ha hc out ho he=>Qk0 x hx n hv hn a ha hc out ho he
 generalize QiG 8 (Qmo Tryz.f197)=rest at *
 have c1:=Qae x (by omega)
 have c2:=fun hn=>Qoj x (by omega) n hn
 have err:∀ z,z≠0->Qz anD (QDQ x n) (anD (An0,z)) []:=fun z hz=>⟨rfl,rfl,(An0,z),rfl,QtN _,fun h=>absurd h hz⟩
 (unfold Tryz.f197; refine rn trivial ?_)
 cases hv:lgB x
 ·rw [hv] at c1
  refine rn F ?_
  repeat' (first
   | with_reducible exact⟨⟩
   | refine vp F (c1) ?_)
  exact err _ (by decide)
 rw[hv] at c1
 by_cases hn:1<=n/\n<=64
 rotate_left
 ·skip
  refine rn F ?_
  repeat' (first
   | with_reducible exact⟨⟩
   | (refine sG F ?_ ?_<;>intro hZ)
   | refine vp F (c1) ?_)
  all_goals first | exact err _ (by decide) | (exfalso; omega)
 refine rn F ?_
 repeat' (first
  | with_reducible exact⟨⟩
  | (refine sB F ?_ ?_<;>intro hZ)
  | refine vp F (c1) ?_
  | (refine Ql (c2 hn) rfl ?_; rintro⟨a0,e0⟩ h0; refine rn F ?_))
 all_goals first | exact err _ (by first | assumption | decide) | (exfalso; omega) | skip
 have h0b:=h0.2 (by first | assumption | (dsimp only; omega))
 replace h0:=h0.1
 dsimp only at h0 h0b
 refine Qg (fun s:AnS x n=>⟨98,0,[(8,.int .i64 s.i),(6,.ptr 2 0),(4,.ptr 1 0),(2,.ptr 0 0)],[⟨34,true,x.c⟩,⟨289,true,Za⟩,⟨289,true,s.a.d⟩]⟩) (fun s=>x.es.length-s.i) ⟨0,a0,Jd _,h0,.init h0b⟩ (gc [0,1,2]) ?_
 rintro⟨i,a,hi,ha,hc⟩
 dsimp only
 unfold Za
 by_cases hil:i<x.es.length
 ·have hg:=Qma x.es i hil
  have c3:=Qq4 a (256+i) (by omega) ha (x.es.getD i E0)
  have hk1:=fun h=>AnC.skip hc hil h
  have hk2:=fun h b hb=>AnC.note (b:=b) hc hil h hb
  generalize x.es.getD i E0=e at *
  have F:=@hg
  refine rn F ?_
  repeat' (first
   | with_reducible exact⟨⟩
   | (refine sB F ?_ ?_<;>intro hZ)
   | (refine Ql (c3) rfl ?_; rintro⟨a1,e1⟩ h1; refine rn F ?_)
   | (refine Qc (id:=11) [0,1,2,3,4,5,6,7,8] [] (by kernel_rfl) (by kernel_rfl) ?_; refine rn F ?_)
   | (refine Qc (id:=12) [0,1,2,3,4,5] [⟨[],[],6,[1,2,3,4],[7,8,9]⟩,⟨[],[],10,[9],[]⟩,⟨[],[],11,[],[]⟩] (by kernel_rfl) (by kernel_rfl) ?_; refine rn F ?_))
  all_goals first
   | exact err _ (by first | assumption | decide)
   | exact⟨⟨i+1,a,hil,⟨ha.1,ha.2.1,Jm ha.2.2.1,ha.2.2.2⟩,hk1 (by omega)⟩,by dsimp only; omega,(gc [0,1,2])⟩
   | exact⟨⟨i+1,a1,hil,h1.1,hk2 (by omega) a1 (h1.2 (by first | assumption | (dsimp only; omega)))⟩,by dsimp only; omega,(gc [0,1,2])⟩
   | skip
 have F:=trivial
 refine rn F ?_
 refine VLoop.nilOwn 9 71 6 rfl ?_
 have hlo:=ha.1.1
 refine Qg (fun s:LoS a.lo=>⟨98,0,[(10,.int .i64 s.i),(9,.own 3 6 0 s.out.length),(6,.ptr 2 0),(4,.ptr 1 0),(2,.ptr 0 0)],[⟨34,true,x.c⟩,⟨289,true,Za⟩,⟨289,true,a.d⟩,⟨71,true,cells Qaf s.out⟩]⟩) (fun s=>a.lo.length-s.i) ⟨0,[],Jd _,Jd _,fun t h=>by simp at h,rfl⟩ (gc [0,1,2,3]) ?_
 rintro⟨k,out,hk,ho,hs,he⟩
 dsimp only
 unfold Za
 by_cases hkl:k<a.lo.length
 ·have hg:=QdO a.lo k hkl
  have hss:(a.lo.getD k Tx0).ss:=by rw[Qd _ _ hkl]; exact ha.1.2 _ (Jk hkl)
  have hb:(out.length+1)*80<=140737488355328:=Jq (JE 80 (show out.length+1<=1000 by omega)) (by decide)
  have hsu:=Qv3 a.lo k hkl
  rw[<- he] at hsu
  generalize a.lo.getD k Tx0=t at *
  have F:=(Jb @hg @hb)
  refine rn F ?_
  repeat' (first
   | with_reducible exact⟨⟩
   | (refine sB F ?_ ?_<;>intro hZ))
  ·have hl2:(out ++ [t]).length = out.length + 1:=by simp
   rw[if_pos (by omega)] at hsu
   refine⟨⟨k+1,out++[t],hkl,by rw[hl2]; omega,fun z hz=>?_,hsu.symm⟩,by dsimp only; omega,?_⟩
   ·rcases Jh.1 hz with h | h
    ·exact hs z h
    ·rw[Jg.1 h]; exact hss
   dsimp only
   rw[hl2]
   exact(gc [0,1,2,5])
  ·rw [if_neg (by omega)] at hsu
   exact⟨⟨k+1,out,hkl,by omega,hs,hsu.symm⟩,by dsimp only; omega,(gc [0,1,2,3])⟩
 have hsm:smN 65 out:=⟨by omega,hs⟩
 have F:=trivial
 refine rn F ?_
 refine⟨⟨98,0,[(9,.pv (.sl (fz Qaf out))),(6,.ptr 2 0),(4,.ptr 1 0),(2,.ptr 0 0)],[⟨34,true,x.c⟩,⟨289,true,Za⟩,⟨289,true,a.d⟩]⟩,.fzN (n:=3) ⟨rfl,rfl,Jd _,by simp,?_,?_⟩,tail hv hn a (by have:=ha; exact⟨this.1,this.2.1,Jq this.2.2.1 (by omega),this.2.2.2⟩) (by rw[show x.es.length=i by omega]; exact hc) out hsm (by rw[he]; unfold flT; rw[Jo (by omega)])⟩
 ·rfl
 ·refine ⟨?_,rfl,rfl,rfl,trivial⟩
  (refine rn trivial ?_; try with_reducible exact⟨⟩)
end
section
attribute [local go_sem] Qa5
structure Rd where
 tx:Int
 pg:Int
 sl:Int
 at_:Int
 cell:Ce
def Qlb:Enc Rd:=⟨6,fun r=>[.lit (.int .i64 r.tx),.lit (.int .i64 r.pg),.lit (.int .i64 r.sl),.lit (.int .i64 r.at_),.lit (.bool r.cell.set),.str r.cell.data],by decide,fun _=>rfl⟩
def QD8(l:List Rd):(cells Qlb l).length=l.length*6:=QZ Qlb l
def QEY(l:List Rd)(n:Nat)(h:l.length*6<=n):(cells Qlb l).take n=cells Qlb l:=by rw[Jo]; rw[QD8]; exact h
def QEM(h:l.length=len):Qmc n hp 0 6 len (some (cells Qlb l))=some (.sl (fz Qlb l)):=QW Qlb h
def QDO(l:List Rd)(a b c d:Int)(x:Bool)(s:List UInt8):cells Qlb l++[.pv (.lit (.int .i64 a)),.pv (.lit (.int .i64 b)),.pv (.lit (.int .i64 c)),.pv (.lit (.int .i64 d)),.pv (.lit (.bool x)),.pv (.str s)]=cells Qlb (l++[⟨a,b,c,d,⟨x,s⟩⟩]):=by rw[QC]; rfl
attribute [go_sem] QD8 QEY QEM QDO
structure Sp where
 kind:Int
 tx:Int
 pg:Int
 torn:Int
 cut:Int
 a:Ac
@[go_sem] def Sp.d(t:Sp):List DV:=[.int .i64 t.kind,.int .i64 t.tx,.int .i64 t.pg,.int .i64 t.torn,.int .i64 t.cut,.int .i64 t.a.kind,.int .i64 t.a.pg,.int .i64 t.a.sl,.pv (.str t.a.data)]
structure Sc where
 s:Sv
 tx:List Int
 rd:List Rd
 dead:Bool
def Sc.sm(c:Sc)(n:Nat):Prop:=c.s.sm/\c.tx.length<=n/\c.rd.length<=n
@[go_sem] def scB(c:Sc)(i j:Nat):Blk:=⟨171,true,c.s.d++[.own i 1 0 c.tx.length,.own j 6 0 c.rd.length,.bool c.dead]⟩
@[go_sem] def scT(l:List Int):Blk:=⟨3,true,cells QR l⟩
@[go_sem] def scR(l:List Rd):Blk:=⟨204,true,cells Qlb l⟩
@[go_sem] def Qta:Blk:=⟨3,false,[]⟩
@[go_sem] def QoO:Blk:=⟨204,false,[]⟩
def ScEnd{α:Type}(f:α->DV)(Q:Nat->Sc->α->Prop):DV->Qa->Prop:=fun r h'=>∃ c a B,r=f a/\(f a).nums (fun _=>false)=true/\((Q 0 c a/\h'=scB c 1 2::scT c.tx::scR c.rd::[B])\/(Q 1 c a/\h'=scB c 3 2::Qta::scR c.rd::scT c.tx::[B])\/(Q 2 c a/\h'=scB c 1 3::scT c.tx::QoO::scR c.rd::[B]))
def ScEnd.mono(h:∀ n c a,Q n c a->Q' n c a):∀ r h',ScEnd f Q r h'->ScEnd f Q' r h'
 | _,_,⟨c,a,B,e1,e2,.inl ⟨q,e⟩⟩=>⟨c,a,B,e1,e2,.inl ⟨h _ _ _ q,e⟩⟩
 | _,_,⟨c,a,B,e1,e2,.inr (.inl ⟨q,e⟩)⟩=>⟨c,a,B,e1,e2,.inr (.inl ⟨h _ _ _ q,e⟩)⟩
 | _,_,⟨c,a,B,e1,e2,.inr (.inr ⟨q,e⟩)⟩=>⟨c,a,B,e1,e2,.inr (.inr ⟨h _ _ _ q,e⟩)⟩
def QjB(k0 k1 k2:Nat)(cc:VCalls P g args0 [scB c 1 2,scT c.tx,scR c.rd] (ScEnd f Q))(hk0:hp[k0]?=some (scB c k1 k2))(hk1:hp[k1]?=some (scT c.tx))(hk2:hp[k2]?=some (scR c.rd))(n01:k0≠k1)(n02:k0≠k2)(n12:k1≠k2)(ha0:args0=args.map (DV.ren fun j=>[k0,k1,k2].idxOf j))(ha:DV.nums.go [k0,k1,k2].contains args=true)(hN:∀ c a,Q 0 c a->∀ B,K (f a) (((hp.set k0 (scB c k1 k2)).set k1 (scT c.tx)).set k2 (scR c.rd)++[B]))(hT:∀ c a,Q 1 c a->∀ B,K (f a) (((hp.set k0 (scB c hp.length k2)).set k1 Qta).set k2 (scR c.rd)++scT c.tx::[B]))(hR:∀ c a,Q 2 c a->∀ B,K (f a) (((hp.set k0 (scB c k1 hp.length)).set k1 (scT c.tx)).set k2 QoO++scR c.rd::[B])):VCalls P g args hp K:=by
 have l0:k0<hp.length:=(JK.1 hk0).1
 have l1:k1<hp.length:=(JK.1 hk1).1
 have l2:k2<hp.length:=(JK.1 hk2).1
 have q1:(k0==k1)=false:=by simp[n01]
 have q2:(k0==k2)=false:=by simp[n02]
 have q3:(k1==k2)=false:=by simp[n12]
 have rt:∀ (σ:Nat->Nat) l,Qdx σ (scT l)=scT l:=fun σ l=>QaF (Qs _ _ _)
 have rr:∀ (σ:Nat->Nat) l,Qdx σ (scR l)=scR l:=fun σ l=>QaF (Qs _ _ _)
 have rs:∀ (σ:Nat->Nat) (c:Sc) i j,Qdx σ (scB c i j)=scB c (σ i) (σ j):=fun σ c i j=>rfl
 have i0:[k0,k1,k2].idxOf k0=0:=by simp
 have i1:[k0,k1,k2].idxOf k1=1:=by simp[Ko,q1]
 have i2:[k0,k1,k2].idxOf k2=2:=by simp[Ko,q2,q3]
 refine(VCalls.frame [k0,k1,k2] (by simp[n01,n02,n12]) ?_ ?_ cc ha0 ha).mono ?_
 ·simp only[Qr9,Kg,List.map_nil,hk0,hk1,hk2,Option.map_some,Qh,rt,rr,rs,i1,i2]
 ·unfold Qnf
  rw[Jr]
  intro k hk
  simp only[Kr,List.not_mem_nil,or_false] at hk
  rcases hk with rfl | rfl | rfl
  ·rw [hk0]
   simp[scB,Sv.d,DV.nums,DV.nums.go]
  ·rw [hk1]
   dsimp only
   rw[show(scT c.tx).cells=cells QR c.tx from rfl,QP _ _ (Qs _ _ _)]; simp
  ·rw [hk2]
   dsimp only
   rw[show(scR c.rd).cells=cells Qlb c.rd from rfl,QP _ _ (Qs _ _ _)]; simp
 ·rintro r h2 ⟨r0,h',⟨c1,a,B,rfl,hn,e⟩,-,rfl,rfl⟩
  rw[Qe5 _ _ hn]
  have b1:back [k0,k1,k2] hp.length 1=k1:=rfl
  have b2:back [k0,k1,k2] hp.length 2=k2:=rfl
  have b3:back [k0,k1,k2] hp.length 3=hp.length:=rfl
  have rI:∀ (σ:Nat->Nat),Qdx σ Qta=Qta:=fun σ=>rfl
  have rO:∀ (σ:Nat->Nat),Qdx σ QoO=QoO:=fun σ=>rfl
  rcases e with⟨q,rfl⟩ | ⟨q,rfl⟩ | ⟨q,rfl⟩<;>rw[QkW l0 l1 l2 n01 n02 n12]
  ·rw[rs,rt,rr,b1,b2]; exact hN c1 a q _
  ·rw[rs,rI,rr,b2,b3,Kg,rt]; exact hT c1 a q _
  ·rw[rs,rt,rO,b1,b3,Kg,rr]; exact hR c1 a q _
def Qfs(e:Int):Rs:=if e=0 then ⟨1,0,0,Ce0,0⟩ else Qau e
def Qd7(e:Int):VCalls prog 115 [.int .i64 e] [] (Ret (.agg (Qfs e).d)):=by
 refine dd Tryz.func115 ?_
 have c1:=Qad e
 (unfold Tryz.f115; refine rn trivial ?_)
 unfold Qfs
 refine rn F ?_
 repeat' (first
  | with_reducible exact⟨⟩
  | (refine sB F ?_ ?_<;>intro hZ)
  | refine vp F (c1) ?_)
 all_goals first
  | (rw[if_pos (by assumption)]; first | done | rfl)
  | (rw[if_neg (by assumption)]; first | done | rfl)
@[go_sem] def rsD(r:Rs):DV:=.agg r.d
def Qgi(c:Sc)(s:Sv)(e:Int):VCalls prog 111 [.ptr 0 0,.agg s.d,.int .i64 e] [scB c 1 2,scT c.tx,scR c.rd] (ScEnd rsD fun n c' r=>n=0/\c'=⟨if e=0 then s else c.s,c.tx,c.rd,c.dead⟩/\r=Qfs e):=by
 refine QH (fn:=Tryz.f111) Tryz.func111 rfl (by kernel_rfl) (by simp[Tryz.f111]) ?_
 have c1:=Qd7 e
 (unfold Tryz.f111; refine rn trivial ?_)
 refine rn F ?_
 repeat' (first
  | with_reducible exact⟨⟩
  | (refine sB F ?_ ?_<;>intro hZ)
  | refine vp F (c1) ?_)
 ·exact QA ⟨15,3,[(6,.ptr 3 0)],[scB ⟨s,c.tx,c.rd,c.dead⟩ 1 2,scT c.tx,scR c.rd,⟨173,true,(Qfs e).d⟩]⟩ (gc [0,1,2,4]) ⟨⟨s,c.tx,c.rd,c.dead⟩,Qfs e,_,rfl,rfl,.inl ⟨⟨rfl,by rw[if_pos (by assumption)],rfl⟩,rfl⟩⟩
 ·exact QA ⟨15,3,[(6,.ptr 3 0)],[scB c 1 2,scT c.tx,scR c.rd,⟨173,true,(Qfs e).d⟩]⟩ (gc [0,1,2,4]) ⟨c,Qfs e,_,rfl,rfl,.inl ⟨⟨rfl,by rw[if_neg (by assumption)],rfl⟩,rfl⟩⟩
end
section
attribute [local go_sem] Qa5
def scQ(c:Sc)(n m:Nat)(c':Sc)(_:Rs):Prop:=m≠1/\c'.sm n/\c'.dead=c.dead/\Str 1 c.s.k c'.s.k
def QuD(c:Sc)(n:Nat)(hc:c.sm n)(r:Rs):scQ c (n+1) 0 c r:=⟨by decide,⟨hc.1,Jm hc.2.1,Jm hc.2.2⟩,rfl,Str.refl _⟩
def QBC (c:Sc) (n:Nat) (hn:n<=2000) (hc:c.sm n) (t:Sp):VCalls prog 112 [.ptr 0 0,.agg t.d] [scB c 1 2,scT c.tx,scR c.rd] (ScEnd rsD (scQ c (n + 1))):=by
 refine QH (fn:=Tryz.f112) Tryz.func112 rfl (by kernel_rfl) (by simp[Tryz.f112]) ?_
 have c1:=Qad 16
 have hq0:=QuD c n hc
 have h1:=hc.2.1
 have h2:=hc.2.2
 by_cases h0:∃ i:Nat,i<c.tx.length/\t.tx=i+1
 rotate_left
 ·have h3:t.tx < 1\/c.tx.length < t.tx:=by
   by_cases ha:t.tx<1
   ·exact .inl ha
   ·by_cases hb:c.tx.length < t.tx
    ·exact .inr hb
    ·exact absurd ⟨(t.tx-1).toNat,by omega,by omega⟩ h0
  (unfold Tryz.f112; refine rn trivial ?_)
  refine rn F ?_
  repeat' (first
   | with_reducible exact⟨⟩
   | (refine sG F ?_ ?_<;>intro hZ)
   | refine vp F (c1) ?_
   | (refine Qc (id:=1) [0,1,2,3,4,5,6,7,8,9,10,11,12,13,14,15,16,17,18,19,20,21,22,23,24] [] (by kernel_rfl) (by kernel_rfl) ?_; refine rn F ?_))
  all_goals first
   | (exfalso; omega)
   | exact QA ⟨95,3,[(4,.ptr 3 0)],[scB c 1 2,scT (Sc.tx c),scR (Sc.rd c),⟨173,true,Rs.d (Qau 16)⟩]⟩ (gc [0,1,2,4]) ⟨c,Qau 16,_,rfl,rfl,.inl ⟨hq0 _,rfl⟩⟩
   | skip
 obtain⟨i,hi,ht⟩:=h0
 have hg:=Qe1 c.tx i hi
 have d1:=QBr c.s hc.1 (c.tx.getD i 0) t.a
 have e1:(↑i+1-1:Int)=↑i:=by omega
 have hlt:(i<c.tx.length)=True:=eq_true hi
 (unfold Tryz.f112; refine rn trivial ?_)
 simp only[ht]
 have F:=(Jb @hg (Jb @e1 @hlt))
 refine rn F ?_
 repeat' (first
  | with_reducible exact⟨⟩
  | (refine sG F ?_ ?_<;>intro hZ)
  | (refine sB F ?_ ?_<;>intro hZ)
  | refine vp F (c1) ?_
  | (refine Ql (d1) rfl ?_; rintro⟨s2,r2⟩ hq; refine rn F ?_)
  | refine vp F (Qd8 s2.k.lg (Jq hq.1.1.1 (by decide))) ?_
  | (refine Qc (id:=1) [0,1,2,3,4,5,6,7,8,9,10,11,12,13,14,15,16,17,18,19,20,21,22,23,24] [] (by kernel_rfl) (by kernel_rfl) ?_; refine rn F ?_)
  | (refine Qc (id:=3) [0,1,2,3,4,5,6,7,8] [⟨[],[],9,[],[]⟩] (by kernel_rfl) (by kernel_rfl) ?_; refine rn F ?_)
  | (refine Qc (id:=4) [0,1,2,3,4,5,6] [⟨[11,12],[],7,[0,1,2,5],[8,9,10]⟩,⟨[11,12],[11],13,[10],[]⟩,⟨[12],[12],14,[],[]⟩] (by kernel_rfl) (by kernel_rfl) ?_; refine rn F ?_)
  | (refine Qc (id:=9) [0,1,2,3,4,5,6,7,8,9,10,11,12,13,14,16,17] [⟨[],[],15,[0,1,2,3,4,5,6,7,8,9,10,11,12,13,16,17],[18]⟩,⟨[19],[19],20,[0,1,2,3,5,6,7,8,9,10,11,12,13,14,16,17,18],[21,22]⟩,⟨[],[],23,[21],[]⟩] (by kernel_rfl) (by kernel_rfl) ?_; refine rn F ?_))
 all_goals first
  | exact QA ⟨95,3,[(4,.ptr 3 0)],[scB c 1 2,scT (Sc.tx c),scR (Sc.rd c),⟨173,true,Rs.d (Qau 16)⟩]⟩ (gc [0,1,2,4]) ⟨c,Qau 16,_,rfl,rfl,.inl ⟨hq0 _,rfl⟩⟩
  | exact QA ⟨95,3,[(4,.ptr 3 0)],[scB c 1 2,scT (Sc.tx c),scR (Sc.rd c),⟨173,true,Rs.d (r2)⟩]⟩ (gc [0,1,2,4]) ⟨c,r2,_,rfl,rfl,.inl ⟨hq0 _,rfl⟩⟩
  | exact QA ⟨95,3,[(4,.ptr 3 0)],[scB ⟨s2,c.tx,c.rd,c.dead⟩ 1 2,scT (Sc.tx ⟨s2,c.tx,c.rd,c.dead⟩),scR (Sc.rd ⟨s2,c.tx,c.rd,c.dead⟩),⟨173,true,Rs.d (r2)⟩]⟩ (gc [0,1,2,4]) ⟨⟨s2,c.tx,c.rd,c.dead⟩,r2,_,rfl,rfl,.inl ⟨⟨by decide,⟨hq.1,by dsimp only; omega,by dsimp only; omega⟩,rfl,hq.2.2 (by dsimp only; omega)⟩,rfl⟩⟩
  | skip
 have hl:(c.rd++[(⟨c.tx.getD i 0,t.a.pg,t.a.sl,QcD s2.k.lg,r2.cell⟩:Rd)]).length=c.rd.length+1:=by simp
 generalize hr:c.rd++[(⟨c.tx.getD i 0,t.a.pg,t.a.sl,QcD s2.k.lg,r2.cell⟩:Rd)]=rd at *
 rw[<- hl]
 exact QA ⟨95,3,[(4,.ptr 4 0)],[scB ⟨s2,c.tx,rd,c.dead⟩ 1 3,scT c.tx,QoO,scR rd,⟨173,true,r2.d⟩]⟩ (gc [0,1,2,8,4]) ⟨⟨s2,c.tx,rd,c.dead⟩,r2,_,rfl,rfl,.inr (.inr ⟨⟨by decide,⟨hq.1,by dsimp only; omega,by dsimp only; omega⟩,rfl,hq.2.2 (by dsimp only; omega)⟩,rfl⟩)⟩
end
section
attribute [local go_sem] Qa5
def scI(I:Nat->Kn->Prop)(c:Sc)(n _:Nat)(c':Sc)(_:Rs):Prop:=c'.sm n/\∀ m,I m c.s.k->I (m+1) c'.s.k
abbrev Qpp(I:Nat->Kn->Prop):Prop:=∀ n m k k',Str m k k'->I n k->I (n+m) k'
def QmI(I:Nat->Kn->Prop)(hI:Qpp I)(c:Sc)(n:Nat)(hc:c.sm n)(r:Rs):scI I c (n+1) 0 c r:=⟨⟨hc.1,Jm hc.2.1,Jm hc.2.2⟩,fun m=>hI m 1 _ _ (Str.refl _)⟩
abbrev QgV(I:Nat->Kn->Prop)(c:Sc)(n:Nat)(t:Sp):Prop:=VCalls prog 94 [.ptr 0 0,.agg t.d] [scB c 1 2,scT c.tx,scR c.rd] (ScEnd rsD (scI I c (n+1)))
def QoD(k:Kn)(h:(QG k.lg n).2=0):Str 1 k ⟨k.pg,k.nx,(QG k.lg n).1,k.pl,k.lk,k.tx,k.ix,k.la⟩:=by
 have qf:=Stp.force (k:=k) (QG k.lg n).1.d fun hv=>by
  have:=(Qes h).ok hv
  rw[Qer h] at this
  exact this
 rw[<- Qer h] at qf
 exact(Str.one qf).mono (by omega)
def Qsi(I:Nat->Kn->Prop)(hI:Qpp I){s s2:Sv}{e:Int}(hs:s.sm)(hq:s2.sm/\(e=0->Str 1 s.k s2.k)):(if e=0 then s2 else s).sm/\(∀ m,I m s.k->I (m+1) (if e=0 then s2 else s).k):=by
 split
 ·rename_i h; exact⟨hq.1,fun m=>hI m 1 _ _ (hq.2 h)⟩
 ·exact⟨hs,fun m=>hI m 1 _ _ (Str.refl _)⟩
def QuN(I:Nat->Kn->Prop)(hI:Qpp I)(c:Sc)(n:Nat)(hn:n<=2000)(hc:c.sm n)(t:Sp)(ht:t.kind=3):QgV I c n t:=by
 refine QH (fn:=Tryz.f94) Tryz.func94 rfl (by kernel_rfl) (by simp[Tryz.f94]) ?_
 obtain⟨k,tx,pg,torn,cut,a⟩:=t
 dsimp only at ht
 subst ht
 have c1:=QqU c.s hc.1 pg
 (unfold Tryz.f94; refine rn trivial ?_)
 refine rn F ?_
 repeat' (first
  | with_reducible exact⟨⟩
  | (refine Ql (c1) rfl ?_; rintro⟨s2,e2⟩ hq; refine rn F ?_)
  | (refine Qa0 (id:=12) [[],[],[1],[1,2],[1,2,3],[],[5],[1,2,3,4,5,6],[1,2,3,4,5,6,7],[1,2,3,4,5,6,7],[0,1,2,3,4,5,6,7,8,9],[0,1,2,3,4,5,6,7,8,9,10]] [0,1,2,3,4,5,6] [⟨[],[],7,[0],[8,9]⟩,⟨[],[],10,[],[]⟩,⟨[],[],11,[],[]⟩] (by kernel_rfl) (by kernel_rfl) (by kernel_rfl) ?_; refine rn F ?_))
 refine QjB (c:=c) 0 1 2 (Qgi c s2 e2) rfl rfl rfl (by decide) (by decide) (by decide) rfl rfl ?_ (fun _ _ h=>absurd h.1 (by decide)) (fun _ _ h=>absurd h.1 (by decide))
 rintro _ _ ⟨-,rfl,rfl⟩ B
 obtain⟨k1,k2⟩:=Qsi I hI hc.1 ⟨hq.1,fun h=>(hq.2 h).mono (by omega)⟩
 generalize (if e2=0 then s2 else c.s)=s' at *
 refine rn trivial ?_
 exact QA ⟨132,3,[(4,.ptr 3 0)],[scB ⟨s',c.tx,c.rd,c.dead⟩ 1 2,scT (Sc.tx ⟨s',c.tx,c.rd,c.dead⟩),scR (Sc.rd ⟨s',c.tx,c.rd,c.dead⟩),⟨173,true,Rs.d (Qfs e2)⟩]⟩ (gc [0,1,2,4]) ⟨⟨s',c.tx,c.rd,c.dead⟩,Qfs e2,_,rfl,rfl,.inl ⟨⟨⟨k1,Jm hc.2.1,Jm hc.2.2⟩,k2⟩,rfl⟩⟩
def QuM(I:Nat->Kn->Prop)(hI:Qpp I)(c:Sc)(n:Nat)(hn:n<=2000)(hc:c.sm n)(t:Sp)(ht:t.kind=4):QgV I c n t:=by
 refine QH (fn:=Tryz.f94) Tryz.func94 rfl (by kernel_rfl) (by simp[Tryz.f94]) ?_
 obtain⟨k,tx,pg,torn,cut,a⟩:=t
 dsimp only at ht
 subst ht
 have c1:=QqX c.s hc.1
 (unfold Tryz.f94; refine rn trivial ?_)
 refine rn F ?_
 repeat' (first
  | with_reducible exact⟨⟩
  | (refine Ql (c1) rfl ?_; rintro⟨s2,n2,e2⟩ hq; refine rn F ?_))
 refine QjB (c:=c) 0 1 2 (Qgi c s2 e2) rfl rfl rfl (by decide) (by decide) (by decide) rfl rfl ?_ (fun _ _ h=>absurd h.1 (by decide)) (fun _ _ h=>absurd h.1 (by decide))
 rintro _ _ ⟨-,rfl,rfl⟩ B
 obtain⟨k1,k2⟩:=Qsi I hI hc.1 hq
 generalize (if e2=0 then s2 else c.s)=s' at *
 refine rn trivial ?_
 exact QA ⟨132,3,[(4,.ptr 3 0)],[scB ⟨s',c.tx,c.rd,c.dead⟩ 1 2,scT (Sc.tx ⟨s',c.tx,c.rd,c.dead⟩),scR (Sc.rd ⟨s',c.tx,c.rd,c.dead⟩),⟨173,true,Rs.d (Qfs e2)⟩]⟩ (gc [0,1,2,4]) ⟨⟨s',c.tx,c.rd,c.dead⟩,Qfs e2,_,rfl,rfl,.inl ⟨⟨⟨k1,Jm hc.2.1,Jm hc.2.2⟩,k2⟩,rfl⟩⟩
def QuJ(I:Nat->Kn->Prop)(hI:Qpp I)(c:Sc)(n:Nat)(hn:n<=2000)(hc:c.sm n)(t:Sp)(ht:t.kind=7):QgV I c n t:=by
 refine QH (fn:=Tryz.f94) Tryz.func94 rfl (by kernel_rfl) (by simp[Tryz.f94]) ?_
 obtain⟨k,tx,pg,torn,cut,a⟩:=t
 dsimp only at ht
 subst ht
 have c1:=Qyf c.s hc.1
 (unfold Tryz.f94; refine rn trivial ?_)
 refine rn F ?_
 repeat' (first
  | with_reducible exact⟨⟩
  | (refine Ql (c1) rfl ?_; rintro⟨s2,n2,e2⟩ hq; refine rn F ?_))
 refine QjB (c:=c) 0 1 2 (Qgi c s2 e2) rfl rfl rfl (by decide) (by decide) (by decide) rfl rfl ?_ (fun _ _ h=>absurd h.1 (by decide)) (fun _ _ h=>absurd h.1 (by decide))
 rintro _ _ ⟨-,rfl,rfl⟩ B
 obtain⟨k1,k2⟩:=Qsi I hI hc.1 ⟨hq.1,fun h=>(hq.2 h).mono (by omega)⟩
 generalize (if e2=0 then s2 else c.s)=s' at *
 refine rn trivial ?_
 exact QA ⟨132,3,[(4,.ptr 3 0)],[scB ⟨s',c.tx,c.rd,c.dead⟩ 1 2,scT (Sc.tx ⟨s',c.tx,c.rd,c.dead⟩),scR (Sc.rd ⟨s',c.tx,c.rd,c.dead⟩),⟨173,true,Rs.d (Qfs e2)⟩]⟩ (gc [0,1,2,4]) ⟨⟨s',c.tx,c.rd,c.dead⟩,Qfs e2,_,rfl,rfl,.inl ⟨⟨⟨k1,Jm hc.2.1,Jm hc.2.2⟩,k2⟩,rfl⟩⟩
def QuL(I:Nat->Kn->Prop)(hI:Qpp I)(c:Sc)(n:Nat)(hn:n<=2000)(hc:c.sm n)(t:Sp)(ht:t.kind=5):QgV I c n t:=by
 refine QH (fn:=Tryz.f94) Tryz.func94 rfl (by kernel_rfl) (by simp[Tryz.f94]) ?_
 obtain⟨k,tx,pg,torn,cut,a⟩:=t
 dsimp only at ht
 subst ht
 have c1:=Qd8 c.s.k.lg (Jq hc.1.1.1 (by decide))
 have c2:=QfB c.s.k.lg (Jq hc.1.1.1 (by decide)) (QcD c.s.k.lg)
 have c3:=fun e=>Qd7 e
 (unfold Tryz.f94; refine rn trivial ?_)
 refine rn F ?_
 repeat' (first
  | with_reducible exact⟨⟩
  | (refine sB F ?_ ?_<;>intro hZ)
  | refine vp F (c1) ?_
  | refine vp F (c2) ?_
  | refine vp F (c3 _) ?_
  | (refine Qa0 (id:=17) [[],[0],[0,1],[0,1,2],[0,1,2,3],[0,1,2,3,4],[],[6],[6,7],[6,7,8],[6,7,8,9],[6,7,8,9,10],[6,7,8,9,10,11],[0,1,2,3,4,5,6,7,8,9,10,11,12],[0,1,2,3,4,5,6,7,8,9,10,11,12,13],[0,1,2,3,4,5,6,7,8,9,10,11,12,13,14],[0,1,2,3,4,5,6,7,8,9,10,11,12,13,14],[],[0,1,2,3,4,5,6,7,8,9,10,11,12,13,14,15,17],[0,1,2,3,4,5,6,7,8,9,10,11,12,13,14,15,16,17,18]] [0,1,2,3,4,5,6,7,8,9,10,11] [⟨[17],[],12,[0,1,2,3,4,5],[]⟩,⟨[17],[],13,[],[14,15,16]⟩,⟨[17],[17],18,[16],[]⟩,⟨[],[],19,[],[]⟩] (by kernel_rfl) (by kernel_rfl) (by kernel_rfl) ?_; refine rn F ?_))
 ·exact QA ⟨132,3,[(4,.ptr 3 0)],[scB ⟨⟨⟨c.s.k.pg,c.s.k.nx,(QG c.s.k.lg (QcD c.s.k.lg)).1,c.s.k.pl,c.s.k.lk,c.s.k.tx,c.s.k.ix,c.s.k.la⟩,c.s.v⟩,c.tx,c.rd,c.dead⟩ 1 2,scT (Sc.tx ⟨⟨⟨c.s.k.pg,c.s.k.nx,(QG c.s.k.lg (QcD c.s.k.lg)).1,c.s.k.pl,c.s.k.lk,c.s.k.tx,c.s.k.ix,c.s.k.la⟩,c.s.v⟩,c.tx,c.rd,c.dead⟩),scR (Sc.rd ⟨⟨⟨c.s.k.pg,c.s.k.nx,(QG c.s.k.lg (QcD c.s.k.lg)).1,c.s.k.pl,c.s.k.lk,c.s.k.tx,c.s.k.ix,c.s.k.la⟩,c.s.v⟩,c.tx,c.rd,c.dead⟩),⟨173,true,Rs.d (Qfs _)⟩]⟩ (gc [0,1,2,4]) ⟨⟨⟨⟨c.s.k.pg,c.s.k.nx,(QG c.s.k.lg (QcD c.s.k.lg)).1,c.s.k.pl,c.s.k.lk,c.s.k.tx,c.s.k.ix,c.s.k.la⟩,c.s.v⟩,c.tx,c.rd,c.dead⟩,Qfs _,_,rfl,rfl,.inl ⟨⟨⟨⟨⟨QhY _ _ hc.1.1.1,hc.1.1.2⟩,hc.1.2⟩,Jm hc.2.1,Jm hc.2.2⟩,fun m=>hI m 1 _ _ (QoD _ (by assumption))⟩,rfl⟩⟩
 ·exact QA ⟨132,3,[(4,.ptr 3 0)],[scB c 1 2,scT (Sc.tx c),scR (Sc.rd c),⟨173,true,Rs.d (Qfs _)⟩]⟩ (gc [0,1,2,4]) ⟨c,Qfs _,_,rfl,rfl,.inl ⟨QmI I hI c n hc _,rfl⟩⟩
def QuO(I:Nat->Kn->Prop)(hI:Qpp I)(c:Sc)(n:Nat)(hn:n<=2000)(hc:c.sm n)(t:Sp)(ht:t.kind=2):QgV I c n t:=by
 refine QH (fn:=Tryz.f94) Tryz.func94 rfl (by kernel_rfl) (by simp[Tryz.f94]) ?_
 obtain⟨k,tx,pg,torn,cut,a⟩:=t
 dsimp only at ht
 subst ht
 (unfold Tryz.f94; refine rn trivial ?_)
 refine QjB (c:=c) 0 1 2 (QBC c n hn hc ⟨2,tx,pg,torn,cut,a⟩) rfl rfl rfl (by decide) (by decide) (by decide) rfl rfl ?_ (fun _ _ h=>absurd rfl h.1) ?_
 ·rintro c1 r1 ⟨-,q1,-,q2⟩ B
  refine rn trivial ?_
  exact QA ⟨132,3,[(4,.ptr 3 0)],[scB c1 1 2,scT (Sc.tx c1),scR (Sc.rd c1),⟨173,true,Rs.d (r1)⟩]⟩ (gc [0,1,2,4]) ⟨c1,r1,_,rfl,rfl,.inl ⟨⟨q1,fun m=>hI m 1 _ _ q2⟩,rfl⟩⟩
 ·rintro c1 r1 ⟨-,q1,-,q2⟩ B
  refine rn trivial ?_
  exact QA ⟨132,3,[(4,.ptr 4 0)],[scB c1 1 3,scT c1.tx,QoO,scR c1.rd,⟨173,true,r1.d⟩]⟩ (gc [0,1,2,5,4]) ⟨c1,r1,_,rfl,rfl,.inr (.inr ⟨⟨q1,fun m=>hI m 1 _ _ q2⟩,rfl⟩)⟩
def QuP(I:Nat->Kn->Prop)(hI:Qpp I)(c:Sc)(n:Nat)(hn:n<=2000)(hc:c.sm n)(t:Sp)(ht:t.kind=1):QgV I c n t:=by
 refine QH (fn:=Tryz.f94) Tryz.func94 rfl (by kernel_rfl) (by simp[Tryz.f94]) ?_
 obtain⟨k,tx,pg,torn,cut,a⟩:=t
 dsimp only at ht
 subst ht
 have c1:=QqY c.s hc.1
 (unfold Tryz.f94; refine rn trivial ?_)
 have hb:(c.tx.length+1)*8<=140737488355328:=by have:=hc.2.1; omega
 have F:=@hb
 refine rn F ?_
 repeat' (first
  | with_reducible exact⟨⟩
  | (refine sB F ?_ ?_<;>intro hZ)
  | (refine Ql (c1) rfl ?_; rintro⟨s2,n2,e2⟩ hq; refine rn F ?_))
 rotate_left
 ·refine QjB (c:=c) 0 1 2 (Qgi c s2 e2) rfl rfl rfl (by decide) (by decide) (by decide) rfl rfl ?_ (fun _ _ h=>absurd h.1 (by decide)) (fun _ _ h=>absurd h.1 (by decide))
  rintro _ _ ⟨-,rfl,rfl⟩ B
  obtain⟨k1,k2⟩:=Qsi I hI hc.1 hq
  generalize (if e2=0 then s2 else c.s)=s' at *
  refine rn trivial ?_
  exact QA ⟨132,3,[(4,.ptr 3 0)],[scB ⟨s',c.tx,c.rd,c.dead⟩ 1 2,scT (Sc.tx ⟨s',c.tx,c.rd,c.dead⟩),scR (Sc.rd ⟨s',c.tx,c.rd,c.dead⟩),⟨173,true,Rs.d ({ Qfs e2 with tx:=n2 })⟩]⟩ (gc [0,1,2,4]) ⟨⟨s',c.tx,c.rd,c.dead⟩,{ Qfs e2 with tx:=n2 },_,rfl,rfl,.inl ⟨⟨⟨k1,Jm hc.2.1,Jm hc.2.2⟩,k2⟩,rfl⟩⟩
 have hl:(c.tx++[n2]).length=c.tx.length+1:=by simp
 generalize c.tx++[n2]=l at *
 rw[<- hl]
 refine QjB (c:=⟨c.s,l,c.rd,c.dead⟩) 0 7 2 (Qgi ⟨c.s,l,c.rd,c.dead⟩ s2 e2) rfl rfl rfl (by decide) (by decide) (by decide) rfl rfl ?_ (fun _ _ h=>absurd h.1 (by decide)) (fun _ _ h=>absurd h.1 (by decide))
 rintro _ _ ⟨-,rfl,rfl⟩ B
 obtain⟨k1,k2⟩:=Qsi I hI hc.1 hq
 generalize (if e2=0 then s2 else c.s)=s' at *
 have h1:=hc.2.1
 refine rn trivial ?_
 exact QA ⟨132,3,[(4,.ptr 4 0)],[scB ⟨s',l,c.rd,c.dead⟩ 3 2,Qta,scR c.rd,scT l,⟨173,true,Rs.d { Qfs e2 with tx:=n2 }⟩]⟩ (gc [0,1,2,7,4]) ⟨⟨s',l,c.rd,c.dead⟩,{ Qfs e2 with tx:=n2 },_,rfl,rfl,.inr (.inl ⟨⟨⟨k1,by dsimp only; omega,Jm hc.2.2⟩,k2⟩,rfl⟩)⟩
end
section
attribute [local go_sem] Qa5
def QuH(I:Nat->Kn->Prop)(hI:Qpp I)(c:Sc)(n:Nat)(hc:c.sm n)(t:Sp)(h1:t.kind≠1)(h2:t.kind≠2)(h3:t.kind≠3)(h4:t.kind≠4)(h5:t.kind≠5)(h6:t.kind≠6)(h7:t.kind≠7):QgV I c n t:=by
 refine QH (fn:=Tryz.f94) Tryz.func94 rfl (by kernel_rfl) (by simp[Tryz.f94]) ?_
 have c1:=Qad 1
 (unfold Tryz.f94; refine rn (Jb @h1 (Jb @h2 (Jb @h3 (Jb @h4 (Jb @h5 (Jb @h6 @h7)))))) ?_)
 have F:=(Jb @h1 (Jb @h2 (Jb @h3 (Jb @h4 (Jb @h5 (Jb @h6 @h7))))))
 refine rn F ?_
 repeat' (first
  | with_reducible exact⟨⟩
  | refine vp F (c1) ?_)
 exact QA ⟨132,3,[(4,.ptr 3 0)],[scB c 1 2,scT (Sc.tx c),scR (Sc.rd c),⟨173,true,Rs.d (Qau 1)⟩]⟩ (gc [0,1,2,4]) ⟨c,Qau 1,_,rfl,rfl,.inl ⟨QmI I hI c n hc _,rfl⟩⟩
def QuI(I:Nat->Kn->Prop)(hI:Qpp I)(c:Sc)(n:Nat)(hn:n<=2000)(hc:c.sm n)(t:Sp)(h6:t.kind=6->QgV I c n t):QgV I c n t:=by
 by_cases q1:t.kind=1
 ·exact QuP I hI c n hn hc t q1
 by_cases q2:t.kind=2
 ·exact QuO I hI c n hn hc t q2
 by_cases q3:t.kind=3
 ·exact QuN I hI c n hn hc t q3
 by_cases q4:t.kind=4
 ·exact QuM I hI c n hn hc t q4
 by_cases q5:t.kind=5
 ·exact QuL I hI c n hn hc t q5
 by_cases q6:t.kind=6
 ·exact h6 q6
 by_cases q7:t.kind=7
 ·exact QuJ I hI c n hn hc t q7
 exact QuH I hI c n hc t q1 q2 q3 q4 q5 q6 q7
def Qmi:Enc Sp:=⟨9,fun t=>[.lit (.int .i64 t.kind),.lit (.int .i64 t.tx),.lit (.int .i64 t.pg),.lit (.int .i64 t.torn),.lit (.int .i64 t.cut),.lit (.int .i64 t.a.kind),.lit (.int .i64 t.a.pg),.lit (.int .i64 t.a.sl),.str t.a.data],by decide,fun _=>rfl⟩
def QD6(l:List Sp):(cells Qmi l).length=l.length*9:=QZ Qmi l
def QEW(l:List Sp)(n:Nat)(h:l.length*9<=n):(cells Qmi l).take n=cells Qmi l:=by rw[Jo]; rw[QD6]; exact h
def QEK(h:l.length=len):Qmc n hp 0 9 len (some (cells Qmi l))=some (.sl (fz Qmi l)):=QW Qmi h
def Sp0:Sp:=⟨0,0,0,0,0,0,0,0,[]⟩
def QB2(l:List Sp)(i:Nat)(h:i<l.length):(fz Qmi l)[i]?=some [.lit (.int .i64 (l.getD i Sp0).kind),.lit (.int .i64 (l.getD i Sp0).tx),.lit (.int .i64 (l.getD i Sp0).pg),.lit (.int .i64 (l.getD i Sp0).torn),.lit (.int .i64 (l.getD i Sp0).cut),.lit (.int .i64 (l.getD i Sp0).a.kind),.lit (.int .i64 (l.getD i Sp0).a.pg),.lit (.int .i64 (l.getD i Sp0).a.sl),.str (l.getD i Sp0).a.data]:=QbM Qmi l Sp0 i h
attribute [go_sem] QD6 QEW QEK
def QdR:Enc Rs:=⟨6,fun r=>[.lit (.int .i64 r.st),.lit (.int .i64 r.tx),.lit (.int .i64 r.pg),.lit (.bool r.cell.set),.str r.cell.data,.lit (.int .i64 r.er)],by decide,fun _=>rfl⟩
def QBT(l:List Rs):(cells QdR l).length=l.length*6:=QZ QdR l
def QDR(l:List Rs)(n:Nat)(h:l.length*6<=n):(cells QdR l).take n=cells QdR l:=by rw[Jo]; rw[QBT]; exact h
def QDA(h:l.length=len):Qmc n hp 0 6 len (some (cells QdR l))=some (.sl (fz QdR l)):=QW QdR h
def QCu(l:List Rs)(a b c:Int)(x:Bool)(s:List UInt8)(d:Int):cells QdR l++[.pv (.lit (.int .i64 a)),.pv (.lit (.int .i64 b)),.pv (.lit (.int .i64 c)),.pv (.lit (.bool x)),.pv (.str s),.pv (.lit (.int .i64 d))]=cells QdR (l++[⟨a,b,c,⟨x,s⟩,d⟩]):=by rw[QC]; rfl
attribute [go_sem] QBT QDR QDA QCu
def QEm(l:List Rd):DV.wk.go (cells Qlb l)=cells Qlb l:=QaM Qlb l fun a p hp=>by
 simp[Qlb] at hp
 rcases hp with h | h | h | h | h | h<;>subst h<;>rfl
def QC0(l:List Rs):DV.wk.go (cells QdR l)=cells QdR l:=QaM QdR l fun a p hp=>by
 simp[QdR] at hp
 rcases hp with h | h | h | h | h | h<;>subst h<;>rfl
attribute [go_sem] QEm QC0
structure Ru(I:Nat->Kn->Prop)(s:Sv)(l:List Sp) where
 i:Nat
 c:Sc
 out:List Rs
 hi:i<=l.length
 h1:i<=1000
 hc:c.sm i
 ho:out.length=i
 hI:I 0 s.k->I i c.s.k
@[go_sem] def QEE(a:Sv×List Rs×List Rd):DV:=.tup [.agg a.1.d,.pv (.sl (fz QdR a.2.1)),.pv (.sl (fz Qlb a.2.2))]
def QBl(I:Nat->Kn->Prop)(hI:Qpp I)(s:Sv)(hs:s.sm)(l:List Sp)(h6:∀ i,i<l.length->(l.getD i Sp0).kind=6->∀ c n,n<=2000->c.sm n->QgV I c n (l.getD i Sp0)):VCalls prog 73 [.agg s.d,.pv (.sl (fz Qmi l))] [] (Qz QEE fun a=>a.1.sm/\(I 0 s.k->∃ i,i<=l.length/\I i a.1.k)):=by
 refine dk Tryz.func73 ?_
 (unfold Tryz.f73; refine rn trivial ?_)
 refine VLoop.nilOwnC 2 18 3 1 rfl rfl ?_
 refine VLoop.nilOwnC 2 19 204 6 rfl rfl ?_
 refine VLoop.nilOwn 8 173 6 rfl ?_
 refine rn trivial ?_
 refine Qg (fun r:Ru I s l=>⟨48,0,[(9,.int .i64 r.i),(8,.own 4 6 0 r.out.length),(7,.ptr 1 0),(4,.ptr 0 0),(1,.pv (.sl (fz Qmi l)))],[⟨101,true,Zv⟩,scB r.c 2 3,scT r.c.tx,scR r.c.rd,⟨173,true,cells QdR r.out⟩]⟩) (fun r=>l.length-r.i) ⟨0,⟨s,[],[],false⟩,[],Jd _,by decide,⟨hs,Jd _,Jd _⟩,rfl,id⟩ (gc [1,2,3,4,5]) ?_
 rintro⟨i,c,out,hi,h1,hc,ho,h⟩
 dsimp only
 unfold Zv
 have hg:=fun h:i<l.length=>QB2 l i h
 have hb:(out.length+1)*72<=140737488355328:=by omega
 obtain⟨sv,tx,rd,dead⟩:=c
 cases dead
 rotate_left
 ·skip
  have F:=@hg
  refine rn F ?_
  repeat' (first
   | with_reducible exact⟨⟩
   | (refine sG F ?_ ?_<;>intro hZ)
   | (refine Qa0 (id:=7) [[],[0],[0,1],[0,1,2],[],[],[5],[5,6],[5,6,7],[0,1,2,3],[0,1,2,3,4,9],[0,1,2,3,4,5,6,7,8,9,10]] [0,1,2,3,4,5,6,7,8] [⟨[],[],9,[4,5,6,7,8],[]⟩,⟨[],[],10,[5,6,7,8],[]⟩,⟨[],[],11,[],[]⟩] (by kernel_rfl) (by kernel_rfl) (by kernel_rfl) ?_; refine rn F ?_))
  all_goals exact⟨rfl,rfl,(sv,out,rd),rfl,hc.1,fun x=>⟨i,hi,h x⟩⟩
 have F:=@hg
 refine rn F ?_
 repeat' (first
  | with_reducible exact⟨⟩
  | (refine sG F ?_ ?_<;>intro hZ)
  | (refine Qa0 (id:=7) [[],[0],[0,1],[0,1,2],[],[],[5],[5,6],[5,6,7],[0,1,2,3],[0,1,2,3,4,9],[0,1,2,3,4,5,6,7,8,9,10]] [0,1,2,3,4,5,6,7,8] [⟨[],[],9,[4,5,6,7,8],[]⟩,⟨[],[],10,[5,6,7,8],[]⟩,⟨[],[],11,[],[]⟩] (by kernel_rfl) (by kernel_rfl) (by kernel_rfl) ?_; refine rn F ?_))
 all_goals first | exact⟨rfl,rfl,(sv,out,rd),rfl,hc.1,fun x=>⟨i,hi,h x⟩⟩ | skip
 have hil:i<l.length:=by omega
 refine QjB (c:=⟨sv,tx,rd,false⟩) 1 2 3 (QuI I hI _ i (by omega) hc (l.getD i Sp0) (fun hk=>h6 i hil hk _ i (by omega) hc)) rfl rfl rfl (by decide) (by decide) (by decide) rfl rfl ?_ ?_ ?_
 all_goals
  rintro c1 r1 ⟨q1,q2⟩ B
  refine rn @hb ?_
  have hl2:(out++[r1]).length=out.length+1:=by simp
  refine⟨⟨i+1,c1,out++[r1],hil,by omega,q1,by rw[hl2]; omega,fun x=>q2 i (h x)⟩,by dsimp only; omega,?_⟩
  dsimp only
  rw[hl2]
 ·exact(gc [0,1,2,3,7])
 ·exact(gc [0,1,5,3,8])
 ·exact(gc [0,1,2,5,8])
end
section
attribute [local go_sem] cb cc
def QCl(b:Int)(hb:0<=b/\b<=255):∃ y:UInt8,b=(y.toNat:Int):=⟨UInt8.ofNat b.toNat,by simp only[UInt8.toNat_ofNat']; omega⟩
def Qr5{α:Type}{n:Nat}{A B:α}(hn:n<=1000000000):(if 0<=(n:Int)/\((1:Nat):Int)*n<=281474976710656/\(n:Int)<=9223372036854775807 then A else B)=A:=
 if_pos ⟨by omega,by omega,by omega⟩
abbrev Dx(n:Nat):DV->Prop:=fun r=>∃ t:List UInt8,r=.pv (.str t)/\t.length<=n
structure DSt(n:Nat) where
 c:C
 l:List UInt8
 hl:l.length<=n
def QCe(c:C):VCalls prog 135 [.ptr 0 0] [cb c] (CX (Dx 13)):=by
 refine dd Tryz.func135 ?_
 (unfold Tryz.f135; refine rn trivial ?_)
 refine Q4 (k:=0) (c:=c) (QU c 5 (by omega) (by omega)) rfl rfl ?_
 rintro _ c1 ⟨z,rfl,hz⟩
 refine rn trivial ?_
 refine Q4 (k:=0) (c:=c1) (QU c1 6 (by omega) (by omega)) rfl rfl ?_
 rintro _ c2 ⟨z2,rfl,hz2⟩
 have hcw:=fun(hp:Qa) (k o n:Nat)=>QfP (hp:=hp) (k:=k) (off:=o) (len:=n) QDH
 have mk:=fun(n:Nat) (h:n<=1000000000) (A B:Option (DV×Qa))=>Qr5 (n:=n) (A:=A) (B:=B) h
 refine rn F ?_
 repeat' (first
  | with_reducible exact⟨⟩
  | (refine sB F ?_ ?_<;>intro hZ))
 case' refine_1=>
  refine Q4 (k:=0) (c:=c2) (QU c2 14 (by omega) (by omega)) rfl rfl ?_
  rintro _ c3 ⟨n,rfl,hn⟩
 case' refine_2=>
  obtain⟨n,rfl,hn⟩:∃ n:Nat,n=z/\n<14:=⟨z,rfl,by omega⟩
  obtain⟨c3,rfl⟩:∃ c3,c3=c2:=⟨c2,rfl⟩
 all_goals
  have hm:=fun A B=>mk n (by omega) A B
  have hr:Kc 0 (0:UInt8)=[]:=rfl
  refine rn (Jb @hm @hr) ?_
  refine Qg (fun i:DSt n=>⟨29,1,[(5,.int .i64 i.l.length),(3,.int .i64 n),(4,.own 1 1 0 i.l.length),(0,.ptr 0 0)],[cb i.c,⟨5,true,cells Qc5 i.l⟩]⟩) (fun i=>n-i.l.length) ⟨c3,[],Jd _⟩ (gc [0,1]) ?_
  rintro⟨c4,l,hl⟩
  dsimp only
  have hvc:=fun hp:Qa=>@QeK hp l _ rfl
  by_cases hc:l.length<n
  ·skip
   refine rn F ?_
   refine Q4 (k:=0) (c:=c4) (QU c4 3 (by omega) (by omega)) rfl rfl ?_
   rintro r c5 ⟨y,rfl,hy⟩
   obtain⟨u,hu⟩:∃ u:UInt8,97+(y:Int)=(u.toNat:Int):=QCl _ (by omega)
   have e2:cells Qc5 l++[.pv (.lit (.int .u8 u.toNat))]=cells Qc5 (l++[u]):=(QC Qc5 l [u]).symm
   have e3:(cells Qc5 l).take l.length=cells Qc5 l:=by rw[Jo]; rw[Qa7]; exact Jz _
   have hub:u.toNat<256:=u.toNat_lt
   have hs2:l.length<=140737488355327:=by omega
   refine rn (Jb @hu (Jb @hs2 (Jb @e3 @e2))) ?_
   have hl2:(l++[u]).length=l.length+1:=by simp
   refine⟨⟨c5,l++[u],by rw[hl2]; omega⟩,by dsimp only; rw[hl2]; omega,?_⟩
   dsimp only
   rw[hl2]
   exact(gc [0,3])
  ·skip
   have F:=(Jb @hcw @hvc)
   refine rn F ?_
   exact⟨_,rfl,rfl,QaW _,rfl,⟨_,rfl,by omega⟩,c4,rfl⟩
end
section
attribute [local go_sem] cb cc
def Qse(i:Nat)(h:i<12):∃ n:Int,([.pv (.lit (.int .i64 1)),.pv (.lit (.int .i64 1)),.pv (.lit (.int .i64 2)),.pv (.lit (.int .i64 2)),.pv (.lit (.int .i64 2)),.pv (.lit (.int .i64 3)),.pv (.lit (.int .i64 4)),.pv (.lit (.int .i64 5)),.pv (.lit (.int .i64 6)),.pv (.lit (.int .i64 7)),.pv (.lit (.int .i64 2)),.pv (.lit (.int .i64 4))]:List DV)[i]?=some (.int .i64 n):=by
 have e:([.pv (.lit (.int .i64 1)),.pv (.lit (.int .i64 1)),.pv (.lit (.int .i64 2)),.pv (.lit (.int .i64 2)),.pv (.lit (.int .i64 2)),.pv (.lit (.int .i64 3)),.pv (.lit (.int .i64 4)),.pv (.lit (.int .i64 5)),.pv (.lit (.int .i64 6)),.pv (.lit (.int .i64 7)),.pv (.lit (.int .i64 2)),.pv (.lit (.int .i64 4))]:List DV)=([1,1,2,2,2,3,4,5,6,7,2,4]:List Int).map (DV.int .i64):=rfl
 refine⟨([1,1,2,2,2,3,4,5,6,7,2,4]:List Int)[i]'h,?_⟩
 rw[e,List.getElem?_map,J2 h]; rfl
def QwD(c:C)(m:Nat)(h1:1<=m)(h2:m<=1000):VCalls prog 119 [.ptr 0 0,.int .i64 m] [cb c] (CX fun r=>∃ a:Ac,r=.agg a.d):=by
 refine dd Tryz.func119 ?_
 (unfold Tryz.f119; refine rn trivial ?_)
 refine Q4 (k:=0) (c:=c) (QU c 12 (by omega) (by omega)) rfl rfl ?_
 rintro _ c1 ⟨y,rfl,hy⟩
 obtain⟨n,hn⟩:=Qse y hy
 have F:=@hn
 refine rn F ?_
 repeat' (first
  | with_reducible exact⟨⟩
  | (refine sB F ?_ ?_<;>intro hZ)
  | (refine Q4 (k:=0) (QU _ 2 (by omega) (by omega)) rfl rfl ?_; rintro _ _ ⟨_,rfl,_⟩; refine rn F ?_)
  | (refine Q4 (k:=0) (QU _ 40 (by omega) (by omega)) rfl rfl ?_; rintro _ _ ⟨_,rfl,_⟩; refine rn F ?_)
  | (refine Q4 (k:=0) (QU _ m (by omega) (by omega)) rfl rfl ?_; rintro _ _ ⟨_,rfl,_⟩; refine rn F ?_)
  | (refine Q4 (k:=0) (QCe _) rfl rfl ?_; rintro _ _ ⟨_,rfl,_⟩; refine rn F ?_)
  | (refine Q4 (k:=0) (QDw _) rfl rfl ?_; rintro _ _ ⟨_,rfl,_⟩; refine rn F ?_))
 all_goals first
  | exact⟨_,rfl,rfl,QaW _,rfl,⟨⟨_,_,_,_⟩,rfl⟩,_,rfl⟩
  | skip
end
section
attribute [local go_sem] cb cc
def QBw(n:Int)(h:1<=n/\n<=64):VCalls prog 93 [.int .i64 n] [] (Qz dvD fun a=>dvQ a/\a.2=0):=by
 refine dk Tryz.func93 ?_
 have c1:=Qrx n
 (unfold Tryz.f93; refine rn trivial ?_)
 refine rn F ?_
 repeat' (first
  | with_reducible exact⟨⟩
  | (refine Ql (c1 (by omega)) rfl ?_; rintro l hl; refine rn F ?_))
 all_goals first
  | (exfalso; omega)
  | exact⟨rfl,rfl,(⟨l,0,false⟩,0),rfl,hl,rfl⟩
  | skip
def Qpj(n m:Int):Kn:=⟨n,1,Lg1,⟨m,[],0⟩,Lk0,[],Kc n.toNat Rw0,[]⟩
def QBo(n m:Int)(h:1<=n/\n<=64)(h2:1<=m/\m<=64):VCalls prog 92 [.int .i64 n,.int .i64 m] [] (Qz kiD fun a=>a.1.sm/\a.2=0/\a.1=Qpj n m):=by
 refine dk Tryz.func92 ?_
 have c1:=Qq0 m
 have c2:=QmQ n
 have c3:=Qyz
 have hf:Qhb m=(⟨m,[],0⟩,0):=by unfold Qhb; rw[if_neg (by omega)]
 rw[hf] at c1
 (unfold Tryz.f92; refine rn trivial ?_)
 refine rn F ?_
 repeat' (first
  | with_reducible exact⟨⟩
  | refine vp F (c1) ?_
  | (refine Ql (c2) rfl ?_; rintro⟨l,e⟩ hl; refine rn F ?_)
  | refine vp F (c3) ?_
  | (refine Qc (id:=5) [0,2,3] [⟨[],[],1,[0,2,3],[4]⟩,⟨[],[],5,[],[]⟩,⟨[],[],6,[],[]⟩] (by kernel_rfl) (by kernel_rfl) ?_; refine rn F ?_))
 all_goals first
  | (exfalso; omega)
  | skip
 have e1:=hl.2.1 (hl.2.2 h.1 h.2)
 dsimp only at e1
 subst e1
 exact⟨rfl,rfl,(Qpj n m,0),rfl,⟨Jd _,Jd _,Jd _,QV _,hl.1,Jd _⟩,rfl,rfl⟩
def QBj(n m:Int)(h:1<=n/\n<=64)(h2:1<=m/\m<=64):VCalls prog 72 [.int .i64 n,.int .i64 m] [] (Qz svD fun a=>a.1.sm/\a.2=0/\a.1.k=Qpj n m):=by
 refine dk Tryz.func72 ?_
 have c1:=QBo n m h h2
 have c2:=QBw n h
 (unfold Tryz.f72; refine rn trivial ?_)
 refine Ql c1 rfl ?_
 rintro⟨k,e⟩ ⟨hk,he,hg⟩
 dsimp only at hk he hg
 subst he
 refine rn trivial ?_
 refine Ql c2 rfl ?_
 rintro⟨v,e⟩ ⟨hv,he⟩
 dsimp only at he
 subst he
 refine rn trivial ?_
 exact⟨rfl,rfl,(⟨k,v⟩,0),rfl,⟨hk,hv⟩,rfl,hg⟩
def QDL(l:List Sp)(a b c d e f g h:Int)(s:List UInt8):cells Qmi l++[.pv (.lit (.int .i64 a)),.pv (.lit (.int .i64 b)),.pv (.lit (.int .i64 c)),.pv (.lit (.int .i64 d)),.pv (.lit (.int .i64 e)),.pv (.lit (.int .i64 f)),.pv (.lit (.int .i64 g)),.pv (.lit (.int .i64 h)),.pv (.str s)]=cells Qmi (l++[⟨a,b,c,d,e,⟨f,g,h,s⟩⟩]):=by rw[QC]; rfl
def spB:Sp:=⟨1,0,0,0,0,⟨0,0,0,[]⟩⟩
end
def Qq7(t:Lk)(h:1024<t.sum)(h2:t.held.length<=10000000/\t.wait.length<=10000000):VCalls prog 199 [.agg t.d] [] (Ret (.bool false)):=by
 refine dd Tryz.func199 ?_
 unfold Lk.sum at h
 have h':(1024:Int)<t.held.length+t.wait.length:=by omega
 (unfold Tryz.f199; refine rn @h' ?_; try with_reducible exact⟨⟩)
def Kn.smX(k:Kn):Prop:=k.lg.es.length<=4096/\k.pl.fs.length<=64/\smN 65 k.tx/\k.ix.length<=64/\k.la.length<=10000
def Qyv(k:Kn)(hk:k.smX)(h:1024<k.lk.sum)(hq:k.lk.held.length<=10000000/\k.lk.wait.length<=10000000):VCalls prog 154 [.agg k.d] [] (Ret (.bool false)):=by
 refine dd Tryz.func154 ?_
 obtain⟨h1,h2,h4,h5,h6⟩:=hk
 have c1:=Qae k.lg (by omega)
 have c2:=Qaj k.pl (by omega)
 have c3:=Qq7 k.lk h hq
 generalize lgB k.lg=b1 at *
 generalize plB k.pl=b2 at *
 (unfold Tryz.f154; refine rn trivial ?_)
 refine rn F ?_
 repeat' (first
  | with_reducible exact⟨⟩
  | (refine sG F ?_ ?_<;>intro hZ)
  | refine vp F (c1) ?_
  | refine vp F (c2) ?_
  | refine vp F (c3) ?_)
 all_goals first | rfl | skip
def Qu2(k:Kn)(hk:k.smX)(h:1024<k.lk.sum)(hq:k.lk.held.length<=10000000/\k.lk.wait.length<=10000000):VCalls prog 131 [.agg k.d] [] (Ret (.bool false)):=by
 refine dd Tryz.func131 ?_
 have c1:=Qyv k hk h hq
 (unfold Tryz.f131; refine rn trivial ?_)
 refine rn F ?_
 repeat' (first
  | with_reducible exact⟨⟩
  | refine vp F (c1) ?_)
 all_goals first | rfl | skip
def adK(x:Lg)(a:An)(n:Int):Kn:=⟨a.pg,a.nx,x,(Qhb n).1,⟨a.lk,[]⟩,a.lo,a.ix,a.la⟩
def QzB(h:l.map (·.id)=m.map (·.id))(a:Int):idT l a=idT m a:=by
 have e:∀ l:List Tx,idT l a=Qk9 (l.map (·.id)) fun n=>n==a:=fun l=>by
  unfold idT Qk9
  rw[List.any_map,List.findIdx_map]
  rfl
 rw[e,e,h]
def QeV(h:Qbm l=true)(hi:i<l.length):idT l (l.getD i Tx0).id=i:=by
 have hs:=QdH h
 rw[Qd _ _ hi]
 rcases QB l l[i].id with hn | ⟨j,hj,h1,h2⟩
 ·have:=(QiZ (l:=l) (a:=l[i].id)).2 (Kt.2 ⟨l[i],Jk hi,rfl⟩)
  omega
 ·rw [h1]
  rw[JC] at hs
  rcases JH i j with h3 | h3 | h3
  ·have:=hs i j (by simpa using hi) (by simpa using hj) h3
   rw[Jt,Jt] at this
   omega
  ·omega
  ·have:=hs j i (by simpa using hj) (by simpa using hi) h3
   rw[Jt,Jt] at this
   omega
def QlY(h:(QT l e).2=0)(hk:e.kind=4)(ht:0<e.tx)(ha:a≠e.tx)(h0:0<=idT l a):Qa2 (QT l e).1 a=Qa2 l a:=by
 have hid:=QzB (Qkl h ⟨by omega,by omega⟩) a
 unfold Qa2
 rw[hid]
 unfold QT at h |-
 split at h
 ·simp at h
 rename_i q1
 split at h
 ·simp at h
 rename_i q2
 split at h
 ·omega
 rename_i q3
 split at h
 ·simp at h
 rename_i q4
 rw[if_neg q1,if_neg q2,if_neg q3,if_neg q4]
 rcases QB l e.tx with hn | ⟨i,hi,hid2,he⟩
 ·omega
 rcases QB l a with hn | ⟨j,hj,hjd,hja⟩
 ·omega
 rw[hid2,Ji] at h |-
 unfold Qkn at h |-
 split at h
 ·simp at h
 rename_i q5
 split at h
 ·rename_i q6; omega
 rename_i q6
 rw[if_neg q5,if_neg q6,hjd,Ji]
 have hij:i≠j:=fun h=>ha (by subst h; rw[<- hja,<- he])
 simp only[Jc,JJ hij]
structure AdS(x:Lg)(a:An)(n:Int) where
 i:Nat
 k:Kn
 hi:i<=a.lo.length
 hk:k.sm
 he:Str 0 (adK x a n) k
 hl:∀ j,i<=j->j<a.lo.length->0<=idT k.tx (a.lo.getD j Tx0).id/\Qa2 k.tx (a.lo.getD j Tx0).id=a.lo.getD j Tx0
def AdS.nx{a:An}{k k1:Kn}{i:Nat}(ht:Qbm a.lo=true){e:E}{n1 e1:Int}(hq:QtS k e (k1,n1,e1))(h:e1=0)(hk:e.kind=4)(hil:i<a.lo.length)(he:e.tx=(a.lo.getD i Tx0).id)
 (hl:∀ j,i<=j->j<a.lo.length->0<=idT k.tx (a.lo.getD j Tx0).id/\Qa2 k.tx (a.lo.getD j Tx0).id=a.lo.getD j Tx0):∀ j,i+1<=j->j<a.lo.length->0<=idT k1.tx (a.lo.getD j Tx0).id/\Qa2 k1.tx (a.lo.getD j Tx0).id=a.lo.getD j Tx0:=fun j h1 h2=>by
 obtain⟨q1,q2⟩:=hl j (by omega) h2
 refine⟨Qk4 hq h ⟨by omega,by omega⟩ q1,?_⟩
 obtain⟨e',⟨v,s,_,_,_,hn,_⟩,hk1,_,_⟩:=hq.2 h
 dsimp only at hk1
 subst hk1
 have i1:=QeV ht hil
 have i2:=QeV ht h2
 have ho:=QrS (QcV hn).2
 have hne:(a.lo.getD j Tx0).id≠e'.tx:=fun q=>by
  rw[s.2.1,he] at q
  rw[q,i1] at i2
  omega
 have hpos:0<e'.tx:=by
  have:=Qbg ht hil
  rw[s.2.1,he,Qd _ _ hil]
  simp only[Tx.okB,Tx.hdB,Jf,decide_eq_true_eq] at this
  omega
 exact(QlY hn (by rw[s.1]; exact hk) hpos hne q1).trans q2
def adQ(x:Lg)(a:An)(n:Int)(r:Kn×Int):Prop:=r.1.sm/\(r.2=0->kB (adK x a n)=true/\(adK x a n).pl.fs=[]/\Str 0 (adK x a n) r.1)
def Qvl(x:Lg)(hx:x.es.length<=4096)(a:An)(ha:a.sm 10000)(n:Int):VCalls prog 198 [.agg x.c,.agg a.d,.int .i64 n] [] (Qz kiD (adQ x a n)):=by
 refine dk Tryz.func198 ?_
 obtain⟨h1,h2,h3,h4⟩:=ha
 have c1:=Qq0 n
 have hf:=Qvr n
 have had:adK x a n=⟨a.pg,a.nx,x,(Qhb n).1,⟨a.lk,[]⟩,a.lo,a.ix,a.la⟩:=rfl
 unfold adQ
 have hst0:=fun k=>Str 0 (adK x a n) k
 clear hst0
 generalize hpn:Qhb n=p at *
 obtain⟨p,e0⟩:=p
 dsimp only at c1 hf had
 have err:∀ z,z≠0->Qz kiD (fun r:Kn×Int=>r.1.sm/\(r.2=0->kB (adK x a n)=true/\(adK x a n).pl.fs=[]/\Str 0 (adK x a n) r.1)) (kiD (Kn0,z)) []:=fun z hz=>⟨rfl,rfl,(Kn0,z),rfl,QbQ,fun h=>absurd h hz⟩
 (unfold Tryz.f198; refine rn trivial ?_)
 refine rn F ?_
 repeat' (first
  | with_reducible exact⟨⟩
  | (refine sB F ?_ ?_<;>intro hZ)
  | refine vp F (c1) ?_)
 all_goals first | exact err 1 (by decide) | skip
 by_cases hs:a.lk.length<=1024
 rotate_left
 ·have c2:=Qu2 ⟨a.pg,a.nx,x,p,⟨a.lk,[]⟩,a.lo,a.ix,a.la⟩ ⟨hx,by dsimp only; rw [hf]; exact Jd _,h1,h4,h3⟩ (by unfold Lk.sum; simp; omega) ⟨by dsimp only; omega,Jd _⟩
  refine rn F ?_
  refine VCalls.wkH ?_; simp only[QfM,Qen,QdV,Qdf,DV.wk,PV.wk,QC2]
  refine rn F ?_
  repeat' (first
   | with_reducible exact⟨⟩
   | refine vp F (c2) ?_)
  exact err 15 (by decide)
 have hk0:(⟨a.pg,a.nx,x,p,⟨a.lk,[]⟩,a.lo,a.ix,a.la⟩:Kn).sm:=⟨hx,by dsimp only; rw[hf]; exact Jd _,by unfold Lk.sum; simp; omega,h1,h4,h3⟩
 have c2:=QbE ⟨a.pg,a.nx,x,p,⟨a.lk,[]⟩,a.lo,a.ix,a.la⟩ hk0
 refine rn F ?_
 refine VCalls.wkH ?_; simp only[QfM,Qen,QdV,Qdf,DV.wk,PV.wk,QC2]
 cases hv:kB ⟨a.pg,a.nx,x,p,⟨a.lk,[]⟩,a.lo,a.ix,a.la⟩
 ·rw [hv] at c2
  refine rn F ?_
  repeat' (first
   | with_reducible exact⟨⟩
   | refine vp F (c2) ?_)
  exact err 15 (by decide)
 rw[hv] at c2
 rw[<- had] at hv
 have htb:Qbm a.lo=true:=by have:=(QiY hv).2.2.2.2.1; rw[had] at this; exact this
 refine rn F ?_
 repeat' (first
  | with_reducible exact⟨⟩
  | refine vp F (c2) ?_)
 have hlo:=h1.1
 have hpf:(adK x a n).pl.fs=[]:=by rw[had]; exact hf
 refine Qg (fun s:AdS x a n=>⟨72,0,[(11,.int .i64 s.i),(10,.ptr 4 0),(6,.ptr 2 0),(4,.ptr 1 0)],[⟨34,true,x.c⟩,⟨289,true,a.d⟩,⟨62,true,Kn.d Kn0⟩,⟨52,true,p.d⟩,⟨62,true,s.k.d⟩]⟩) (fun s=>a.lo.length-s.i) ⟨0,⟨a.pg,a.nx,x,p,⟨a.lk,[]⟩,a.lo,a.ix,a.la⟩,Jd _,hk0,by rw[had]; exact Str.refl _,fun j _ hj=>by
  have i1:=QeV htb hj
  exact⟨by dsimp only; rw[i1]; omega,QdG i1⟩⟩ (gc [0,1,2,3,4]) ?_
 rintro⟨i,k,hi,hk,he,hl⟩
 dsimp only
 by_cases hil:i<a.lo.length
 rotate_left
 ·skip
  refine rn F ?_
  exact⟨rfl,rfl,(k,0),rfl,hk,fun _=>⟨hv,hpf,he⟩⟩
 have hg:=QdO a.lo i hil
 have hl0:=hl i (Jz _) hil
 have hfp:(a.lo.getD i Tx0).st≠3->QCD k ⟨0,4,(a.lo.getD i Tx0).id,0,0,0,Ch0,[]⟩:=fun h=>⟨hl0.1,fun _=>by dsimp only; rw[hl0.2]; exact h,fun h=>by simp at h⟩
 have hnx:=fun k1 n1 e1 hq h=>AdS.nx (k1:=k1) (n1:=n1) (e1:=e1) htb (e:=⟨0,4,(a.lo.getD i Tx0).id,0,0,0,Ch0,[]⟩) hq h rfl hil rfl hl
 generalize htt:a.lo.getD i Tx0=t at *
 have c3:=QdK k hk ⟨0,4,t.id,0,0,0,Ch0,[]⟩
 have F:=@hg
 refine rn F ?_
 repeat' (first
  | with_reducible exact⟨⟩
  | (refine sB F ?_ ?_<;>intro hZ)
  | (refine Ql (c3) rfl ?_; rintro⟨k1,n1,e1⟩ hq; refine rn F ?_)
  | (refine Qc (id:=11) [0,1,2,3,4,5,6,7] [⟨[],[],8,[1,2,3,4,5,6],[9,10,11,12]⟩,⟨[],[],13,[11,12],[]⟩,⟨[],[],14,[],[]⟩] (by kernel_rfl) (by kernel_rfl) ?_; refine rn F ?_))
 all_goals first
  | exact err _ (by assumption)
  | exact⟨⟨i+1,k,hil,hk,he,fun j h1 h2=>hl j (by omega) h2⟩,by dsimp only; omega,(gc [0,1,2,3,4])⟩
  | exact⟨⟨i+1,k1,hil,hq.1,he.trans (QfS hq (by assumption) (.inr (.inl rfl)) (hfp (by assumption))),hnx k1 n1 e1 hq (by assumption)⟩,by dsimp only; omega,(gc [0,1,2,3,4])⟩
  | skip
def unf(s:List UInt8)(a:Int):List UInt8×Int×Int:=
 if a<0\/(s.length:Int)<a then ([],0,1)
 else if ¬ a.toNat+4<=s.length then ([],0,5)
 else if 8392<n4 s a.toNat then ([],0,2)
 else if ¬ a.toNat+4+n4 s a.toNat+4<=s.length then ([],0,5)
 else if ¬ (n4 s (a.toNat+4+n4 s a.toNat):Int)=Qly ((s.take (a.toNat+4+n4 s a.toNat)).drop a.toNat) then ([],0,3)
 else ((s.take (a.toNat+4+n4 s a.toNat)).drop (a.toNat+4),(a.toNat+4+n4 s a.toNat+4:Nat),0)
def QwJ(s:List UInt8)(a:Int):(unf s a).1.length<=s.length/\((unf s a).2.2=0->0<=a/\0<=(unf s a).2.1/\(unf s a).2.1<=s.length):=by
 unfold unf
 split
 ·exact⟨Jd _,fun h=>by simp at h⟩
 rename_i h1
 split
 ·exact⟨Jd _,fun h=>by simp at h⟩
 split
 ·exact⟨Jd _,fun h=>by simp at h⟩
 split
 ·exact⟨Jd _,fun h=>by simp at h⟩
 rename_i h2
 split
 ·exact⟨Jd _,fun h=>by simp at h⟩
 ·refine⟨by dsimp only; rw[JF,Jp]; omega,fun _=>⟨by omega,by dsimp only; omega,by dsimp only; omega⟩⟩
def QCN(s:List UInt8)(a:Int):DV:=.tup [.pv (.str (unf s a).1),.int .i64 (unf s a).2.1,.int .i64 (unf s a).2.2]
def QhH(s:List UInt8)(hs:s.length<=100000000)(a:Int):VCalls prog 239 [.pv (.str s),.int .i64 a] [] (Ret (QCN s a)):=by
 refine dd Tryz.func239 ?_
 unfold QCN unf
 by_cases h1:a<0
 ·rw [if_pos (.inl h1)]
  (unfold Tryz.f239; refine rn @h1 ?_; try with_reducible exact⟨⟩)
 ·by_cases h2:(s.length:Int) < a
  ·rw [if_pos (.inr h2)]
   (unfold Tryz.f239; refine rn (Jb @h1 @h2) ?_; try with_reducible exact⟨⟩)
  ·rw [if_neg (by omega)]
   obtain⟨k,rfl⟩:∃ k:Nat,a=k:=⟨a.toNat,by omega⟩
   rw[Ji]
   by_cases h3:k+4<=s.length
   ·rw [if_neg (by omega)]
    have hn:=Qy4 s k
    (unfold Tryz.f239; refine rn (Jb @h1 @h2) ?_)
    refine Qac (QBt s (by omega) k h3) rfl ?_
    by_cases h4:8392<n4 s k
    ·rw [if_pos h4]
     have h4':8392<(n4 s k:Int):=by omega
     (refine rn @h4' ?_; try with_reducible exact⟨⟩)
    ·rw [if_neg h4]
     have h4':¬ 8392<(n4 s k:Int):=by omega
     have hw:IntKind.u32.wrap (n4 s (k+4+n4 s k):Int)=(n4 s (k+4+n4 s k):Int):=by
      have:=Qy4 s (k+4+n4 s k)
      simp[IntKind.wrap,IntKind.signed,IntKind.bits]; omega
     by_cases h5:k+4+n4 s k+4<=s.length
     ·rw [if_neg (by omega)]
      have hg:=QBt s (by omega) (k+4+n4 s k) h5
      have e:(((k+4+n4 s k:Nat)):Int)=(k:Int)+4+(n4 s k:Int):=by omega
      rw[e] at hg
      have h5':¬ (s.length:Int)-(k:Int)<(n4 s k:Int)+8:=by omega
      refine rn (Jb @h4' @h5') ?_
      refine Qac hg rfl ?_
      have ht:((k:Int)+4+(n4 s k:Int)).toNat=k+4+n4 s k:=by omega
      have q1:(0:Int)<=(k:Int)+4+(n4 s k:Int):=by omega
      have q2:k<=k+4+n4 s k:=by omega
      have q3:k+4+n4 s k<=s.length:=by omega
      have hx:=Qlx ((s.take (k+4+n4 s k)).drop k)
      refine rn (Jb @ht (Jb @q1 (Jb @q2 (Jb @q3 @hw)))) ?_
      refine Qac (QmK _ (by rw[JF,Jp]; omega)) rfl ?_
      by_cases h6:(n4 s (k+4+n4 s k):Int)=Qly ((s.take (k+4+n4 s k)).drop k)
      ·rw [if_neg (by omega)]
       have q4:((k:Int)+4).toNat=k+4:=by omega
       have q5:k+4<=k+4+n4 s k:=by omega
       have q6:(0:Int)<=(k:Int)+4:=by omega
       have e8:(((k+4+n4 s k+4:Nat)):Int)=(k:Int)+8+(n4 s k:Int):=by omega
       refine rn (Jb @h6 (Jb @ht (Jb @q1 (Jb @q2 (Jb @q3 (Jb @q4 (Jb @q5 @q6))))))) ?_
       rw[e8]
      ·rw [if_pos h6]
       (refine rn @h6 ?_; try with_reducible exact⟨⟩)
     ·rw [if_pos (by omega)]
      have h5':(s.length:Int)-(k:Int)<(n4 s k:Int)+8:=by omega
      (refine rn (Jb @h4' @h5') ?_; try with_reducible exact⟨⟩)
   ·rw [if_pos h3]
    (unfold Tryz.f239; refine rn (Jb @h1 @h2) ?_)
    refine Qac (Qdm s k 4 (by omega) (by omega) (by omega)) rfl ?_
    (refine rn trivial ?_; try with_reducible exact⟨⟩)
section
structure RS(s:List UInt8) where
 at_:Int
 e:Int
 h:0<=at_/\at_<=s.length
def QlX(s:List UInt8)(a k:Nat):Int:=IntKind.i64.wrap (QeG s a k)
def QcC(s:List UInt8)(r:RS s)(k:Nat):Int×RS s:=
 if r.e=0 then if h:r.at_+k<=s.length then (QlX s r.at_.toNat k,⟨r.at_+k,0,by have:=r.h; omega⟩) else (0,⟨r.at_,5,r.h⟩) else (0,r)
def QeQ(s:List UInt8)(r:RS s)(n:Int):List UInt8×RS s:=
 if r.e=0 then if h:0<=n/\r.at_+n<=s.length then ((s.take (r.at_+n).toNat).drop r.at_.toNat,⟨r.at_+n,0,by have:=r.h; omega⟩) else ([],⟨r.at_,5,r.h⟩) else ([],r)
def Qo3(s:List UInt8)(p:Int×RS s):Ce×RS s :=
 if p.2.e=0/\¬ p.1=255 then
  if 12<p.1 then (Ce0,⟨p.2.at_,4,p.2.h⟩) else (⟨true,(QeQ s p.2 p.1).1⟩,(QeQ s p.2 p.1).2)
 else (Ce0,p.2)
def Qe2(s:List UInt8)(r:RS s):Ce×RS s:=Qo3 s (QcC s r 1)
def QlW(s:List UInt8)(a k:Nat)(h:k<=7):0<=QlX s a k/\QlX s a k<2 ^ (8*k):=by
 have h1:=QeF s a k (by omega)
 have h2:=Qkw s a k
 have h3:(2:Nat) ^ (8*k)<=2 ^ 56:=JD (by omega) (by omega)
 have h4:((2:Int) ^ (8*k))=((2 ^ (8*k):Nat):Int):=by rw[J6]; rfl
 unfold QlX
 rw[h1,IntKind.wrap_i64,h4]
 omega
def QrX(s:List UInt8)(r:RS s)(k:Nat)(h:k<=7):0<=(QcC s r k).1:=by
 unfold QcC
 split
 ·split
  ·exact(QlW s _ k h).1
  ·exact JA _
 ·exact JA _
abbrev RC(B:Blk)(d:DV):DV->Qa->Prop:=fun r h'=>∃ B',h'=[B']/\B'.live=true/\DV.nums.go (fun _=>false) B'.cells=true/\r.nums (fun _=>false)=true/\(r=d/\B'=B)
def rdB(T:TypeId)(s:List UInt8)(r:RS s):Blk:=⟨T,true,[.pv (.str s),.int .i64 r.at_,.int .i64 r.e]⟩
attribute [go_sem] rdB
attribute [local go_sem] Ce.d
def QdY(h:VCalls prog g (args.map (DV.ren fun _=>0)) [rdB T s r0] (RC (rdB T s r1) d))(hk:hp[k]?=some (rdB T s r0))(ha:DV.nums.go (fun i=>i==k) args=true)(hK:K d (hp.set k (rdB T s r1))):VCalls prog g args hp K:=
 (VCalls.ptr1 (R:=fun r B'=>r=d/\B'=rdB T s r1) hk rfl rfl h ha).mono fun r h' ⟨B',e1,_,_,e2,e3⟩=>by subst e1 e2 e3; exact hK
def Qb0(s:List UInt8)(hs:s.length<=100000000)(r:RS s)(k:Nat)(hk:1<=k/\k<=8):VCalls prog 270 [.ptr 0 0,.int .i64 k] [rdB 358 s r] (RC (rdB 358 s (QcC s r k).2) (.int .i64 (QcC s r k).1)):=by
 refine dd Tryz.func270 ?_
 obtain⟨a,e,ha⟩:=r
 obtain⟨n,rfl⟩:∃ n:Nat,a=n:=⟨a.toNat,by omega⟩
 unfold QcC
 dsimp only
 by_cases he:e=0
 ·subst he
  rw[if_pos rfl]
  by_cases h:(n:Int)+k<=s.length
  ·rw [dif_pos h]
   have hg:=QhJ s (by omega) n k hk (by omega)
   (unfold Tryz.f270; refine rn trivial ?_)
   refine Qc (id:=3) [0,1,2,3,4,5,6,7,8] [⟨[],[],9,[0,1,2,4,5,6],[10,11,12]⟩,⟨[],[],13,[12],[]⟩,⟨[],[],14,[],[]⟩] (by kernel_rfl) (by kernel_rfl) ?_
   refine rn trivial ?_
   refine Qac hg rfl ?_
   refine rn trivial ?_
   exact⟨_,rfl,rfl,rfl,rfl,rfl,rfl⟩
  ·rw [dif_neg h]
   have hg:=Qdm s n k (by omega) (by omega) h
   (unfold Tryz.f270; refine rn trivial ?_)
   refine Qc (id:=3) [0,1,2,3,4,5,6,7,8] [⟨[],[],9,[0,1,2,4,5,6],[10,11,12]⟩,⟨[],[],13,[12],[]⟩,⟨[],[],14,[],[]⟩] (by kernel_rfl) (by kernel_rfl) ?_
   refine rn trivial ?_
   refine Qac hg rfl ?_
   refine rn trivial ?_
   exact⟨_,rfl,rfl,rfl,rfl,rfl,rfl⟩
 ·rw [if_neg he]
  (unfold Tryz.f270; refine rn @he ?_)
  exact⟨_,rfl,rfl,rfl,rfl,rfl,rfl⟩
def Qni(s:List UInt8)(hs:s.length<=100000000)(r:RS s)(n:Int)(hn:0<=n/\n<=4294967296):VCalls prog 272 [.ptr 0 0,.int .i64 n] [rdB 358 s r] (RC (rdB 358 s (QeQ s r n).2) (.pv (.str (QeQ s r n).1))):=by
 refine dd Tryz.func272 ?_
 obtain⟨a,e,ha⟩:=r
 obtain⟨n,rfl⟩:∃ m:Nat,n=m:=⟨n.toNat,by omega⟩
 obtain⟨a,rfl⟩:∃ m:Nat,a=m:=⟨a.toNat,by omega⟩
 unfold QeQ
 dsimp only
 by_cases he:e=0
 ·subst he
  rw[if_pos rfl]
  by_cases h:0<=(n:Int)/\(a:Int)+n<=s.length
  ·rw [dif_pos h]
   have q1:¬ (s.length:Int)-a<n:=by omega
   have q2:¬ (s.length:Int)-a<n:=by omega
   have q3:¬ (s.length:Int)-(a:Int)<(n:Int):=by omega
   have q4:((a:Int)+n).toNat=a+n:=by omega
   have q5:(a:Int)+n-n=a:=by omega
   have q6:a<=a+n:=by omega
   have q7:a+n<=s.length:=by omega
   have q8:0<=(a:Int)+n:=by omega
   have q9:(a:Int).toNat=a:=by omega
   have q10:¬ (n:Int) > (s.length:Int)-a:=by omega
   (unfold Tryz.f272; refine rn @q3 ?_)
   refine Qg1 (by kernel_rfl) (by kernel_rfl) ?_
   refine rn (Jb @q3 @q10) ?_
   refine Qg1 (by kernel_rfl) (by kernel_rfl) ?_
   refine rn (Jb @q4 (Jb @q5 (Jb @q6 (Jb @q7 @q8)))) ?_
   exact⟨_,rfl,rfl,rfl,rfl,rfl,rfl⟩
  ·rw [dif_neg h]
   have q3:(s.length:Int)-(a:Int)<(n:Int):=by omega
   (unfold Tryz.f272; refine rn @q3 ?_)
   refine Qg1 (by kernel_rfl) (by kernel_rfl) ?_
   refine rn @q3 ?_
   exact⟨_,rfl,rfl,rfl,rfl,rfl,rfl⟩
 ·rw [if_neg he]
  (unfold Tryz.f272; refine rn @he ?_)
  exact⟨_,rfl,rfl,rfl,rfl,rfl,rfl⟩
def QkB(s:List UInt8)(hs:s.length<=100000000)(r:RS s):VCalls prog 271 [.ptr 0 0] [rdB 358 s r] (RC (rdB 358 s (Qe2 s r).2) (.agg (Qe2 s r).1.d)):=by
 refine dd Tryz.func271 ?_
 have hn:=Qb0 s hs r 1 (by omega)
 have h0:=QrX s r 1 (by omega)
 have h1:(QcC s r 1).1<=255:=by
  unfold QcC
  split
  ·split
   ·have:=(QlW s r.at_.toNat 1 (by omega)).2; dsimp only; omega
   ·simp
  ·simp
 unfold Qe2
 generalize QcC s r 1=p at hn h0 h1 |-
 obtain⟨n,r1⟩:=p
 unfold Qo3
 dsimp only at hn h0 h1 |-
 (unfold Tryz.f271; refine rn trivial ?_)
 refine QdY (k:=0) hn rfl rfl ?_
 by_cases he:r1.e=0
 ·by_cases h2:n = 255
  ·subst h2
   rw[if_neg (by simp)]
   refine rn @he ?_
   exact⟨_,rfl,rfl,rfl,rfl,rfl,by rw[<- he]⟩
  ·rw [if_pos ⟨he,h2⟩]
   by_cases h3:12<n
   ·rw [if_pos h3]
    refine rn (Jb @he (Jb @h2 @h3)) ?_
    exact⟨_,rfl,rfl,rfl,rfl,rfl,rfl⟩
   ·rw [if_neg h3]
    have ht:=Qni s hs r1 n (by omega)
    refine rn (Jb @he (Jb @h2 @h3)) ?_
    have e9:(⟨358,true,[.pv (.str s),.int .i64 r1.at_,.int .i64 0]⟩:Blk)=rdB 358 s r1:=by rw[rdB,he]
    rw[e9]
    refine QdY (k:=0) ht rfl rfl ?_
    refine rn trivial ?_
    exact⟨_,rfl,rfl,rfl,rfl,rfl,rfl⟩
 ·rw [if_neg (fun h=>he h.1)]
  refine rn @he ?_
  exact⟨_,rfl,rfl,rfl,rfl,rfl,rfl⟩
end
section
attribute [local go_sem] Ce.d
def rs0(s:List UInt8):RS s:=⟨0,0,by omega⟩
def Qvy(s:List UInt8)(r:RS s):(QcC s r 4).1<=4294967296:=by
 unfold QcC
 split
 ·split
  ·have:=(QlW s r.at_.toNat 4 (by omega)).2; dsimp only; omega
  ·simp
 ·simp
def Qs9(s:List UInt8):E×RS s:=
 let p1:=QcC s (rs0 s) 8
 let p2:=QcC s p1.2 1
 let p3:=QcC s p2.2 4
 let p4:=QcC s p3.2 8
 let p5:=QcC s p4.2 8
 let p6:=QcC s p5.2 8
 let p7:=QcC s p6.2 4
 let p8:=QcC s p7.2 1
 let c1:=Qe2 s p8.2
 let c2:=Qe2 s c1.2
 let p9:=QcC s c2.2 4
 let t:=QeQ s p9.2 p9.1
 (⟨p1.1,p2.1,p3.1,p4.1,p5.1,p6.1,⟨p7.1,p8.1,c1.1,c2.1⟩,t.1⟩,t.2)
def Qpn(s:List UInt8):E×Int:=
 if (Qs9 s).2.e=0 then if (Qs9 s).2.at_=s.length then if (Qs9 s).1.okB=true then ((Qs9 s).1,0) else (E0,12) else (E0,4) else (E0,(Qs9 s).2.e)
def Qov(s:List UInt8)(hs:s.length<=100000000):VCalls prog 241 [.pv (.str s)] [] (Ret (.tup [.agg (Qpn s).1.d,.int .i64 (Qpn s).2])):=by
 have hp1:=Qb0 s hs (rs0 s) 8 (by omega)
 generalize hqp1:QcC s (rs0 s) 8=p1 at hp1
 have hp2:=Qb0 s hs p1.2 1 (by omega)
 generalize hqp2:QcC s p1.2 1=p2 at hp2
 have hp3:=Qb0 s hs p2.2 4 (by omega)
 generalize hqp3:QcC s p2.2 4=p3 at hp3
 have hp4:=Qb0 s hs p3.2 8 (by omega)
 generalize hqp4:QcC s p3.2 8=p4 at hp4
 have hp5:=Qb0 s hs p4.2 8 (by omega)
 generalize hqp5:QcC s p4.2 8=p5 at hp5
 have hp6:=Qb0 s hs p5.2 8 (by omega)
 generalize hqp6:QcC s p5.2 8=p6 at hp6
 have hp7:=Qb0 s hs p6.2 4 (by omega)
 generalize hqp7:QcC s p6.2 4=p7 at hp7
 have hp8:=Qb0 s hs p7.2 1 (by omega)
 generalize hqp8:QcC s p7.2 1=p8 at hp8
 have hc1:=QkB s hs p8.2
 generalize hqc1:Qe2 s p8.2  = c1 at hc1
 have hc2:=QkB s hs c1.2
 generalize hqc2:Qe2 s c1.2  = c2 at hc2
 have hp9:=Qb0 s hs c2.2 4 (by omega)
 generalize hqp9:QcC s c2.2 4=p9 at hp9
 have ht:=Qni s hs p9.2 p9.1 ⟨by rw[<- hqp9]; exact QrX s _ 4 (by omega),by rw[<- hqp9]; exact Qvy s _⟩
 generalize hqt:QeQ s p9.2 p9.1=t at ht
 have hd:Qs9 s=(⟨p1.1,p2.1,p3.1,p4.1,p5.1,p6.1,⟨p7.1,p8.1,c1.1,c2.1⟩,t.1⟩,t.2):=by
  unfold Qs9
  simp only[hqp1,hqp2,hqp3,hqp4,hqp5,hqp6,hqp7,hqp8,hqc1,hqc2,hqp9,hqt]
 have hv:=Qcr ⟨p1.1,p2.1,p3.1,p4.1,p5.1,p6.1,⟨p7.1,p8.1,c1.1,c2.1⟩,t.1⟩
 unfold Qpn
 rw[hd]
 clear hqt hqp9 hqc2 hqc1 hqp8 hqp7 hqp6 hqp5 hqp4 hqp3 hqp2 hqp1 hd
 obtain⟨n1,r1⟩:=p1
 obtain⟨n2,r2⟩:=p2
 obtain⟨n3,r3⟩:=p3
 obtain⟨n4,r4⟩:=p4
 obtain⟨n5,r5⟩:=p5
 obtain⟨n6,r6⟩:=p6
 obtain⟨n7,r7⟩:=p7
 obtain⟨n8,r8⟩:=p8
 obtain⟨x1,r9⟩:=c1
 obtain⟨x2,r10⟩:=c2
 obtain⟨n9,r11⟩:=p9
 obtain⟨tt,r12⟩:=t
 dsimp only at *
 refine dd Tryz.func241 ?_
 (unfold Tryz.f241; refine rn trivial ?_)
 have e0:(⟨358,true,[.pv (.str s),.int .i64 0,.int .i64 0]⟩:Blk)=rdB 358 s (rs0 s):=rfl
 rw[e0]
 refine QdY (k:=1) hp1 rfl rfl ?_
 refine rn trivial ?_
 refine QdY (k:=1) hp2 rfl rfl ?_
 refine rn trivial ?_
 refine QdY (k:=1) hp3 rfl rfl ?_
 refine rn trivial ?_
 refine QdY (k:=1) hp4 rfl rfl ?_
 refine rn trivial ?_
 refine QdY (k:=1) hp5 rfl rfl ?_
 refine rn trivial ?_
 refine QdY (k:=1) hp6 rfl rfl ?_
 refine rn trivial ?_
 refine QdY (k:=1) hp7 rfl rfl ?_
 refine rn trivial ?_
 refine QdY (k:=1) hp8 rfl rfl ?_
 refine rn trivial ?_
 refine QdY (k:=1) hc1 rfl rfl ?_
 refine rn trivial ?_
 refine QdY (k:=1) hc2 rfl rfl ?_
 refine rn trivial ?_
 refine QdY (k:=1) hp9 rfl rfl ?_
 refine rn trivial ?_
 refine QdY (k:=1) ht rfl rfl ?_
 refine rn trivial ?_
 by_cases he:r12.e=0
 ·rw [if_pos he]
  by_cases ha:r12.at_=s.length
  ·rw [if_pos ha]
   refine rn (Jb @he @ha) ?_
   by_cases hb:E.okB ⟨n1,n2,n3,n4,n5,n6,⟨n7,n8,x1,x2⟩,tt⟩=true
   ·rw [if_pos hb]
    rw[hb] at hv
    refine Qac hv rfl ?_
    refine rn trivial ?_
    first | exact⟨⟩ | rfl
   ·rw [if_neg hb]
    have hb:E.okB ⟨n1,n2,n3,n4,n5,n6,⟨n7,n8,x1,x2⟩,tt⟩=false:=by simpa using hb
    rw[hb] at hv
    refine Qac hv rfl ?_
    refine rn trivial ?_
    rfl
  ·rw [if_neg ha]
   refine rn (Jb @he @ha) ?_
   rfl
 ·rw [if_neg he]
  refine rn @he ?_
  refine Qg1 (by kernel_rfl) (by kernel_rfl) ?_
  refine rn trivial ?_
  rfl
end
def Qgb(s:List UInt8)(a l:Int):Option (E×Int):=if (unf s a).2.2=0/\(Qpn (unf s a).1).2=0/\(Qpn (unf s a).1).1.lsn=l then some ((Qpn (unf s a).1).1,(unf s a).2.1) else none
def opn (s:List UInt8):Nat->Int->Int->List E
 | 0,_,_=>[]
 | n + 1,a,l=>match Qgb s a l with
   | some (x,b)=>x::opn s n b (l+1)
   | none=>[]
def QAK(s:List UInt8):List E:=opn s 4096 (unf s 0).2.1 (QlX (unf s 0).1 4 8)
def hdO(s:List UInt8):Prop:=(unf s 0).2.2=0/\(unf s 0).1.length=12/\(unf s 0).1.take 4=[80,77,76,71]/\1<=QlX (unf s 0).1 4 8/\QlX (unf s 0).1 4 8<=1099511627776
instance (s:List UInt8):Decidable (hdO s):=by unfold hdO; infer_instance
def QbY(s:List UInt8):Lg×Int:=if hdO s then (⟨QlX (unf s 0).1 4 8,QAK s,QlX (unf s 0).1 4 8+(QAK s).length-1⟩,0) else (Lg0,4)
def QrP (s:List UInt8):∀ n a l,(opn s n a l).length<=n
 | 0,_,_=>Jz _
 | n + 1,a,l=>by
   unfold opn
   split
   ·rw[Js]; have:=QrP s n; exact J3 (this _ _)
   ·exact Jd _
def Qm5(n:Nat)(h:Qgb s a l=none):opn s n a l=[]:=by
 cases n
 ·rfl
 ·unfold opn; rw[h]
def Qqt(h:(unf s a).2.2≠0):Qgb s a l=none:=if_neg fun x=>h x.1
structure Op(s:List UInt8)(f a0:Int) where
 l:List E
 a:Int
 hl:l.length<=4096
 h:l++opn s (4096-l.length) a (f+l.length)=opn s 4096 a0 f
def Op.start(s:List UInt8)(f a0:Int):Op s f a0:=⟨[],a0,Jd _,by simp⟩
def Qvu(hn:n<4096)(h:Qgb s a l=some (x,b)):opn s (4096-n) a l=x::opn s (4096-(n+1)) b (l+1):=by
 obtain⟨m,hm⟩:∃ m,4096-n=m+1:=⟨4095-n,by omega⟩
 rw[hm,show 4096-(n+1)=m by omega]
 conv=>lhs; unfold opn
 rw[h]
def Op.next{s:List UInt8}{f a0:Int}(o:Op s f a0)(hn:o.l.length<4096){x:E}{b:Int}(h:Qgb s o.a (f+o.l.length)=some (x,b)):Op s f a0:=⟨o.l++[x],b,by simp; omega,by
 have:=o.h
 rw[Qvu hn h] at this
 rw[<- this,Ja,Jw,Jl,List.singleton_append]
 congr 3
 omega⟩
def Op.stop(o:Op s f a0)(h:o.l.length<4096->Qgb s o.a (f+o.l.length)=none):opn s 4096 a0 f=o.l:=by
 rw[<- o.h]
 by_cases hc:o.l.length<4096
 ·rw[Qm5 _ (h hc),Jv]
 ·have:=o.hl
  rw[show 4096-o.l.length=0 by omega]; exact Jv _
def Qyx(s:List UInt8)(hs:s.length<=100000000):VCalls prog 196 [.pv (.str s)] [] (Ret (lgD (QbY s))):=by
 refine VCalls.unwk ?_
 refine dd Tryz.func196 ?_
 have c0:=QhH s hs 0
 have hu:=QwJ s 0
 generalize hR:QbY s=R
 unfold QCN at c0
 generalize hU:unf s 0=u at *
 obtain⟨u,a0,e0⟩:=u
 dsimp only at hu c0
 (unfold Tryz.f196; refine rn trivial ?_)
 by_cases he:e0=0
 rotate_left
 ·skip
  have F:=@he
  refine rn F ?_
  repeat' (first
   | with_reducible exact⟨⟩
   | refine vp F (c0) ?_)
  all_goals
   rw[<- hR]
   unfold QbY
   rw[if_neg (fun h=>by have h1:=h.1; rw[hU] at h1; exact he h1)]
   rfl
 subst he
 by_cases hl:u.length=12
 rotate_left
 ·have hl2:¬ (u.length:Int) = 12:=by omega
  have F:=@hl2
  refine rn F ?_
  repeat' (first
   | with_reducible exact⟨⟩
   | refine vp F (c0) ?_)
  all_goals first
   | (rw[<- hR]; unfold QbY; rw[if_neg (fun h=>by have h1:=h.2.1; rw[hU] at h1; exact hl h1)]; rfl)
   | (exfalso; omega)
 have h4:4<=u.length:=by omega
 have c3:=QhJ u (by omega) 4 8 (by omega) (by omega)
 have hN:IntKind.i64.wrap (QeG u 4 8)=QlX u 4 8:=rfl
 rw[hN] at c3
 generalize hn:QlX u 4 8=f at *
 have hl3:(u.length:Int)=12:=by omega
 by_cases hp:u.take 4=[80,77,76,71]
 rotate_left
 ·skip
  have F:=(Jb @h4 (Jb @hl3 @hp))
  refine rn F ?_
  repeat' (first
   | with_reducible exact⟨⟩
   | (refine sG F ?_ ?_<;>intro hZ)
   | (refine sB F ?_ ?_<;>intro hZ)
   | refine vp F (c0) ?_
   | refine vp F (c3) ?_)
  all_goals first
   | (rw[<- hR]; unfold QbY; rw[if_neg (fun h=>by have h1:=h.2.2.1; rw[hU] at h1; exact hp h1)]; rfl)
   | (exfalso; omega)
   | skip
  all_goals (exfalso; simp_all)
 by_cases hf:1<=f/\f<=1099511627776
 rotate_left
 ·skip
  have F:=(Jb @h4 (Jb @hl3 @hp))
  refine rn F ?_
  repeat' (first
   | with_reducible exact⟨⟩
   | (refine sG F ?_ ?_<;>intro hZ)
   | refine vp F (c0) ?_
   | refine vp F (c3) ?_)
  all_goals first
   | (rw[<- hR]; unfold QbY; rw[if_neg (fun h=>by have h1:=h.2.2.2; rw[hU,hn] at h1; exact hf h1)]; rfl)
   | (exfalso; omega)
 have F:=(Jb @h4 (Jb @hl3 @hp))
 refine rn F ?_
 repeat' (first
  | with_reducible exact⟨⟩
  | refine vp F (c0) ?_
  | refine vp F (c3) ?_)
 all_goals first | (exfalso; omega) | skip
 refine VLoop.nilOwnC 1 1 44 13 rfl rfl ?_
 refine rn trivial ?_
 refine Qg (fun o:{o:Op s f a0×Int // o.2=f+o.1.l.length-1}=>⟨90,0,[(9,.ptr 1 0),(5,.int .i64 o.1.1.a),(2,.ptr 0 0),(0,.pv (.str s))],[⟨34,true,[.int .i64 0,.pv (.slc []),.int .i64 0]⟩,⟨34,true,[.int .i64 f,.own 2 13 0 o.1.1.l.length,.int .i64 o.1.2]⟩,⟨44,true,cells encE o.1.1.l⟩]⟩) (fun o=>4096-o.1.1.l.length) ⟨(Op.start s f a0,f-1),by simp[Op.start]⟩ (gc [0,1,2]) ?_
 rintro⟨⟨o,d⟩,hd⟩
 dsimp only at hd |-
 have hol:=o.hl
 have hst:=o.stop
 have c4:=QhH s hs o.a
 unfold QCN at c4
 have hu2:=QwJ s o.a
 have hso:Qgb s o.a (f+o.l.length)=if (unf s o.a).2.2=0/\(Qpn (unf s o.a).1).2=0/\(Qpn (unf s o.a).1).1.lsn=f+o.l.length then some ((Qpn (unf s o.a).1).1,(unf s o.a).2.1) else none:=rfl
 generalize unf s o.a=v at *
 obtain⟨v,b,e⟩:=v
 dsimp only at hu2 hso c4
 have c5:=Qov v (by omega)
 generalize Qpn v=D at *
 have hb:(o.l.length+1)*128<=140737488355328:=by omega
 have fin:(o.l.length<4096->Qgb s o.a (f+o.l.length)=none)->DV.tup [.agg [.int .i64 f,.pv (.sl (fz encE o.l)),.int .i64 d],.int .i64 0]=lgD R:=fun h=>by
  have h1:hdO s:=by unfold hdO; rw[hU,hn]; exact⟨rfl,hl,hp,hf⟩
  have h2:QAK s=o.l:=by unfold QAK; rw[hU,hn]; exact hst h
  rw[<- hR,hd]
  unfold QbY
  rw[if_pos h1,h2,hU,hn]
  rfl
 have F:=@hb
 refine rn F ?_
 repeat' (first
  | with_reducible exact⟨⟩
  | (refine sG F ?_ ?_<;>intro hZ)
  | (refine sB F ?_ ?_<;>intro hZ)
  | refine vp F (c4) ?_
  | refine vp F (c5) ?_)
 ·exact fin fun _=>by rw[hso,if_neg fun h=>by have h1:=h.1; omega]
 ·exact fin fun _=>by rw[hso,if_neg fun h=>by have h1:=h.2.1; have h2:=h.2.2; omega]
 ·have hl1:(o.l ++ [D.1]).length = o.l.length + 1:=by simp
  refine⟨⟨(o.next (by omega) (x:=D.1) (b:=b) (by rw[hso,if_pos ⟨by omega,by omega,by omega⟩]),D.1.lsn),?_⟩,?_,?_⟩
  ·dsimp only[Op.next]; rw[hl1]; omega
  ·dsimp only[Op.next]; rw[hl1]; omega
  ·dsimp only [Op.next]
   rw[hl1]
   exact(gc [0,1,5])
 ·exact fin fun _=>by rw[hso,if_neg fun h=>by have h1:=h.2.1; omega]
 ·exact fin fun h=>by omega
def Qkx:∀ {k:Nat},(∀ i,i<k->s.getD (a+i) 0=t.getD (b+i) 0)->leN s a k=leN t b k
 | 0,_=>rfl
 | k+1,h=>by rw[leN,leN,Qkx (fun i hi=>h i (by omega)),h k (by omega)]
def Qsb(s t:List UInt8)(n:Int)(k:Nat)(hk:k<=8):leN (Qj s n k++t) s.length k=u64N n % 2 ^ (8*k):=by
 have h:=QgU s t n k hk k (Jz _)
 rw[QeF _ _ _ hk] at h
 omega
def frq(q:List UInt8):List UInt8:=Qj [] q.length 4++q
def Qmd(q:List UInt8):(frq q).length=q.length+4:=by rw[frq,Ja,Qb]; simp; omega
def QsK(h:q.length<=8392):frm q=Qj (frq q) (Qly (frq q)) 4:=by rw[frm,if_pos h]; rfl
def QgF(h:q.length<=8392):(frm q).length=q.length+8:=by rw[QsK h,Qb,Qmd]
def QrE(p q:List UInt8)(n:Int)(k:Nat):p++Qj q n k=Qj (p++q) n k:=by simp[Qj]
def QsJ(h:q.length<=8392)(p r:List UInt8):p++(frm q++r)=Qj (p++frq q) (Qly (frq q)) 4++r:=by
 rw[QsK h,<- QrE,Jl]
def QBM(h:q.length<=8392)(p r:List UInt8):n4 (p++(frm q++r)) p.length=q.length:=by
 have:=Qsb p (q++((Kw 4).map (QcE (Qly (frq q)))++r)) q.length 4 (by omega)
 have e:p++(frm q++r)=Qj p q.length 4++(q++((Kw 4).map (QcE (Qly (frq q)))++r)):=by
  rw[QsK h]
  generalize Qly (frq q)=z
  simp only[frq,Qj,JU,Jl]
 rw[n4,e,this]
 unfold u64N; omega
def QBL(h:q.length<=8392)(p r:List UInt8):(n4 (p++(frm q++r)) (p.length+4+q.length):Int)=Qly (frq q):=by
 have:=Qsb (p++frq q) r (Qly (frq q)) 4 (by omega)
 have hx:=Qlx (frq q)
 have hl:(p++frq q).length=p.length+4+q.length:=by rw[Ja,Qmd]; omega
 rw[QsJ h,n4,<- hl,this]
 unfold u64N; omega
def QB6(h:q.length<=8392)(p r:List UInt8):((p++(frm q++r)).take (p.length+4+q.length)).drop p.length=frq q:=by
 have hl:(p++frq q).length=p.length+4+q.length:=by rw[Ja,Qmd]; omega
 rw[QsJ h,Qj,Jl,List.take_left' hl,J1]
def QwK(h:q.length<=8392)(p r:List UInt8):unf (p++(frm q++r)) p.length=(q,((p.length+(q.length+8):Nat):Int),0):=by
 have h1:=QBM h p r
 have h2:=QBL h p r
 have h3:=QB6 h p r
 have hl:=QgF h
 have hs:(p++(frm q++r)).length=p.length+(q.length+8)+r.length:=by rw[Ja,Ja,hl]; omega
 unfold unf
 rw[Ji,if_neg (by omega),if_neg (by omega),h1,if_neg (by omega),if_neg (by omega),h2,h3,if_neg (by simp)]
 have e:((p++(frm q++r)).take (p.length+4+q.length)).drop (p.length+4)=q:=by
  rw[<- List.drop_drop,h3,frq,List.drop_left' (by rw[Qb]; rfl)]
 rw[e]
 congr 2
 omega
def QxU(h:q.length<=8392)(p:List UInt8)(k:Nat)(hk:k<q.length+8):(unf (p++(frm q).take k) p.length).2.2=5:=by
 have hl:=QgF h
 have hs:(p++(frm q).take k).length=p.length+k:=by rw[Ja,Jp]; omega
 unfold unf
 rw[Ji,if_neg (by omega)]
 by_cases h4:k<4
 ·rw[if_pos (by omega)]
 have h1:=QBM h p []
 have h0:n4 (p++(frm q).take k) p.length=q.length:=by
  rw[<- h1]
  refine Qkx fun i hi=>?_
  rw[Jc,Jc,JI (by omega),JI (by omega),Kh,if_pos (by omega),Jv]
 rw[if_neg (by omega),h0,if_neg (by omega),if_pos (by omega)]
def QxT(p:List UInt8):(unf p p.length).2.2=5:=by
 unfold unf
 rw[Ji,if_neg (by omega),if_pos (by omega)]
def QrW(s p:List UInt8)(n:Int)(k:Nat)(hk:k<=8)(hp:Qj p n k <+: s)(h:0<=n/\n<2 ^ (8*k)/\n<=9223372036854775807):QlX s p.length k=n:=by
 obtain⟨t,rfl⟩:=hp
 unfold QlX
 rw[QgU p t n k hk k (Jz _)]
 have e:u64N n % 2 ^ (8*k)=n.toNat:=by
  have h1:u64N n=n.toNat:=by unfold u64N; omega
  have h2:((2:Int) ^ (8*k))=((2 ^ (8*k):Nat):Int):=by rw[J6]; rfl
  rw[h1]
  exact Ki (by omega)
 rw[e,IntKind.wrap_i64]
 omega
def At{t:List UInt8}(r:RS t)(p:List UInt8):Prop:=(r.e=5/\t.length<p.length)\/(r.e=0/\r.at_=p.length)
def Qba(p:List UInt8)(n:Int)(k:Nat):p <+: Qj p n k:=JN _ _
def QwT{t s p:List UInt8}(ht:t <+: s)(hp:p <+: s)(hl:p.length<=t.length):p <+: t:=List.prefix_of_prefix_length_le hp ht hl
def QcU(ht:t <+: s)(n:Int)(k:Nat)(hk:k<=8)(hp:Qj p n k <+: s)(h:0<=n/\n<2 ^ (8*k)/\n<=9223372036854775807)(ha:At r p):
 At (QcC t r k).2 (Qj p n k)/\((QcC t r k).2.e=0->(QcC t r k).1=n):=by
 have hl:=Qb p n k
 unfold QcC
 rcases ha with⟨h1,h2⟩ | ⟨h1,h2⟩
 ·rw [if_neg (by omega)]
  refine⟨.inl ⟨h1,by omega⟩,fun h=>absurd (h1.symm.trans h) (by decide)⟩
 ·rw [if_pos h1]
  split
  ·rename_i hb
   refine⟨.inr ⟨rfl,by dsimp only; omega⟩,fun _=>?_⟩
   have e:r.at_.toNat=p.length:=by omega
   dsimp only
   rw[e]
   exact QrW t p n k hk (QwT ht hp (by omega)) h
  ·refine⟨.inl ⟨rfl,by omega⟩,fun h=>absurd (show(5:Int)=0 from h) (by decide)⟩
def Qqd(ht:t <+: s)(hp:p++d <+: s){n:Int}(ha:At r p)(hn:r.e=0->n=d.length):
 At (QeQ t r n).2 (p++d)/\((QeQ t r n).2.e=0->(QeQ t r n).1=d):=by
 have hl:(p++d).length=p.length+d.length:=Ja
 unfold QeQ
 rcases ha with⟨h1,h2⟩ | ⟨h1,h2⟩
 ·rw [if_neg (by omega)]
  refine⟨.inl ⟨h1,by omega⟩,fun h=>absurd (h1.symm.trans h) (by decide)⟩
 ·rw [if_pos h1]
  have hn:=hn h1
  split
  ·rename_i hb
   refine⟨.inr ⟨rfl,by dsimp only; omega⟩,fun _=>?_⟩
   have e:r.at_.toNat=p.length:=by omega
   have e2:(r.at_+n).toNat=(p++d).length:=by omega
   dsimp only
   rw[e,e2]
   have:=QwT ht hp (by omega)
   rw[<- List.prefix_iff_eq_take.1 this,J1]
  ·refine⟨.inl ⟨rfl,by omega⟩,fun h=>absurd (show(5:Int)=0 from h) (by decide)⟩
def Qtr(ht:t <+: s)(c:Ce)(hc:c.okB=true)(hp:Qag p c <+: s)(ha:At r p):
 At (Qe2 t r).2 (Qag p c)/\((Qe2 t r).2.e=0->(Qe2 t r).1=c):=by
 obtain⟨set,data⟩:=c
 simp only[Ce.okB,Jf,decide_eq_true_eq,Km,beq_iff_eq] at hc
 unfold Qe2 Qo3
 unfold Qag at hp |-
 cases set
 ·simp only [Bool.false_eq_true,if_false] at hp |-
  obtain⟨h1,h2⟩:=QcU (r:=r) ht 255 1 (by omega) hp ⟨by omega,by omega,by omega⟩ ha
  have hd:data=[]:=by rcases hc.2 with h | h; cases h; exact h
  subst hd
  split
  ·rename_i h
   exact absurd (h2 h.1) h.2
  ·exact⟨h1,fun _=>rfl⟩
 ·simp only [if_true] at hp |-
  obtain⟨h1,h2⟩:=QcU (r:=r) ht data.length 1 (by omega) ((JN _ _).trans hp) ⟨by omega,by omega,by omega⟩ ha
  split
  ·rename_i h
   have h3:=h2 h.1
   rw[if_neg (by omega)]
   obtain⟨h4,h5⟩:=Qqd ht hp h1 (n:=(QcC t r 1).1) (fun _=>h3)
   exact⟨h4,fun h=>by rw[h5 h]⟩
  ·rename_i h
   have h3:(QcC t r 1).2.e≠0:=fun e=>h ⟨e,by rw[h2 e]; omega⟩
   rcases h1 with⟨h4,h5⟩ | ⟨h4,h5⟩
   ·refine ⟨.inl ⟨h4,?_⟩,fun e=>absurd e h3⟩
    rw[Ja]; omega
   ·exact absurd h4 h3
def Qhf(h:(QcC t r k).2.e=0):r.e=0:=by
 unfold QcC at h
 split at h
 ·assumption
 ·exact h
def QA7(h:(QeQ t r n).2.e=0):r.e=0:=by
 unfold QeQ at h
 split at h
 ·assumption
 ·exact h
def Qxe(h:(Qe2 t r).2.e=0):r.e=0:=by
 unfold Qe2 Qo3 at h
 split at h
 ·rename_i hc
  exact Qhf hc.1
 ·exact Qhf h
def QDo(e:E)(h:e.okB=true):(0<=e.lsn/\e.lsn<=1099511627776)/\(0<=e.kind/\e.kind<256)/\(0<=e.tx/\e.tx<4294967296)/\(0<=e.ptx/\e.ptx<=1099511627776)/\(0<=e.ppg/\e.ppg<=1099511627776)/\(0<=e.ref/\e.ref<=1099511627776)/\(0<=e.c.pg/\e.c.pg<64)/\(0<=e.c.sl/\e.c.sl<16)/\e.c.b.okB=true/\e.c.a.okB=true:=by
 obtain⟨lsn,kind,tx,ptx,ppg,ref,⟨pg,sl,⟨b1,b2⟩,⟨a1,a2⟩⟩,blob⟩:=e
 simp only[E.okB,Jf,bef,decide_eq_true_eq] at h
 obtain⟨h0,h⟩:=h
 unfold E.kindB at h
 dsimp only at h0 h |-
 split at h
 ·simp[Ch.okB,Ce.okB,txB] at h |-; grind
 split at h
 ·simp[Ch.okB,Ce.okB,txB] at h |-; grind
 split at h
 ·simp[Ch.no,Ce.no,Ce.okB,txB] at h |-; grind
 split at h
 ·simp[Ch.no,Ce.no,Ce.okB] at h |-; grind
 split at h
 ·simp[Ch.ix,Ce.no,Ce.okB] at h |-; grind
 ·simp at h
def Qh7(p:List UInt8)(c:Ce):p <+: Qag p c:=by
 unfold Qag
 split
 ·exact(Qba _ _ _).trans (JN _ _)
 ·exact Qba _ _ _
def QCd(x:E)(h:x.okB=true)(ht:t <+: s)(hx:QkO x <+: s):At (Qs9 t).2 (QkO x)/\((Qs9 t).2.e=0->(Qs9 t).1=x):=by
 obtain⟨i1,i2,i3,i4,i5,i6,i7,i8,i9,i10⟩:=QDo x h
 obtain⟨l1,l2,l3⟩:=Qef h
 have a0:At (rs0 t) []:=.inr ⟨rfl,rfl⟩
 have P10:Qj (Qag (Qag (QaV x) x.c.b) x.c.a) x.blob.length 4 <+: s:=(JN _ _).trans hx
 have P9:Qag (Qag (QaV x) x.c.b) x.c.a <+: s:=(Qba _ _ _).trans P10
 have P8:Qag (QaV x) x.c.b <+: s:=(Qh7 _ _).trans P9
 have PH:QaV x <+: s:=(Qh7 _ _).trans P8
 unfold QaV at PH P8 P9 P10
 have P7:=(Qba _ _ _).trans PH
 have P6:=(Qba _ _ _).trans P7
 have P5:=(Qba _ _ _).trans P6
 have P4:=(Qba _ _ _).trans P5
 have P3:=(Qba _ _ _).trans P4
 have P2:=(Qba _ _ _).trans P3
 have P1:=(Qba _ _ _).trans P2
 obtain⟨b1,c1⟩:=QcU (r:=rs0 t) ht x.lsn 8 (by omega) P1 ⟨by omega,by omega,by omega⟩ a0
 obtain⟨b2,c2⟩:=QcU ht x.kind 1 (by omega) P2 ⟨by omega,by omega,by omega⟩ b1
 obtain⟨b3,c3⟩:=QcU ht x.tx 4 (by omega) P3 ⟨by omega,by omega,by omega⟩ b2
 obtain⟨b4,c4⟩:=QcU ht x.ptx 8 (by omega) P4 ⟨by omega,by omega,by omega⟩ b3
 obtain⟨b5,c5⟩:=QcU ht x.ppg 8 (by omega) P5 ⟨by omega,by omega,by omega⟩ b4
 obtain⟨b6,c6⟩:=QcU ht x.ref 8 (by omega) P6 ⟨by omega,by omega,by omega⟩ b5
 obtain⟨b7,c7⟩:=QcU ht x.c.pg 4 (by omega) P7 ⟨by omega,by omega,by omega⟩ b6
 obtain⟨b8,c8⟩:=QcU ht x.c.sl 1 (by omega) PH ⟨by omega,by omega,by omega⟩ b7
 obtain⟨b9,c9⟩:=Qtr ht x.c.b i9 P8 b8
 obtain⟨b10,c10⟩:=Qtr ht x.c.a i10 P9 b9
 obtain⟨b11,c11⟩:=QcU ht x.blob.length 4 (by omega) P10 ⟨by omega,by omega,by omega⟩ b10
 obtain⟨b12,c12⟩:=Qqd ht hx b11 c11
 unfold Qs9
 dsimp only
 refine⟨b12,fun e12=>?_⟩
 have e11:=QA7 e12
 have e10:=Qhf e11
 have e9:=Qxe e10
 have e8:=Qxe e9
 have e7:=Qhf e8
 have e6:=Qhf e7
 have e5:=Qhf e6
 have e4:=Qhf e5
 have e3:=Qhf e4
 have e2:=Qhf e3
 have e1:=Qhf e2
 rw[c1 e1,c2 e2,c3 e3,c4 e4,c5 e5,c6 e6,c7 e7,c8 e8,c9 e9,c10 e10,c12 e12]
def QCc(x:E)(h:x.okB=true):Qpn (QkO x)=(x,0):=by
 obtain⟨h1,h2⟩:=QCd x h (J4 _) (J4 _)
 unfold Qpn
 rcases h1 with⟨h3,h4⟩ | ⟨h3,h4⟩
 ·omega
 ·rw[if_pos h3,if_pos h4,h2 h3,if_pos h]
def Qex(h:e.okB=true):(QkO e).length<=8392:=by
 obtain⟨l1,l2,l3⟩:=Qef h
 have n1:=Qbx (QaV e) e.c.b
 have n2:=Qbx (Qag (QaV e) e.c.b) e.c.a
 rw[Qdu] at n1
 unfold QkO
 rw[Ja,Qb]
 omega
def Qw6(h:e.okB=true):frE e=frm (QkO e):=by unfold frE Qho; rw[if_pos h]
def Qus(h:e.okB=true)(p r:List UInt8):Qgb (p++(frE e++r)) p.length e.lsn=some (e,((p.length+(frE e).length:Nat):Int)):=by
 have h1:=QwK (Qex h) p r
 have h2:=QCc e h
 have hl:=QgF (Qex h)
 rw[Qw6 h]
 unfold Qgb
 rw[h1]
 dsimp only
 rw[h2,if_pos ⟨rfl,rfl,rfl⟩,hl]
def QqG(l:Int)(es:List E):Prop:=∀ i:Nat,i<es.length->(es.getD i E0).lsn=l+i/\(es.getD i E0).okB=true
def QjT(h:QqG l (e::r)):e.lsn=l/\e.okB=true/\QqG (l+1) r:=by
 have h0:=h 0 (by simp)
 refine⟨by simpa using h0.1,by simpa using h0.2,fun i hi=>?_⟩
 have:=h (i+1) (by simpa using hi)
 simp only[JX] at this
 exact⟨by omega,this.2⟩
def QhQ (r:List UInt8):∀ (es:List E) (p:List UInt8) (l:Int) (n:Nat),QqG l es->es.length<=n ->
 opn (p++(es.flatMap frE++r)) n p.length l=es++opn (p++(es.flatMap frE++r)) (n-es.length) ((p.length+(es.flatMap frE).length:Nat):Int) (l+es.length)
 | [],p,l,n,_,_=>by simp
 | e :: t,p,l,n,h,hn=>by
   obtain⟨h1,h2,h3⟩:=QjT h
   rw[Js] at hn
   obtain⟨m,rfl⟩:∃ m,n=m+1:=⟨n-1,by omega⟩
   have hs:p++((e::t).flatMap frE++r)=p++(frE e++(t.flatMap frE++r)):=by rw[JB]; simp only[Jl]
   have hs2:p++((e::t).flatMap frE++r)=(p++frE e)++(t.flatMap frE++r):=by rw[JB]; simp only[Jl]
   have h4:=Qus h2 p (t.flatMap frE++r)
   rw[<- hs,h1] at h4
   have ih:=QhQ r t (p++frE e) (l+1) m h3 (by omega)
   rw[<- hs2] at ih
   have e1:opn (p++((e::t).flatMap frE++r)) (m+1) p.length l=e::opn (p++((e::t).flatMap frE++r)) m ((p.length+(frE e).length:Nat):Int) (l+1):=by
    conv=>lhs; unfold opn
    rw[h4]
   rw[e1,<- Ja,ih,Js,JB,Ja,Ja]
   rw[show m+1-(t.length+1)=m-t.length by omega,List.cons_append]
   congr 3
   ·omega
   ·omega
def QkF(r:List UInt8):unf (Qc2 f++r) 0=(Qj [80,77,76,71] f 8,20,0):=by
 have:=QwK (q:=Qj [80,77,76,71] f 8) (by rw[Qb]; simp) [] r
 rw[JU] at this
 unfold Qc2
 rw[show(([]:List UInt8).length:Int)=0 from rfl] at this
 rw[this,Qb]
 rfl
def QeX(f:Int):(Qc2 f).length=20:=by
 unfold Qc2
 rw[QgF (by rw[Qb]; simp),Qb]; rfl
def QvU(h:1<=f/\f<=1099511627776)(r:List UInt8):hdO (Qc2 f++r)/\QlX (unf (Qc2 f++r) 0).1 4 8=f:=by
 have h1:=QkF (f:=f) r
 have h2:QlX (Qj [80,77,76,71] f 8) 4 8=f:=QrW _ [80,77,76,71] f 8 (by omega) (J4 _) ⟨by omega,by omega,by omega⟩
 unfold hdO
 rw[h1]
 dsimp only
 refine⟨⟨rfl,by rw[Qb]; rfl,?_,by omega,by omega⟩,h2⟩
 simp[Qj]
def Qkc(h:1<=f/\f<=1099511627776)(he:QqG f es)(hl:es.length<=4096)(r:List UInt8)(hr:es.length<4096->Qgb (Qc2 f++(es.flatMap frE++r)) ((20+(es.flatMap frE).length:Nat):Int) (f+es.length)=none):QbY (Qc2 f++(es.flatMap frE++r))=(⟨f,es,f+es.length-1⟩,0):=by
 obtain⟨h1,h2⟩:=QvU h (es.flatMap frE++r)
 have h3:=QkF (f:=f) (es.flatMap frE++r)
 have h4:=QhQ r es (Qc2 f) f 4096 he hl
 rw[QeX] at h4
 have h5:QAK (Qc2 f++(es.flatMap frE++r))=es:=by
  unfold QAK
  rw[h2,h3]
  dsimp only
  refine h4.trans ?_
  by_cases hc:es.length<4096
  ·rw[Qm5 _ (hr hc),Jv]
  ·rw[show 4096-es.length=0 by omega]; exact Jv _
 unfold QbY
 rw[if_pos h1,h2,h5]
def Ql3(h:lgB x=true):QqG x.f x.es:=by
 unfold lgB at h
 simp only[Jf,Jr,Ju] at h
 intro i hi
 have:=h.2 i hi
 simpa [lgC] using this
def QBR(h:x.hd)(hs:QqG x.f x.es):lgB x=true:=by
 unfold lgB
 rw[decide_eq_true h,Bool.true_and,Jr]
 intro i hi
 have:=hs i (Ju.1 hi)
 simpa [lgC] using this
def QsB{α:Type}(l:List α)(n i:Nat)(h:i<n)(d:α):(l.take n).getD i d=l.getD i d:=by
 rw[Jc,Jc,Kh,if_pos h]
def QqE(h:QqG l es)(n:Nat):QqG l (es.take n):=fun i hi=>by
 rw[Jp] at hi
 rw[QsB _ _ _ (by omega)]
 exact h i (by omega)
def QgH:∀ (es:List E) (t:Nat),∃ j m,j<=es.length/\(es.flatMap frE).take t = (es.take j).flatMap frE ++ (frE (es.getD j E0)).take m/\(j < es.length->m < (frE (es.getD j E0)).length)/\(j = es.length->m = 0)
 | [],t=>⟨0,0,Jz _,by simp,fun h=>absurd h (by simp),fun _=>rfl⟩
 | e :: r,t=>by
   by_cases h:t<(frE e).length
   ·refine ⟨0,t,Jd _,?_,fun _=>by simpa using h,fun h=>absurd h (by simp)⟩
    rw[JB,JT (by omega)]
    simp
   ·obtain ⟨j,m,h1,h2,h3,h4⟩:=QgH r (t - (frE e).length)
    refine⟨j+1,m,by rw[Js]; omega,?_,fun h=>?_,fun h=>?_⟩
    ·rw[JB,List.take_append,Jo (by omega),h2,Ke,JB,JX,Jl]
    ·rw [Js] at h
     rw[JX]; exact h3 (by omega)
    ·rw [Js] at h
     exact h4 (by omega)
def Qfe:∀ (es:List E),QqG l es->l - 1<=d->d<=l + es.length - 1->(es.filter fun e=>decide (e.lsn<=d)) = es.take (d - l + 1).toNat/\(es.filter fun e=>!decide (e.lsn<=d)) = es.drop (d - l + 1).toNat
 | [],_,h1,h2=>by simp
 | e :: r,h,h1,h2=>by
   obtain⟨a1,a2,a3⟩:=QjT h
   rw[Js] at h2
   by_cases hc:l<=d
   ·obtain ⟨b1,b2⟩:=Qfe (d:=d) (l:=l + 1) r a3 (by omega) (by omega)
    obtain⟨k,hk,hk2⟩:∃ k,(d-l+1).toNat=k+1/\(d-(l+1)+1).toNat=k:=⟨(d-l).toNat,by omega,by omega⟩
    rw[hk2] at b1 b2
    rw[hk,Ke,List.drop_succ_cons,Kk,Kk,if_pos (by simp; omega),if_neg (by simp; omega),b1,b2]
    exact⟨rfl,rfl⟩
   ·have hk:(d - l + 1).toNat = 0:=by omega
    rw[hk,JR,List.drop_zero]
    have hall:∀ x∈(e::r),¬ x.lsn<=d:=fun x hx=>by
     obtain⟨i,hi,rfl⟩:=JV hx
     have:=(h i hi).1
     rw[Qd _ _ hi] at this
     omega
    refine⟨List.filter_eq_nil_iff.2 fun x hx=>by have:=hall x hx; simp; omega,List.filter_eq_self.2 fun x hx=>by have:=hall x hx; simp; omega⟩
def QoS(h:lgB x=true)(torn:Int):∃ n,(x.d-x.f+1).toNat<=n/\n<=x.es.length/\QbY (Qc9 x torn)=(⟨x.f,x.es.take n,x.f+n-1⟩,0):=by
 have hh:=Qan h
 simp only[Lg.hd] at hh
 have hs:=Ql3 h
 obtain⟨f1,f2⟩:=Qfe (d:=x.d) (l:=x.f) x.es hs (by omega) (by omega)
 unfold Qc9
 rw[if_pos h]
 unfold Qpm Qrg
 rw[f1,f2]
 generalize hk:(x.d-x.f+1).toNat=k
 obtain⟨j,m,h1,h2,h3,h4⟩:=QgH (x.es.drop k) torn.toNat
 rw[JF] at h1 h3 h4
 have hget:(x.es.drop k).getD j E0=x.es.getD (k+j) E0:=by
  rw[Jc,Jc,List.getElem?_drop]
 have htk:x.es.take k++(x.es.drop k).take j=x.es.take (k+j):=by rw[<- List.take_add]
 have hlen:(x.es.take (k+j)).length=k+j:=by rw[Jp]; omega
 refine⟨k+j,by omega,by omega,?_⟩
 rw[h2,hget,Jl,<- Jl,<- Jl,Jl,Jl,<- Jl (List.flatMap frE _),<- JW,htk]
 have:=Qkc (f:=x.f) ⟨by omega,by omega⟩ (QqE hs (k+j)) (by rw[hlen]; omega) ((frE (x.es.getD (k+j) E0)).take m) (fun _=>Qqt (by
  by_cases hc:j<x.es.length-k
  ·have h5:=h3 hc
   rw[hget] at h5
   have hok:=(hs (k+j) (by omega)).2
   rw[Qw6 hok] at h5 |-
   rw[QgF (Qex hok)] at h5
   have:=QxU (Qex hok) (Qc2 x.f++(x.es.take (k+j)).flatMap frE) m h5
   rw[Ja,QeX,Jl] at this
   rw[this]; decide
  ·rw [h4 (by omega),JR,Jv]
   have:=QxT (Qc2 x.f++(x.es.take (k+j)).flatMap frE)
   rw[Ja,QeX] at this
   rw[this]; decide))
 rw[hlen] at this
 exact this
def QrQ(s:List UInt8):(QbY s).1.es.length<=4096:=by
 unfold QbY
 split
 ·exact QrP _ _ _ _
 ·exact Jd _
def CrR(x:Lg)(n m:Int)(k:Kn):Prop:=lgB x=true/\(1<=n/\n<=64)/\∃ a lk,AnC x n x.es.length a/\kB (adK x (loF a lk) m)=true/\(adK x (loF a lk) m).pl.fs=[]/\Str 0 (adK x (loF a lk) m) k
def Qq3(v:Dv)(hv:v.ps.length<=64)(s:List UInt8)(hs:s.length<=100000000)(n m:Int):VCalls prog 153 [.agg v.d,.pv (.str s),.int .i64 n,.int .i64 m] [] (Qz svD fun r=>r.1.sm/\(r.2=0->(QbY s).2=0/\CrR (QbY s).1 n m r.1.k)):=by
 refine dk Tryz.func153 ?_
 have c1:=Qyx s hs
 have hl:=QrQ s
 generalize QbY s=o at *
 obtain⟨x,e0⟩:=o
 dsimp only at hl c1 |-
 have c2:=Qok x hl n
 have c3:=fun a ha=>Qvl x hl a ha m
 have err:∀ z,z≠0->Qz svD (fun r=>r.1.sm/\(r.2=0->e0=0/\CrR x n m r.1.k)) (svD (Sv0,z)) []:=fun z hz=>⟨rfl,rfl,(Sv0,z),rfl,Qde,fun h=>absurd h hz⟩
 (unfold Tryz.f153; refine rn trivial ?_)
 refine rn F ?_
 repeat' (first
  | with_reducible exact⟨⟩
  | (refine sB F ?_ ?_<;>intro hZ)
  | refine vp F (c1) ?_
  | (refine Ql (c2) rfl ?_; rintro⟨a,e1⟩ ha; refine rn F ?_)
  | (refine Ql (c3 a ha.1) rfl ?_; rintro⟨k,e2⟩ hk; refine rn F ?_))
 all_goals first
  | exact err _ (by assumption)
  | exact⟨rfl,rfl,(⟨k,v⟩,0),rfl,⟨hk.1,hv⟩,fun _=>⟨by assumption,by
   obtain⟨g1,g2,a0,lk,g3,g4⟩:=ha.2 (by assumption)
   have g5:=hk.2 (by assumption)
   dsimp only at g4
   subst g4
   exact⟨g1,g2,a0,lk,g3,g5⟩⟩⟩
  | skip
def Qq2(v:Dv)(hv:v.ps.length<=64)(s:List UInt8)(hs:s.length<=100000000)(n m:Int):VCalls prog 130 [.agg v.d,.pv (.str s),.int .i64 n,.int .i64 m] [] (Qz svD fun r=>r.1.sm/\(r.2=0->(QbY s).2=0/\CrR (QbY s).1 n m r.1.k)):=by
 refine dk Tryz.func130 ?_
 have c1:=Qq3 v hv s hs n m
 generalize QbY s=o at *
 (unfold Tryz.f130; refine rn trivial ?_)
 refine rn F ?_
 repeat' (first
  | with_reducible exact⟨⟩
  | (refine Ql (c1) rfl ?_; rintro⟨k,e⟩ hk; refine rn F ?_))
 all_goals first
  | exact⟨rfl,rfl,(k,e),rfl,hk⟩
  | skip
section
attribute [local go_sem] Qa5
@[go_sem] def crD(a:Dv×Lg×Int):DV:=.tup [.agg a.1.d,.pv (.str (Qc9 a.2.1 a.2.2))]
def crQ(s:Sv)(a:Dv×Lg×Int):Prop:=a.1.ps.length<=64/\a.2.1.f=s.k.lg.f/\a.2.1.es=s.k.lg.es/\(lgB s.k.lg=true->lgB a.2.1=true)
def QqW(s:Sv)(hs:s.sm)(torn id cut:Int):VCalls prog 129 [.agg s.d,.int .i64 torn,.int .i64 id,.int .i64 cut] [] (Qz crD (crQ s)):=by
 refine dk Tryz.func129 ?_
 have c1:=Qcs s.k.pl (Jq hs.1.2.1 (by decide)) id
 have hl:=hs.1.1
 have c2:=QmW s.k.lg (by omega) torn
 have c3:=fun d=>QmW ⟨s.k.lg.f,s.k.lg.es,d⟩ (by dsimp only; omega) torn
 have h0:crQ s (s.v,s.k.lg,torn):=⟨hs.2,rfl,rfl,fun h=>h⟩
 (unfold Tryz.f129; refine rn trivial ?_)
 refine rn F ?_
 repeat' (first
  | with_reducible exact⟨⟩
  | (refine Qc (id:=1) [0,1,2,3] [⟨[4,5],[4],6,[2,3],[]⟩,⟨[5],[5],7,[],[]⟩] (by kernel_rfl) (by kernel_rfl) ?_; refine rn F ?_))
 refine vp hl c1 ?_
 rcases QbN s.k.pl id with hn | ⟨_,i,hi,hfi,_⟩
 ·rw [hn]
  refine rn @hl ?_
  refine rn F ?_
  repeat' (first
   | with_reducible exact⟨⟩
   | refine vp F (c2) ?_
   | (refine Qc (id:=9) [0,1,2,3] [⟨[],[],4,[0,1],[]⟩,⟨[],[],5,[1,2,3],[]⟩,⟨[],[],6,[],[]⟩] (by kernel_rfl) (by kernel_rfl) ?_; refine rn F ?_))
  exact⟨rfl,rfl,(s.v,s.k.lg,torn),rfl,h0⟩
 ·rw [hfi]
  have hg:=QbV s.k.pl.fs i hi
  generalize s.k.pl.fs.getD i Fm0=f at *
  have c4:=QlG f.pg
  have c5:=Qd9 s.k hs.1 f.pg.lsn
  refine rn @hg ?_
  have c6:=fun b (hb:b.length<=256)=>Qyj s.v (Jq hs.2 (by decide)) id b (Jq hb (by decide)) cut
  have F:=@hg
  refine rn F ?_
  repeat' (first
   | with_reducible exact⟨⟩
   | (refine sB F ?_ ?_<;>intro hZ)
   | refine vp F (c2) ?_
   | (refine Ql (c4) rfl ?_; rintro⟨b,e1⟩ hb; refine rn F ?_)
   | (refine Ql (c5) rfl ?_; rintro d hd; refine rn F ?_)
   | (refine Ql (c6 b hb) rfl ?_; rintro⟨v2,e2⟩ hv; refine rn F ?_)
   | refine vp F (c3 d) ?_
   | (refine Qc (id:=5) [0,1,2,3,4,5,6,7,8] [⟨[],[],9,[1,2,3,4,5,6,7],[]⟩,⟨[],[],10,[],[]⟩] (by kernel_rfl) (by kernel_rfl) ?_; refine rn F ?_)
   | (refine Qc (id:=9) [0,1,2,3] [⟨[],[],4,[0,1],[]⟩,⟨[],[],5,[1,2,3],[]⟩,⟨[],[],6,[],[]⟩] (by kernel_rfl) (by kernel_rfl) ?_; refine rn F ?_))
  all_goals first
   | exact⟨rfl,rfl,(s.v,s.k.lg,torn),rfl,h0⟩
   | exact⟨rfl,rfl,(v2,⟨s.k.lg.f,s.k.lg.es,d⟩,torn),rfl,hv,rfl,rfl,hd⟩
   | exact⟨rfl,rfl,(s.v,⟨s.k.lg.f,s.k.lg.es,d⟩,torn),rfl,hs.2,rfl,rfl,hd⟩
   | skip
end
section
attribute [local go_sem] Qa5
def CrK(k k':Kn):Prop:=∃ j,j<=k.lg.es.length/\CrR ⟨k.lg.f,k.lg.es.take j,k.lg.f+j-1⟩ k.pg k.pl.size k'
structure ICr(I:Nat->Kn->Prop):Prop where
 st:Qpp I
 ok:∀ m k,I m k->lgB k.lg=true
 cr:∀ m k k',CrK k k'->I m k->I (m+1) k'
def Qz5(hI:ICr I)(hf:y.f=k.lg.f)(he:y.es=k.lg.es)(hv:lgB k.lg=true->lgB y=true)(h:CrR (QbY (Qc9 y t)).1 k.pg k.pl.size k')(m:Nat)(hm:I m k):I (m+1) k':=by
 obtain⟨n,h1,h2,h3⟩:=QoS (hv (hI.ok m k hm)) t
 rw[h3] at h
 dsimp only at h
 rw[hf,he] at h
 exact hI.cr m k k' ⟨n,by rw[<- he]; omega,h⟩ hm
def Qtg(hx:x.es.length<=4096)(t:Int):(Qc9 x t).length<=100000000:=by
 have h9:=QkG x.f
 have h8:=Qns x.es x.d
 have h7:=QmU x.es x.d
 unfold Qc9
 split
 ·rw [Ja,Ja,Jp]
  omega
 ·exact Jd _
structure Tz(n:Nat) where
 i:Nat
 l:List Int
 hi:i<=n
 hl:l.length=n
def crI(I:Nat->Kn->Prop)(c:Sc)(n m:Nat)(c':Sc)(_:Rs):Prop:=m=0/\c'.sm n/\∀ q,I q c.s.k->I (q+1) c'.s.k
def Qrs(I:Nat->Kn->Prop)(hIc:ICr I)(c:Sc)(n:Nat)(hn:n<=2000)(hc:c.sm n)(t:Sp):VCalls prog 116 [.ptr 0 0,.agg t.d] [scB c 1 2,scT c.tx,scR c.rd] (ScEnd rsD (crI I c n)):=by
 refine QH (fn:=Tryz.f116) Tryz.func116 rfl (by kernel_rfl) (by simp[Tryz.f116]) ?_
 have c1:=QqW c.s hc.1 t.torn t.pg t.cut
 (unfold Tryz.f116; refine rn trivial ?_)
 refine rn F ?_
 repeat' (first
  | with_reducible exact⟨⟩
  | (refine Ql (c1) rfl ?_; rintro⟨v,y,tn⟩ hq; refine rn F ?_)
  | (refine Qa0 (id:=1) [[],[0],[0,1],[0,1,2],[],[4],[],[6],[],[8],[0,1,2,3,4,5,6,7,8,9],[0,1,2,3,4,5,6,7,8,9,10],[0,1,2,3,4,5,6,7,8,9,10,11],[0,1,2,3,4,5,6,7,8,9,10,11],[],[0,1,2,3,4,5,6,7,8,9,10,11,12,14],[0,1,2,3,4,5,6,7,8,9,10,11,12,13,14,15]] [0,1,2,3,4,5,6,7,8,9] [⟨[14],[],10,[],[11,12,13]⟩,⟨[14],[14],15,[13],[]⟩,⟨[],[],16,[],[]⟩] (by kernel_rfl) (by kernel_rfl) (by kernel_rfl) ?_; refine rn F ?_)
  | (refine Qa0 (id:=2) [[],[],[],[2],[2,3],[2,3,4],[2,3,4,5],[2,3,4,5,6],[],[8],[8,9],[8,9,10],[8,9,10,11],[8,9,10,11,12],[8,9,10,11,12,13],[0,1,2,3,4,5,6,7,8,9,10,11,12,13,14],[0,1,2,3,4,5,6,7,8,9,10,11,12,13,14,15],[0,1,2,3,4,5,6,7,8,9,10,11,12,13,14,15,16],[0,1,2,3,4,5,6,7,8,9,10,11,12,13,14,15,16],[],[0,1,2,3,4,5,6,7,8,9,10,11,12,13,14,15,16,17,19],[0,1,2,3,4,5,6,7,8,9,10,11,12,13,14,15,16,17,18,19,20]] [0,1,2,3,4,5,6,7,8,9,10,11,12,13,14] [⟨[19],[],15,[],[16,17,18]⟩,⟨[19],[19],20,[18],[]⟩,⟨[],[],21,[],[]⟩] (by kernel_rfl) (by kernel_rfl) (by kernel_rfl) ?_; refine rn F ?_))
 obtain⟨q1,q2,q3,q4⟩:=hq
 dsimp only at q1 q2 q3 q4
 have c2:=Qq2 v q1 (Qc9 y tn) (Qtg (by rw[q3]; exact hc.1.1.1) tn) c.s.k.pg c.s.k.pl.size
 have hI:=fun(k':Kn) (h:CrR (QbY (Qc9 y tn)).1 c.s.k.pg c.s.k.pl.size k')=>Qz5 hIc q2 q3 q4 h
 generalize Qc9 y tn=str at *
 generalize QbY str=o at *
 refine rn F ?_
 repeat' (first
  | with_reducible exact⟨⟩
  | (refine Ql (c2) rfl ?_; rintro⟨s2,e⟩ hk; refine rn F ?_))
 obtain⟨k1,k2⟩:=hk
 dsimp only at k1 k2
 refine Qg (fun r:Tz c.tx.length=>⟨70,3,[(9,.int .i64 r.i),(8,.int .i64 e),(7,.ptr 4 0),(4,.ptr 3 0),(0,.ptr 0 0)],[scB ⟨c.s,r.l,c.rd,c.dead⟩ 1 2,scT r.l,scR c.rd,⟨173,true,[.int .i64 0,.int .i64 0,.int .i64 0,.bool false,.pv (.str []),.int .i64 0]⟩,⟨101,true,s2.d⟩]⟩) (fun r=>c.tx.length-r.i) ⟨0,c.tx,Jd _,rfl⟩ (gc [0,1,2,4,6]) ?_
 rintro⟨i,l,hi,hl⟩
 dsimp only
 have hsm:∀ (z:Sv) (d:Bool),z.sm->(⟨z,l,c.rd,d⟩:Sc).sm n:=fun z d hz=>⟨hz,by dsimp only; rw[hl]; exact hc.2.1,hc.2.2⟩
 have htx:=hc.2.1
 by_cases hil:i<c.tx.length
 ·have hil2:i < l.length:=by omega
  have hset:=Qh6 l i 0
  have F:=@hil2
  refine rn F ?_
  refine⟨⟨i+1,l.set i 0,hil,by rw[Jy]; exact hl⟩,by dsimp only; omega,?_⟩
  dsimp only
  rw[Jy]
  exact(gc [0,1,2,3,4])
 have hil2:¬ i<l.length:=by omega
 by_cases he:e=0
 ·subst he
  have c3:=Qd7 0
  have F:=trivial
  refine rn F ?_
  repeat' (first
   | with_reducible exact⟨⟩
   | refine vp F (c3) ?_)
  exact QA ⟨70,3,[(4,.ptr 3 0)],[scB ⟨s2,l,c.rd,c.dead⟩ 1 2,scT l,scR c.rd,⟨173,true,(Qfs 0).d⟩]⟩ (gc [0,1,2,3]) ⟨⟨s2,l,c.rd,c.dead⟩,Qfs 0,_,rfl,rfl,.inl ⟨⟨rfl,hsm s2 _ k1,hI s2.k (k2 rfl).2⟩,rfl⟩⟩
 ·have c3:=Qd7 e
  have F:=@he
  refine rn F ?_
  repeat' (first
   | with_reducible exact⟨⟩
   | refine vp F (c3) ?_)
  exact QA ⟨70,3,[(4,.ptr 3 0)],[scB ⟨c.s,l,c.rd,true⟩ 1 2,scT l,scR c.rd,⟨173,true,(Qfs e).d⟩]⟩ (gc [0,1,2,3]) ⟨⟨c.s,l,c.rd,true⟩,Qfs e,_,rfl,rfl,.inl ⟨⟨rfl,hsm c.s _ hc.1,fun q=>hIc.st q 1 _ _ (Str.refl _)⟩,rfl⟩⟩
def QuK(I:Nat->Kn->Prop)(hIc:ICr I)(c:Sc)(n:Nat)(hn:n<=2000)(hc:c.sm n)(t:Sp)(ht:t.kind=6):QgV I c n t:=by
 refine QH (fn:=Tryz.f94) Tryz.func94 rfl (by kernel_rfl) (by simp[Tryz.f94]) ?_
 obtain⟨k,tx,pg,torn,cut,a⟩:=t
 dsimp only at ht
 subst ht
 (unfold Tryz.f94; refine rn trivial ?_)
 refine QjB (c:=c) 0 1 2 (Qrs I hIc c n hn hc ⟨6,tx,pg,torn,cut,a⟩) rfl rfl rfl (by decide) (by decide) (by decide) rfl rfl ?_ (fun _ _ h=>absurd h.1 (by decide)) (fun _ _ h=>absurd h.1 (by decide))
 rintro c1 r1 ⟨-,q1,q2⟩ B
 refine rn trivial ?_
 exact QA ⟨132,3,[(4,.ptr 3 0)],[scB c1 1 2,scT (Sc.tx c1),scR (Sc.rd c1),⟨173,true,Rs.d (r1)⟩]⟩ (gc [0,1,2,4]) ⟨c1,r1,_,rfl,rfl,.inl ⟨⟨⟨q1.1,Jm q1.2.1,Jm q1.2.2⟩,q2⟩,rfl⟩⟩
end
section
attribute [local go_sem] cb cc
def Qx2(c:C)(m n:Nat)(h1:1<=m)(h2:m<=1000)(h3:1<=n)(h4:n<=1000):VCalls prog 95 [.ptr 0 0,.int .i64 m,.int .i64 n,.bool true] [cb c] (CX fun r=>∃ t:Sp,r=.agg t.d):=by
 refine dd Tryz.func95 ?_
 (unfold Tryz.f95; refine rn trivial ?_)
 refine rn F ?_
 repeat' (first
  | with_reducible exact⟨⟩
  | (refine sB F ?_ ?_<;>intro hZ)
  | (refine Q4 (k:=0) (QU _ 16 (by omega) (by omega)) rfl rfl ?_; rintro _ _ ⟨_,rfl,_⟩; refine rn F ?_)
  | (refine Q4 (k:=0) (QU _ 4 (by omega) (by omega)) rfl rfl ?_; rintro _ _ ⟨_,rfl,_⟩; refine rn F ?_)
  | (refine Q4 (k:=0) (QU _ 90 (by omega) (by omega)) rfl rfl ?_; rintro _ _ ⟨_,rfl,_⟩; refine rn F ?_)
  | (refine Q4 (k:=0) (QU _ 257 (by omega) (by omega)) rfl rfl ?_; rintro _ _ ⟨_,rfl,_⟩; refine rn F ?_)
  | (refine Q4 (k:=0) (QU _ m (by omega) (by omega)) rfl rfl ?_; rintro _ _ ⟨_,rfl,_⟩; refine rn F ?_)
  | (refine Q4 (k:=0) (QU _ n (by omega) (by omega)) rfl rfl ?_; rintro _ _ ⟨_,rfl,_⟩; refine rn F ?_)
  | (refine Q4 (k:=0) (Qr0 _ ((m:Int)+1) (by omega) (by omega)) rfl rfl ?_; rintro _ _ ⟨_,rfl,_⟩; refine rn F ?_)
  | (refine Q4 (k:=0) (QwD _ m h1 h2) rfl rfl ?_; rintro _ _ ⟨_,rfl,_⟩; refine rn F ?_))
 all_goals exact⟨_,rfl,rfl,QaW _,rfl,⟨⟨_,_,_,_,_,⟨_,_,_,_⟩⟩,rfl⟩,_,rfl⟩
structure Sd1(most:Nat) where
 k:Nat
 c:C
 l:List Sp
 hk:k+l.length<=most+2
def QuC(c:C)(m most:Nat)(h1:1<=m)(h2:m<=1000)(hm:most<=1000):VCalls prog 74 [.ptr 0 0,.int .i64 m,.int .i64 most,.bool true] [cb c] (CX fun r=>∃ l:List Sp,r=.pv (.sl (fz Qmi l))/\l.length<=most+2):=by
 refine dd Tryz.func74 ?_
 (unfold Tryz.f74; refine rn trivial ?_)
 refine Q4 (k:=0) (c:=c) (Qr0 c ((most:Int)+1) (by omega) (by omega)) rfl rfl ?_
 rintro _ c1 ⟨k,rfl,hk⟩
 refine rn trivial ?_
 refine Qg (fun s:Sd1 most=>⟨30,1,[(10,.int .i64 s.k),(9,.own 1 9 0 s.l.length),(3,.bool true),(1,.int .i64 m),(0,.ptr 0 0)],[cb s.c,⟨178,true,cells Qmi s.l⟩]⟩) (fun s=>s.k) ⟨k,c1,[spB,spB],by simp; omega⟩ (gc [0,1]) ?_
 rintro⟨k,c2,l,hk⟩
 dsimp only
 have hb:(l.length+1)*80<=140737488355328:=by omega
 by_cases hc:0<k
 ·obtain ⟨k,rfl⟩:∃ k':Nat,k = k' + 1:=⟨k - 1,by omega⟩
  have hkk:((k+1:Nat):Int)-1=k:=by omega
  have F:=(Jb @hb @hkk)
  refine rn F ?_
  refine Q4 (k:=0) (c:=c2) (Qx2 c2 m 5 h1 h2 (by omega) (by omega)) rfl rfl ?_
  rintro _ c3 ⟨t,rfl⟩
  have F:=(Jb @hb (Jb @QDL @hkk))
  refine rn F ?_
  have hl2:(l++[t]).length=l.length+1:=by simp
  refine⟨⟨k,c3,l++[t],by rw[hl2]; omega⟩,by dsimp only; omega,?_⟩
  dsimp only
  rw[hl2]
  exact(gc [0,3])
 ·skip
  have F:=@hb
  refine rn F ?_
  exact⟨_,rfl,rfl,QaW _,rfl,⟨l,rfl,by omega⟩,_,rfl⟩
def Qn6(I:Nat->Kn->Prop)(hI:ICr I)(h0:∀ n m:Int,1<=n->n<=4->1<=m->m<=64->I 0 (Qpj n m))(c:C)(most:Nat)(hm:most<=1000):VCalls prog 42 [.ptr 0 0,.int .i64 most,.bool true] [cb c] (CX fun r=>∃ s:Sv,r=.agg s.d/\s.sm/\∃ i,i<=most+2/\I i s.k):=by
 refine dd Tryz.func42 ?_
 (unfold Tryz.f42; refine rn trivial ?_)
 refine Q4 (k:=0) (c:=c) (QU c 4 (by omega) (by omega)) rfl rfl ?_
 rintro _ c1 ⟨x,rfl,hx⟩
 obtain⟨m,hm1,hm2⟩:∃ m:Nat,1+(x:Int)=m/\m<=4:=⟨1+x,by omega,by omega⟩
 refine rn @hm1 ?_
 refine Q4 (k:=0) (c:=c1) (QU c1 3 (by omega) (by omega)) rfl rfl ?_
 rintro _ c2 ⟨y,rfl,hy⟩
 refine rn trivial ?_
 refine Ql (QBj m (1+y) (by omega) (by omega)) rfl ?_
 rintro⟨s,e⟩ ⟨hs,he,hg⟩
 dsimp only at hs he hg
 subst he
 refine rn F ?_
 repeat' (first
  | with_reducible exact⟨⟩
  | (refine Qc (id:=3) [0,1,2,3,4] [⟨[],[],5,[0],[]⟩,⟨[],[],6,[1,2,3,4],[7,8,9,10]⟩,⟨[],[],11,[9,10],[]⟩] (by kernel_rfl) (by kernel_rfl) ?_; refine rn F ?_))
 refine Q4 (k:=0) (c:=c2) (QuC c2 m most (by omega) (by omega) hm) rfl rfl ?_
 rintro _ c3 ⟨l,rfl,hl⟩
 have c9:=QBl I hI.st s hs l (fun i _ hk c n hn hc=>QuK I hI c n hn hc _ hk)
 refine rn trivial ?_
 refine Ql c9 rfl ?_
 rintro⟨s1,out,rd⟩ ⟨q1,q2⟩
 refine rn trivial ?_
 exact⟨_,rfl,rfl,QaW _,rfl,⟨s1,rfl,q1,by
  obtain⟨i,q3,q4⟩:=q2 (by rw[hg]; exact h0 _ _ (by omega) (by omega) (by omega) (by omega))
  exact⟨i,by omega,q4⟩⟩,_,rfl⟩
def Qsh(I:Nat->Kn->Prop)(hI:ICr I)(h0:∀ n m:Int,1<=n->n<=4->1<=m->m<=64->I 0 (Qpj n m))(c:C)(most:Nat)(hm:most<=1000):VCalls prog 15 [.ptr 0 0,.int .i64 most,.bool true] [cb c] (CX fun r=>∃ k:Kn,r=.agg k.d/\k.sm/\∃ i,i<=most+2/\I i k):=by
 refine dd Tryz.func15 ?_
 (unfold Tryz.f15; refine rn trivial ?_)
 refine Q4 (k:=0) (c:=c) (Qn6 I hI h0 c most hm) rfl rfl ?_
 rintro _ c1 ⟨s,rfl,hs,hi⟩
 refine rn trivial ?_
 exact⟨_,rfl,rfl,QaW _,rfl,⟨s.k,rfl,hs.1,hi⟩,_,rfl⟩
end
def QtQ(es:List E)(a:Int):Prop:=∃ e∈es,e.tx=a/\(e.kind=3\/e.kind=5)
def abE(es:List E)(a:Int):Prop:=∃ e∈es,e.tx=a/\e.kind=4
def QiX(es:List E)(a:Int):Int:=es.foldl (fun n e=>if e.tx=a then e.lsn else n) 0
def Qce(es:List E)(p:Int):Int:=es.foldl (fun n e=>if (e.kind=1\/e.kind=2)/\e.c.pg=p then e.lsn else n) 0
def Qcb(es:List E)(a:Int):List Int:=es.foldl (fun l e=>if e.tx=a then (if e.kind=1 then l++[e.lsn] else if e.kind=2 then l.filter (fun x=>decide (x≠e.ref)) else l) else l) []
def Qds(es:List E)(e:E)(a:Int):QiX (es++[e]) a=if e.tx=a then e.lsn else QiX es a:=by unfold QiX; rw[JQ]; rfl
def Qa3(es:List E)(e:E)(p:Int):Qce (es++[e]) p=if (e.kind=1\/e.kind=2)/\e.c.pg=p then e.lsn else Qce es p:=by unfold Qce; rw[JQ]; rfl
def Qca(es:List E)(e:E)(a:Int):Qcb (es++[e]) a=if e.tx=a then (if e.kind=1 then Qcb es a++[e.lsn] else if e.kind=2 then (Qcb es a).filter (fun x=>decide (x≠e.ref)) else Qcb es a) else Qcb es a:=by unfold Qcb; rw[JQ]; rfl
def Qc4(es:List E)(e:E)(a:Int):QtQ (es++[e]) a ↔ QtQ es a\/(e.tx=a/\(e.kind=3\/e.kind=5)):=by
 unfold QtQ
 constructor
 ·rintro ⟨x,hx,h⟩
  rcases Jh.1 hx with hx | hx
  ·exact .inl ⟨x,hx,h⟩
  ·rw[Jg.1 hx] at h; exact .inr h
 ·rintro (⟨x,hx,h⟩ | h)
  ·exact⟨x,Jj _ hx,h⟩
  ·exact⟨e,by simp,h⟩
def QnD(es:List E)(e:E)(a:Int):abE (es++[e]) a ↔ abE es a\/(e.tx=a/\e.kind=4):=by
 unfold abE
 constructor
 ·rintro ⟨x,hx,h⟩
  rcases Jh.1 hx with hx | hx
  ·exact .inl ⟨x,hx,h⟩
  ·rw[Jg.1 hx] at h; exact .inr h
 ·rintro (⟨x,hx,h⟩ | h)
  ·exact⟨x,Jj _ hx,h⟩
  ·exact⟨e,by simp,h⟩
def Qcq {α:Type} {P:List α->Prop} (h0:P []) (hs:∀ l a,P l->P (l ++ [a])):∀ l,P l:=fun l=>by
 have:∀ n,∀ l:List α,l.length = n->P l:=fun n=>by
  induction n with
  | zero=>intro l h; rw[List.eq_nil_of_length_eq_zero h]; exact h0
  | succ n ih =>
    intro l h
    have hne:l≠[]:=fun q=>by rw[q] at h; simp at h
    rw[<- List.dropLast_concat_getLast hne]
    exact hs _ _ (ih _ (by rw[List.length_dropLast]; omega))
 exact this _ l rfl
def QvK(es:List E)(h0:0<=n)(p:Int)(h:∀ x∈es,x.lsn<n):Qce es p<=n:=by
 revert h
 refine Qcq (P:=fun es=>(∀ x∈es,x.lsn<n)->Qce es p<=n) (fun _=>h0) (fun l a ih h=>?_) es
 rw[Qa3]
 split
 ·have:=h a (by simp); omega
 ·exact ih fun x hx=>h x (Jj _ hx)
def QvJ(es:List E)(h0:0<n)(p:Int)(h:∀ x∈es,x.lsn<n):Qce es p<n:=by
 revert h
 refine Qcq (P:=fun es=>(∀ x∈es,x.lsn<n)->Qce es p<n) (fun _=>h0) (fun l a ih h=>?_) es
 rw[Qa3]
 split
 ·exact h a (by simp)
 ·exact ih fun x hx=>h x (Jj _ hx)
def Qky(es:List E)(hl:∀ x∈es,1<=x.lsn)(h:∃ x∈es,x.tx=a):1<=QiX es a:=by
 revert hl h
 refine Qcq (P:=fun es=>(∀ x∈es,1<=x.lsn)->(∃ x∈es,x.tx=a)->1<=QiX es a) (fun _ h=>by obtain⟨x,hx,_⟩:=h; simp at hx) (fun l e ih h hx=>?_) es
 rw[Qds]
 split
 ·exact h e (by simp)
 ·rename_i hne
  obtain⟨x,hx,hxa⟩:=hx
  rcases Jh.1 hx with hx | hx
  ·exact ih (fun y hy=>h y (Jj _ hy)) ⟨x,hx,hxa⟩
  ·rw[Jg.1 hx] at hxa; exact absurd hxa hne
def Qot(es:List E)(h:∀ x∈es,x.tx≠a):QiX es a=0:=by
 revert h
 refine Qcq (P:=fun es=>(∀ x∈es,x.tx≠a)->QiX es a=0) (fun _=>rfl) (fun l e ih h=>?_) es
 rw[Qds,if_neg (h e (by simp))]
 exact ih fun x hx=>h x (Jj _ hx)
def Qon(es:List E)(h:∀ x∈es,x.tx≠a):Qcb es a=[]:=by
 revert h
 refine Qcq (P:=fun es=>(∀ x∈es,x.tx≠a)->Qcb es a=[]) (fun _=>rfl) (fun l e ih h=>?_) es
 rw[Qca,if_neg (h e (by simp))]
 exact ih fun x hx=>h x (Jj _ hx)
structure TxOk(es:List E)(t:Tx):Prop where
 n:t.n=QiX es t.id
 l:t.l=Qcb es t.id
 ne:¬ QtQ es t.id
 ab:t.st=3 ↔ abE es t.id
def TxOk.other(h:TxOk es t)(hne:e.tx≠t.id):TxOk (es++[e]) t:=
 ⟨by rw [Qds,if_neg hne]; exact h.n,by rw [Qca,if_neg hne]; exact h.l,by
  rw[Qc4]; rintro(q | q)
  ·exact h.ne q
  ·exact hne q.1,by
  rw[QnD,h.ab]
  exact⟨.inl,fun q=>q.elim id fun q=>absurd q.1 hne⟩⟩
def TxOk.fresh(h:∀ x∈es,x.tx≠a):TxOk es ⟨a,1,0,0,[],[]⟩:=
 ⟨(Qot es h).symm,(Qon es h).symm,fun⟨x,hx,q,_⟩=>h x hx q,⟨fun q=>by simp at q,fun⟨x,hx,q,_⟩=>absurd q (h x hx)⟩⟩
def QqA(t:Tx):(QE t).n=t.n:=by unfold QE; split<;>rfl
def QqB(t:Tx):(QE t).l=t.l:=by unfold QE; split<;>rfl
def QqC(t:Tx):(QE t).st=3 ↔ t.st=3:=by
 unfold QE; split
 ·rename_i h; simp; omega
 ·exact Iff.rfl
def Qqi(h:Qbm l=true)(ht:t∈l)(hu:u∈l)(he:t.id=u.id):t=u:=by
 have hs:=QdH h
 obtain⟨i,hi,rfl⟩:=Je.1 ht
 obtain⟨j,hj,rfl⟩:=Je.1 hu
 rw[JC] at hs
 rcases JH i j with h3 | h3 | h3
 ·have:=hs i j (by simpa using hi) (by simpa using hj) h3
  rw[Jt,Jt] at this
  omega
 ·subst h3; rfl
 ·have:=hs j i (by simpa using hj) (by simpa using hi) h3
  rw[Jt,Jt] at this
  omega
def QmB(h:Qbm l=true)(ht:t∈l):1<=t.id:=by
 obtain⟨i,hi,rfl⟩:=Je.1 ht
 have:=Qbg h hi
 simp only[Tx.okB,Tx.hdB,Jf,decide_eq_true_eq] at this
 omega
def Ql6(h:Qbm l=true)(hi:i<l.length):idT l l[i].id=i:=by
 rcases QB l l[i].id with hn | ⟨j,hj,h1,h2⟩
 ·have:=(QiZ (l:=l) (a:=l[i].id)).2 (Kt.2 ⟨l[i],Jk hi,rfl⟩)
  omega
 ·rw [h1]
  have hs:=QdH h
  rw[JC] at hs
  rcases JH i j with h3 | h3 | h3
  ·have:=hs i j (by simpa using hi) (by simpa using hj) h3
   rw[Jt,Jt] at this
   omega
  ·omega
  ·have:=hs j i (by simpa using hj) (by simpa using hi) h3
   rw[Jt,Jt] at this
   omega
def QiR(h:(QT l e).2=0):Qbm l=true/\e.okB=true:=by
 unfold QT at h
 split at h
 ·simp at h
 rename_i q1
 split at h
 ·simp at h
 rename_i q2
 exact⟨by simpa using q1,by simpa using q2⟩
def QrZ(h:(QT l e).2=0)(ht:e.tx≠0):∃ i,∃ hi:i<l.length,idT l e.tx=i/\l[i].id=e.tx/\e.ptx=l[i].n/\(e.kind=2->e.ref∈l[i].l) /\
 (((e.kind=3\/e.kind=5)/\(QT l e).1=Qje l e.tx)\/((e.kind=1\/e.kind=2\/e.kind=4)/\(QT l e).1=l.set i (QE (Qcc l[i] e)))):=by
 obtain⟨h1,h2⟩:=QiR h
 have hk:=Qeg h2 ht
 unfold QT at h |-
 rw[if_neg (by rw[h1]; decide),if_neg (by rw[h2]; decide),if_neg ht] at h |-
 rcases QB l e.tx with hn | ⟨i,hi,hid,he⟩
 ·rw[if_pos (by omega)] at h; simp at h
 rw[if_neg (by omega)] at h |-
 rw[hid,Ji,Qd l i hi] at h |-
 unfold Qkn at h |-
 split at h
 ·simp at h
 rename_i q1
 refine⟨i,hi,rfl,he,by omega,fun q=>?_,?_⟩
 ·by_cases hr:e.ref ∈ l[i].l
  ·exact hr
  ·exact absurd (.inr ⟨q,hr⟩) q1
 rw[if_neg q1]
 split
 ·rename_i q; exact .inl ⟨q,rfl⟩
 ·rename_i q; exact .inr ⟨by omega,rfl⟩
def mem_remS:t∈Qje l a ↔ t∈l/\t.id≠a:=by
 unfold Qje Qdy
 rw[JO]
 simp
def Qna{l:List Tx}{i:Nat}{t u:Tx}(h:t∈l.set i u):(∃ j,∃ hj:j<l.length,j≠i/\l[j]=t)\/(t=u/\i<l.length):=by
 obtain⟨j,hj,rfl⟩:=Je.1 h
 rw[Jy] at hj
 by_cases hij:i=j
 ·subst hij; right; rw[JG]; exact⟨rfl,hj⟩
 ·left; rw[JL hij]; exact⟨j,hj,fun q=>hij q.symm,rfl⟩
def QmF{l:List Tx}(hi:i<l.length):u∈l.set i u:=by
 rw[Je]; exact⟨i,by rw[Jy]; exact hi,by rw[JG]⟩
def QhE{l:List Tx}{i j:Nat}{u:Tx}(hj:j<l.length)(hij:i≠j):l[j]∈l.set i u:=by
 rw[Je]; exact⟨j,by rw[Jy]; exact hj,by rw[JL hij]⟩
def QxW (hok:∀ t ∈ l,TxOk es t) (hall:∀ x ∈ es,0 < x.tx->(∃ t ∈ l,t.id = x.tx)\/QtQ es x.tx) (h:(QT l e).2 = 0):
 (∀ t∈(QT l e).1,TxOk (es++[e]) t)/\∀ x∈es++[e],0<x.tx->(∃ t∈(QT l e).1,t.id=x.tx)\/QtQ (es++[e]) x.tx:=by
 obtain⟨h1,h2⟩:=QiR h
 have hend:∀ a,QtQ es a->QtQ (es++[e]) a:=fun a q=>(Qc4 es e a).2 (.inl q)
 by_cases ht:e.tx=0
 ·have:(QT l e).1 = l:=QhR h ht
  rw[this]
  refine⟨fun t q=>(hok t q).other (by have:=QmB h1 q; omega),fun x hx h0=>?_⟩
  rcases Jh.1 hx with hx | hx
  ·exact(hall x hx h0).imp id (hend _)
  ·rw[Jg.1 hx] at h0; omega
 obtain⟨i,hi,hid,he,hp,hr,hc⟩:=QrZ h ht
 have hne:∀ t∈l,t≠l[i]->e.tx≠t.id:=fun t q q2 q3=>q2 (Qqi h1 q (Jk hi) (by rw[he]; exact q3.symm))
 have ho:=hok l[i] (Jk hi)
 rcases hc with⟨hk,hc⟩ | ⟨hk,hc⟩
 ·rw [hc]
  refine⟨fun t q=>?_,fun x hx h0=>?_⟩
  ·obtain ⟨q1,q2⟩:=mem_remS.1 q
   exact(hok t q1).other fun q3=>q2 q3.symm
  ·by_cases hxe:x.tx = e.tx
   ·right; rw[hxe]; exact(Qc4 _ _ _).2 (.inr ⟨rfl,hk⟩)
   ·rcases Jh.1 hx with hx | hx
    ·rcases hall x hx h0 with ⟨t,q1,q2⟩ | q
     ·exact .inl ⟨t,mem_remS.2 ⟨q1,by omega⟩,q2⟩
     ·exact .inr (hend _ q)
    ·rw[Jg.1 hx] at hxe; exact absurd rfl hxe
 ·rw [hc]
  have hnid:(Qcc l[i] e).id = l[i].id:=by       unfold Qcc; repeat' split
                                                all_goals rfl
  have htn:(QE (Qcc l[i] e)).id=e.tx:=by rw[QhD,hnid,he]
  refine⟨fun t q=>?_,fun x hx h0=>?_⟩
  ·rcases Qna q with ⟨j,hj,hji,rfl⟩ | ⟨rfl,_⟩
   ·refine (hok _ (Jk hj)).other fun q=>hji ?_
    have e1:=Ql6 h1 hj
    rw[<- q,hid] at e1
    omega
   ·refine ⟨?_,?_,?_,?_⟩
    ·rw [htn,QqA,Qds,if_pos rfl]
     unfold Qcc; repeat' split
     all_goals rfl
    ·rw [htn,QqB,Qca,if_pos rfl,<- he,<- ho.l]
     unfold Qcc
     repeat' split
     all_goals first | rfl | (exfalso; omega)
    ·rw [htn,Qc4]
     rintro(q | q)
     ·exact ho.ne (by rw[he]; exact q)
     ·omega
    ·rw [htn,QqC,QnD]
     have hab:=ho.ab
     rw[he] at hab
     unfold Qcc
     split
     ·dsimp only; rw[hab]; exact⟨.inl,fun q=>q.elim id fun q=>by omega⟩
     split
     ·dsimp only; rw[hab]; exact⟨.inl,fun q=>q.elim id fun q=>by omega⟩
     ·dsimp only; exact⟨fun _=>.inr ⟨rfl,by omega⟩,fun _=>rfl⟩
  ·by_cases hxe:x.tx = e.tx
   ·exact .inl ⟨_,QmF hi,by rw[htn,hxe]⟩
   ·rcases Jh.1 hx with hx | hx
    ·rcases hall x hx h0 with ⟨t,q1,q2⟩ | q
     ·obtain ⟨j,hj,rfl⟩:=Je.1 q1
      by_cases hij:i=j
      ·subst hij; rw[he] at q2; exact absurd q2.symm hxe
      ·exact .inl ⟨_,QhE hj hij,q2⟩
     ·exact .inr (hend _ q)
    ·rw[Jg.1 hx] at hxe; exact absurd rfl hxe
structure Cor(es:List E)(pg nx:Int)(tx:List Tx)(ix:List Rw)(L:Int->Int->Prop):Prop where
 pgr:1<=pg/\pg<=64
 ids:∀ e∈es,e.tx<nx
 ok:∀ t∈tx,TxOk es t
 all:∀ x∈es,0<x.tx->(∃ t∈tx,t.id=x.tx)\/QtQ es x.tx
 len:(ix.length:Int)=pg
 row:∀ p:Nat,(p:Int)<pg->(ix.getD p Rw0).lsn<=Qce es p/\((∀ n,¬ L p n)->(ix.getD p Rw0).lsn=Qce es p)
 la:∀ p n,L p n->n=Qce es p
 lt:∀ (p:Nat) n,L p n->(ix.getD p Rw0).lsn<n
 w7:∀ e∈es,e.kind=7->e.ref<=(ix.getD e.c.pg.toNat Rw0).lsn
def Cor.weak(h:Cor es pg nx tx ix L)(hn:nx<=nx')(h1:∀ p n,L' p n->L p n)(h2:∀ p,(∀ n,¬ L' p n)->∀ n,¬ L p n):Cor es pg nx' tx ix L':=
 ⟨h.pgr,fun e he=>JZ (h.ids e he) hn,h.ok,h.all,h.len,fun p hp=>⟨(h.row p hp).1,fun q=>(h.row p hp).2 (h2 p q)⟩,fun p n q=>h.la p n (h1 p n q),fun p n q=>h.lt p n (h1 p n q),h.w7⟩
def Qcd(h:(Qbi ix e).2=0):(e.kind≠7/\(Qbi ix e).1=ix)\/(e.kind=7/\e.okB=true/\e.c.pg<ix.length/\(Qbi ix e).1=ix.set e.c.pg.toNat ⟨if e.ref > (ix.getD e.c.pg.toNat Rw0).lsn then e.ref else (ix.getD e.c.pg.toNat Rw0).lsn,(ix.getD e.c.pg.toNat Rw0).im,(ix.getD e.c.pg.toNat Rw0).at_⟩):=by
 unfold Qbi at h |-
 split at h
 ·simp at h
 rename_i q1
 split at h
 ·simp at h
 rename_i q2
 rw[if_neg q1,if_neg q2]
 split at h
 ·rename_i q3; rw[if_pos q3]; exact .inl ⟨q3,rfl⟩
 rename_i q3
 rw[if_neg q3]
 split at h
 ·simp at h
 rename_i q4
 rw[if_neg q4]
 exact .inr ⟨by simpa using q3,by simpa using q2,by omega,rfl⟩
def Cor.add(hc:Cor es pg nx tx ix L)(he7:e.kind=7->e.ref=Qce es e.c.pg)(hlt:∀ x∈es,x.lsn<e.lsn)(h0:1<=e.lsn)(ht:(QT tx e).2=0)(hr:(Qbi ix e).2=0)(hn:nx<=nx')(hen:e.tx<nx')(h1:∀ p n,L' p n->((e.kind=1\/e.kind=2)/\p=e.c.pg/\n=e.lsn)\/(L p n/\((e.kind=1\/e.kind=2)->p≠e.c.pg)))(h2:∀ p,(∀ n,¬ L' p n)->((∀ n,¬ L p n)\/(e.kind=7/\p=e.c.pg))/\((e.kind=1\/e.kind=2)->p≠e.c.pg))(h3:e.kind=7->∀ n,¬ L' e.c.pg n):
 Cor (es++[e]) pg nx' (QT tx e).1 (Qbi ix e).1 L':=by
 obtain⟨t1,t2⟩:=QxW hc.ok hc.all ht
 have hmon:∀ p:Nat,(ix.getD p Rw0).lsn<=((Qbi ix e).1.getD p Rw0).lsn:=fun p=>by
  rcases Qcd hr with⟨_,q⟩ | ⟨_,_,ql,q⟩
  ·rw[q]; exact JA _
  ·rw [q]
   by_cases hpe:e.c.pg.toNat=p
   ·subst hpe
    by_cases hpl:e.c.pg.toNat<ix.length
    ·rw [Jc (l:=ix.set _ _),JP hpl]
     dsimp only[J5]
     split<;>omega
    ·rw[List.set_eq_of_length_le (by omega)]; exact JA _
   ·rw [Jc (l:=ix.set _ _),JJ hpe,<- Jc]
    exact JA _
 refine⟨hc.pgr,fun x hx=>?_,t1,t2,?_,fun p hp=>?_,fun p n q=>?_,fun p n q=>?_,fun x hx h7=>?_⟩
 ·rcases Jh.1 hx with hx | hx
  ·exact JZ (hc.ids x hx) hn
  ·rw[Jg.1 hx]; exact hen
 ·rcases Qcd hr with ⟨_,q⟩ | ⟨_,_,_,q⟩<;>rw [q]
  ·exact hc.len
  ·rw[Jy]; exact hc.len
 ·obtain ⟨r1,r2⟩:=hc.row p hp
  rw[Qa3]
  rcases Qcd hr with⟨q7,q⟩ | ⟨q7,qo,ql,q⟩
  ·rw [q]
   split
   ·rename_i hx
    refine⟨Ku r1 (QvK es (by omega) p hlt),fun hq=>?_⟩
    exact absurd hx.2.symm ((h2 p hq).2 hx.1)
   ·refine ⟨r1,fun hq=>r2 ?_⟩
    rcases(h2 p hq).1 with h | h
    ·exact h
    ·exact absurd h.1 q7
  ·rw [if_neg (by omega),q]
   have hpg:=Qee qo (.inr (.inr q7))
   have hlen:=hc.len
   by_cases hpe:e.c.pg=p
   ·have e1:e.c.pg.toNat = p:=by omega
    rw[e1,Jc,JP (by omega)]
    dsimp only[J5]
    have e2:=he7 q7
    rw[hpe] at e2
    rw[e2]
    split
    ·exact⟨JA _,fun _=>rfl⟩
    ·exact⟨r1,fun _=>by omega⟩
   ·have e1:e.c.pg.toNat ≠ p:=by omega
    rw[Jc,JJ e1,<- Jc]
    refine⟨r1,fun hq=>r2 ?_⟩
    rcases(h2 p hq).1 with h | h
    ·exact h
    ·exact absurd h.2.symm hpe
 ·rw [Qa3]
  rcases h1 p n q with⟨q1,q2,q3⟩ | ⟨q1,q2⟩
  ·rw[if_pos ⟨q1,q2.symm⟩,q3]
  ·rw[if_neg (fun h=>q2 h.1 h.2.symm)]; exact hc.la p n q1
 ·rcases h1 p n q with ⟨q1,q2,q3⟩ | ⟨q1,q2⟩
  ·have e1:(Qbi ix e).1 = ix:=by
    rcases Qcd hr with⟨_,g⟩ | ⟨g,_⟩
    ·exact g
    ·omega
   rw[e1]
   by_cases hp:(p:Int)<pg
   ·have:=(hc.row p hp).1
    have:=QvJ es (n:=e.lsn) (by omega) p hlt
    omega
   ·rw [Jc,J8 (by have:=hc.len; omega)]
    show(0:Int)<n
    omega
  ·rcases Qcd hr with ⟨_,g⟩ | ⟨g7,_,_,g⟩
   ·rw[g]; exact hc.lt p n q1
   ·have hne:e.c.pg.toNat ≠ p:=fun h=>by
     have hpg:=Qee (QiR ht).2 (.inr (.inr g7))
     have:(p:Int)=e.c.pg:=by omega
     rw[this] at q
     exact h3 g7 n q
    rw[g,Jc,JJ hne,<- Jc]
    exact hc.lt p n q1
 ·rcases Jh.1 hx with hx | hx
  ·exact Ku (hc.w7 x hx h7) (hmon _)
  ·rw [Jg.1 hx] at h7 |-
   rcases Qcd hr with⟨g,_⟩ | ⟨_,qo,ql,g⟩
   ·exact absurd h7 g
   ·have hpg:=Qee qo (.inr (.inr h7))
    rw[g,Jc,JP (by omega)]
    dsimp only[J5]
    split<;>omega
def LD(dl:List Dt)(p n:Int):Prop:=∃ d∈dl,d.pg=p/\d.last=n
structure EnOk(h:List E)(e:E):Prop where
 ptx:0<e.tx->e.ptx=QiX h e.tx
 ne:0<e.tx->¬ QtQ h e.tx
 ab:0<e.tx->abE h e.tx->e.kind=2\/e.kind=5
 en:e.kind=5->abE h e.tx/\Qcb h e.tx=[]
 ppg:(e.kind=1\/e.kind=2)->e.ppg=Qce h e.c.pg
 un:e.kind=2->e.ref∈Qcb h e.tx/\∃ x∈h,x.lsn=e.ref/\x.kind=1/\x.tx=e.tx/\e.c=⟨x.c.pg,x.c.sl,x.c.a,x.c.b⟩/\∀ y∈h,y.lsn∈Qcb h e.tx->e.ref<y.lsn->¬ (y.c.pg=e.c.pg/\y.c.sl=e.c.sl)
 ix:e.kind=7->e.ref=Qce h e.c.pg
 ck:e.kind=6->e.blob=[]\/∃ c,CkV c/\e.blob=QaC c/\Cor h c.pg c.nx c.tx c.ix (LD c.dl)
 x7:e.kind=7->1<=e.ref/\∀ x∈h,x.kind=7->¬ (x.c.pg=e.c.pg/\x.ref=e.ref)
def LogOk(es:List E):Prop:=∀ i,i<es.length->EnOk (es.take i) (es.getD i E0)
def LogOk.nil:LogOk []:=fun i h=>by simp at h
def LogOk.snoc(h:LogOk es)(he:EnOk es e):LogOk (es++[e]):=fun i hi=>by
 rw[Ja,Jw] at hi
 rcases Ks i es.length with hl | hl
 ·rw [JT (by omega),Jc,List.getElem?_append_left hl,<- Jc]
  exact h i hl
 ·obtain rfl:i = es.length:=by omega
  rw[Kp,Jc,JI (Jz _),Nat.sub_self]
  exact he
def LogOk.take(h:LogOk es)(j:Nat):LogOk (es.take j):=fun i hi=>by
 rw[Jp] at hi
 have:=h i (by omega)
 rw[List.take_take,Nat.min_eq_left (by omega),Jc,List.getElem?_take_of_lt (by omega),<- Jc]
 exact this
def LkK(k:Kn)(p n:Int):Prop:=(∃ d∈k.la,d.pg=p/\d.last=n)\/∃ f∈k.pl.fs,f.dirty=true/\f.pg.id=p/\f.pg.lsn=n
structure KI(k:Kn):Prop where
 lg:lgB k.lg=true
 f:k.lg.f=1
 log:LogOk k.lg.es
 cor:Cor k.lg.es k.pg k.nx k.tx k.ix (LkK k)
 fr:∀ f∈k.pl.fs,f.pg.lsn=Qce k.lg.es f.pg.id
def QbI(h:lgB x=true)(hi:i<x.es.length):(x.es.getD i E0).lsn=x.f+i/\(x.es.getD i E0).okB=true:=by
 unfold lgB at h
 rw[Jf,Jr] at h
 have:=h.2 i (Ju.2 hi)
 unfold lgC at this
 simpa using this
def QiV(h:lgB x=true)(hf:x.f=1)(he:e∈x.es):1<=e.lsn/\e.lsn<=x.end_/\e.okB=true:=by
 obtain⟨i,hi,rfl⟩:=Je.1 he
 have:=QbI h hi
 rw[Qd _ _ hi] at this
 unfold Lg.end_
 exact⟨by omega,by omega,this.2⟩
def Qnd(h:lgB x=true)(ha:a∈x.es)(hb:b∈x.es)(he:a.lsn=b.lsn):a=b:=by
 obtain⟨i,hi,rfl⟩:=Je.1 ha
 obtain⟨j,hj,rfl⟩:=Je.1 hb
 have h1:=(QbI h hi).1
 have h2:=(QbI h hj).1
 rw[Qd _ _ hi] at h1
 rw[Qd _ _ hj] at h2
 obtain rfl:i=j:=by omega
 rfl
def QvW(h:(Qbj x n).2=0):(Qbj x n).1∈x.es/\(Qbj x n).1.lsn=n:=by
 obtain⟨h1,h2,h3,h4,_⟩:=Ql9 h
 refine⟨?_,h4⟩
 unfold Qbj
 rw[if_neg (by rw[h1]; decide),if_neg (by omega)]
 dsimp only
 unfold Lg.end_ at h3
 rw[Qd _ _ (by omega)]
 exact Jk _
def QzF(h:lgB x=true)(he:e∈x.es):Qbj x e.lsn=(e,0):=by
 obtain⟨i,hi,rfl⟩:=Je.1 he
 have h1:=(QbI h hi).1
 rw[Qd _ _ hi] at h1
 unfold Qbj
 rw[if_neg (by rw[h]; decide),if_neg (by unfold Lg.end_; omega),h1,show(x.f+i-x.f).toNat=i by omega,Qd _ _ hi]
def QrJ(es:List E)(a n:Int)(h:n∈Qcb es a):∃ x∈es,x.lsn=n/\x.kind=1/\x.tx=a:=by
 revert h
 refine Qcq (P:=fun es=>n∈Qcb es a->∃ x∈es,x.lsn=n/\x.kind=1/\x.tx=a) (fun h=>by simp[Qcb] at h) (fun l e ih h=>?_) es
 have up:(∃ x∈l,x.lsn=n/\x.kind=1/\x.tx=a)->∃ x∈l++[e],x.lsn=n/\x.kind=1/\x.tx=a:=fun⟨x,q1,q2⟩=>⟨x,Jj _ q1,q2⟩
 rw[Qca] at h
 split at h
 ·rename_i ht
  split at h
  ·rename_i hk
   rcases Jh.1 h with h | h
   ·exact up (ih h)
   ·exact⟨e,by simp,(Jg.1 h).symm,hk,ht⟩
  split at h
  ·exact up (ih (JO.1 h).1)
  ·exact up (ih h)
 ·exact up (ih h)
def KI.head(hk:KI k)(v:kB k=true)(h0:0<=p)(hp:p<k.pg):QeW k p=Qce k.lg.es p:=by
 unfold QeW
 rw[if_pos ⟨v,h0,hp⟩]
 unfold QvV
 split
 ·rename_i hi
  rcases QaU k.pl.fs p with hn | ⟨i,hil,hid,he⟩
  ·omega
  rw[hid,Ji]
  rw[Qd _ _ hil] at he |-
  rw[hk.fr _ (Jk hil),he]
 rename_i hi
 obtain⟨d,b,hl⟩:∃ d b,(d,b)=QaB k.la p:=⟨(QaB k.la p).1,(QaB k.la p).2,rfl⟩
 rw[<- hl]
 cases b
 ·rw [if_neg (show ¬ (false = true) from fun h=>by cases h)]
  obtain⟨m,rfl⟩:∃ m:Nat,p=m:=⟨p.toNat,by omega⟩
  rw[Ji]
  refine(hk.cor.row m hp).2 fun n hL=>?_
  rcases hL with⟨x,q1,q2,_⟩ | ⟨f,q1,_,q2,_⟩
  ·exact QfL hl x q1 q2
  ·obtain ⟨j,hj,rfl⟩:=Je.1 q1
   obtain⟨i,_,h2,_⟩:=Qnk (l:=k.pl.fs) (a:=(m:Int)) ⟨j,hj,by rw[Qd _ _ hj]; exact q2.symm⟩
   omega
 ·rw [if_pos rfl]
  obtain⟨q1,q2⟩:=Qkz hl
  exact hk.cor.la p d.last (.inl ⟨d,q1,q2,rfl⟩)
def Ql7(h:0<=idT l a):Qa2 l a∈l/\(Qa2 l a).id=a:=by
 rcases QB l a with hn | ⟨i,hi,hid,he⟩
 ·omega
 ·rw[QdG hid,Qd l i hi]; exact⟨Jk hi,he⟩
def QyY{e:E}(h:e.okB=true)(hk:e.kind=1\/e.kind=2):1<=e.tx:=by
 unfold E.okB at h
 rw[Jf] at h
 have h2:=h.2
 unfold E.kindB txB at h2
 split at h2
 ·simp only[Jf,decide_eq_true_eq] at h2; omega
 split at h2
 ·simp only[Jf,decide_eq_true_eq] at h2; omega
 ·omega
def QrT{e:E}(h:e.okB=true):1<=e.lsn:=by
 unfold E.okB at h
 simp only[Jf,decide_eq_true_eq] at h
 omega
structure AddF(k:Kn)(e e':E):Prop where
 lt:∀ x∈k.lg.es,x.lsn<e'.lsn
 pos:1<=e'.lsn
 nx:e'.tx<k.nx
 tx:0<e'.tx->Qa2 k.tx e'.tx∈k.tx/\(Qa2 k.tx e'.tx).id=e'.tx/\TxOk k.lg.es (Qa2 k.tx e'.tx)/\e'.ptx=(Qa2 k.tx e'.tx).n
def AddOk.facts(hk:KI k)(ha:AddOk k e e'):AddF k e e':=by
 obtain⟨v,s,ho,hl,hn,hnt,hnr,h0,hi,hp1,hp2⟩:=ha
 have hv:=QiY v
 have hd:=Qan hk.lg
 simp only[Lg.hd] at hd
 have htx:0<e'.tx->Qa2 k.tx e'.tx∈k.tx/\(Qa2 k.tx e'.tx).id=e'.tx/\TxOk k.lg.es (Qa2 k.tx e'.tx)/\e'.ptx=(Qa2 k.tx e'.tx).n:=fun q=>by
  rw[s.2.1] at q
  obtain⟨i,hil,hid,hp⟩:=hi q
  obtain⟨g1,g2⟩:=Ql7 (l:=k.tx) (a:=e'.tx) (by rw[s.2.1,hid]; omega)
  exact⟨g1,g2,hk.cor.ok _ g1,by rw[hp,s.2.1,QdG hid]⟩
 refine⟨fun x hx=>?_,?_,?_,htx⟩
 ·have:=(QiV hk.lg hk.f hx).2.1
  omega
 ·have:=hk.f
  unfold Lg.end_ at hl
  omega
 ·by_cases q:0 < e'.tx
  ·obtain ⟨g1,g2,_⟩:=htx q
   obtain⟨j,hj,hje⟩:=Je.1 g1
   have:=(Qsj v).ids j hj
   rw[Qd _ _ hj,hje,g2] at this
   exact this
  ·have:=hv.2.1
   omega
def KI.addP(hk:KI k)(ha:AddOk k e e')(he:EnOk k.lg.es e')(e1:k'.lg=(k.add e').lg)(e2:k'.tx=(k.add e').tx)(e3:k'.ix=(k.add e').ix)(e4:k'.pg=k.pg)(e5:k'.nx=k.nx)(h1:∀ p n,LkK k' p n->((e'.kind=1\/e'.kind=2)/\p=e'.c.pg/\n=e'.lsn)\/(LkK k p n/\((e'.kind=1\/e'.kind=2)->p≠e'.c.pg)))(h2:∀ p,(∀ n,¬ LkK k' p n)->((∀ n,¬ LkK k p n)\/(e'.kind=7/\p=e'.c.pg))/\((e'.kind=1\/e'.kind=2)->p≠e'.c.pg))(hf:∀ f∈k'.pl.fs,f.pg.lsn=Qce (k.lg.es++[e']) f.pg.id)(h3:e'.kind=7->∀ n,¬ LkK k' e'.c.pg n):KI k':=by
 have F:=ha.facts hk
 have hl:=ha.lgB
 obtain⟨v,s,ho,hle,hn,hnt,hnr,h0,hi,hp1,hp2⟩:=ha
 have hes:k'.lg.es=k.lg.es++[e']:=by rw[e1]; rfl
 refine⟨by rw[e1]; exact hl,by rw[e1]; exact hk.f,by rw[hes]; exact hk.log.snoc he,?_,by rw[hes]; exact hf⟩
 rw[hes,e2,e3,e4,e5]
 exact hk.cor.add he.ix F.lt F.pos hnt hnr (JA _) F.nx h1 h2 h3
def Cor.same(h:Cor es pg nx tx ix L)(hn:nx<=nx')(h1:∀ t∈tx',TxOk es t)(h2:∀ x∈es,0<x.tx->(∃ t∈tx,t.id=x.tx)->∃ t∈tx',t.id=x.tx):Cor es pg nx' tx' ix L:=
 ⟨h.pgr,fun e he=>JZ (h.ids e he) hn,h1,fun x hx h0=>(h.all x hx h0).imp (h2 x hx h0) id,h.len,h.row,h.la,h.lt,h.w7⟩
def TxOk.alike(h:TxOk es t)(h1:u.id=t.id)(h2:u.n=t.n)(h3:u.l=t.l)(h4:u.st=3 ↔ t.st=3):TxOk es u:=
 ⟨by rw[h2,h1]; exact h.n,by rw[h3,h1]; exact h.l,by rw[h1]; exact h.ne,by rw[h4,h1]; exact h.ab⟩
def Cor.setT(h:Cor es pg nx tx ix L)(hi:i<tx.length)(h1:u.id=tx[i].id)(h2:u.n=tx[i].n)(h3:u.l=tx[i].l)(h4:u.st=3 ↔ tx[i].st=3):Cor es pg nx (tx.set i u) ix L:=
 h.same (JA _) (fun t q=>by
  rcases Qna q with⟨j,hj,_,rfl⟩ | ⟨rfl,_⟩
  ·exact h.ok _ (Jk hj)
  ·exact(h.ok _ (Jk hi)).alike h1 h2 h3 h4) fun x _ _ ⟨t,q1,q2⟩=>by
  obtain⟨j,hj,rfl⟩:=Je.1 q1
  by_cases hij:i=j
  ·subst hij; exact⟨u,QmF hi,by rw[h1]; exact q2⟩
  ·exact⟨tx[j],QhE hj hij,q2⟩
def KI.txs(hk:KI k)(h:Cor k.lg.es k.pg k.nx tx' k.ix (LkK k)):KI ⟨k.pg,k.nx,k.lg,k.pl,k.lk,tx',k.ix,k.la⟩:=⟨hk.lg,hk.f,hk.log,h,hk.fr⟩
def QqJ(h:(Qha l a).2=0):∃ i,∃ hi:i<l.length,(Qha l a).1=l.set i { l[i] with s:=l[i].s++[l[i].n] }:=by
 unfold Qha at h |-
 split at h
 ·rename_i q; exact absurd h q
 rename_i q1
 split at h
 ·simp at h
 rename_i q2
 rw[if_neg q1,if_neg q2]
 obtain⟨_,i,hi,hid,_,hg⟩:=Qby (by omega:(Qp l a).2=0)
 exact⟨i,hi,by rw[hid,hg,Ji]⟩
def Qtw(h:(Qhp l a b).2=0):∃ i,∃ hi:i<l.length,∃ u,(Qhp l a b).1=l.set i u/\u.id=l[i].id/\u.n=l[i].n/\u.l=l[i].l/\(u.st=3 ↔ l[i].st=3):=by
 unfold Qhp at h |-
 split at h
 ·rename_i q; exact absurd h q
 rename_i q1
 split at h
 ·simp at h
 rename_i q2
 rw[if_neg q1,if_neg q2]
 have hst:=(Qib (by omega:(Qp l a).2=0)).1
 obtain⟨_,i,hi,hid,_,hg⟩:=Qby (by omega:(Qp l a).2=0)
 rw[hg] at hst
 rw[hid,hg,Ji]
 split
 ·exact⟨i,hi,_,rfl,rfl,rfl,rfl,by dsimp only; omega⟩
 ·exact⟨i,hi,_,rfl,rfl,rfl,rfl,Iff.rfl⟩
def Qpb(h:(Q9 l a).2=0):(Q9 l a).1=QAM l ⟨a,1,0,0,[],[]⟩:=by
 unfold Q9 at h |-
 repeat' split at h
 all_goals first | (simp at h; done) | skip
 rename_i q1 q2 q3 q4
 rw[if_neg q1,if_neg q2,if_neg q3,if_neg q4]
def mem_insT:u∈QAM l t ↔ u=t\/u∈l:=by
 unfold QAM
 rw[Jh,Kr]
 constructor
 ·rintro (h | h | h)
  ·exact .inr (Ka h)
  ·exact .inl h
  ·exact .inr (Kb h)
 ·rintro (h | h)
  ·exact .inr (.inl h)
  ·rw [<- List.take_append_drop (QyP l t.id) l,Jh] at h
   exact h.imp id .inr
def Cor.beginT(h:Cor es pg nx tx ix L)(hn:nx<=nx')(hb:(Q9 tx a).2=0)(hf:∀ x∈es,x.tx≠a):Cor es pg nx' (Q9 tx a).1 ix L:=by
 rw[Qpb hb]
 exact h.same hn (fun t q=>by
  rcases mem_insT.1 q with rfl | q
  ·exact TxOk.fresh hf
  ·exact h.ok t q) fun x _ _ ⟨t,q1,q2⟩=>⟨t,mem_insT.2 (.inr q1),q2⟩
def Qa4(es:List E)(e:E)(p:Int)(h:¬ ((e.kind=1\/e.kind=2)/\e.c.pg=p)):Qce (es++[e]) p=Qce es p:=by rw[Qa3,if_neg h]
def KI.fin(hk:KI k)(ha:AddOk k e e')(h3:e.kind=3\/e.kind=4\/e.kind=5)(hf:QCD k e):KI (k.add e'):=by
 have F:=ha.facts hk
 have s:=ha.2.1
 have ho:=ha.2.2.1
 have hk':e'.kind=3\/e'.kind=4\/e'.kind=5:=by rw[s.1]; exact h3
 have hn:¬ (e'.kind=1\/e'.kind=2):=by omega
 obtain⟨f1,f2,f3⟩:=hf
 rw[<- s.2.1,<- s.1] at *
 refine hk.addP ha ⟨fun q=>?_,fun q=>?_,fun q h=>?_,fun q=>?_,fun q=>absurd q hn,fun q=>by omega,fun q=>by omega,fun q=>by omega,fun q=>by omega⟩ rfl rfl rfl rfl rfl (fun p n q=>.inr ⟨q,fun h=>absurd h hn⟩) (fun p q=>⟨.inl q,fun h=>absurd h hn⟩) (fun f q=>by rw[Qa4 _ _ _ fun h=>hn h.1]; exact hk.fr f q) (fun q=>by omega)
 ·obtain ⟨_,g2,g3,g4⟩:=F.tx q
  rw[g4,g3.n,g2]
 ·obtain ⟨_,g2,g3,_⟩:=F.tx q
  have:=g3.ne
  rwa [g2] at this
 ·obtain ⟨_,g2,g3,_⟩:=F.tx q
  have:=g3.ab
  rw[g2] at this
  by_cases h5:e'.kind=5
  ·exact .inr h5
  ·exact absurd (this.2 h) (f2 (by omega))
 ·obtain ⟨i1,i2⟩:=f3 q
  obtain⟨g1,g2⟩:=Ql7 f1
  have g3:=hk.cor.ok _ g1
  have h1:=g3.ab
  have h2:=g3.l
  rw[g2] at h1 h2
  exact⟨h1.1 i1,by rw[<- h2]; exact i2⟩
def CkP.ok(hk:KI k)(h:CkP k s):s=[]\/∃ c,CkV c/\s=QaC c/\Cor k.lg.es c.pg c.nx c.tx c.ix (LD c.dl):=by
 rcases h with h | ⟨c,h1,h2,h3⟩
 ·exact .inl h
 refine .inr ⟨c,h2,h3,?_⟩
 rw[h1.pg,h1.nx,h1.tx,h1.ix]
 refine hk.cor.weak (JA _) (fun p n q=>?_) fun p q n hL=>?_
 ·obtain ⟨d,q1,q2,q3⟩:=q
  rcases h1.dl d q1 with⟨x,x1,x2,x3⟩ | ⟨f,x1,x2,x3,x4⟩
  ·exact .inl ⟨x,x1,by omega,by omega⟩
  ·exact .inr ⟨f,x1,x2,by omega,by omega⟩
 ·rcases hL with ⟨d,x1,x2,x3⟩ | ⟨f,x1,x2,x3,x4⟩
  ·obtain ⟨d',y1,y2⟩:=h1.la d x1
   exact q _ ⟨d',y1,by omega,rfl⟩
  ·obtain ⟨d',y1,y2⟩:=h1.fs f x1 x2
   exact q _ ⟨d',y1,by omega,rfl⟩
def KI.ckpt(hk:KI k)(ha:AddOk k e e')(h6:e.kind=6)(hc:CkP k e.blob):KI (k.add e'):=by
 have F:=ha.facts hk
 have s:=ha.2.1
 have ho:=ha.2.2.1
 have hk':e'.kind=6:=by rw[s.1]; exact h6
 have hn:¬ (e'.kind=1\/e'.kind=2):=by omega
 have htx:e'.tx=0:=by
  by_cases h:e'.tx=0
  ·exact h
  ·have:=Qeg ho h; omega
 exact hk.addP ha ⟨fun q=>by omega,fun q=>by omega,fun q=>by omega,fun q=>by omega,fun q=>absurd q hn,fun q=>by omega,fun q=>by omega,fun _=>by rw[s.2.2.2.2]; exact hc.ok hk,fun q=>by omega⟩ rfl rfl rfl rfl rfl (fun p n q=>.inr ⟨q,fun h=>absurd h hn⟩) (fun p q=>⟨.inl q,fun h=>absurd h hn⟩) (fun f q=>by rw[Qa4 _ _ _ fun h=>hn h.1]; exact hk.fr f q) (fun q=>by omega)
def Qui(h:(Qjd p x).2=0):plB p=true/\∃ i,i<p.fs.length/\idF p.fs x.id=(i:Nat)/\(Qjd p x).1=⟨p.size,p.fs.set i (Qpi (p.fs.getD i Fm0) x),p.hand⟩:=by
 unfold Qjd at h |-
 split at h
 ·simp at h
 rename_i q1
 split at h
 ·rename_i q; exact absurd h q
 rename_i q2
 split at h
 ·simp at h
 rename_i q3
 split at h
 ·simp at h
 rename_i q4
 rw[if_neg q1,if_neg q2,if_neg q3,if_neg q4]
 rcases QaU p.fs x.id with hn | ⟨i,hi,hid,_⟩
 ·omega
 ·exact⟨by simpa using q1,i,hi,hid,by rw[hid,Ji]⟩
def QfK{l:List Fm}{i:Nat}{t u:Fm}(h:t∈l.set i u):(∃ j,∃ hj:j<l.length,j≠i/\l[j]=t)\/(t=u/\i<l.length):=by
 obtain⟨j,hj,rfl⟩:=Je.1 h
 rw[Jy] at hj
 by_cases hij:i=j
 ·subst hij; right; rw[JG]; exact⟨rfl,hj⟩
 ·left; rw[JL hij]; exact⟨j,hj,fun q=>hij q.symm,rfl⟩
def QuB{l:List Fm}(hi:i<l.length):u∈l.set i u:=by
 rw[Je]; exact⟨i,by rw[Jy]; exact hi,by rw[JG]⟩
def QhF{l:List Fm}{i j:Nat}{u:Fm}(hj:j<l.length)(hij:i≠j):l[j]∈l.set i u:=by
 rw[Je]; exact⟨j,by rw[Jy]; exact hj,by rw[JL hij]⟩
def QzE(h:(Qep p a).2=true):plB p=true/\∃ i,∃ hi:i<p.fs.length,idF p.fs a=(i:Nat)/\(p.fs[i]).pg.id=a/\(Qep p a).1=(p.fs[i]).pg:=by
 unfold Qep at h |-
 split at h
 ·simp at h
 rename_i q
 rw[if_neg q]
 rcases QbN p a with hn | ⟨hp,i,hi,h1,h2,h3⟩
 ·omega
 ·rw [Qd _ _ hi] at h3
  exact⟨hp,i,hi,h2,h3,by rw[h1,Ji,Qd _ _ hi]⟩
def KI.setE(hk:KI k)(ha:AddOk k e e')(h12:e.kind=1\/e.kind=2)(hs:QDT k e)(hu:(Qjd k.pl (QdI k.pl e')).2=0):KI (k.set e'):=by
 have F:=ha.facts hk
 obtain⟨v,s,ho,hl,hn,hnt,hnr,h0,hi,hp1,hp2⟩:=id ha
 obtain⟨s1,s2,s3,s4,s5⟩:=s
 have hk':e'.kind=1\/e'.kind=2:=by rw[s1]; exact h12
 have n5:e'.kind≠5:=by omega
 have n7:e'.kind≠7:=by omega
 have n6:e'.kind≠6:=by omega
 obtain⟨f1,f2,f3,f4,f5⟩:=hs
 rw[<- s4] at f4 f5
 obtain⟨hpl,i,hil,hid,hpg,hgp⟩:=QzE f4
 have hsp:(QdI k.pl e').id=e'.c.pg:=by
  show(Qep k.pl e'.c.pg).1.id=_
  rw[hgp,hpg]
 obtain⟨_,j,hj,hjd,hup⟩:=Qui hu
 rw[hsp,hid] at hjd
 obtain rfl:i=j:=by omega
 have hpos:0<e'.tx:=by
  have:=QyY ho hk'
  omega
 obtain⟨g1,g2,g3,g4⟩:=F.tx hpos
 have hrng:0<=e'.c.pg/\e'.c.pg<k.pg:=by
  have h1:=Qmf (Qj9 hpl hil)
  have h2:=((Qsj v).frs i hil).1
  rw[Qd _ _ hil] at h1 h2
  omega
 have hother:∀ j,(hj:j<k.pl.fs.length)->j≠i->(k.pl.fs[j]).pg.id≠e'.c.pg:=fun j hj hji q=>by
  have:=QrH hpl hj
  rw[Qd _ _ hj,q,hid] at this
  omega
 have hfs:(k.set e').pl.fs=k.pl.fs.set i (Qpi (k.pl.fs.getD i Fm0) (QdI k.pl e')):=by
  show(Qjd k.pl (QdI k.pl e')).1.fs=_
  rw[hup]
 have hup1:(Qpi (k.pl.fs.getD i Fm0) (QdI k.pl e')).dirty=true:=rfl
 have hup2:(Qpi (k.pl.fs.getD i Fm0) (QdI k.pl e')).pg.id=e'.c.pg:=hsp
 have hup3:(Qpi (k.pl.fs.getD i Fm0) (QdI k.pl e')).pg.lsn=e'.lsn:=rfl
 generalize Qpi (k.pl.fs.getD i Fm0) (QdI k.pl e')=u at *
 refine hk.addP ha ⟨fun _=>by rw[g4,g3.n,g2],fun _=>?_,fun _ h=>?_,fun q=>absurd q n5,fun _=>?_,fun q=>?_,fun q=>absurd q n7,fun q=>absurd q n6,fun q=>absurd q n7⟩ rfl rfl rfl rfl rfl (fun p n q=>?_) (fun p q=>?_) (fun f q=>?_) (fun q=>absurd q n7)
 ·have:=g3.ne; rwa [g2] at this
 ·have:=g3.ab
  rw[g2] at this
  have h3:=this.2 h
  rcases h12 with q | q
  ·have:=f2 q; rw[<- s2] at this; omega
  ·exact .inl (by omega)
 ·rw [hp1 h12,<- s4]
  exact hk.head v hrng.1 hrng.2
 ·rw [s1] at q
  obtain⟨_,y,hla,hy1,hy2⟩:=f3 q
  rw[<- s2] at hla
  obtain⟨m,hm,hm1,hm2,hm3⟩:=hla
  have hgl:=g3.l
  rw[g2] at hgl
  obtain⟨ym,yl⟩:=QvW hm1
  rw[<- hm2] at ym yl
  have hmem:y.lsn∈Qcb k.lg.es e'.tx:=by
   rw[<- hgl,yl,Jc,J2 hm]
   exact Jk hm
  obtain⟨x,x1,x2,x3,x4⟩:=QrJ _ _ _ hmem
  obtain rfl:=Qnd hk.lg x1 ym x2
  have hr:e'.ref=x.lsn:=by rw[s3]; exact hy1
  have hc':e'.c=⟨x.c.pg,x.c.sl,x.c.a,x.c.b⟩:=by rw[s4]; exact hy2
  refine⟨by rw[hr]; exact hmem,x,x1,hr.symm,x3,x4,hc',fun z z1 z2 z3 z4=>?_⟩
  rw[<- hgl] at z2
  obtain⟨w,hw,hwz⟩:=Je.1 z2
  have hasc:(Qa2 k.tx e'.tx).l.Pairwise (·<·):=by
   obtain⟨q1,q2,q3⟩:=Je.1 g1
   have:=Qbg (QiY v).2.2.2.2.1 q2
   rw[q3] at this
   exact QrV this
  have hwm:m<w:=by
   rcases JH m w with h | h | h
   ·exact h
   ·subst h
    rw[Qd _ _ hm] at yl
    omega
   ·have:=(JC.1 hasc) w m hw hm h
    rw[Qd _ _ hm] at yl
    omega
  have hgz:=QzF hk.lg z1
  have:=hm3 w hwm hw
  rw[Qd _ _ hw,hwz,hgz] at this
  rw[hc'] at z4
  exact this rfl z4
 ·unfold LkK at q
  rw[hfs] at q
  rcases q with⟨d,d1,d2,d3⟩ | ⟨f,d1,d2,d3,d4⟩
  ·refine .inr ⟨.inl ⟨d,d1,d2,d3⟩,fun _=>?_⟩
   have hlk:=((Qsj v).frs i hil).2
   rw[Qd _ _ hil,hpg] at hlk
   obtain⟨b,hb⟩:∃ b,(b,false)=QaB k.la e'.c.pg:=⟨(QaB k.la e'.c.pg).1,by rw[<- hlk]⟩
   rw[<- d2]
   exact QfL hb d d1
  ·rcases QfK d1 with ⟨j,hj,hji,rfl⟩ | ⟨rfl,_⟩
   ·exact .inr ⟨.inr ⟨_,Jk hj,d2,d3,d4⟩,fun _=>by rw[<- d3]; exact hother j hj hji⟩
   ·exact .inl ⟨hk',by rw[<- d3,hup2],by rw[<- d4,hup3]⟩
 ·have hpe:p ≠ e'.c.pg:=fun h=>q e'.lsn (.inr ⟨u,by rw [hfs]; exact QuB hil,hup1,by rw [hup2,h],hup3⟩)
  refine⟨.inl fun n hL=>?_,fun _=>hpe⟩
  rcases hL with⟨d,d1,d2,d3⟩ | ⟨f,d1,d2,d3,d4⟩
  ·exact q n (.inl ⟨d,d1,d2,d3⟩)
  ·obtain ⟨j,hj,rfl⟩:=Je.1 d1
   by_cases hji:i=j
   ·subst hji; omega
   ·exact q n (.inr ⟨_,by rw[hfs]; exact QhF hj hji,d2,d3,d4⟩)
 ·rw [hfs] at q
  rcases QfK q with⟨j,hj,hji,rfl⟩ | ⟨rfl,_⟩
  ·rw [Qa4 _ _ _ fun h=>hother j hj hji h.2.symm]
   exact hk.fr _ (Jk hj)
  ·rw[Qa3,if_pos ⟨hk',hup2.symm⟩,hup3]
def Qe0(h:(QaH p a n).2=0)(hi:i<p.fs.length)(hid:idF p.fs a=(i:Nat))(hn:(p.fs.getD i Fm0).pg.lsn=n):((p.fs.getD i Fm0).dirty=false/\(QaH p a n).1=p)\/∃ u:Fm,u.pg=(p.fs.getD i Fm0).pg/\u.dirty=false/\(QaH p a n).1=⟨p.size,p.fs.set i u,p.hand⟩:=by
 unfold QaH at h |-
 split at h
 ·simp at h
 rename_i q1
 split at h
 ·simp at h
 rename_i q2
 split at h
 ·simp at h
 rename_i q3
 rw[if_neg q1,if_neg q2,if_neg q3,hid,Ji]
 split
 ·rename_i q4; exact .inl ⟨by simpa using q4,rfl⟩
 ·refine .inr ⟨_,?_,?_,rfl⟩<;>unfold QeA<;>rw[if_pos hn]
def Qsd(h:(QaB l n).2=true):∃ d∈l,d.pg=n:=by
 unfold QaB at h
 split at h
 ·rename_i d hd
  exact⟨d,J0 hd,by simpa using Kl hd⟩
 ·cases h
def Qzi(h:ixB l=true)(p:Nat):0<=(l.getD p Rw0).lsn:=by
 by_cases hp:p<l.length
 ·unfold ixB at h
  simp only[Jf,Jr,Ju] at h
  have:=h.2 p hp
  unfold Qyw Qos at this
  simp only[Jf,decide_eq_true_eq] at this
  omega
 ·rw[Jc,J8 (by omega)]; exact JA _
def KI.wrt(hk:KI k)(ha:AddOk k e e')(h7:e.kind=7)(hw:QEf k e):KI (k.wrt e'):=by
 have F:=ha.facts hk
 obtain⟨v,s,ho,hl,hn,hnt,hnr,h0,hi,hp1,hp2⟩:=id ha
 obtain⟨s1,s2,s3,s4,s5⟩:=s
 have hk':e'.kind=7:=by rw[s1]; exact h7
 have hn:¬ (e'.kind=1\/e'.kind=2):=by omega
 have n5:e'.kind≠5:=by omega
 have n2:e'.kind≠2:=by omega
 have n6:e'.kind≠6:=by omega
 have htx:¬ 0<e'.tx:=fun h=>by have:=Qeg ho (by omega); omega
 obtain⟨i,hil,hid,hls,hcl,hdd⟩:=hw
 rw[<- s4,<- s3] at hcl
 rw[<- s4] at hid
 rw[<- s3] at hls
 have hpl:=(QiY v).2.2.2.1
 have hpg:(k.pl.fs.getD i Fm0).pg.id=e'.c.pg:=by
  rcases QaU k.pl.fs e'.c.pg with q | ⟨j,_,q1,q2⟩
  ·omega
  ·obtain rfl:j = i:=by omega
   exact q2
 have hother:∀ j,(hj:j<k.pl.fs.length)->j≠i->(k.pl.fs[j]).pg.id≠e'.c.pg:=fun j hj hji q=>by
  have:=QrH hpl hj
  rw[Qd _ _ hj,q,hid] at this
  omega
 have hmi:k.pl.fs.getD i Fm0∈k.pl.fs:=by rw[Qd _ _ hil]; exact Jk hil
 have hfs:(k.wrt e').pl.fs=(QaH k.pl e'.c.pg e'.ref).1.fs:=rfl
 have hsub:∀ f∈(k.wrt e').pl.fs,∃ g∈k.pl.fs,g.pg=f.pg/\(f.dirty=true->g=f):=fun f hf=>by
  rw[hfs] at hf
  rcases Qe0 hcl hil hid hls with⟨_,q⟩ | ⟨u,u1,u2,q⟩
  ·rw[q] at hf; exact⟨f,hf,rfl,fun _=>rfl⟩
  ·rw [q] at hf
   rcases QfK hf with⟨j,hj,_,rfl⟩ | ⟨rfl,_⟩
   ·exact⟨_,Jk hj,rfl,fun _=>rfl⟩
   ·exact⟨_,hmi,u1.symm,fun h=>by rw[u2] at h; cases h⟩
 have hsup:∀ f∈k.pl.fs,f.dirty=true->f.pg.id≠e'.c.pg->f∈(k.wrt e').pl.fs:=fun f hf hd hne=>by
  rw[hfs]
  rcases Qe0 hcl hil hid hls with⟨_,q⟩ | ⟨u,u1,u2,q⟩
  ·rw[q]; exact hf
  ·rw [q]
   obtain⟨j,hj,rfl⟩:=Je.1 hf
   by_cases hji:i=j
   ·subst hji; rw[Qd _ _ hil] at hpg; exact absurd hpg hne
   ·exact QhF hj hji
 refine hk.addP ha ⟨fun q=>absurd q htx,fun q=>absurd q htx,fun q=>absurd q htx,fun q=>absurd q n5,fun q=>absurd q hn,fun q=>absurd q n2,fun _=>?_,fun q=>absurd q n6,fun _=>?_⟩ rfl rfl rfl rfl rfl (fun p n q=>.inr ⟨?_,fun h=>absurd h hn⟩) (fun p q=>⟨?_,fun h=>absurd h hn⟩) (fun f q=>?_) (fun _ n q=>?_)
 ·rw[<- hls,hk.fr _ hmi,hpg]
 ·have hp0:=Qee ho (.inr (.inr hk'))
  have hlt:=hk.cor.lt e'.c.pg.toNat e'.ref (.inr ⟨_,hmi,hdd,by rw[hpg]; omega,hls⟩)
  have hix:=Qzi (QiY v).2.2.2.2.2.1 e'.c.pg.toNat
  refine⟨by omega,fun x hx h7x ⟨g1,g2⟩=>?_⟩
  have:=hk.cor.w7 x hx h7x
  rw[g1] at this
  omega
 ·rcases q with q | ⟨f,d1,d2,d3,d4⟩
  ·exact .inl q
  ·obtain ⟨g,g1,g2,g3⟩:=hsub f d1
   obtain rfl:=g3 d2
   exact .inr ⟨g,g1,d2,d3,d4⟩
 ·by_cases hpe:p = e'.c.pg
  ·exact .inr ⟨hk',hpe⟩
  ·refine .inl fun n hL=>?_
   rcases hL with hL | ⟨f,d1,d2,d3,d4⟩
   ·exact q n (.inl hL)
   ·exact q n (.inr ⟨f,hsup f d1 d2 (by rw[d3]; exact hpe),d2,d3,d4⟩)
 ·obtain ⟨g,g1,g2,_⟩:=hsub f q
  rw[Qa4 _ _ _ fun h=>hn h.1,<- g2]
  exact hk.fr g g1
 ·rcases q with ⟨d,d1,d2,d3⟩ | ⟨f,d1,d2,d3,d4⟩
  ·have hlk:=((Qsj v).frs i hil).2
   rw[hpg] at hlk
   obtain⟨b,hb⟩:∃ b,(b,false)=QaB k.la e'.c.pg:=⟨(QaB k.la e'.c.pg).1,by rw[<- hlk]⟩
   exact QfL hb d d1 d2
  ·rw [hfs] at d1
   rcases Qe0 hcl hil hid hls with⟨g,_⟩ | ⟨u,u1,u2,g⟩
   ·rw[hdd] at g; cases g
   ·rw [g] at d1
    rcases QfK d1 with⟨j,hj,hji,rfl⟩ | ⟨rfl,_⟩
    ·exact hother j hj hji d3
    ·rw[u2] at d2; cases d2
def KI.pool(hk:KI k)(h1:∀ f∈p.fs,∃ g∈k.pl.fs,g.pg=f.pg/\g.dirty=f.dirty)(h2:∀ g∈k.pl.fs,g.dirty=true->∃ f∈p.fs,f.pg=g.pg/\f.dirty=true):KI ⟨k.pg,k.nx,k.lg,p,k.lk,k.tx,k.ix,k.la⟩:=by
 refine⟨hk.lg,hk.f,hk.log,hk.cor.weak (JA _) (fun q n h=>?_) (fun q h n hL=>?_),fun f hf=>?_⟩
 ·rcases h with h | ⟨f,d1,d2,d3,d4⟩
  ·exact .inl h
  ·obtain ⟨g,g1,g2,g3⟩:=h1 f d1
   exact .inr ⟨g,g1,by rw[g3]; exact d2,by rw[g2]; exact d3,by rw[g2]; exact d4⟩
 ·rcases hL with hL | ⟨f,d1,d2,d3,d4⟩
  ·exact h n (.inl hL)
  ·obtain ⟨g,g1,g2,g3⟩:=h2 f d1 d2
   exact h n (.inr ⟨g,g1,g3,by rw[g2]; exact d3,by rw[g2]; exact d4⟩)
 ·obtain ⟨g,g1,g2,_⟩:=h1 f hf
  show f.pg.lsn=_
  rw[<- g2]; exact hk.fr g g1
def SameF.mem(h:SameF l m)(hf:f∈m):∃ g∈l,g.pg=f.pg/\g.dirty=f.dirty:=by
 obtain⟨i,hi,rfl⟩:=Je.1 hf
 have hl:=h.len
 have:=h.at_ i
 rw[Qd _ _ hi,Qd _ _ (by omega:i<l.length)] at this
 unfold Fm.clr at this
 simp only[Fm.mk.injEq] at this
 exact⟨_,Jk (by omega:i<l.length),this.1.symm,this.2.1.symm⟩
def SameF.symm(h:SameF l m):SameF m l:=Eq.symm h
def Qs7(h:(Qdz p a).2=0):∃ i:Nat,(p.fs.getD i Fm0).dirty=false/\(Qdz p a).1.fs=p.fs.take i++p.fs.drop (i+1):=by
 unfold Qdz at h |-
 split at h
 ·simp at h
 rename_i q1
 split at h
 ·simp at h
 rename_i q2
 split at h
 ·simp at h
 rename_i q3
 rw[if_neg q1,if_neg q2,if_neg q3]
 exact⟨(idF p.fs a).toNat,by simpa using q3,by dsimp only⟩
def KI.drop(hk:KI k)(h:(Qdz k.pl a).2=0):KI ⟨k.pg,k.nx,k.lg,(Qdz k.pl a).1,k.lk,k.tx,k.ix,k.la⟩:=by
 obtain⟨i,hd,hf⟩:=Qs7 h
 refine hk.pool (fun f q=>?_) fun g q hg=>?_
 ·rw [hf] at q
  rcases Jh.1 q with q | q
  ·exact⟨f,Ka q,rfl,rfl⟩
  ·exact⟨f,Kb q,rfl,rfl⟩
 ·obtain ⟨j,hj,rfl⟩:=Je.1 q
  have hji:j≠i:=fun h=>by subst h; rw[Qd _ _ hj,hg] at hd; cases hd
  refine⟨k.pl.fs[j],?_,rfl,hg⟩
  rw[hf,Jh]
  rcases Nat.lt_or_gt_of_ne hji with h | h
  ·left; rw[Je]; exact⟨j,by rw[Jp]; omega,by rw[List.getElem_take]⟩
  ·right; rw[Je]; exact⟨j-(i+1),by rw[JF]; omega,by rw[List.getElem_drop]; congr 1; omega⟩
def KI.put(hk:KI k)(v:kB k=true)(hr:0<=x.id/\x.id<k.pg)(hl:x.lsn=QeW k x.id):KI ⟨k.pg,k.nx,k.lg,⟨k.pl.size,k.pl.fs++[⟨x,false,0,true⟩],k.pl.hand⟩,k.lk,k.tx,k.ix,k.la⟩:=by
 rw[hk.head v hr.1 hr.2] at hl
 refine⟨hk.lg,hk.f,hk.log,hk.cor.weak (JA _) (fun q n h=>?_) (fun q h n hL=>?_),fun f hf=>?_⟩
 ·rcases h with h | ⟨f,d1,d2,d3,d4⟩
  ·exact .inl h
  ·rcases Jh.1 d1 with d1 | d1
   ·exact .inr ⟨f,d1,d2,d3,d4⟩
   ·rw[Jg.1 d1] at d2; cases d2
 ·rcases hL with hL | ⟨f,d1,d2⟩
  ·exact h n (.inl hL)
  ·exact h n (.inr ⟨f,Jj _ d1,d2⟩)
 ·rcases Jh.1 hf with d1 | d1
  ·exact hk.fr f d1
  ·rw[Jg.1 d1]; exact hl
def KI.putl(hk:KI k)(v:kB k=true)(hr:0<=x.id/\x.id<k.pg)(hl:x.lsn=QeW k x.id)(hla:(QaB k.la x.id).2=true):KI ⟨k.pg,k.nx,k.lg,⟨k.pl.size,k.pl.fs++[⟨x,true,rc,true⟩],k.pl.hand⟩,k.lk,k.tx,k.ix,k.la.filter fun d=>decide (d.pg≠x.id)⟩:=by
 rw[hk.head v hr.1 hr.2] at hl
 refine⟨hk.lg,hk.f,hk.log,⟨hk.cor.pgr,hk.cor.ids,hk.cor.ok,hk.cor.all,hk.cor.len,fun p hp=>⟨(hk.cor.row p hp).1,fun q=>(hk.cor.row p hp).2 fun n hL=>?_⟩,fun p n h=>?_,fun p n h=>?_,hk.cor.w7⟩,fun f hf=>?_⟩
 ·have hxp:(p:Int) ≠ x.id:=fun h=>q x.lsn (.inr ⟨_,JS _ (Jg.2 rfl),rfl,h.symm,rfl⟩)
  rcases hL with⟨d,d1,d2,d3⟩ | ⟨f,d1,d2⟩
  ·exact q n (.inl ⟨d,JO.2 ⟨d1,by simp; omega⟩,d2,d3⟩)
  ·exact q n (.inr ⟨f,Jj _ d1,d2⟩)
 ·rcases h with ⟨d,d1,d2,d3⟩ | ⟨f,d1,d2,d3,d4⟩
  ·exact hk.cor.la p n (.inl ⟨d,(JO.1 d1).1,d2,d3⟩)
  ·rcases Jh.1 d1 with d1 | d1
   ·exact hk.cor.la p n (.inr ⟨f,d1,d2,d3,d4⟩)
   ·rw [Jg.1 d1] at d3 d4
    rw[<- d4,<- d3]; exact hl
 ·rcases h with ⟨d,d1,d2,d3⟩ | ⟨f,d1,d2,d3,d4⟩
  ·exact hk.cor.lt p n (.inl ⟨d,(JO.1 d1).1,d2,d3⟩)
  ·rcases Jh.1 d1 with d1 | d1
   ·exact hk.cor.lt p n (.inr ⟨f,d1,d2,d3,d4⟩)
   ·rw [Jg.1 d1] at d3 d4
    obtain⟨d,g1,g2⟩:=Qsd hla
    have:=hk.cor.la p d.last (.inl ⟨d,g1,by rw[g2]; exact d3,rfl⟩)
    refine hk.cor.lt p n (.inl ⟨d,g1,by rw[g2]; exact d3,?_⟩)
    rw[this,<- d4,<- d3]; exact hl.symm
 ·rcases Jh.1 hf with d1 | d1
  ·exact hk.fr f d1
  ·rw[Jg.1 d1]; exact hl
def KI.rem(hk:KI k)(hi:0<=idT k.tx a)(hn:(Qa2 k.tx a).n=0):KI ⟨k.pg,k.nx,k.lg,k.pl,k.lk,Qje k.tx a,k.ix,k.la⟩:=by
 obtain⟨g1,g2⟩:=Ql7 hi
 have g3:=(hk.cor.ok _ g1).n
 rw[g2,hn] at g3
 refine hk.txs (hk.cor.same (JA _) (fun t q=>hk.cor.ok t (mem_remS.1 q).1) fun x hx _ ⟨t,q1,q2⟩=>⟨t,mem_remS.2 ⟨q1,fun h=>?_⟩,q2⟩)
 have:=Qky k.lg.es (a:=a) (fun y hy=>(QiV hk.lg hk.f hy).1) ⟨x,hx,by omega⟩
 omega
def Stp.KI {n:Nat} {k k':Kn} (h:Stp n k k') (hk:KI k):KI k':=by
 cases h with
 | begin v hb =>
   refine⟨hk.lg,hk.f,hk.log,hk.cor.beginT (show k.nx<=k.nx+1 by omega) hb fun x hx=>?_,hk.fr⟩
   have:=hk.cor.ids x hx
   omega
 | fin ha h3 hf=>exact hk.fin ha h3 hf
 | ckpt ha h6 hc=>exact hk.ckpt ha h6 hc
 | change ha h1 hs hu=>exact hk.setE ha (.inl h1) hs hu
 | undo ha h2 hs hu=>exact hk.setE ha (.inr h2) hs hu
 | wrt ha h7 hw=>exact hk.wrt ha h7 hw
 | lock u=>exact⟨hk.lg,hk.f,hk.log,hk.cor,hk.fr⟩
 | save a h =>
   obtain⟨i,hi,e⟩:=QqJ h
   rw[e]
   exact hk.txs (hk.cor.setT hi rfl rfl rfl Iff.rfl)
 | back a b h =>
   obtain⟨i,hi,u,e,h1,h2,h3,h4⟩:=Qtw h
   rw[e]
   exact hk.txs (hk.cor.setT hi h1 h2 h3 h4)
 | rem a hi hn=>exact hk.rem hi hn
 | pool p hs =>
   refine hk.pool (fun f q=>hs.mem q) fun g q hg=>?_
   obtain⟨f,f1,f2,f3⟩:=hs.symm.mem q
   exact⟨f,f1,f2,by rw[f3]; exact hg⟩
 | drop a h=>exact hk.drop h
 | put x v hr hl _ _=>exact hk.put v hr hl
 | putl x v hr hl _ hla=>exact hk.putl v hr hl hla
 | force d h=>exact⟨h hk.lg,hk.f,hk.log,hk.cor,hk.fr⟩
def Str.KI{n:Nat}{k k':Kn}(h:Str n k k')(hk:KI k):KI k':=by
 induction h with
 | refl k=>exact hk
 | step _ h2 ih=>exact h2.KI (ih hk)
end Go.Proofs.YtepdccfgnafgcaaGreat
