/-
  Contracts of functions and plain laws. No condition.
-/
import Derived.Test.YtepdccfgnafgcaaGreatP2
import Derived.Test.YtepdccfgnafgcaaGreatP1
import Derived.Test.YtepdccfgnafgcaaGreatV3
set_option linter.unusedSimpArgs false
set_option linter.unusedVariables false
set_option linter.defProp false
set_option maxRecDepth 100000
set_option maxHeartbeats 8000000
set_option autoImplicit true
set_option relaxedAutoImplicit true
open And renaming intro->Ja
open Bool renaming and_eq_true->Jf,toNat_le->J8,toNat_false->Ka
open Int renaming toNat_natCast->Jk,le_refl->Jw,lt_of_lt_of_le->JT,natCast_pow->Kc,le_trans->Kj
open List renaming length_append->Jb,mem_iff_getElem->Jd,getD_eq_getElem?_getD->Je,mem_singleton->Jg,mem_append->Jh,take_succ_eq_append_getElem->Ji,getElem_mem->Jj,mem_append_left->Jl,take_of_length_le->Jm,length_take->Jp,getElem_map->Jq,all_eq_true->Jr,append_assoc->Js,length_cons->Jt,length_nil->Ju,length_singleton->Jv,mem_range->Jz,foldl_append->JA,pairwise_iff_getElem->JB,length_set->JE,append_nil->JF,getElem_set_self->JG,getElem?_append_right->JI,getElem?_set_ne->JJ,getElem?_eq_some_iff->JK,length_drop->JL,getElem_set_ne->JM,mem_filter->JN,getElem?_set_self->JO,mem_append_right->JP,mem_cons_of_mem->JQ,mem_of_mem_take->JR,getElem_of_mem->JS,filter_append->JU,mem_of_find?_eq_some->JV,getElem?_eq_getElem->JW,getElem?_eq_none->JZ,nil_append->J0,length_filter_le->J1,mem_of_mem_drop->J2,drop_left->J3,take_zero->J4,replicate->J5,flatMap_append->J6,map_cons->J9,find?_some->Kb,idxOf_cons->Kd,take_left->Ke,mem_cons->Kf,take_nil->Kg,mem_map->Ki,range->Kl
open Nat renaming zero_le->Jc,le_succ_of_le->Jn,le_trans->Jo,le_refl->Jy,pow_le_pow_right->JC,mul_le_mul_right->JD,lt_trichotomy->JH,succ_le_succ->JY,mul_le_mul_left->J7,lt_or_ge->Kh,le_succ->Kk
open Option renaming getD_some->JX
namespace Go.Proofs.YtepdccfgnafgcaaGreat
open Go.V Go
open Tryz (prog)
section
attribute [local go_sem] Qbo
def QEF (s:Sv) (hs:s.sm) (tx:Int) (a:Ac):VCalls prog 124 [.agg s.d,.int .i64 tx,.agg a.d] [] (QL srD (QGR s)):=by
 refine dk Tryz.func124 ?_
 (unfold Tryz.f124; refine rn trivial ?_)
 refine Qj (fun r:Re s=>⟨58,0,[(7,.ptr 3 0),(6,.ptr 2 0),(5,.ptr 1 0),(3,.ptr 0 0),(1,.int .i64 tx)],[⟨101,true,r.s.d⟩,⟨176,true,a.d⟩,⟨101,true,Zv⟩,⟨173,true,Zr⟩]⟩) (fun r=>4096-r.s.k.lg.es.length) ⟨s,hs,Str.refl _⟩ (gc [0,1,2,3]) ?_
 rintro⟨s1,sm,ev⟩
 dsimp only
 unfold Zv Zr
 have d1:=QEy s1 sm tx a
 have d2:=fun(t:Sv) (h:t.sm)=>Qqn t.k h.1 tx
 have d3:=fun(t:Sv) (h:t.sm)=>Qxr t h
 refine rn F ?_
 repeat' (first
  | with_reducible exact⟨⟩
  | (refine sB F ?_ ?_<;>intro hZ)
  | (refine Qr (d1) rfl ?_; rintro⟨s2,r2⟩ hq; refine rn F ?_)
  | (refine Qr (d2 s2 hq.1) rfl ?_; rintro⟨x,p,q,b⟩ -; refine rn F ?_)
  | (refine Qr (d3 s2 hq.1 _ _ _) rfl ?_; rintro⟨s3,n,e3⟩ hq3; refine rn F ?_)
  | refine vp F (Qah _) ?_
  | (refine Qb (id:=4) [0,1] [⟨[],[],2,[1],[]⟩,⟨[],[],3,[],[]⟩] (by kernel_rfl) (by kernel_rfl) ?_; refine rn F ?_)
  | (refine Qb (id:=7) [0,1] [⟨[],[],2,[1],[]⟩,⟨[],[],3,[],[]⟩] (by kernel_rfl) (by kernel_rfl) ?_; refine rn F ?_)
  | (refine Qb (id:=11) [0,1] [⟨[],[],2,[0],[]⟩,⟨[],[],3,[1],[]⟩,⟨[],[],4,[],[]⟩] (by kernel_rfl) (by kernel_rfl) ?_; refine rn F ?_)
  | (refine Qb (id:=13) [0,1] [⟨[],[],2,[1],[]⟩,⟨[],[],3,[],[]⟩] (by kernel_rfl) (by kernel_rfl) ?_; refine rn F ?_))
 all_goals first
  | exact⟨rfl,rfl,(s2,r2),rfl,hq.1,fun h=>ev.trans (hq.2.1 h),fun h=>ev.tr0 (hq.2.2 h)⟩
  | exact⟨rfl,rfl,(s3,QaC e3),rfl,QgV s s3 hq3.1 e3⟩
  | (have q3:=(hq3.2 (by dsimp only; omega)).1
     have q4:=(ev.trans (hq.2.1 (by dsimp only; omega))).trans q3
     exact⟨rfl,rfl,(s3,r2),rfl,hq3.1,fun h=>q4,fun h=>q4.mono (by omega)⟩)
  | skip
 have qz:=hq.2.1 (by dsimp only; omega)
 have q3:=hq3.2 (by dsimp only; omega)
 have h1:=qz.ev.len
 have h2:=q3.2
 have h3:=hq3.1.1.1
 dsimp only at h1 h2 h3
 exact⟨⟨s3,hq3.1,(ev.trans qz).trans q3.1⟩,by dsimp only; omega,(gc [0,1,2,3])⟩
@[go_sem] def QIh(a:Sv×Bool×Int):DV:=.tup [.agg a.1.d,.bool a.2.1,.int .i64 a.2.2]
def wkQ(s:Sv)(a:Sv×Bool×Int):Prop:=a.1.sm/\(a.2.2=0->Str 0 s.k a.1.k)
def QBp(s:Sv)(hs:s.sm):VCalls prog 117 [.agg s.d] [] (QL QIh (wkQ s)):=by
 refine dk Tryz.func117 ?_
 have c1:=Qa7 s.k hs.1
 have c2:=fun n=>QeF s hs n
 have c3:=QxB s.k hs.1
 have hg:=fun h:0<s.k.la.length=>QeU s.k.la 0 h
 have e0:∀ e,e≠0->wkQ s (Sv0,false,e):=fun e h=>⟨Qdy,fun h2=>absurd h2 h⟩
 (unfold Tryz.f117; refine rn trivial ?_)
 have F:=@hg
 refine rn F ?_
 repeat' (first
  | with_reducible exact⟨⟩
  | (refine sB F ?_ ?_<;>intro hZ)
  | (refine Qr (c1) rfl ?_; rintro b -; refine rn F ?_)
  | (refine Qr (c2 _) rfl ?_; rintro⟨s2,e2⟩ hq; refine rn F ?_)
  | (refine Qr (c3) rfl ?_; rintro l hl; refine rn F ?_)
  | (refine Qb (id:=4) [0,1,2,3,4,5,6] [⟨[11],[],7,[1,2,3,4,5],[8,9,10]⟩,⟨[11],[11],12,[10],[]⟩,⟨[],[],13,[],[]⟩] (by kernel_rfl) (by kernel_rfl) ?_; refine rn F ?_))
 all_goals first
  | exact⟨rfl,rfl,(Sv0,false,15),rfl,e0 _ (by decide)⟩
  | exact⟨rfl,rfl,(s,false,0),rfl,hs,fun _=>Str.refl _⟩
  | exact⟨rfl,rfl,(s2,_,e2),rfl,hq.1,fun h=>(hq.2 h).1⟩
  | skip
 have hg0:=fun h:0<l.length=>QV l 0 h
 generalize l.getD 0 0=tx at *
 refine Qj (fun r:Re s=>⟨77,0,[(7,.pv (.sl (fz Qx l))),(2,.ptr 1 0),(1,.ptr 0 0)],[⟨101,true,r.s.d⟩,⟨101,true,Zv⟩]⟩) (fun r=>rbM tx r.s) ⟨s,hs,Str.refl _⟩ (gc [0,1]) ?_
 rintro⟨s1,sm,ev⟩
 dsimp only
 unfold Zv
 have d2:=QsX s1.k sm.1 tx
 have d3:=fun n=>QeF s1 sm n
 have F:=@hg0
 refine rn F ?_
 repeat' (first
  | with_reducible exact⟨⟩
  | (refine sB F ?_ ?_<;>intro hZ)
  | (refine Qr (d2) rfl ?_; rintro⟨k1,r1⟩ hq; refine rn F ?_)
  | (refine Qr (d3 _) rfl ?_; rintro⟨s2,e2⟩ hq2; refine rn F ?_)
  | (refine Qb (id:=9) [0,1,2,3,4] [⟨[9,10],[],5,[0,2,3],[6,7,8]⟩,⟨[9,10],[9],11,[8],[]⟩,⟨[10],[10],12,[],[]⟩] (by kernel_rfl) (by kernel_rfl) ?_; refine rn F ?_)
  | (refine Qb (id:=11) [0,1,2] [⟨[],[],3,[1,2],[]⟩,⟨[],[],4,[1,2],[]⟩,⟨[],[],5,[],[]⟩] (by kernel_rfl) (by kernel_rfl) ?_; refine rn F ?_))
 all_goals first
  | exact⟨rfl,rfl,(Sv0,false,e2),rfl,e0 _ (by assumption)⟩
  | exact⟨rfl,rfl,(Sv0,false,r1.er),rfl,e0 _ (hq.2.2.2 (by assumption))⟩
  | exact⟨rfl,rfl,(⟨k1,s1.v⟩,true,0),rfl,⟨hq.1,sm.2⟩,fun _=>ev.trans (hq.2.2.1 (by dsimp only; omega) (by dsimp only; omega)).1⟩
  | skip
 obtain⟨v,_,g1,g2,g3⟩:=hq.2.1 (by first | assumption | (dsimp only; omega))
 have q2:=hq2.2 (by dsimp only; omega)
 dsimp only at g1 g3 q2
 rw[g1] at g3 q2
 exact⟨⟨s2,hq2.1,ev.trans q2.1⟩,QoR q2.1.ev q2.2.1 g2 g3 q2.2.2,(gc [0,1])⟩
end
def QdL:∀ (l:List Int) (s:List UInt8),(QkD s l).length = s.length + 8 * l.length
 | [],s=>by simp[QkD]
 | a :: r,s=>by
   show(QkD (Ql s a 8) r).length=_
   rw[QdL r,Qd,Jt]; omega
def QtK(s:List UInt8)(l:List Int)(i:Nat)(h:i<l.length):QkD s (l.take (i+1))=Ql (QkD s (l.take i)) (l.getD i 0) 8:=by
 rw[Ji h,QkD,JA,Qc l i h]; rfl
def QoF(s:List UInt8)(l:List Int)(hb:s.length+8*l.length<=900000000):VCalls prog 232 [.pv (.str s),.pv (.sl (fz Qx l))] [] (Ret (.pv (.str (QkD s l)))):=by
 refine dd Tryz.func232 ?_
 (unfold Tryz.f232; refine rn trivial ?_)
 refine Qj (fun t:To l.length=>⟨19,0,[(5,.int .i64 t.i),(1,.pv (.sl (fz Qx l))),(0,.pv (.str (QkD s (l.take t.i))))],[]⟩) (fun t=>l.length-t.i) ⟨0,Jc _⟩ (gc []) ?_
 rintro⟨i,hi⟩
 dsimp only
 have hg:=fun h:i<l.length=>QV l i h
 have hlen:=QdL (l.take i) s
 rw[Jp] at hlen
 have p2:=Q0 (QkD s (l.take i)) (by omega) (l.getD i 0) 8 (by omega) (by omega)
 have hs:=QtK s l i
 have F:=@hg
 refine rn F ?_
 repeat' (first
  | with_reducible exact⟨⟩
  | (refine sB F ?_ ?_<;>intro hZ)
  | refine vp F (p2) ?_)
 ·refine ⟨⟨i + 1,by omega⟩,by dsimp only; omega,?_⟩
  dsimp only
  rw[hs (by omega)]
  exact(gc [])
 ·rw[Jm (by omega)]
def Qvh(s:List UInt8)(t:Tx):(QeZ s t).length=s.length+24+8*t.l.length+8*t.s.length:=by
 unfold QeZ
 rw[QdL,Qd,QdL,Qd,Qd,Qd,Qd,Qd]; omega
def Qko:∀ (l:List Tx) (s:List UInt8),(∀ t ∈ l,t.l.length<=4096/\t.s.length<=8)->(QeY s l).length<=s.length + 32856 * l.length
 | [],s,_=>by simp[QeY]
 | t :: r,s,h=>by
   have h1:=h t (by simp)
   have h2:=Qko r (QeZ s t) fun t ht=>h t (JQ _ ht)
   show(QeY (QeZ s t) r).length<=_
   rw[Qvh] at h2
   rw[Jt]; omega
def QqS(s:List UInt8)(l:List Tx)(i:Nat)(h:i<l.length):QeY s (l.take (i+1))=QeZ (QeY s (l.take i)) (l.getD i Tx0):=by
 rw[Ji h,QeY,JA,Qc l i h]; rfl
def Qow(hv:QaF l=true):∀ t∈l,t.l.length<=4096/\t.s.length<=8:=fun t ht=>by
 obtain⟨i,hi,rfl⟩:=JS ht
 exact Qdf (QaE hv hi)
def Qpm(hv:QaF l=true):(Qa3 l).length<=3000000:=by
 have:=Qko l (Ql [] l.length 2) (Qow hv)
 have h2:=QdC hv
 rw[Qd,Ju] at this
 unfold Qa3
 omega
def QBs(l:List Tx)(hl:smN 65 l)(hv:QaF l=true):VCalls prog 187 [.pv (.sl (fz Qu l))] [] (Ret (.tup [.pv (.str (Qa3 l)),.int .i64 0])):=by
 refine dd Tryz.func187 ?_
 have c1:=QbR l (hl.smL (by omega))
 have hsm:=Qow hv
 have hle:=QdC hv
 rw[hv] at c1
 unfold Qa3
 have p1:=Q0 [] (by simp) l.length 2 (by omega) (by omega)
 (unfold Tryz.f187; refine rn trivial ?_)
 refine rn F ?_
 repeat' (first
  | with_reducible exact⟨⟩
  | refine vp F (c1) ?_
  | refine vp F (p1) ?_)
 refine Qj (fun t:To l.length=>⟨56,0,[(5,.int .i64 t.i),(4,.pv (.str (QeY (Ql [] l.length 2) (l.take t.i)))),(0,.pv (.sl (fz Qu l)))],[]⟩) (fun t=>l.length-t.i) ⟨0,Jc _⟩ (gc []) ?_
 rintro⟨i,hi⟩
 dsimp only
 have hg:=fun h:i<l.length=>QdZ l i h
 have hlen:=Qko (l.take i) (Ql [] l.length 2) fun t ht=>hsm t (JR ht)
 rw[Qd,Jp,Ju] at hlen
 have hsc:=QqS (Ql [] l.length 2) l i
 have hend:l.length<=i->l.take i=l:=fun h=>Jm h
 by_cases hc:i<l.length
 ·have hq:=hsm (l.getD i Tx0) (by rw [Qc l i hc]; exact Jj hc)
  replace hsc:=hsc hc
  generalize QeY (Ql [] l.length 2) (l.take i)=s at *
  generalize l.getD i Tx0=x at *
  obtain⟨id,st,n,b,q,sv⟩:=x
  dsimp only at hg hq
  obtain⟨hq1,hq2⟩:=hq
  unfold QeZ at hsc
  dsimp only at hsc
  have z0:s.length<=3000000:=by omega
  have p2:=Q0 s (by omega) id 4 (by omega) (by omega)
  have p3:=Q0 (Ql s id 4) (by rw[Qd]; omega) st 1 (by omega) (by omega)
  have p4:=Q0 (Ql (Ql s id 4) st 1) (by rw[Qd,Qd]; omega) n 8 (by omega) (by omega)
  have p5:=Q0 (Ql (Ql (Ql s id 4) st 1) n 8) (by rw[Qd,Qd,Qd]; omega) b 8 (by omega) (by omega)
  have p6:=Q0 (Ql (Ql (Ql (Ql s id 4) st 1) n 8) b 8) (by rw[Qd,Qd,Qd,Qd]; omega) q.length 2 (by omega) (by omega)
  have p6b:=QoF (Ql (Ql (Ql (Ql (Ql s id 4) st 1) n 8) b 8) q.length 2) q (by rw[Qd,Qd,Qd,Qd,Qd]; omega)
  have p7:=Q0 (QkD (Ql (Ql (Ql (Ql (Ql s id 4) st 1) n 8) b 8) q.length 2) q) (by rw[QdL,Qd,Qd,Qd,Qd,Qd]; omega) sv.length 1 (by omega) (by omega)
  have p7b:=QoF (Ql (QkD (Ql (Ql (Ql (Ql (Ql s id 4) st 1) n 8) b 8) q.length 2) q) sv.length 1) sv (by rw[Qd,QdL,Qd,Qd,Qd,Qd,Qd]; omega)
  have F:=@hg
  refine rn F ?_
  repeat' (first
   | with_reducible exact⟨⟩
   | refine vp F (p2) ?_
   | refine vp F (p3) ?_
   | refine vp F (p4) ?_
   | refine vp F (p5) ?_
   | refine vp F (p6) ?_
   | refine vp F (p6b) ?_
   | refine vp F (p7) ?_
   | refine vp F (p7b) ?_
   | (refine Qb (id:=12) [0,1,2,3,5,6] [⟨[],[],4,[1,2,5,6],[]⟩,⟨[],[],7,[0,1,2,3,5],[]⟩,⟨[],[],8,[],[]⟩] (by kernel_rfl) (by kernel_rfl) ?_; refine rn F ?_)
   | (refine Qb (id:=13) [0,1,2,3,5,6] [⟨[],[],4,[1,2,5,6],[]⟩,⟨[],[],7,[0,1,2,3,5],[]⟩,⟨[],[],8,[],[]⟩] (by kernel_rfl) (by kernel_rfl) ?_; refine rn F ?_))
  refine⟨⟨i+1,by omega⟩,by dsimp only; omega,?_⟩
  dsimp only
  rw[hsc]
  exact(gc [])
 ·rw [hend (by omega)]
  have F:=@hg
  (refine rn F ?_; try with_reducible exact⟨⟩)
def Qe0:∀ (l:List Rw) (s:List UInt8),(Qen s l).length = s.length + 24 * l.length
 | [],s=>by simp[Qen]
 | t :: r,s=>by
   show(Qen (Qkp s t) r).length=_
   rw[Qe0 r]
   unfold Qkp
   rw[Qd,Qd,Qd,Jt]; omega
def Qi2(s:List UInt8)(l:List Rw)(i:Nat)(h:i<l.length):Qen s (l.take (i+1))=Qkp (Qen s (l.take i)) (l.getD i Rw0):=by
 rw[Ji h,Qen,JA,Qc l i h]; rfl
def Qmq(l:List Rw):(QcD l).length=2+24*l.length:=by
 unfold QcD; rw[Qe0,Qd,Ju]
def QxG(l:List Rw)(hl:l.length<=64)(hv:ixB l=true):VCalls prog 188 [.agg [.pv (.sl (fz Qcl l))]] [] (Ret (.tup [.pv (.str (QcD l)),.int .i64 0])):=by
 refine dd Tryz.func188 ?_
 have c1:=QbK l (by omega)
 have c2:=Q0 [] (by simp) l.length 2 (by omega) (by omega)
 rw[hv] at c1
 unfold QcD
 (unfold Tryz.f188; refine rn trivial ?_)
 refine rn F ?_
 repeat' (first
  | with_reducible exact⟨⟩
  | refine vp F (c1) ?_
  | refine vp F (c2) ?_)
 refine Qj (fun r:To l.length=>⟨45,0,[(5,.int .i64 r.i),(4,.pv (.str (Qen (Ql [] l.length 2) (l.take r.i)))),(1,.ptr 0 0)],[⟨59,true,[.pv (.sl (fz Qcl l))]⟩]⟩) (fun r=>l.length-r.i) ⟨0,Jc _⟩ (gc [0]) ?_
 rintro⟨i,hi⟩
 dsimp only
 have hg:=fun h:i<l.length=>Qmj l i h
 have hlen:=Qe0 (l.take i) (Ql [] l.length 2)
 rw[Qd,Jp,Ju] at hlen
 have hsc:=Qi2 (Ql [] l.length 2) l i
 have hend:l.length<=i->l.take i=l:=fun h=>Jm h
 by_cases hc:i<l.length
 ·replace hsc:=hsc hc
  generalize Qen (Ql [] l.length 2) (l.take i)=s at *
  generalize l.getD i Rw0=x at *
  unfold Qkp at hsc
  have p1:=Q0 s (by omega) x.lsn 8 (by omega) (by omega)
  have p2:=Q0 (Ql s x.lsn 8) (by rw[Qd]; omega) x.im 8 (by omega) (by omega)
  have p3:=Q0 (Ql (Ql s x.lsn 8) x.im 8) (by rw[Qd,Qd]; omega) x.at_ 8 (by omega) (by omega)
  have F:=@hg
  refine rn F ?_
  repeat' (first
   | with_reducible exact⟨⟩
   | refine vp F (p1) ?_
   | refine vp F (p2) ?_
   | refine vp F (p3) ?_)
  refine⟨⟨i+1,by omega⟩,by dsimp only; omega,?_⟩
  dsimp only
  rw[hsc]
  exact(gc [0])
 ·rw [hend (by omega)]
  have F:=@hg
  (refine rn F ?_; try with_reducible exact⟨⟩)
section
attribute [local go_sem] QbB
@[go_sem] def Cp.d(c:Cp):List DV:=[.int .i64 c.pg,.int .i64 c.nx,.pv (.sl (fz Qu c.tx)),.pv (.sl (fz QcZ c.dl)),.pv (.sl (fz Qcl c.ix))]
def Cp0:Cp:=⟨0,0,[],[],[]⟩
def Cp.sm(c:Cp):Prop:=smN 65 c.tx/\c.dl.length<=10000/\c.ix.length<=64
def QGb:Cp0.sm:=⟨Q6 _,by decide,by decide⟩
@[go_sem] def QHR(a:Cp×Int):DV:=.tup [.agg a.1.d,.int .i64 a.2]
def Zc:List DV:=[.int .i64 0,.int .i64 0,.pv (.slc []),.pv (.slc []),.pv (.slc [])]
def QlG(h:plB p=true)(hi:i<p.fs.length):frC p.fs i=true:=by
 unfold plB at h
 rw[Jf,Jr] at h
 exact h.2 i (Jz.2 hi)
def Qu1(h:frC l i=true)(hk:k<i):(l.getD k Fm0).pg.id≠(l.getD i Fm0).pg.id:=by
 unfold frC at h
 rw[Jf,Jr] at h
 have:=h.2 k (Jz.2 hk)
 unfold QAh at this
 simpa using this
def QnZ(h:frC l i=true):0<=(l.getD i Fm0).pg.id/\(l.getD i Fm0).pg.id<64:=by
 unfold frC Pg.okB Pg.numB at h
 simp only[Jf,decide_eq_true_eq] at h
 omega
def QtS(h:plB p=true)(hi:i<p.fs.length):idF p.fs (p.fs.getD i Fm0).pg.id=i:=by
 obtain⟨j,hj,h1,h2⟩:=Qpf (l:=p.fs) (a:=(p.fs.getD i Fm0).pg.id) ⟨i,hi,rfl⟩
 rcases JH i j with h3 | h3 | h3
 ·exact absurd h2.symm (Qu1 (QlG h hj) h3)
 ·rw[h1,h3]
 ·exact absurd h2 (Qu1 (QlG h hi) h3)
structure DyL(p:Pl)(l:List Dt):Prop where
 le:l.length<=64
 to:∀ d∈l,∃ f∈p.fs,f.dirty=true/\f.pg.id=d.pg/\f.pg.lsn=d.last
 of:plB p=true->∀ f∈p.fs,f.dirty=true->∃ d∈l,d.pg=f.pg.id
structure DyI(p:Pl) where
 i:Nat
 out:List Dt
 hi:i<=64
 ho:out.length<=i
 to:∀ d∈out,∃ f∈p.fs,f.dirty=true/\f.pg.id=d.pg/\f.pg.lsn=d.last
 of:∀ a:Nat,a<i->0<=idF p.fs a->(p.fs.getD (idF p.fs a).toNat Fm0).dirty=true->∃ d∈out,d.pg=a
def Qxy(p:Pl)(hl:p.fs.length<=100000):VCalls prog 185 [.agg p.d] [] (QL (fun l:List Dt=>.pv (.sl (fz QcZ l))) (DyL p)):=by
 refine dk Tryz.func185 ?_
 have c1:=Qap p (by omega)
 have c2:=QcL p (by omega)
 have hfin:=fun(out:List Dt) (h1:out.length<=64) (h2:∀ d∈out,∃ f∈p.fs,f.dirty=true/\f.pg.id=d.pg/\f.pg.lsn=d.last) (h3:plB p=true->∀ a:Nat,a<64->0<=idF p.fs a->(p.fs.getD (idF p.fs a).toNat Fm0).dirty=true->∃ d∈out,d.pg=a)=>(⟨h1,h2,fun hp f hf hd=>by
  obtain⟨i,hi,rfl⟩:=Jd.1 hf
  have e1:=Qc p.fs i hi Fm0
  have e2:=QtS hp hi
  have e3:=QnZ (QlG hp hi)
  rw[e1] at e2 e3
  obtain⟨m,hm⟩:∃ m:Nat,(p.fs[i]).pg.id=m:=⟨(p.fs[i]).pg.id.toNat,by omega⟩
  rw[hm] at e2 e3 |-
  exact h3 hp m (by omega) (by omega) (by rw[e2,Jk,e1]; exact hd)⟩:DyL p out)
 generalize plB p=b at *
 (unfold Tryz.f185; refine rn trivial ?_)
 refine rn F ?_
 repeat' (first
  | with_reducible exact⟨⟩
  | (refine sB F ?_ ?_<;>intro hZ)
  | refine vp F (c1) ?_)
 ·exact⟨rfl,rfl,[],rfl,hfin [] (Jc _) (fun d h=>by simp at h) (fun h=>by simp_all)⟩
 refine VLoop.nilOwn 3 219 3 rfl ?_
 refine rn trivial ?_
 refine Qj (fun s:DyI p=>⟨45,0,[(4,.int .i64 s.i),(3,.own 1 3 0 s.out.length),(1,.ptr 0 0)],[⟨52,true,p.d⟩,⟨219,true,cells QcZ s.out⟩]⟩) (fun s=>64-s.i) ⟨0,[],Jc _,Jc _,fun d h=>by simp at h,fun a h=>by omega⟩ (gc [0,1]) ?_
 rintro⟨i,out,hi,ho,hto,hof⟩
 dsimp only
 have c3:=c2 i
 have hnx:=fun(out2:List Dt) (hs:∀ d∈out,d∈out2) (hn:0<=idF p.fs i->(p.fs.getD (idF p.fs i).toNat Fm0).dirty=true->∃ d∈out2,d.pg=i) (a:Nat) (ha:a<i+1) (h0:0<=idF p.fs a) (h1:(p.fs.getD (idF p.fs a).toNat Fm0).dirty=true)=>(by
  rcases Kh a i with h2 | h2
  ·obtain ⟨d,hd,he⟩:=hof a h2 h0 h1
   exact⟨d,hs d hd,he⟩
  ·obtain rfl:a = i:=by omega
   exact hn h0 h1:∃ d∈out2,d.pg=a)
 have hfi:64<=i->DyL p out:=fun h=>hfin out (by omega) hto fun _ a ha=>hof a (by omega)
 rcases Qbc p.fs i with h | ⟨j,hj,h,hpg⟩
 all_goals rw[h] at c3
 ·rw [h] at hnx
  refine rn F ?_
  repeat' (first
   | with_reducible exact⟨⟩
   | (refine sB F ?_ ?_<;>intro hZ)
   | refine vp F (c3) ?_)
  ·exact⟨⟨i+1,out,by omega,by omega,hto,hnx out (fun d h=>h) (fun h=>by omega)⟩,by dsimp only; omega,(gc [0,1])⟩
  ·exact⟨rfl,rfl,out,rfl,hfi (by omega)⟩
 ·have hg:=Qb9 p.fs j hj
  have hb:(out.length+1)*24<=140737488355328:=by omega
  have hfm:p.fs.getD j Fm0∈p.fs:=by rw[Qc _ _ hj]; exact Jj hj
  rw[h,Jk] at hnx
  generalize p.fs.getD j Fm0=f at *
  have F:=(Ja @hg @hb)
  refine rn F ?_
  repeat' (first
   | with_reducible exact⟨⟩
   | (refine sB F ?_ ?_<;>intro hZ)
   | refine vp F (c3) ?_
   | (refine Qb (id:=9) [0,1,2,3,4,5,6,7,8,9,10,11,12,13,14,15] [⟨[16],[16],17,[1,2,3,4,5,6,7,8,9,10,11,12,13,14,15],[]⟩,⟨[],[],18,[],[]⟩] (by kernel_rfl) (by kernel_rfl) ?_; refine rn F ?_))
  ·exact ⟨⟨i + 1,out ++ [⟨i,f.rc,f.pg.lsn⟩],by omega,by simp; omega,fun d hd=>by
   rcases Jh.1 hd with hd | hd
   ·exact hto d hd
   ·rw[Jg.1 hd]; exact⟨f,hfm,by first | assumption | simp_all,hpg,rfl⟩,hnx _ (fun d h=>Jl _ h) (fun _ _=>⟨⟨i,f.rc,f.pg.lsn⟩,by simp,rfl⟩)⟩,by dsimp only; omega,by dsimp only; rw[Jb]; exact(gc [0,3])⟩
  ·exact⟨⟨i+1,out,by omega,by omega,hto,hnx out (fun d h=>h) (fun _ h=>by simp_all)⟩,by dsimp only; omega,(gc [0,1])⟩
  ·exact⟨rfl,rfl,out,rfl,hfi (by omega)⟩
def Ql9(h:(d,true)=QaN l n):d∈l/\d.pg=n:=by
 unfold QaN at h
 split at h
 ·rename_i e he
  obtain rfl:d=e:=by simpa using congrArg Prod.fst h
  exact⟨JV he,by simpa using Kb he⟩
 ·simp at h
def Qgu(h:(d,false)=QaN l n):∀ e∈l,e.pg≠n:=by
 unfold QaN at h
 split at h
 ·simp at h
 ·rename_i he
  rw[List.find?_eq_none] at he
  intro e h1
  simpa using he e h1
structure OfI(k:Kn)(n m:Nat)(out:List Dt):Prop where
 dl:∀ d∈out,(∃ e∈k.la,e.pg=d.pg/\e.last=d.last)\/∃ f∈k.pl.fs,f.dirty=true/\f.pg.id=d.pg/\f.pg.lsn=d.last
 la:∀ e∈k.la,0<=e.pg->e.pg<n->∃ d∈out,d.pg=e.pg
 fs:∀ f∈k.pl.fs,f.dirty=true->f.pg.id<m->∃ d∈out,d.pg=f.pg.id
def OfI.ex (h:OfI k n m out) (hd:(∃ e ∈ k.la,e.pg = d.pg/\e.last = d.last)\/∃ f ∈ k.pl.fs,f.dirty = true/\f.pg.id = d.pg/\f.pg.lsn = d.last):OfI k n m (out ++ [d]) :=
 ⟨fun e he=>by
   rcases Jh.1 he with he | he
   ·exact h.dl e he
   ·rw[Jg.1 he]; exact hd,
  fun e a b c=>by obtain⟨x,h1,h2⟩:=h.la e a b c; exact⟨x,Jl _ h1,h2⟩,
  fun e a b c=>by obtain⟨x,h1,h2⟩:=h.fs e a b c; exact⟨x,Jl _ h1,h2⟩⟩
def OfI.hit(h:OfI k n m out)(hd:(d,true)=QaN k.la n):OfI k (n+1) m (out++[d]):=by
 obtain⟨h1,h2⟩:=Ql9 hd
 have:=h.ex (d:=d) (.inl ⟨d,h1,rfl,rfl⟩)
 refine⟨this.dl,fun e a b c=>?_,this.fs⟩
 by_cases hn:e.pg=n
 ·exact⟨d,by simp,by rw[h2,hn]⟩
 ·exact this.la e a b (by omega)
def OfI.miss(h:OfI k n m out)(hd:(d,false)=QaN k.la n):OfI k (n+1) m out:=
 ⟨h.dl,fun e a b c=>h.la e a b (by have:=Qgu hd e a; omega),h.fs⟩
def OfI.up(h:OfI k n m out)(hv:plB k.pl=true)(hl:DyL k.pl l)(hs:∀ d∈l,d.pg=m->∃ e∈out,e.pg=m):OfI k n (m+1) out:=
 ⟨h.dl,h.la,fun f a b c=>by
  by_cases hn:f.pg.id=m
  ·obtain ⟨d,h1,h2⟩:=hl.of hv f a b
   rw[hn] at h2 |-
   exact hs d h1 h2
  ·exact h.fs f a b (by omega)⟩
structure OfL(k:Kn) where
 i:Nat
 out:List Dt
 hi:(i:Int)<=k.pg
 ho:out.length<=65*i
 h:OfI k i i out
structure OfJ(k:Kn)(i:Nat)(l:List Dt) where
 j:Nat
 out:List Dt
 hj:j<=l.length
 ho:out.length<=65*i+1+j
 h:OfI k (i+1) i out
 s:∀ d∈l.take j,d.pg=i->∃ e∈out,e.pg=i
def OfJ.nx(r:OfJ k i l)(hj:r.j<l.length)(out2:List Dt)(hs:∀ d∈r.out,d∈out2)(hn:(l.getD r.j Dt0).pg=i->∃ e∈out2,e.pg=i):∀ d∈l.take (r.j+1),d.pg=i->∃ e∈out2,e.pg=i:=fun d hd he=>by
 rw[Ji hj] at hd
 rcases Jh.1 hd with hd | hd
 ·obtain ⟨x,h1,h2⟩:=r.s d hd he
  exact⟨x,hs x h1,h2⟩
 ·rw [Jg.1 hd] at he
  exact hn (by rw[Qc _ _ hj]; exact he)
def QHi(k:Kn)(a:Cp×Int):Prop:=a.1.sm/\(a.2=0->CkOf k a.1)
def QBQ(k:Kn)(h:k.sm):VCalls prog 148 [.agg k.d] [] (QL QHR (QHi k)):=by
 refine dk Tryz.func148 ?_
 have c1:=QbS k h
 obtain⟨h1,h2,h3,h4,h5,h6⟩:=h
 have c2:=fun n=>Qgj k (by omega) n
 have c3:=Qxy k.pl (by omega)
 (unfold Tryz.f148; refine rn trivial ?_)
 cases hv:kB k
 ·rw [hv] at c1
  refine rn F ?_
  repeat' (first
   | with_reducible exact⟨⟩
   | refine vp F (c1) ?_)
  exact⟨rfl,rfl,(Cp0,15),rfl,QGb,fun h=>by simp at h⟩
 rw[hv] at c1
 obtain⟨⟨vk,_,vla⟩,v2⟩:=(⟨QFb hv,Qup hv⟩:VP k/\V2 k)
 have hpg:=vk.1
 have hpl:=vk.2.2.2.1
 have hend:∀ (i:Nat) out,(i:Int)=k.pg->OfI k i i out->CkOf k ⟨k.pg,k.nx,k.tx,out,k.ix⟩:=fun i out hi ho=>⟨rfl,rfl,rfl,rfl,ho.dl,fun e he=>by
  obtain⟨j,hj,rfl⟩:=Jd.1 he
  unfold laB at vla
  rw[Jr] at vla
  have:=(QnO _ _ _).1 (vla j (Jz.2 hj))
  rw[Qc _ _ hj] at this
  exact ho.la _ he this.1 (by omega),fun f hf hd=>by
  obtain⟨j,hj,rfl⟩:=Jd.1 hf
  have:=(v2.frs j hj).1
  rw[Qc _ _ hj] at this
  exact ho.fs _ hf hd (by omega)⟩
 refine rn F ?_
 repeat' (first
  | with_reducible exact⟨⟩
  | refine vp F (c1) ?_)
 refine VLoop.nilOwnC 2 3 219 3 rfl rfl ?_
 refine rn trivial ?_
 refine Qj (fun s:OfL k=>⟨62,0,[(5,.int .i64 s.i),(4,.ptr 2 0),(2,.ptr 1 0),(1,.ptr 0 0)],[⟨62,true,k.d⟩,⟨238,true,Zc⟩,⟨238,true,[.int .i64 k.pg,.int .i64 k.nx,.pv (.sl (fz Qu k.tx)),.own 3 3 0 s.out.length,.pv (.sl (fz Qcl k.ix))]⟩,⟨219,true,cells QcZ s.out⟩]⟩) (fun s=>64-s.i) ⟨0,[],by omega,by simp,⟨fun d h=>by simp at h,fun e _ _ h=>by omega,fun f hf hd h=>by
  obtain⟨j,hj,rfl⟩:=Jd.1 hf
  have:=QnZ (QlG hpl hj)
  rw[Qc _ _ hj] at this
  omega⟩⟩ (gc [0,1,2,3]) ?_
 rintro⟨i,out,hi,ho,hI⟩
 dsimp only
 unfold Zc
 have hb1:(out.length+1)*24<=140737488355328:=by omega
 by_cases hc:(i:Int)<k.pg
 rotate_left
 ·skip
  have F:=@hc
  refine rn F ?_
  exact⟨rfl,rfl,(⟨k.pg,k.nx,k.tx,out,k.ix⟩,0),rfl,⟨h4,by dsimp only; omega,h5⟩,fun _=>hend i out (by omega) hI⟩
 have F:=(Ja @hb1 @hc)
 refine rn F ?_
 refine Qr (c2 i) rfl ?_
 rintro⟨d,b2⟩ hdl
 have hdl2:=hdl
 cases b2
 case' false=>have hI2:=hI.miss hdl
 case' true=>have hI2:=hI.hit hdl
 all_goals clear hdl hdl2
 all_goals
  have F:=(Ja @hb1 @hc)
  refine rn F ?_
  refine Qr c3 rfl ?_
  rintro l hl
  have hll:=hl.le
  have F:=(Ja @hb1 @hc)
  (refine rn F ?_; try with_reducible exact⟨⟩)
 all_goals
  first
   | refine Qj (fun s:OfJ k i l=>⟨62,0,[(46,.int .i64 s.j),(45,.int .i64 l.length),(44,.pv (.sl (fz QcZ l))),(5,.int .i64 i),(4,.ptr 2 0),(2,.ptr 1 0),(1,.ptr 0 0)],[⟨62,true,k.d⟩,⟨238,true,Zc⟩,⟨238,true,[.int .i64 k.pg,.int .i64 k.nx,.pv (.sl (fz Qu k.tx)),.own 3 3 0 s.out.length,.pv (.sl (fz Qcl k.ix))]⟩,⟨219,true,cells QcZ s.out⟩]⟩) (fun s=>l.length-s.j) ⟨0,out++[d],Jc _,by rw[Jb]; simp; omega,hI2,fun d h=>by simp at h⟩ (by dsimp only; rw[Jb]; exact(gc [0,1,2,6])) ?_
   | refine Qj (fun s:OfJ k i l=>⟨62,0,[(46,.int .i64 s.j),(45,.int .i64 l.length),(44,.pv (.sl (fz QcZ l))),(5,.int .i64 i),(4,.ptr 2 0),(2,.ptr 1 0),(1,.ptr 0 0)],[⟨62,true,k.d⟩,⟨238,true,Zc⟩,⟨238,true,[.int .i64 k.pg,.int .i64 k.nx,.pv (.sl (fz Qu k.tx)),.own 3 3 0 s.out.length,.pv (.sl (fz Qcl k.ix))]⟩,⟨219,true,cells QcZ s.out⟩]⟩) (fun s=>l.length-s.j) ⟨0,out,Jc _,by omega,hI2,fun d h=>by simp at h⟩ (gc [0,1,2,3]) ?_
  rintro⟨j,o2,hj,ho2,hJ,hs2⟩
  dsimp only
  unfold Zc
  have hb2:(o2.length+1)*24<=140737488355328:=by omega
  have hnx:=fun h=>OfJ.nx ⟨j,o2,hj,ho2,hJ,hs2⟩ h
  dsimp only at hnx
  by_cases hjl:j<l.length
  rotate_left
  ·have hup:=hJ.up hpl hl (by rw [Jm (by omega)] at hs2; exact hs2)
   have F:=@hjl
   refine rn F ?_
   exact⟨⟨i+1,o2,by omega,by omega,hup⟩,by dsimp only; omega,(gc [0,1,2,3])⟩
  have hy:=QeU l j hjl
  have hto:=hl.to (l.getD j Dt0) (by rw[Qc _ _ hjl]; exact Jj hjl)
  replace hnx:=hnx hjl
  generalize l.getD j Dt0=x at *
  have F:=(Ja @hy (Ja @hb2 @hjl))
  refine rn F ?_
  repeat' (first
   | with_reducible exact⟨⟩
   | (refine sB F ?_ ?_<;>intro hZ))
 all_goals first
  | exact⟨⟨j+1,o2,hjl,by omega,hJ,hnx o2 (fun d h=>h) (fun h=>absurd h (by assumption))⟩,by dsimp only; omega,(gc [0,1,2,3])⟩
  | exact⟨⟨j+1,o2++[x],hjl,by simp; omega,hJ.ex (.inr hto),hnx _ (fun d h=>Jl _ h) (fun _=>⟨x,by simp,by assumption⟩)⟩,by dsimp only; omega,by dsimp only; rw[Jb]; exact(gc [0,1,2,6])⟩
  | skip
end
def Qvf(es:List E)(a:Int):Prop:=∃ e∈es,e.tx=a/\(e.kind=3\/e.kind=5)
def abE(es:List E)(a:Int):Prop:=∃ e∈es,e.tx=a/\e.kind=4
def Qbm(es:List E)(a:Int):Int:=es.foldl (fun n e=>if e.tx=a then e.lsn else n) 0
def QcX(es:List E)(p:Int):Int:=es.foldl (fun n e=>if (e.kind=1\/e.kind=2)/\e.c.pg=p then e.lsn else n) 0
def Qbb(es:List E)(a:Int):List Int:=es.foldl (fun l e=>if e.tx=a then (if e.kind=1 then l++[e.lsn] else if e.kind=2 then l.filter (fun x=>decide (x≠e.ref)) else l) else l) []
def QaA(es:List E)(e:E)(a:Int):Qbm (es++[e]) a=if e.tx=a then e.lsn else Qbm es a:=by unfold Qbm; rw[JA]; rfl
def QbM(es:List E)(e:E)(p:Int):QcX (es++[e]) p=if (e.kind=1\/e.kind=2)/\e.c.pg=p then e.lsn else QcX es p:=by unfold QcX; rw[JA]; rfl
def QbL(es:List E)(e:E)(a:Int):Qbb (es++[e]) a=if e.tx=a then (if e.kind=1 then Qbb es a++[e.lsn] else if e.kind=2 then (Qbb es a).filter (fun x=>decide (x≠e.ref)) else Qbb es a) else Qbb es a:=by unfold Qbb; rw[JA]; rfl
def Qdp(es:List E)(e:E)(a:Int):Qvf (es++[e]) a ↔ Qvf es a\/(e.tx=a/\(e.kind=3\/e.kind=5)):=by
 unfold Qvf
 constructor
 ·rintro ⟨x,hx,h⟩
  rcases Jh.1 hx with hx | hx
  ·exact .inl ⟨x,hx,h⟩
  ·rw[Jg.1 hx] at h; exact .inr h
 ·rintro (⟨x,hx,h⟩ | h)
  ·exact⟨x,Jl _ hx,h⟩
  ·exact⟨e,by simp,h⟩
def QpB(es:List E)(e:E)(a:Int):abE (es++[e]) a ↔ abE es a\/(e.tx=a/\e.kind=4):=by
 unfold abE
 constructor
 ·rintro ⟨x,hx,h⟩
  rcases Jh.1 hx with hx | hx
  ·exact .inl ⟨x,hx,h⟩
  ·rw[Jg.1 hx] at h; exact .inr h
 ·rintro (⟨x,hx,h⟩ | h)
  ·exact⟨x,Jl _ hx,h⟩
  ·exact⟨e,by simp,h⟩
def Qb4 {α:Type} {P:List α->Prop} (h0:P []) (hs:∀ l a,P l->P (l ++ [a])):∀ l,P l:=fun l=>by
 have:∀ n,∀ l:List α,l.length = n->P l:=fun n=>by
  induction n with
  | zero=>intro l h; rw[List.eq_nil_of_length_eq_zero h]; exact h0
  | succ n ih =>
    intro l h
    have hne:l≠[]:=fun q=>by rw[q] at h; simp at h
    rw[<- List.dropLast_concat_getLast hne]
    exact hs _ _ (ih _ (by rw[List.length_dropLast]; omega))
 exact this _ l rfl
def Qys(es:List E)(h0:0<=n)(p:Int)(h:∀ x∈es,x.lsn<n):QcX es p<=n:=by
 revert h
 refine Qb4 (P:=fun es=>(∀ x∈es,x.lsn<n)->QcX es p<=n) (fun _=>h0) (fun l a ih h=>?_) es
 rw[QbM]
 split
 ·have:=h a (by simp); omega
 ·exact ih fun x hx=>h x (Jl _ hx)
def Qyr(es:List E)(h0:0<n)(p:Int)(h:∀ x∈es,x.lsn<n):QcX es p<n:=by
 revert h
 refine Qb4 (P:=fun es=>(∀ x∈es,x.lsn<n)->QcX es p<n) (fun _=>h0) (fun l a ih h=>?_) es
 rw[QbM]
 split
 ·exact h a (by simp)
 ·exact ih fun x hx=>h x (Jl _ hx)
def Ql6(es:List E)(hl:∀ x∈es,1<=x.lsn)(h:∃ x∈es,x.tx=a):1<=Qbm es a:=by
 revert hl h
 refine Qb4 (P:=fun es=>(∀ x∈es,1<=x.lsn)->(∃ x∈es,x.tx=a)->1<=Qbm es a) (fun _ h=>by obtain⟨x,hx,_⟩:=h; simp at hx) (fun l e ih h hx=>?_) es
 rw[QaA]
 split
 ·exact h e (by simp)
 ·rename_i hne
  obtain⟨x,hx,hxa⟩:=hx
  rcases Jh.1 hx with hx | hx
  ·exact ih (fun y hy=>h y (Jl _ hy)) ⟨x,hx,hxa⟩
  ·rw[Jg.1 hx] at hxa; exact absurd hxa hne
def Qqz(es:List E)(h:∀ x∈es,x.tx≠a):Qbm es a=0:=by
 revert h
 refine Qb4 (P:=fun es=>(∀ x∈es,x.tx≠a)->Qbm es a=0) (fun _=>rfl) (fun l e ih h=>?_) es
 rw[QaA,if_neg (h e (by simp))]
 exact ih fun x hx=>h x (Jl _ hx)
def Qqs(es:List E)(h:∀ x∈es,x.tx≠a):Qbb es a=[]:=by
 revert h
 refine Qb4 (P:=fun es=>(∀ x∈es,x.tx≠a)->Qbb es a=[]) (fun _=>rfl) (fun l e ih h=>?_) es
 rw[QbL,if_neg (h e (by simp))]
 exact ih fun x hx=>h x (Jl _ hx)
structure TxOk(es:List E)(t:Tx):Prop where
 n:t.n=Qbm es t.id
 l:t.l=Qbb es t.id
 ne:¬ Qvf es t.id
 ab:t.st=3 ↔ abE es t.id
def TxOk.other(h:TxOk es t)(hne:e.tx≠t.id):TxOk (es++[e]) t:=
 ⟨by rw [QaA,if_neg hne]; exact h.n,by rw [QbL,if_neg hne]; exact h.l,by
  rw[Qdp]; rintro(q | q)
  ·exact h.ne q
  ·exact hne q.1,by
  rw[QpB,h.ab]
  exact⟨.inl,fun q=>q.elim id fun q=>absurd q.1 hne⟩⟩
def TxOk.fresh(h:∀ x∈es,x.tx≠a):TxOk es ⟨a,1,0,0,[],[]⟩:=
 ⟨(Qqz es h).symm,(Qqs es h).symm,fun⟨x,hx,q,_⟩=>h x hx q,⟨fun q=>by simp at q,fun⟨x,hx,q,_⟩=>absurd q (h x hx)⟩⟩
def QsI(t:Tx):(QF t).n=t.n:=by unfold QF; split<;>rfl
def QsJ(t:Tx):(QF t).l=t.l:=by unfold QF; split<;>rfl
def QsK(t:Tx):(QF t).st=3 ↔ t.st=3:=by
 unfold QF; split
 ·rename_i h; simp; omega
 ·exact Iff.rfl
def Qsx(h:QaF l=true)(ht:t∈l)(hu:u∈l)(he:t.id=u.id):t=u:=by
 have hs:=QcI h
 obtain⟨i,hi,rfl⟩:=Jd.1 ht
 obtain⟨j,hj,rfl⟩:=Jd.1 hu
 rw[JB] at hs
 rcases JH i j with h3 | h3 | h3
 ·have:=hs i j (by simpa using hi) (by simpa using hj) h3
  rw[Jq,Jq] at this
  omega
 ·subst h3; rfl
 ·have:=hs j i (by simpa using hj) (by simpa using hi) h3
  rw[Jq,Jq] at this
  omega
def Qov(h:QaF l=true)(ht:t∈l):1<=t.id:=by
 obtain⟨i,hi,rfl⟩:=Jd.1 ht
 have:=QaE h hi
 simp only[Tx.okB,Tx.hdB,Jf,decide_eq_true_eq] at this
 omega
def QnQ(h:QaF l=true)(hi:i<l.length):idT l l[i].id=i:=by
 rcases Qy l l[i].id with hn | ⟨j,hj,h1,h2⟩
 ·have:=(idT_mem (l:=l) (a:=l[i].id)).2 (Ki.2 ⟨l[i],Jj hi,rfl⟩)
  omega
 ·rw [h1]
  have hs:=QcI h
  rw[JB] at hs
  rcases JH i j with h3 | h3 | h3
  ·have:=hs i j (by simpa using hi) (by simpa using hj) h3
   rw[Jq,Jq] at this
   omega
  ·omega
  ·have:=hs j i (by simpa using hj) (by simpa using hi) h3
   rw[Jq,Jq] at this
   omega
def Qj9(h:(QJ l e).2=0):QaF l=true/\e.okB=true:=by
 unfold QJ at h
 split at h
 ·simp at h
 rename_i q1
 split at h
 ·simp at h
 rename_i q2
 exact⟨by simpa using q1,by simpa using q2⟩
def Qhk(h:(QJ l e).2=0)(ht:e.tx≠0):∃ i,∃ hi:i<l.length,idT l e.tx=i/\l[i].id=e.tx/\e.ptx=l[i].n/\(e.kind=2->e.ref∈l[i].l) /\
 (((e.kind=3\/e.kind=5)/\(QJ l e).1=QhR l e.tx)\/((e.kind=1\/e.kind=2\/e.kind=4)/\(QJ l e).1=l.set i (QF (QaU l[i] e)))):=by
 obtain⟨h1,h2⟩:=Qj9 h
 have hk:=QdN h2 ht
 unfold QJ at h |-
 rw[if_neg (by rw[h1]; decide),if_neg (by rw[h2]; decide),if_neg ht] at h |-
 rcases Qy l e.tx with hn | ⟨i,hi,hid,he⟩
 ·rw[if_pos (by omega)] at h; simp at h
 rw[if_neg (by omega)] at h |-
 rw[hid,Jk,Qc l i hi] at h |-
 unfold Qhl at h |-
 split at h
 ·simp at h
 rename_i q1
 refine⟨i,hi,rfl,he,by omega,fun q=>?_,?_⟩
 ·by_cases hr:e.ref ∈ l[i].l
  ·exact hr
  ·exact absurd (.inr ⟨q,hr⟩) q1
 rw[if_neg q1]
 split
 ·rename_i q; exact .inl ⟨q,rfl⟩
 ·rename_i q; exact .inr ⟨by omega,rfl⟩
def mem_remS:t∈QhR l a ↔ t∈l/\t.id≠a:=by
 unfold QhR Qal
 rw[JN]
 simp
def Qo4{l:List Tx}{i:Nat}{t u:Tx}(h:t∈l.set i u):(∃ j,∃ hj:j<l.length,j≠i/\l[j]=t)\/(t=u/\i<l.length):=by
 obtain⟨j,hj,rfl⟩:=Jd.1 h
 rw[JE] at hj
 by_cases hij:i=j
 ·subst hij; right; rw[JG]; exact⟨rfl,hj⟩
 ·left; rw[JM hij]; exact⟨j,hj,fun q=>hij q.symm,rfl⟩
def Qoy{l:List Tx}(hi:i<l.length):u∈l.set i u:=by
 rw[Jd]; exact⟨i,by rw[JE]; exact hi,by rw[JG]⟩
def QiG{l:List Tx}{i j:Nat}{u:Tx}(hj:j<l.length)(hij:i≠j):l[j]∈l.set i u:=by
 rw[Jd]; exact⟨j,by rw[JE]; exact hj,by rw[JM hij]⟩
def Qso (hok:∀ t ∈ l,TxOk es t) (hall:∀ x ∈ es,0 < x.tx->(∃ t ∈ l,t.id = x.tx)\/Qvf es x.tx) (h:(QJ l e).2 = 0):
 (∀ t∈(QJ l e).1,TxOk (es++[e]) t)/\∀ x∈es++[e],0<x.tx->(∃ t∈(QJ l e).1,t.id=x.tx)\/Qvf (es++[e]) x.tx:=by
 obtain⟨h1,h2⟩:=Qj9 h
 have hend:∀ a,Qvf es a->Qvf (es++[e]) a:=fun a q=>(Qdp es e a).2 (.inl q)
 by_cases ht:e.tx=0
 ·have:(QJ l e).1 = l:=QdO h ht
  rw[this]
  refine⟨fun t q=>(hok t q).other (by have:=Qov h1 q; omega),fun x hx h0=>?_⟩
  rcases Jh.1 hx with hx | hx
  ·exact(hall x hx h0).imp id (hend _)
  ·rw[Jg.1 hx] at h0; omega
 obtain⟨i,hi,hid,he,hp,hr,hc⟩:=Qhk h ht
 have hne:∀ t∈l,t≠l[i]->e.tx≠t.id:=fun t q q2 q3=>q2 (Qsx h1 q (Jj hi) (by rw[he]; exact q3.symm))
 have ho:=hok l[i] (Jj hi)
 rcases hc with⟨hk,hc⟩ | ⟨hk,hc⟩
 ·rw [hc]
  refine⟨fun t q=>?_,fun x hx h0=>?_⟩
  ·obtain ⟨q1,q2⟩:=mem_remS.1 q
   exact(hok t q1).other fun q3=>q2 q3.symm
  ·by_cases hxe:x.tx = e.tx
   ·right; rw[hxe]; exact(Qdp _ _ _).2 (.inr ⟨rfl,hk⟩)
   ·rcases Jh.1 hx with hx | hx
    ·rcases hall x hx h0 with ⟨t,q1,q2⟩ | q
     ·exact .inl ⟨t,mem_remS.2 ⟨q1,by omega⟩,q2⟩
     ·exact .inr (hend _ q)
    ·rw[Jg.1 hx] at hxe; exact absurd rfl hxe
 ·rw [hc]
  have hnid:(QaU l[i] e).id = l[i].id:=by       unfold QaU; repeat' split
                                                all_goals rfl
  have htn:(QF (QaU l[i] e)).id=e.tx:=by rw[QiE,hnid,he]
  refine⟨fun t q=>?_,fun x hx h0=>?_⟩
  ·rcases Qo4 q with ⟨j,hj,hji,rfl⟩ | ⟨rfl,_⟩
   ·refine (hok _ (Jj hj)).other fun q=>hji ?_
    have e1:=QnQ h1 hj
    rw[<- q,hid] at e1
    omega
   ·refine ⟨?_,?_,?_,?_⟩
    ·rw [htn,QsI,QaA,if_pos rfl]
     unfold QaU; repeat' split
     all_goals rfl
    ·rw [htn,QsJ,QbL,if_pos rfl,<- he,<- ho.l]
     unfold QaU
     repeat' split
     all_goals first | rfl | (exfalso; omega)
    ·rw [htn,Qdp]
     rintro(q | q)
     ·exact ho.ne (by rw[he]; exact q)
     ·omega
    ·rw [htn,QsK,QpB]
     have hab:=ho.ab
     rw[he] at hab
     unfold QaU
     split
     ·dsimp only; rw[hab]; exact⟨.inl,fun q=>q.elim id fun q=>by omega⟩
     split
     ·dsimp only; rw[hab]; exact⟨.inl,fun q=>q.elim id fun q=>by omega⟩
     ·dsimp only; exact⟨fun _=>.inr ⟨rfl,by omega⟩,fun _=>rfl⟩
  ·by_cases hxe:x.tx = e.tx
   ·exact .inl ⟨_,Qoy hi,by rw[htn,hxe]⟩
   ·rcases Jh.1 hx with hx | hx
    ·rcases hall x hx h0 with ⟨t,q1,q2⟩ | q
     ·obtain ⟨j,hj,rfl⟩:=Jd.1 q1
      by_cases hij:i=j
      ·subst hij; rw[he] at q2; exact absurd q2.symm hxe
      ·exact .inl ⟨_,QiG hj hij,q2⟩
     ·exact .inr (hend _ q)
    ·rw[Jg.1 hx] at hxe; exact absurd rfl hxe
structure Cor(es:List E)(pg nx:Int)(tx:List Tx)(ix:List Rw)(L:Int->Int->Prop):Prop where
 pgr:1<=pg/\pg<=64
 ids:∀ e∈es,e.tx<nx
 ok:∀ t∈tx,TxOk es t
 all:∀ x∈es,0<x.tx->(∃ t∈tx,t.id=x.tx)\/Qvf es x.tx
 len:(ix.length:Int)=pg
 row:∀ p:Nat,(p:Int)<pg->(ix.getD p Rw0).lsn<=QcX es p/\((∀ n,¬ L p n)->(ix.getD p Rw0).lsn=QcX es p)
 la:∀ p n,L p n->n=QcX es p
 lt:∀ (p:Nat) n,L p n->(ix.getD p Rw0).lsn<n
 w7:∀ e∈es,e.kind=7->e.ref<=(ix.getD e.c.pg.toNat Rw0).lsn
def Cor.weak(h:Cor es pg nx tx ix L)(hn:nx<=nx')(h1:∀ p n,L' p n->L p n)(h2:∀ p,(∀ n,¬ L' p n)->∀ n,¬ L p n):Cor es pg nx' tx ix L':=
 ⟨h.pgr,fun e he=>JT (h.ids e he) hn,h.ok,h.all,h.len,fun p hp=>⟨(h.row p hp).1,fun q=>(h.row p hp).2 (h2 p q)⟩,fun p n q=>h.la p n (h1 p n q),fun p n q=>h.lt p n (h1 p n q),h.w7⟩
def Qcw(h:(Qbz ix e).2=0):(e.kind≠7/\(Qbz ix e).1=ix)\/(e.kind=7/\e.okB=true/\e.c.pg<ix.length/\(Qbz ix e).1=ix.set e.c.pg.toNat ⟨if e.ref > (ix.getD e.c.pg.toNat Rw0).lsn then e.ref else (ix.getD e.c.pg.toNat Rw0).lsn,(ix.getD e.c.pg.toNat Rw0).im,(ix.getD e.c.pg.toNat Rw0).at_⟩):=by
 unfold Qbz at h |-
 split at h
 ·simp at h
 rename_i q1
 split at h
 ·simp at h
 rename_i q2
 rw[if_neg q1,if_neg q2]
 split at h
 ·rename_i q3; rw[if_pos q3]; exact .inl ⟨q3,rfl⟩
 rename_i q3
 rw[if_neg q3]
 split at h
 ·simp at h
 rename_i q4
 rw[if_neg q4]
 exact .inr ⟨by simpa using q3,by simpa using q2,by omega,rfl⟩
def Cor.add(hc:Cor es pg nx tx ix L)(he7:e.kind=7->e.ref=QcX es e.c.pg)(hlt:∀ x∈es,x.lsn<e.lsn)(h0:1<=e.lsn)(ht:(QJ tx e).2=0)(hr:(Qbz ix e).2=0)(hn:nx<=nx')(hen:e.tx<nx')(h1:∀ p n,L' p n->((e.kind=1\/e.kind=2)/\p=e.c.pg/\n=e.lsn)\/(L p n/\((e.kind=1\/e.kind=2)->p≠e.c.pg)))(h2:∀ p,(∀ n,¬ L' p n)->((∀ n,¬ L p n)\/(e.kind=7/\p=e.c.pg))/\((e.kind=1\/e.kind=2)->p≠e.c.pg))(h3:e.kind=7->∀ n,¬ L' e.c.pg n):
 Cor (es++[e]) pg nx' (QJ tx e).1 (Qbz ix e).1 L':=by
 obtain⟨t1,t2⟩:=Qso hc.ok hc.all ht
 have hmon:∀ p:Nat,(ix.getD p Rw0).lsn<=((Qbz ix e).1.getD p Rw0).lsn:=fun p=>by
  rcases Qcw hr with⟨_,q⟩ | ⟨_,_,ql,q⟩
  ·rw[q]; exact Jw _
  ·rw [q]
   by_cases hpe:e.c.pg.toNat=p
   ·subst hpe
    by_cases hpl:e.c.pg.toNat<ix.length
    ·rw [Je (l:=ix.set _ _),JO hpl]
     dsimp only[JX]
     split<;>omega
    ·rw[List.set_eq_of_length_le (by omega)]; exact Jw _
   ·rw [Je (l:=ix.set _ _),JJ hpe,<- Je]
    exact Jw _
 refine⟨hc.pgr,fun x hx=>?_,t1,t2,?_,fun p hp=>?_,fun p n q=>?_,fun p n q=>?_,fun x hx h7=>?_⟩
 ·rcases Jh.1 hx with hx | hx
  ·exact JT (hc.ids x hx) hn
  ·rw[Jg.1 hx]; exact hen
 ·rcases Qcw hr with ⟨_,q⟩ | ⟨_,_,_,q⟩<;>rw [q]
  ·exact hc.len
  ·rw[JE]; exact hc.len
 ·obtain ⟨r1,r2⟩:=hc.row p hp
  rw[QbM]
  rcases Qcw hr with⟨q7,q⟩ | ⟨q7,qo,ql,q⟩
  ·rw [q]
   split
   ·rename_i hx
    refine⟨Kj r1 (Qys es (by omega) p hlt),fun hq=>?_⟩
    exact absurd hx.2.symm ((h2 p hq).2 hx.1)
   ·refine ⟨r1,fun hq=>r2 ?_⟩
    rcases(h2 p hq).1 with h | h
    ·exact h
    ·exact absurd h.1 q7
  ·rw [if_neg (by omega),q]
   have hpg:=QeK qo (.inr (.inr q7))
   have hlen:=hc.len
   by_cases hpe:e.c.pg=p
   ·have e1:e.c.pg.toNat = p:=by omega
    rw[e1,Je,JO (by omega)]
    dsimp only[JX]
    have e2:=he7 q7
    rw[hpe] at e2
    rw[e2]
    split
    ·exact⟨Jw _,fun _=>rfl⟩
    ·exact⟨r1,fun _=>by omega⟩
   ·have e1:e.c.pg.toNat ≠ p:=by omega
    rw[Je,JJ e1,<- Je]
    refine⟨r1,fun hq=>r2 ?_⟩
    rcases(h2 p hq).1 with h | h
    ·exact h
    ·exact absurd h.2.symm hpe
 ·rw [QbM]
  rcases h1 p n q with⟨q1,q2,q3⟩ | ⟨q1,q2⟩
  ·rw[if_pos ⟨q1,q2.symm⟩,q3]
  ·rw[if_neg (fun h=>q2 h.1 h.2.symm)]; exact hc.la p n q1
 ·rcases h1 p n q with ⟨q1,q2,q3⟩ | ⟨q1,q2⟩
  ·have e1:(Qbz ix e).1 = ix:=by
    rcases Qcw hr with⟨_,g⟩ | ⟨g,_⟩
    ·exact g
    ·omega
   rw[e1]
   by_cases hp:(p:Int)<pg
   ·have:=(hc.row p hp).1
    have:=Qyr es (n:=e.lsn) (by omega) p hlt
    omega
   ·rw [Je,JZ (by have:=hc.len; omega)]
    show(0:Int)<n
    omega
  ·rcases Qcw hr with ⟨_,g⟩ | ⟨g7,_,_,g⟩
   ·rw[g]; exact hc.lt p n q1
   ·have hne:e.c.pg.toNat ≠ p:=fun h=>by
     have hpg:=QeK (Qj9 ht).2 (.inr (.inr g7))
     have:(p:Int)=e.c.pg:=by omega
     rw[this] at q
     exact h3 g7 n q
    rw[g,Je,JJ hne,<- Je]
    exact hc.lt p n q1
 ·rcases Jh.1 hx with hx | hx
  ·exact Kj (hc.w7 x hx h7) (hmon _)
  ·rw [Jg.1 hx] at h7 |-
   rcases Qcw hr with⟨g,_⟩ | ⟨_,qo,ql,g⟩
   ·exact absurd h7 g
   ·have hpg:=QeK qo (.inr (.inr h7))
    rw[g,Je,JO (by omega)]
    dsimp only[JX]
    split<;>omega
def LD(dl:List Dt)(p n:Int):Prop:=∃ d∈dl,d.pg=p/\d.last=n
structure EnOk(h:List E)(e:E):Prop where
 ptx:0<e.tx->e.ptx=Qbm h e.tx
 ne:0<e.tx->¬ Qvf h e.tx
 ab:0<e.tx->abE h e.tx->e.kind=2\/e.kind=5
 en:e.kind=5->abE h e.tx/\Qbb h e.tx=[]
 ppg:(e.kind=1\/e.kind=2)->e.ppg=QcX h e.c.pg
 un:e.kind=2->e.ref∈Qbb h e.tx/\∃ x∈h,x.lsn=e.ref/\x.kind=1/\x.tx=e.tx/\e.c=⟨x.c.pg,x.c.sl,x.c.a,x.c.b⟩/\∀ y∈h,y.lsn∈Qbb h e.tx->e.ref<y.lsn->¬ (y.c.pg=e.c.pg/\y.c.sl=e.c.sl)
 ix:e.kind=7->e.ref=QcX h e.c.pg
 ck:e.kind=6->e.blob=[]\/∃ c,CkV c/\e.blob=QaP c/\Cor h c.pg c.nx c.tx c.ix (LD c.dl)
 x7:e.kind=7->1<=e.ref/\∀ x∈h,x.kind=7->¬ (x.c.pg=e.c.pg/\x.ref=e.ref)
def LogOk(es:List E):Prop:=∀ i,i<es.length->EnOk (es.take i) (es.getD i E0)
def LogOk.nil:LogOk []:=fun i h=>by simp at h
def LogOk.snoc(h:LogOk es)(he:EnOk es e):LogOk (es++[e]):=fun i hi=>by
 rw[Jb,Jv] at hi
 rcases Kh i es.length with hl | hl
 ·rw [List.take_append_of_le_length (by omega),Je,List.getElem?_append_left hl,<- Je]
  exact h i hl
 ·obtain rfl:i = es.length:=by omega
  rw[Ke,Je,JI (Jy _),Nat.sub_self]
  exact he
def LogOk.take(h:LogOk es)(j:Nat):LogOk (es.take j):=fun i hi=>by
 rw[Jp] at hi
 have:=h i (by omega)
 rw[List.take_take,Nat.min_eq_left (by omega),Je,List.getElem?_take_of_lt (by omega),<- Je]
 exact this
def LkK(k:Kn)(p n:Int):Prop:=(∃ d∈k.la,d.pg=p/\d.last=n)\/∃ f∈k.pl.fs,f.dirty=true/\f.pg.id=p/\f.pg.lsn=n
structure KI(k:Kn):Prop where
 lg:lgB k.lg=true
 f:k.lg.f=1
 log:LogOk k.lg.es
 cor:Cor k.lg.es k.pg k.nx k.tx k.ix (LkK k)
 fr:∀ f∈k.pl.fs,f.pg.lsn=QcX k.lg.es f.pg.id
def Qaw(h:lgB x=true)(hi:i<x.es.length):(x.es.getD i E0).lsn=x.f+i/\(x.es.getD i E0).okB=true:=by
 unfold lgB at h
 rw[Jf,Jr] at h
 have:=h.2 i (Jz.2 hi)
 unfold lgC at this
 simpa using this
def QnN(h:lgB x=true)(hf:x.f=1)(he:e∈x.es):1<=e.lsn/\e.lsn<=x.end_/\e.okB=true:=by
 obtain⟨i,hi,rfl⟩:=Jd.1 he
 have:=Qaw h hi
 rw[Qc _ _ hi] at this
 unfold Lg.end_
 exact⟨by omega,by omega,this.2⟩
def Qo6(h:lgB x=true)(ha:a∈x.es)(hb:b∈x.es)(he:a.lsn=b.lsn):a=b:=by
 obtain⟨i,hi,rfl⟩:=Jd.1 ha
 obtain⟨j,hj,rfl⟩:=Jd.1 hb
 have h1:=(Qaw h hi).1
 have h2:=(Qaw h hj).1
 rw[Qc _ _ hi] at h1
 rw[Qc _ _ hj] at h2
 obtain rfl:i=j:=by omega
 rfl
def QyN(h:(QbA x n).2=0):(QbA x n).1∈x.es/\(QbA x n).1.lsn=n:=by
 obtain⟨h1,h2,h3,h4,_⟩:=QnU h
 refine⟨?_,h4⟩
 unfold QbA
 rw[if_neg (by rw[h1]; decide),if_neg (by omega)]
 dsimp only
 unfold Lg.end_ at h3
 rw[Qc _ _ (by omega)]
 exact Jj _
def QCO(h:lgB x=true)(he:e∈x.es):QbA x e.lsn=(e,0):=by
 obtain⟨i,hi,rfl⟩:=Jd.1 he
 have h1:=(Qaw h hi).1
 rw[Qc _ _ hi] at h1
 unfold QbA
 rw[if_neg (by rw[h]; decide),if_neg (by unfold Lg.end_; omega),h1,show(x.f+i-x.f).toNat=i by omega,Qc _ _ hi]
def QtU(es:List E)(a n:Int)(h:n∈Qbb es a):∃ x∈es,x.lsn=n/\x.kind=1/\x.tx=a:=by
 revert h
 refine Qb4 (P:=fun es=>n∈Qbb es a->∃ x∈es,x.lsn=n/\x.kind=1/\x.tx=a) (fun h=>by simp[Qbb] at h) (fun l e ih h=>?_) es
 have up:(∃ x∈l,x.lsn=n/\x.kind=1/\x.tx=a)->∃ x∈l++[e],x.lsn=n/\x.kind=1/\x.tx=a:=fun⟨x,q1,q2⟩=>⟨x,Jl _ q1,q2⟩
 rw[QbL] at h
 split at h
 ·rename_i ht
  split at h
  ·rename_i hk
   rcases Jh.1 h with h | h
   ·exact up (ih h)
   ·exact⟨e,by simp,(Jg.1 h).symm,hk,ht⟩
  split at h
  ·exact up (ih (JN.1 h).1)
  ·exact up (ih h)
 ·exact up (ih h)
def KI.head(hk:KI k)(v:kB k=true)(h0:0<=p)(hp:p<k.pg):Qfr k p=QcX k.lg.es p:=by
 unfold Qfr
 rw[if_pos ⟨v,h0,hp⟩]
 unfold QyH
 split
 ·rename_i hi
  rcases Qbc k.pl.fs p with hn | ⟨i,hil,hid,he⟩
  ·omega
  rw[hid,Jk]
  rw[Qc _ _ hil] at he |-
  rw[hk.fr _ (Jj hil),he]
 rename_i hi
 obtain⟨d,b,hl⟩:∃ d b,(d,b)=QaN k.la p:=⟨(QaN k.la p).1,(QaN k.la p).2,rfl⟩
 rw[<- hl]
 cases b
 ·rw [if_neg (show ¬ (false = true) from fun h=>by cases h)]
  obtain⟨m,rfl⟩:∃ m:Nat,p=m:=⟨p.toNat,by omega⟩
  rw[Jk]
  refine(hk.cor.row m hp).2 fun n hL=>?_
  rcases hL with⟨x,q1,q2,_⟩ | ⟨f,q1,_,q2,_⟩
  ·exact Qgu hl x q1 q2
  ·obtain ⟨j,hj,rfl⟩:=Jd.1 q1
   obtain⟨i,_,h2,_⟩:=Qpf (l:=k.pl.fs) (a:=(m:Int)) ⟨j,hj,by rw[Qc _ _ hj]; exact q2.symm⟩
   omega
 ·rw [if_pos rfl]
  obtain⟨q1,q2⟩:=Ql9 hl
  exact hk.cor.la p d.last (.inl ⟨d,q1,q2,rfl⟩)
def QnR(h:0<=idT l a):Qbj l a∈l/\(Qbj l a).id=a:=by
 rcases Qy l a with hn | ⟨i,hi,hid,he⟩
 ·omega
 ·rw[Qed hid,Qc l i hi]; exact⟨Jj hi,he⟩
def QCa{e:E}(h:e.okB=true)(hk:e.kind=1\/e.kind=2):1<=e.tx:=by
 unfold E.okB at h
 rw[Jf] at h
 have h2:=h.2
 unfold E.kindB txB at h2
 split at h2
 ·simp only[Jf,decide_eq_true_eq] at h2; omega
 split at h2
 ·simp only[Jf,decide_eq_true_eq] at h2; omega
 ·omega
def Qt3{e:E}(h:e.okB=true):1<=e.lsn:=by
 unfold E.okB at h
 simp only[Jf,decide_eq_true_eq] at h
 omega
structure AddF(k:Kn)(e e':E):Prop where
 lt:∀ x∈k.lg.es,x.lsn<e'.lsn
 pos:1<=e'.lsn
 nx:e'.tx<k.nx
 tx:0<e'.tx->Qbj k.tx e'.tx∈k.tx/\(Qbj k.tx e'.tx).id=e'.tx/\TxOk k.lg.es (Qbj k.tx e'.tx)/\e'.ptx=(Qbj k.tx e'.tx).n
def AddOk.facts(hk:KI k)(ha:AddOk k e e'):AddF k e e':=by
 obtain⟨v,s,ho,hl,hn,hnt,hnr,h0,hi,hp1,hp2⟩:=ha
 have hv:=Qkh v
 have hd:=Qat hk.lg
 simp only[Lg.hd] at hd
 have htx:0<e'.tx->Qbj k.tx e'.tx∈k.tx/\(Qbj k.tx e'.tx).id=e'.tx/\TxOk k.lg.es (Qbj k.tx e'.tx)/\e'.ptx=(Qbj k.tx e'.tx).n:=fun q=>by
  rw[s.2.1] at q
  obtain⟨i,hil,hid,hp⟩:=hi q
  obtain⟨g1,g2⟩:=QnR (l:=k.tx) (a:=e'.tx) (by rw[s.2.1,hid]; omega)
  exact⟨g1,g2,hk.cor.ok _ g1,by rw[hp,s.2.1,Qed hid]⟩
 refine⟨fun x hx=>?_,?_,?_,htx⟩
 ·have:=(QnN hk.lg hk.f hx).2.1
  omega
 ·have:=hk.f
  unfold Lg.end_ at hl
  omega
 ·by_cases q:0 < e'.tx
  ·obtain ⟨g1,g2,_⟩:=htx q
   obtain⟨j,hj,hje⟩:=Jd.1 g1
   have:=(Qup v).ids j hj
   rw[Qc _ _ hj,hje,g2] at this
   exact this
  ·have:=hv.2.1
   omega
def KI.addP(hk:KI k)(ha:AddOk k e e')(he:EnOk k.lg.es e')(e1:k'.lg=(k.add e').lg)(e2:k'.tx=(k.add e').tx)(e3:k'.ix=(k.add e').ix)(e4:k'.pg=k.pg)(e5:k'.nx=k.nx)(h1:∀ p n,LkK k' p n->((e'.kind=1\/e'.kind=2)/\p=e'.c.pg/\n=e'.lsn)\/(LkK k p n/\((e'.kind=1\/e'.kind=2)->p≠e'.c.pg)))(h2:∀ p,(∀ n,¬ LkK k' p n)->((∀ n,¬ LkK k p n)\/(e'.kind=7/\p=e'.c.pg))/\((e'.kind=1\/e'.kind=2)->p≠e'.c.pg))(hf:∀ f∈k'.pl.fs,f.pg.lsn=QcX (k.lg.es++[e']) f.pg.id)(h3:e'.kind=7->∀ n,¬ LkK k' e'.c.pg n):KI k':=by
 have F:=ha.facts hk
 have hl:=ha.lgB
 obtain⟨v,s,ho,hle,hn,hnt,hnr,h0,hi,hp1,hp2⟩:=ha
 have hes:k'.lg.es=k.lg.es++[e']:=by rw[e1]; rfl
 refine⟨by rw[e1]; exact hl,by rw[e1]; exact hk.f,by rw[hes]; exact hk.log.snoc he,?_,by rw[hes]; exact hf⟩
 rw[hes,e2,e3,e4,e5]
 exact hk.cor.add he.ix F.lt F.pos hnt hnr (Jw _) F.nx h1 h2 h3
def Cor.same(h:Cor es pg nx tx ix L)(hn:nx<=nx')(h1:∀ t∈tx',TxOk es t)(h2:∀ x∈es,0<x.tx->(∃ t∈tx,t.id=x.tx)->∃ t∈tx',t.id=x.tx):Cor es pg nx' tx' ix L:=
 ⟨h.pgr,fun e he=>JT (h.ids e he) hn,h1,fun x hx h0=>(h.all x hx h0).imp (h2 x hx h0) id,h.len,h.row,h.la,h.lt,h.w7⟩
def TxOk.alike(h:TxOk es t)(h1:u.id=t.id)(h2:u.n=t.n)(h3:u.l=t.l)(h4:u.st=3 ↔ t.st=3):TxOk es u:=
 ⟨by rw[h2,h1]; exact h.n,by rw[h3,h1]; exact h.l,by rw[h1]; exact h.ne,by rw[h4,h1]; exact h.ab⟩
def Cor.setT(h:Cor es pg nx tx ix L)(hi:i<tx.length)(h1:u.id=tx[i].id)(h2:u.n=tx[i].n)(h3:u.l=tx[i].l)(h4:u.st=3 ↔ tx[i].st=3):Cor es pg nx (tx.set i u) ix L:=
 h.same (Jw _) (fun t q=>by
  rcases Qo4 q with⟨j,hj,_,rfl⟩ | ⟨rfl,_⟩
  ·exact h.ok _ (Jj hj)
  ·exact(h.ok _ (Jj hi)).alike h1 h2 h3 h4) fun x _ _ ⟨t,q1,q2⟩=>by
  obtain⟨j,hj,rfl⟩:=Jd.1 q1
  by_cases hij:i=j
  ·subst hij; exact⟨u,Qoy hi,by rw[h1]; exact q2⟩
  ·exact⟨tx[j],QiG hj hij,q2⟩
def KI.txs(hk:KI k)(h:Cor k.lg.es k.pg k.nx tx' k.ix (LkK k)):KI ⟨k.pg,k.nx,k.lg,k.pl,k.lk,tx',k.ix,k.la⟩:=⟨hk.lg,hk.f,hk.log,h,hk.fr⟩
def QsM(h:(Qfk l a).2=0):∃ i,∃ hi:i<l.length,(Qfk l a).1=l.set i { l[i] with s:=l[i].s++[l[i].n] }:=by
 unfold Qfk at h |-
 split at h
 ·rename_i q; exact absurd h q
 rename_i q1
 split at h
 ·simp at h
 rename_i q2
 rw[if_neg q1,if_neg q2]
 obtain⟨_,i,hi,hid,_,hg⟩:=Qa1 (by omega:(Qn l a).2=0)
 exact⟨i,hi,by rw[hid,hg,Jk]⟩
def QvU(h:(QfF l a b).2=0):∃ i,∃ hi:i<l.length,∃ u,(QfF l a b).1=l.set i u/\u.id=l[i].id/\u.n=l[i].n/\u.l=l[i].l/\(u.st=3 ↔ l[i].st=3):=by
 unfold QfF at h |-
 split at h
 ·rename_i q; exact absurd h q
 rename_i q1
 split at h
 ·simp at h
 rename_i q2
 rw[if_neg q1,if_neg q2]
 have hst:=(Qjd (by omega:(Qn l a).2=0)).1
 obtain⟨_,i,hi,hid,_,hg⟩:=Qa1 (by omega:(Qn l a).2=0)
 rw[hg] at hst
 rw[hid,hg,Jk]
 split
 ·exact⟨i,hi,_,rfl,rfl,rfl,rfl,by dsimp only; omega⟩
 ·exact⟨i,hi,_,rfl,rfl,rfl,rfl,Iff.rfl⟩
def QfC(h:(QN l a).2=0):(QN l a).1=Qpe l ⟨a,1,0,0,[],[]⟩:=by
 unfold QN at h |-
 repeat' split at h
 all_goals first | (simp at h; done) | skip
 rename_i q1 q2 q3 q4
 rw[if_neg q1,if_neg q2,if_neg q3,if_neg q4]
def mem_insT:u∈Qpe l t ↔ u=t\/u∈l:=by
 unfold Qpe
 rw[Jh,Kf]
 constructor
 ·rintro (h | h | h)
  ·exact .inr (JR h)
  ·exact .inl h
  ·exact .inr (J2 h)
 ·rintro (h | h)
  ·exact .inr (.inl h)
  ·rw [<- List.take_append_drop (QmN l t.id) l,Jh] at h
   exact h.imp id .inr
def Cor.beginT(h:Cor es pg nx tx ix L)(hn:nx<=nx')(hb:(QN tx a).2=0)(hf:∀ x∈es,x.tx≠a):Cor es pg nx' (QN tx a).1 ix L:=by
 rw[QfC hb]
 exact h.same hn (fun t q=>by
  rcases mem_insT.1 q with rfl | q
  ·exact TxOk.fresh hf
  ·exact h.ok t q) fun x _ _ ⟨t,q1,q2⟩=>⟨t,mem_insT.2 (.inr q1),q2⟩
def Qbn(es:List E)(e:E)(p:Int)(h:¬ ((e.kind=1\/e.kind=2)/\e.c.pg=p)):QcX (es++[e]) p=QcX es p:=by rw[QbM,if_neg h]
def KI.fin(hk:KI k)(ha:AddOk k e e')(h3:e.kind=3\/e.kind=4\/e.kind=5)(hf:QF8 k e):KI (k.add e'):=by
 have F:=ha.facts hk
 have s:=ha.2.1
 have ho:=ha.2.2.1
 have hk':e'.kind=3\/e'.kind=4\/e'.kind=5:=by rw[s.1]; exact h3
 have hn:¬ (e'.kind=1\/e'.kind=2):=by omega
 obtain⟨f1,f2,f3⟩:=hf
 rw[<- s.2.1,<- s.1] at *
 refine hk.addP ha ⟨fun q=>?_,fun q=>?_,fun q h=>?_,fun q=>?_,fun q=>absurd q hn,fun q=>by omega,fun q=>by omega,fun q=>by omega,fun q=>by omega⟩ rfl rfl rfl rfl rfl (fun p n q=>.inr ⟨q,fun h=>absurd h hn⟩) (fun p q=>⟨.inl q,fun h=>absurd h hn⟩) (fun f q=>by rw[Qbn _ _ _ fun h=>hn h.1]; exact hk.fr f q) (fun q=>by omega)
 ·obtain ⟨_,g2,g3,g4⟩:=F.tx q
  rw[g4,g3.n,g2]
 ·obtain ⟨_,g2,g3,_⟩:=F.tx q
  have:=g3.ne
  rwa [g2] at this
 ·obtain ⟨_,g2,g3,_⟩:=F.tx q
  have:=g3.ab
  rw[g2] at this
  by_cases h5:e'.kind=5
  ·exact .inr h5
  ·exact absurd (this.2 h) (f2 (by omega))
 ·obtain ⟨i1,i2⟩:=f3 q
  obtain⟨g1,g2⟩:=QnR f1
  have g3:=hk.cor.ok _ g1
  have h1:=g3.ab
  have h2:=g3.l
  rw[g2] at h1 h2
  exact⟨h1.1 i1,by rw[<- h2]; exact i2⟩
def CkP.ok(hk:KI k)(h:CkP k s):s=[]\/∃ c,CkV c/\s=QaP c/\Cor k.lg.es c.pg c.nx c.tx c.ix (LD c.dl):=by
 rcases h with h | ⟨c,h1,h2,h3⟩
 ·exact .inl h
 refine .inr ⟨c,h2,h3,?_⟩
 rw[h1.pg,h1.nx,h1.tx,h1.ix]
 refine hk.cor.weak (Jw _) (fun p n q=>?_) fun p q n hL=>?_
 ·obtain ⟨d,q1,q2,q3⟩:=q
  rcases h1.dl d q1 with⟨x,x1,x2,x3⟩ | ⟨f,x1,x2,x3,x4⟩
  ·exact .inl ⟨x,x1,by omega,by omega⟩
  ·exact .inr ⟨f,x1,x2,by omega,by omega⟩
 ·rcases hL with ⟨d,x1,x2,x3⟩ | ⟨f,x1,x2,x3,x4⟩
  ·obtain ⟨d',y1,y2⟩:=h1.la d x1
   exact q _ ⟨d',y1,by omega,rfl⟩
  ·obtain ⟨d',y1,y2⟩:=h1.fs f x1 x2
   exact q _ ⟨d',y1,by omega,rfl⟩
def KI.ckpt(hk:KI k)(ha:AddOk k e e')(h6:e.kind=6)(hc:CkP k e.blob):KI (k.add e'):=by
 have F:=ha.facts hk
 have s:=ha.2.1
 have ho:=ha.2.2.1
 have hk':e'.kind=6:=by rw[s.1]; exact h6
 have hn:¬ (e'.kind=1\/e'.kind=2):=by omega
 have htx:e'.tx=0:=by
  by_cases h:e'.tx=0
  ·exact h
  ·have:=QdN ho h; omega
 exact hk.addP ha ⟨fun q=>by omega,fun q=>by omega,fun q=>by omega,fun q=>by omega,fun q=>absurd q hn,fun q=>by omega,fun q=>by omega,fun _=>by rw[s.2.2.2.2]; exact hc.ok hk,fun q=>by omega⟩ rfl rfl rfl rfl rfl (fun p n q=>.inr ⟨q,fun h=>absurd h hn⟩) (fun p q=>⟨.inl q,fun h=>absurd h hn⟩) (fun f q=>by rw[Qbn _ _ _ fun h=>hn h.1]; exact hk.fr f q) (fun q=>by omega)
def QwR(h:(QkC p x).2=0):plB p=true/\∃ i,i<p.fs.length/\idF p.fs x.id=(i:Nat)/\(QkC p x).1=⟨p.size,p.fs.set i (Qrj (p.fs.getD i Fm0) x),p.hand⟩:=by
 unfold QkC at h |-
 split at h
 ·simp at h
 rename_i q1
 split at h
 ·rename_i q; exact absurd h q
 rename_i q2
 split at h
 ·simp at h
 rename_i q3
 split at h
 ·simp at h
 rename_i q4
 rw[if_neg q1,if_neg q2,if_neg q3,if_neg q4]
 rcases Qbc p.fs x.id with hn | ⟨i,hi,hid,_⟩
 ·omega
 ·exact⟨by simpa using q1,i,hi,hid,by rw[hid,Jk]⟩
def Qgt{l:List Fm}{i:Nat}{t u:Fm}(h:t∈l.set i u):(∃ j,∃ hj:j<l.length,j≠i/\l[j]=t)\/(t=u/\i<l.length):=by
 obtain⟨j,hj,rfl⟩:=Jd.1 h
 rw[JE] at hj
 by_cases hij:i=j
 ·subst hij; right; rw[JG]; exact⟨rfl,hj⟩
 ·left; rw[JM hij]; exact⟨j,hj,fun q=>hij q.symm,rfl⟩
def Qxc{l:List Fm}(hi:i<l.length):u∈l.set i u:=by
 rw[Jd]; exact⟨i,by rw[JE]; exact hi,by rw[JG]⟩
def QiH{l:List Fm}{i j:Nat}{u:Fm}(hj:j<l.length)(hij:i≠j):l[j]∈l.set i u:=by
 rw[Jd]; exact⟨j,by rw[JE]; exact hj,by rw[JM hij]⟩
def QCN(h:(QeT p a).2=true):plB p=true/\∃ i,∃ hi:i<p.fs.length,idF p.fs a=(i:Nat)/\(p.fs[i]).pg.id=a/\(QeT p a).1=(p.fs[i]).pg:=by
 unfold QeT at h |-
 split at h
 ·simp at h
 rename_i q
 rw[if_neg q]
 rcases QbY p a with hn | ⟨hp,i,hi,h1,h2,h3⟩
 ·omega
 ·rw [Qc _ _ hi] at h3
  exact⟨hp,i,hi,h2,h3,by rw[h1,Jk,Qc _ _ hi]⟩
def KI.setE(hk:KI k)(ha:AddOk k e e')(h12:e.kind=1\/e.kind=2)(hs:QHx k e)(hu:(QkC k.pl (Qee k.pl e')).2=0):KI (k.set e'):=by
 have F:=ha.facts hk
 obtain⟨v,s,ho,hl,hn,hnt,hnr,h0,hi,hp1,hp2⟩:=id ha
 obtain⟨s1,s2,s3,s4,s5⟩:=s
 have hk':e'.kind=1\/e'.kind=2:=by rw[s1]; exact h12
 have n5:e'.kind≠5:=by omega
 have n7:e'.kind≠7:=by omega
 have n6:e'.kind≠6:=by omega
 obtain⟨f1,f2,f3,f4,f5⟩:=hs
 rw[<- s4] at f4 f5
 obtain⟨hpl,i,hil,hid,hpg,hgp⟩:=QCN f4
 have hsp:(Qee k.pl e').id=e'.c.pg:=by
  show(QeT k.pl e'.c.pg).1.id=_
  rw[hgp,hpg]
 obtain⟨_,j,hj,hjd,hup⟩:=QwR hu
 rw[hsp,hid] at hjd
 obtain rfl:i=j:=by omega
 have hpos:0<e'.tx:=by
  have:=QCa ho hk'
  omega
 obtain⟨g1,g2,g3,g4⟩:=F.tx hpos
 have hrng:0<=e'.c.pg/\e'.c.pg<k.pg:=by
  have h1:=QnZ (QlG hpl hil)
  have h2:=((Qup v).frs i hil).1
  rw[Qc _ _ hil] at h1 h2
  omega
 have hother:∀ j,(hj:j<k.pl.fs.length)->j≠i->(k.pl.fs[j]).pg.id≠e'.c.pg:=fun j hj hji q=>by
  have:=QtS hpl hj
  rw[Qc _ _ hj,q,hid] at this
  omega
 have hfs:(k.set e').pl.fs=k.pl.fs.set i (Qrj (k.pl.fs.getD i Fm0) (Qee k.pl e')):=by
  show(QkC k.pl (Qee k.pl e')).1.fs=_
  rw[hup]
 have hup1:(Qrj (k.pl.fs.getD i Fm0) (Qee k.pl e')).dirty=true:=rfl
 have hup2:(Qrj (k.pl.fs.getD i Fm0) (Qee k.pl e')).pg.id=e'.c.pg:=hsp
 have hup3:(Qrj (k.pl.fs.getD i Fm0) (Qee k.pl e')).pg.lsn=e'.lsn:=rfl
 generalize Qrj (k.pl.fs.getD i Fm0) (Qee k.pl e')=u at *
 refine hk.addP ha ⟨fun _=>by rw[g4,g3.n,g2],fun _=>?_,fun _ h=>?_,fun q=>absurd q n5,fun _=>?_,fun q=>?_,fun q=>absurd q n7,fun q=>absurd q n6,fun q=>absurd q n7⟩ rfl rfl rfl rfl rfl (fun p n q=>?_) (fun p q=>?_) (fun f q=>?_) (fun q=>absurd q n7)
 ·have:=g3.ne; rwa [g2] at this
 ·have:=g3.ab
  rw[g2] at this
  have h3:=this.2 h
  rcases h12 with q | q
  ·have:=f2 q; rw[<- s2] at this; omega
  ·exact .inl (by omega)
 ·rw [hp1 h12,<- s4]
  exact hk.head v hrng.1 hrng.2
 ·rw [s1] at q
  obtain⟨_,y,hla,hy1,hy2⟩:=f3 q
  rw[<- s2] at hla
  obtain⟨m,hm,hm1,hm2,hm3⟩:=hla
  have hgl:=g3.l
  rw[g2] at hgl
  obtain⟨ym,yl⟩:=QyN hm1
  rw[<- hm2] at ym yl
  have hmem:y.lsn∈Qbb k.lg.es e'.tx:=by
   rw[<- hgl,yl,Je,JW hm]
   exact Jj hm
  obtain⟨x,x1,x2,x3,x4⟩:=QtU _ _ _ hmem
  obtain rfl:=Qo6 hk.lg x1 ym x2
  have hr:e'.ref=x.lsn:=by rw[s3]; exact hy1
  have hc':e'.c=⟨x.c.pg,x.c.sl,x.c.a,x.c.b⟩:=by rw[s4]; exact hy2
  refine⟨by rw[hr]; exact hmem,x,x1,hr.symm,x3,x4,hc',fun z z1 z2 z3 z4=>?_⟩
  rw[<- hgl] at z2
  obtain⟨w,hw,hwz⟩:=Jd.1 z2
  have hasc:(Qbj k.tx e'.tx).l.Pairwise (·<·):=by
   obtain⟨q1,q2,q3⟩:=Jd.1 g1
   have:=QaE (Qkh v).2.2.2.2.1 q2
   rw[q3] at this
   exact QnF this
  have hwm:m<w:=by
   rcases JH m w with h | h | h
   ·exact h
   ·subst h
    rw[Qc _ _ hm] at yl
    omega
   ·have:=(JB.1 hasc) w m hw hm h
    rw[Qc _ _ hm] at yl
    omega
  have hgz:=QCO hk.lg z1
  have:=hm3 w hwm hw
  rw[Qc _ _ hw,hwz,hgz] at this
  rw[hc'] at z4
  exact this rfl z4
 ·unfold LkK at q
  rw[hfs] at q
  rcases q with⟨d,d1,d2,d3⟩ | ⟨f,d1,d2,d3,d4⟩
  ·refine .inr ⟨.inl ⟨d,d1,d2,d3⟩,fun _=>?_⟩
   have hlk:=((Qup v).frs i hil).2
   rw[Qc _ _ hil,hpg] at hlk
   obtain⟨b,hb⟩:∃ b,(b,false)=QaN k.la e'.c.pg:=⟨(QaN k.la e'.c.pg).1,by rw[<- hlk]⟩
   rw[<- d2]
   exact Qgu hb d d1
  ·rcases Qgt d1 with ⟨j,hj,hji,rfl⟩ | ⟨rfl,_⟩
   ·exact .inr ⟨.inr ⟨_,Jj hj,d2,d3,d4⟩,fun _=>by rw[<- d3]; exact hother j hj hji⟩
   ·exact .inl ⟨hk',by rw[<- d3,hup2],by rw[<- d4,hup3]⟩
 ·have hpe:p ≠ e'.c.pg:=fun h=>q e'.lsn (.inr ⟨u,by rw [hfs]; exact Qxc hil,hup1,by rw [hup2,h],hup3⟩)
  refine⟨.inl fun n hL=>?_,fun _=>hpe⟩
  rcases hL with⟨d,d1,d2,d3⟩ | ⟨f,d1,d2,d3,d4⟩
  ·exact q n (.inl ⟨d,d1,d2,d3⟩)
  ·obtain ⟨j,hj,rfl⟩:=Jd.1 d1
   by_cases hji:i=j
   ·subst hji; omega
   ·exact q n (.inr ⟨_,by rw[hfs]; exact QiH hj hji,d2,d3,d4⟩)
 ·rw [hfs] at q
  rcases Qgt q with⟨j,hj,hji,rfl⟩ | ⟨rfl,_⟩
  ·rw [Qbn _ _ _ fun h=>hother j hj hji h.2.symm]
   exact hk.fr _ (Jj hj)
  ·rw[QbM,if_pos ⟨hk',hup2.symm⟩,hup3]
def Qfx(h:(QaZ p a n).2=0)(hi:i<p.fs.length)(hid:idF p.fs a=(i:Nat))(hn:(p.fs.getD i Fm0).pg.lsn=n):((p.fs.getD i Fm0).dirty=false/\(QaZ p a n).1=p)\/∃ u:Fm,u.pg=(p.fs.getD i Fm0).pg/\u.dirty=false/\(QaZ p a n).1=⟨p.size,p.fs.set i u,p.hand⟩:=by
 unfold QaZ at h |-
 split at h
 ·simp at h
 rename_i q1
 split at h
 ·simp at h
 rename_i q2
 split at h
 ·simp at h
 rename_i q3
 rw[if_neg q1,if_neg q2,if_neg q3,hid,Jk]
 split
 ·rename_i q4; exact .inl ⟨by simpa using q4,rfl⟩
 ·refine .inr ⟨_,?_,?_,rfl⟩<;>unfold Qe5<;>rw[if_pos hn]
def Qui(h:(QaN l n).2=true):∃ d∈l,d.pg=n:=by
 unfold QaN at h
 split at h
 ·rename_i d hd
  exact⟨d,JV hd,by simpa using Kb hd⟩
 ·cases h
def QCu(h:ixB l=true)(p:Nat):0<=(l.getD p Rw0).lsn:=by
 by_cases hp:p<l.length
 ·unfold ixB at h
  simp only[Jf,Jr,Jz] at h
  have:=h.2 p hp
  unfold QBG Qqy at this
  simp only[Jf,decide_eq_true_eq] at this
  omega
 ·rw[Je,JZ (by omega)]; exact Jw _
def KI.wrt(hk:KI k)(ha:AddOk k e e')(h7:e.kind=7)(hw:QHT k e):KI (k.wrt e'):=by
 have F:=ha.facts hk
 obtain⟨v,s,ho,hl,hn,hnt,hnr,h0,hi,hp1,hp2⟩:=id ha
 obtain⟨s1,s2,s3,s4,s5⟩:=s
 have hk':e'.kind=7:=by rw[s1]; exact h7
 have hn:¬ (e'.kind=1\/e'.kind=2):=by omega
 have n5:e'.kind≠5:=by omega
 have n2:e'.kind≠2:=by omega
 have n6:e'.kind≠6:=by omega
 have htx:¬ 0<e'.tx:=fun h=>by have:=QdN ho (by omega); omega
 obtain⟨i,hil,hid,hls,hcl,hdd⟩:=hw
 rw[<- s4,<- s3] at hcl
 rw[<- s4] at hid
 rw[<- s3] at hls
 have hpl:=(Qkh v).2.2.2.1
 have hpg:(k.pl.fs.getD i Fm0).pg.id=e'.c.pg:=by
  rcases Qbc k.pl.fs e'.c.pg with q | ⟨j,_,q1,q2⟩
  ·omega
  ·obtain rfl:j = i:=by omega
   exact q2
 have hother:∀ j,(hj:j<k.pl.fs.length)->j≠i->(k.pl.fs[j]).pg.id≠e'.c.pg:=fun j hj hji q=>by
  have:=QtS hpl hj
  rw[Qc _ _ hj,q,hid] at this
  omega
 have hmi:k.pl.fs.getD i Fm0∈k.pl.fs:=by rw[Qc _ _ hil]; exact Jj hil
 have hfs:(k.wrt e').pl.fs=(QaZ k.pl e'.c.pg e'.ref).1.fs:=rfl
 have hsub:∀ f∈(k.wrt e').pl.fs,∃ g∈k.pl.fs,g.pg=f.pg/\(f.dirty=true->g=f):=fun f hf=>by
  rw[hfs] at hf
  rcases Qfx hcl hil hid hls with⟨_,q⟩ | ⟨u,u1,u2,q⟩
  ·rw[q] at hf; exact⟨f,hf,rfl,fun _=>rfl⟩
  ·rw [q] at hf
   rcases Qgt hf with⟨j,hj,_,rfl⟩ | ⟨rfl,_⟩
   ·exact⟨_,Jj hj,rfl,fun _=>rfl⟩
   ·exact⟨_,hmi,u1.symm,fun h=>by rw[u2] at h; cases h⟩
 have hsup:∀ f∈k.pl.fs,f.dirty=true->f.pg.id≠e'.c.pg->f∈(k.wrt e').pl.fs:=fun f hf hd hne=>by
  rw[hfs]
  rcases Qfx hcl hil hid hls with⟨_,q⟩ | ⟨u,u1,u2,q⟩
  ·rw[q]; exact hf
  ·rw [q]
   obtain⟨j,hj,rfl⟩:=Jd.1 hf
   by_cases hji:i=j
   ·subst hji; rw[Qc _ _ hil] at hpg; exact absurd hpg hne
   ·exact QiH hj hji
 refine hk.addP ha ⟨fun q=>absurd q htx,fun q=>absurd q htx,fun q=>absurd q htx,fun q=>absurd q n5,fun q=>absurd q hn,fun q=>absurd q n2,fun _=>?_,fun q=>absurd q n6,fun _=>?_⟩ rfl rfl rfl rfl rfl (fun p n q=>.inr ⟨?_,fun h=>absurd h hn⟩) (fun p q=>⟨?_,fun h=>absurd h hn⟩) (fun f q=>?_) (fun _ n q=>?_)
 ·rw[<- hls,hk.fr _ hmi,hpg]
 ·have hp0:=QeK ho (.inr (.inr hk'))
  have hlt:=hk.cor.lt e'.c.pg.toNat e'.ref (.inr ⟨_,hmi,hdd,by rw[hpg]; omega,hls⟩)
  have hix:=QCu (Qkh v).2.2.2.2.2.1 e'.c.pg.toNat
  refine⟨by omega,fun x hx h7x ⟨g1,g2⟩=>?_⟩
  have:=hk.cor.w7 x hx h7x
  rw[g1] at this
  omega
 ·rcases q with q | ⟨f,d1,d2,d3,d4⟩
  ·exact .inl q
  ·obtain ⟨g,g1,g2,g3⟩:=hsub f d1
   obtain rfl:=g3 d2
   exact .inr ⟨g,g1,d2,d3,d4⟩
 ·by_cases hpe:p = e'.c.pg
  ·exact .inr ⟨hk',hpe⟩
  ·refine .inl fun n hL=>?_
   rcases hL with hL | ⟨f,d1,d2,d3,d4⟩
   ·exact q n (.inl hL)
   ·exact q n (.inr ⟨f,hsup f d1 d2 (by rw[d3]; exact hpe),d2,d3,d4⟩)
 ·obtain ⟨g,g1,g2,_⟩:=hsub f q
  rw[Qbn _ _ _ fun h=>hn h.1,<- g2]
  exact hk.fr g g1
 ·rcases q with ⟨d,d1,d2,d3⟩ | ⟨f,d1,d2,d3,d4⟩
  ·have hlk:=((Qup v).frs i hil).2
   rw[hpg] at hlk
   obtain⟨b,hb⟩:∃ b,(b,false)=QaN k.la e'.c.pg:=⟨(QaN k.la e'.c.pg).1,by rw[<- hlk]⟩
   exact Qgu hb d d1 d2
  ·rw [hfs] at d1
   rcases Qfx hcl hil hid hls with⟨g,_⟩ | ⟨u,u1,u2,g⟩
   ·rw[hdd] at g; cases g
   ·rw [g] at d1
    rcases Qgt d1 with⟨j,hj,hji,rfl⟩ | ⟨rfl,_⟩
    ·exact hother j hj hji d3
    ·rw[u2] at d2; cases d2
def KI.pool(hk:KI k)(h1:∀ f∈p.fs,∃ g∈k.pl.fs,g.pg=f.pg/\g.dirty=f.dirty)(h2:∀ g∈k.pl.fs,g.dirty=true->∃ f∈p.fs,f.pg=g.pg/\f.dirty=true):KI ⟨k.pg,k.nx,k.lg,p,k.lk,k.tx,k.ix,k.la⟩:=by
 refine⟨hk.lg,hk.f,hk.log,hk.cor.weak (Jw _) (fun q n h=>?_) (fun q h n hL=>?_),fun f hf=>?_⟩
 ·rcases h with h | ⟨f,d1,d2,d3,d4⟩
  ·exact .inl h
  ·obtain ⟨g,g1,g2,g3⟩:=h1 f d1
   exact .inr ⟨g,g1,by rw[g3]; exact d2,by rw[g2]; exact d3,by rw[g2]; exact d4⟩
 ·rcases hL with hL | ⟨f,d1,d2,d3,d4⟩
  ·exact h n (.inl hL)
  ·obtain ⟨g,g1,g2,g3⟩:=h2 f d1 d2
   exact h n (.inr ⟨g,g1,g3,by rw[g2]; exact d3,by rw[g2]; exact d4⟩)
 ·obtain ⟨g,g1,g2,_⟩:=h1 f hf
  show f.pg.lsn=_
  rw[<- g2]; exact hk.fr g g1
def SameF.mem(h:SameF l m)(hf:f∈m):∃ g∈l,g.pg=f.pg/\g.dirty=f.dirty:=by
 obtain⟨i,hi,rfl⟩:=Jd.1 hf
 have hl:=h.len
 have:=h.at_ i
 rw[Qc _ _ hi,Qc _ _ (by omega:i<l.length)] at this
 unfold Fm.clr at this
 simp only[Fm.mk.injEq] at this
 exact⟨_,Jj (by omega:i<l.length),this.1.symm,this.2.1.symm⟩
def SameF.symm(h:SameF l m):SameF m l:=Eq.symm h
def Qvm(h:(Qd1 p a).2=0):∃ i:Nat,(p.fs.getD i Fm0).dirty=false/\(Qd1 p a).1.fs=p.fs.take i++p.fs.drop (i+1):=by
 unfold Qd1 at h |-
 split at h
 ·simp at h
 rename_i q1
 split at h
 ·simp at h
 rename_i q2
 split at h
 ·simp at h
 rename_i q3
 rw[if_neg q1,if_neg q2,if_neg q3]
 exact⟨(idF p.fs a).toNat,by simpa using q3,by dsimp only⟩
def KI.drop(hk:KI k)(h:(Qd1 k.pl a).2=0):KI ⟨k.pg,k.nx,k.lg,(Qd1 k.pl a).1,k.lk,k.tx,k.ix,k.la⟩:=by
 obtain⟨i,hd,hf⟩:=Qvm h
 refine hk.pool (fun f q=>?_) fun g q hg=>?_
 ·rw [hf] at q
  rcases Jh.1 q with q | q
  ·exact⟨f,JR q,rfl,rfl⟩
  ·exact⟨f,J2 q,rfl,rfl⟩
 ·obtain ⟨j,hj,rfl⟩:=Jd.1 q
  have hji:j≠i:=fun h=>by subst h; rw[Qc _ _ hj,hg] at hd; cases hd
  refine⟨k.pl.fs[j],?_,rfl,hg⟩
  rw[hf,Jh]
  rcases Nat.lt_or_gt_of_ne hji with h | h
  ·left; rw[Jd]; exact⟨j,by rw[Jp]; omega,by rw[List.getElem_take]⟩
  ·right; rw[Jd]; exact⟨j-(i+1),by rw[JL]; omega,by rw[List.getElem_drop]; congr 1; omega⟩
def KI.put(hk:KI k)(v:kB k=true)(hr:0<=x.id/\x.id<k.pg)(hl:x.lsn=Qfr k x.id):KI ⟨k.pg,k.nx,k.lg,⟨k.pl.size,k.pl.fs++[⟨x,false,0,true⟩],k.pl.hand⟩,k.lk,k.tx,k.ix,k.la⟩:=by
 rw[hk.head v hr.1 hr.2] at hl
 refine⟨hk.lg,hk.f,hk.log,hk.cor.weak (Jw _) (fun q n h=>?_) (fun q h n hL=>?_),fun f hf=>?_⟩
 ·rcases h with h | ⟨f,d1,d2,d3,d4⟩
  ·exact .inl h
  ·rcases Jh.1 d1 with d1 | d1
   ·exact .inr ⟨f,d1,d2,d3,d4⟩
   ·rw[Jg.1 d1] at d2; cases d2
 ·rcases hL with hL | ⟨f,d1,d2⟩
  ·exact h n (.inl hL)
  ·exact h n (.inr ⟨f,Jl _ d1,d2⟩)
 ·rcases Jh.1 hf with d1 | d1
  ·exact hk.fr f d1
  ·rw[Jg.1 d1]; exact hl
def KI.putl(hk:KI k)(v:kB k=true)(hr:0<=x.id/\x.id<k.pg)(hl:x.lsn=Qfr k x.id)(hla:(QaN k.la x.id).2=true):KI ⟨k.pg,k.nx,k.lg,⟨k.pl.size,k.pl.fs++[⟨x,true,rc,true⟩],k.pl.hand⟩,k.lk,k.tx,k.ix,k.la.filter fun d=>decide (d.pg≠x.id)⟩:=by
 rw[hk.head v hr.1 hr.2] at hl
 refine⟨hk.lg,hk.f,hk.log,⟨hk.cor.pgr,hk.cor.ids,hk.cor.ok,hk.cor.all,hk.cor.len,fun p hp=>⟨(hk.cor.row p hp).1,fun q=>(hk.cor.row p hp).2 fun n hL=>?_⟩,fun p n h=>?_,fun p n h=>?_,hk.cor.w7⟩,fun f hf=>?_⟩
 ·have hxp:(p:Int) ≠ x.id:=fun h=>q x.lsn (.inr ⟨_,JP _ (Jg.2 rfl),rfl,h.symm,rfl⟩)
  rcases hL with⟨d,d1,d2,d3⟩ | ⟨f,d1,d2⟩
  ·exact q n (.inl ⟨d,JN.2 ⟨d1,by simp; omega⟩,d2,d3⟩)
  ·exact q n (.inr ⟨f,Jl _ d1,d2⟩)
 ·rcases h with ⟨d,d1,d2,d3⟩ | ⟨f,d1,d2,d3,d4⟩
  ·exact hk.cor.la p n (.inl ⟨d,(JN.1 d1).1,d2,d3⟩)
  ·rcases Jh.1 d1 with d1 | d1
   ·exact hk.cor.la p n (.inr ⟨f,d1,d2,d3,d4⟩)
   ·rw [Jg.1 d1] at d3 d4
    rw[<- d4,<- d3]; exact hl
 ·rcases h with ⟨d,d1,d2,d3⟩ | ⟨f,d1,d2,d3,d4⟩
  ·exact hk.cor.lt p n (.inl ⟨d,(JN.1 d1).1,d2,d3⟩)
  ·rcases Jh.1 d1 with d1 | d1
   ·exact hk.cor.lt p n (.inr ⟨f,d1,d2,d3,d4⟩)
   ·rw [Jg.1 d1] at d3 d4
    obtain⟨d,g1,g2⟩:=Qui hla
    have:=hk.cor.la p d.last (.inl ⟨d,g1,by rw[g2]; exact d3,rfl⟩)
    refine hk.cor.lt p n (.inl ⟨d,g1,by rw[g2]; exact d3,?_⟩)
    rw[this,<- d4,<- d3]; exact hl.symm
 ·rcases Jh.1 hf with d1 | d1
  ·exact hk.fr f d1
  ·rw[Jg.1 d1]; exact hl
def KI.rem(hk:KI k)(hi:0<=idT k.tx a)(hn:(Qbj k.tx a).n=0):KI ⟨k.pg,k.nx,k.lg,k.pl,k.lk,QhR k.tx a,k.ix,k.la⟩:=by
 obtain⟨g1,g2⟩:=QnR hi
 have g3:=(hk.cor.ok _ g1).n
 rw[g2,hn] at g3
 refine hk.txs (hk.cor.same (Jw _) (fun t q=>hk.cor.ok t (mem_remS.1 q).1) fun x hx _ ⟨t,q1,q2⟩=>⟨t,mem_remS.2 ⟨q1,fun h=>?_⟩,q2⟩)
 have:=Ql6 k.lg.es (a:=a) (fun y hy=>(QnN hk.lg hk.f hy).1) ⟨x,hx,by omega⟩
 omega
def Stp.KI {n:Nat} {k k':Kn} (h:Stp n k k') (hk:KI k):KI k':=by
 cases h with
 | begin v hb =>
   refine⟨hk.lg,hk.f,hk.log,hk.cor.beginT (show k.nx<=k.nx+1 by omega) hb fun x hx=>?_,hk.fr⟩
   have:=hk.cor.ids x hx
   omega
 | fin ha h3 hf=>exact hk.fin ha h3 hf
 | ckpt ha h6 hc=>exact hk.ckpt ha h6 hc
 | change ha h1 hs hu=>exact hk.setE ha (.inl h1) hs hu
 | undo ha h2 hs hu=>exact hk.setE ha (.inr h2) hs hu
 | wrt ha h7 hw=>exact hk.wrt ha h7 hw
 | lock u=>exact⟨hk.lg,hk.f,hk.log,hk.cor,hk.fr⟩
 | save a h =>
   obtain⟨i,hi,e⟩:=QsM h
   rw[e]
   exact hk.txs (hk.cor.setT hi rfl rfl rfl Iff.rfl)
 | back a b h =>
   obtain⟨i,hi,u,e,h1,h2,h3,h4⟩:=QvU h
   rw[e]
   exact hk.txs (hk.cor.setT hi h1 h2 h3 h4)
 | rem a hi hn=>exact hk.rem hi hn
 | pool p hs =>
   refine hk.pool (fun f q=>hs.mem q) fun g q hg=>?_
   obtain⟨f,f1,f2,f3⟩:=hs.symm.mem q
   exact⟨f,f1,f2,by rw[f3]; exact hg⟩
 | drop a h=>exact hk.drop h
 | put x v hr hl _ _=>exact hk.put v hr hl
 | putl x v hr hl _ hla=>exact hk.putl v hr hl hla
 | force d h=>exact⟨h hk.lg,hk.f,hk.log,hk.cor,hk.fr⟩
def Str.KI{n:Nat}{k k':Kn}(h:Str n k k')(hk:KI k):KI k':=by
 induction h with
 | refl k=>exact hk
 | step _ h2 ih=>exact h2.KI (ih hk)
section
structure RQ(s:List UInt8) where
 at_:Nat
 sh:Bool
 ha:at_<=s.length
def rbQ(T:TypeId)(s:List UInt8)(r:RQ s):Blk:=⟨T,true,[.pv (.str s),.int .i64 r.at_,.bool r.sh]⟩
theorem QBU(T:TypeId)(s:List UInt8)(r:RQ s):DV.nums.go (fun _=>false) (rbQ T s r).cells=true:=rfl
def Qck(s:List UInt8)(k:Nat)(r:RQ s):Int×RQ s:=
 if h:r.sh=true\/¬ r.at_+k<=s.length then (0,⟨r.at_,true,r.ha⟩) else (IntKind.i64.wrap (Qe8 s r.at_ k),⟨r.at_+k,false,by omega⟩)
def Qhh(h:r.sh=true\/¬ r.at_+k<=s.length):Qck s k r=(0,⟨r.at_,true,r.ha⟩):=by unfold Qck; rw[dif_pos h]
def Qj7(h:r.sh=false)(h':r.at_+k<=s.length):Qck s k r=(IntKind.i64.wrap (Qe8 s r.at_ k),⟨r.at_+k,false,h'⟩):=by
 unfold Qck; rw[dif_neg (fun z=>z.elim (fun z=>by rw[h] at z; cases z) (fun z=>z h'))]
def RQ.lim{s:List UInt8}(r:RQ s):Nat:=r.at_+(if r.sh then 4 else 0)
def RQ.lim_le(r:RQ s):r.lim<=s.length+4:=by have:=r.ha; unfold RQ.lim; split<;>omega
def Qhi(hk:4<=k)(r:RQ s)(hr:r.sh=false):r.lim+4<=(Qck s k r).2.lim:=by
 by_cases h:r.at_+k<=s.length
 ·rw[Qj7 hr h]; simp only[RQ.lim,hr]; simp; omega
 ·rw[Qhh (.inr h)]; simp only[RQ.lim,hr]; simp
def Qgs(r:RQ s):r.lim<=(Qck s k r).2.lim:=by
 cases hr:r.sh
 ·by_cases h:r.at_ + k<=s.length
  ·rw[Qj7 hr h]; simp only[RQ.lim,hr]; simp
  ·rw[Qhh (.inr h)]; simp only[RQ.lim,hr]; simp
 ·rw[Qhh (.inl hr)]; simp only[RQ.lim,hr]; simp
def QoZ(r:RQ s): -9223372036854775808<=(Qck s k r).1/\(Qck s k r).1<=9223372036854775807:=by
 unfold Qck
 split
 ·dsimp only; omega
 ·dsimp only; rw[IntKind.wrap_i64]; omega
def rdN(s:List UInt8):Nat->List Int->RQ s->List Int×RQ s
 | 0,out,r=>(out,r)
 | n+1,out,r=>if r.sh=true then (out,r) else rdN s n (out++[(Qck s 8 r).1]) (Qck s 8 r).2
def QEM(h:r.sh=true):rdN s n out r=(out,r):=by cases n; rfl; rw[rdN,if_pos h]
def Qnu:∀ (n:Nat) (out:List Int) (r:RQ s),4 * out.length<=r.lim->4 * (rdN s n out r).1.length<=(rdN s n out r).2.lim/\r.lim<=(rdN s n out r).2.lim
 | 0,_,_,h=>⟨h,Jy _⟩
 | n + 1,out,r,h=>by
   unfold rdN
   split
   ·exact⟨h,Jy _⟩
   ·rename_i hr
    have h1:=Qhi (k:=8) (by omega) r (by simpa using hr)
    have h2:=Qnu n (out++[(Qck s 8 r).1]) (Qck s 8 r).2 (by simp; omega)
    exact⟨h2.1,by omega⟩
def QeP(s:List UInt8)(k:Nat)(r:RQ s):List Int×RQ s:=rdN s (Qck s k r).1.toNat [] (Qck s k r).2
def Ql0(r:RQ s):4*(QeP s k r).1.length<=s.length+4:=Jo (Qnu _ _ _ (Jc _)).1 (RQ.lim_le _)
def QlZ(r:RQ s):r.lim<=(QeP s k r).2.lim:=Jo (Qgs r) (Qnu _ _ _ (Jc _)).2
def txS(s:List UInt8)(r:RQ s):Tx×RQ s:=
 let a:=Qck s 4 r
 let b:=Qck s 1 a.2
 let c:=Qck s 8 b.2
 let d:=Qck s 8 c.2
 let q:=QeP s 2 d.2
 let v:=QeP s 1 q.2
 (⟨a.1,b.1,c.1,d.1,q.1,v.1⟩,v.2)
def Qoo(r:RQ s)(hr:r.sh=false):r.lim+4<=(txS s r).2.lim:=by
 have h1:=Qhi (k:=4) (by omega) r hr
 refine Jo h1 ?_
 unfold txS
 refine Jo (Qgs _) (Jo (Qgs _) (Jo (Qgs _) (Jo (QlZ _) (QlZ _))))
def QEm(hs:s.length<=3000000)(r:RQ s):(txS s r).1.sm:=⟨by have:=Ql0 (k:=2) (Qck s 8 (Qck s 8 (Qck s 1 (Qck s 4 r).2).2).2).2; show(QeP s 2 _).1.length<=_; omega,by have:=Ql0 (k:=1) (QeP s 2 (Qck s 8 (Qck s 8 (Qck s 1 (Qck s 4 r).2).2).2).2).2; show(QeP s 1 _).1.length<=_; omega⟩
def rdT(s:List UInt8):Nat->List Tx->RQ s->List Tx×RQ s
 | 0,out,r=>(out,r)
 | n+1,out,r=>if r.sh=true then (out,r) else rdT s n (out++[(txS s r).1]) (txS s r).2
def QEL(h:r.sh=true):rdT s n out r=(out,r):=by cases n; rfl; rw[rdT,if_pos h]
def Qtw:∀ (n:Nat) (out:List Tx) (r:RQ s),4 * out.length<=r.lim->4 * (rdT s n out r).1.length<=(rdT s n out r).2.lim
 | 0,_,_,h=>h
 | n + 1,out,r,h=>by
   unfold rdT
   split
   ·exact h
   ·rename_i hr
    have h1:=Qoo r (by simpa using hr)
    exact Qtw n (out++[(txS s r).1]) (txS s r).2 (by simp; omega)
def QzT (hs:s.length<=3000000):∀ (n:Nat) (out:List Tx) (r:RQ s),(∀ t ∈ out,t.sm)->∀ t ∈ (rdT s n out r).1,t.sm
 | 0,_,_,h=>h
 | n + 1,out,r,h=>by
   unfold rdT
   split
   ·exact h
   ·refine QzT hs n _ _ fun t ht=>?_
    rcases Jh.1 ht with h1 | h1
    ·exact h t h1
    ·rw[Jg.1 h1]; exact QEm hs r
def rq0(s:List UInt8):RQ s:=⟨0,false,Jc _⟩
def rdA(s:List UInt8):List Tx×RQ s:=rdT s (Qck s 2 (rq0 s)).1.toNat [] (Qck s 2 (rq0 s)).2
def QEN(hs:s.length<=3000000):smL (rdA s).1:=
 ⟨by have:=Qtw (Qck s 2 (rq0 s)).1.toNat [] (Qck s 2 (rq0 s)).2 (Jc _); have h2:=(rdA s).2.lim_le; unfold rdA at h2 |-; omega,QzT hs _ _ _ (by simp)⟩
def QAj(s:List UInt8):List Tx×Int:=
 if (rdA s).2.sh=true then ([],5) else if ((rdA s).2.at_:Int)≠s.length then ([],4) else if QaF (rdA s).1=false then ([],15) else ((rdA s).1,0)
abbrev RY(T:TypeId)(s:List UInt8)(v:DV)(q:RQ s):DV->Qa->Prop:=fun r h'=>∃ B',h'=[B']/\B'.live=true/\DV.nums.go (fun _=>false) B'.cells=true/\r.nums (fun _=>false)=true/\(r=v/\B'=rbQ T s q)
def Qjy(h:VCalls prog g (args.map (DV.ren fun _=>0)) [rbQ T s r] (RY T s v q))(hk:hp[k]?=some (rbQ T s r))(ha:DV.nums.go (fun i=>i==k) args=true)(hK:K v (hp.set k (rbQ T s q))):VCalls prog g args hp K:=
 (VCalls.ptr1 (R:=fun x B'=>x=v/\B'=rbQ T s q) hk rfl (QBU T s r) h ha).mono fun x h' ⟨B',e1,_,_,e2,e3⟩=>by subst e1 e2 e3; exact hK
attribute [local go_sem] rbQ
attribute [local go_sem] Quf Qwh Qzw Qw8 Qw6 QmO Qgf
@[go_sem] def lb(l:List Int):DV:=.pv (.sl (fz Qx l))
def Qef(s:List UInt8)(hs:s.length<=3000000)(k:Nat)(h1:1<=k)(h8:k<=8)(r:RQ s):VCalls prog 283 [.ptr 0 0,.int .i64 k] [rbQ 370 s r] (RY 370 s (.int .i64 (Qck s k r).1) (Qck s k r).2):=by
 refine dd Tryz.func283 ?_
 have ha:=r.ha
 by_cases h:r.at_+k<=s.length
 ·have c1:=QiL s (by omega) r.at_ k ⟨h1,h8⟩ h
  cases hr:r.sh
  ·rw [Qj7 hr h]
   (unfold Tryz.f283; refine rn trivial ?_)
   have F:=@hr
   refine rn F ?_
   repeat' (first
    | with_reducible exact⟨⟩
    | refine vp F (c1) ?_
    | (refine Qb (id:=1) [0,1,2,3,4,5,6,7,8] [⟨[],[],9,[0,1,2,4,5,6],[10,11,12]⟩,⟨[],[],13,[12],[]⟩,⟨[],[],14,[],[]⟩] (by kernel_rfl) (by kernel_rfl) ?_; refine rn F ?_))
   all_goals exact⟨_,rfl,rfl,rfl,rfl,rfl,rfl⟩
  ·rw [Qhh (.inl hr)]
   (unfold Tryz.f283; refine rn trivial ?_)
   have F:=@hr
   refine rn F ?_
   repeat' (first
    | with_reducible exact⟨⟩
    | refine vp F (c1) ?_
    | (refine Qb (id:=1) [0,1,2,3,4,5,6,7,8] [⟨[],[],9,[0,1,2,4,5,6],[10,11,12]⟩,⟨[],[],13,[12],[]⟩,⟨[],[],14,[],[]⟩] (by kernel_rfl) (by kernel_rfl) ?_; refine rn F ?_))
   all_goals exact⟨_,rfl,rfl,rfl,rfl,rfl,(by first | rfl | simp only[rbQ,hr])⟩
 ·have c1:=QdH s r.at_ k (by omega) (by omega) (by omega)
  rw[Qhh (.inr h)]
  (unfold Tryz.f283; refine rn trivial ?_)
  have F:=trivial
  refine rn F ?_
  repeat' (first
   | with_reducible exact⟨⟩
   | (refine sG F ?_ ?_<;>intro hZ)
   | refine vp F (c1) ?_
   | (refine Qb (id:=1) [0,1,2,3,4,5,6,7,8] [⟨[],[],9,[0,1,2,4,5,6],[10,11,12]⟩,⟨[],[],13,[12],[]⟩,⟨[],[],14,[],[]⟩] (by kernel_rfl) (by kernel_rfl) ?_; refine rn F ?_))
  all_goals exact⟨_,rfl,rfl,rfl,rfl,rfl,rfl⟩
structure LSrnum(s:List UInt8)(fin:List Int×RQ s) where
 n:Int
 out:List Int
 r:RQ s
 hn : -9223372036854775808<=n/\n<=9223372036854775807
 ho:4*out.length<=r.lim
 he:rdN s n.toNat out r=fin
def QzS(s:List UInt8)(hs:s.length<=3000000)(k:Nat)(h1:1<=k)(h8:k<=8)(r:RQ s):VCalls prog 284 [.ptr 0 0,.int .i64 k] [rbQ 370 s r] (RY 370 s (lb (QeP s k r).1) (QeP s k r).2):=by
 refine dd Tryz.func284 ?_
 (unfold Tryz.f284; refine rn trivial ?_)
 refine Qjy (k:=0) (Qef s hs k h1 h8 r) rfl rfl ?_
 refine rn trivial ?_
 refine VLoop.nilOwn 5 3 1 rfl ?_
 refine Qj (fun t:LSrnum s (QeP s k r)=>⟨27,1,[(6,.int .i64 t.n),(5,.own 1 1 0 t.out.length),(0,.ptr 0 0)],[rbQ 370 s t.r,⟨3,true,cells Qx t.out⟩]⟩) (fun t=>t.n.toNat) ⟨(Qck s k r).1,[],(Qck s k r).2,QoZ r,Jc _,rfl⟩ (gc [0,1]) ?_
 rintro⟨n,out,q,hn,ho,he⟩
 dsimp only
 have hl:=q.lim_le
 have hl1:out.length+1<=1000000:=by omega
 have hb:(out.length+1)*8<=140737488355328:=by omega
 obtain⟨a,sh,ha⟩:=q
 cases sh
 ·by_cases h0:0 < n
  ·have e:n.toNat = (n - 1).toNat + 1:=by omega
   rw[e,rdN,if_neg (by simp)] at he
   have hm:=Qhi (k:=8) (by omega) (⟨a,false,ha⟩:RQ s) rfl
   have F:=(Ja @h0 (Ja @Qgg @hb))
   refine rn F ?_
   refine Qjy (k:=0) (Qef s hs 8 (by omega) (by omega) ⟨a,false,ha⟩) rfl rfl ?_
   have F:=(Ja @Qgg @hb)
   refine rn F ?_
   refine⟨⟨n-1,_,_,by omega,by simp; omega,he⟩,by show(n-1).toNat<n.toNat; omega,?_⟩
   dsimp only
   rw[Jb]
   exact(gc [0,3])
  ·have e:n.toNat = 0:=by omega
   rw[e,rdN] at he
   have F:=(Ja @Qgg @hb)
   (refine rn F ?_; try with_reducible exact⟨⟩)
   all_goals exact⟨_,rfl,rfl,rfl,rfl,(by rw[<- he]; try rfl),(by rw[<- he]; try rfl)⟩
 ·rw [QEM rfl] at he
  have F:=(Ja @Qgg @hb)
  refine rn F ?_
  repeat' (first
   | with_reducible exact⟨⟩
   | (refine sG F ?_ ?_<;>intro hZ))
  all_goals exact⟨_,rfl,rfl,rfl,rfl,(by rw[<- he]; try rfl),(by rw[<- he]; try rfl)⟩
structure DTrnum(s:List UInt8) where
 n:Int
 out:List Tx
 r:RQ s
 hn : -9223372036854775808<=n/\n<=9223372036854775807
 ho:4*out.length<=r.lim
 he:rdT s n.toNat out r=rdA s
def Qqh(s:List UInt8)(hs:s.length<=3000000):VCalls prog 281 [.pv (.str s)] [] (Ret (Qou (QAj s))):=by
 refine VCalls.unwk ?_
 refine dd Tryz.func281 ?_
 (unfold Tryz.f281; refine rn trivial ?_)
 refine Qjy (k:=0) (Qef s hs 2 (by omega) (by omega) (rq0 s)) rfl rfl ?_
 refine rn trivial ?_
 refine VLoop.nilOwn 5 71 6 rfl ?_
 refine Qj (fun t:DTrnum s=>⟨64,0,[(6,.int .i64 t.n),(5,.own 1 6 0 t.out.length),(4,.ptr 0 0),(0,.pv (.str s))],[rbQ 370 s t.r,⟨71,true,cells Qu t.out⟩]⟩) (fun t=>t.n.toNat) ⟨(Qck s 2 (rq0 s)).1,[],(Qck s 2 (rq0 s)).2,QoZ _,Jc _,rfl⟩ (gc [0,1]) ?_
 rintro⟨n,out,q,hn,ho,he⟩
 dsimp only
 have hl:=q.lim_le
 have hb:(out.length+1)*80<=140737488355328:=by omega
 have hsm:=QEN hs
 have ed:QAj s=if (rdA s).2.sh=true then ([],5) else if ((rdA s).2.at_:Int)≠s.length then ([],4) else if QaF (rdA s).1=false then ([],15) else ((rdA s).1,0):=rfl
 obtain⟨a,sh,ha⟩:=q
 cases sh
 ·by_cases h0:0 < n
  ·have e:n.toNat = (n - 1).toNat + 1:=by omega
   rw[e,rdT,if_neg (by simp)] at he
   have hm:=Qoo (⟨a,false,ha⟩:RQ s) rfl
   simp only[txS] at he hm
   have cA:=Qef s hs 4 (by omega) (by omega) ⟨a,false,ha⟩
   generalize Qck s 4 ⟨a,false,ha⟩=A at cA he hm
   have cB:=Qef s hs 1 (by omega) (by omega) A.2
   generalize Qck s 1 A.2=B at cB he hm
   have cC:=Qef s hs 8 (by omega) (by omega) B.2
   generalize Qck s 8 B.2=C at cC he hm
   have cD:=Qef s hs 8 (by omega) (by omega) C.2
   generalize Qck s 8 C.2=D at cD he hm
   have cE:=QzS s hs 2 (by omega) (by omega) D.2
   generalize QeP s 2 D.2=E at cE he hm
   have cF:=QzS s hs 1 (by omega) (by omega) E.2
   generalize QeP s 1 E.2=W at cF he hm
   have F:=(Ja @h0 (Ja @Qgf @hb))
   refine rn F ?_
   refine Qjy (k:=0) cA rfl rfl ?_
   have F:=(Ja @h0 (Ja @Qgf @hb))
   refine rn F ?_
   refine Qjy (k:=0) cB rfl rfl ?_
   have F:=(Ja @h0 (Ja @Qgf @hb))
   refine rn F ?_
   refine Qjy (k:=0) cC rfl rfl ?_
   have F:=(Ja @h0 (Ja @Qgf @hb))
   refine rn F ?_
   refine Qjy (k:=0) cD rfl rfl ?_
   have F:=(Ja @h0 (Ja @Qgf @hb))
   refine rn F ?_
   refine Qjy (k:=0) cE rfl rfl ?_
   have F:=(Ja @h0 (Ja @Qgf @hb))
   refine rn F ?_
   refine Qjy (k:=0) cF rfl rfl ?_
   have F:=(Ja @h0 (Ja @Qgf @hb))
   refine rn F ?_
   refine⟨⟨n-1,_,_,by omega,by simp; omega,he⟩,by show(n-1).toNat<n.toNat; omega,?_⟩
   dsimp only
   have e2:cells Qu out++[.pv (.lit (.int .i64 A.1)),.pv (.lit (.int .i64 B.1)),.pv (.lit (.int .i64 C.1)),.pv (.lit (.int .i64 D.1)),.pv (.sl (fz Qx E.1)),.pv (.sl (fz Qx W.1))]=cells Qu (out++[⟨A.1,B.1,C.1,D.1,E.1,W.1⟩]):=Qgf out ⟨A.1,B.1,C.1,D.1,E.1,W.1⟩
   rw[Jb]
   rw[e2]
   exact(gc [0,4])
  ·have e:n.toNat = 0:=by omega
   rw[e,rdT] at he
   rw[<- he] at ed hsm
   have c1:=QbR out hsm
   rw[ed]
   by_cases h1:(a:Int)=s.length
   ·cases hv:QaF out
    ·rw [hv] at c1
     dsimp only
     rw[if_neg (by simp),if_neg (by simpa using h1),if_pos (by first | rfl | exact hv)]
     have F:=(Ja @h0 (Ja @h1 @hb))
     refine rn F ?_
     repeat' (first
      | with_reducible exact⟨⟩
      | refine vl F (c1) ?_)
     all_goals first | rfl | contradiction
    ·rw [hv] at c1
     dsimp only
     rw[if_neg (by simp),if_neg (by simpa using h1),if_neg (by first | simp; done | (rw[hv]; simp))]
     have F:=(Ja @h0 (Ja @h1 @hb))
     refine rn F ?_
     repeat' (first
      | with_reducible exact⟨⟩
      | refine vl F (c1) ?_)
     all_goals first | rfl | contradiction
   ·dsimp only
    rw[if_neg (by simp),if_pos (by simpa using h1)]
    have F:=(Ja @h0 (Ja @h1 @hb))
    (refine rn F ?_; try with_reducible exact⟨⟩)
    all_goals first | rfl | contradiction
 ·rw [QEL rfl] at he
  rw[<- he] at ed
  rw[ed]
  dsimp only
  rw[if_pos rfl]
  have F:=@hb
  refine rn F ?_
  repeat' (first
   | with_reducible exact⟨⟩
   | (refine sG F ?_ ?_<;>intro hZ))
  all_goals first | rfl | contradiction
end
def QiP(c:Cp)(h:c.sm):VCalls prog 186 [.agg c.d] [] (QL boD fun b=>b=true->CkV c):=by
 refine dd Tryz.func186 ?_
 obtain⟨h1,h2,h3⟩:=h
 have h10:=h1.1
 have c1:=QbR c.tx (h1.smL (by omega))
 have c2:=fun n=>Qlu c.dl (by omega) n
 have c3:=QbK c.ix (by omega)
 have e:CkV c=((1<=c.pg/\c.pg<=64)/\(1<=c.nx/\c.nx<=1073741825)/\QaF c.tx=true/\laB c.dl c.pg=true/\ixB c.ix=true/\(c.ix.length:Int)=c.pg):=rfl
 generalize QaF c.tx=b1 at *
 generalize ixB c.ix=b2 at *
 (unfold Tryz.f186; refine rn trivial ?_)
 refine rn F ?_
 repeat' (first
  | with_reducible exact⟨⟩
  | (refine sG F ?_ ?_<;>intro hZ)
  | (refine sB F ?_ ?_<;>intro hZ)
  | refine vp F (c1) ?_
  | (refine Qr (c2 _) rfl ?_; rintro b3 hb3; refine rn F ?_)
  | refine vp F (c3) ?_)
 all_goals first
  | exact⟨rfl,rfl,false,rfl,fun h=>by cases h⟩
  | skip
 all_goals
  have hV:CkV c:=by
   rw[e]
   refine⟨⟨by omega,by omega⟩,⟨by omega,by omega⟩,?_,?_,?_,?_⟩<;>first | assumption | omega | (simp_all; done)
  refine Qj (fun s:To c.tx.length=>⟨67,0,[(3,.int .i64 s.i),(1,.ptr 0 0)],[⟨238,true,c.d⟩]⟩) (fun s=>c.tx.length-s.i) ⟨0,Jc _⟩ (gc [0]) ?_
  rintro⟨i,hi⟩
  dsimp only
  have hg:=fun h:i<c.tx.length=>QdZ c.tx i h
  have F:=@hg
  refine rn F ?_
  repeat' (first
   | with_reducible exact⟨⟩
   | (refine sB F ?_ ?_<;>intro hZ)
   | (refine Qb (id:=6) [0,1,2,3,4,5,6,7,8] [] (by kernel_rfl) (by kernel_rfl) ?_; refine rn F ?_))
 all_goals first
  | exact⟨rfl,rfl,false,rfl,fun h=>by cases h⟩
  | exact⟨rfl,rfl,true,rfl,fun _=>hV⟩
  | exact⟨⟨i+1,by omega⟩,by dsimp only; omega,(gc [0])⟩
  | skip
def Qe1:∀ (l:List Dt) (s:List UInt8),(Qdq s l).length = s.length + 17 * l.length
 | [],s=>by simp[Qdq]
 | t :: r,s=>by
   show(Qdq (Qkq s t) r).length=_
   rw[Qe1 r]
   unfold Qkq
   rw[Qd,Qd,Qd,Jt]; omega
def Qi3(s:List UInt8)(l:List Dt)(i:Nat)(h:i<l.length):Qdq s (l.take (i+1))=Qkq (Qdq s (l.take i)) (l.getD i Dt0):=by
 rw[Ji h,Qdq,JA,Qc l i h]; rfl
def QFB(c:Cp)(a:List UInt8×Int):Prop:=a.1.length<=300000000/\(a.1=[]\/CkV c/\a.1=QaP c)
def QxU(c:Cp)(h:c.sm):VCalls prog 149 [.agg c.d] [] (QL siD (QFB c)):=by
 refine dd Tryz.func149 ?_
 have c1:=QiP c h
 obtain⟨h1,h2,h3⟩:=h
 have c2:=QBs c.tx h1
 have c3:=QxG c.ix h3
 have p1:=Q0 [] (by simp) c.pg 2 (by omega) (by omega)
 have p2:=Q0 (Ql [] c.pg 2) (by rw[Qd]; simp) c.nx 4 (by omega) (by omega)
 (unfold Tryz.f149; refine rn trivial ?_)
 refine Qr c1 rfl ?_
 rintro b hb
 cases b
 ·skip
  refine rn F ?_
  exact⟨rfl,rfl,([],24),rfl,by simp,.inl rfl⟩
 have hV:=hb rfl
 obtain⟨_,_,v3,v4,v5,_⟩:=hb rfl
 have hle:=Qpm v3
 have hlx:=Qmq c.ix
 have eck:QaP c=Qdq (Ql (Ql (Ql (Ql [] c.pg 2) c.nx 4) (Qa3 c.tx).length 4++Qa3 c.tx) c.dl.length 1) c.dl++QcD c.ix:=rfl
 replace c2:=c2 v3
 replace c3:=c3 v5
 generalize Qa3 c.tx=t at *
 generalize QcD c.ix=w at *
 have p3:=Q0 (Ql (Ql [] c.pg 2) c.nx 4) (by rw[Qd,Qd]; simp) t.length 4 (by omega) (by omega)
 have l3:(Ql (Ql (Ql [] c.pg 2) c.nx 4) t.length 4).length=10:=by rw[Qd,Qd,Qd]; simp
 have hadd:=Qdb (a:=Ql (Ql (Ql [] c.pg 2) c.nx 4) t.length 4) (b:=t) (by omega)
 have p4:=Q0 (Ql (Ql (Ql [] c.pg 2) c.nx 4) t.length 4++t) (by rw[Jb]; omega) c.dl.length 1 (by omega) (by omega)
 have l4:(Ql (Ql (Ql (Ql [] c.pg 2) c.nx 4) t.length 4++t) c.dl.length 1).length=11+t.length:=by rw[Qd,Jb]; omega
 have F:=@hadd
 refine rn F ?_
 repeat' (first
  | with_reducible exact⟨⟩
  | refine vp F (p1) ?_
  | refine vp F (p2) ?_
  | refine vp F (c2) ?_
  | refine vp F (p3) ?_
  | refine vp F (p4) ?_)
 generalize Ql (Ql (Ql (Ql [] c.pg 2) c.nx 4) t.length 4++t) c.dl.length 1=u at *
 refine Qj (fun r:To c.dl.length=>⟨77,0,[(7,.int .i64 r.i),(6,.pv (.str (Qdq u (c.dl.take r.i)))),(1,.ptr 0 0)],[⟨238,true,c.d⟩]⟩) (fun r=>c.dl.length-r.i) ⟨0,Jc _⟩ (gc [0]) ?_
 rintro⟨i,hi⟩
 dsimp only
 have hy:=fun h:i<c.dl.length=>QeU c.dl i h
 have hlen:=Qe1 (c.dl.take i) u
 rw[Jp] at hlen
 have hsc:=Qi3 u c.dl i
 have hend:c.dl.length<=i->c.dl.take i=c.dl:=fun h=>Jm h
 by_cases hc:i<c.dl.length
 ·replace hsc:=hsc hc
  generalize Qdq u (c.dl.take i)=s at *
  generalize c.dl.getD i Dt0=x at *
  unfold Qkq at hsc
  have q1:=Q0 s (by omega) x.pg 1 (by omega) (by omega)
  have q2:=Q0 (Ql s x.pg 1) (by rw[Qd]; omega) x.rc 8 (by omega) (by omega)
  have q3:=Q0 (Ql (Ql s x.pg 1) x.rc 8) (by rw[Qd,Qd]; omega) x.last 8 (by omega) (by omega)
  have F:=@hy
  refine rn F ?_
  repeat' (first
   | with_reducible exact⟨⟩
   | refine vp F (q1) ?_
   | refine vp F (q2) ?_
   | refine vp F (q3) ?_)
  refine⟨⟨i+1,by omega⟩,by dsimp only; omega,?_⟩
  dsimp only
  rw[hsc]
  exact(gc [0])
 ·rw [hend (by omega)] at hlen |-
  generalize Qdq u c.dl=v at *
  have hadd2:=Qdb (a:=v) (b:=w) (by omega)
  have F:=(Ja @hy @hadd2)
  refine rn F ?_
  repeat' (first
   | with_reducible exact⟨⟩
   | refine vp F (c3) ?_)
  exact⟨rfl,rfl,(v++w,0),rfl,by dsimp only; rw[Jb]; omega,.inr ⟨hV,eck.symm⟩⟩
def Qml(h:(Qaa x n).2=0):Ev x (Qaa x n).1:=by
 unfold Qaa at h |-
 split at h
 ·simp at h
 rename_i q1
 split at h
 ·simp at h
 rename_i q2
 rw[if_neg q1,if_neg q2]
 refine⟨rfl,List.prefix_rfl,fun hv=>?_⟩
 have hd:=Qat hv
 unfold lgB at hv |-
 simp only[Jf,decide_eq_true_eq] at hv |-
 refine⟨?_,hv.2⟩
 simp only[Lg.hd,Lg.end_] at hd q2 |-
 split<;>omega
def Qi0(x:Lg)(n:Int)(h:x.es.length<=4096):(Qaa x n).1.es.length<=4096:=by
 unfold Qaa
 repeat' split
 all_goals first | exact Jc _ | exact h
def Qrg(hq:Qwj k e (k1,n1,e1))(h:e1=0):(Qaa k1.lg n1).2=0:=by
 obtain⟨e',⟨_,_,_,hl,_⟩,hk,hn,hv⟩:=hq.2 h
 dsimp only at hk hn hv
 subst hk
 unfold Qaa
 rw[if_neg (by rw[hv]; decide),if_neg]
 simp only[Kn.add,Lg.end_,Jb,Jt,Ju] at *
 omega
def QeV(h:(Qaa x n).2=0):(Qaa x n).1=⟨x.f,x.es,(Qaa x n).1.d⟩:=by
 unfold Qaa at h |-
 split at h
 ·simp at h
 rename_i q1
 split at h
 ·simp at h
 rename_i q2
 rw[if_neg q1,if_neg q2]
def QEo(k:Kn)(a:Kn×Int×Int):Prop:=a.1.sm/\(a.2.2=0->Str 1 k a.1)
def QBu(k:Kn)(h:k.sm):VCalls prog 128 [.agg k.d] [] (QL kie (QEo k)):=by
 refine dk Tryz.func128 ?_
 have c1:=QBQ k h
 have c2:=fun c hc=>QxU c hc
 have c3:=fun t=>Qeg k h ⟨0,6,0,0,0,0,Ch0,t⟩
 have e0:∀ n e,e≠0->QEo k (Kn0,n,e):=fun n e h=>⟨Qb1,fun h2=>absurd h2 h⟩
 (unfold Tryz.f128; refine rn trivial ?_)
 refine rn F ?_
 repeat' (first
  | with_reducible exact⟨⟩
  | (refine sB F ?_ ?_<;>intro hZ)
  | (refine Qr (c1) rfl ?_; rintro⟨c,e⟩ hc; refine rn F ?_)
  | (refine Qr (c2 c hc.1) rfl ?_; rintro⟨t,e2⟩ ht; refine rn F ?_)
  | (refine Qr (c3 _) rfl ?_; rintro⟨k1,n1,e1⟩ hq; refine rn F ?_)
  | refine vp F (QjQ k1.lg (Jo hq.1.1 (by decide)) n1) ?_)
 all_goals first
  | exact⟨rfl,rfl,(Kn0,0,21),rfl,e0 _ _ (by decide)⟩
  | exact⟨rfl,rfl,(Kn0,0,e),rfl,e0 _ _ (by assumption)⟩
  | exact⟨rfl,rfl,(Kn0,0,e1),rfl,e0 _ _ (by assumption)⟩
  | skip
 have he1:e1=0:=by omega
 obtain⟨r1,r2,r3,r4,r5,r6⟩:=hq.1
 have hf0:=Qrg hq he1
 obtain⟨e',ha,hk1,_,_⟩:=hq.2 he1
 dsimp only at hk1
 have qs:Str 1 k k1:=by
  rw[hk1]
  refine .one (.ckpt ha rfl ?_)
  rcases ht.2 with h | ⟨h,h'⟩
  ·exact .inl h
  ·exact .inr ⟨c,hc.2 (by first | assumption | (dsimp only; omega)),h,h'⟩
 have qf:=Stp.force (k:=k1) (Qaa k1.lg n1).1.d fun _=>by
  have:=(Qml hf0).ok (hq.2 he1).choose_spec.2.2.2
  rw[QeV hf0] at this
  exact this
 rw[<- QeV hf0] at qf
 exact⟨rfl,rfl,(⟨k1.pg,k1.nx,(Qaa k1.lg n1).1,k1.pl,k1.lk,k1.tx,k1.ix,k1.la⟩,n1,0),rfl,⟨Qi0 _ _ r1,r2,r3,r4,r5,r6⟩,fun _=>qs.step qf⟩
def Qs1(s:Sv)(hs:s.sm):VCalls prog 114 [.agg s.d] [] (QL QHG fun a=>a.1.sm/\(a.2.2=0->Str 1 s.k a.1.k)):=by
 refine dk Tryz.func114 ?_
 have c1:=QBu s.k hs.1
 (unfold Tryz.f114; refine rn trivial ?_)
 refine rn F ?_
 repeat' (first
  | with_reducible exact⟨⟩
  | (refine sB F ?_ ?_<;>intro hZ)
  | (refine Qr (c1) rfl ?_; rintro⟨k1,n1,e1⟩ hq; refine rn F ?_))
 all_goals first
  | exact⟨rfl,rfl,(Sv0,0,e1),rfl,Qdy,fun h=>absurd h (by assumption)⟩
  | exact⟨rfl,rfl,(⟨k1,s.v⟩,n1,0),rfl,⟨hq.1,hs.2⟩,fun _=>hq.2 (by dsimp only; omega)⟩
  | skip
def Pre(q s:List UInt8):Prop:=∃ u,s=q++u
def Pre.trans(h:Pre p q)(h':Pre q s):Pre p s:=by
 obtain⟨u,rfl⟩:=h; obtain⟨v,rfl⟩:=h'; exact⟨u++v,by rw[Js]⟩
def Pre.refl(s:List UInt8):Pre s s:=⟨[],by simp⟩
def Pre.len(h:Pre p s):p.length<=s.length:=by obtain⟨u,rfl⟩:=h; simp
def QU(s:List UInt8)(n:Int)(k:Nat):Pre s (Ql s n k):=⟨_,rfl⟩
def Qb6:∀ (l:List Int) (s:List UInt8),Pre s (QkD s l)
 | [],s=>.refl s
 | a::r,s=>(QU s a 8).trans (Qb6 r (Ql s a 8))
def Qvg(s:List UInt8)(t:Tx):Pre s (QeZ s t):=by
 unfold QeZ
 exact(QU _ _ _).trans ((QU _ _ _).trans ((QU _ _ _).trans ((QU _ _ _).trans ((QU _ _ _).trans ((Qb6 _ _).trans ((QU _ _ _).trans (Qb6 _ _)))))))
def Qhy:∀ (l:List Tx) (s:List UInt8),Pre s (QeY s l)
 | [],s=>.refl s
 | a::r,s=>(Qvg s a).trans (Qhy r (QeZ s a))
def fit(n:Int)(k:Nat):Prop:=(k<=7/\0<=n/\n<2 ^ (8*k))\/(k=8/\-9223372036854775808<=n/\n<=9223372036854775807)
def Qvb(n:Int)(k:Nat)(h:fit n k):IntKind.i64.wrap ((u64N n % 2 ^ (8*k):Nat):Int)=n:=by
 rcases h with⟨hk,h0,h1⟩ | ⟨rfl,h1⟩
 ·rw [QpD n (8 * k) (by omega)]
  have hp:(2:Nat) ^ (8*k)<=2 ^ 56:=JC (by omega) (by omega)
  have e2:((2:Int) ^ (8*k))=((2 ^ (8*k):Nat):Int):=by rw[Kc]; rfl
  rw[e2] at h1
  generalize 2 ^ (8*k)=z at *
  have e3:u64N n=n.toNat:=by unfold u64N; omega
  rw[e3,Nat.mod_eq_of_lt (by omega)]; omega
 ·exact Qrt n h1
def QGS(e:a=b):(⟨a,sh,ha⟩:RQ s)=⟨b,sh,hb⟩:=by subst e; rfl
def QcN(hp:Pre (Ql p n k) s)(hk:1<=k)(hf:fit n k)(ha:a<=s.length)(e:a=p.length):
 ∃ h,Qck s k ⟨a,false,ha⟩=(n,⟨(Ql p n k).length,false,h⟩):=by
 subst e
 have hl:=hp.len
 have hl0:=hp.len
 have hk8:k<=8:=by rcases hf with h | h<;>omega
 rw[Qd] at hl
 rw[Qj7 rfl hl]
 obtain⟨t,rfl⟩:=hp
 refine⟨hl0,?_⟩
 dsimp only
 rw[QhO p t n k hk8 k (Jy _),Qvb n k hf]
 exact congrArg (Prod.mk n) (QGS (Qd _ _ _).symm)
def Qtx:∀ (l:List Int) {s p:List UInt8} (_:Pre (QkD p l) s) (_:∀ n ∈ l,fit n 8) (out:List Int) {a:Nat} (ha:a<=s.length) (_:a = p.length),
 ∃ h,rdN s l.length out ⟨a,false,ha⟩=(out++l,⟨(QkD p l).length,false,h⟩)
 | [],s,p,hp,_,out,a,ha,e=>⟨hp.len,by subst e; rw[JF]; rfl⟩
 | n :: r,s,p,hp,hf,out,a,ha,e=>by
   obtain⟨h1,e1⟩:=QcN (p:=p) (n:=n) (k:=8) ((Qb6 r _).trans hp) (by omega) (hf n (by simp)) ha e
   obtain⟨h2,e2⟩:=Qtx r (p:=Ql p n 8) hp (fun m hm=>hf m (JQ _ hm)) (out++[n]) h1 rfl
   refine⟨h2,?_⟩
   rw[Jt,rdN,if_neg (by simp),e1,e2,Js]
   rfl
def QlY(hp:Pre (QkD (Ql p l.length k) l) s)(hk:1<=k)(hfk:fit l.length k)(hf:∀ n∈l,fit n 8)(ha:a<=s.length)(e:a=p.length):
 ∃ h,QeP s k ⟨a,false,ha⟩=(l,⟨(QkD (Ql p l.length k) l).length,false,h⟩):=by
 obtain⟨h1,e1⟩:=QcN (p:=p) (n:=l.length) (k:=k) ((Qb6 l _).trans hp) hk hfk ha e
 obtain⟨h2,e2⟩:=Qtx l hp hf [] h1 rfl
 refine⟨h2,?_⟩
 unfold QeP
 rw[e1,Jk,e2,J0]
def Tx.fits(t:Tx):Prop:=fit t.id 4/\fit t.st 1/\fit t.n 8/\fit t.b 8/\fit t.l.length 2/\fit t.s.length 1/\(∀ n∈t.l,fit n 8)/\∀ n∈t.s,fit n 8
def QA8(hp:Pre (QeZ p t) s)(hf:t.fits)(ha:a<=s.length)(e:a=p.length):
 ∃ h,txS s ⟨a,false,ha⟩=(t,⟨(QeZ p t).length,false,h⟩):=by
 obtain⟨f1,f2,f3,f4,f5,f6,f7,f8⟩:=hf
 obtain⟨id,st,n,b,q,v⟩:=t
 unfold QeZ at hp |-
 dsimp only at *
 have p6:=(QU _ _ _).trans ((Qb6 _ _).trans hp)
 have p5:=(QU _ _ _).trans ((Qb6 _ _).trans p6)
 have p4:=(QU _ _ _).trans p5
 have p3:=(QU _ _ _).trans p4
 have p2:=(QU _ _ _).trans p3
 obtain⟨h1,e1⟩:=QcN (p:=p) (n:=id) (k:=4) (by first | exact p2 | exact p3 | exact p4 | exact p5) (by omega) f1 ha e
 obtain⟨h2,e2⟩:=QcN (p:=Ql p id 4) (n:=st) (k:=1) (by first | exact p2 | exact p3 | exact p4 | exact p5) (by omega) f2 h1 rfl
 obtain⟨h3,e3⟩:=QcN (p:=Ql (Ql p id 4) st 1) (n:=n) (k:=8) (by first | exact p2 | exact p3 | exact p4 | exact p5) (by omega) f3 h2 rfl
 obtain⟨h4,e4⟩:=QcN (p:=Ql (Ql (Ql p id 4) st 1) n 8) (n:=b) (k:=8) (by first | exact p2 | exact p3 | exact p4 | exact p5 | exact p6) (by omega) f4 h3 rfl
 obtain⟨h5,e5⟩:=QlY (p:=Ql (Ql (Ql (Ql p id 4) st 1) n 8) b 8) (l:=q) (k:=2) (by first | exact p6 | exact p5 | exact(QU _ _ _).trans ((Qb6 _ _).trans hp)) (by omega) f5 f7 h4 rfl
 obtain⟨h6,e6⟩:=QlY (l:=v) (k:=1) hp (by omega) f6 f8 h5 rfl
 refine⟨h6,?_⟩
 simp only[txS,e1,e2,e3,e4,e5,e6]
def Qtv:∀ (l:List Tx) {s p:List UInt8} (_:Pre (QeY p l) s) (_:∀ t ∈ l,t.fits) (out:List Tx) {a:Nat} (ha:a<=s.length) (_:a = p.length),
 ∃ h,rdT s l.length out ⟨a,false,ha⟩=(out++l,⟨(QeY p l).length,false,h⟩)
 | [],s,p,hp,_,out,a,ha,e=>⟨hp.len,by subst e; rw[JF]; rfl⟩
 | n :: r,s,p,hp,hf,out,a,ha,e=>by
   obtain⟨h1,e1⟩:=QA8 (p:=p) (t:=n) ((Qhy r _).trans hp) (hf n (by simp)) ha e
   obtain⟨h2,e2⟩:=Qtv r (p:=QeZ p n) hp (fun m hm=>hf m (JQ _ hm)) (out++[n]) h1 rfl
   refine⟨h2,?_⟩
   rw[Jt,rdT,if_neg (by simp),e1,e2,Js]
   rfl
def QvX{lo n d:Int}(h:Qgy l lo n d=true)(h0:0<=lo)(hn:n<=1099511627776):∀ x∈l,fit x 8:=fun x hx=>by
 obtain⟨i,hi,rfl⟩:=JS hx
 unfold Qgy at h
 rw[Jr] at h
 have:=(Qbu l lo n d i).1 (h i (Jz.2 hi))
 rw[Qc l i hi] at this
 exact .inr ⟨rfl,by omega,by omega⟩
def Qyg{t:Tx}(h:t.okB=true):t.fits:=by
 simp only[Tx.okB,Tx.hdB,Jf,Bool.or_eq_true,decide_eq_true_eq] at h
 obtain⟨⟨hh,h1⟩,h2⟩:=h
 refine⟨.inl ⟨by omega,by omega,by show t.id<4294967296; omega⟩,.inl ⟨by omega,by omega,by show t.st<256; omega⟩,.inr ⟨rfl,by omega,by omega⟩,.inr ⟨rfl,by omega,by omega⟩,.inl ⟨by omega,by omega,by show(t.l.length:Int)<65536; omega⟩,.inl ⟨by omega,by omega,by show(t.s.length:Int)<256; omega⟩,
  QvX h1 (by omega) (by omega),QvX h2 (by omega) (by omega)⟩
def Qsy(h:QaF l=true):∀ t∈l,t.fits:=fun t ht=>by
 obtain⟨i,hi,rfl⟩:=JS ht
 exact Qyg (QaE h hi)
def QFx(h:QaF l=true):QAj (Qa3 l)=(l,0):=by
 have hf:=Qsy h
 have hl:=QdC h
 generalize hs:Qa3 l=s
 have hp:Pre (QeY (Ql [] l.length 2) l) s:=by rw[<- hs]; exact .refl _
 obtain⟨h1,e1⟩:=QcN (p:=[]) (n:=l.length) (k:=2) ((Qhy l _).trans hp) (by omega) (.inl ⟨by omega,by omega,by show(l.length:Int)<65536; omega⟩) (Jc s.length) rfl
 obtain⟨h2,e2⟩:=Qtv l hp hf [] h1 rfl
 have e3:rdA s=(l,⟨(QeY (Ql [] l.length 2) l).length,false,h2⟩):=by
  unfold rdA rq0
  rw[e1,Jk,e2,J0]
 unfold QAj
 rw[e3]
 dsimp only
 rw[if_neg (by simp),if_neg (by rw[<- hs]; unfold Qa3; simp),if_neg (by rw[h]; decide)]
def QbX(hp:Pre (Ql p n k) s)(hf:fit n k)(e:a=p.length):a+k<=s.length/\IntKind.i64.wrap (Qe8 s a k)=n:=by
 subst e
 have hl:=hp.len
 have hk8:k<=8:=by rcases hf with h | h<;>omega
 rw[Qd] at hl
 refine⟨hl,?_⟩
 obtain⟨t,rfl⟩:=hp
 rw[QhO p t n k hk8 k (Jy _),Qvb n k hf]
def Pre.app(s u:List UInt8):Pre s (s++u):=⟨u,rfl⟩
def Qvi(s:List UInt8)(r:Rw):Pre s (Qkp s r):=(QU _ _ _).trans ((QU _ _ _).trans (QU _ _ _))
def Qhz:∀ (l:List Rw) (s:List UInt8),Pre s (Qen s l)
 | [],s=>.refl s
 | a::r,s=>(Qvi s a).trans (Qhz r (Qkp s a))
def Qvj(s:List UInt8)(r:Dt):Pre s (Qkq s r):=(QU _ _ _).trans ((QU _ _ _).trans (QU _ _ _))
def QhB:∀ (l:List Dt) (s:List UInt8),Pre s (Qdq s l)
 | [],s=>.refl s
 | a::r,s=>(Qvj s a).trans (QhB r (Qkq s a))
def Qpn:∀ (l:List Rw) (s:List UInt8) (i:Nat),i<=l.length->Pre (Qen s (l.take i)) (Qen s l)
 | [],s,i,_=>by rw[Kg]; exact .refl _
 | a::r,s,0,_=>Qhz _ _
 | a::r,s,i+1,h=>Qpn r (Qkp s a) i (by simpa using h)
def Qpo:∀ (l:List Dt) (s:List UInt8) (i:Nat),i<=l.length->Pre (Qdq s (l.take i)) (Qdq s l)
 | [],s,i,_=>by rw[Kg]; exact .refl _
 | a::r,s,0,_=>QhB _ _
 | a::r,s,i+1,h=>Qpo r (Qkq s a) i (by simpa using h)
def QCt(h:ixB l=true)(hi:i<l.length):fit (l.getD i Rw0).lsn 8/\fit (l.getD i Rw0).im 8/\fit (l.getD i Rw0).at_ 8:=by
 unfold ixB at h
 simp only[Jf,Jr,Jz] at h
 have:=h.2 i hi
 unfold QBG Qqy at this
 simp only[Jf,decide_eq_true_eq] at this
 exact⟨.inr ⟨rfl,by omega,by omega⟩,.inr ⟨rfl,by omega,by omega⟩,.inr ⟨rfl,by omega,by omega⟩⟩
def QFe(h:ixB l=true):IntKind.i64.wrap (Qe8 (QcD l) 0 2)=l.length/\(QcD l).length=2+24*l.length:=by
 have h2:=Quq h
 exact⟨(QbX (p:=[]) (n:=l.length) (k:=2) (Qhz l _) (.inl ⟨by omega,by omega,by show(l.length:Int)<65536; omega⟩) rfl).2,Qmq l⟩
def QFd(h:ixB l=true)(hi:i<l.length):IntKind.i64.wrap (Qe8 (QcD l) (2+24*i) 8)=(l.getD i Rw0).lsn/\IntKind.i64.wrap (Qe8 (QcD l) (10+24*i) 8)=(l.getD i Rw0).im/\IntKind.i64.wrap (Qe8 (QcD l) (18+24*i) 8)=(l.getD i Rw0).at_:=by
 obtain⟨f1,f2,f3⟩:=QCt h hi
 have h1:=Qpn l (Ql [] l.length 2) (i+1) hi
 rw[Qi2 _ _ _ hi] at h1
 have hl:(Qen (Ql [] l.length 2) (l.take i)).length=2+24*i:=by
  rw[Qe0,Qd,Jp,Ju]; omega
 have hs:Qen (Ql [] l.length 2) l=QcD l:=rfl
 rw[hs] at h1
 generalize Qen (Ql [] l.length 2) (l.take i)=p at *
 unfold Qkp at h1
 have h2:=(QU _ _ _).trans h1
 have h3:=(QU _ _ _).trans h2
 exact⟨(QbX h3 f1 hl.symm).2,(QbX h2 f2 (by rw[Qd]; omega)).2,(QbX h1 f3 (by rw[Qd,Qd]; omega)).2⟩
def Qo8(h:laB l n=true)(hi:i<l.length):0<=(l.getD i Dt0).pg/\(l.getD i Dt0).pg<n/\1<=(l.getD i Dt0).rc/\(l.getD i Dt0).rc<=(l.getD i Dt0).last/\(l.getD i Dt0).last<=1099511627776/\(i=0\/(l.getD (i-1) Dt0).pg<(l.getD i Dt0).pg):=by
 unfold laB at h
 rw[Jr] at h
 exact(QnO _ _ _).1 (h i (Jz.2 hi))
def Qz5 (h:laB l n = true):∀ i:Nat,i < l.length->(i:Int)<=(l.getD i Dt0).pg
 | 0,hi=>(Qo8 h hi).1
 | i + 1,hi=>by
   have h1:=Qz5 h i (by omega)
   have h2:=(Qo8 h hi).2.2.2.2.2
   rcases h2 with h2 | h2
   ·omega
   ·rw[Nat.add_sub_cancel] at h2; omega
def QCr(h:laB l n=true)(hn:0<=n):(l.length:Int)<=n:=by
 rcases Nat.eq_zero_or_pos l.length with h0 | h0
 ·omega
 ·have h1:=Qz5 h (l.length - 1) (by omega)
  have h2:=(Qo8 h (i:=l.length-1) (by omega)).2.1
  omega
def Qmy(h:CkV c):(11+(Qa3 c.tx).length+17*c.dl.length<=(QaP c).length/\IntKind.i64.wrap (Qe8 (QaP c) 0 2)=c.pg/\IntKind.i64.wrap (Qe8 (QaP c) 2 4)=c.nx/\IntKind.i64.wrap (Qe8 (QaP c) 6 4)=(Qa3 c.tx).length)/\((QaP c).take (10+(Qa3 c.tx).length)).drop 10=Qa3 c.tx/\IntKind.i64.wrap (Qe8 (QaP c) (10+(Qa3 c.tx).length) 1)=c.dl.length/\(QaP c).drop (11+(Qa3 c.tx).length+17*c.dl.length)=QcD c.ix /\
 ∀ i,i<c.dl.length->IntKind.i64.wrap (Qe8 (QaP c) (11+(Qa3 c.tx).length+17*i) 1)=(c.dl.getD i Dt0).pg/\IntKind.i64.wrap (Qe8 (QaP c) (12+(Qa3 c.tx).length+17*i) 8)=(c.dl.getD i Dt0).rc/\IntKind.i64.wrap (Qe8 (QaP c) (20+(Qa3 c.tx).length+17*i) 8)=(c.dl.getD i Dt0).last:=by
 obtain⟨⟨v1,v2⟩,⟨v3,v4⟩,v5,v6,v7,v8⟩:=h
 have hT:=Qpm v5
 have hL:=QCr v6 (by omega)
 have hs:QaP c=Qdq (Ql (Ql (Ql (Ql [] c.pg 2) c.nx 4) (Qa3 c.tx).length 4++Qa3 c.tx) c.dl.length 1) c.dl++QcD c.ix:=rfl
 generalize QaP c=s at *
 generalize Qa3 c.tx=T at *
 have p5:Pre (Qdq (Ql (Ql (Ql (Ql [] c.pg 2) c.nx 4) T.length 4++T) c.dl.length 1) c.dl) s:=⟨_,hs⟩
 have p4:=(QhB _ _).trans p5
 have p3:=(QU _ _ _).trans p4
 have p2:=(Pre.app _ _).trans p3
 have p1:=(QU _ _ _).trans p2
 have p0:=(QU _ _ _).trans p1
 have l2:(Ql (Ql (Ql [] c.pg 2) c.nx 4) T.length 4).length=10:=by rw[Qd,Qd,Qd]; rfl
 have l3:(Ql (Ql (Ql [] c.pg 2) c.nx 4) T.length 4++T).length=10+T.length:=by rw[Jb,l2]
 have l4:(Ql (Ql (Ql (Ql [] c.pg 2) c.nx 4) T.length 4++T) c.dl.length 1).length=11+T.length:=by rw[Qd,l3]; omega
 have l5:=Qe1 c.dl (Ql (Ql (Ql (Ql [] c.pg 2) c.nx 4) T.length 4++T) c.dl.length 1)
 rw[l4] at l5
 refine⟨⟨by have:=p5.len; omega,(QbX p0 (.inl ⟨by omega,by omega,by show c.pg<65536; omega⟩) rfl).2,(QbX p1 (.inl ⟨by omega,by omega,by show c.nx<4294967296; omega⟩) (by rw[Qd]; rfl)).2,(QbX p2 (.inl ⟨by omega,by omega,by show(T.length:Int)<4294967296; omega⟩) (by rw[Qd,Qd]; rfl)).2⟩,?_,(QbX p4 (.inl ⟨by omega,by omega,by show(c.dl.length:Int)<256; omega⟩) l3.symm).2,?_,fun i hi=>?_⟩
 ·obtain ⟨u,hu⟩:=p3
  rw[hu,<- l3,Ke,<- l2,J3]
 ·rw[hs,<- l5,J3]
 ·have h1:=(Qpo c.dl (Ql (Ql (Ql (Ql [] c.pg 2) c.nx 4) T.length 4 ++ T) c.dl.length 1) (i + 1) hi).trans p5
  rw[Qi3 _ _ _ hi] at h1
  have hl:=Qe1 (c.dl.take i) (Ql (Ql (Ql (Ql [] c.pg 2) c.nx 4) T.length 4++T) c.dl.length 1)
  rw[l4,Jp] at hl
  obtain⟨a1,a2,a3,a4,a5,_⟩:=Qo8 v6 hi
  clear l5 p5 p4 p3 p2 p1 p0 hs l4
  generalize Qdq (Ql (Ql (Ql (Ql [] c.pg 2) c.nx 4) T.length 4++T) c.dl.length 1) (c.dl.take i)=p at *
  generalize c.dl.getD i Dt0=d at *
  unfold Qkq at h1
  have h2:=(QU _ _ _).trans h1
  have h3:=(QU _ _ _).trans h2
  exact⟨(QbX h3 (.inl ⟨by omega,by omega,by show d.pg<256; omega⟩) (by omega)).2,(QbX h2 (.inr ⟨rfl,by omega,by omega⟩) (by rw[Qd]; omega)).2,(QbX h1 (.inr ⟨rfl,by omega,by omega⟩) (by rw[Qd,Qd]; omega)).2⟩
@[go_sem] def niZ(a:Int×Int):DV:=.tup [.int .i64 a.1,.int .i64 a.2]
def Qeh(s:List UInt8)(hs:s.length<=100000000)(a:Int)(k:Nat)(h1:1<=k)(h8:k<=8)(h0:0<=a):VCalls prog 240 [.pv (.str s),.int .i64 a,.int .i64 k] [] (QL niZ fun r=>(k<=4->0<=r.1/\r.1<4294967296)/\(k<=2->r.1<65536)/\(k<=1->r.1<256)/\(r.2=0->a+k<=s.length)/\(a+k<=s.length->r.1=IntKind.i64.wrap (Qe8 s a.toNat k))):=by
 by_cases h:a+k<=s.length
 ·obtain ⟨n,rfl⟩:∃ n:Nat,a = n:=⟨a.toNat,by omega⟩
  refine(QiL s (by omega) n k ⟨h1,h8⟩ (by omega)).toS (IntKind.i64.wrap (Qe8 s n k),0) rfl ⟨fun hk=>?_,fun hk=>?_,fun hk=>?_,fun _=>h,fun _=>by rw[Jk]⟩
  all_goals
   have e:=Qe7 s n k (by omega)
   have h2:=Ql4 s n k
   dsimp only
   rw[e,IntKind.wrap_i64]
  ·have:(2:Nat) ^ (8 * k)<=2 ^ 32:=JC (by omega) (by omega)
   omega
  ·have:(2:Nat) ^ (8 * k)<=2 ^ 16:=JC (by omega) (by omega)
   omega
  ·have:(2:Nat) ^ (8 * k)<=2 ^ 8:=JC (by omega) (by omega)
   omega
 ·refine(QdH s a k (by omega) h0 h).toS (0,5) rfl ⟨fun _=>by decide,fun _=>by decide,fun _=>by decide,fun h=>by simp at h,fun h2=>absurd h2 h⟩
structure RwS(n:Nat)(s:List UInt8) where
 i:Nat
 l:List Rw
 hl:l.length=i
 hi:i<=n
 hx:∀ l0,ixB l0=true->s=QcD l0->l=l0.take i
@[go_sem] def ixD(a:List Rw×Int):DV:=.tup [.agg [.pv (.sl (fz Qcl a.1))],.int .i64 a.2]
def ixQ(s:List UInt8)(a:List Rw×Int):Prop:=a.1.length<=64/\(a.2=0->∀ l0,ixB l0=true->s=QcD l0->a.1=l0)
def QxH(s:List UInt8)(hs:s.length<=100000000):VCalls prog 282 [.pv (.str s)] [] (QL ixD (ixQ s)):=by
 refine dk Tryz.func282 ?_
 have c1:=Qeh s hs 0 2 (by omega) (by omega) (by omega)
 have c8:=fun a h=>Qeh s hs a 8 (by omega) (by omega) h
 have e0:∀ e,e≠0->ixQ s ([],e):=fun e h=>⟨Jc _,fun h2=>absurd h2 h⟩
 (unfold Tryz.f282; refine rn trivial ?_)
 refine rn F ?_
 repeat' (first
  | with_reducible exact⟨⟩
  | (refine sG F ?_ ?_<;>intro hZ)
  | (refine sB F ?_ ?_<;>intro hZ)
  | (refine Qr (c1) rfl ?_; rintro⟨n,e⟩ hn; refine rn F ?_))
 all_goals first
  | exact⟨rfl,rfl,([],_),rfl,e0 _ (by decide)⟩
  | skip
 dsimp only at hn
 obtain⟨n,rfl⟩:∃ m:Nat,n=m:=⟨n.toNat,by omega⟩
 have hn2:n<65536:=by omega
 have hnl:∀ l0,ixB l0=true->s=QcD l0->n=l0.length/\s.length=2+24*n:=fun l0 h1 h2=>by
  have h3:=QFe h1
  have h4:=hn.2.2.2.2
  rw[h2] at h4 |-
  have h5:=h4 (by omega)
  rw[show(0:Int).toNat=0 from rfl] at h5
  omega
 clear hn
 refine VLoop.nilOwnC 1 0 300 3 rfl rfl ?_
 refine rn trivial ?_
 refine Qj (fun r:RwS n s=>⟨77,0,[(7,.int .i64 r.i),(6,.ptr 1 0),(4,.int .i64 n),(2,.ptr 0 0),(0,.pv (.str s))],[⟨59,true,[.pv (.slc [])]⟩,⟨59,true,[.own 2 3 0 r.i]⟩,⟨300,true,cells Qcl r.l⟩]⟩) (fun r=>n-r.i) ⟨0,[],rfl,Jc _,fun _ _ _=>by rw[J4]⟩ (gc [0,1,2]) ?_
 rintro⟨i,l,hl,hi,hx⟩
 dsimp only at hi |-
 subst hl
 have hb:(l.length+1)*24<=140737488355328:=by omega
 have F:=@hb
 refine rn F ?_
 repeat' (first
  | with_reducible exact⟨⟩
  | (refine sB F ?_ ?_<;>intro hZ)
  | (refine Qr (c8 (2+24*(l.length:Int)) (by omega)) rfl ?_; rintro⟨a1,e1⟩ h1; refine rn F ?_)
  | (refine Qr (c8 (10+24*(l.length:Int)) (by omega)) rfl ?_; rintro⟨a2,e2⟩ h2; refine rn F ?_)
  | (refine Qr (c8 (18+24*(l.length:Int)) (by omega)) rfl ?_; rintro⟨a3,e3⟩ h3; refine rn F ?_))
 ·have hl2:(l ++ [(⟨a1,a2,a3⟩:Rw)]).length = l.length + 1:=by simp
  have hil:l.length<n:=by omega
  have hx2:∀ l0,ixB l0=true->s=QcD l0->l++[(⟨a1,a2,a3⟩:Rw)]=l0.take (l.length+1):=fun l0 q1 q2=>by
   obtain⟨q3,q4⟩:=hnl l0 q1 q2
   have q5:=hx l0 q1 q2
   have hil2:l.length<l0.length:=by omega
   obtain⟨g1,g2,g3⟩:=QFd q1 hil2
   have z1:=h1.2.2.2.2 (by omega)
   have z2:=h2.2.2.2.2 (by omega)
   have z3:=h3.2.2.2.2 (by omega)
   dsimp only at z1 z2 z3
   rw[show((2:Int)+24*(l.length:Int)).toNat=2+24*l.length by omega,q2,g1] at z1
   rw[show((10:Int)+24*(l.length:Int)).toNat=10+24*l.length by omega,q2,g2] at z2
   rw[show((18:Int)+24*(l.length:Int)).toNat=18+24*l.length by omega,q2,g3] at z3
   rw[Ji hil2,z1,z2,z3,Qc _ _ hil2,<- q5]
  clear h1 h2 h3
  refine⟨⟨l.length+1,l++[⟨a1,a2,a3⟩],hl2,hil,hx2⟩,by dsimp only; omega,?_⟩
  exact(gc [0,1,5])
 have hix:=fun h:ixB l=true=>Quq h
 have c9:=QbK l (by omega)
 generalize ixB l=ok at *
 refine vl hb c9 ?_
 cases ok
 ·skip
  have F:=@hb
  refine rn F ?_
  exact⟨rfl,rfl,([],_),rfl,e0 _ (by decide)⟩
 ·skip
  have F:=@hb
  refine rn F ?_
  exact⟨rfl,rfl,(l,0),rfl,(hix rfl).2,fun _ l0 q1 q2=>by
   have q3:=(hnl l0 q1 q2).1
   have q4:=hx l0 q1 q2
   dsimp only
   rw[q4,Jm (by omega)]⟩
structure DtS(s:List UInt8)(n m:Nat) where
 i:Nat
 a:Int
 l:List Dt
 hl:l.length=i
 hi:i<=m
 ha:a=11+n+17*i
 hx:∀ c,CkV c->s=QaP c->l=c.dl.take i
def QFL(s:List UInt8)(a:Cp×Int):Prop:=smN 64 a.1.tx/\a.1.dl.length<=256/\a.1.ix.length<=64/\(a.2=0->s≠[]/\∀ c,CkV c->s=QaP c->a.1=c)
def QxV(s:List UInt8)(hs:s.length<=3000000):VCalls prog 278 [.pv (.str s)] [] (QL QHR (QFL s)):=by
 refine dk Tryz.func278 ?_
 have c1:=Qeh s (by omega) 0 2 (by omega) (by omega) (by omega)
 have c2:=Qeh s (by omega) 2 4 (by omega) (by omega) (by omega)
 have c3:=Qeh s (by omega) 6 4 (by omega) (by omega) (by omega)
 have c4:=fun a h=>Qeh s (by omega) a 1 (by omega) (by omega) h
 have c8:=fun a h=>Qeh s (by omega) a 8 (by omega) (by omega) h
 have err:∀ e,e≠0->QFL s (Cp0,e):=fun e h=>⟨Q6 _,Jc _,Jc _,fun h2=>absurd h2 h⟩
 (unfold Tryz.f278; refine rn trivial ?_)
 refine Qr c1 rfl ?_
 rintro⟨pg,e1⟩ h1
 refine rn trivial ?_
 refine Qr c2 rfl ?_
 rintro⟨nx,e2⟩ h2
 refine rn trivial ?_
 refine Qr c3 rfl ?_
 rintro⟨n,e3⟩ h3
 have hA:∀ c,CkV c->s=QaP c->pg=c.pg/\nx=c.nx/\n=(Qa3 c.tx).length:=fun c q1 q2=>by
  obtain⟨⟨g1,g2,g3,g4⟩,_⟩:=Qmy q1
  rw[<- q2] at g1 g2 g3 g4
  exact⟨(h1.2.2.2.2 (by omega)).trans g2,(h2.2.2.2.2 (by omega)).trans g3,(h3.2.2.2.2 (by omega)).trans g4⟩
 dsimp only at h3
 obtain⟨n,rfl⟩:∃ m:Nat,n=m:=⟨n.toNat,by omega⟩
 have hn:n<4294967296:=by omega
 clear h1 h2 h3
 refine rn F ?_
 repeat' (first
  | with_reducible exact⟨⟩
  | (refine sG F ?_ ?_<;>intro hZ)
  | (refine sB F ?_ ?_<;>intro hZ))
 all_goals first | exact⟨rfl,rfl,(Cp0,5),rfl,err _ (by decide)⟩ | skip
 have hns:n+10<=s.length:=by omega
 refine Qr (c4 (10+(n:Int)) (by omega)) rfl ?_
 rintro⟨m,e4⟩ h4
 have hM:∀ c,CkV c->s=QaP c->m=c.dl.length:=fun c q1 q2=>by
  obtain⟨_,_,q3⟩:=hA c q1 q2
  obtain⟨⟨g0,_⟩,_,g1,_⟩:=Qmy q1
  rw[<- q2,<- (by omega:n=(Qa3 c.tx).length)] at g0 g1
  have:=h4.2.2.2.2 (by omega)
  rw[show((10:Int)+(n:Int)).toNat=10+n by omega] at this
  exact this.trans g1
 dsimp only at h4
 obtain⟨m,rfl⟩:∃ k:Nat,m=k:=⟨m.toNat,by omega⟩
 have hm:m<256:=by omega
 clear h4
 refine rn F ?_
 repeat' (first
  | with_reducible exact⟨⟩
  | (refine sG F ?_ ?_<;>intro hZ)
  | (refine sB F ?_ ?_<;>intro hZ))
 all_goals first | exact⟨rfl,rfl,(Cp0,5),rfl,err _ (by decide)⟩ | skip
 have hns2:11+n+17*m<=s.length:=by omega
 refine VLoop.nilOwnC 1 3 219 3 rfl rfl ?_
 refine rn trivial ?_
 have hTX:∀ c,CkV c->s=QaP c->(s.take (10+(n:Int)).toNat).drop 10=Qa3 c.tx:=fun c q1 q2=>by
  obtain⟨_,_,q3⟩:=hA c q1 q2
  obtain⟨_,g1,_⟩:=Qmy q1
  rw[<- q2,<- (by omega:n=(Qa3 c.tx).length)] at g1
  rw[show((10:Int)+(n:Int)).toNat=10+n by omega]
  exact g1
 generalize htx:(s.take (10+(n:Int)).toNat).drop 10=txs at *
 have htl:txs.length<=3000000:=by rw[<- htx,JL,Jp]; omega
 refine Qj (fun r:DtS s n m=>⟨130,0,[(11,.int .i64 r.i),(10,.int .i64 m),(9,.int .i64 r.a),(8,.pv (.str txs)),(4,.ptr 1 0),(2,.ptr 0 0),(0,.pv (.str s))],[⟨238,true,[.int .i64 0,.int .i64 0,.pv (.slc []),.pv (.slc []),.pv (.slc [])]⟩,⟨238,true,[.int .i64 pg,.int .i64 nx,.pv (.slc []),.own 2 3 0 r.i,.pv (.slc [])]⟩,⟨219,true,cells QcZ r.l⟩]⟩) (fun r=>m-r.i) ⟨0,10+(n:Int)+1,[],rfl,Jc _,by omega,fun _ _ _=>by rw[J4]⟩ (gc [0,1,2]) ?_
 rintro⟨i,a,l,hl,hi,ha,hx⟩
 dsimp only
 subst hl
 have hb:(l.length+1)*24<=140737488355328:=by omega
 by_cases hil:l.length<m
 ·skip
  have F:=@hb
  refine rn F ?_
  repeat' (first
   | with_reducible exact⟨⟩
   | (refine Qr (c4 a (by omega)) rfl ?_; rintro⟨a1,e1⟩ h1; refine rn F ?_)
   | (refine Qr (c8 (a+1) (by omega)) rfl ?_; rintro⟨a2,e2⟩ h2; refine rn F ?_)
   | (refine Qr (c8 (a+9) (by omega)) rfl ?_; rintro⟨a3,e3⟩ h3; refine rn F ?_))
  have hl2:(l++[(⟨a1,a2,a3⟩:Dt)]).length=l.length+1:=by simp
  have hx2:∀ c,CkV c->s=QaP c->l++[(⟨a1,a2,a3⟩:Dt)]=c.dl.take (l.length+1):=fun c q1 q2=>by
   obtain⟨_,_,q3⟩:=hA c q1 q2
   have q4:=hM c q1 q2
   have q5:=hx c q1 q2
   have hil2:l.length<c.dl.length:=by omega
   obtain⟨⟨g0,_⟩,_,_,_,gr⟩:=Qmy q1
   obtain⟨g1,g2,g3⟩:=gr _ hil2
   rw[<- q2,<- (by omega:n=(Qa3 c.tx).length)] at g0 g1 g2 g3
   have z1:=h1.2.2.2.2 (by omega)
   have z2:=h2.2.2.2.2 (by omega)
   have z3:=h3.2.2.2.2 (by omega)
   dsimp only at z1 z2 z3
   rw[show a.toNat=11+n+17*l.length by omega,g1] at z1
   rw[show(a+1).toNat=12+n+17*l.length by omega,g2] at z2
   rw[show(a+9).toNat=20+n+17*l.length by omega,g3] at z3
   rw[Ji hil2,z1,z2,z3,Qc _ _ hil2,<- q5]
  clear h1 h2 h3
  refine⟨⟨l.length+1,a+17,l++[⟨a1,a2,a3⟩],hl2,hil,by rw[ha]; omega,hx2⟩,by dsimp only; omega,?_⟩
  exact(gc [0,1,5])
 obtain rfl:m=l.length:=by omega
 have c9:=Qqh txs htl
 have hq:smN 64 (QAj txs).1:=by
  unfold QAj
  split
  ·exact Q6 _
  split
  ·exact Q6 _
  split
  ·exact Q6 _
  ·rename_i h; exact Qgi (by simpa using h)
 have hD:∀ c,CkV c->s=QaP c->(QAj txs).1=c.tx:=fun c q1 q2=>by rw[hTX c q1 q2,QFx q1.2.2.1]
 generalize QAj txs=D at *
 obtain⟨tx,et⟩:=D
 dsimp only at hq hD
 have hX:∀ c,CkV c->s=QaP c->s.drop a.toNat=QcD c.ix:=fun c q1 q2=>by
  obtain⟨_,_,q3⟩:=hA c q1 q2
  have q4:=hM c q1 q2
  obtain⟨_,_,_,g1,_⟩:=Qmy q1
  rw[<- q2,<- (by omega:n=(Qa3 c.tx).length),<- (by omega:l.length=c.dl.length)] at g1
  rw[show a.toNat=11+n+17*l.length by omega]
  exact g1
 have ha2:0<=a/\a<=s.length:=by omega
 obtain⟨a,rfl⟩:∃ k:Nat,a=k:=⟨a.toNat,by omega⟩
 rw[Jk] at hX
 have hsl:(s.drop a).length<=100000000:=by rw[JL]; omega
 have hal:a<=s.length:=by omega
 have F:=(Ja @hb @hal)
 refine rn F ?_
 repeat' (first
  | with_reducible exact⟨⟩
  | (refine sB F ?_ ?_<;>intro hZ)
  | refine vp F (c9) ?_
  | (refine Qr (QxH _ hsl) rfl ?_; rintro⟨ix,ei⟩ hi2; refine rn F ?_))
 all_goals first | exact⟨rfl,rfl,(Cp0,_),rfl,err _ (by assumption)⟩ | skip
 unfold ixQ at hi2
 dsimp only at hi2
 have c10:=QiP ⟨pg,nx,tx,l,ix⟩ ⟨hq.mono (by decide),by dsimp only; omega,hi2.1⟩
 have F:=@hb
 refine rn F ?_
 repeat' (first
  | with_reducible exact⟨⟩
  | (refine sB F ?_ ?_<;>intro hZ)
  | (refine QwM (c10) ?_ (fun _=>rfl) ?_; (focus (refine rd F)); rintro b -; refine rn F ?_))
 all_goals first
  | exact⟨rfl,rfl,(Cp0,_),rfl,err _ (by decide)⟩
  | skip
 refine⟨rfl,rfl,(⟨pg,nx,tx,l,ix⟩,0),rfl,hq,by dsimp only; omega,hi2.1,fun _=>⟨fun h=>by rw[h] at hns; simp at hns,fun c q1 q2=>?_⟩⟩
 obtain⟨q3,q4,_⟩:=hA c q1 q2
 have q5:=hx c q1 q2
 have q6:=hD c q1 q2
 have q7:=hi2.2 (by assumption) c.ix q1.2.2.2.2.1 (hX c q1 q2)
 have q8:=hM c q1 q2
 rw[Jm (by omega)] at q5
 dsimp only
 rw[q3,q4,q6,q7,q5]
def Qq6{c:Ce}(h:c.no=true):c.data.length<=12:=by
 unfold Ce.no at h
 simp only[Jf,beq_iff_eq] at h
 rw[h.2]; exact Jc _
def Qzi{c:Ce}(h:c.okB=true):c.data.length<=12:=by
 unfold Ce.okB at h
 simp only[Jf,decide_eq_true_eq] at h
 exact h.1
def QeL{e:E}(h:e.okB=true):e.c.b.data.length<=12/\e.c.a.data.length<=12/\e.blob.length<=8192:=by
 unfold E.okB at h
 simp only[Jf] at h
 have h2:=h.2
 clear h
 unfold E.kindB at h2
 have nb:∀ {l:List UInt8},l==[]->l.length<=8192:=fun h=>by rw[beq_iff_eq] at h; rw[h]; exact Jc _
 split at h2
 ·simp only [Jf,Ch.okB] at h2
  exact⟨Qzi h2.2.1.2,Qzi h2.2.2,nb h2.1.2⟩
 split at h2
 ·simp only [Jf,Ch.okB] at h2
  exact⟨Qzi h2.2.1.2,Qzi h2.2.2,nb h2.1.1.1.2⟩
 split at h2
 ·simp only [Jf,Ch.no] at h2
  exact⟨Qq6 h2.2.1.2,Qq6 h2.2.2,nb h2.1.2⟩
 split at h2
 ·simp only [Jf,Ch.no,decide_eq_true_eq] at h2
  exact⟨Qq6 h2.2.1.2,Qq6 h2.2.2,h2.1.2⟩
 split at h2
 ·simp only [Jf,Ch.ix] at h2
  exact⟨Qq6 h2.2.1.1.1.2,Qq6 h2.2.1.1.2,nb h2.1.2⟩
 ·cases h2
def Qam(s:List UInt8)(c:Ce):List UInt8:=if c.set=true then Ql s c.data.length 1++c.data else Ql s 255 1
def QbN(s:List UInt8)(c:Ce):(Qam s c).length<=s.length+1+c.data.length:=by
 unfold Qam; split
 ·rw[Jb,Qd]; exact Jy _
 ·rw[Qd]; omega
def QlA(s:List UInt8)(hs:s.length<=100000000)(c:Ce)(hc:c.data.length<=1000000):VCalls prog 269 [.pv (.str s),.agg c.d] [] (Ret (.pv (.str (Qam s c)))):=by
 refine dd Tryz.func269 ?_
 have c1:=Q0 s (by omega) 255 1 (by omega) (by omega)
 have c2:=Q0 s (by omega) c.data.length 1 (by omega) (by omega)
 have e:Qam s c=if c.set=true then Ql s c.data.length 1++c.data else Ql s 255 1:=rfl
 have hadd:=Qdb (a:=Ql s c.data.length 1) (b:=c.data) (by rw[Qd]; omega)
 generalize Qam s c=r at *
 (unfold Tryz.f269; refine rn trivial ?_)
 have F:=@hadd
 refine rn F ?_
 repeat' (first
  | with_reducible exact⟨⟩
  | (refine sB F ?_ ?_<;>intro hZ)
  | refine vp F (c1) ?_
  | refine vp F (c2) ?_
  | (refine Qb (id:=3) [0,1,2,3,5,6] [⟨[],[],4,[1,2,5,6],[7]⟩,⟨[],[],8,[],[]⟩] (by kernel_rfl) (by kernel_rfl) ?_; refine rn F ?_))
 all_goals first | (first | (rw[e]; simp(disch:=first | assumption | omega | exact rfl | exact nf (by assumption) | exact nt (by assumption) | decide | fail) only[if_pos,if_neg]; first | done | rfl) | (rw[e]; simp(disch:=first | assumption | omega | exact rfl | exact nf (by assumption) | exact nt (by assumption) | decide | (simp_all; done) | fail) only[if_pos,if_neg]; first | done | rfl)) | skip
def Qbd(e:E):List UInt8:=Ql (Ql (Ql (Ql (Ql (Ql (Ql (Ql [] e.lsn 8) e.kind 1) e.tx 4) e.ptx 8) e.ppg 8) e.ref 8) e.c.pg 4) e.c.sl 1
def QdR(e:E):(Qbd e).length=42:=by unfold Qbd; simp only[Qd,Ju]
def Qms(e:E):List UInt8:=Ql (Qam (Qam (Qbd e) e.c.b) e.c.a) e.blob.length 4++e.blob
def Qil(e:E):List UInt8×Int:=if e.okB=true then (Qms e,0) else ([],12)
def QBP(e:E):VCalls prog 238 [.agg e.d] [] (Ret (.tup [.pv (.str (Qil e).1),.int .i64 (Qil e).2])):=by
 refine dd Tryz.func238 ?_
 have c1:=QcJ e
 unfold Qil
 cases hv:e.okB
 ·rw [hv] at c1
  (unfold Tryz.f238; refine rn trivial ?_)
  refine rn F ?_
  repeat' (first
   | with_reducible exact⟨⟩
   | refine vp F (c1) ?_)
  all_goals rfl
 rw[hv] at c1
 obtain⟨l1,l2,l3⟩:=QeL hv
 have n1:=QbN (Qbd e) e.c.b
 have n2:=QbN (Qam (Qbd e) e.c.b) e.c.a
 rw[QdR] at n1
 have p9:=QlA (Qbd e) (by rw[QdR]; omega) e.c.b (by omega)
 have p10:=QlA (Qam (Qbd e) e.c.b) (by omega) e.c.a (by omega)
 have p11:=Q0 (Qam (Qam (Qbd e) e.c.b) e.c.a) (by omega) e.blob.length 4 (by omega) (by omega)
 have hadd:=Qdb (a:=Ql (Qam (Qam (Qbd e) e.c.b) e.c.a) e.blob.length 4) (b:=e.blob) (by rw[Qd]; omega)
 have hh:Qbd e=Ql (Ql (Ql (Ql (Ql (Ql (Ql (Ql [] e.lsn 8) e.kind 1) e.tx 4) e.ptx 8) e.ppg 8) e.ref 8) e.c.pg 4) e.c.sl 1:=rfl
 have q:=fun(s:List UInt8) (hs:s.length<=1000) (n:Int) (k:Nat) (h1:1<=k) (h8:k<=8)=>Q0 s (by omega) n k h1 h8
 (unfold Tryz.f238; refine rn trivial ?_)
 have F:=@hh.symm
 refine rn F ?_
 repeat' (first
  | with_reducible exact⟨⟩
  | refine vp F (c1) ?_
  | refine vp F (q _ (by simp[Qd]) _ 8 (by omega) (by omega)) ?_
  | refine vp F (q _ (by simp[Qd]) _ 1 (by omega) (by omega)) ?_
  | refine vp F (q _ (by simp[Qd]) _ 4 (by omega) (by omega)) ?_
  | (refine Qb (id:=11) [0,1,2,3,5,6,7] [⟨[],[],4,[1,2,5,6,7],[]⟩,⟨[],[],8,[0,1,2,3,5,6],[]⟩,⟨[],[],9,[],[]⟩] (by kernel_rfl) (by kernel_rfl) ?_; refine rn F ?_))
 have F:=@hadd
 refine rn F ?_
 repeat' (first
  | with_reducible exact⟨⟩
  | refine vp F (p9) ?_
  | refine vp F (p10) ?_
  | refine vp F (p11) ?_
  | (refine Qb (id:=12) [0,1,2,3,5,6] [⟨[],[],4,[1,2,5,6],[7]⟩,⟨[],[],8,[],[]⟩,⟨[],[],9,[],[]⟩] (by kernel_rfl) (by kernel_rfl) ?_; refine rn F ?_))
 all_goals rfl
def Qmr(e:E):(Qil e).1.length<=9000:=by
 unfold Qil
 split
 ·rename_i hv
  obtain⟨l1,l2,l3⟩:=QeL hv
  have n1:=QbN (Qbd e) e.c.b
  have n2:=QbN (Qam (Qbd e) e.c.b) e.c.a
  rw[QdR] at n1
  unfold Qms
  dsimp only
  rw[Jb,Qd]
  omega
 ·exact Jc _
def Qti(e:E):VCalls prog 195 [.agg e.d] [] (Ret (.pv (.str (frm (Qil e).1)))):=by
 refine dd Tryz.func195 ?_
 have c1:=QBP e
 have hl:=Qmr e
 generalize Qil e=r at *
 have c2:=QoJ r.1 (by omega)
 (unfold Tryz.f195; refine rn trivial ?_)
 refine rn F ?_
 repeat' (first
  | with_reducible exact⟨⟩
  | refine vp F (c1) ?_
  | refine vp F (c2) ?_)
 all_goals rfl
def Qdn(n:Int):List UInt8:=frm (Ql [80,77,76,71] n 8)
def QxK(n:Int):VCalls prog 194 [.int .i64 n] [] (Ret (.pv (.str (Qdn n)))):=by
 refine dd Tryz.func194 ?_
 have c1:=Q0 [80,77,76,71] (by simp) n 8 (by omega) (by omega)
 have c2:=QoJ (Ql [80,77,76,71] n 8) (by rw[Qd]; simp)
 (unfold Tryz.f194; refine rn trivial ?_)
 refine rn F ?_
 repeat' (first
  | with_reducible exact⟨⟩
  | refine vp F (c1) ?_
  | refine vp F (c2) ?_)
 all_goals rfl
def frE(e:E):List UInt8:=frm (Qil e).1
def Qu0(e:E):(frE e).length<=9008:=by
 have:=Qmr e
 unfold frE frm
 split
 ·rw[Qd,Jb,Qd,Ju]; omega
 ·exact Jc _
def Qrm(l:List E)(d:Int):List UInt8:=(l.filter fun e=>decide (e.lsn<=d)).flatMap frE
def Qtl(l:List E)(d:Int):List UInt8:=(l.filter fun e=>!decide (e.lsn<=d)).flatMap frE
def Qvk(l:List E)(d:Int)(i:Nat)(h:i<l.length):Qrm (l.take (i+1)) d=if (l.getD i E0).lsn<=d then Qrm (l.take i) d++frE (l.getD i E0) else Qrm (l.take i) d:=by
 unfold Qrm
 rw[Ji h,JU,J6,Qc l i h]
 split<;>rename_i hx<;>simp[hx]
def Qtk(l:List E)(d:Int)(i:Nat)(h:i<l.length):Qtl (l.take (i+1)) d=if (l.getD i E0).lsn<=d then Qtl (l.take i) d else Qtl (l.take i) d++frE (l.getD i E0):=by
 unfold Qtl
 rw[Ji h,JU,J6,Qc l i h]
 split<;>rename_i hx<;>simp[hx]
def QAa (l:List E):(l.flatMap frE).length<=9008 * l.length:=by
 induction l with
 | nil=>simp
 | cons a r ih =>
   have:=Qu0 a
   rw[List.flatMap_cons,Jb,Jt]; omega
def Qpp(l:List E)(d:Int):(Qrm l d).length<=9008*l.length:=
 Jo (QAa _) (J7 _ (J1 _ _))
def QoN(l:List E)(d:Int):(Qtl l d).length<=9008*l.length:=
 Jo (QAa _) (J7 _ (J1 _ _))
def Qmf(n:Int):(Qdn n).length<=9008:=by
 unfold Qdn frm
 split
 ·rw[Qd,Jb,Qd,Qd,Ju]; simp
 ·exact Jc _
def Qdu(x:Lg)(torn:Int):List UInt8:=if lgB x=true then Qdn x.f++Qrm x.es x.d++(Qtl x.es x.d).take torn.toNat else []
def QoO(x:Lg)(hx:x.es.length<=9223372036854775807)(torn:Int):VCalls prog 152 [.agg x.c,.int .i64 torn] [] (Ret (.pv (.str (Qdu x torn)))):=by
 refine dd Tryz.func152 ?_
 have c1:=Qaj x hx
 have c2:=QxK x.f
 have hh:=Qmf x.f
 unfold Qdu
 (unfold Tryz.f152; refine rn trivial ?_)
 cases hv:lgB x
 ·rw [hv] at c1
  refine rn F ?_
  repeat' (first
   | with_reducible exact⟨⟩
   | refine vp F (c1) ?_)
  all_goals rfl
 rw[hv] at c1
 have hd:=Qat hv
 simp only[Lg.hd] at hd
 refine rn F ?_
 repeat' (first
  | with_reducible exact⟨⟩
  | refine vp F (c1) ?_
  | refine vp F (c2) ?_)
 generalize Qdn x.f=H at *
 refine Qj (fun s:To x.es.length=>⟨55,0,[(7,.int .i64 s.i),(6,.pv (.str (Qtl (x.es.take s.i) x.d))),(5,.pv (.str (H++Qrm (x.es.take s.i) x.d))),(2,.ptr 0 0),(1,.int .i64 torn)],[⟨34,true,x.c⟩]⟩) (fun s=>x.es.length-s.i) ⟨0,Jc _⟩ (by simp only[J4]; rw[show Qrm [] x.d=[] from rfl,show Qtl [] x.d=[] from rfl,JF]; exact(gc [0])) ?_
 rintro⟨i,hi⟩
 dsimp only
 have hg:=fun h:i<x.es.length=>Qkm x.es i h
 have c3:=Qti (x.es.getD i E0)
 have hf:=Qu0 (x.es.getD i E0)
 have hs1:=Qvk x.es x.d i
 have hs2:=Qtk x.es x.d i
 have l1:=Qpp (x.es.take i) x.d
 have l2:=QoN (x.es.take i) x.d
 rw[Jp] at l1 l2
 have hfr:frm (Qil (x.es.getD i E0)).1=frE (x.es.getD i E0):=rfl
 rw[hfr] at c3
 have a1:=Qdb (a:=H++Qrm (x.es.take i) x.d) (b:=frE (x.es.getD i E0)) (by rw[Jb]; omega)
 have a2:=Qdb (a:=Qtl (x.es.take i) x.d) (b:=frE (x.es.getD i E0)) (by omega)
 have hH:(H++Qrm (x.es.take i) x.d).length=H.length+(Qrm (x.es.take i) x.d).length:=Jb
 have F:=(Ja @hg (Ja @a1 @a2))
 refine rn F ?_
 repeat' (first
  | with_reducible exact⟨⟩
  | (refine sB F ?_ ?_<;>intro hZ)
  | refine vp F (c3) ?_
  | (refine Qb (id:=7) [0,1,2,3,4,5,6,7,8] [] (by kernel_rfl) (by kernel_rfl) ?_; refine rn F ?_))
 ·have d1:=hs1 (by omega)
  have d2:=hs2 (by omega)
  rw[if_pos (by first | assumption | omega)] at d1 d2
  refine⟨⟨i+1,by omega⟩,by dsimp only; omega,?_⟩
  dsimp only
  rw[d1,d2,<- Js]
  exact(gc [0])
 ·have d1:=hs1 (by omega)
  have d2:=hs2 (by omega)
  rw[if_neg (by first | assumption | omega)] at d1 d2
  refine⟨⟨i+1,by omega⟩,by dsimp only; omega,?_⟩
  dsimp only
  rw[d1,d2]
  exact(gc [0])
 ·rw [Jm (show x.es.length<=i by omega)]
  congr 3
  generalize Qtl x.es x.d=R
  by_cases h0:0 > torn
  ·rw [if_pos h0]
   rw[if_neg (by omega),show torn.toNat=(0:Int).toNat by omega]
  ·rw [if_neg h0]
   by_cases h1:(R.length:Int)<torn
   ·rw[if_pos h1,Jk,List.take_length,Jm (by omega)]
   ·rw[if_neg h1]
@[go_sem] def ltD(a:Cp×Int×Bool):DV:=.tup [.agg a.1.d,.int .i64 a.2.1,.bool a.2.2]
def QE7(h:lgB x=true):∀ i,i<x.es.length->(x.es.getD i E0).blob.length<=8192:=by
 unfold lgB at h
 simp only[Jf,Jr,Jz] at h
 intro i hi
 have:=h.2 i hi
 simp only[lgC,Jf] at this
 exact(QeL this.2).2.2
def cpQ(c:Cp):Prop:=smN 64 c.tx/\c.dl.length<=256/\c.ix.length<=64
def QGc:cpQ Cp0:=⟨Q6 _,Jc _,Jc _⟩
def QIm(x:Lg)(a:Cp×Int×Bool):Prop:=cpQ a.1/\(a.2.2=true->∃ i,i<x.es.length/\(x.es.getD i E0).kind=6/\a.2.1=(x.es.getD i E0).lsn/\(x.es.getD i E0).blob≠[]/\∀ c,CkV c->(x.es.getD i E0).blob=QaP c->a.1=c)
def Qtd(x:Lg)(hx:x.es.length<=1000000):VCalls prog 273 [.agg x.c] [] (QL ltD (QIm x)):=by
 refine dk Tryz.func273 ?_
 have c1:=Qaj x (by omega)
 (unfold Tryz.f273; refine rn trivial ?_)
 cases hv:lgB x
 ·rw [hv] at c1
  refine rn F ?_
  repeat' (first
   | with_reducible exact⟨⟩
   | refine vp F (c1) ?_)
  exact⟨rfl,rfl,(Cp0,0,false),rfl,QGc,fun h=>by simp at h⟩
 rw[hv] at c1
 have hs:=QE7 hv
 refine rn F ?_
 repeat' (first
  | with_reducible exact⟨⟩
  | refine vp F (c1) ?_)
 refine Qj (fun r:{r:To x.es.length×Int // r.2=(r.1.i:Int)-1}=>⟨47,0,[(5,.int .i64 r.1.2),(2,.ptr 1 0),(1,.ptr 0 0)],[⟨34,true,x.c⟩,⟨238,true,Zc⟩]⟩) (fun r=>r.1.1.i) ⟨(⟨x.es.length,Jy _⟩,(x.es.length:Int)-1),rfl⟩ (gc [0,1]) ?_
 rintro⟨⟨⟨k,hk⟩,j⟩,hj⟩
 dsimp only at hj |-
 unfold Zc
 by_cases h0:k=0
 ·subst h0
  have hj2:¬ j >= 0:=by omega
  have F:=@hj2
  refine rn F ?_
  exact⟨rfl,rfl,(Cp0,0,false),rfl,QGc,fun h=>by simp at h⟩
 obtain⟨i,rfl⟩:∃ i,k=i+1:=⟨k-1,by omega⟩
 obtain rfl:j=(i:Int):=by omega
 have hg:=Qkm x.es i (by omega)
 have hb:=hs i (by omega)
 have c2:=QxV (x.es.getD i E0).blob (by omega)
 have F:=@hg
 refine rn F ?_
 repeat' (first
  | with_reducible exact⟨⟩
  | (refine sB F ?_ ?_<;>intro hZ)
  | (refine Qr (c2) rfl ?_; rintro⟨c,e⟩ hc; refine rn F ?_)
  | (refine Qb (id:=9) [0,1,2,3,4,5,6] [⟨[],[],7,[1,2,3,4,5,6],[]⟩,⟨[],[],8,[],[]⟩,⟨[],[],9,[],[]⟩] (by kernel_rfl) (by kernel_rfl) ?_; refine rn F ?_))
 all_goals first
  | exact⟨⟨(⟨i,by omega⟩,(i:Int)-1),rfl⟩,by dsimp only; omega,(gc [0,1])⟩
  | exact⟨rfl,rfl,(c,_,true),rfl,⟨hc.1,hc.2.1,hc.2.2.1⟩,fun _=>⟨i,by omega,by first | assumption | omega,rfl,hc.2.2.2 (by first | assumption | (dsimp only; omega))⟩⟩
  | skip
def DyA(l:List Dt)(e:E)(ch:Bool)(y:Dt):Prop:=(y∈l/\y.pg≠e.c.pg)\/(y.pg=e.c.pg/\ch=true/\y.last=e.lsn)\/(y.pg=e.c.pg/\ch=false/\∃ z∈l,z.pg=e.c.pg/\z.last=y.last/\e.ref<z.last)
structure DyP(l:List Dt)(e:E)(ch:Bool)(i:Nat)(d:Bool)(out:List Dt):Prop where
 ha:∀ y∈out,DyA l e ch y
 hb:∀ y∈l.take i,y.pg≠e.c.pg->y∈out
 hc:d=true->ch=true->∃ y∈out,y.pg=e.c.pg
def DyP.ap(h:DyP l e ch i d out)(hi:i<l.length)(d':Bool)(ys:List Dt)(hA:∀ y∈ys,DyA l e ch y)(hx:(l.getD i Dt0).pg≠e.c.pg->l.getD i Dt0∈ys)(hd:d'=true->ch=true->d=true\/∃ y∈ys,y.pg=e.c.pg):DyP l e ch (i+1) d' (out++ys):=by
 refine⟨fun y hy=>?_,fun y hy hn=>?_,fun a b=>?_⟩
 ·rcases Jh.1 hy with hy | hy
  ·exact h.ha y hy
  ·exact hA y hy
 ·rw [Ji hi] at hy
  rcases Jh.1 hy with hy | hy
  ·exact Jl _ (h.hb y hy hn)
  ·rw [Jg.1 hy] at hn |-
   rw[Qc _ _ hi] at hx
   exact JP _ (hx hn)
 ·rcases hd a b with q | ⟨y,q1,q2⟩
  ·obtain ⟨y,q1,q2⟩:=h.hc q b
   exact⟨y,Jl _ q1,q2⟩
  ·exact⟨y,JP _ q1,q2⟩
def DyP.p0(h:DyP l e ch i d out)(hi:i<l.length)(d':Bool)(hx:(l.getD i Dt0).pg=e.c.pg)(hc:ch=false):DyP l e ch (i+1) d' out:=by
 have:=h.ap hi d' [] (fun y hy=>by simp at hy) (fun q=>absurd hx q) (fun _ b=>by rw[hc] at b; cases b)
 rwa [JF] at this
def DyP.p1(h:DyP l e ch i d out)(hi:i<l.length)(d':Bool)(y:Dt)(hA:DyA l e ch y)(hx:(l.getD i Dt0).pg≠e.c.pg->l.getD i Dt0=y)(hd:d'=true->ch=true->d=true\/y.pg=e.c.pg):DyP l e ch (i+1) d' (out++[y]):=
 h.ap hi d' [y] (fun z hz=>by rw[Jg.1 hz]; exact hA) (fun q=>by rw[hx q]; simp) fun a b=>(hd a b).imp id fun q=>⟨y,by simp,q⟩
def DyP.p2(h:DyP l e ch i d out)(hi:i<l.length)(y z:Dt)(hA:DyA l e ch y)(hB:DyA l e ch z)(hx:(l.getD i Dt0).pg≠e.c.pg->l.getD i Dt0=z)(hy:y.pg=e.c.pg):DyP l e ch (i+1) true (out++[y]++[z]):=by
 rw[Js]
 exact h.ap hi true ([y]++[z]) (fun w hw=>by
  rcases Jh.1 hw with hw | hw<;>rw[Jg.1 hw]<;>assumption) (fun q=>by rw[hx q]; simp) fun _ _=>.inr ⟨y,by simp,hy⟩
def QGa(l:List Dt)(e:E)(m:List Dt):Prop:=(¬ (e.kind=1\/e.kind=2)->e.kind≠7->m=l)/\((e.kind=1\/e.kind=2)\/e.kind=7->DyP l e (e.kind==1||e.kind==2) l.length true m)
structure DyS(l:List Dt)(e:E)(ch:Bool) where
 i:Nat
 d:Bool
 out:List Dt
 hi:i<=l.length
 ho:out.length<=i+d.toNat
 hP:DyP l e ch i d out
@[go_sem] def dtL(l:List Dt):DV:=.pv (.sl (fz QcZ l))
def QxS (l:List Dt) (hl:l.length<=1000000) (e:E):VCalls prog 274 [.pv (.sl (fz QcZ l)),.agg e.d] [] (QL dtL fun m=>m.length<=l.length + 1/\QGa l e m):=by
 refine dk Tryz.func274 ?_
 have c1:=Qcs e
 have hch:(e.kind==1||e.kind==2)=true ↔ e.kind=1\/e.kind=2:=by simp
 unfold QGa
 generalize (e.kind==1||e.kind==2)=ch at *
 cases ch
 ·have hnc:¬ (e.kind = 1\/e.kind = 2):=fun h=>by have:=hch.2 h; cases this
  (unfold Tryz.f274; refine rn trivial ?_)
  refine rn F ?_
  repeat' (first
   | with_reducible exact⟨⟩
   | (refine sB F ?_ ?_<;>intro hZ)
   | refine vp F (c1) ?_)
  all_goals first
   | (refine ⟨rfl,rfl,l,rfl,Kk _,fun _ _=>rfl,fun h=>?_⟩
      rcases h with h | h
      ·exact absurd h hnc
      ·exact absurd h (by assumption))
   | skip
  have h7:e.kind=7:=by assumption
  refine VLoop.nilOwn 5 219 3 rfl ?_
  refine Qj (fun s:DyS l e false=>⟨100,0,[(7,.int .i64 s.i),(6,.bool s.d),(5,.own 1 3 0 s.out.length),(3,.ptr 0 0),(0,.pv (.sl (fz QcZ l)))],[⟨44,true,e.d⟩,⟨219,true,cells QcZ s.out⟩]⟩) (fun s=>l.length-s.i) ⟨0,false,[],Jc _,Jc _,⟨fun y h=>by simp at h,fun y h=>by simp at h,fun h=>by cases h⟩⟩ (gc [0,1]) ?_
  rintro⟨i,d,out,hi,ho,hP⟩
  dsimp only
  have ho3:out.length<=i+1:=Jo ho (Nat.add_le_add_left (J8 d) i)
  by_cases hil:i<l.length
  rotate_left
  ·have hPl:i = l.length:=by omega
   subst hPl
   have hfin:DyP l e false l.length true out:=⟨hP.ha,hP.hb,fun _ h=>by cases h⟩
   have F:=@hil
   refine rn F ?_
   repeat' (first
    | with_reducible exact⟨⟩
    | (refine sG F ?_ ?_<;>intro hZ)
    | refine vp F (c1) ?_)
   all_goals first
    | exact⟨rfl,rfl,out,rfl,by omega,fun _ h=>absurd h7 h,fun _=>hfin⟩
    | skip
  have hg:=QeU l i hil
  have hxl:l.getD i Dt0∈l:=by rw[Qc _ _ hil]; exact Jj hil
  have hp0:=fun d' hx=>hP.p0 hil d' hx rfl
  have hp1:=fun d' y hA hx=>hP.p1 hil d' y hA hx fun _ h=>by cases h
  unfold DyA at hp1
  generalize l.getD i Dt0=x at *
  have hb1:(out.length+1)*24<=140737488355328:=Jo (JD 24 (show out.length+1<=1000002 by omega)) (by decide)
  have hb2:(out.length+1+1)*24<=140737488355328:=Jo (JD 24 (show out.length+1+1<=1000003 by omega)) (by decide)
  have ho4:∀ d':Bool,d.toNat<=d'.toNat->out.length<=i+1+d'.toNat:=fun d' h=>by omega
  have ho5:∀ d':Bool,d.toNat<=d'.toNat->∀ y:Dt,(out++[y]).length<=i+1+d'.toNat:=fun d' h y=>by rw[Jb,Jv]; omega
  have hdt:d.toNat<=1:=J8 d
  by_cases hs:x.pg=e.c.pg
  ·by_cases hr:e.ref >= x.last
   ·skip
    have F:=(Ja @hil (Ja @hg (Ja @hb1 (Ja @hb2 (Ja @hs @hr)))))
    refine rn F ?_
    repeat' (first
     | with_reducible exact⟨⟩
     | refine vp F (c1) ?_)
    all_goals exact⟨⟨i+1,true,out,by omega,ho4 true hdt,hp0 true hs⟩,by dsimp only; omega,(gc [0,1])⟩
   ·have hlt:e.ref < x.last:=by omega
    have F:=(Ja @hil (Ja @hg (Ja @hb1 (Ja @hb2 (Ja @hs @hr)))))
    refine rn F ?_
    repeat' (first
     | with_reducible exact⟨⟩
     | (refine sB F ?_ ?_<;>intro hZ)
     | refine vp F (c1) ?_)
    all_goals first
     | (refine⟨⟨i+1,true,out++[⟨e.c.pg,IntKind.i64.wrap (e.ref+1),x.last⟩],by omega,ho5 true hdt _,hp1 true _ (.inr (.inr ⟨rfl,rfl,x,hxl,hs,rfl,hlt⟩)) (fun h=>absurd hs h)⟩,by dsimp only; omega,?_⟩; dsimp only; rw[Jb]; exact(gc [0,4]))
     | (refine⟨⟨i+1,true,out++[⟨x.pg,IntKind.i64.wrap (e.ref+1),x.last⟩],by omega,ho5 true hdt _,hp1 true _ (.inr (.inr ⟨hs,rfl,x,hxl,hs,rfl,hlt⟩)) (fun h=>absurd hs h)⟩,by dsimp only; omega,?_⟩; dsimp only; rw[Jb]; exact(gc [0,4]))
     | (refine⟨⟨i+1,true,out++[⟨e.c.pg,x.rc,x.last⟩],by omega,ho5 true hdt _,hp1 true _ (.inr (.inr ⟨rfl,rfl,x,hxl,hs,rfl,hlt⟩)) (fun h=>absurd hs h)⟩,by dsimp only; omega,?_⟩; dsimp only; rw[Jb]; exact(gc [0,4]))
     | (refine⟨⟨i+1,true,out++[⟨x.pg,x.rc,x.last⟩],by omega,ho5 true hdt _,hp1 true _ (.inr (.inr ⟨hs,rfl,x,hxl,hs,rfl,hlt⟩)) (fun h=>absurd hs h)⟩,by dsimp only; omega,?_⟩; dsimp only; rw[Jb]; exact(gc [0,4]))
     | skip
  ·cases d
   ·skip
    have F:=(Ja @hil (Ja @hg (Ja @hb1 (Ja @hb2 @hs))))
    refine rn F ?_
    repeat' (first
     | with_reducible exact⟨⟩
     | (refine sG F ?_ ?_<;>intro hZ)
     | refine vp F (c1) ?_)
    all_goals
     refine⟨⟨i+1,false,out++[⟨x.pg,x.rc,x.last⟩],by omega,ho5 false (Jy _) _,hp1 false _ (.inl ⟨hxl,hs⟩) (fun _=>rfl)⟩,by dsimp only; omega,?_⟩
     dsimp only
     rw[Jb]
     exact(gc [0,4])
   ·skip
    have F:=(Ja @hil (Ja @hg (Ja @hb1 (Ja @hb2 @hs))))
    refine rn F ?_
    repeat' (first
     | with_reducible exact⟨⟩
     | (refine sG F ?_ ?_<;>intro hZ))
    all_goals
     refine⟨⟨i+1,true,out++[⟨x.pg,x.rc,x.last⟩],by omega,ho5 true (Jy _) _,hp1 true _ (.inl ⟨hxl,hs⟩) (fun _=>rfl)⟩,by dsimp only; omega,?_⟩
     dsimp only
     rw[Jb]
     exact(gc [0,4])
 have hc:e.kind=1\/e.kind=2:=hch.1 rfl
 (unfold Tryz.f274; refine rn trivial ?_)
 have F:=trivial
 refine rn F ?_
 repeat' (first
  | with_reducible exact⟨⟩
  | refine vp F (c1) ?_)
 refine VLoop.nilOwn 5 219 3 rfl ?_
 refine Qj (fun s:DyS l e true=>⟨100,0,[(7,.int .i64 s.i),(6,.bool s.d),(5,.own 1 3 0 s.out.length),(3,.ptr 0 0),(0,.pv (.sl (fz QcZ l)))],[⟨44,true,e.d⟩,⟨219,true,cells QcZ s.out⟩]⟩) (fun s=>l.length-s.i) ⟨0,false,[],Jc _,Jc _,⟨fun y h=>by simp at h,fun y h=>by simp at h,fun h=>by cases h⟩⟩ (gc [0,1]) ?_
 rintro⟨i,d,out,hi,ho,hP⟩
 dsimp only
 have hdt:d.toNat<=1:=J8 d
 have ho3:out.length<=i+1:=by omega
 have hb1:(out.length+1)*24<=140737488355328:=Jo (JD 24 (show out.length+1<=1000002 by omega)) (by decide)
 have hb2:(out.length+1+1)*24<=140737488355328:=Jo (JD 24 (show out.length+1+1<=1000003 by omega)) (by decide)
 by_cases hil:i<l.length
 rotate_left
 ·have hPl:i = l.length:=by omega
  subst hPl
  cases d
  ·have hfin:DyP l e true l.length true (out ++ [⟨e.c.pg,e.lsn,e.lsn⟩]):=⟨fun y hy=>by
    rcases Jh.1 hy with hy | hy
    ·exact hP.ha y hy
    ·rw[Jg.1 hy]; exact .inr (.inl ⟨rfl,rfl,rfl⟩),fun y hy hn=>Jl _ (hP.hb y hy hn),fun _ _=>⟨⟨e.c.pg,e.lsn,e.lsn⟩,by simp,rfl⟩⟩
   rw[Ka] at ho
   have F:=(Ja @hil @hb1)
   refine rn F ?_
   repeat' (first
    | with_reducible exact⟨⟩
    | refine vp F (c1) ?_)
   exact⟨rfl,rfl,_,rfl,by rw[Jb,Jv]; omega,fun h=>absurd hc h,fun _=>hfin⟩
  ·skip
   have F:=(Ja @hil @hb1)
   refine rn F ?_
   exact⟨rfl,rfl,out,rfl,by omega,fun h=>absurd hc h,fun _=>hP⟩
 have hg:=QeU l i hil
 have hxl:l.getD i Dt0∈l:=by rw[Qc _ _ hil]; exact Jj hil
 have hp1:=fun d' y hA hx hd=>hP.p1 hil d' y hA hx hd
 have hp2:=fun y z hA hB hx hy=>hP.p2 hil y z hA hB hx hy
 unfold DyA at hp1 hp2
 generalize l.getD i Dt0=x at *
 by_cases hs:x.pg=e.c.pg
 ·have hng:¬ x.pg > e.c.pg:=by omega
  have F:=(Ja @hil (Ja @hg (Ja @hb1 (Ja @hb2 (Ja @hs @hng)))))
  refine rn F ?_
  repeat' (first
   | with_reducible exact⟨⟩
   | refine vp F (c1) ?_)
  all_goals first
   | (refine⟨⟨i+1,true,out++[⟨e.c.pg,x.rc,e.lsn⟩],by omega,by simp; omega,hp1 true _ (.inr (.inl ⟨rfl,rfl,rfl⟩)) (fun h=>absurd hs h) (fun _ _=>.inr rfl)⟩,by dsimp only; omega,?_⟩; dsimp only; rw[Jb]; exact(gc [0,4]))
   | (refine⟨⟨i+1,true,out++[⟨x.pg,x.rc,e.lsn⟩],by omega,by simp; omega,hp1 true _ (.inr (.inl ⟨hs,rfl,rfl⟩)) (fun h=>absurd hs h) (fun _ _=>.inr hs)⟩,by dsimp only; omega,?_⟩; dsimp only; rw[Jb]; exact(gc [0,4]))
   | (exfalso; omega)
   | skip
 ·cases d
  ·by_cases hgt:x.pg > e.c.pg
   ·rw [Ka] at ho
    have F:=(Ja @hil (Ja @hg (Ja @hb1 (Ja @hb2 (Ja @hs @hgt)))))
    refine rn F ?_
    repeat' (first
     | with_reducible exact⟨⟩
     | refine vp F (c1) ?_)
    refine⟨⟨i+1,true,out++[⟨e.c.pg,e.lsn,e.lsn⟩]++[⟨x.pg,x.rc,x.last⟩],by omega,by simp; omega,hp2 _ _ (.inr (.inl ⟨rfl,rfl,rfl⟩)) (.inl ⟨hxl,hs⟩) (fun _=>rfl) rfl⟩,by dsimp only; omega,?_⟩
    dsimp only; rw[Jb,Jb]; exact(gc [0,6])
   ·skip
    have F:=(Ja @hil (Ja @hg (Ja @hb1 (Ja @hb2 (Ja @hs @hgt)))))
    refine rn F ?_
    refine⟨⟨i+1,false,out++[⟨x.pg,x.rc,x.last⟩],by omega,by rw[Jb,Jv]; omega,hp1 false _ (.inl ⟨hxl,hs⟩) (fun _=>rfl) (fun h=>by cases h)⟩,by dsimp only; omega,?_⟩
    dsimp only; rw[Jb]; exact(gc [0,4])
  ·skip
   have F:=(Ja @hil (Ja @hg (Ja @hb1 (Ja @hb2 @hs))))
   refine rn F ?_
   repeat' (first
    | with_reducible exact⟨⟩
    | (refine sG F ?_ ?_<;>intro hZ))
   all_goals
    refine⟨⟨i+1,true,out++[⟨x.pg,x.rc,x.last⟩],by omega,by rw[Jb,Jv]; omega,hp1 true _ (.inl ⟨hxl,hs⟩) (fun _=>rfl) (fun _ _=>.inl rfl)⟩,by dsimp only; omega,?_⟩
    dsimp only
    rw[Jb]
    exact(gc [0,4])
def Qtc(a b:Gr):VCalls prog 279 [.agg a.d,.agg b.d] [] (QL boD fun _=>True):=by
 refine dd Tryz.func279 ?_
 (unfold Tryz.f279; refine rn trivial ?_)
 refine rn F ?_
 repeat' (first
  | with_reducible exact⟨⟩
  | (refine sB F ?_ ?_<;>intro hZ))
 all_goals exact⟨rfl,rfl,_,rfl,trivial⟩
@[go_sem] def grL(l:List Gr):DV:=.pv (.sl (fz Qau l))
def QsN(l:List Gr)(hl:l.length<=10000000)(g:Gr):VCalls prog 275 [.pv (.sl (fz Qau l)),.agg g.d] [] (QL grL fun m=>m.length<=l.length+1):=by
 refine dk Tryz.func275 ?_
 have c1:=fun a=>Qtc a g
 (unfold Tryz.f275; refine rn trivial ?_)
 refine Qj (fun s:To l.length=>⟨44,0,[(5,.int .i64 s.i),(3,.ptr 0 0),(0,.pv (.sl (fz Qau l)))],[⟨248,true,g.d⟩]⟩) (fun s=>l.length-s.i) ⟨0,Jc _⟩ (gc [0]) ?_
 rintro⟨i,hi⟩
 dsimp only
 have hg:=fun h:i<l.length=>QaD l i h
 by_cases hil:i<l.length
 ·have hg:=QaD l i hil
  have c2:=Qtc (l.getD i Gr0) g
  generalize l.getD i Gr0=x at *
  have he:=Qv2 x.tx x.pg x.sl x.md g.tx g.pg g.sl g.md
  have hb:(i+1+(l.length-i))*32<=140737488355328:=by omega
  have F:=(Ja @hg (Ja @he @hb))
  refine rn F ?_
  repeat' (first
   | with_reducible exact⟨⟩
   | (refine sB F ?_ ?_<;>intro hZ)
   | (refine Qr (c2) rfl ?_; rintro b -; refine rn F ?_)
   | (refine Qb (id:=2) [0,1,2,3,4,5,6,7,8,9] [⟨[],[],10,[0,1,2,3,5,6,7],[11]⟩] (by kernel_rfl) (by kernel_rfl) ?_; refine rn F ?_)
   | (refine Qb (id:=4) [0,1,2,3,4,5,6,7,8,9,10,11] [] (by kernel_rfl) (by kernel_rfl) ?_; refine rn F ?_)
   | (refine Qb (id:=6) [0,1,2,4,7,8,9] [⟨[5],[],3,[0,1,4,7,8,9],[]⟩,⟨[5],[5],6,[0,1,2,4,7,8,9],[]⟩,⟨[],[],10,[0,1,2,4,7,8],[]⟩,⟨[],[],11,[],[]⟩] (by kernel_rfl) (by kernel_rfl) ?_; refine rn F ?_))
  all_goals first
   | exact⟨⟨i+1,by omega⟩,by dsimp only; omega,(gc [0])⟩
   | exact⟨rfl,rfl,l,rfl,Kk _⟩
   | exact⟨rfl,rfl,_,rfl,by simp; omega⟩
   | skip
 ·skip
  have F:=trivial
  refine rn F ?_
  repeat' (first
   | with_reducible exact⟨⟩
   | (refine Qb (id:=2) [0,1,2,3,4,5,6,7,8,9] [⟨[],[],10,[0,1,2,3,5,6,7],[11]⟩] (by kernel_rfl) (by kernel_rfl) ?_; refine rn F ?_)
   | (refine Qb (id:=4) [0,1,2,3,4,5,6,7,8,9,10,11] [] (by kernel_rfl) (by kernel_rfl) ?_; refine rn F ?_)
   | (refine Qb (id:=6) [0,1,2,4,7,8,9] [⟨[5],[],3,[0,1,4,7,8,9],[]⟩,⟨[5],[5],6,[0,1,2,4,7,8,9],[]⟩,⟨[],[],10,[0,1,2,4,7,8],[]⟩,⟨[],[],11,[],[]⟩] (by kernel_rfl) (by kernel_rfl) ?_; refine rn F ?_))
  exact⟨rfl,rfl,_,rfl,by simp; omega⟩
@[go_sem] def lkR(a:List Gr×Int):DV:=.tup [.pv (.sl (fz Qau a.1)),.int .i64 a.2]
structure LkO(n:Nat) where
 i:Nat
 out:List Gr
 hi:i<=n
 ho:out.length<=100000*i
structure LkI(n i:Nat) where
 k:Nat
 out:List Gr
 hk:k<=n
 ho:out.length<=100000*i+k
def QxA(x:Lg)(hx:x.es.length<=1000000)(l:List Tx)(hl:smN 65 l):VCalls prog 244 [.agg x.c,.pv (.sl (fz Qu l))] [] (QL lkR fun a=>a.1.length<=6500000):=by
 refine dk Tryz.func244 ?_
 have h65:=hl.1
 (unfold Tryz.f244; refine rn trivial ?_)
 refine VLoop.wkS ?_
 refine rn trivial ?_
 refine Qj (fun s:LkO l.length=>⟨68,0,[(7,.int .i64 s.i),(6,.pv (.sl (fz Qau s.out))),(2,.ptr 0 0),(1,.pv (.sl (fz Qu l)))],[⟨34,true,x.c⟩]⟩) (fun s=>l.length-s.i) ⟨0,[],Jc _,Jc _⟩ (gc [0]) ?_
 rintro⟨i,out,hi,ho⟩
 dsimp only
 by_cases hil:i<l.length
 rotate_left
 ·skip
  refine rn F ?_
  exact⟨rfl,rfl,(out,0),rfl,by dsimp only; omega⟩
 have hg:=QdZ l i hil
 have hss:(l.getD i Tx0).l.length<=100000:=by rw[Qc _ _ hil]; exact(hl.2 _ (Jj hil)).1
 generalize l.getD i Tx0=t at *
 refine rn F ?_
 refine Qj (fun s:LkI t.l.length i=>⟨68,0,[(8,.int .i64 s.k),(7,.int .i64 i),(6,.pv (.sl (fz Qau s.out))),(2,.ptr 0 0),(1,.pv (.sl (fz Qu l)))],[⟨34,true,x.c⟩]⟩) (fun s=>t.l.length-s.k) ⟨0,out,Jc _,ho⟩ (gc [0]) ?_
 rintro⟨k,out2,hk,ho2⟩
 dsimp only
 by_cases hkl:k<t.l.length
 rotate_left
 ·skip
  have F:=@hg
  refine rn F ?_
  exact⟨⟨i+1,out2,hil,by rw[Nat.mul_succ]; omega⟩,by dsimp only; omega,(gc [0])⟩
 have hg2:=QV t.l k hkl
 have c1:=QiM x (by omega) (t.l.getD k 0)
 generalize QbA x (t.l.getD k 0)=r at *
 obtain⟨e,f⟩:=r
 dsimp only at c1
 have c2:=QsN out2 (by omega) ⟨e.tx,e.c.pg,e.c.sl,2⟩
 have F:=(Ja @hg @hg2)
 refine rn F ?_
 repeat' (first
  | with_reducible exact⟨⟩
  | (refine sG F ?_ ?_<;>intro hZ)
  | (refine sB F ?_ ?_<;>intro hZ)
  | refine vp F (c1) ?_
  | (refine Qr (c2) rfl ?_; rintro m hm; refine rn F ?_)
  | (refine Qb (id:=8) [0,1,2,3,4,5,6,7,8] [⟨[13],[],9,[1,2,3,4,5,6,7],[10,11,12]⟩,⟨[13],[13],14,[12],[]⟩,⟨[],[],15,[],[]⟩] (by kernel_rfl) (by kernel_rfl) ?_; refine rn F ?_)
  | (refine Qb (id:=11) [0,1,2,3,4,5,6,7,8,9,10,11,12] [] (by kernel_rfl) (by kernel_rfl) ?_; refine rn F ?_))
 all_goals first
  | exact⟨rfl,rfl,([],_),rfl,Jc _⟩
  | exact⟨⟨k+1,m,hkl,by omega⟩,by dsimp only; omega,(gc [0])⟩
  | skip
structure An where
 pg:Int
 nx:Int
 cp:Int
 lo:List Tx
 lk:List Gr
 la:List Dt
 ix:List Rw
@[go_sem] def An.d(a:An):List DV:=[.int .i64 a.pg,.int .i64 a.nx,.int .i64 a.cp,.pv (.sl (fz Qu a.lo)),.pv (.sl (fz Qau a.lk)),.pv (.sl (fz QcZ a.la)),.pv (.sl (fz Qcl a.ix))]
def An0:An:=⟨0,0,0,[],[],[],[]⟩
def An.sm(a:An)(n:Nat):Prop:=smN 65 a.lo/\a.lk.length<=6500000/\a.la.length<=n/\a.ix.length<=64
def Qwa(n:Nat):An0.sm n:=⟨Q6 _,Jc _,Jc _,Jc _⟩
@[go_sem] def anD(a:An×Int):DV:=.tup [.agg a.1.d,.int .i64 a.2]
def Qdh(h:(QJ l e).2=0):QaF l=true/\e.okB=true:=by
 unfold QJ at h
 split at h
 ·simp at h
 rename_i q1
 split at h
 ·simp at h
 rename_i q2
 exact⟨by simpa using q1,by simpa using q2⟩
def QoY{e:E}(h:e.okB=true):0<=e.tx/\e.tx<=1073741824:=by
 unfold E.okB at h
 rw[Jf] at h
 have h2:=h.2
 unfold E.kindB txB at h2
 split at h2
 ·simp only[Jf,decide_eq_true_eq] at h2; omega
 split at h2
 ·simp only[Jf,decide_eq_true_eq] at h2; omega
 split at h2
 ·simp only[Jf,decide_eq_true_eq] at h2; omega
 split at h2
 ·simp only[Jf,beq_iff_eq] at h2; omega
 split at h2
 ·simp only[Jf,beq_iff_eq] at h2; omega
 ·cases h2
def QzZ(h:(QJ l e).2=0)(n:Int):(if IntKind.i64.wrap (e.tx+1) > n then IntKind.i64.wrap (e.tx+1) else n)=max n (e.tx+1):=by
 have:=QoY (Qdh h).2
 have hw:IntKind.i64.wrap (e.tx+1)=e.tx+1:=by rw[IntKind.wrap_i64]; omega
 rw[hw]
 split<;>omega
def NoteR(a:An)(e:E)(b:An):Prop:=b.pg=a.pg/\b.cp=a.cp/\b.nx=max a.nx (e.tx+1) /\
 ((¬ (0<e.tx/\idT a.lo e.tx<0)/\(QJ a.lo e).2=0/\b.lo=(QJ a.lo e).1)\/((0<e.tx/\idT a.lo e.tx<0)/\(QN a.lo e.tx).2=0/\(QJ (QN a.lo e.tx).1 e).2=0/\b.lo=(QJ (QN a.lo e.tx).1 e).1)) /\
 (Qbz a.ix e).2=0/\b.ix=(Qbz a.ix e).1/\((e.kind=1\/e.kind=2)->e.c.pg<a.pg)/\QGa a.la e b.la
def QEY{a:An}{e:E}(q1:¬ (0<e.tx/\idT a.lo e.tx<0))(q2:(QJ a.lo e).2=0)(q3:(Qbz a.ix e).2=0)(q4:(e.kind=1\/e.kind=2)->e.c.pg<a.pg)(la:List Dt)(q5:QGa a.la e la)(x:Int)(q6:x=if IntKind.i64.wrap (e.tx+1) > a.nx then IntKind.i64.wrap (e.tx+1) else a.nx):NoteR a e ⟨a.pg,x,a.cp,(QJ a.lo e).1,a.lk,la,(Qbz a.ix e).1⟩:=
 ⟨rfl,rfl,q6.trans (QzZ q2 _),.inl ⟨q1,q2,rfl⟩,q3,rfl,q4,q5⟩
def QEX{a:An}{e:E}(q1:0<e.tx/\idT a.lo e.tx<0)(q0:(QN a.lo e.tx).2=0)(q2:(QJ (QN a.lo e.tx).1 e).2=0)(q3:(Qbz a.ix e).2=0)(q4:(e.kind=1\/e.kind=2)->e.c.pg<a.pg)(la:List Dt)(q5:QGa a.la e la)(x:Int)(q6:x=if IntKind.i64.wrap (e.tx+1) > a.nx then IntKind.i64.wrap (e.tx+1) else a.nx):NoteR a e ⟨a.pg,x,a.cp,(QJ (QN a.lo e.tx).1 e).1,a.lk,la,(Qbz a.ix e).1⟩:=
 ⟨rfl,rfl,q6.trans (QzZ q2 _),.inr ⟨q1,q0,q2,rfl⟩,q3,rfl,q4,q5⟩
def QEZ(a:An)(n:Nat)(e:E)(r:An×Int):Prop:=r.1.sm (n+1)/\(r.2=0->NoteR a e r.1)
def Qs8(a:An)(n:Nat)(hn:n<=100000)(ha:a.sm n)(e:E):VCalls prog 243 [.agg a.d,.agg e.d] [] (QL anD (QEZ a n e)):=by
 refine dk Tryz.func243 ?_
 obtain⟨h1,h2,h3,h4⟩:=ha
 have hl:=h1.1
 have c1:=Qcc a.lo (by omega) e.tx
 have c2:=QoQ a.lo (h1.smL (by omega)) e.tx
 have c3:=Qnq a.lo (h1.smL (by omega)) e
 have hs2:=QmC (l:=a.lo) e.tx
 have hs3:=Qj8 (l:=a.lo) e
 have c4:=Qnq (QN a.lo e.tx).1 (hs2.smL (by omega)) e
 have hs4:=Qj8 (l:=(QN a.lo e.tx).1) e
 have c5:=Qlx a.ix (by omega) e
 have h5:=QlV a.ix e h4
 have c6:=Qcs e
 have c7:=QxS a.la (by omega) e
 have k1:=@QEY a e
 have k2:=@QEX a e
 have hch:(e.kind==1||e.kind==2)=true ↔ e.kind=1\/e.kind=2:=by simp
 generalize QJ (QN a.lo e.tx).1 e=N2 at *
 generalize QN a.lo e.tx=B at *
 generalize QJ a.lo e=N1 at *
 generalize Qbz a.ix e=R at *
 generalize (e.kind==1||e.kind==2)=ch at *
 generalize idT a.lo e.tx=f at *
 obtain⟨b,eb⟩:=B
 obtain⟨n1,e1⟩:=N1
 obtain⟨n2,e2⟩:=N2
 obtain⟨r,er⟩:=R
 dsimp only at *
 have old:∀ z,z≠0->QL anD (QEZ a n e) (anD (a,z)) []:=fun z hz=>⟨rfl,rfl,(a,z),rfl,⟨h1,h2,by dsimp only; omega,h4⟩,fun h=>absurd h hz⟩
 (unfold Tryz.f243; refine rn trivial ?_)
 refine rn F ?_
 repeat' (first
  | with_reducible exact⟨⟩
  | (refine sG F ?_ ?_<;>intro hZ)
  | (refine sB F ?_ ?_<;>intro hZ)
  | refine vp F (c1) ?_
  | refine vp F (c2) ?_
  | refine vp F (c3) ?_
  | refine vp F (c4) ?_
  | refine vp F (c5) ?_
  | refine vp F (c6) ?_
  | (refine Qr (c7) rfl ?_; rintro la hla; refine rn F ?_))
 all_goals first
  | exact old _ (by first | assumption | decide)
  | exact⟨rfl,rfl,(⟨a.pg,_,a.cp,b,a.lk,a.la,a.ix⟩,_),rfl,⟨hs2,h2,by dsimp only; omega,h4⟩,fun h=>absurd h (by first | assumption | (dsimp only; assumption) | (dsimp only; decide))⟩
  | exact⟨rfl,rfl,(⟨a.pg,_,a.cp,n1,a.lk,a.la,a.ix⟩,_),rfl,⟨hs3,h2,by dsimp only; omega,h4⟩,fun h=>absurd h (by first | assumption | (dsimp only; assumption) | (dsimp only; decide))⟩
  | exact⟨rfl,rfl,(⟨a.pg,_,a.cp,n1,a.lk,a.la,r⟩,_),rfl,⟨hs3,h2,by dsimp only; omega,h5⟩,fun h=>absurd h (by first | assumption | (dsimp only; assumption) | (dsimp only; decide))⟩
  | exact⟨rfl,rfl,(⟨a.pg,_,a.cp,n2,a.lk,a.la,a.ix⟩,_),rfl,⟨hs4,h2,by dsimp only; omega,h4⟩,fun h=>absurd h (by first | assumption | (dsimp only; assumption) | (dsimp only; decide))⟩
  | exact⟨rfl,rfl,(⟨a.pg,_,a.cp,n2,a.lk,a.la,r⟩,_),rfl,⟨hs4,h2,by dsimp only; omega,h5⟩,fun h=>absurd h (by first | assumption | (dsimp only; assumption) | (dsimp only; decide))⟩
  | skip
 all_goals
  have h4c:(e.kind=1\/e.kind=2)->e.c.pg<a.pg:=fun h=>by
   have hc1:=hch.2 h
   first
    | assumption
    | (exfalso; simp_all; done)
  first
   | exact⟨rfl,rfl,(⟨a.pg,_,a.cp,n1,a.lk,la,r⟩,_),rfl,⟨hs3,h2,Jo hla.1 (JY h3),h5⟩,fun _=>k1 (by omega) (by omega) (by omega) h4c la hla.2 _ rfl⟩
   | exact⟨rfl,rfl,(⟨a.pg,_,a.cp,n2,a.lk,la,r⟩,_),rfl,⟨hs4,h2,Jo hla.1 (JY h3),h5⟩,fun _=>k2 (by omega) (by omega) (by omega) (by omega) h4c la hla.2 _ rfl⟩
def QHW(x:Lg)(n:Int)(a:An):Prop:=a.pg=n/\((x.f<=1/\a.nx=1/\a.cp=0/\a.lo=[]/\a.la=[]/\a.ix=J5 n.toNat Rw0) \/
 ∃ i,i<x.es.length/\(x.es.getD i E0).kind=6/\a.cp=(x.es.getD i E0).lsn/\(x.es.getD i E0).blob≠[]/\∀ c,CkV c->(x.es.getD i E0).blob=QaP c->c.pg=n/\a.nx=c.nx/\a.lo=c.tx/\a.la=c.dl/\a.ix=c.ix)
def QIz(x:Lg)(n:Int)(r:An×Int):Prop:=r.1.sm 256/\(r.2=0->QHW x n r.1)
def Qqo (x:Lg) (hx:x.es.length<=1000000) (n:Int) (hn:1<=n/\n<=64):VCalls prog 242 [.agg x.c,.int .i64 n] [] (QL anD (QIz x n)):=by
 refine dk Tryz.func242 ?_
 have c1:=Qtd x hx
 have c2:=QoI n
 (unfold Tryz.f242; refine rn trivial ?_)
 refine rn F ?_
 repeat' (first
  | with_reducible exact⟨⟩
  | (refine sB F ?_ ?_<;>intro hZ)
  | (refine Qr (c1) rfl ?_; rintro⟨c,at_,ok⟩ hc; refine rn F ?_)
  | (refine Qr (c2) rfl ?_; rintro⟨ix,e⟩ hi; refine rn F ?_))
 all_goals first
  | exact⟨rfl,rfl,(An0,24),rfl,Qwa _,fun h=>by simp at h⟩
  | exact⟨rfl,rfl,(⟨n,1,0,[],[],[],ix⟩,0),rfl,⟨Q6 _,Jc _,Jc _,hi.1⟩,fun _=>⟨rfl,.inl ⟨by omega,rfl,rfl,rfl,rfl,hi.2.1 (hi.2.2 hn.1 hn.2)⟩⟩⟩
  | (have hl:=hc.2 (by first | assumption | (dsimp only; assumption))
     have hq:=hc.1
     dsimp only at hl hq
     obtain⟨i,l1,l2,l3,l5,l4⟩:=hl
     exact⟨rfl,rfl,(⟨n,c.nx,at_,c.tx,[],c.dl,c.ix⟩,0),rfl,⟨hq.1.mono (by decide),Jc _,hq.2.1,hq.2.2⟩,fun _=>⟨rfl,.inr ⟨i,l1,l2,l3,l5,fun c0 q1 q2=>by
      have:=l4 c0 q1 q2
      subst this
      exact⟨by first | assumption | omega,rfl,rfl,rfl,rfl⟩⟩⟩⟩)
  | skip
section
attribute [local go_sem] Quf Qwh Qzw Qw8 Qw6 QmO Qgf Qim Qdm Qcz Qa8 Qay
inductive AnC (x:Lg) (n:Int):Nat->An->Prop
 | init {a:An}:QHW x n a->AnC x n 0 a
 | skip {i:Nat} {a:An}:AnC x n i a->i<x.es.length->(x.es.getD i E0).lsn<=a.cp->AnC x n (i+1) a
 | note {i:Nat} {a b:An}:AnC x n i a->i<x.es.length->¬ (x.es.getD i E0).lsn<=a.cp->NoteR a (x.es.getD i E0) b->AnC x n (i+1) b
def loF(a:An)(lk:List Gr):An:=⟨a.pg,a.nx,a.cp,a.lo.filter fun t=>decide (0<t.n),lk,a.la,a.ix⟩
def QHv(x:Lg)(n:Int)(r:An×Int):Prop:=r.1.sm 10000/\(r.2=0->lgB x=true/\(1<=n/\n<=64)/\∃ a lk,AnC x n x.es.length a/\r.1=loF a lk)
structure AnS(x:Lg)(n:Int) where
 i:Nat
 a:An
 hi:i<=x.es.length
 ha:a.sm (256+i)
 hc:AnC x n i a
def flT(l:List Tx)(i:Nat):List Tx:=(l.take i).filter fun t=>decide (0<t.n)
def QyW(l:List Tx)(i:Nat)(h:i<l.length):flT l (i+1)=if 0<(l.getD i Tx0).n then flT l i++[l.getD i Tx0] else flT l i:=by
 unfold flT
 rw[Ji h,JU,Qc l i h]
 split<;>rename_i hx<;>simp[hx]
structure LoS(l:List Tx) where
 i:Nat
 out:List Tx
 hi:i<=l.length
 ho:out.length<=i
 hs:∀ t∈out,t.ss
 he:out=flT l i
def Za:List DV:=[.int .i64 0,.int .i64 0,.int .i64 0,.pv (.slc []),.pv (.slc []),.pv (.slc []),.pv (.slc [])]
def QmF(x:Lg)(hx:x.es.length<=4096)(n:Int)(hv:lgB x=true)(hn:1<=n/\n<=64)(a:An)(ha:a.sm 10000)(hc:AnC x n x.es.length a)(out:List Tx)(ho:smN 65 out)(he:out=a.lo.filter fun t=>decide (0<t.n)):VWp prog (QjR 8 (Qim Tryz.f197)) (QfK prog [ResultVar.cell 4 289,ResultVar.tmp 5] 0 (QL anD (QHv x n))) ⟨98,0,[(9,.pv (.sl (fz Qu out))),(6,.ptr 2 0),(4,.ptr 1 0),(2,.ptr 0 0)],[⟨34,true,x.c⟩,⟨289,true,Za⟩,⟨289,true,a.d⟩]⟩:=by
 refine QA _ _ _ ?_
 have c4:=QxA x (by omega) out ho
 unfold Za
 (unfold Tryz.f197; refine rn trivial ?_)
 refine rn F ?_
 repeat' (first
  | with_reducible exact⟨⟩
  | (refine sB F ?_ ?_<;>intro hZ)
  | (refine Qr (c4) rfl ?_; rintro⟨lk,e⟩ hlk; refine rn F ?_))
 ·exact⟨rfl,rfl,(An0,_),rfl,Qwa _,fun h=>absurd h (by first | assumption | (dsimp only; assumption))⟩
 ·exact⟨rfl,rfl,(⟨a.pg,a.nx,a.cp,out,lk,a.la,a.ix⟩,0),rfl,⟨ho,hlk,ha.2.2.1,ha.2.2.2⟩,fun _=>⟨hv,hn,a,lk,hc,by unfold loF; rw[he]⟩⟩
def Qqp(x:Lg)(hx:x.es.length<=4096)(n:Int):VCalls prog 197 [.agg x.c,.int .i64 n] [] (QL anD (QHv x n)):=by
 refine Qc8 (fn:=Tryz.f197) (c:=Qim Tryz.f197) Tryz.func197 rfl (by kernel_rfl) (by simp[Tryz.f197]) (VWp.postK ?_)
 refine QGH 8 ?_
 have tail:=fun hv hn a ha hc out ho he=>QmF x hx n hv hn a ha hc out ho he
 generalize QjR 8 (Qim Tryz.f197)=rest at *
 have c1:=Qaj x (by omega)
 have c2:=fun hn=>Qqo x (by omega) n hn
 have err:∀ z,z≠0->QL anD (QHv x n) (anD (An0,z)) []:=fun z hz=>⟨rfl,rfl,(An0,z),rfl,Qwa _,fun h=>absurd h hz⟩
 (unfold Tryz.f197; refine rn trivial ?_)
 cases hv:lgB x
 ·rw [hv] at c1
  refine rn F ?_
  repeat' (first
   | with_reducible exact⟨⟩
   | refine vp F (c1) ?_)
  exact err _ (by decide)
 rw[hv] at c1
 by_cases hn:1<=n/\n<=64
 rotate_left
 ·skip
  refine rn F ?_
  repeat' (first
   | with_reducible exact⟨⟩
   | (refine sG F ?_ ?_<;>intro hZ)
   | refine vp F (c1) ?_)
  all_goals first | exact err _ (by decide) | (exfalso; omega)
 refine rn F ?_
 repeat' (first
  | with_reducible exact⟨⟩
  | (refine sB F ?_ ?_<;>intro hZ)
  | refine vp F (c1) ?_
  | (refine Qr (c2 hn) rfl ?_; rintro⟨a0,e0⟩ h0; refine rn F ?_))
 all_goals first | exact err _ (by first | assumption | decide) | (exfalso; omega) | skip
 have h0b:=h0.2 (by first | assumption | (dsimp only; omega))
 replace h0:=h0.1
 dsimp only at h0 h0b
 refine Qj (fun s:AnS x n=>⟨98,0,[(8,.int .i64 s.i),(6,.ptr 2 0),(4,.ptr 1 0),(2,.ptr 0 0)],[⟨34,true,x.c⟩,⟨289,true,Za⟩,⟨289,true,s.a.d⟩]⟩) (fun s=>x.es.length-s.i) ⟨0,a0,Jc _,h0,.init h0b⟩ (gc [0,1,2]) ?_
 rintro⟨i,a,hi,ha,hc⟩
 dsimp only
 unfold Za
 by_cases hil:i<x.es.length
 ·have hg:=Qkm x.es i hil
  have c3:=Qs8 a (256+i) (by omega) ha (x.es.getD i E0)
  have hk1:=fun h=>AnC.skip hc hil h
  have hk2:=fun h b hb=>AnC.note (b:=b) hc hil h hb
  generalize x.es.getD i E0=e at *
  have F:=@hg
  refine rn F ?_
  repeat' (first
   | with_reducible exact⟨⟩
   | (refine sB F ?_ ?_<;>intro hZ)
   | (refine Qr (c3) rfl ?_; rintro⟨a1,e1⟩ h1; refine rn F ?_)
   | (refine Qb (id:=11) [0,1,2,3,4,5,6,7,8] [] (by kernel_rfl) (by kernel_rfl) ?_; refine rn F ?_)
   | (refine Qb (id:=12) [0,1,2,3,4,5] [⟨[],[],6,[1,2,3,4],[7,8,9]⟩,⟨[],[],10,[9],[]⟩,⟨[],[],11,[],[]⟩] (by kernel_rfl) (by kernel_rfl) ?_; refine rn F ?_))
  all_goals first
   | exact err _ (by first | assumption | decide)
   | exact⟨⟨i+1,a,hil,⟨ha.1,ha.2.1,Jn ha.2.2.1,ha.2.2.2⟩,hk1 (by omega)⟩,by dsimp only; omega,(gc [0,1,2])⟩
   | exact⟨⟨i+1,a1,hil,h1.1,hk2 (by omega) a1 (h1.2 (by first | assumption | (dsimp only; omega)))⟩,by dsimp only; omega,(gc [0,1,2])⟩
   | skip
 have F:=trivial
 refine rn F ?_
 refine VLoop.nilOwn 9 71 6 rfl ?_
 have hlo:=ha.1.1
 refine Qj (fun s:LoS a.lo=>⟨98,0,[(10,.int .i64 s.i),(9,.own 3 6 0 s.out.length),(6,.ptr 2 0),(4,.ptr 1 0),(2,.ptr 0 0)],[⟨34,true,x.c⟩,⟨289,true,Za⟩,⟨289,true,a.d⟩,⟨71,true,cells Qu s.out⟩]⟩) (fun s=>a.lo.length-s.i) ⟨0,[],Jc _,Jc _,fun t h=>by simp at h,rfl⟩ (gc [0,1,2,3]) ?_
 rintro⟨k,out,hk,ho,hs,he⟩
 dsimp only
 unfold Za
 by_cases hkl:k<a.lo.length
 ·have hg:=QdZ a.lo k hkl
  have hss:(a.lo.getD k Tx0).ss:=by rw[Qc _ _ hkl]; exact ha.1.2 _ (Jj hkl)
  have hb:(out.length+1)*80<=140737488355328:=Jo (JD 80 (show out.length+1<=1000 by omega)) (by decide)
  have hsu:=QyW a.lo k hkl
  rw[<- he] at hsu
  generalize a.lo.getD k Tx0=t at *
  have F:=(Ja @hg @hb)
  refine rn F ?_
  repeat' (first
   | with_reducible exact⟨⟩
   | (refine sB F ?_ ?_<;>intro hZ))
  ·have hl2:(out ++ [t]).length = out.length + 1:=by simp
   rw[if_pos (by omega)] at hsu
   refine⟨⟨k+1,out++[t],hkl,by rw[hl2]; omega,fun z hz=>?_,hsu.symm⟩,by dsimp only; omega,?_⟩
   ·rcases Jh.1 hz with h | h
    ·exact hs z h
    ·rw[Jg.1 h]; exact hss
   dsimp only
   rw[hl2]
   exact(gc [0,1,2,5])
  ·rw [if_neg (by omega)] at hsu
   exact⟨⟨k+1,out,hkl,by omega,hs,hsu.symm⟩,by dsimp only; omega,(gc [0,1,2,3])⟩
 have hsm:smN 65 out:=⟨by omega,hs⟩
 have F:=trivial
 refine rn F ?_
 refine⟨⟨98,0,[(9,.pv (.sl (fz Qu out))),(6,.ptr 2 0),(4,.ptr 1 0),(2,.ptr 0 0)],[⟨34,true,x.c⟩,⟨289,true,Za⟩,⟨289,true,a.d⟩]⟩,.fzN (n:=3) ⟨rfl,rfl,Jc _,by simp,?_,?_⟩,tail hv hn a (by have:=ha; exact⟨this.1,this.2.1,Jo this.2.2.1 (by omega),this.2.2.2⟩) (by rw[show x.es.length=i by omega]; exact hc) out hsm (by rw[he]; unfold flT; rw[Jm (by omega)])⟩
 ·rfl
 ·refine ⟨?_,rfl,rfl,rfl,trivial⟩
  (refine rn trivial ?_; try with_reducible exact⟨⟩)
end
section
attribute [local go_sem] Qbo
structure Rd where
 tx:Int
 pg:Int
 sl:Int
 at_:Int
 cell:Ce
def QmP:Enc Rd:=⟨6,fun r=>[.lit (.int .i64 r.tx),.lit (.int .i64 r.pg),.lit (.int .i64 r.sl),.lit (.int .i64 r.at_),.lit (.bool r.cell.set),.str r.cell.data],by decide,fun _=>rfl⟩
def QHN(l:List Rd):(cells QmP l).length=l.length*6:=Qo QmP l
def QIG(l:List Rd)(n:Nat)(h:l.length*6<=n):(cells QmP l).take n=cells QmP l:=by rw[Jm]; rw[QHN]; exact h
def QIt(h:l.length=len):Qpi n hp 0 6 len (some (cells QmP l))=some (.sl (fz QmP l)):=Qac QmP h
def QHs(l:List Rd)(a b c d:Int)(x:Bool)(s:List UInt8):cells QmP l++[.pv (.lit (.int .i64 a)),.pv (.lit (.int .i64 b)),.pv (.lit (.int .i64 c)),.pv (.lit (.int .i64 d)),.pv (.lit (.bool x)),.pv (.str s)]=cells QmP (l++[⟨a,b,c,d,⟨x,s⟩⟩]):=by rw[QD]; rfl
attribute [go_sem] QHN QIG QIt QHs
structure Sp where
 kind:Int
 tx:Int
 pg:Int
 torn:Int
 cut:Int
 a:Ac
@[go_sem] def Sp.d(t:Sp):List DV:=[.int .i64 t.kind,.int .i64 t.tx,.int .i64 t.pg,.int .i64 t.torn,.int .i64 t.cut,.int .i64 t.a.kind,.int .i64 t.a.pg,.int .i64 t.a.sl,.pv (.str t.a.data)]
structure Sc where
 s:Sv
 tx:List Int
 rd:List Rd
 dead:Bool
def Sc.sm(c:Sc)(n:Nat):Prop:=c.s.sm/\c.tx.length<=n/\c.rd.length<=n
@[go_sem] def scB(c:Sc)(i j:Nat):Blk:=⟨171,true,c.s.d++[.own i 1 0 c.tx.length,.own j 6 0 c.rd.length,.bool c.dead]⟩
@[go_sem] def scT(l:List Int):Blk:=⟨3,true,cells Qx l⟩
@[go_sem] def scR(l:List Rd):Blk:=⟨204,true,cells QmP l⟩
@[go_sem] def Qvt:Blk:=⟨3,false,[]⟩
@[go_sem] def QqV:Blk:=⟨204,false,[]⟩
def ScEnd{α:Type}(f:α->DV)(Q:Nat->Sc->α->Prop):DV->Qa->Prop:=fun r h'=>∃ c a B,r=f a/\(f a).nums (fun _=>false)=true/\((Q 0 c a/\h'=scB c 1 2::scT c.tx::scR c.rd::[B])\/(Q 1 c a/\h'=scB c 3 2::Qvt::scR c.rd::scT c.tx::[B])\/(Q 2 c a/\h'=scB c 1 3::scT c.tx::QqV::scR c.rd::[B]))
def ScEnd.mono(h:∀ n c a,Q n c a->Q' n c a):∀ r h',ScEnd f Q r h'->ScEnd f Q' r h'
 | _,_,⟨c,a,B,e1,e2,.inl ⟨q,e⟩⟩=>⟨c,a,B,e1,e2,.inl ⟨h _ _ _ q,e⟩⟩
 | _,_,⟨c,a,B,e1,e2,.inr (.inl ⟨q,e⟩)⟩=>⟨c,a,B,e1,e2,.inr (.inl ⟨h _ _ _ q,e⟩)⟩
 | _,_,⟨c,a,B,e1,e2,.inr (.inr ⟨q,e⟩)⟩=>⟨c,a,B,e1,e2,.inr (.inr ⟨h _ _ _ q,e⟩)⟩
def Qk3(k0 k1 k2:Nat)(cc:VCalls P g args0 [scB c 1 2,scT c.tx,scR c.rd] (ScEnd f Q))(hk0:hp[k0]?=some (scB c k1 k2))(hk1:hp[k1]?=some (scT c.tx))(hk2:hp[k2]?=some (scR c.rd))(n01:k0≠k1)(n02:k0≠k2)(n12:k1≠k2)(ha0:args0=args.map (DV.ren fun j=>[k0,k1,k2].idxOf j))(ha:DV.nums.go [k0,k1,k2].contains args=true)(hN:∀ c a,Q 0 c a->∀ B,K (f a) (((hp.set k0 (scB c k1 k2)).set k1 (scT c.tx)).set k2 (scR c.rd)++[B]))(hT:∀ c a,Q 1 c a->∀ B,K (f a) (((hp.set k0 (scB c hp.length k2)).set k1 Qvt).set k2 (scR c.rd)++scT c.tx::[B]))(hR:∀ c a,Q 2 c a->∀ B,K (f a) (((hp.set k0 (scB c k1 hp.length)).set k1 (scT c.tx)).set k2 QqV++scR c.rd::[B])):VCalls P g args hp K:=by
 have l0:k0<hp.length:=(JK.1 hk0).1
 have l1:k1<hp.length:=(JK.1 hk1).1
 have l2:k2<hp.length:=(JK.1 hk2).1
 have q1:(k0==k1)=false:=by simp[n01]
 have q2:(k0==k2)=false:=by simp[n02]
 have q3:(k1==k2)=false:=by simp[n12]
 have rt:∀ (σ:Nat->Nat) l,QcV σ (scT l)=scT l:=fun σ l=>QaW (Qg _ _ _)
 have rr:∀ (σ:Nat->Nat) l,QcV σ (scR l)=scR l:=fun σ l=>QaW (Qg _ _ _)
 have rs:∀ (σ:Nat->Nat) (c:Sc) i j,QcV σ (scB c i j)=scB c (σ i) (σ j):=fun σ c i j=>rfl
 have i0:[k0,k1,k2].idxOf k0=0:=by simp
 have i1:[k0,k1,k2].idxOf k1=1:=by simp[Kd,q1]
 have i2:[k0,k1,k2].idxOf k2=2:=by simp[Kd,q2,q3]
 refine(VCalls.frame [k0,k1,k2] (by simp[n01,n02,n12]) ?_ ?_ cc ha0 ha).mono ?_
 ·simp only[Ql2,J9,List.map_nil,hk0,hk1,hk2,Option.map_some,Qi,rt,rr,rs,i1,i2]
 ·unfold QiS
  rw[Jr]
  intro k hk
  simp only[Kf,List.not_mem_nil,or_false] at hk
  rcases hk with rfl | rfl | rfl
  ·rw [hk0]
   simp[scB,Sv.d,DV.nums,DV.nums.go]
  ·rw [hk1]
   dsimp only
   rw[show(scT c.tx).cells=cells Qx c.tx from rfl,QZ _ _ (Qg _ _ _)]; simp
  ·rw [hk2]
   dsimp only
   rw[show(scR c.rd).cells=cells QmP c.rd from rfl,QZ _ _ (Qg _ _ _)]; simp
 ·rintro r h2 ⟨r0,h',⟨c1,a,B,rfl,hn,e⟩,-,rfl,rfl⟩
  rw[Qd5 _ _ hn]
  have b1:back [k0,k1,k2] hp.length 1=k1:=rfl
  have b2:back [k0,k1,k2] hp.length 2=k2:=rfl
  have b3:back [k0,k1,k2] hp.length 3=hp.length:=rfl
  have rI:∀ (σ:Nat->Nat),QcV σ Qvt=Qvt:=fun σ=>rfl
  have rO:∀ (σ:Nat->Nat),QcV σ QqV=QqV:=fun σ=>rfl
  rcases e with⟨q,rfl⟩ | ⟨q,rfl⟩ | ⟨q,rfl⟩<;>rw[QmB l0 l1 l2 n01 n02 n12]
  ·rw[rs,rt,rr,b1,b2]; exact hN c1 a q _
  ·rw[rs,rI,rr,b2,b3,J9,rt]; exact hT c1 a q _
  ·rw[rs,rt,rO,b1,b3,J9,rr]; exact hR c1 a q _
def Qf8(e:Int):Rs:=if e=0 then ⟨1,0,0,Ce0,0⟩ else QaC e
def QeD(e:Int):VCalls prog 115 [.int .i64 e] [] (Ret (.agg (Qf8 e).d)):=by
 refine dd Tryz.func115 ?_
 have c1:=Qah e
 (unfold Tryz.f115; refine rn trivial ?_)
 unfold Qf8
 refine rn F ?_
 repeat' (first
  | with_reducible exact⟨⟩
  | (refine sB F ?_ ?_<;>intro hZ)
  | refine vp F (c1) ?_)
 all_goals first
  | (rw[if_pos (by assumption)]; first | done | rfl)
  | (rw[if_neg (by assumption)]; first | done | rfl)
@[go_sem] def rsD(r:Rs):DV:=.agg r.d
def Qg1(c:Sc)(s:Sv)(e:Int):VCalls prog 111 [.ptr 0 0,.agg s.d,.int .i64 e] [scB c 1 2,scT c.tx,scR c.rd] (ScEnd rsD fun n c' r=>n=0/\c'=⟨if e=0 then s else c.s,c.tx,c.rd,c.dead⟩/\r=Qf8 e):=by
 refine QT (fn:=Tryz.f111) Tryz.func111 rfl (by kernel_rfl) (by simp[Tryz.f111]) ?_
 have c1:=QeD e
 (unfold Tryz.f111; refine rn trivial ?_)
 refine rn F ?_
 repeat' (first
  | with_reducible exact⟨⟩
  | (refine sB F ?_ ?_<;>intro hZ)
  | refine vp F (c1) ?_)
 ·exact QI ⟨15,3,[(6,.ptr 3 0)],[scB ⟨s,c.tx,c.rd,c.dead⟩ 1 2,scT c.tx,scR c.rd,⟨173,true,(Qf8 e).d⟩]⟩ (gc [0,1,2,4]) ⟨⟨s,c.tx,c.rd,c.dead⟩,Qf8 e,_,rfl,rfl,.inl ⟨⟨rfl,by rw[if_pos (by assumption)],rfl⟩,rfl⟩⟩
 ·exact QI ⟨15,3,[(6,.ptr 3 0)],[scB c 1 2,scT c.tx,scR c.rd,⟨173,true,(Qf8 e).d⟩]⟩ (gc [0,1,2,4]) ⟨c,Qf8 e,_,rfl,rfl,.inl ⟨⟨rfl,by rw[if_neg (by assumption)],rfl⟩,rfl⟩⟩
end
section
attribute [local go_sem] Qbo
def scQ(c:Sc)(n m:Nat)(c':Sc)(_:Rs):Prop:=m≠1/\c'.sm n/\c'.dead=c.dead/\Str 1 c.s.k c'.s.k
def Qxf(c:Sc)(n:Nat)(hc:c.sm n)(r:Rs):scQ c (n+1) 0 c r:=⟨by decide,⟨hc.1,Jn hc.2.1,Jn hc.2.2⟩,rfl,Str.refl _⟩
def QEP (c:Sc) (n:Nat) (hn:n<=2000) (hc:c.sm n) (t:Sp):VCalls prog 112 [.ptr 0 0,.agg t.d] [scB c 1 2,scT c.tx,scR c.rd] (ScEnd rsD (scQ c (n + 1))):=by
 refine QT (fn:=Tryz.f112) Tryz.func112 rfl (by kernel_rfl) (by simp[Tryz.f112]) ?_
 have c1:=Qah 16
 have hq0:=Qxf c n hc
 have h1:=hc.2.1
 have h2:=hc.2.2
 by_cases h0:∃ i:Nat,i<c.tx.length/\t.tx=i+1
 rotate_left
 ·have h3:t.tx < 1\/c.tx.length < t.tx:=by
   by_cases ha:t.tx<1
   ·exact .inl ha
   ·by_cases hb:c.tx.length < t.tx
    ·exact .inr hb
    ·exact absurd ⟨(t.tx-1).toNat,by omega,by omega⟩ h0
  (unfold Tryz.f112; refine rn trivial ?_)
  refine rn F ?_
  repeat' (first
   | with_reducible exact⟨⟩
   | (refine sG F ?_ ?_<;>intro hZ)
   | refine vp F (c1) ?_
   | (refine Qb (id:=1) [0,1,2,3,4,5,6,7,8,9,10,11,12,13,14,15,16,17,18,19,20,21,22,23,24] [] (by kernel_rfl) (by kernel_rfl) ?_; refine rn F ?_))
  all_goals first
   | (exfalso; omega)
   | exact QI ⟨95,3,[(4,.ptr 3 0)],[scB c 1 2,scT (Sc.tx c),scR (Sc.rd c),⟨173,true,Rs.d (QaC 16)⟩]⟩ (gc [0,1,2,4]) ⟨c,QaC 16,_,rfl,rfl,.inl ⟨hq0 _,rfl⟩⟩
   | skip
 obtain⟨i,hi,ht⟩:=h0
 have hg:=QdX c.tx i hi
 have d1:=QEF c.s hc.1 (c.tx.getD i 0) t.a
 have e1:(↑i+1-1:Int)=↑i:=by omega
 have hlt:(i<c.tx.length)=True:=eq_true hi
 (unfold Tryz.f112; refine rn trivial ?_)
 simp only[ht]
 have F:=(Ja @hg (Ja @e1 @hlt))
 refine rn F ?_
 repeat' (first
  | with_reducible exact⟨⟩
  | (refine sG F ?_ ?_<;>intro hZ)
  | (refine sB F ?_ ?_<;>intro hZ)
  | refine vp F (c1) ?_
  | (refine Qr (d1) rfl ?_; rintro⟨s2,r2⟩ hq; refine rn F ?_)
  | refine vp F (Qgk s2.k.lg (Jo hq.1.1.1 (by decide))) ?_
  | (refine Qb (id:=1) [0,1,2,3,4,5,6,7,8,9,10,11,12,13,14,15,16,17,18,19,20,21,22,23,24] [] (by kernel_rfl) (by kernel_rfl) ?_; refine rn F ?_)
  | (refine Qb (id:=3) [0,1,2,3,4,5,6,7,8] [⟨[],[],9,[],[]⟩] (by kernel_rfl) (by kernel_rfl) ?_; refine rn F ?_)
  | (refine Qb (id:=4) [0,1,2,3,4,5,6] [⟨[11,12],[],7,[0,1,2,5],[8,9,10]⟩,⟨[11,12],[11],13,[10],[]⟩,⟨[12],[12],14,[],[]⟩] (by kernel_rfl) (by kernel_rfl) ?_; refine rn F ?_)
  | (refine Qb (id:=9) [0,1,2,3,4,5,6,7,8,9,10,11,12,13,14,16,17] [⟨[],[],15,[0,1,2,3,4,5,6,7,8,9,10,11,12,13,16,17],[18]⟩,⟨[19],[19],20,[0,1,2,3,5,6,7,8,9,10,11,12,13,14,16,17,18],[21,22]⟩,⟨[],[],23,[21],[]⟩] (by kernel_rfl) (by kernel_rfl) ?_; refine rn F ?_))
 all_goals first
  | exact QI ⟨95,3,[(4,.ptr 3 0)],[scB c 1 2,scT (Sc.tx c),scR (Sc.rd c),⟨173,true,Rs.d (QaC 16)⟩]⟩ (gc [0,1,2,4]) ⟨c,QaC 16,_,rfl,rfl,.inl ⟨hq0 _,rfl⟩⟩
  | exact QI ⟨95,3,[(4,.ptr 3 0)],[scB c 1 2,scT (Sc.tx c),scR (Sc.rd c),⟨173,true,Rs.d (r2)⟩]⟩ (gc [0,1,2,4]) ⟨c,r2,_,rfl,rfl,.inl ⟨hq0 _,rfl⟩⟩
  | exact QI ⟨95,3,[(4,.ptr 3 0)],[scB ⟨s2,c.tx,c.rd,c.dead⟩ 1 2,scT (Sc.tx ⟨s2,c.tx,c.rd,c.dead⟩),scR (Sc.rd ⟨s2,c.tx,c.rd,c.dead⟩),⟨173,true,Rs.d (r2)⟩]⟩ (gc [0,1,2,4]) ⟨⟨s2,c.tx,c.rd,c.dead⟩,r2,_,rfl,rfl,.inl ⟨⟨by decide,⟨hq.1,by dsimp only; omega,by dsimp only; omega⟩,rfl,hq.2.2 (by dsimp only; omega)⟩,rfl⟩⟩
  | skip
 have hl:(c.rd++[(⟨c.tx.getD i 0,t.a.pg,t.a.sl,Qho s2.k.lg,r2.cell⟩:Rd)]).length=c.rd.length+1:=by simp
 generalize hr:c.rd++[(⟨c.tx.getD i 0,t.a.pg,t.a.sl,Qho s2.k.lg,r2.cell⟩:Rd)]=rd at *
 rw[<- hl]
 exact QI ⟨95,3,[(4,.ptr 4 0)],[scB ⟨s2,c.tx,rd,c.dead⟩ 1 3,scT c.tx,QqV,scR rd,⟨173,true,r2.d⟩]⟩ (gc [0,1,2,8,4]) ⟨⟨s2,c.tx,rd,c.dead⟩,r2,_,rfl,rfl,.inr (.inr ⟨⟨by decide,⟨hq.1,by dsimp only; omega,by dsimp only; omega⟩,rfl,hq.2.2 (by dsimp only; omega)⟩,rfl⟩)⟩
end
section
attribute [local go_sem] Qbo
def scI(I:Nat->Kn->Prop)(c:Sc)(n _:Nat)(c':Sc)(_:Rs):Prop:=c'.sm n/\∀ m,I m c.s.k->I (m+1) c'.s.k
abbrev Qrp(I:Nat->Kn->Prop):Prop:=∀ n m k k',Str m k k'->I n k->I (n+m) k'
def QoA(I:Nat->Kn->Prop)(hI:Qrp I)(c:Sc)(n:Nat)(hc:c.sm n)(r:Rs):scI I c (n+1) 0 c r:=⟨⟨hc.1,Jn hc.2.1,Jn hc.2.2⟩,fun m=>hI m 1 _ _ (Str.refl _)⟩
abbrev QhP(I:Nat->Kn->Prop)(c:Sc)(n:Nat)(t:Sp):Prop:=VCalls prog 94 [.ptr 0 0,.agg t.d] [scB c 1 2,scT c.tx,scR c.rd] (ScEnd rsD (scI I c (n+1)))
def QqK(k:Kn)(h:(Qaa k.lg n).2=0):Str 1 k ⟨k.pg,k.nx,(Qaa k.lg n).1,k.pl,k.lk,k.tx,k.ix,k.la⟩:=by
 have qf:=Stp.force (k:=k) (Qaa k.lg n).1.d fun hv=>by
  have:=(Qml h).ok hv
  rw[QeV h] at this
  exact this
 rw[<- QeV h] at qf
 exact(Str.one qf).mono (by omega)
def Quo(I:Nat->Kn->Prop)(hI:Qrp I){s s2:Sv}{e:Int}(hs:s.sm)(hq:s2.sm/\(e=0->Str 1 s.k s2.k)):(if e=0 then s2 else s).sm/\(∀ m,I m s.k->I (m+1) (if e=0 then s2 else s).k):=by
 split
 ·rename_i h; exact⟨hq.1,fun m=>hI m 1 _ _ (hq.2 h)⟩
 ·exact⟨hs,fun m=>hI m 1 _ _ (Str.refl _)⟩
def Qxo(I:Nat->Kn->Prop)(hI:Qrp I)(c:Sc)(n:Nat)(hn:n<=2000)(hc:c.sm n)(t:Sp)(ht:t.kind=3):QhP I c n t:=by
 refine QT (fn:=Tryz.f94) Tryz.func94 rfl (by kernel_rfl) (by simp[Tryz.f94]) ?_
 obtain⟨k,tx,pg,torn,cut,a⟩:=t
 dsimp only at ht
 subst ht
 have c1:=QsY c.s hc.1 pg
 (unfold Tryz.f94; refine rn trivial ?_)
 refine rn F ?_
 repeat' (first
  | with_reducible exact⟨⟩
  | (refine Qr (c1) rfl ?_; rintro⟨s2,e2⟩ hq; refine rn F ?_)
  | (refine Qbh (id:=12) [[],[],[1],[1,2],[1,2,3],[],[5],[1,2,3,4,5,6],[1,2,3,4,5,6,7],[1,2,3,4,5,6,7],[0,1,2,3,4,5,6,7,8,9],[0,1,2,3,4,5,6,7,8,9,10]] [0,1,2,3,4,5,6] [⟨[],[],7,[0],[8,9]⟩,⟨[],[],10,[],[]⟩,⟨[],[],11,[],[]⟩] (by kernel_rfl) (by kernel_rfl) (by kernel_rfl) ?_; refine rn F ?_))
 refine Qk3 (c:=c) 0 1 2 (Qg1 c s2 e2) rfl rfl rfl (by decide) (by decide) (by decide) rfl rfl ?_ (fun _ _ h=>absurd h.1 (by decide)) (fun _ _ h=>absurd h.1 (by decide))
 rintro _ _ ⟨-,rfl,rfl⟩ B
 obtain⟨k1,k2⟩:=Quo I hI hc.1 ⟨hq.1,fun h=>(hq.2 h).mono (by omega)⟩
 generalize (if e2=0 then s2 else c.s)=s' at *
 refine rn trivial ?_
 exact QI ⟨132,3,[(4,.ptr 3 0)],[scB ⟨s',c.tx,c.rd,c.dead⟩ 1 2,scT (Sc.tx ⟨s',c.tx,c.rd,c.dead⟩),scR (Sc.rd ⟨s',c.tx,c.rd,c.dead⟩),⟨173,true,Rs.d (Qf8 e2)⟩]⟩ (gc [0,1,2,4]) ⟨⟨s',c.tx,c.rd,c.dead⟩,Qf8 e2,_,rfl,rfl,.inl ⟨⟨⟨k1,Jn hc.2.1,Jn hc.2.2⟩,k2⟩,rfl⟩⟩
def Qxn(I:Nat->Kn->Prop)(hI:Qrp I)(c:Sc)(n:Nat)(hn:n<=2000)(hc:c.sm n)(t:Sp)(ht:t.kind=4):QhP I c n t:=by
 refine QT (fn:=Tryz.f94) Tryz.func94 rfl (by kernel_rfl) (by simp[Tryz.f94]) ?_
 obtain⟨k,tx,pg,torn,cut,a⟩:=t
 dsimp only at ht
 subst ht
 have c1:=Qs1 c.s hc.1
 (unfold Tryz.f94; refine rn trivial ?_)
 refine rn F ?_
 repeat' (first
  | with_reducible exact⟨⟩
  | (refine Qr (c1) rfl ?_; rintro⟨s2,n2,e2⟩ hq; refine rn F ?_))
 refine Qk3 (c:=c) 0 1 2 (Qg1 c s2 e2) rfl rfl rfl (by decide) (by decide) (by decide) rfl rfl ?_ (fun _ _ h=>absurd h.1 (by decide)) (fun _ _ h=>absurd h.1 (by decide))
 rintro _ _ ⟨-,rfl,rfl⟩ B
 obtain⟨k1,k2⟩:=Quo I hI hc.1 hq
 generalize (if e2=0 then s2 else c.s)=s' at *
 refine rn trivial ?_
 exact QI ⟨132,3,[(4,.ptr 3 0)],[scB ⟨s',c.tx,c.rd,c.dead⟩ 1 2,scT (Sc.tx ⟨s',c.tx,c.rd,c.dead⟩),scR (Sc.rd ⟨s',c.tx,c.rd,c.dead⟩),⟨173,true,Rs.d (Qf8 e2)⟩]⟩ (gc [0,1,2,4]) ⟨⟨s',c.tx,c.rd,c.dead⟩,Qf8 e2,_,rfl,rfl,.inl ⟨⟨⟨k1,Jn hc.2.1,Jn hc.2.2⟩,k2⟩,rfl⟩⟩
def Qxk(I:Nat->Kn->Prop)(hI:Qrp I)(c:Sc)(n:Nat)(hn:n<=2000)(hc:c.sm n)(t:Sp)(ht:t.kind=7):QhP I c n t:=by
 refine QT (fn:=Tryz.f94) Tryz.func94 rfl (by kernel_rfl) (by simp[Tryz.f94]) ?_
 obtain⟨k,tx,pg,torn,cut,a⟩:=t
 dsimp only at ht
 subst ht
 have c1:=QBp c.s hc.1
 (unfold Tryz.f94; refine rn trivial ?_)
 refine rn F ?_
 repeat' (first
  | with_reducible exact⟨⟩
  | (refine Qr (c1) rfl ?_; rintro⟨s2,n2,e2⟩ hq; refine rn F ?_))
 refine Qk3 (c:=c) 0 1 2 (Qg1 c s2 e2) rfl rfl rfl (by decide) (by decide) (by decide) rfl rfl ?_ (fun _ _ h=>absurd h.1 (by decide)) (fun _ _ h=>absurd h.1 (by decide))
 rintro _ _ ⟨-,rfl,rfl⟩ B
 obtain⟨k1,k2⟩:=Quo I hI hc.1 ⟨hq.1,fun h=>(hq.2 h).mono (by omega)⟩
 generalize (if e2=0 then s2 else c.s)=s' at *
 refine rn trivial ?_
 exact QI ⟨132,3,[(4,.ptr 3 0)],[scB ⟨s',c.tx,c.rd,c.dead⟩ 1 2,scT (Sc.tx ⟨s',c.tx,c.rd,c.dead⟩),scR (Sc.rd ⟨s',c.tx,c.rd,c.dead⟩),⟨173,true,Rs.d (Qf8 e2)⟩]⟩ (gc [0,1,2,4]) ⟨⟨s',c.tx,c.rd,c.dead⟩,Qf8 e2,_,rfl,rfl,.inl ⟨⟨⟨k1,Jn hc.2.1,Jn hc.2.2⟩,k2⟩,rfl⟩⟩
def Qxm(I:Nat->Kn->Prop)(hI:Qrp I)(c:Sc)(n:Nat)(hn:n<=2000)(hc:c.sm n)(t:Sp)(ht:t.kind=5):QhP I c n t:=by
 refine QT (fn:=Tryz.f94) Tryz.func94 rfl (by kernel_rfl) (by simp[Tryz.f94]) ?_
 obtain⟨k,tx,pg,torn,cut,a⟩:=t
 dsimp only at ht
 subst ht
 have c1:=Qgk c.s.k.lg (Jo hc.1.1.1 (by decide))
 have c2:=QjQ c.s.k.lg (Jo hc.1.1.1 (by decide)) (Qho c.s.k.lg)
 have c3:=fun e=>QeD e
 (unfold Tryz.f94; refine rn trivial ?_)
 refine rn F ?_
 repeat' (first
  | with_reducible exact⟨⟩
  | (refine sB F ?_ ?_<;>intro hZ)
  | refine vp F (c1) ?_
  | refine vp F (c2) ?_
  | refine vp F (c3 _) ?_
  | (refine Qbh (id:=17) [[],[0],[0,1],[0,1,2],[0,1,2,3],[0,1,2,3,4],[],[6],[6,7],[6,7,8],[6,7,8,9],[6,7,8,9,10],[6,7,8,9,10,11],[0,1,2,3,4,5,6,7,8,9,10,11,12],[0,1,2,3,4,5,6,7,8,9,10,11,12,13],[0,1,2,3,4,5,6,7,8,9,10,11,12,13,14],[0,1,2,3,4,5,6,7,8,9,10,11,12,13,14],[],[0,1,2,3,4,5,6,7,8,9,10,11,12,13,14,15,17],[0,1,2,3,4,5,6,7,8,9,10,11,12,13,14,15,16,17,18]] [0,1,2,3,4,5,6,7,8,9,10,11] [⟨[17],[],12,[0,1,2,3,4,5],[]⟩,⟨[17],[],13,[],[14,15,16]⟩,⟨[17],[17],18,[16],[]⟩,⟨[],[],19,[],[]⟩] (by kernel_rfl) (by kernel_rfl) (by kernel_rfl) ?_; refine rn F ?_))
 ·exact QI ⟨132,3,[(4,.ptr 3 0)],[scB ⟨⟨⟨c.s.k.pg,c.s.k.nx,(Qaa c.s.k.lg (Qho c.s.k.lg)).1,c.s.k.pl,c.s.k.lk,c.s.k.tx,c.s.k.ix,c.s.k.la⟩,c.s.v⟩,c.tx,c.rd,c.dead⟩ 1 2,scT (Sc.tx ⟨⟨⟨c.s.k.pg,c.s.k.nx,(Qaa c.s.k.lg (Qho c.s.k.lg)).1,c.s.k.pl,c.s.k.lk,c.s.k.tx,c.s.k.ix,c.s.k.la⟩,c.s.v⟩,c.tx,c.rd,c.dead⟩),scR (Sc.rd ⟨⟨⟨c.s.k.pg,c.s.k.nx,(Qaa c.s.k.lg (Qho c.s.k.lg)).1,c.s.k.pl,c.s.k.lk,c.s.k.tx,c.s.k.ix,c.s.k.la⟩,c.s.v⟩,c.tx,c.rd,c.dead⟩),⟨173,true,Rs.d (Qf8 _)⟩]⟩ (gc [0,1,2,4]) ⟨⟨⟨⟨c.s.k.pg,c.s.k.nx,(Qaa c.s.k.lg (Qho c.s.k.lg)).1,c.s.k.pl,c.s.k.lk,c.s.k.tx,c.s.k.ix,c.s.k.la⟩,c.s.v⟩,c.tx,c.rd,c.dead⟩,Qf8 _,_,rfl,rfl,.inl ⟨⟨⟨⟨⟨Qi0 _ _ hc.1.1.1,hc.1.1.2⟩,hc.1.2⟩,Jn hc.2.1,Jn hc.2.2⟩,fun m=>hI m 1 _ _ (QqK _ (by assumption))⟩,rfl⟩⟩
 ·exact QI ⟨132,3,[(4,.ptr 3 0)],[scB c 1 2,scT (Sc.tx c),scR (Sc.rd c),⟨173,true,Rs.d (Qf8 _)⟩]⟩ (gc [0,1,2,4]) ⟨c,Qf8 _,_,rfl,rfl,.inl ⟨QoA I hI c n hc _,rfl⟩⟩
def Qxp(I:Nat->Kn->Prop)(hI:Qrp I)(c:Sc)(n:Nat)(hn:n<=2000)(hc:c.sm n)(t:Sp)(ht:t.kind=2):QhP I c n t:=by
 refine QT (fn:=Tryz.f94) Tryz.func94 rfl (by kernel_rfl) (by simp[Tryz.f94]) ?_
 obtain⟨k,tx,pg,torn,cut,a⟩:=t
 dsimp only at ht
 subst ht
 (unfold Tryz.f94; refine rn trivial ?_)
 refine Qk3 (c:=c) 0 1 2 (QEP c n hn hc ⟨2,tx,pg,torn,cut,a⟩) rfl rfl rfl (by decide) (by decide) (by decide) rfl rfl ?_ (fun _ _ h=>absurd rfl h.1) ?_
 ·rintro c1 r1 ⟨-,q1,-,q2⟩ B
  refine rn trivial ?_
  exact QI ⟨132,3,[(4,.ptr 3 0)],[scB c1 1 2,scT (Sc.tx c1),scR (Sc.rd c1),⟨173,true,Rs.d (r1)⟩]⟩ (gc [0,1,2,4]) ⟨c1,r1,_,rfl,rfl,.inl ⟨⟨q1,fun m=>hI m 1 _ _ q2⟩,rfl⟩⟩
 ·rintro c1 r1 ⟨-,q1,-,q2⟩ B
  refine rn trivial ?_
  exact QI ⟨132,3,[(4,.ptr 4 0)],[scB c1 1 3,scT c1.tx,QqV,scR c1.rd,⟨173,true,r1.d⟩]⟩ (gc [0,1,2,5,4]) ⟨c1,r1,_,rfl,rfl,.inr (.inr ⟨⟨q1,fun m=>hI m 1 _ _ q2⟩,rfl⟩)⟩
def Qxq(I:Nat->Kn->Prop)(hI:Qrp I)(c:Sc)(n:Nat)(hn:n<=2000)(hc:c.sm n)(t:Sp)(ht:t.kind=1):QhP I c n t:=by
 refine QT (fn:=Tryz.f94) Tryz.func94 rfl (by kernel_rfl) (by simp[Tryz.f94]) ?_
 obtain⟨k,tx,pg,torn,cut,a⟩:=t
 dsimp only at ht
 subst ht
 have c1:=Qs2 c.s hc.1
 (unfold Tryz.f94; refine rn trivial ?_)
 have hb:(c.tx.length+1)*8<=140737488355328:=by have:=hc.2.1; omega
 have F:=@hb
 refine rn F ?_
 repeat' (first
  | with_reducible exact⟨⟩
  | (refine sB F ?_ ?_<;>intro hZ)
  | (refine Qr (c1) rfl ?_; rintro⟨s2,n2,e2⟩ hq; refine rn F ?_))
 rotate_left
 ·refine Qk3 (c:=c) 0 1 2 (Qg1 c s2 e2) rfl rfl rfl (by decide) (by decide) (by decide) rfl rfl ?_ (fun _ _ h=>absurd h.1 (by decide)) (fun _ _ h=>absurd h.1 (by decide))
  rintro _ _ ⟨-,rfl,rfl⟩ B
  obtain⟨k1,k2⟩:=Quo I hI hc.1 hq
  generalize (if e2=0 then s2 else c.s)=s' at *
  refine rn trivial ?_
  exact QI ⟨132,3,[(4,.ptr 3 0)],[scB ⟨s',c.tx,c.rd,c.dead⟩ 1 2,scT (Sc.tx ⟨s',c.tx,c.rd,c.dead⟩),scR (Sc.rd ⟨s',c.tx,c.rd,c.dead⟩),⟨173,true,Rs.d ({ Qf8 e2 with tx:=n2 })⟩]⟩ (gc [0,1,2,4]) ⟨⟨s',c.tx,c.rd,c.dead⟩,{ Qf8 e2 with tx:=n2 },_,rfl,rfl,.inl ⟨⟨⟨k1,Jn hc.2.1,Jn hc.2.2⟩,k2⟩,rfl⟩⟩
 have hl:(c.tx++[n2]).length=c.tx.length+1:=by simp
 generalize c.tx++[n2]=l at *
 rw[<- hl]
 refine Qk3 (c:=⟨c.s,l,c.rd,c.dead⟩) 0 7 2 (Qg1 ⟨c.s,l,c.rd,c.dead⟩ s2 e2) rfl rfl rfl (by decide) (by decide) (by decide) rfl rfl ?_ (fun _ _ h=>absurd h.1 (by decide)) (fun _ _ h=>absurd h.1 (by decide))
 rintro _ _ ⟨-,rfl,rfl⟩ B
 obtain⟨k1,k2⟩:=Quo I hI hc.1 hq
 generalize (if e2=0 then s2 else c.s)=s' at *
 have h1:=hc.2.1
 refine rn trivial ?_
 exact QI ⟨132,3,[(4,.ptr 4 0)],[scB ⟨s',l,c.rd,c.dead⟩ 3 2,Qvt,scR c.rd,scT l,⟨173,true,Rs.d { Qf8 e2 with tx:=n2 }⟩]⟩ (gc [0,1,2,7,4]) ⟨⟨s',l,c.rd,c.dead⟩,{ Qf8 e2 with tx:=n2 },_,rfl,rfl,.inr (.inl ⟨⟨⟨k1,by dsimp only; omega,Jn hc.2.2⟩,k2⟩,rfl⟩)⟩
end
section
attribute [local go_sem] Qbo
def Qxi(I:Nat->Kn->Prop)(hI:Qrp I)(c:Sc)(n:Nat)(hc:c.sm n)(t:Sp)(h1:t.kind≠1)(h2:t.kind≠2)(h3:t.kind≠3)(h4:t.kind≠4)(h5:t.kind≠5)(h6:t.kind≠6)(h7:t.kind≠7):QhP I c n t:=by
 refine QT (fn:=Tryz.f94) Tryz.func94 rfl (by kernel_rfl) (by simp[Tryz.f94]) ?_
 have c1:=Qah 1
 (unfold Tryz.f94; refine rn (Ja @h1 (Ja @h2 (Ja @h3 (Ja @h4 (Ja @h5 (Ja @h6 @h7)))))) ?_)
 have F:=(Ja @h1 (Ja @h2 (Ja @h3 (Ja @h4 (Ja @h5 (Ja @h6 @h7))))))
 refine rn F ?_
 repeat' (first
  | with_reducible exact⟨⟩
  | refine vp F (c1) ?_)
 exact QI ⟨132,3,[(4,.ptr 3 0)],[scB c 1 2,scT (Sc.tx c),scR (Sc.rd c),⟨173,true,Rs.d (QaC 1)⟩]⟩ (gc [0,1,2,4]) ⟨c,QaC 1,_,rfl,rfl,.inl ⟨QoA I hI c n hc _,rfl⟩⟩
def Qxj(I:Nat->Kn->Prop)(hI:Qrp I)(c:Sc)(n:Nat)(hn:n<=2000)(hc:c.sm n)(t:Sp)(h6:t.kind=6->QhP I c n t):QhP I c n t:=by
 by_cases q1:t.kind=1
 ·exact Qxq I hI c n hn hc t q1
 by_cases q2:t.kind=2
 ·exact Qxp I hI c n hn hc t q2
 by_cases q3:t.kind=3
 ·exact Qxo I hI c n hn hc t q3
 by_cases q4:t.kind=4
 ·exact Qxn I hI c n hn hc t q4
 by_cases q5:t.kind=5
 ·exact Qxm I hI c n hn hc t q5
 by_cases q6:t.kind=6
 ·exact h6 q6
 by_cases q7:t.kind=7
 ·exact Qxk I hI c n hn hc t q7
 exact Qxi I hI c n hc t q1 q2 q3 q4 q5 q6 q7
def Qn3:Enc Sp:=⟨9,fun t=>[.lit (.int .i64 t.kind),.lit (.int .i64 t.tx),.lit (.int .i64 t.pg),.lit (.int .i64 t.torn),.lit (.int .i64 t.cut),.lit (.int .i64 t.a.kind),.lit (.int .i64 t.a.pg),.lit (.int .i64 t.a.sl),.str t.a.data],by decide,fun _=>rfl⟩
def QHL(l:List Sp):(cells Qn3 l).length=l.length*9:=Qo Qn3 l
def QIE(l:List Sp)(n:Nat)(h:l.length*9<=n):(cells Qn3 l).take n=cells Qn3 l:=by rw[Jm]; rw[QHL]; exact h
def QIr(h:l.length=len):Qpi n hp 0 9 len (some (cells Qn3 l))=some (.sl (fz Qn3 l)):=Qac Qn3 h
def Sp0:Sp:=⟨0,0,0,0,0,0,0,0,[]⟩
def QFn(l:List Sp)(i:Nat)(h:i<l.length):(fz Qn3 l)[i]?=some [.lit (.int .i64 (l.getD i Sp0).kind),.lit (.int .i64 (l.getD i Sp0).tx),.lit (.int .i64 (l.getD i Sp0).pg),.lit (.int .i64 (l.getD i Sp0).torn),.lit (.int .i64 (l.getD i Sp0).cut),.lit (.int .i64 (l.getD i Sp0).a.kind),.lit (.int .i64 (l.getD i Sp0).a.pg),.lit (.int .i64 (l.getD i Sp0).a.sl),.str (l.getD i Sp0).a.data]:=Qdo Qn3 l Sp0 i h
attribute [go_sem] QHL QIE QIr
def Qem:Enc Rs:=⟨6,fun r=>[.lit (.int .i64 r.st),.lit (.int .i64 r.tx),.lit (.int .i64 r.pg),.lit (.bool r.cell.set),.str r.cell.data,.lit (.int .i64 r.er)],by decide,fun _=>rfl⟩
def QE9(l:List Rs):(cells Qem l).length=l.length*6:=Qo Qem l
def QHw(l:List Rs)(n:Nat)(h:l.length*6<=n):(cells Qem l).take n=cells Qem l:=by rw[Jm]; rw[QE9]; exact h
def QHb(h:l.length=len):Qpi n hp 0 6 len (some (cells Qem l))=some (.sl (fz Qem l)):=Qac Qem h
def QFT(l:List Rs)(a b c:Int)(x:Bool)(s:List UInt8)(d:Int):cells Qem l++[.pv (.lit (.int .i64 a)),.pv (.lit (.int .i64 b)),.pv (.lit (.int .i64 c)),.pv (.lit (.bool x)),.pv (.str s),.pv (.lit (.int .i64 d))]=cells Qem (l++[⟨a,b,c,⟨x,s⟩,d⟩]):=by rw[QD]; rfl
attribute [go_sem] QE9 QHw QHb QFT
def QH0(l:List Rd):DV.wk.go (cells QmP l)=cells QmP l:=Qbr QmP l fun a p hp=>by
 simp[QmP] at hp
 rcases hp with h | h | h | h | h | h<;>subst h<;>rfl
def QGy(l:List Rs):DV.wk.go (cells Qem l)=cells Qem l:=Qbr Qem l fun a p hp=>by
 simp[Qem] at hp
 rcases hp with h | h | h | h | h | h<;>subst h<;>rfl
attribute [go_sem] QH0 QGy
structure Ru(I:Nat->Kn->Prop)(s:Sv)(l:List Sp) where
 i:Nat
 c:Sc
 out:List Rs
 hi:i<=l.length
 h1:i<=1000
 hc:c.sm i
 ho:out.length=i
 hI:I 0 s.k->I i c.s.k
@[go_sem] def QIi(a:Sv×List Rs×List Rd):DV:=.tup [.agg a.1.d,.pv (.sl (fz Qem a.2.1)),.pv (.sl (fz QmP a.2.2))]
def QEz(I:Nat->Kn->Prop)(hI:Qrp I)(s:Sv)(hs:s.sm)(l:List Sp)(h6:∀ i,i<l.length->(l.getD i Sp0).kind=6->∀ c n,n<=2000->c.sm n->QhP I c n (l.getD i Sp0)):VCalls prog 73 [.agg s.d,.pv (.sl (fz Qn3 l))] [] (QL QIi fun a=>a.1.sm/\(I 0 s.k->∃ i,i<=l.length/\I i a.1.k)):=by
 refine dk Tryz.func73 ?_
 (unfold Tryz.f73; refine rn trivial ?_)
 refine VLoop.nilOwnC 2 18 3 1 rfl rfl ?_
 refine VLoop.nilOwnC 2 19 204 6 rfl rfl ?_
 refine VLoop.nilOwn 8 173 6 rfl ?_
 refine rn trivial ?_
 refine Qj (fun r:Ru I s l=>⟨48,0,[(9,.int .i64 r.i),(8,.own 4 6 0 r.out.length),(7,.ptr 1 0),(4,.ptr 0 0),(1,.pv (.sl (fz Qn3 l)))],[⟨101,true,Zv⟩,scB r.c 2 3,scT r.c.tx,scR r.c.rd,⟨173,true,cells Qem r.out⟩]⟩) (fun r=>l.length-r.i) ⟨0,⟨s,[],[],false⟩,[],Jc _,by decide,⟨hs,Jc _,Jc _⟩,rfl,id⟩ (gc [1,2,3,4,5]) ?_
 rintro⟨i,c,out,hi,h1,hc,ho,h⟩
 dsimp only
 unfold Zv
 have hg:=fun h:i<l.length=>QFn l i h
 have hb:(out.length+1)*72<=140737488355328:=by omega
 obtain⟨sv,tx,rd,dead⟩:=c
 cases dead
 rotate_left
 ·skip
  have F:=@hg
  refine rn F ?_
  repeat' (first
   | with_reducible exact⟨⟩
   | (refine sG F ?_ ?_<;>intro hZ)
   | (refine Qbh (id:=7) [[],[0],[0,1],[0,1,2],[],[],[5],[5,6],[5,6,7],[0,1,2,3],[0,1,2,3,4,9],[0,1,2,3,4,5,6,7,8,9,10]] [0,1,2,3,4,5,6,7,8] [⟨[],[],9,[4,5,6,7,8],[]⟩,⟨[],[],10,[5,6,7,8],[]⟩,⟨[],[],11,[],[]⟩] (by kernel_rfl) (by kernel_rfl) (by kernel_rfl) ?_; refine rn F ?_))
  all_goals exact⟨rfl,rfl,(sv,out,rd),rfl,hc.1,fun x=>⟨i,hi,h x⟩⟩
 have F:=@hg
 refine rn F ?_
 repeat' (first
  | with_reducible exact⟨⟩
  | (refine sG F ?_ ?_<;>intro hZ)
  | (refine Qbh (id:=7) [[],[0],[0,1],[0,1,2],[],[],[5],[5,6],[5,6,7],[0,1,2,3],[0,1,2,3,4,9],[0,1,2,3,4,5,6,7,8,9,10]] [0,1,2,3,4,5,6,7,8] [⟨[],[],9,[4,5,6,7,8],[]⟩,⟨[],[],10,[5,6,7,8],[]⟩,⟨[],[],11,[],[]⟩] (by kernel_rfl) (by kernel_rfl) (by kernel_rfl) ?_; refine rn F ?_))
 all_goals first | exact⟨rfl,rfl,(sv,out,rd),rfl,hc.1,fun x=>⟨i,hi,h x⟩⟩ | skip
 have hil:i<l.length:=by omega
 refine Qk3 (c:=⟨sv,tx,rd,false⟩) 1 2 3 (Qxj I hI _ i (by omega) hc (l.getD i Sp0) (fun hk=>h6 i hil hk _ i (by omega) hc)) rfl rfl rfl (by decide) (by decide) (by decide) rfl rfl ?_ ?_ ?_
 all_goals
  rintro c1 r1 ⟨q1,q2⟩ B
  refine rn @hb ?_
  have hl2:(out++[r1]).length=out.length+1:=by simp
  refine⟨⟨i+1,c1,out++[r1],hil,by omega,q1,by rw[hl2]; omega,fun x=>q2 i (h x)⟩,by dsimp only; omega,?_⟩
  dsimp only
  rw[hl2]
 ·exact(gc [0,1,2,3,7])
 ·exact(gc [0,1,5,3,8])
 ·exact(gc [0,1,2,5,8])
end
section
attribute [local go_sem] cb cc
def QFM(b:Int)(hb:0<=b/\b<=255):∃ y:UInt8,b=(y.toNat:Int):=⟨UInt8.ofNat b.toNat,by simp only[UInt8.toNat_ofNat']; omega⟩
def Qua{α:Type}{n:Nat}{A B:α}(hn:n<=1000000000):(if 0<=(n:Int)/\((1:Nat):Int)*n<=281474976710656/\(n:Int)<=9223372036854775807 then A else B)=A:=
 if_pos ⟨by omega,by omega,by omega⟩
abbrev Dx(n:Nat):DV->Prop:=fun r=>∃ t:List UInt8,r=.pv (.str t)/\t.length<=n
structure DSt(n:Nat) where
 c:C
 l:List UInt8
 hl:l.length<=n
def QFA(c:C):VCalls prog 135 [.ptr 0 0] [cb c] (CX (Dx 13)):=by
 refine dd Tryz.func135 ?_
 (unfold Tryz.f135; refine rn trivial ?_)
 refine Qa2 (k:=0) (c:=c) (QaM c 5 (by omega) (by omega)) rfl rfl ?_
 rintro _ c1 ⟨z,rfl,hz⟩
 refine rn trivial ?_
 refine Qa2 (k:=0) (c:=c1) (QaM c1 6 (by omega) (by omega)) rfl rfl ?_
 rintro _ c2 ⟨z2,rfl,hz2⟩
 have hcw:=fun(hp:Qa) (k o n:Nat)=>Qgw (hp:=hp) (k:=k) (off:=o) (len:=n) QHk
 have mk:=fun(n:Nat) (h:n<=1000000000) (A B:Option (DV×Qa))=>Qua (n:=n) (A:=A) (B:=B) h
 refine rn F ?_
 repeat' (first
  | with_reducible exact⟨⟩
  | (refine sB F ?_ ?_<;>intro hZ))
 case' refine_1=>
  refine Qa2 (k:=0) (c:=c2) (QaM c2 14 (by omega) (by omega)) rfl rfl ?_
  rintro _ c3 ⟨n,rfl,hn⟩
 case' refine_2=>
  obtain⟨n,rfl,hn⟩:∃ n:Nat,n=z/\n<14:=⟨z,rfl,by omega⟩
  obtain⟨c3,rfl⟩:∃ c3,c3=c2:=⟨c2,rfl⟩
 all_goals
  have hm:=fun A B=>mk n (by omega) A B
  have hr:J5 0 (0:UInt8)=[]:=rfl
  refine rn (Ja @hm @hr) ?_
  refine Qj (fun i:DSt n=>⟨29,1,[(5,.int .i64 i.l.length),(3,.int .i64 n),(4,.own 1 1 0 i.l.length),(0,.ptr 0 0)],[cb i.c,⟨5,true,cells Qfv i.l⟩]⟩) (fun i=>n-i.l.length) ⟨c3,[],Jc _⟩ (gc [0,1]) ?_
  rintro⟨c4,l,hl⟩
  dsimp only
  have hvc:=fun hp:Qa=>@Qfc hp l _ rfl
  by_cases hc:l.length<n
  ·skip
   refine rn F ?_
   refine Qa2 (k:=0) (c:=c4) (QaM c4 3 (by omega) (by omega)) rfl rfl ?_
   rintro r c5 ⟨y,rfl,hy⟩
   obtain⟨u,hu⟩:∃ u:UInt8,97+(y:Int)=(u.toNat:Int):=QFM _ (by omega)
   have e2:cells Qfv l++[.pv (.lit (.int .u8 u.toNat))]=cells Qfv (l++[u]):=(QD Qfv l [u]).symm
   have e3:(cells Qfv l).take l.length=cells Qfv l:=by rw[Jm]; rw[QdU]; exact Jy _
   have hub:u.toNat<256:=u.toNat_lt
   have hs2:l.length<=140737488355327:=by omega
   refine rn (Ja @hu (Ja @hs2 (Ja @e3 @e2))) ?_
   have hl2:(l++[u]).length=l.length+1:=by simp
   refine⟨⟨c5,l++[u],by rw[hl2]; omega⟩,by dsimp only; rw[hl2]; omega,?_⟩
   dsimp only
   rw[hl2]
   exact(gc [0,3])
  ·skip
   have F:=(Ja @hcw @hvc)
   refine rn F ?_
   exact⟨_,rfl,rfl,Qcj _,rfl,⟨_,rfl,by omega⟩,c4,rfl⟩
end
section
attribute [local go_sem] cb cc
def Quj(i:Nat)(h:i<12):∃ n:Int,([.pv (.lit (.int .i64 1)),.pv (.lit (.int .i64 1)),.pv (.lit (.int .i64 2)),.pv (.lit (.int .i64 2)),.pv (.lit (.int .i64 2)),.pv (.lit (.int .i64 3)),.pv (.lit (.int .i64 4)),.pv (.lit (.int .i64 5)),.pv (.lit (.int .i64 6)),.pv (.lit (.int .i64 7)),.pv (.lit (.int .i64 2)),.pv (.lit (.int .i64 4))]:List DV)[i]?=some (.int .i64 n):=by
 have e:([.pv (.lit (.int .i64 1)),.pv (.lit (.int .i64 1)),.pv (.lit (.int .i64 2)),.pv (.lit (.int .i64 2)),.pv (.lit (.int .i64 2)),.pv (.lit (.int .i64 3)),.pv (.lit (.int .i64 4)),.pv (.lit (.int .i64 5)),.pv (.lit (.int .i64 6)),.pv (.lit (.int .i64 7)),.pv (.lit (.int .i64 2)),.pv (.lit (.int .i64 4))]:List DV)=([1,1,2,2,2,3,4,5,6,7,2,4]:List Int).map (DV.int .i64):=rfl
 refine⟨([1,1,2,2,2,3,4,5,6,7,2,4]:List Int)[i]'h,?_⟩
 rw[e,List.getElem?_map,JW h]; rfl
def QzB(c:C)(m:Nat)(h1:1<=m)(h2:m<=1000):VCalls prog 119 [.ptr 0 0,.int .i64 m] [cb c] (CX fun r=>∃ a:Ac,r=.agg a.d):=by
 refine dd Tryz.func119 ?_
 (unfold Tryz.f119; refine rn trivial ?_)
 refine Qa2 (k:=0) (c:=c) (QaM c 12 (by omega) (by omega)) rfl rfl ?_
 rintro _ c1 ⟨y,rfl,hy⟩
 obtain⟨n,hn⟩:=Quj y hy
 have F:=@hn
 refine rn F ?_
 repeat' (first
  | with_reducible exact⟨⟩
  | (refine sB F ?_ ?_<;>intro hZ)
  | (refine Qa2 (k:=0) (QaM _ 2 (by omega) (by omega)) rfl rfl ?_; rintro _ _ ⟨_,rfl,_⟩; refine rn F ?_)
  | (refine Qa2 (k:=0) (QaM _ 40 (by omega) (by omega)) rfl rfl ?_; rintro _ _ ⟨_,rfl,_⟩; refine rn F ?_)
  | (refine Qa2 (k:=0) (QaM _ m (by omega) (by omega)) rfl rfl ?_; rintro _ _ ⟨_,rfl,_⟩; refine rn F ?_)
  | (refine Qa2 (k:=0) (QFA _) rfl rfl ?_; rintro _ _ ⟨_,rfl,_⟩; refine rn F ?_)
  | (refine Qa2 (k:=0) (QG7 _) rfl rfl ?_; rintro _ _ ⟨_,rfl,_⟩; refine rn F ?_))
 all_goals first
  | exact⟨_,rfl,rfl,Qcj _,rfl,⟨⟨_,_,_,_⟩,rfl⟩,_,rfl⟩
  | skip
end
section
attribute [local go_sem] cb cc
def QEK(n:Int)(h:1<=n/\n<=64):VCalls prog 93 [.int .i64 n] [] (QL dvD fun a=>dvQ a/\a.2=0):=by
 refine dk Tryz.func93 ?_
 have c1:=QtD n
 (unfold Tryz.f93; refine rn trivial ?_)
 refine rn F ?_
 repeat' (first
  | with_reducible exact⟨⟩
  | (refine Qr (c1 (by omega)) rfl ?_; rintro l hl; refine rn F ?_))
 all_goals first
  | (exfalso; omega)
  | exact⟨rfl,rfl,(⟨l,0,false⟩,0),rfl,hl,rfl⟩
  | skip
def Qrl(n m:Int):Kn:=⟨n,1,Lg1,⟨m,[],0⟩,Lk0,[],J5 n.toNat Rw0,[]⟩
def QEC(n m:Int)(h:1<=n/\n<=64)(h2:1<=m/\m<=64):VCalls prog 92 [.int .i64 n,.int .i64 m] [] (QL kiD fun a=>a.1.sm/\a.2=0/\a.1=Qrl n m):=by
 refine dk Tryz.func92 ?_
 have c1:=Qs4 m
 have c2:=QoI n
 have c3:=QBJ
 have hf:Qh7 m=(⟨m,[],0⟩,0):=by unfold Qh7; rw[if_neg (by omega)]
 rw[hf] at c1
 (unfold Tryz.f92; refine rn trivial ?_)
 refine rn F ?_
 repeat' (first
  | with_reducible exact⟨⟩
  | refine vp F (c1) ?_
  | (refine Qr (c2) rfl ?_; rintro⟨l,e⟩ hl; refine rn F ?_)
  | refine vp F (c3) ?_
  | (refine Qb (id:=5) [0,2,3] [⟨[],[],1,[0,2,3],[4]⟩,⟨[],[],5,[],[]⟩,⟨[],[],6,[],[]⟩] (by kernel_rfl) (by kernel_rfl) ?_; refine rn F ?_))
 all_goals first
  | (exfalso; omega)
  | skip
 have e1:=hl.2.1 (hl.2.2 h.1 h.2)
 dsimp only at e1
 subst e1
 exact⟨rfl,rfl,(Qrl n m,0),rfl,⟨Jc _,Jc _,Jc _,Q6 _,hl.1,Jc _⟩,rfl,rfl⟩
def QEx(n m:Int)(h:1<=n/\n<=64)(h2:1<=m/\m<=64):VCalls prog 72 [.int .i64 n,.int .i64 m] [] (QL svD fun a=>a.1.sm/\a.2=0/\a.1.k=Qrl n m):=by
 refine dk Tryz.func72 ?_
 have c1:=QEC n m h h2
 have c2:=QEK n h
 (unfold Tryz.f72; refine rn trivial ?_)
 refine Qr c1 rfl ?_
 rintro⟨k,e⟩ ⟨hk,he,hg⟩
 dsimp only at hk he hg
 subst he
 refine rn trivial ?_
 refine Qr c2 rfl ?_
 rintro⟨v,e⟩ ⟨hv,he⟩
 dsimp only at he
 subst he
 refine rn trivial ?_
 exact⟨rfl,rfl,(⟨k,v⟩,0),rfl,⟨hk,hv⟩,rfl,hg⟩
def QHp(l:List Sp)(a b c d e f g h:Int)(s:List UInt8):cells Qn3 l++[.pv (.lit (.int .i64 a)),.pv (.lit (.int .i64 b)),.pv (.lit (.int .i64 c)),.pv (.lit (.int .i64 d)),.pv (.lit (.int .i64 e)),.pv (.lit (.int .i64 f)),.pv (.lit (.int .i64 g)),.pv (.lit (.int .i64 h)),.pv (.str s)]=cells Qn3 (l++[⟨a,b,c,d,e,⟨f,g,h,s⟩⟩]):=by rw[QD]; rfl
def spB:Sp:=⟨1,0,0,0,0,⟨0,0,0,[]⟩⟩
end
def Qtb(t:Lk)(h:1024<t.sum)(h2:t.held.length<=10000000/\t.wait.length<=10000000):VCalls prog 199 [.agg t.d] [] (Ret (.bool false)):=by
 refine dd Tryz.func199 ?_
 unfold Lk.sum at h
 have h':(1024:Int)<t.held.length+t.wait.length:=by omega
 (unfold Tryz.f199; refine rn @h' ?_; try with_reducible exact⟨⟩)
def Kn.smX(k:Kn):Prop:=k.lg.es.length<=4096/\k.pl.fs.length<=64/\smN 65 k.tx/\k.ix.length<=64/\k.la.length<=10000
def QBF(k:Kn)(hk:k.smX)(h:1024<k.lk.sum)(hq:k.lk.held.length<=10000000/\k.lk.wait.length<=10000000):VCalls prog 154 [.agg k.d] [] (Ret (.bool false)):=by
 refine dd Tryz.func154 ?_
 obtain⟨h1,h2,h4,h5,h6⟩:=hk
 have c1:=Qaj k.lg (by omega)
 have c2:=Qap k.pl (by omega)
 have c3:=Qtb k.lk h hq
 generalize lgB k.lg=b1 at *
 generalize plB k.pl=b2 at *
 (unfold Tryz.f154; refine rn trivial ?_)
 refine rn F ?_
 repeat' (first
  | with_reducible exact⟨⟩
  | (refine sG F ?_ ?_<;>intro hZ)
  | refine vp F (c1) ?_
  | refine vp F (c2) ?_
  | refine vp F (c3) ?_)
 all_goals first | rfl | skip
def QxD(k:Kn)(hk:k.smX)(h:1024<k.lk.sum)(hq:k.lk.held.length<=10000000/\k.lk.wait.length<=10000000):VCalls prog 131 [.agg k.d] [] (Ret (.bool false)):=by
 refine dd Tryz.func131 ?_
 have c1:=QBF k hk h hq
 (unfold Tryz.f131; refine rn trivial ?_)
 refine rn F ?_
 repeat' (first
  | with_reducible exact⟨⟩
  | refine vp F (c1) ?_)
 all_goals first | rfl | skip
def adK(x:Lg)(a:An)(n:Int):Kn:=⟨a.pg,a.nx,x,(Qh7 n).1,⟨a.lk,[]⟩,a.lo,a.ix,a.la⟩
def QCL(h:l.map (·.id)=m.map (·.id))(a:Int):idT l a=idT m a:=by
 have e:∀ l:List Tx,idT l a=Qhr (l.map (·.id)) fun n=>n==a:=fun l=>by
  unfold idT Qhr
  rw[List.any_map,List.findIdx_map]
  rfl
 rw[e,e,h]
def Qfq(h:QaF l=true)(hi:i<l.length):idT l (l.getD i Tx0).id=i:=by
 have hs:=QcI h
 rw[Qc _ _ hi]
 rcases Qy l l[i].id with hn | ⟨j,hj,h1,h2⟩
 ·have:=(idT_mem (l:=l) (a:=l[i].id)).2 (Ki.2 ⟨l[i],Jj hi,rfl⟩)
  omega
 ·rw [h1]
  rw[JB] at hs
  rcases JH i j with h3 | h3 | h3
  ·have:=hs i j (by simpa using hi) (by simpa using hj) h3
   rw[Jq,Jq] at this
   omega
  ·omega
  ·have:=hs j i (by simpa using hj) (by simpa using hi) h3
   rw[Jq,Jq] at this
   omega
def QnJ(h:(QJ l e).2=0)(hk:e.kind=4)(ht:0<e.tx)(ha:a≠e.tx)(h0:0<=idT l a):Qbj (QJ l e).1 a=Qbj l a:=by
 have hid:=QCL (Qhj h ⟨by omega,by omega⟩) a
 unfold Qbj
 rw[hid]
 unfold QJ at h |-
 split at h
 ·simp at h
 rename_i q1
 split at h
 ·simp at h
 rename_i q2
 split at h
 ·omega
 rename_i q3
 split at h
 ·simp at h
 rename_i q4
 rw[if_neg q1,if_neg q2,if_neg q3,if_neg q4]
 rcases Qy l e.tx with hn | ⟨i,hi,hid2,he⟩
 ·omega
 rcases Qy l a with hn | ⟨j,hj,hjd,hja⟩
 ·omega
 rw[hid2,Jk] at h |-
 unfold Qhl at h |-
 split at h
 ·simp at h
 rename_i q5
 split at h
 ·rename_i q6; omega
 rename_i q6
 rw[if_neg q5,if_neg q6,hjd,Jk]
 have hij:i≠j:=fun h=>ha (by subst h; rw[<- hja,<- he])
 simp only[Je,JJ hij]
structure AdS(x:Lg)(a:An)(n:Int) where
 i:Nat
 k:Kn
 hi:i<=a.lo.length
 hk:k.sm
 he:Str 0 (adK x a n) k
 hl:∀ j,i<=j->j<a.lo.length->0<=idT k.tx (a.lo.getD j Tx0).id/\Qbj k.tx (a.lo.getD j Tx0).id=a.lo.getD j Tx0
def AdS.nx{a:An}{k k1:Kn}{i:Nat}(ht:QaF a.lo=true){e:E}{n1 e1:Int}(hq:Qwj k e (k1,n1,e1))(h:e1=0)(hk:e.kind=4)(hil:i<a.lo.length)(he:e.tx=(a.lo.getD i Tx0).id)
 (hl:∀ j,i<=j->j<a.lo.length->0<=idT k.tx (a.lo.getD j Tx0).id/\Qbj k.tx (a.lo.getD j Tx0).id=a.lo.getD j Tx0):∀ j,i+1<=j->j<a.lo.length->0<=idT k1.tx (a.lo.getD j Tx0).id/\Qbj k1.tx (a.lo.getD j Tx0).id=a.lo.getD j Tx0:=fun j h1 h2=>by
 obtain⟨q1,q2⟩:=hl j (by omega) h2
 refine⟨QmI hq h ⟨by omega,by omega⟩ q1,?_⟩
 obtain⟨e',⟨v,s,_,_,_,hn,_⟩,hk1,_,_⟩:=hq.2 h
 dsimp only at hk1
 subst hk1
 have i1:=Qfq ht hil
 have i2:=Qfq ht h2
 have ho:=QoY (Qdh hn).2
 have hne:(a.lo.getD j Tx0).id≠e'.tx:=fun q=>by
  rw[s.2.1,he] at q
  rw[q,i1] at i2
  omega
 have hpos:0<e'.tx:=by
  have:=QaE ht hil
  rw[s.2.1,he,Qc _ _ hil]
  simp only[Tx.okB,Tx.hdB,Jf,decide_eq_true_eq] at this
  omega
 exact(QnJ hn (by rw[s.1]; exact hk) hpos hne q1).trans q2
def adQ(x:Lg)(a:An)(n:Int)(r:Kn×Int):Prop:=r.1.sm/\(r.2=0->kB (adK x a n)=true/\(adK x a n).pl.fs=[]/\Str 0 (adK x a n) r.1)
def Qx0(x:Lg)(hx:x.es.length<=4096)(a:An)(ha:a.sm 10000)(n:Int):VCalls prog 198 [.agg x.c,.agg a.d,.int .i64 n] [] (QL kiD (adQ x a n)):=by
 refine dk Tryz.func198 ?_
 obtain⟨h1,h2,h3,h4⟩:=ha
 have c1:=Qs4 n
 have hf:=Qx7 n
 have had:adK x a n=⟨a.pg,a.nx,x,(Qh7 n).1,⟨a.lk,[]⟩,a.lo,a.ix,a.la⟩:=rfl
 unfold adQ
 have hst0:=fun k=>Str 0 (adK x a n) k
 clear hst0
 generalize hpn:Qh7 n=p at *
 obtain⟨p,e0⟩:=p
 dsimp only at c1 hf had
 have err:∀ z,z≠0->QL kiD (fun r:Kn×Int=>r.1.sm/\(r.2=0->kB (adK x a n)=true/\(adK x a n).pl.fs=[]/\Str 0 (adK x a n) r.1)) (kiD (Kn0,z)) []:=fun z hz=>⟨rfl,rfl,(Kn0,z),rfl,Qb1,fun h=>absurd h hz⟩
 (unfold Tryz.f198; refine rn trivial ?_)
 refine rn F ?_
 repeat' (first
  | with_reducible exact⟨⟩
  | (refine sB F ?_ ?_<;>intro hZ)
  | refine vp F (c1) ?_)
 all_goals first | exact err 1 (by decide) | skip
 by_cases hs:a.lk.length<=1024
 rotate_left
 ·have c2:=QxD ⟨a.pg,a.nx,x,p,⟨a.lk,[]⟩,a.lo,a.ix,a.la⟩ ⟨hx,by dsimp only; rw [hf]; exact Jc _,h1,h4,h3⟩ (by unfold Lk.sum; simp; omega) ⟨by dsimp only; omega,Jc _⟩
  refine rn F ?_
  refine VCalls.wkH ?_; simp only[QeR,Qdl,Qc1,Qcm,DV.wk,PV.wk,QGz]
  refine rn F ?_
  repeat' (first
   | with_reducible exact⟨⟩
   | refine vp F (c2) ?_)
  exact err 15 (by decide)
 have hk0:(⟨a.pg,a.nx,x,p,⟨a.lk,[]⟩,a.lo,a.ix,a.la⟩:Kn).sm:=⟨hx,by dsimp only; rw[hf]; exact Jc _,by unfold Lk.sum; simp; omega,h1,h4,h3⟩
 have c2:=QbS ⟨a.pg,a.nx,x,p,⟨a.lk,[]⟩,a.lo,a.ix,a.la⟩ hk0
 refine rn F ?_
 refine VCalls.wkH ?_; simp only[QeR,Qdl,Qc1,Qcm,DV.wk,PV.wk,QGz]
 cases hv:kB ⟨a.pg,a.nx,x,p,⟨a.lk,[]⟩,a.lo,a.ix,a.la⟩
 ·rw [hv] at c2
  refine rn F ?_
  repeat' (first
   | with_reducible exact⟨⟩
   | refine vp F (c2) ?_)
  exact err 15 (by decide)
 rw[hv] at c2
 rw[<- had] at hv
 have htb:QaF a.lo=true:=by have:=(Qkh hv).2.2.2.2.1; rw[had] at this; exact this
 refine rn F ?_
 repeat' (first
  | with_reducible exact⟨⟩
  | refine vp F (c2) ?_)
 have hlo:=h1.1
 have hpf:(adK x a n).pl.fs=[]:=by rw[had]; exact hf
 refine Qj (fun s:AdS x a n=>⟨72,0,[(11,.int .i64 s.i),(10,.ptr 4 0),(6,.ptr 2 0),(4,.ptr 1 0)],[⟨34,true,x.c⟩,⟨289,true,a.d⟩,⟨62,true,Kn.d Kn0⟩,⟨52,true,p.d⟩,⟨62,true,s.k.d⟩]⟩) (fun s=>a.lo.length-s.i) ⟨0,⟨a.pg,a.nx,x,p,⟨a.lk,[]⟩,a.lo,a.ix,a.la⟩,Jc _,hk0,by rw[had]; exact Str.refl _,fun j _ hj=>by
  have i1:=Qfq htb hj
  exact⟨by dsimp only; rw[i1]; omega,Qed i1⟩⟩ (gc [0,1,2,3,4]) ?_
 rintro⟨i,k,hi,hk,he,hl⟩
 dsimp only
 by_cases hil:i<a.lo.length
 rotate_left
 ·skip
  refine rn F ?_
  exact⟨rfl,rfl,(k,0),rfl,hk,fun _=>⟨hv,hpf,he⟩⟩
 have hg:=QdZ a.lo i hil
 have hl0:=hl i (Jy _) hil
 have hfp:(a.lo.getD i Tx0).st≠3->QF8 k ⟨0,4,(a.lo.getD i Tx0).id,0,0,0,Ch0,[]⟩:=fun h=>⟨hl0.1,fun _=>by dsimp only; rw[hl0.2]; exact h,fun h=>by simp at h⟩
 have hnx:=fun k1 n1 e1 hq h=>AdS.nx (k1:=k1) (n1:=n1) (e1:=e1) htb (e:=⟨0,4,(a.lo.getD i Tx0).id,0,0,0,Ch0,[]⟩) hq h rfl hil rfl hl
 generalize htt:a.lo.getD i Tx0=t at *
 have c3:=Qeg k hk ⟨0,4,t.id,0,0,0,Ch0,[]⟩
 have F:=@hg
 refine rn F ?_
 repeat' (first
  | with_reducible exact⟨⟩
  | (refine sB F ?_ ?_<;>intro hZ)
  | (refine Qr (c3) rfl ?_; rintro⟨k1,n1,e1⟩ hq; refine rn F ?_)
  | (refine Qb (id:=11) [0,1,2,3,4,5,6,7] [⟨[],[],8,[1,2,3,4,5,6],[9,10,11,12]⟩,⟨[],[],13,[11,12],[]⟩,⟨[],[],14,[],[]⟩] (by kernel_rfl) (by kernel_rfl) ?_; refine rn F ?_))
 all_goals first
  | exact err _ (by assumption)
  | exact⟨⟨i+1,k,hil,hk,he,fun j h1 h2=>hl j (by omega) h2⟩,by dsimp only; omega,(gc [0,1,2,3,4])⟩
  | exact⟨⟨i+1,k1,hil,hq.1,he.trans (Qgz hq (by assumption) (.inr (.inl rfl)) (hfp (by assumption))),hnx k1 n1 e1 hq (by assumption)⟩,by dsimp only; omega,(gc [0,1,2,3,4])⟩
  | skip
def unf(s:List UInt8)(a:Int):List UInt8×Int×Int:=
 if a<0\/(s.length:Int)<a then ([],0,1)
 else if ¬ a.toNat+4<=s.length then ([],0,5)
 else if 8392<n4 s a.toNat then ([],0,2)
 else if ¬ a.toNat+4+n4 s a.toNat+4<=s.length then ([],0,5)
 else if ¬ (n4 s (a.toNat+4+n4 s a.toNat):Int)=Qnf ((s.take (a.toNat+4+n4 s a.toNat)).drop a.toNat) then ([],0,3)
 else ((s.take (a.toNat+4+n4 s a.toNat)).drop (a.toNat+4),(a.toNat+4+n4 s a.toNat+4:Nat),0)
def QzK(s:List UInt8)(a:Int):(unf s a).1.length<=s.length/\((unf s a).2.2=0->0<=a/\0<=(unf s a).2.1/\(unf s a).2.1<=s.length):=by
 unfold unf
 split
 ·exact⟨Jc _,fun h=>by simp at h⟩
 rename_i h1
 split
 ·exact⟨Jc _,fun h=>by simp at h⟩
 split
 ·exact⟨Jc _,fun h=>by simp at h⟩
 split
 ·exact⟨Jc _,fun h=>by simp at h⟩
 rename_i h2
 split
 ·exact⟨Jc _,fun h=>by simp at h⟩
 ·refine⟨by dsimp only; rw[JL,Jp]; omega,fun _=>⟨by omega,by dsimp only; omega,by dsimp only; omega⟩⟩
def QGk(s:List UInt8)(a:Int):DV:=.tup [.pv (.str (unf s a).1),.int .i64 (unf s a).2.1,.int .i64 (unf s a).2.2]
def QiJ(s:List UInt8)(hs:s.length<=100000000)(a:Int):VCalls prog 239 [.pv (.str s),.int .i64 a] [] (Ret (QGk s a)):=by
 refine dd Tryz.func239 ?_
 unfold QGk unf
 by_cases h1:a<0
 ·rw [if_pos (.inl h1)]
  (unfold Tryz.f239; refine rn @h1 ?_; try with_reducible exact⟨⟩)
 ·by_cases h2:(s.length:Int) < a
  ·rw [if_pos (.inr h2)]
   (unfold Tryz.f239; refine rn (Ja @h1 @h2) ?_; try with_reducible exact⟨⟩)
  ·rw [if_neg (by omega)]
   obtain⟨k,rfl⟩:∃ k:Nat,a=k:=⟨a.toNat,by omega⟩
   rw[Jk]
   by_cases h3:k+4<=s.length
   ·rw [if_neg (by omega)]
    have hn:=QCh s k
    (unfold Tryz.f239; refine rn (Ja @h1 @h2) ?_)
    refine Qav (QEH s (by omega) k h3) rfl ?_
    by_cases h4:8392<n4 s k
    ·rw [if_pos h4]
     have h4':8392<(n4 s k:Int):=by omega
     (refine rn @h4' ?_; try with_reducible exact⟨⟩)
    ·rw [if_neg h4]
     have h4':¬ 8392<(n4 s k:Int):=by omega
     have hw:IntKind.u32.wrap (n4 s (k+4+n4 s k):Int)=(n4 s (k+4+n4 s k):Int):=by
      have:=QCh s (k+4+n4 s k)
      simp[IntKind.wrap,IntKind.signed,IntKind.bits]; omega
     by_cases h5:k+4+n4 s k+4<=s.length
     ·rw [if_neg (by omega)]
      have hg:=QEH s (by omega) (k+4+n4 s k) h5
      have e:(((k+4+n4 s k:Nat)):Int)=(k:Int)+4+(n4 s k:Int):=by omega
      rw[e] at hg
      have h5':¬ (s.length:Int)-(k:Int)<(n4 s k:Int)+8:=by omega
      refine rn (Ja @h4' @h5') ?_
      refine Qav hg rfl ?_
      have ht:((k:Int)+4+(n4 s k:Int)).toNat=k+4+n4 s k:=by omega
      have q1:(0:Int)<=(k:Int)+4+(n4 s k:Int):=by omega
      have q2:k<=k+4+n4 s k:=by omega
      have q3:k+4+n4 s k<=s.length:=by omega
      have hx:=Qne ((s.take (k+4+n4 s k)).drop k)
      refine rn (Ja @ht (Ja @q1 (Ja @q2 (Ja @q3 @hw)))) ?_
      refine Qav (QoC _ (by rw[JL,Jp]; omega)) rfl ?_
      by_cases h6:(n4 s (k+4+n4 s k):Int)=Qnf ((s.take (k+4+n4 s k)).drop k)
      ·rw [if_neg (by omega)]
       have q4:((k:Int)+4).toNat=k+4:=by omega
       have q5:k+4<=k+4+n4 s k:=by omega
       have q6:(0:Int)<=(k:Int)+4:=by omega
       have e8:(((k+4+n4 s k+4:Nat)):Int)=(k:Int)+8+(n4 s k:Int):=by omega
       refine rn (Ja @h6 (Ja @ht (Ja @q1 (Ja @q2 (Ja @q3 (Ja @q4 (Ja @q5 @q6))))))) ?_
       rw[e8]
      ·rw [if_pos h6]
       (refine rn @h6 ?_; try with_reducible exact⟨⟩)
     ·rw [if_pos (by omega)]
      have h5':(s.length:Int)-(k:Int)<(n4 s k:Int)+8:=by omega
      (refine rn (Ja @h4' @h5') ?_; try with_reducible exact⟨⟩)
   ·rw [if_pos h3]
    (unfold Tryz.f239; refine rn (Ja @h1 @h2) ?_)
    refine Qav (QdH s k 4 (by omega) (by omega) (by omega)) rfl ?_
    (refine rn trivial ?_; try with_reducible exact⟨⟩)
section
structure RS(s:List UInt8) where
 at_:Int
 e:Int
 h:0<=at_/\at_<=s.length
def QnI(s:List UInt8)(a k:Nat):Int:=IntKind.i64.wrap (Qe8 s a k)
def QcW(s:List UInt8)(r:RS s)(k:Nat):Int×RS s:=
 if r.e=0 then if h:r.at_+k<=s.length then (QnI s r.at_.toNat k,⟨r.at_+k,0,by have:=r.h; omega⟩) else (0,⟨r.at_,5,r.h⟩) else (0,r)
def Qfj(s:List UInt8)(r:RS s)(n:Int):List UInt8×RS s:=
 if r.e=0 then if h:0<=n/\r.at_+n<=s.length then ((s.take (r.at_+n).toNat).drop r.at_.toNat,⟨r.at_+n,0,by have:=r.h; omega⟩) else ([],⟨r.at_,5,r.h⟩) else ([],r)
def Qq5(s:List UInt8)(p:Int×RS s):Ce×RS s :=
 if p.2.e=0/\¬ p.1=255 then
  if 12<p.1 then (Ce0,⟨p.2.at_,4,p.2.h⟩) else (⟨true,(Qfj s p.2 p.1).1⟩,(Qfj s p.2 p.1).2)
 else (Ce0,p.2)
def QfB(s:List UInt8)(r:RS s):Ce×RS s:=Qq5 s (QcW s r 1)
def QnH(s:List UInt8)(a k:Nat)(h:k<=7):0<=QnI s a k/\QnI s a k<2 ^ (8*k):=by
 have h1:=Qe7 s a k (by omega)
 have h2:=Ql4 s a k
 have h3:(2:Nat) ^ (8*k)<=2 ^ 56:=JC (by omega) (by omega)
 have h4:((2:Int) ^ (8*k))=((2 ^ (8*k):Nat):Int):=by rw[Kc]; rfl
 unfold QnI
 rw[h1,IntKind.wrap_i64,h4]
 omega
def Qt5(s:List UInt8)(r:RS s)(k:Nat)(h:k<=7):0<=(QcW s r k).1:=by
 unfold QcW
 split
 ·split
  ·exact(QnH s _ k h).1
  ·exact Jw _
 ·exact Jw _
abbrev RC(B:Blk)(d:DV):DV->Qa->Prop:=fun r h'=>∃ B',h'=[B']/\B'.live=true/\DV.nums.go (fun _=>false) B'.cells=true/\r.nums (fun _=>false)=true/\(r=d/\B'=B)
def rdB(T:TypeId)(s:List UInt8)(r:RS s):Blk:=⟨T,true,[.pv (.str s),.int .i64 r.at_,.int .i64 r.e]⟩
attribute [go_sem] rdB
attribute [local go_sem] Ce.d
def Qet(h:VCalls prog g (args.map (DV.ren fun _=>0)) [rdB T s r0] (RC (rdB T s r1) d))(hk:hp[k]?=some (rdB T s r0))(ha:DV.nums.go (fun i=>i==k) args=true)(hK:K d (hp.set k (rdB T s r1))):VCalls prog g args hp K:=
 (VCalls.ptr1 (R:=fun r B'=>r=d/\B'=rdB T s r1) hk rfl rfl h ha).mono fun r h' ⟨B',e1,_,_,e2,e3⟩=>by subst e1 e2 e3; exact hK
def Qch(s:List UInt8)(hs:s.length<=100000000)(r:RS s)(k:Nat)(hk:1<=k/\k<=8):VCalls prog 270 [.ptr 0 0,.int .i64 k] [rdB 358 s r] (RC (rdB 358 s (QcW s r k).2) (.int .i64 (QcW s r k).1)):=by
 refine dd Tryz.func270 ?_
 obtain⟨a,e,ha⟩:=r
 obtain⟨n,rfl⟩:∃ n:Nat,a=n:=⟨a.toNat,by omega⟩
 unfold QcW
 dsimp only
 by_cases he:e=0
 ·subst he
  rw[if_pos rfl]
  by_cases h:(n:Int)+k<=s.length
  ·rw [dif_pos h]
   have hg:=QiL s (by omega) n k hk (by omega)
   (unfold Tryz.f270; refine rn trivial ?_)
   refine Qb (id:=3) [0,1,2,3,4,5,6,7,8] [⟨[],[],9,[0,1,2,4,5,6],[10,11,12]⟩,⟨[],[],13,[12],[]⟩,⟨[],[],14,[],[]⟩] (by kernel_rfl) (by kernel_rfl) ?_
   refine rn trivial ?_
   refine Qav hg rfl ?_
   refine rn trivial ?_
   exact⟨_,rfl,rfl,rfl,rfl,rfl,rfl⟩
  ·rw [dif_neg h]
   have hg:=QdH s n k (by omega) (by omega) h
   (unfold Tryz.f270; refine rn trivial ?_)
   refine Qb (id:=3) [0,1,2,3,4,5,6,7,8] [⟨[],[],9,[0,1,2,4,5,6],[10,11,12]⟩,⟨[],[],13,[12],[]⟩,⟨[],[],14,[],[]⟩] (by kernel_rfl) (by kernel_rfl) ?_
   refine rn trivial ?_
   refine Qav hg rfl ?_
   refine rn trivial ?_
   exact⟨_,rfl,rfl,rfl,rfl,rfl,rfl⟩
 ·rw [if_neg he]
  (unfold Tryz.f270; refine rn @he ?_)
  exact⟨_,rfl,rfl,rfl,rfl,rfl,rfl⟩
def Qpb(s:List UInt8)(hs:s.length<=100000000)(r:RS s)(n:Int)(hn:0<=n/\n<=4294967296):VCalls prog 272 [.ptr 0 0,.int .i64 n] [rdB 358 s r] (RC (rdB 358 s (Qfj s r n).2) (.pv (.str (Qfj s r n).1))):=by
 refine dd Tryz.func272 ?_
 obtain⟨a,e,ha⟩:=r
 obtain⟨n,rfl⟩:∃ m:Nat,n=m:=⟨n.toNat,by omega⟩
 obtain⟨a,rfl⟩:∃ m:Nat,a=m:=⟨a.toNat,by omega⟩
 unfold Qfj
 dsimp only
 by_cases he:e=0
 ·subst he
  rw[if_pos rfl]
  by_cases h:0<=(n:Int)/\(a:Int)+n<=s.length
  ·rw [dif_pos h]
   have q1:¬ (s.length:Int)-a<n:=by omega
   have q2:¬ (s.length:Int)-a<n:=by omega
   have q3:¬ (s.length:Int)-(a:Int)<(n:Int):=by omega
   have q4:((a:Int)+n).toNat=a+n:=by omega
   have q5:(a:Int)+n-n=a:=by omega
   have q6:a<=a+n:=by omega
   have q7:a+n<=s.length:=by omega
   have q8:0<=(a:Int)+n:=by omega
   have q9:(a:Int).toNat=a:=by omega
   have q10:¬ (n:Int) > (s.length:Int)-a:=by omega
   (unfold Tryz.f272; refine rn @q3 ?_)
   refine Qby (by kernel_rfl) (by kernel_rfl) ?_
   refine rn (Ja @q3 @q10) ?_
   refine Qby (by kernel_rfl) (by kernel_rfl) ?_
   refine rn (Ja @q4 (Ja @q5 (Ja @q6 (Ja @q7 @q8)))) ?_
   exact⟨_,rfl,rfl,rfl,rfl,rfl,rfl⟩
  ·rw [dif_neg h]
   have q3:(s.length:Int)-(a:Int)<(n:Int):=by omega
   (unfold Tryz.f272; refine rn @q3 ?_)
   refine Qby (by kernel_rfl) (by kernel_rfl) ?_
   refine rn @q3 ?_
   exact⟨_,rfl,rfl,rfl,rfl,rfl,rfl⟩
 ·rw [if_neg he]
  (unfold Tryz.f272; refine rn @he ?_)
  exact⟨_,rfl,rfl,rfl,rfl,rfl,rfl⟩
def Qma(s:List UInt8)(hs:s.length<=100000000)(r:RS s):VCalls prog 271 [.ptr 0 0] [rdB 358 s r] (RC (rdB 358 s (QfB s r).2) (.agg (QfB s r).1.d)):=by
 refine dd Tryz.func271 ?_
 have hn:=Qch s hs r 1 (by omega)
 have h0:=Qt5 s r 1 (by omega)
 have h1:(QcW s r 1).1<=255:=by
  unfold QcW
  split
  ·split
   ·have:=(QnH s r.at_.toNat 1 (by omega)).2; dsimp only; omega
   ·simp
  ·simp
 unfold QfB
 generalize QcW s r 1=p at hn h0 h1 |-
 obtain⟨n,r1⟩:=p
 unfold Qq5
 dsimp only at hn h0 h1 |-
 (unfold Tryz.f271; refine rn trivial ?_)
 refine Qet (k:=0) hn rfl rfl ?_
 by_cases he:r1.e=0
 ·by_cases h2:n = 255
  ·subst h2
   rw[if_neg (by simp)]
   refine rn @he ?_
   exact⟨_,rfl,rfl,rfl,rfl,rfl,by rw[<- he]⟩
  ·rw [if_pos ⟨he,h2⟩]
   by_cases h3:12<n
   ·rw [if_pos h3]
    refine rn (Ja @he (Ja @h2 @h3)) ?_
    exact⟨_,rfl,rfl,rfl,rfl,rfl,rfl⟩
   ·rw [if_neg h3]
    have ht:=Qpb s hs r1 n (by omega)
    refine rn (Ja @he (Ja @h2 @h3)) ?_
    have e9:(⟨358,true,[.pv (.str s),.int .i64 r1.at_,.int .i64 0]⟩:Blk)=rdB 358 s r1:=by rw[rdB,he]
    rw[e9]
    refine Qet (k:=0) ht rfl rfl ?_
    refine rn trivial ?_
    exact⟨_,rfl,rfl,rfl,rfl,rfl,rfl⟩
 ·rw [if_neg (fun h=>he h.1)]
  refine rn @he ?_
  exact⟨_,rfl,rfl,rfl,rfl,rfl,rfl⟩
end
section
attribute [local go_sem] Ce.d
def rs0(s:List UInt8):RS s:=⟨0,0,by omega⟩
def Qyh(s:List UInt8)(r:RS s):(QcW s r 4).1<=4294967296:=by
 unfold QcW
 split
 ·split
  ·have:=(QnH s r.at_.toNat 4 (by omega)).2; dsimp only; omega
  ·simp
 ·simp
def Qvr(s:List UInt8):E×RS s:=
 let p1:=QcW s (rs0 s) 8
 let p2:=QcW s p1.2 1
 let p3:=QcW s p2.2 4
 let p4:=QcW s p3.2 8
 let p5:=QcW s p4.2 8
 let p6:=QcW s p5.2 8
 let p7:=QcW s p6.2 4
 let p8:=QcW s p7.2 1
 let c1:=QfB s p8.2
 let c2:=QfB s c1.2
 let p9:=QcW s c2.2 4
 let t:=Qfj s p9.2 p9.1
 (⟨p1.1,p2.1,p3.1,p4.1,p5.1,p6.1,⟨p7.1,p8.1,c1.1,c2.1⟩,t.1⟩,t.2)
def Qrn(s:List UInt8):E×Int:=
 if (Qvr s).2.e=0 then if (Qvr s).2.at_=s.length then if (Qvr s).1.okB=true then ((Qvr s).1,0) else (E0,12) else (E0,4) else (E0,(Qvr s).2.e)
def QqA(s:List UInt8)(hs:s.length<=100000000):VCalls prog 241 [.pv (.str s)] [] (Ret (.tup [.agg (Qrn s).1.d,.int .i64 (Qrn s).2])):=by
 have hp1:=Qch s hs (rs0 s) 8 (by omega)
 generalize hqp1:QcW s (rs0 s) 8=p1 at hp1
 have hp2:=Qch s hs p1.2 1 (by omega)
 generalize hqp2:QcW s p1.2 1=p2 at hp2
 have hp3:=Qch s hs p2.2 4 (by omega)
 generalize hqp3:QcW s p2.2 4=p3 at hp3
 have hp4:=Qch s hs p3.2 8 (by omega)
 generalize hqp4:QcW s p3.2 8=p4 at hp4
 have hp5:=Qch s hs p4.2 8 (by omega)
 generalize hqp5:QcW s p4.2 8=p5 at hp5
 have hp6:=Qch s hs p5.2 8 (by omega)
 generalize hqp6:QcW s p5.2 8=p6 at hp6
 have hp7:=Qch s hs p6.2 4 (by omega)
 generalize hqp7:QcW s p6.2 4=p7 at hp7
 have hp8:=Qch s hs p7.2 1 (by omega)
 generalize hqp8:QcW s p7.2 1=p8 at hp8
 have hc1:=Qma s hs p8.2
 generalize hqc1:QfB s p8.2  = c1 at hc1
 have hc2:=Qma s hs c1.2
 generalize hqc2:QfB s c1.2  = c2 at hc2
 have hp9:=Qch s hs c2.2 4 (by omega)
 generalize hqp9:QcW s c2.2 4=p9 at hp9
 have ht:=Qpb s hs p9.2 p9.1 ⟨by rw[<- hqp9]; exact Qt5 s _ 4 (by omega),by rw[<- hqp9]; exact Qyh s _⟩
 generalize hqt:Qfj s p9.2 p9.1=t at ht
 have hd:Qvr s=(⟨p1.1,p2.1,p3.1,p4.1,p5.1,p6.1,⟨p7.1,p8.1,c1.1,c2.1⟩,t.1⟩,t.2):=by
  unfold Qvr
  simp only[hqp1,hqp2,hqp3,hqp4,hqp5,hqp6,hqp7,hqp8,hqc1,hqc2,hqp9,hqt]
 have hv:=QcJ ⟨p1.1,p2.1,p3.1,p4.1,p5.1,p6.1,⟨p7.1,p8.1,c1.1,c2.1⟩,t.1⟩
 unfold Qrn
 rw[hd]
 clear hqt hqp9 hqc2 hqc1 hqp8 hqp7 hqp6 hqp5 hqp4 hqp3 hqp2 hqp1 hd
 obtain⟨n1,r1⟩:=p1
 obtain⟨n2,r2⟩:=p2
 obtain⟨n3,r3⟩:=p3
 obtain⟨n4,r4⟩:=p4
 obtain⟨n5,r5⟩:=p5
 obtain⟨n6,r6⟩:=p6
 obtain⟨n7,r7⟩:=p7
 obtain⟨n8,r8⟩:=p8
 obtain⟨x1,r9⟩:=c1
 obtain⟨x2,r10⟩:=c2
 obtain⟨n9,r11⟩:=p9
 obtain⟨tt,r12⟩:=t
 dsimp only at *
 refine dd Tryz.func241 ?_
 (unfold Tryz.f241; refine rn trivial ?_)
 have e0:(⟨358,true,[.pv (.str s),.int .i64 0,.int .i64 0]⟩:Blk)=rdB 358 s (rs0 s):=rfl
 rw[e0]
 refine Qet (k:=1) hp1 rfl rfl ?_
 refine rn trivial ?_
 refine Qet (k:=1) hp2 rfl rfl ?_
 refine rn trivial ?_
 refine Qet (k:=1) hp3 rfl rfl ?_
 refine rn trivial ?_
 refine Qet (k:=1) hp4 rfl rfl ?_
 refine rn trivial ?_
 refine Qet (k:=1) hp5 rfl rfl ?_
 refine rn trivial ?_
 refine Qet (k:=1) hp6 rfl rfl ?_
 refine rn trivial ?_
 refine Qet (k:=1) hp7 rfl rfl ?_
 refine rn trivial ?_
 refine Qet (k:=1) hp8 rfl rfl ?_
 refine rn trivial ?_
 refine Qet (k:=1) hc1 rfl rfl ?_
 refine rn trivial ?_
 refine Qet (k:=1) hc2 rfl rfl ?_
 refine rn trivial ?_
 refine Qet (k:=1) hp9 rfl rfl ?_
 refine rn trivial ?_
 refine Qet (k:=1) ht rfl rfl ?_
 refine rn trivial ?_
 by_cases he:r12.e=0
 ·rw [if_pos he]
  by_cases ha:r12.at_=s.length
  ·rw [if_pos ha]
   refine rn (Ja @he @ha) ?_
   by_cases hb:E.okB ⟨n1,n2,n3,n4,n5,n6,⟨n7,n8,x1,x2⟩,tt⟩=true
   ·rw [if_pos hb]
    rw[hb] at hv
    refine Qav hv rfl ?_
    refine rn trivial ?_
    first | exact⟨⟩ | rfl
   ·rw [if_neg hb]
    have hb:E.okB ⟨n1,n2,n3,n4,n5,n6,⟨n7,n8,x1,x2⟩,tt⟩=false:=by simpa using hb
    rw[hb] at hv
    refine Qav hv rfl ?_
    refine rn trivial ?_
    rfl
  ·rw [if_neg ha]
   refine rn (Ja @he @ha) ?_
   rfl
 ·rw [if_neg he]
  refine rn @he ?_
  refine Qby (by kernel_rfl) (by kernel_rfl) ?_
  refine rn trivial ?_
  rfl
end
def QgT(s:List UInt8)(a l:Int):Option (E×Int):=if (unf s a).2.2=0/\(Qrn (unf s a).1).2=0/\(Qrn (unf s a).1).1.lsn=l then some ((Qrn (unf s a).1).1,(unf s a).2.1) else none
def opn (s:List UInt8):Nat->Int->Int->List E
 | 0,_,_=>[]
 | n + 1,a,l=>match QgT s a l with
   | some (x,b)=>x::opn s n b (l+1)
   | none=>[]
def QDY(s:List UInt8):List E:=opn s 4096 (unf s 0).2.1 (QnI (unf s 0).1 4 8)
def hdO(s:List UInt8):Prop:=(unf s 0).2.2=0/\(unf s 0).1.length=12/\(unf s 0).1.take 4=[80,77,76,71]/\1<=QnI (unf s 0).1 4 8/\QnI (unf s 0).1 4 8<=1099511627776
instance (s:List UInt8):Decidable (hdO s):=by unfold hdO; infer_instance
def Qce(s:List UInt8):Lg×Int:=if hdO s then (⟨QnI (unf s 0).1 4 8,QDY s,QnI (unf s 0).1 4 8+(QDY s).length-1⟩,0) else (Lg0,4)
def Qt0 (s:List UInt8):∀ n a l,(opn s n a l).length<=n
 | 0,_,_=>Jy _
 | n + 1,a,l=>by
   unfold opn
   split
   ·rw[Jt]; have:=Qt0 s n; exact JY (this _ _)
   ·exact Jc _
def QoX(n:Nat)(h:QgT s a l=none):opn s n a l=[]:=by
 cases n
 ·rfl
 ·unfold opn; rw[h]
def QsG(h:(unf s a).2.2≠0):QgT s a l=none:=if_neg fun x=>h x.1
structure Op(s:List UInt8)(f a0:Int) where
 l:List E
 a:Int
 hl:l.length<=4096
 h:l++opn s (4096-l.length) a (f+l.length)=opn s 4096 a0 f
def Op.start(s:List UInt8)(f a0:Int):Op s f a0:=⟨[],a0,Jc _,by simp⟩
def Qyd(hn:n<4096)(h:QgT s a l=some (x,b)):opn s (4096-n) a l=x::opn s (4096-(n+1)) b (l+1):=by
 obtain⟨m,hm⟩:∃ m,4096-n=m+1:=⟨4095-n,by omega⟩
 rw[hm,show 4096-(n+1)=m by omega]
 conv=>lhs; unfold opn
 rw[h]
def Op.next{s:List UInt8}{f a0:Int}(o:Op s f a0)(hn:o.l.length<4096){x:E}{b:Int}(h:QgT s o.a (f+o.l.length)=some (x,b)):Op s f a0:=⟨o.l++[x],b,by simp; omega,by
 have:=o.h
 rw[Qyd hn h] at this
 rw[<- this,Jb,Jv,Js,List.singleton_append]
 congr 3
 omega⟩
def Op.stop(o:Op s f a0)(h:o.l.length<4096->QgT s o.a (f+o.l.length)=none):opn s 4096 a0 f=o.l:=by
 rw[<- o.h]
 by_cases hc:o.l.length<4096
 ·rw[QoX _ (h hc),JF]
 ·have:=o.hl
  rw[show 4096-o.l.length=0 by omega]; exact JF _
def QBH(s:List UInt8)(hs:s.length<=100000000):VCalls prog 196 [.pv (.str s)] [] (Ret (lgD (Qce s))):=by
 refine VCalls.unwk ?_
 refine dd Tryz.func196 ?_
 have c0:=QiJ s hs 0
 have hu:=QzK s 0
 generalize hR:Qce s=R
 unfold QGk at c0
 generalize hU:unf s 0=u at *
 obtain⟨u,a0,e0⟩:=u
 dsimp only at hu c0
 (unfold Tryz.f196; refine rn trivial ?_)
 by_cases he:e0=0
 rotate_left
 ·skip
  have F:=@he
  refine rn F ?_
  repeat' (first
   | with_reducible exact⟨⟩
   | refine vp F (c0) ?_)
  all_goals
   rw[<- hR]
   unfold Qce
   rw[if_neg (fun h=>by have h1:=h.1; rw[hU] at h1; exact he h1)]
   rfl
 subst he
 by_cases hl:u.length=12
 rotate_left
 ·have hl2:¬ (u.length:Int) = 12:=by omega
  have F:=@hl2
  refine rn F ?_
  repeat' (first
   | with_reducible exact⟨⟩
   | refine vp F (c0) ?_)
  all_goals first
   | (rw[<- hR]; unfold Qce; rw[if_neg (fun h=>by have h1:=h.2.1; rw[hU] at h1; exact hl h1)]; rfl)
   | (exfalso; omega)
 have h4:4<=u.length:=by omega
 have c3:=QiL u (by omega) 4 8 (by omega) (by omega)
 have hN:IntKind.i64.wrap (Qe8 u 4 8)=QnI u 4 8:=rfl
 rw[hN] at c3
 generalize hn:QnI u 4 8=f at *
 have hl3:(u.length:Int)=12:=by omega
 by_cases hp:u.take 4=[80,77,76,71]
 rotate_left
 ·skip
  have F:=(Ja @h4 (Ja @hl3 @hp))
  refine rn F ?_
  repeat' (first
   | with_reducible exact⟨⟩
   | (refine sG F ?_ ?_<;>intro hZ)
   | (refine sB F ?_ ?_<;>intro hZ)
   | refine vp F (c0) ?_
   | refine vp F (c3) ?_)
  all_goals first
   | (rw[<- hR]; unfold Qce; rw[if_neg (fun h=>by have h1:=h.2.2.1; rw[hU] at h1; exact hp h1)]; rfl)
   | (exfalso; omega)
   | skip
  all_goals (exfalso; simp_all)
 by_cases hf:1<=f/\f<=1099511627776
 rotate_left
 ·skip
  have F:=(Ja @h4 (Ja @hl3 @hp))
  refine rn F ?_
  repeat' (first
   | with_reducible exact⟨⟩
   | (refine sG F ?_ ?_<;>intro hZ)
   | refine vp F (c0) ?_
   | refine vp F (c3) ?_)
  all_goals first
   | (rw[<- hR]; unfold Qce; rw[if_neg (fun h=>by have h1:=h.2.2.2; rw[hU,hn] at h1; exact hf h1)]; rfl)
   | (exfalso; omega)
 have F:=(Ja @h4 (Ja @hl3 @hp))
 refine rn F ?_
 repeat' (first
  | with_reducible exact⟨⟩
  | refine vp F (c0) ?_
  | refine vp F (c3) ?_)
 all_goals first | (exfalso; omega) | skip
 refine VLoop.nilOwnC 1 1 44 13 rfl rfl ?_
 refine rn trivial ?_
 refine Qj (fun o:{o:Op s f a0×Int // o.2=f+o.1.l.length-1}=>⟨90,0,[(9,.ptr 1 0),(5,.int .i64 o.1.1.a),(2,.ptr 0 0),(0,.pv (.str s))],[⟨34,true,[.int .i64 0,.pv (.slc []),.int .i64 0]⟩,⟨34,true,[.int .i64 f,.own 2 13 0 o.1.1.l.length,.int .i64 o.1.2]⟩,⟨44,true,cells QaR o.1.1.l⟩]⟩) (fun o=>4096-o.1.1.l.length) ⟨(Op.start s f a0,f-1),by simp[Op.start]⟩ (gc [0,1,2]) ?_
 rintro⟨⟨o,d⟩,hd⟩
 dsimp only at hd |-
 have hol:=o.hl
 have hst:=o.stop
 have c4:=QiJ s hs o.a
 unfold QGk at c4
 have hu2:=QzK s o.a
 have hso:QgT s o.a (f+o.l.length)=if (unf s o.a).2.2=0/\(Qrn (unf s o.a).1).2=0/\(Qrn (unf s o.a).1).1.lsn=f+o.l.length then some ((Qrn (unf s o.a).1).1,(unf s o.a).2.1) else none:=rfl
 generalize unf s o.a=v at *
 obtain⟨v,b,e⟩:=v
 dsimp only at hu2 hso c4
 have c5:=QqA v (by omega)
 generalize Qrn v=D at *
 have hb:(o.l.length+1)*128<=140737488355328:=by omega
 have fin:(o.l.length<4096->QgT s o.a (f+o.l.length)=none)->DV.tup [.agg [.int .i64 f,.pv (.sl (fz QaR o.l)),.int .i64 d],.int .i64 0]=lgD R:=fun h=>by
  have h1:hdO s:=by unfold hdO; rw[hU,hn]; exact⟨rfl,hl,hp,hf⟩
  have h2:QDY s=o.l:=by unfold QDY; rw[hU,hn]; exact hst h
  rw[<- hR,hd]
  unfold Qce
  rw[if_pos h1,h2,hU,hn]
  rfl
 have F:=@hb
 refine rn F ?_
 repeat' (first
  | with_reducible exact⟨⟩
  | (refine sG F ?_ ?_<;>intro hZ)
  | (refine sB F ?_ ?_<;>intro hZ)
  | refine vp F (c4) ?_
  | refine vp F (c5) ?_)
 ·exact fin fun _=>by rw[hso,if_neg fun h=>by have h1:=h.1; omega]
 ·exact fin fun _=>by rw[hso,if_neg fun h=>by have h1:=h.2.1; have h2:=h.2.2; omega]
 ·have hl1:(o.l ++ [D.1]).length = o.l.length + 1:=by simp
  refine⟨⟨(o.next (by omega) (x:=D.1) (b:=b) (by rw[hso,if_pos ⟨by omega,by omega,by omega⟩]),D.1.lsn),?_⟩,?_,?_⟩
  ·dsimp only[Op.next]; rw[hl1]; omega
  ·dsimp only[Op.next]; rw[hl1]; omega
  ·dsimp only [Op.next]
   rw[hl1]
   exact(gc [0,1,5])
 ·exact fin fun _=>by rw[hso,if_neg fun h=>by have h1:=h.2.1; omega]
 ·exact fin fun h=>by omega
def Ql5:∀ {k:Nat},(∀ i,i<k->s.getD (a+i) 0=t.getD (b+i) 0)->leN s a k=leN t b k
 | 0,_=>rfl
 | k+1,h=>by rw[leN,leN,Ql5 (fun i hi=>h i (by omega)),h k (by omega)]
def Quh(s t:List UInt8)(n:Int)(k:Nat)(hk:k<=8):leN (Ql s n k++t) s.length k=u64N n % 2 ^ (8*k):=by
 have h:=QhO s t n k hk k (Jy _)
 rw[Qe7 _ _ _ hk] at h
 omega
def frq(q:List UInt8):List UInt8:=Ql [] q.length 4++q
def QnX(q:List UInt8):(frq q).length=q.length+4:=by rw[frq,Jb,Qd]; simp; omega
def QuX(h:q.length<=8392):frm q=Ql (frq q) (Qnf (frq q)) 4:=by rw[frm,if_pos h]; rfl
def Qhu(h:q.length<=8392):(frm q).length=q.length+8:=by rw[QuX h,Qd,QnX]
def QtM(p q:List UInt8)(n:Int)(k:Nat):p++Ql q n k=Ql (p++q) n k:=by simp[Ql]
def QuW(h:q.length<=8392)(p r:List UInt8):p++(frm q++r)=Ql (p++frq q) (Qnf (frq q)) 4++r:=by
 rw[QuX h,<- QtM,Js]
def QE2(h:q.length<=8392)(p r:List UInt8):n4 (p++(frm q++r)) p.length=q.length:=by
 have:=Quh p (q++((Kl 4).map (QmA (Qnf (frq q)))++r)) q.length 4 (by omega)
 have e:p++(frm q++r)=Ql p q.length 4++(q++((Kl 4).map (QmA (Qnf (frq q)))++r)):=by
  rw[QuX h]
  generalize Qnf (frq q)=z
  simp only[frq,Ql,J0,Js]
 rw[n4,e,this]
 unfold u64N; omega
def QE1(h:q.length<=8392)(p r:List UInt8):(n4 (p++(frm q++r)) (p.length+4+q.length):Int)=Qnf (frq q):=by
 have:=Quh (p++frq q) r (Qnf (frq q)) 4 (by omega)
 have hx:=Qne (frq q)
 have hl:(p++frq q).length=p.length+4+q.length:=by rw[Jb,QnX]; omega
 rw[QuW h,n4,<- hl,this]
 unfold u64N; omega
def QFq(h:q.length<=8392)(p r:List UInt8):((p++(frm q++r)).take (p.length+4+q.length)).drop p.length=frq q:=by
 have hl:(p++frq q).length=p.length+4+q.length:=by rw[Jb,QnX]; omega
 rw[QuW h,Ql,Js,List.take_left' hl,J3]
def QzL(h:q.length<=8392)(p r:List UInt8):unf (p++(frm q++r)) p.length=(q,((p.length+(q.length+8):Nat):Int),0):=by
 have h1:=QE2 h p r
 have h2:=QE1 h p r
 have h3:=QFq h p r
 have hl:=Qhu h
 have hs:(p++(frm q++r)).length=p.length+(q.length+8)+r.length:=by rw[Jb,Jb,hl]; omega
 unfold unf
 rw[Jk,if_neg (by omega),if_neg (by omega),h1,if_neg (by omega),if_neg (by omega),h2,h3,if_neg (by simp)]
 have e:((p++(frm q++r)).take (p.length+4+q.length)).drop (p.length+4)=q:=by
  rw[<- List.drop_drop,h3,frq,List.drop_left' (by rw[Qd]; rfl)]
 rw[e]
 congr 2
 omega
def QA6(h:q.length<=8392)(p:List UInt8)(k:Nat)(hk:k<q.length+8):(unf (p++(frm q).take k) p.length).2.2=5:=by
 have hl:=Qhu h
 have hs:(p++(frm q).take k).length=p.length+k:=by rw[Jb,Jp]; omega
 unfold unf
 rw[Jk,if_neg (by omega)]
 by_cases h4:k<4
 ·rw[if_pos (by omega)]
 have h1:=QE2 h p []
 have h0:n4 (p++(frm q).take k) p.length=q.length:=by
  rw[<- h1]
  refine Ql5 fun i hi=>?_
  rw[Je,Je,JI (by omega),JI (by omega),List.getElem?_take,if_pos (by omega),JF]
 rw[if_neg (by omega),h0,if_neg (by omega),if_pos (by omega)]
def QA5(p:List UInt8):(unf p p.length).2.2=5:=by
 unfold unf
 rw[Jk,if_neg (by omega),if_pos (by omega)]
end Go.Proofs.YtepdccfgnafgcaaGreat
