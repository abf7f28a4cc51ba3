/-
  Contracts of functions and plain laws. No condition.
-/
import Derived.Test.YtdkdbodcffiiaaaGreatP2
import Derived.Test.YtdkdbodcffiiaaaGreatP1
import Derived.Test.YtdkdbodcffiiaaaGreatV3
set_option linter.unusedSimpArgs false
set_option linter.unusedVariables false
set_option linter.defProp false
set_option maxRecDepth 100000
set_option maxHeartbeats 8000000
set_option autoImplicit true
set_option relaxedAutoImplicit true
open And renaming intro->Ja
open Bool renaming and_eq_true->Jb,not_eq_true'->Jm,and_eq_false_iff->Jn,true_and->Jv,eq_iff_iff->Jx,or_eq_true->JB,false_eq_true->JH,false_and->JO,or_false->JT,and_false->JZ,eq_false_iff->J2,false_or->J3,not_true->J4,or_eq_false_iff->J9,and_true->Kf,not_not->Kl,not_false->Kx
open Classical renaming byContradiction->J0
open Int renaming toNat_natCast->JE
open List renaming length_append->Jc,mem_range->Je,range->Jg,replicate->Jh,getD_eq_getElem?_getD->Ji,mem_cons->Jj,mem_singleton->Jk,not_mem_nil->Jl,all_eq_true->Jo,filter_eq_self->Jp,length_replicate->Jq,getElem?_eq_getElem->Jr,mem_cons_of_mem->Js,mem_filter->Jt,mem_cons_self->Ju,range_succ->Jw,map_cons->Jz,countP_congr->JC,append_assoc->JD,filter_cons->JF,countP_pos_iff->JG,length_nil->JJ,take_succ_eq_append_getElem->JK,take_of_length_le->JL,filter_congr->JM,getElem?_map->JN,length_cons->JP,getElem_mem->JR,append_nil->JU,nodup_cons->JV,pairwise_cons->JW,filter_append->JX,countP_append->JY,getElem?_eq_some_iff->J1,any_eq_true->J5,find?_cons->J6,mem_iff_getElem?->J7,length_filter_le->J8,filter_sublist->Kb,flatMap_append->Kc,filter_filter->Ke,all_eq_false->Kh,findIdx_cons->Ki,any_eq_false->Kj,take_length->Km,getElem_map->Ko,flatMap_def->Kq,length_drop->Kr,length_take->Ks,map_append->Ku,all_append->Kw,nodup_nil->Ky,mem_map->Kz,Sublist->KA
open Nat renaming zero_le->Jd,le_trans->Jf,lt_succ_iff_lt_or_eq->Jy,le_refl->JA,not_lt_zero->JI,lt_succ_self->JQ,pow_le_pow_right->JS,mul_le_mul_right->Ka,mul_le_mul_left->Kd,add_sub_cancel->Kg,le_of_lt->Kk,succ_le_succ->Kt,mul_succ->KB,le_succ->KC
open Option renaming getD_some->Kp,some->Kv
namespace Go.Proofs.YtdkdbodcffiiaaaGreat
open Go.V Go
open Tryz (prog)
section
attribute [local go_sem] Qbj
def Qtc (v:Dv) (hl:v.ps.length<=100000) (pg:Int) (s:List UInt8) (hs0:s.length<=1000000):VCalls prog 127 [.agg v.d,.int .i64 pg,.pv (.str s)] [] (QI dvD dvQ):=by
 refine dk Tryz.func127 ?_
 have c1:=Qg0 v hl pg
 (unfold Tryz.f127; refine rn trivial ?_)
 refine Ql c1 rfl ?_
 rintro e he
 by_cases h0:e = 0
 rotate_left
 ·skip
  have F:=@h0
  refine rn F ?_
  exact ⟨rfl,rfl,(Dv0,e),rfl,Jd _⟩
 obtain ⟨q1,q2,q3⟩:=he h0
 subst h0
 have F:=trivial
 refine rn F ?_
 repeat' (first
  | with_reducible exact ⟨⟩
  | (refine sB F ?_ ?_<;>intro hZ))
 all_goals first
  | exact ⟨rfl,rfl,(Dv0,_),rfl,Jd _⟩
  | skip
 obtain ⟨i,rfl⟩:∃ i:Nat,pg = i:=⟨pg.toNat,by omega⟩
 have hi:i < v.ps.length:=by omega
 have hwr:=q1.2.1
 refine Qr0 v hl ?_
 unfold QqA cpD
 have F:=trivial
 refine rn F ?_
 refine Qg (fun _:Unit=>⟨166,0,[(11,.int .i64 0),(10,.pv (.slc [])),(9,.ptr 4 0),(6,.ptr 1 0),(3,.ptr 0 0),(2,.pv (.str s)),(1,.int .i64 i)],[⟨80,true,v.d⟩,⟨80,true,[.pv (.slc []),.int .i64 0,.pv (.slc []),.bool false,.pv (.slc [])]⟩,⟨9,true,cells QdR v.ps⟩,⟨3,true,[]⟩,⟨80,true,[.own 2 1 0 v.ps.length,.int .i64 (v.wr + 1),.own 3 1 0 0,.bool v.dead,.pv (.slc [])]⟩]⟩) (fun _=>0) () (gc [0,1,4,5,7]) ?_
 intro _
 have F:=trivial
 refine rn F ?_
 refine Qg (fun _:Unit=>⟨166,0,[(13,.int .i64 0),(12,.bool false),(10,.pv (.slc [])),(9,.ptr 3 0),(6,.ptr 0 0),(2,.pv (.str s)),(1,.int .i64 i)],[⟨80,true,[.pv (.slc []),.int .i64 0,.pv (.slc []),.bool false,.pv (.slc [])]⟩,⟨9,true,cells QdR v.ps⟩,⟨3,true,[]⟩,⟨80,true,[.own 1 1 0 v.ps.length,.int .i64 (v.wr + 1),.own 2 1 0 0,.bool v.dead,.pv (.slc [])]⟩]⟩) (fun _=>0) () (gc [1,2,3,4]) ?_
 intro _
 have F:=trivial
 refine rn F ?_
 refine VCalls.wkA (VCalls.neA ?_)
 have hpos:0 < v.ps.length:=by omega
 refine rn trivial ?_
 simp only [Jz,List.map_nil,DV.ne,QtW hpos,Qou,Qzh,DV.wk,DV.wk.go,PV.wk]
 refine QrY 1 (Qn8 v.ps (v.wr + 1) v.dead i hi (q1.2.2 i hi) s 256 (by omega) (by omega)) rfl ⟨rfl,Qu _ _ _⟩ (Qu _ _ _) rfl rfl (r2:=dvO 1 v.ps.length (v.wr + 1) v.dead) rfl ?_
 unfold dvO
 have hle:∀ x,(v.ps.set i x).length = v.ps.length:=fun x=>List.length_set
 have F:=@hle
 refine rn F ?_
 have hlL:=hle (s.take 256 ++ (v.ps.getD i []).drop 256)
 generalize v.ps.set i (s.take 256 ++ (v.ps.getD i []).drop 256) = L at *
 refine Qg (fun _:Unit=>⟨166,0,[(14,.int .i64 0),(10,.pv (.slc [])),(9,.ptr 2 0),(6,.ptr 0 0)],[⟨80,true,[.pv (.slc []),.int .i64 0,.pv (.slc []),.bool false,.pv (.slc [])]⟩,⟨9,true,cells QdR L⟩,⟨80,true,[.own 1 1 0 v.ps.length,.int .i64 (v.wr + 1),.pv (.sl []),.bool v.dead,.pv (.sl [])]⟩]⟩) (fun _=>0) () (gc [0,1,3]) ?_
 intro _
 have F:=@hlL
 refine rn F ?_
 exact ⟨rfl,rfl,(⟨L,v.wr + 1,v.dead⟩,0),rfl,by unfold dvQ; have:=q1.1.2; dsimp only; omega⟩
end
section
attribute [local go_sem] Qbj
def Qjs (n:Nat) (hn:n<=1000):VCalls prog 162 [.int .i64 n] [] (Ret (.pv (.str (Jh n 0)))):=by
 refine dd Tryz.func162 ?_
 have hm:(((1:Nat):Int) * (n:Int)<=281474976710656) = True:=eq_true (by omega)
 have hm2:((n:Int) * ((1:Nat):Int)<=281474976710656) = True:=eq_true (by omega)
 have hcw:=fun (hp:Qb) (k o n:Nat)=>Qe0 (hp:=hp) (k:=k) (off:=o) (len:=n) QFE
 have hcv:∀ hp:Qb,QAb hp 0 n (some (cells Qfy (Jh n 0))) = some (.pv (.str (Jh n 0)),hp):=fun hp=>QdB (by simp)
 have hm3:((0:Int)<=(n:Int)/\(n:Int)<=(n:Int)/\(n:Int)<=9223372036854775807) = True:=eq_true ⟨by omega,by omega,by omega⟩
 (unfold Tryz.f162; refine rn (Ja @hm (Ja @hm2 (Ja @hm3 (Ja @hcw @hcv)))) ?_; try with_reducible exact ⟨⟩)
def Qxi:VCalls prog 259 [] [] (Ret (.pv (.str (Jh 256 0)))):=by
 refine dd Tryz.func259 ?_
 have c1:=Qjs 256 (by omega)
 (unfold Tryz.f259; refine rn trivial ?_)
 refine rn F ?_
 repeat' (first
  | with_reducible exact ⟨⟩
  | refine vp F (c1) ?_)
def QCF (x:Pg) (i:Nat) (h:i < 16):x.d[2 + i * 2 + 1]? = some (.pv (.str (x.cel i).data)):=by
 have:i = 0\/i = 1\/i = 2\/i = 3\/i = 4\/i = 5\/i = 6\/i = 7\/i = 8\/i = 9\/i = 10\/i = 11\/i = 12\/i = 13\/i = 14\/i = 15:=by omega
 rcases this with h | h | h | h | h | h | h | h | h | h | h | h | h | h | h | h<;>subst h<;>rfl
def QBC (h:QaX p = 0) (i:Nat) (hi:i < 16):(p.cel i).data.length<=12:=by
 have:=Qvm h
 unfold Pg.okB Pg.celB at this
 simp only [Jb,Jo,Je] at this
 have:=this.2 i hi
 unfold Pg.celC Ce.okB at this
 simp only [Jb,decide_eq_true_eq] at this
 exact this.1.1
def QmZ (p:Pg):VCalls prog 126 [.agg p.d] [] (QI siD fun a=>a.1.length<=256):=by
 refine dd Tryz.func126 ?_
 have c1:=QdL p
 have hcel:=QBC (p:=p)
 by_cases hk:QaX p = 0
 rotate_left
 ·generalize QaX p = k at *
  (unfold Tryz.f126; refine rn trivial ?_)
  have F:=@hk
  refine rn F ?_
  repeat' (first
   | with_reducible exact ⟨⟩
   | refine vp F (c1) ?_)
  exact ⟨rfl,rfl,([],k),rfl,Jd _⟩
 rw [hk] at c1
 have hcel:=hcel hk
 have c2:=Qcl [] (by simp) p.lsn 8 (by omega) (by omega)
 have c3:=Qcl (Qay [] p.lsn 8) (by rw [Qr]; simp) p.id 4 (by omega) (by omega)
 have hl0:(Qay (Qay [] p.lsn 8) p.id 4).length = 12:=by rw [Qr,Qr]; rfl
 (unfold Tryz.f126; refine rn trivial ?_)
 have F:=trivial
 refine rn F ?_
 repeat' (first
  | with_reducible exact ⟨⟩
  | refine vp F (c1) ?_
  | refine vp F (c2) ?_
  | refine vp F (c3) ?_)
 generalize Qay (Qay [] p.lsn 8) p.id 4 = s0 at *
 refine Qg (fun s:{s:Nat × List UInt8 // s.1<=16/\s.2.length = 12 + 13 * s.1}=>⟨69,0,[(6,.int .i64 s.1.1),(5,.pv (.str s.1.2)),(1,.ptr 0 0)],[⟨175,true,p.d⟩]⟩) (fun s=>16 - s.1.1) ⟨(0,s0),by simp; exact hl0⟩ (gc [0]) ?_
 rintro ⟨⟨i,t⟩,hi,ht⟩
 dsimp only at hi ht |-
 have hg:=fun h:i < 16=>QoZ p i h
 have hg0:=fun h:i < 16=>Qvr p i h
 have hg1:=fun h:i < 16=>QCF p i h
 have hdl:=fun h:i < 16=>hcel i h
 generalize p.cel i = c at *
 have d1:=fun n=>Qcl t (by omega) n 1 (by omega) (by omega)
 have hpl:=fun n=>Qr t n 1
 by_cases hi16:i < 16
 ·have hdl:=hdl hi16
  have d2:=Qjs (12 - c.data.length) (by omega)
  rw [show ((12 - c.data.length:Nat):Int) = 12 - (c.data.length:Int) by omega] at d2
  have hcd:(c.data ++ Jh (12 - c.data.length) (0:UInt8)).length = 12:=by rw [Jc,Jq]; omega
  have hadd:=fun n=>Qc8 (a:=Qay t n 1) (b:=c.data ++ Jh (12 - c.data.length) (0:UInt8)) (by rw [hpl,hcd]; omega)
  have F:=(Ja @hg (Ja @hg0 (Ja @hg1 @hadd)))
  refine rn F ?_
  repeat' (first
   | with_reducible exact ⟨⟩
   | (refine sB F ?_ ?_<;>intro hZ)
   | refine vp F (d1 _) ?_
   | refine vp F (d2) ?_
   | (refine Qd (id:=13) [0,1,2,3,4,5,6,7,8,9,10,11,12] [⟨[],[],13,[0,1,2,3,4,5,6,7,8,9,10,11],[14,15]⟩,⟨[],[],16,[],[]⟩] (by kernel_rfl) (by kernel_rfl) ?_; refine rn F ?_))
  ·exact ⟨⟨(i + 1,Qay t c.data.length 1 ++ (c.data ++ Jh (12 - c.data.length) 0)),by dsimp only; omega,by dsimp only; rw [Jc,Jc,Jq,hpl]; omega⟩,by dsimp only; omega,(gc [0])⟩
  ·exact ⟨⟨(i + 1,Qay t 255 1 ++ (c.data ++ Jh (12 - c.data.length) 0)),by dsimp only; omega,by dsimp only; rw [Jc,Jc,Jq,hpl]; omega⟩,by dsimp only; omega,(gc [0])⟩
 ·have hi:i = 16:=by omega
  subst hi
  have d2:=Qjs (244 - t.length) (by omega)
  rw [show ((244 - t.length:Nat):Int) = 244 - (t.length:Int) by omega] at d2
  have hle:(t ++ Jh (244 - t.length) (0:UInt8)).length = 244:=by rw [Jc,Jq]; omega
  obtain ⟨u,hu⟩:∃ u,t ++ Jh (244 - t.length) (0:UInt8) = u:=⟨_,rfl⟩
  rw [hu] at hle
  have d3:=Qn5 u (by omega)
  have d4:=fun n=>Qcl u (by omega) n 4 (by omega) (by omega)
  have hu4:=fun n=>Qr u n 4
  have d5:=fun n m=>Qcl (Qay u n 4) (by rw [hu4]; omega) m 8 (by omega) (by omega)
  have F:=@hu
  refine rn F ?_
  repeat' (first
   | with_reducible exact ⟨⟩
   | refine vp F (d2) ?_
   | refine vp F (d3) ?_
   | refine vp F (d4 _) ?_
   | refine vp F (d5 _ _) ?_)
  exact ⟨rfl,rfl,(Qay (Qay u _ 4) _ 8,0),rfl,by dsimp only; rw [Qr,hu4]; omega⟩
end
section
attribute [local go_sem] Qbj
@[go_sem] def piD (a:Pg × Int):DV:=.tup [.agg a.1.d,.int .i64 a.2]
def QwU (n:Int):VCalls prog 235 [.int .i64 n] [] (Ret (.agg (Pg.d ⟨n,0,fun _=>Ce0⟩))):=by
 refine dd Tryz.func235 ?_
 (unfold Tryz.f235; refine rn trivial ?_)
 rfl
def QA3 (s:List UInt8) (hs:s.length<=1000000):VCalls prog 234 [.pv (.str s)] [] (QI piD fun _=>True):=by
 refine dd Tryz.func234 ?_
 have c1:=Qxi
 (unfold Tryz.f234; refine rn trivial ?_)
 by_cases hl:s.length = 256
 rotate_left
 ·have hl':¬ (s.length:Int) = 256:=by omega
  have F:=@hl'
  refine rn F ?_
  exact ⟨rfl,rfl,(Pg0,2),rfl,trivial⟩
 have c2:=fun (a k:Nat) (h:1<=k/\k<=8) (hh:a + k<=s.length)=>QiE s (by omega) a k h hh
 have g1:=c2 244 4 (by omega) (by omega)
 have g2:=c2 0 8 (by omega) (by omega)
 have g3:=c2 8 4 (by omega) (by omega)
 have c3:=fun u h=>Qn5 u h
 have c4:=QmZ
 have F:=@hl
 refine rn F ?_
 repeat' (first
  | with_reducible exact ⟨⟩
  | (refine sB F ?_ ?_<;>intro hZ)
  | refine vp F (c1) ?_
  | refine vp F (g1) ?_
  | refine vp F (g2) ?_
  | refine vp F (g3) ?_
  | (refine vp F (c3 _ (by simp; omega)) ?_)
  | (refine Qd (id:=5) [0,1,2,3,4] [⟨[],[],5,[0,1,2,3],[]⟩] (by kernel_rfl) (by kernel_rfl) ?_; refine rn F ?_))
 all_goals first
  | exact ⟨rfl,rfl,(Pg0,_),rfl,trivial⟩
  | skip
 refine Qg (fun r:{r:Nat × Pg // r.1<=16}=>⟨95,0,[(7,.int .i64 r.1.1),(6,.ptr 1 0),(2,.ptr 0 0),(0,.pv (.str s))],[⟨175,true,Pg0.d⟩,⟨175,true,r.1.2.d⟩]⟩) (fun r=>16 - r.1.1) ⟨(0,⟨IntKind.i64.wrap (Qmq s 8 4),IntKind.i64.wrap (Qmq s 0 8),fun _=>Ce0⟩),by simp⟩ (gc [0,1]) ?_
 rintro ⟨⟨i,p⟩,hi⟩
 dsimp only at hi |-
 have hgs:i < 16->s[12 + i * 13]? = some (s.getD (12 + i * 13) 0):=fun h=>by rw [Ji,Jr (by omega)]; rfl
 have hix:(12 + (i:Int) * 13).toNat = 12 + i * 13:=by omega
 have hce:=fun (h:i < 16) b d=>Qj3 p i h ⟨b,d⟩
 generalize hq:s.getD (12 + i * 13) 0 = q at *
 have hqb:=q.toNat_lt
 have c5:=c4 p
 have F:=(Ja @hgs (Ja @hix (Ja @hce @hl)))
 refine rn F ?_
 repeat' (first
  | with_reducible exact ⟨⟩
  | (refine sG F ?_ ?_<;>intro hZ)
  | (refine sB F ?_ ?_<;>intro hZ)
  | (refine Ql (c5) rfl ?_; rintro ⟨t,e⟩ -; refine rn F ?_))
 all_goals first
  | exact ⟨rfl,rfl,(Pg0,_),rfl,trivial⟩
  | exact ⟨rfl,rfl,(p,0),rfl,trivial⟩
  | exact ⟨⟨(i + 1,p),by dsimp only; omega⟩,by dsimp only; omega,(gc [0,1])⟩
  | exact ⟨⟨(i + 1,p.setc i ⟨true,List.drop (12 + (i:Int) * 13 + 1).toNat (List.take (12 + (i:Int) * 13 + 1 + q.toNat).toNat s)⟩),by dsimp only; omega⟩,by dsimp only; omega,(gc [0,1])⟩
  | skip
def Qw7 (s:List UInt8) (hs:s.length<=1000000) (n:Int):VCalls prog 188 [.pv (.str s),.int .i64 n] [] (QI piD fun a=>a.2 = 0->a.1.id = n):=by
 refine dd Tryz.func188 ?_
 have c1:=QA3 s hs
 have c2:=QwU n
 (unfold Tryz.f188; refine rn trivial ?_)
 refine rn F ?_
 repeat' (first
  | with_reducible exact ⟨⟩
  | (refine sG F ?_ ?_<;>intro hZ)
  | (refine sB F ?_ ?_<;>intro hZ)
  | (refine Ql (c1) rfl ?_; rintro ⟨p,e⟩ -; refine rn F ?_)
  | refine vp F (c2) ?_)
 all_goals first
  | exact ⟨rfl,rfl,(Pg0,_),rfl,fun h=>by simp at h⟩
  | exact ⟨rfl,rfl,(⟨n,0,fun _=>Ce0⟩,0),rfl,fun _=>rfl⟩
  | exact ⟨rfl,rfl,(p,e),rfl,fun h=>by dsimp only at h |-; omega⟩
  | skip
def Qw2 (l:List Rw) (hl:l.length<=64) (n hd:Int) (s:List UInt8) (hs:s.length<=1000000):VCalls prog 140 [.agg [.pv (.sl (fz Qce l))],.int .i64 n,.int .i64 hd,.pv (.str s)] [] (QI piD fun a=>a.2 = 0->a.1.id = n):=by
 refine dd Tryz.func140 ?_
 have c1:=Qbg l (by omega)
 have c2:=Qw7 s hs n
 have hg:=fun h:n.toNat < l.length=>QlS l n.toNat h
 generalize ixB l = b at *
 (unfold Tryz.f140; refine rn trivial ?_)
 have F:=@hg
 refine rn F ?_
 repeat' (first
  | with_reducible exact ⟨⟩
  | (refine sG F ?_ ?_<;>intro hZ)
  | (refine sB F ?_ ?_<;>intro hZ)
  | refine vp F (c1) ?_
  | (refine Ql (c2) rfl ?_; rintro ⟨p,e⟩ hp; refine rn F ?_)
  | (refine Qd (id:=8) [0,1,2,3,4,5,6,7,8,9,10,11,12,13,14] [⟨[],[],15,[0,1,2,3,5,6,7,8,9,10,11,12,13],[]⟩] (by kernel_rfl) (by kernel_rfl) ?_; refine rn F ?_)
  | (refine Qd (id:=10) [0,1,2,3,4,5,6,7,8] [⟨[],[],9,[0,1,2,3,4,5,6,7],[]⟩] (by kernel_rfl) (by kernel_rfl) ?_; refine rn F ?_))
 all_goals first
  | exact ⟨rfl,rfl,(Pg0,e),rfl,fun h=>absurd h (by assumption)⟩
  | (focus (refine ⟨rfl,rfl,(Pg0,_),rfl,fun h=>?_⟩; simp at h; done))
  | exact ⟨rfl,rfl,(p,0),rfl,fun _=>hp (by dsimp only; omega)⟩
  | skip
end
section
attribute [local go_sem] Qbj
theorem QGg (e:E) (l:List E):(.pv (.lit (.int .i64 e.lsn)) :: .pv (.lit (.int .i64 e.kind)) :: .pv (.lit (.int .i64 e.tx)) :: .pv (.lit (.int .i64 e.ptx)) :: .pv (.lit (.int .i64 e.ppg)) :: .pv (.lit (.int .i64 e.ref)) :: .pv (.lit (.int .i64 e.c.pg)) :: .pv (.lit (.int .i64 e.c.sl)) :: .pv (.lit (.bool e.c.b.set)) :: .pv (.str e.c.b.data) :: .pv (.lit (.bool e.c.a.set)) :: .pv (.str e.c.a.data) :: .pv (.str e.blob) :: cells encE l:List DV) = cells encE (e :: l):=rfl
def Qw9 (e:E) (l:List E) (hl:l.length<=100000):VCalls prog 263 [.agg e.d,.pv (.sl (fz encE l))] [] (Ret (.pv (.sl (fz encE (e :: l))))):=by
 refine dk Tryz.func263 ?_
 have hc:=QGg e l
 have hb:(1 + l.length) * 128<=140737488355328:=by omega
 have hlen:(e :: l).length = 1 + l.length:=by simp; omega
 (unfold Tryz.f263; refine rn (Ja @hc (Ja @hb @hlen)) ?_; try with_reducible exact ⟨⟩)
@[go_sem] def esD (a:List E × Int):DV:=.tup [.pv (.sl (fz encE a.1)),.int .i64 a.2]
def Qut {x:Lg} {n:Int} (h:(QfN x n).2 = 0):lgB x = true/\x.f<=n/\n<=x.end_/\(QfN x n).1.lsn = n/\(QfN x n).1.okB = true:=by
 unfold QfN at h |-
 split at h
 ·simp at h
 rename_i q1
 split at h
 ·simp at h
 rename_i q2
 rw [if_neg q1,if_neg q2]
 have hv:lgB x = true:=by simpa using q1
 have hv2:=hv
 unfold lgB at hv2
 simp only [Jb,Jo,Je] at hv2
 have hd:=hv2.1
 simp only [decide_eq_true_eq,Lg.hd] at hd
 have:=hv2.2 (n - x.f).toNat (by simp only [Lg.end_] at q2; omega)
 unfold lgC at this
 simp only [Jb,decide_eq_true_eq] at this
 dsimp only
 exact ⟨hv,by omega,by omega,by omega,this.2⟩
def QBA {e:E} (h:e.okB = true):0<=e.ppg/\e.ppg < e.lsn:=by
 unfold E.okB bef at h
 simp only [Jb,decide_eq_true_eq] at h
 omega
structure Ch7 (x:Lg) where
 at_:Int
 out:List E
 ok:out = []\/at_ + out.length<=x.f + x.es.length
 nn:0<=at_
 le:out.length<=4097
def Qxh (x:Lg) (hx:x.es.length<=4096) (pg last above:Int):VCalls prog 260 [.agg x.c,.int .i64 pg,.int .i64 last,.int .i64 above] [] (QI esD fun a=>a.1.length<=4097):=by
 refine dk Tryz.func260 ?_
 have c1:=Q8 x (by omega)
 have c2:=QiF x (by omega)
 have hok:=@Qut x
 (unfold Tryz.f260; refine rn trivial ?_)
 cases hv:lgB x
 ·rw [hv] at c1
  refine rn F ?_
  repeat' (first
   | with_reducible exact ⟨⟩
   | refine vp F (c1) ?_)
  exact ⟨rfl,rfl,([],26),rfl,Jd _⟩
 rw [hv] at c1
 have hd:=QT hv
 simp only [Lg.hd] at hd
 refine rn F ?_
 repeat' (first
  | with_reducible exact ⟨⟩
  | (refine sG F ?_ ?_<;>intro hZ)
  | (refine sB F ?_ ?_<;>intro hZ)
  | refine vp F (c1) ?_)
 all_goals first
  | exact ⟨rfl,rfl,([],1),rfl,Jd _⟩
  | skip
 refine VLoop.wkS ?_
 refine rn trivial ?_
 refine Qg (fun s:Ch7 x=>⟨62,0,[(11,.int .i64 s.at_),(10,.pv (.sl (fz encE s.out))),(4,.ptr 0 0),(3,.int .i64 above),(1,.int .i64 pg)],[⟨32,true,x.c⟩]⟩) (fun s=>s.at_.toNat) ⟨last,[],.inl rfl,by omega,Jd _⟩ (gc [0]) ?_
 rintro ⟨at_,out,ok,nn,le⟩
 dsimp only
 have c3:=c2 at_
 have hok:=hok (n:=at_)
 generalize QfN x at_ = g at *
 have c4:=QaW g.1
 have c5:=Qw9 g.1 out (by omega)
 refine rn F ?_
 repeat' (first
  | with_reducible exact ⟨⟩
  | (refine sG F ?_ ?_<;>intro hZ)
  | (refine sB F ?_ ?_<;>intro hZ)
  | refine vp F (c3) ?_
  | refine vp F (c4) ?_
  | refine vp F (c5) ?_
  | (refine Qd (id:=13) [0,1,3,4] [⟨[],[],2,[3,4],[]⟩,⟨[],[],5,[3,4],[]⟩,⟨[],[],6,[],[]⟩] (by kernel_rfl) (by kernel_rfl) ?_; refine rn F ?_))
 all_goals first
  | exact ⟨rfl,rfl,([],_),rfl,Jd _⟩
  | exact ⟨rfl,rfl,(out,0),rfl,le⟩
  | skip
 obtain ⟨k1,k2,k3,k4,k5⟩:=hok (by omega)
 have hp:=QBA k5
 simp only [Lg.end_] at k3
 have ho:at_ + out.length<=x.f + x.es.length:=by
  rcases ok with rfl | ok
  ·simp; omega
  ·exact ok
 exact ⟨⟨g.1.ppg,g.1 :: out,.inr (by simp only [JP]; omega),hp.1,by simp only [JP]; omega⟩,by dsimp only; omega,(gc [0])⟩
def Qzc (c:Ch):VCalls prog 98 [.agg c.d] [] (Ret (.agg (Ch.d ⟨c.pg,c.sl,c.a,c.b⟩))):=by
 refine dd Tryz.func98 ?_
 (unfold Tryz.f98; refine rn trivial ?_; try with_reducible exact ⟨⟩)
def QBB {c:Ch} (h:c.okB = true):0<=c.sl/\c.sl < 16:=by
 unfold Ch.okB at h
 simp only [Jb,decide_eq_true_eq] at h
 omega
def QFe (a c:Bool) (b d:List UInt8):QM [.pv (.lit (.bool a)),.pv (.str b)] [.pv (.lit (.bool c)),.pv (.str d)] [(0,0),(1,2)] = some (a == c && b == d):=by simp [QM,Q9]
def Qk4 (p:Pg) (c:Ch):VCalls prog 193 [.agg p.d,.agg c.d] [] (QI piD fun a=>a.2 = 0->a.1.id = p.id):=by
 refine dd Tryz.func193 ?_
 have c1:=Qtj c
 have hs:=QBB (c:=c)
 (unfold Tryz.f193; refine rn trivial ?_)
 cases hv:c.okB
 ·rw [hv] at c1
  refine rn F ?_
  repeat' (first
   | with_reducible exact ⟨⟩
   | refine vp F (c1) ?_)
  exact ⟨rfl,rfl,(Pg0,22),rfl,fun h=>by simp at h⟩
 rw [hv] at c1
 obtain ⟨s1,s2⟩:=hs hv
 obtain ⟨i,hi⟩:∃ i:Nat,c.sl = i:=⟨c.sl.toNat,by omega⟩
 have hi16:i < 16:=by omega
 have hg:=QoZ p i hi16
 have hce:=Qj3 p i hi16 c.a
 have F:=(Ja @hi (Ja @hg (Ja @hce @QFe)))
 refine rn F ?_
 repeat' (first
  | with_reducible exact ⟨⟩
  | (refine sB F ?_ ?_<;>intro hZ)
  | refine vl F (c1) ?_
  | (refine Qd (id:=5) [0,1,2,3,4,5,6,7] [⟨[],[],8,[0,1,2,3,4,5,6],[]⟩] (by kernel_rfl) (by kernel_rfl) ?_; refine rn F ?_))
 all_goals first
  | exact ⟨rfl,rfl,(p.setc i c.a,0),rfl,fun _=>rfl⟩
  | (focus (refine ⟨rfl,rfl,(Pg0,_),rfl,fun h=>?_⟩; simp at h; done))
  | skip
def Qxk (p:Pg) (e:E):VCalls prog 237 [.agg p.d,.agg e.d] [] (QI piD fun a=>a.2 = 0->a.1.id = p.id):=by
 refine dd Tryz.func237 ?_
 have c1:=QcG e
 have c2:=QaW e
 have c3:=QdL p
 have c4:=Qk4 p e.c
 generalize e.okB = b at *
 generalize QaX p = k at *
 (unfold Tryz.f237; refine rn trivial ?_)
 refine rn F ?_
 repeat' (first
  | with_reducible exact ⟨⟩
  | (refine sG F ?_ ?_<;>intro hZ)
  | (refine sB F ?_ ?_<;>intro hZ)
  | refine vp F (c1) ?_
  | refine vp F (c2) ?_
  | refine vp F (c3) ?_
  | (refine Ql (c4) rfl ?_; rintro ⟨q,er⟩ hq; refine rn F ?_))
 all_goals first
  | exact ⟨rfl,rfl,(⟨q.id,e.lsn,q.cel⟩,0),rfl,fun _=>hq (by dsimp only; omega)⟩
  | exact ⟨rfl,rfl,(Pg0,er),rfl,fun h=>absurd h (by assumption)⟩
  | exact ⟨rfl,rfl,(Pg0,k),rfl,fun h=>absurd h (by assumption)⟩
  | (focus (refine ⟨rfl,rfl,(Pg0,_),rfl,fun h=>?_⟩; simp at h; done))
  | skip
def QsX (x:Lg) (hx:x.es.length<=4096) (p:Pg) (n:Int):VCalls prog 236 [.agg x.c,.agg p.d,.int .i64 n] [] (QI esD fun a=>a.1.length<=4097):=by
 refine dk Tryz.func236 ?_
 have c1:=Q8 x (by omega)
 have c2:=QdL p
 have c3:=Qxh x hx
 generalize lgB x = b at *
 generalize QaX p = k at *
 (unfold Tryz.f236; refine rn trivial ?_)
 refine rn F ?_
 repeat' (first
  | with_reducible exact ⟨⟩
  | (refine sB F ?_ ?_<;>intro hZ)
  | refine vp F (c1) ?_
  | refine vp F (c2) ?_
  | (refine Ql (c3 _ _ _) rfl ?_; rintro ⟨l,e⟩ hl; refine rn F ?_))
 all_goals first
  | exact ⟨rfl,rfl,([],_),rfl,Jd _⟩
  | exact ⟨rfl,rfl,(l,e),rfl,hl⟩
  | skip
@[go_sem] def QHe (a:Pg × Int × Int):DV:=.tup [.agg a.1.d,.int .i64 a.2.1,.int .i64 a.2.2]
def QwP (x:Lg) (hx:x.es.length<=4096) (p:Pg) (n:Int):VCalls prog 189 [.agg x.c,.agg p.d,.int .i64 n] [] (QI QHe fun a=>a.2.2 = 0->a.1.id = p.id):=by
 refine dk Tryz.func189 ?_
 have c1:=QsX x hx p n
 (unfold Tryz.f189; refine rn trivial ?_)
 refine rn F ?_
 repeat' (first
  | with_reducible exact ⟨⟩
  | (refine sB F ?_ ?_<;>intro hZ)
  | (refine Ql (c1) rfl ?_; rintro ⟨l,e⟩ hl; refine rn F ?_))
 all_goals first
  | exact ⟨rfl,rfl,(Pg0,0,e),rfl,fun h=>absurd h (by assumption)⟩
  | skip
 dsimp only at hl
 refine Qg (fun s:{s:Nat × Pg // s.1<=l.length/\s.2.id = p.id}=>⟨45,0,[(11,.int .i64 s.1.1),(9,.pv (.sl (fz encE l))),(6,.ptr 1 0),(4,.ptr 0 0)],[⟨175,true,s.1.2.d⟩,⟨175,true,Pg0.d⟩]⟩) (fun s=>l.length - s.1.1) ⟨(0,p),Jd _,rfl⟩ (gc [1,2]) ?_
 rintro ⟨⟨i,q⟩,hi,hq⟩
 dsimp only at hi hq |-
 have hg:=fun h:i < l.length=>Qbu l i h
 have c2:=Qxk q (l.getD i E0)
 have F:=@hg
 refine rn F ?_
 repeat' (first
  | with_reducible exact ⟨⟩
  | (refine sB F ?_ ?_<;>intro hZ)
  | (refine Ql (c2) rfl ?_; rintro ⟨q2,e2⟩ hq2; refine rn F ?_)
  | (refine Qd (id:=7) [0,1,2,3,4] [⟨[],[],5,[1,2,3],[6,7,8]⟩,⟨[],[],9,[8],[]⟩,⟨[],[],10,[],[]⟩] (by kernel_rfl) (by kernel_rfl) ?_; refine rn F ?_))
 all_goals first
  | exact ⟨rfl,rfl,(Pg0,0,e2),rfl,fun h=>absurd h (by assumption)⟩
  | exact ⟨rfl,rfl,(q,l.length,0),rfl,fun _=>hq⟩
  | exact ⟨⟨(i + 1,q2),by dsimp only; omega,(hq2 (by dsimp only; omega)).trans hq⟩,by dsimp only; omega,(gc [0,1])⟩
  | skip
def QAW (x:Lg) (hx:x.es.length<=4096) (p:Pg) (n:Int):VCalls prog 141 [.agg x.c,.agg p.d,.int .i64 n] [] (QI piD fun a=>a.2 = 0->a.1.id = p.id):=by
 refine dd Tryz.func141 ?_
 have c1:=QwP x hx p n
 (unfold Tryz.f141; refine rn trivial ?_)
 refine rn F ?_
 repeat' (first
  | with_reducible exact ⟨⟩
  | (refine Ql (c1) rfl ?_; rintro ⟨q,m,e⟩ hq; refine rn F ?_))
 exact ⟨rfl,rfl,(q,e),rfl,hq⟩
end
section
attribute [local go_sem] Ce.d Ch.d E.d Lg.c QM Q9
def Qjm (f:Int) (es:List E) (i:Nat):Bool:=
 if (es.getD i E0).ref < f then !Qkd es i (es.getD i E0).tx (es.getD i E0).c.pg (es.getD i E0).c.sl (es.getD i E0).ref && !QkH es i (es.getD i E0).ref
 else decide ((es.getD ((es.getD i E0).ref - f).toNat E0).kind = 1) && (decide ((es.getD ((es.getD i E0).ref - f).toNat E0).tx = (es.getD i E0).tx) && (eqC (es.getD i E0).c (es.getD ((es.getD i E0).ref - f).toNat E0).c.inv && (!QkH es i (es.getD i E0).ref && !Qkd es i (es.getD i E0).tx (es.getD i E0).c.pg (es.getD i E0).c.sl (es.getD i E0).ref)))
def QAL (x:Lg) (i:Nat) (hi:i < x.es.length) (hl:x.es.length<=1000000) (hf:0<=x.f/\x.f<=1099511627776) (hr:(x.es.getD i E0).ref < x.f + i):VCalls prog 70 [.agg x.c,.int .i64 i] [] (Ret (.bool (Qjm x.f x.es i))):=by
 refine dd Tryz.func70 ?_
 have hgi:=Qbu x.es i hi
 have eS:Qjm x.f x.es i = if (x.es.getD i E0).ref < x.f then _ else _:=rfl
 obtain ⟨y,hy⟩:∃ y,x.es.getD i E0 = y:=⟨_,rfl⟩
 rw [hy] at hgi hr eS
 have hpe:=QiC x i y.tx y.c.pg y.c.sl y.ref (by omega) hl
 have hun:=Qk2 x i y.ref (by omega) hl
 unfold Lg.c at hpe hun
 generalize Qkd x.es i y.tx y.c.pg y.c.sl y.ref = pnd at *
 generalize QkH x.es i y.ref = un at *
 by_cases hlt:y.ref < x.f
 ·rw [if_pos hlt] at eS
  (unfold Tryz.f70; refine rn @hgi ?_)
  have F:=(Ja @hgi @hlt)
  refine rn F ?_
  repeat' (first
   | with_reducible exact ⟨⟩
   | (refine sG F ?_ ?_<;>intro hZ)
   | refine vp F (hpe) ?_
   | refine vp F (hun) ?_)
  all_goals exact congrArg DV.bool (by rw [eS]; simp [*])
 ·rw [if_neg hlt] at eS
  have hk:(y.ref - x.f).toNat < x.es.length:=by omega
  have hgk:=Qbu x.es (y.ref - x.f).toNat hk
  obtain ⟨z,hz⟩:∃ z,x.es.getD (y.ref - x.f).toNat E0 = z:=⟨_,rfl⟩
  rw [hz] at hgk eS
  have hinv:VCalls prog 98 [.agg z.c.d] [] (Ret (.agg z.c.inv.d)):=Qzc z.c
  unfold Ch.d Ch.inv at hinv
  have h0:0<=y.ref - x.f:=by omega
  have hQ:eqC y.c z.c.inv = true ↔ y.c.pg = z.c.pg/\y.c.sl = z.c.sl/\y.c.b.set = z.c.a.set/\y.c.b.data = z.c.a.data/\y.c.a.set = z.c.b.set/\y.c.a.data = z.c.b.data:=by unfold eqC Ch.inv; simp
  (unfold Tryz.f70; refine rn @hgi ?_)
  have F:=(Ja @hgi (Ja @hlt (Ja @hgk @h0)))
  refine rn F ?_
  repeat' (first
   | with_reducible exact ⟨⟩
   | (refine sG F ?_ ?_<;>intro hZ)
   | refine vp F (hpe) ?_
   | refine vp F (hun) ?_
   | refine vp F (hinv) ?_
   | (refine QbH (id:=5) [[],[0],[0,1],[0,1,2],[0,1,2,3],[0,1,2,3,4],[0,1,2,3],[0,1,2,3,6],[0,1,2,3,4,5,6,7],[0,1,2,3,4,5,6,7,8],[0,1,2,3,4,5,6,7,8,9],[0,1,2,3,4,5,6,7,8,9,10],[0,1,2,3,4,5,6,7,8,9,10,11],[0,1,2,3,4,5,6,7,8,9,10],[0,1,2,3,4,5,6,7,8,9,10,13],[0,1,2,3,4,5,6,7,8,9,10,13,14],[0,1,2,3,4,5,6,7,8,9,10,11,12,13,14,15],[0,1,2,3,4,5,6,7,8,9,10,11,12,13,14,15,16],[0,1,2,3,4,5,6,7,8,9,10,11,12,13,14,15,16,17],[0,1,2,3,4,5,6,7,8,9,10,11,12,13,14,15,16,17,18],[0,1,2,3,4,5,6,7,8,9,10,11,12,13,14,15,16,17,18],[0,1,2,3,4,5,6,7,8,9,10,11,12,13,14,15,16,17,18],[0,1,2,3,4,5,6,7,8,9,10,11,12,13,14,15,16,17,18,21],[0,1,2,3,4,5,6,7,8,9,10,11,12,13,14,15,16,17,18,19,20,21,22],[0,1,2,3,4,5,6,7,8,9,10,11,12,13,14,15,16,17,18,19,20,21,22,23],[0,1,2,3,4,5,6,7,8,9,10,11,12,13,14,15,16,17,18,19,20,21,22,23,24],[0,1,2,3,4,5,6,7,8,9,10,11,12,13,14,15,16,17,18,19,20,21,22,23,24,25],[0,1,2,3,4,5,6,7,8,9,10,11,12,13,14,15,16,17,18,19,20,21,22,23,24,25,26],[0,1,2,3,4,5,6,7,8,9,10,11,12,13,14,15,16,17,18,19,20,21,22,23,24,25,26],[0,1,2,3,4,5,6,7,8,9,10,11,12,13,14,15,16,17,18,19,20,21,22,23,24,25,26],[0,1,2,3,4,5,6,7,8,9,10,11,12,13,14,15,16,17,18,19,20,21,22,23,24,25,26,29],[0,1,2,3,4,5,6,7,8,9,10,11,12,13,14,15,16,17,18,19,20,21,22,23,24,25,26],[0,1,2,3,4,5,6,7,8,9,10,11,12,13,14,15,16,17,18,19,20,21,22,23,24,25,26,31],[0,1,2,3,4,5,6,7,8,9,10,11,12,13,14,15,16,17,18,19,20,21,22,23,24,25,26,31,32],[0,1,2,3,4,5,6,7,8,9,10,11,12,13,14,15,16,17,18,19,20,21,22,23,24,25,26],[0,1,2,3,4,5,6,7,8,9,10,11,12,13,14,15,16,17,18,19,20,21,22,23,24,25,26,34],[0,1,2,3,4,5,6,7,8,9,10,11,12,13,14,15,16,17,18,19,20,21,22,23,24,25,26,34,35],[0,1,2,3,4,5,6,7,8,9,10,11,12,13,14,15,16,17,18,19,20,21,22,23,24,25,26],[0,1,2,3,4,5,6,7,8,9,10,11,12,13,14,15,16,17,18,19,20,21,22,23,24,25,26,37],[0,1,2,3,4,5,6,7,8,9,10,11,12,13,14,15,16,17,18,19,20,21,22,23,24,25,26,27,28,29,30,31,32,33,34,35,36,37,38],[0,1,2,3,4,5,6,7,8,9,10,11,12,13,14,15,16,17,18,19,20,21,22,23,24,25,26,27,28,29,30,31,32,33,34,35,36,37,38,39],[0,1,2,3,4,5,6,7,8,9,10,11,12,13,14,15,16,17,18,19,20,21,22,23,24,25,26,27,28,29,30,31,32,33,34,35,36,37,38,39,40],[0,1,2,3,4,5,6,7,8,9,10,11,12,13,14,15,16,17,18,19,20,21,22,23,24,25,26,27,28,29,30,31,32,33,34,35,36,37,38,39,40,41]] [0,1,2,3,4,5,6,7,8,9,10,11,12,13,14] [⟨[],[],15,[11,12],[16,17,18,19,20,21,22]⟩,⟨[],[],23,[],[24,25,26,27,28,29,30,31,32,33,34,35,36,37,38]⟩,⟨[],[],39,[],[40,41]⟩,⟨[],[],42,[],[]⟩] (by kernel_rfl) (by kernel_rfl) (by kernel_rfl) ?_; refine rn F ?_))
  all_goals first
   | (have hq:eqC y.c z.c.inv = true:=hQ.2 (by assumption)
      rw [eS,hq]
      simp [*]
      done)
   | (have hq:eqC y.c z.c.inv = false:=J2.2 fun h=>by obtain ⟨h1,h2,h3,h4,h5,h6⟩:=hQ.1 h; exact hZ h1 h2 h3 h4 h5 h6
      rw [eS,hq]
      simp
      done)
   | (rw [eS]
      simp [*]
      done)
def QEz (h:lgB x = true) (hi:i < x.es.length):(x.es.getD i E0).lsn = x.f + i/\((x.es.getD i E0).kind = 2->(x.es.getD i E0).ref < x.f + i):=by
 unfold lgB at h
 rw [Jb,Jo] at h
 have h2:=h.2 i (Je.2 hi)
 unfold lgC at h2
 rw [Jb] at h2
 have h3:=of_decide_eq_true h2.1
 refine ⟨h3,fun hk=>?_⟩
 have h4:=h2.2
 unfold E.okB E.kindB at h4
 generalize x.es.getD i E0 = e at *
 rw [if_neg (by omega),if_pos hk] at h4
 simp only [Jb,decide_eq_true_eq] at h4
 have h5:=h4.1.2
 unfold bef at h5
 simp at h5
 omega
def Qh4 (f:Int) (es:List E) (i:Nat):Bool:=!(decide (0 < (es.getD i E0).tx) && !txR f es i) && (!(Qcd (es.getD i E0) && !Qlk f es i) && !(decide ((es.getD i E0).kind = 2) && !Qjm f es i))
def Qg6 (x:Lg):Int:=if lgB x = true then (if (Jg x.es.length).all (Qh4 x.f x.es) = true then 0 else 13) else 26
def QEd (x:Lg) (hx:x.es.length<=9223372036854775807):VCalls prog 54 [.agg x.c] [] (Ret (.int .i64 (Qg6 x))):=by
 refine dd Tryz.func54 ?_
 have hv:=Q8 x hx
 unfold Lg.c at hv
 cases hlg:lgB x
 ·rw [hlg] at hv
  (unfold Tryz.f54; refine rn trivial ?_)
  refine rn F ?_
  repeat' (first
   | with_reducible exact ⟨⟩
   | refine vp F (hv) ?_)
  rw [Qg6,hlg]
  rfl
 rw [hlg] at hv
 have hes:x.es.length<=4096:=(QT hlg).2.2.1
 have hf:=QT hlg
 have hS:Qg6 x = if (Jg x.es.length).all (Qh4 x.f x.es) = true then 0 else 13:=by rw [Qg6,if_pos hlg]
 have hok:=fun i=>QEz (x:=x) (i:=i) hlg
 (unfold Tryz.f54; refine rn trivial ?_)
 refine rn F ?_
 repeat' (first
  | with_reducible exact ⟨⟩
  | refine vp F (hv) ?_)
 refine Qg (fun s:Okay x.es.length (Qh4 x.f x.es)=>⟨50,0,[(3,.int .i64 s.i),(1,.ptr 0 0)],[⟨32,true,x.c⟩]⟩) (fun s=>x.es.length - s.i) (Okay.start _ _) (gc [0]) ?_
 intro s
 have hs:=s.hi
 by_cases hc:s.i < x.es.length
 ·have hc':((s.i:Nat):Int) < x.es.length:=by omega
  have hg:=Qbu x.es s.i hc
  have ht:=QwB x s.i hc (by omega)
  have hp:=QA5 x s.i hc (by omega)
  have hu:=fun h=>QAL x s.i hc (by omega) ⟨by have:=hf.1; omega,hf.2.1⟩ h
  have hr:=hok s.i hc
  have hrok:Qh4 x.f x.es s.i = (!(decide (0 < (x.es.getD s.i E0).tx) && !txR x.f x.es s.i) && (!(Qcd (x.es.getD s.i E0) && !Qlk x.f x.es s.i) && !(decide ((x.es.getD s.i E0).kind = 2) && !Qjm x.f x.es s.i))):=rfl
  generalize txR x.f x.es s.i = tR at *
  generalize Qlk x.f x.es s.i = pR at *
  generalize Qjm x.f x.es s.i = uR at *
  obtain ⟨e,he⟩:∃ e,x.es.getD s.i E0 = e:=⟨_,rfl⟩
  rw [he] at hg hr hu hrok
  have hch:VCalls prog 63 [.agg e.d] [] (Ret (.bool (Qcd e))):=QaW e
  unfold Lg.c at ht hp hu
  unfold E.d at hch
  generalize Qcd e = ch at *
  cases tR<;>cases pR
  ·skip
   have F:=(Ja @hc' @hg)
   refine rn F ?_
   repeat' (first
    | with_reducible exact ⟨⟩
    | (refine sG F ?_ ?_<;>intro hZ)
    | (refine sB F ?_ ?_<;>intro hZ)
    | refine vp F (ht) ?_
    | refine vp F (hp) ?_
    | refine vp F (hu (hr.2 (by assumption))) ?_
    | refine vp F (hch) ?_)
   all_goals first
    | (have hq:Qh4 x.f x.es s.i = false:=by rw [hrok]; simp [*]; done
       rw [hS,if_neg (by rw [QaM hc hq]; simp)])
    | (have hq:Qh4 x.f x.es s.i = true:=by rw [hrok]; simp [*]; done
       exact ⟨s.next hc hq,s.dec hc,(gc [0])⟩)
  ·skip
   have F:=(Ja @hc' @hg)
   refine rn F ?_
   repeat' (first
    | with_reducible exact ⟨⟩
    | (refine sG F ?_ ?_<;>intro hZ)
    | (refine sB F ?_ ?_<;>intro hZ)
    | refine vp F (ht) ?_
    | refine vp F (hp) ?_
    | refine vp F (hu (hr.2 (by assumption))) ?_
    | refine vp F (hch) ?_)
   all_goals first
    | (have hq:Qh4 x.f x.es s.i = false:=by rw [hrok]; simp [*]; done
       rw [hS,if_neg (by rw [QaM hc hq]; simp)])
    | (have hq:Qh4 x.f x.es s.i = true:=by rw [hrok]; simp [*]; done
       exact ⟨s.next hc hq,s.dec hc,(gc [0])⟩)
  ·skip
   have F:=(Ja @hc' @hg)
   refine rn F ?_
   repeat' (first
    | with_reducible exact ⟨⟩
    | (refine sG F ?_ ?_<;>intro hZ)
    | (refine sB F ?_ ?_<;>intro hZ)
    | refine vp F (ht) ?_
    | refine vp F (hp) ?_
    | refine vp F (hu (hr.2 (by assumption))) ?_
    | refine vp F (hch) ?_)
   all_goals first
    | (have hq:Qh4 x.f x.es s.i = false:=by rw [hrok]; simp [*]; done
       rw [hS,if_neg (by rw [QaM hc hq]; simp)])
    | (have hq:Qh4 x.f x.es s.i = true:=by rw [hrok]; simp [*]; done
       exact ⟨s.next hc hq,s.dec hc,(gc [0])⟩)
  ·skip
   have F:=(Ja @hc' @hg)
   refine rn F ?_
   repeat' (first
    | with_reducible exact ⟨⟩
    | (refine sG F ?_ ?_<;>intro hZ)
    | (refine sB F ?_ ?_<;>intro hZ)
    | refine vp F (ht) ?_
    | refine vp F (hp) ?_
    | refine vp F (hu (hr.2 (by assumption))) ?_
    | refine vp F (hch) ?_)
   all_goals first
    | (have hq:Qh4 x.f x.es s.i = false:=by rw [hrok]; simp [*]; done
       rw [hS,if_neg (by rw [QaM hc hq]; simp)])
    | (have hq:Qh4 x.f x.es s.i = true:=by rw [hrok]; simp [*]; done
       exact ⟨s.next hc hq,s.dec hc,(gc [0])⟩)
 ·have hc':¬ ((s.i:Nat):Int) < x.es.length:=by omega
  refine rn @hc' ?_
  rw [hS,if_pos (s.all hc)]
end
structure EOk (f:Int) (k:Nat) (e:E):Prop where
 lsn:e.lsn = f + k
 ptx:0<=e.ptx/\e.ptx < e.lsn
 ref:0<=e.ref/\e.ref < e.lsn
 tx:(1<=e.tx/\(e.kind = 1\/e.kind = 2\/e.kind = 3\/e.kind = 4\/e.kind = 5))\/(e.tx = 0/\e.kind ≠ 1/\e.kind ≠ 2/\e.kind ≠ 3/\e.kind ≠ 4/\e.kind ≠ 5)
 sl:e.kind = 2->0<=e.c.sl
structure Wf (f:Int) (es:List E):Prop where
 f1:1<=f
 ok:∀ k,k < es.length->EOk f k (es.getD k E0)
def Wf.of (h:lgB x = true):Wf x.f x.es:=by
 refine ⟨(QT h).1,fun k hk=>?_⟩
 unfold lgB at h
 rw [Jb,Jo] at h
 have h2:=h.2 k (Je.2 hk)
 unfold lgC at h2
 rw [Jb] at h2
 have h3:=of_decide_eq_true h2.1
 have h4:=h2.2
 generalize x.es.getD k E0 = e at *
 unfold E.okB bef at h4
 simp only [Jb,decide_eq_true_eq] at h4
 obtain ⟨⟨⟨⟨_,a1⟩,_⟩,a2⟩,a3⟩:=h4
 refine ⟨h3,a1,a2,?_,?_⟩
 ·unfold E.kindB txB at a3
  split at a3
  ·simp at a3; omega
  split at a3
  ·simp at a3; omega
  split at a3
  ·simp at a3; omega
  split at a3
  ·simp at a3; omega
  split at a3
  ·simp at a3; omega
  ·cases a3
 ·intro hk
  unfold E.kindB at a3
  rw [if_neg (by omega),if_pos hk] at a3
  unfold Ch.okB at a3
  simp at a3
  omega
def Qnz:exE es i p = true ↔ ∃ k,k < i/\p (es.getD k E0) = true:=by
 unfold exE
 rw [Jm,Kh]
 simp
def exE_iff':exE es i p = false ↔ ∀ k,k < i->p (es.getD k E0) = false:=by
 rw [J2,Ne,Qnz]
 simp
def Qev (es:List E) (i:Nat) (n:Int):QkH es (i + 1) n = (QkH es i n || undp n (es.getD i E0)):=QcN _ _ _
def before (es:List E) (i:Nat):List E:=(Jg i).map fun k=>es.getD k E0
def QnJ (es:List E) (i:Nat):before es (i + 1) = before es i ++ [es.getD i E0]:=by
 unfold before
 rw [Jw,Ku]
 rfl
def Qp1:y ∈ before es i ↔ ∃ k,k < i/\es.getD k E0 = y:=by
 unfold before
 simp
def Qj7 (W:Wf f es) (hi:i<=es.length):(before es i).Pairwise fun a b=>a.lsn < b.lsn:=by
 unfold before
 rw [List.pairwise_map]
 refine List.Pairwise.imp_of_mem ?_ List.pairwise_lt_range
 intro a b ha hb h
 have ha:=Je.1 ha
 have hb:=Je.1 hb
 rw [(W.ok a (by omega)).lsn,(W.ok b (by omega)).lsn]
 omega
def QcY (es:List E) (i:Nat) (x:Int):List E:=(before es i).filter fun e=>decide (e.kind = 1) && (decide (e.tx = x) && !QkH es i e.lsn)
def mem_penL:y ∈ QcY es i x ↔ (∃ k,k < i/\es.getD k E0 = y)/\y.kind = 1/\y.tx = x/\QkH es i y.lsn = false:=by
 unfold QcY
 rw [Jt,Qp1]
 simp
def Qeh (W:Wf f es) (hi:i<=es.length) (x:Int):(QcY es i x).Pairwise fun a b=>a.lsn < b.lsn:=(Qj7 W hi).filter _
def Qwj (W:Wf f es) (hi:i < es.length):QkH es i (f + i) = false:=by
 unfold QkH
 rw [exE_iff']
 intro k hk
 have h:=W.ok k (by omega)
 unfold undp
 have h1:=h.ref.2
 rw [h.lsn] at h1
 rw [Jn]
 exact .inr (decide_eq_false (by omega))
def Qfr (W:Wf f es) (x:Int):∀ i,i<=es.length->(Qas es x i = 0/\∀ k,k < i->(es.getD k E0).tx ≠ x)\/(f<=Qas es x i/\∃ k,k < i/\(es.getD k E0).tx = x)
 | 0,_=>.inl ⟨rfl,fun k hk=>by omega⟩
 | i + 1,hi=>by
   rw [Qas]
   have h:=(W.ok i (by omega)).lsn
   by_cases hx:(es.getD i E0).tx = x
   ·rw [if_pos hx]
    exact .inr ⟨by omega,i,by omega,hx⟩
   ·rw [if_neg hx]
    rcases Qfr W x i (by omega) with ⟨h1,h2⟩ | ⟨h1,k,h2,h3⟩
    ·refine .inl ⟨h1,fun k hk=>?_⟩
     by_cases hki:k = i
     ·rw [hki]; exact hx
     ·exact h2 k (by omega)
    ·exact .inr ⟨h1,k,by omega,h3⟩
def Qye (L:List (Int × Int)) (a v b:Int):Qmm (Qq9 L a v) b = if a = b then some v else Qmm L b:=by
 induction L with
 | nil=>simp [Qq9,Qmm]
 | cons q r ih =>
   obtain ⟨k,x⟩:=q
   unfold Qq9
   by_cases h:k = a
   ·subst h
    simp only [if_pos,Qmm]
    split<;>simp
   ·rw [if_neg h]
    simp only [Qmm]
    rw [ih]
    by_cases h2:k = b
    ·subst h2
     rw [if_pos rfl,if_neg (fun e=>h e.symm),if_pos rfl]
    ·rw [if_neg h2,if_neg h2]
def QxN (U:List Int) (a b:Int):b ∈ Qon U a ↔ b ∈ U\/b = a:=by
 unfold Qon
 split
 ·constructor
  ·exact .inl
  ·rintro (h | rfl)
   ·exact h
   ·assumption
 ·simp
def QlX (T:List Tr) (t:Tr) (x:Int):Qih (Qpx T t) x = if t.tx = x then some t else Qih T x:=by
 unfold Qih
 induction T with
 | nil=>simp [Qpx,J6]; split<;>simp_all
 | cons a r ih =>
   unfold Qpx
   by_cases h:a.tx = t.tx
   ·rw [if_pos h]
    simp only [J6]
    rw [h]
    by_cases h2:t.tx = x
    ·simp [h2]
    ·simp [h2]
   ·rw [if_neg h]
    simp only [J6]
    rw [ih]
    by_cases h2:a.tx = x
    ·subst h2
     simp [Ne.symm h]
    ·simp [h2]
def QjX (e:E):∀ (P:List E),P.Pairwise (fun a b=>a.lsn < b.lsn)->P.drop (P.findIdx (Qaf e)) = P.filter (Qaf e)
 | [],_=>rfl
 | a :: r,h=>by
   rw [JW] at h
   rw [Ki,JF]
   cases ha:Qaf e a
   ·simpa using QjX e r h.2
   ·have:r.filter (Qaf e) = r:=Jp.2 fun b hb=>by
     have:=h.1 b hb
     unfold Qaf at ha |-
     simp at ha |-
     omega
    simp [this]
def QnT (e:E):∀ (P:List E),P.Pairwise (fun a b=>a.lsn < b.lsn)->P.any (Qaf e) = true->(P.getD (P.findIdx (Qaf e)) E0).lsn = e.ref->Qpn P (P.findIdx (Qaf e)) = P.filter fun y=>!decide (y.lsn = e.ref)
 | [],_,h,_=>by cases h
 | a :: r,h,hq,hl=>by
   rw [JW] at h
   rw [Ki] at hl |-
   rw [JF]
   cases ha:Qaf e a
   ·rw [ha] at hl
    have hq:r.any (Qaf e) = true:=by simpa [ha] using hq
    have hl:(r.getD (r.findIdx (Qaf e)) E0).lsn = e.ref:=by simpa using hl
    have:=QnT e r h.2 hq hl
    unfold Qpn at this |-
    have hne:a.lsn ≠ e.ref:=by unfold Qaf at ha; simp at ha; omega
    simp [hne]
    simpa using this
   ·rw [ha] at hl
    have hl:a.lsn = e.ref:=by simpa using hl
    have:r.filter (fun y=>!decide (y.lsn = e.ref)) = r:=Jp.2 fun b hb=>by
     have:=h.1 b hb
     simp
     omega
    simp [Qpn,hl,this]
structure Inv (f:Int) (es:List E) (i:Nat) (A:Ck):Prop where
 pg:∀ p,Qmm A.Pg p = if Qco es p i = 0 then none else some (Qco es p i)
 un:∀ n,n ∈ A.U ↔ QkH es i n = true
 no:∀ x,1<=x->Qih A.T x = none->∀ k,k < i->(es.getD k E0).tx ≠ x
 so:∀ x t,1<=x->Qih A.T x = some t->Qas es x i ≠ 0/\t.last = Qas es x i/\t.ab = QfW es x i/\t.en = exE es i (Qhx x)/\t.ea = exE es i (Qe2 f x)/\t.P = QcY es i x
def QjJ:∀ {i:Nat},(∀ k,k < i->(es.getD k E0).tx ≠ x)->Qas es x i = 0/\QfW es x i = false
 | 0,_=>⟨rfl,rfl⟩
 | i + 1,h=>by
   rw [Qas,QfW,if_neg (h i (by omega)),if_neg (h i (by omega))]
   exact QjJ fun k hk=>h k (by omega)
def QtT (h:∀ k,k < i->(es.getD k E0).tx ≠ x):exE es i (Qhx x) = false/\exE es i (Qe2 f x) = false/\QcY es i x = []:=by
 refine ⟨exE_iff'.2 fun k hk=>?_,exE_iff'.2 fun k hk=>?_,?_⟩
 ·unfold Qhx; rw [decide_eq_false (h k hk)]; rfl
 ·unfold Qe2; rw [decide_eq_false (h k hk)]; rfl
 ·rw [List.eq_nil_iff_forall_not_mem]
  intro y hy
  obtain ⟨⟨k,hk,rfl⟩,_,h2,_⟩:=mem_penL.1 hy
  exact h k hk h2
def Qzy (W:Wf f es) (I:Inv f es i A) (e:E) (ht:1<=e.tx):
 ckB f A e = ((if Qas es e.tx i = 0 then decide (e.ptx < f) else decide (e.ptx = Qas es e.tx i) && !exE es i (Qhx e.tx)) && ((!Qcd e || pagedB f A.Pg e) && Qh0 f A.U e (if Qas es e.tx i = 0 then decide (0 < e.ptx) else exE es i (Qe2 f e.tx)) (QfW es e.tx i) (QcY es i e.tx))) /\
 ckS f A e = ⟨Qpx A.T ⟨e.tx,e.lsn,if Qas es e.tx i = 0 then decide (0 < e.ptx) else exE es i (Qe2 f e.tx),nab e (QfW es e.tx i),nen e (exE es i (Qhx e.tx)),Qd8 f e (QcY es i e.tx)⟩,if Qcd e = true then Qq9 A.Pg e.c.pg e.lsn else A.Pg,Qjp A.U e⟩:=by
 unfold ckB ckS
 have h0:e.tx ≠ 0:=by omega
 rw [if_neg h0,if_neg h0]
 cases hT:Qih A.T e.tx with
 | none =>
   have hn:=I.no e.tx ht hT
   obtain ⟨h1,h2⟩:=QjJ hn
   obtain ⟨h3,h4,h5⟩:=QtT (f:=f) hn
   rw [h1,h2,h3,h5]
   exact ⟨rfl,rfl⟩
 | some t =>
   obtain ⟨h0,h1,h2,h3,h4,h5⟩:=I.so e.tx t ht hT
   simp only [h1,h2,h3,h4,h5,if_neg h0]
   exact ⟨trivial,trivial⟩
def Qxu (W:Wf f es) (hi:i<=es.length) (x:Int):Qkd es i x 0 (-1) 0 = !(QcY es i x).isEmpty:=by
 unfold Qkd
 rw [Jx,Qnz,Jm,List.isEmpty_eq_false_iff_exists_mem]
 constructor
 ·rintro ⟨k,hk,h⟩
  unfold QvM QBu at h
  simp only [Jb,decide_eq_true_eq,Jm] at h
  exact ⟨_,mem_penL.2 ⟨⟨k,hk,rfl⟩,h.1.1,h.1.2.1,h.2⟩⟩
 ·rintro ⟨y,hy⟩
  obtain ⟨⟨k,hk,rfl⟩,h1,h2,h3⟩:=mem_penL.1 hy
  refine ⟨k,hk,?_⟩
  have:=(W.ok k (by omega)).lsn
  have:=W.f1
  unfold QvM QBu
  simp only [Jb,decide_eq_true_eq,Jm,JB]
  exact ⟨⟨h1,h2,by omega,.inl (by decide)⟩,h3⟩
def QtF (W:Wf f es) (hi:i<=es.length) (x pg sl ab:Int) (hs:0<=sl):Qkd es i x pg sl ab = true ↔ ∃ y ∈ QcY es i x,ab < y.lsn/\y.c.pg = pg/\y.c.sl = sl:=by
 unfold Qkd
 rw [Qnz]
 constructor
 ·rintro ⟨k,hk,h⟩
  unfold QvM QBu at h
  simp only [Jb,decide_eq_true_eq,Jm,JB] at h
  refine ⟨_,mem_penL.2 ⟨⟨k,hk,rfl⟩,h.1.1,h.1.2.1,h.2⟩,h.1.2.2.1,?_⟩
  rcases h.1.2.2.2 with h | h
  ·omega
  ·exact h
 ·rintro ⟨y,hy,ha,hc⟩
  obtain ⟨⟨k,hk,rfl⟩,h1,h2,h3⟩:=mem_penL.1 hy
  refine ⟨k,hk,?_⟩
  unfold QvM QBu
  simp only [Jb,decide_eq_true_eq,Jm,JB]
  exact ⟨⟨h1,h2,ha,.inr hc⟩,h3⟩
def Qxv (I:Inv f es i A):Qlk f es i = pagedB f A.Pg (es.getD i E0):=by
 unfold Qlk pagedB
 rw [I.pg]
 by_cases h:Qco es (es.getD i E0).c.pg i = 0
 ·rw [if_pos h,if_pos h]
 ·rw [if_neg h,if_neg h]
def QDG (W:Wf f es) (hi:i < es.length):
 txR f es i = ((if Qas es (es.getD i E0).tx i = 0 then decide ((es.getD i E0).ptx < f) else decide ((es.getD i E0).ptx = Qas es (es.getD i E0).tx i) && !exE es i (Qhx (es.getD i E0).tx)) &&
  (if (es.getD i E0).kind = 2 then true else Qfp (es.getD i E0) (if Qas es (es.getD i E0).tx i = 0 then decide (0 < (es.getD i E0).ptx) else exE es i (Qe2 f (es.getD i E0).tx)) (QfW es (es.getD i E0).tx i) (QcY es i (es.getD i E0).tx))):=by
 have hp:=Qxu W (Kk hi) (es.getD i E0).tx
 have hl:=Qfr W (es.getD i E0).tx i (by omega)
 have hb:=(W.ok i hi).ptx
 unfold txR QtO Qfp
 rw [hp]
 have f1:=W.f1
 generalize QcY es i (es.getD i E0).tx = P at *
 rcases hl with ⟨h1,hn⟩ | ⟨h1,_⟩
 ·obtain ⟨_,h2⟩:=QjJ hn
  obtain ⟨h3,h4,_⟩:=QtT (f:=f) hn
  rw [h1,h2,h3,h4]
  generalize es.getD i E0 = e at *
  by_cases hk2:e.kind = 2
  ·by_cases hf:e.ptx < f<;>by_cases h0:e.ptx = 0<;>simp [hk2,hf,h0]<;>omega
  ·by_cases hf:e.ptx < f<;>by_cases h0:e.ptx = 0<;>by_cases hk5:e.kind = 5<;>simp [hk2,hf,h0,hk5]<;>omega
 ·have h0:Qas es (es.getD i E0).tx i ≠ 0:=by omega
  generalize Qas es (es.getD i E0).tx i = la at *
  generalize exE es i (Qhx (es.getD i E0).tx) = en at *
  generalize exE es i (Qe2 f (es.getD i E0).tx) = ea at *
  generalize QfW es (es.getD i E0).tx i = ab at *
  generalize es.getD i E0 = e at *
  by_cases hk2:e.kind = 2
  ·by_cases hp:e.ptx = la<;>cases en<;>simp [hk2,h0,hp]
  ·by_cases hp:e.ptx = la<;>by_cases hk5:e.kind = 5<;>cases en<;>cases ab<;>cases ea<;>simp [hk2,h0,hp,hk5]
def Qyo (x y:Ch):eqC x y = eqC y x:=by
 unfold eqC
 rw [Jx]
 simp only [Jb,beq_iff_eq]
 constructor<;>(rintro ⟨h1,h2,h3,h4,h5,h6⟩; exact ⟨h1.symm,h2.symm,h3.symm,h4.symm,h5.symm,h6.symm⟩)
def Qeg (W:Wf f es) (hi:i<=es.length) (h:y ∈ QcY es i x):∃ k,k < i/\es.getD k E0 = y/\y.lsn = f + k:=by
 obtain ⟨⟨k,hk,rfl⟩,_⟩:=mem_penL.1 h
 exact ⟨k,hk,rfl,(W.ok k (by omega)).lsn⟩
def Qxt (W:Wf f es) (hi:i<=es.length) (h:y ∈ QcY es i x) (h':y' ∈ QcY es i x') (e:y.lsn = y'.lsn):y = y':=by
 obtain ⟨k,_,rfl,h1⟩:=Qeg W hi h
 obtain ⟨k',_,rfl,h2⟩:=Qeg W hi h'
 obtain rfl:k = k':=by omega
 rfl
def QjR {P:List E} {e:E} (hs:P.Pairwise fun a b=>a.lsn < b.lsn) (ha:P.any (Qaf e) = true) :
 P.getD (P.findIdx (Qaf e)) E0 ∈ P/\Qaf e (P.getD (P.findIdx (Qaf e)) E0) = true/\P.filter (Qaf e) = P.getD (P.findIdx (Qaf e)) E0 :: P.drop (P.findIdx (Qaf e) + 1)/\∀ y ∈ P.drop (P.findIdx (Qaf e) + 1),(P.getD (P.findIdx (Qaf e)) E0).lsn < y.lsn:=by
 have hj:P.findIdx (Qaf e) < P.length:=List.findIdx_lt_length_of_exists (by simpa using ha)
 have hd:=QjX e P hs
 have hc:P.drop (P.findIdx (Qaf e)) = P.getD (P.findIdx (Qaf e)) E0 :: P.drop (P.findIdx (Qaf e) + 1):=by
  rw [Qm P _ hj,List.drop_eq_getElem_cons hj]
 rw [hc] at hd
 have hm:P.getD (P.findIdx (Qaf e)) E0 ∈ P.filter (Qaf e):=by rw [<- hd]; exact Ju
 have hsf:=hs.filter (Qaf e)
 rw [<- hd,JW] at hsf
 exact ⟨(Jt.1 hm).1,(Jt.1 hm).2,hd.symm,hsf.1⟩
def QAq (W:Wf f es) (hi:i < es.length) (I:Inv f es i A) (e:E) (he:es.getD i E0 = e) (hk:e.kind = 2):Qpo f A.U (QcY es i e.tx) e = Qjm f es i:=by
 have hok:=W.ok i hi
 have hil:=Kk hi
 have hs:=Qeh W hil e.tx
 rw [he] at hok
 have hsl:=QtF W hil e.tx e.c.pg e.c.sl e.ref (hok.sl hk)
 have hun:decide (e.ref ∈ A.U) = QkH es i e.ref:=by
  rw [Jx,decide_eq_true_eq]
  exact I.un _
 unfold Qpo Qjm
 rw [he,hun]
 by_cases hf:e.ref < f
 ·rw [if_pos hf]
  have hall:∀ y ∈ QcY es i e.tx,Qaf e y = true:=fun y hy=>by
   obtain ⟨k,_,_,h⟩:=Qeg W hil hy
   unfold Qaf
   exact decide_eq_true (by omega)
  have hpen:Qkd es i e.tx e.c.pg e.c.sl e.ref = (QcY es i e.tx).any (Qda e):=by
   rw [Jx,hsl,J5]
   constructor
   ·rintro ⟨y,hy,_,h1,h2⟩
    exact ⟨y,hy,by unfold Qda; rw [decide_eq_true h1,decide_eq_true h2]; rfl⟩
   ·rintro ⟨y,hy,h⟩
    unfold Qda at h
    simp only [Jb,decide_eq_true_eq] at h
    obtain ⟨k,_,_,hl⟩:=Qeg W hil hy
    exact ⟨y,hy,by omega,h.1,h.2⟩
  rw [hpen,Bool.and_comm]
  congr 1
  have hfe:¬ f<=e.ref:=by omega
  rw [if_neg hfe,QjX e _ hs,Jp.2 hall]
  split
  ·rfl
  ·rename_i hno
   cases hP:QcY es i e.tx with
   | nil=>simp [hf]
   | cons a r =>
     exfalso
     rw [hP] at hno hall
     exact hno (by rw [List.any_cons,hall a (by simp)]; rfl)
 ·rw [if_neg hf]
  have hfe:f<=e.ref:=by omega
  have href:=hok.ref
  have hlsn:=hok.lsn
  have hk0:(e.ref - f).toNat < i:=by omega
  have hx:=(W.ok (e.ref - f).toNat (by omega)).lsn
  obtain ⟨x,hxe⟩:∃ x,es.getD (e.ref - f).toNat E0 = x:=⟨_,rfl⟩
  rw [hxe] at hx |-
  have hx:x.lsn = e.ref:=by omega
  by_cases hm:x ∈ QcY es i e.tx
  ·obtain ⟨_,h1,h2,h3⟩:=mem_penL.1 hm
   have ha:(QcY es i e.tx).any (Qaf e) = true:=J5.2 ⟨x,hm,by unfold Qaf; exact decide_eq_true (by omega)⟩
   obtain ⟨a1,a2,a3,a4⟩:=QjR hs ha
   rw [if_pos ha,if_pos hfe]
   generalize (QcY es i e.tx).findIdx (Qaf e) = j at *
   have hy:(QcY es i e.tx).getD j E0 = x:=by
    have hxf:x ∈ (QcY es i e.tx).filter (Qaf e):=Jt.2 ⟨hm,by unfold Qaf; exact decide_eq_true (by omega)⟩
    rw [a3] at hxf
    rcases Jj.1 hxf with h | h
    ·exact h.symm
    ·have:=a4 x h
     unfold Qaf at a2
     have:=of_decide_eq_true a2
     omega
   rw [hy] at a2 a3 a4 |-
   have hpen:Qkd es i e.tx e.c.pg e.c.sl e.ref = ((QcY es i e.tx).drop (j + 1)).any (Qda e):=by
    rw [Jx,hsl,J5]
    constructor
    ·rintro ⟨y,hy,hl,h1,h2⟩
     have hyf:y ∈ (QcY es i e.tx).filter (Qaf e):=Jt.2 ⟨hy,by unfold Qaf; exact decide_eq_true (by omega)⟩
     rw [a3] at hyf
     rcases Jj.1 hyf with h | h
     ·rw [h] at hl; omega
     ·exact ⟨y,h,by unfold Qda; rw [decide_eq_true h1,decide_eq_true h2]; rfl⟩
    ·rintro ⟨y,hy,h⟩
     unfold Qda at h
     simp only [Jb,decide_eq_true_eq] at h
     have hl:=a4 y hy
     exact ⟨y,List.mem_of_mem_drop hy,by omega,h.1,h.2⟩
   rw [hpen,decide_eq_true h1,decide_eq_true h2,decide_eq_true hx,Qyo]
   cases eqC e.c x.c.inv<;>cases QkH es i e.ref<;>simp
  ·have hL:(decide (x.kind = 1) && (decide (x.tx = e.tx) && (eqC e.c x.c.inv && (!QkH es i e.ref && !Qkd es i e.tx e.c.pg e.c.sl e.ref)))) = false:=by
    rw [J2]
    intro h
    simp only [Jb,decide_eq_true_eq,Jm] at h
    exact hm (mem_penL.2 ⟨⟨_,hk0,hxe⟩,h.1,h.2.1,by rw [hx]; exact h.2.2.2.1⟩)
   rw [hL,if_pos hfe]
   split
   ·rename_i ha
    obtain ⟨a1,a2,a3,a4⟩:=QjR hs ha
    have hne:((QcY es i e.tx).getD ((QcY es i e.tx).findIdx (Qaf e)) E0).lsn ≠ e.ref:=fun h=>by
     obtain ⟨k,hk,hke,hkl⟩:=Qeg W hil a1
     have:k = (e.ref - f).toNat:=by omega
     rw [this,hxe] at hke
     exact hm (hke ▸ a1)
    rw [decide_eq_false hne]
    simp
   ·rw [decide_eq_false hf]
    simp
def QGh (W:Wf f es) (hi:i < es.length) (I:Inv f es i A):ckB f A (es.getD i E0) = Qh4 f es i:=by
 have hok:=W.ok i hi
 unfold Qh4
 rcases hok.tx with ⟨ht,hk⟩ | ⟨ht,hk⟩
 ·rw [(Qzy W I _ ht).1,QDG W hi,Qxv I,decide_eq_true (show 0 < (es.getD i E0).tx by omega)]
  unfold Qh0
  by_cases hk2:(es.getD i E0).kind = 2
  ·rw [if_pos hk2,if_pos hk2,QAq W hi I _ rfl hk2,decide_eq_true hk2]
   simp
  ·rw [if_neg hk2,if_neg hk2,decide_eq_false hk2]
   generalize Qfp _ _ _ _ = b
   generalize pagedB _ _ _ = c
   generalize (if Qas es (es.getD i E0).tx i = 0 then _ else _:Bool) = a
   cases a<;>cases b<;>cases c<;>cases Qcd (es.getD i E0)<;>rfl
 ·have h1:Qcd (es.getD i E0) = false:=by
   unfold Qcd
   rw [J9]
   exact ⟨beq_eq_false_iff_ne.2 hk.1,beq_eq_false_iff_ne.2 hk.2.1⟩
  rw [h1,decide_eq_false hk.2.1,decide_eq_false (show ¬ 0 < (es.getD i E0).tx by omega),ckB,if_pos ht]
  rfl
def Qli (W:Wf f es) (hi:i < es.length) (x:Int):QcY es (i + 1) x = (QcY es i x).filter (fun y=>!undp y.lsn (es.getD i E0)) ++ (if (es.getD i E0).kind = 1/\(es.getD i E0).tx = x then [es.getD i E0] else []):=by
 unfold QcY
 rw [QnJ,JX,Ke]
 congr 1
 ·refine JM fun y _=>?_
  rw [Qev]
  cases decide (y.kind = 1)<;>cases decide (y.tx = x)<;>cases QkH es i y.lsn<;>cases undp y.lsn (es.getD i E0)<;>rfl
 ·have hf:=Qwj W hi
  have hl:=(W.ok i hi).lsn
  rw [<- hl] at hf
  rw [JF,List.filter_nil,Qev,hf]
  generalize es.getD i E0 = e at *
  by_cases h1:e.kind = 1
  ·by_cases h2:e.tx = x
   ·simp [h1,h2,undp]
   ·simp [h1,h2]
  ·simp [h1]
def Qlj (W:Wf f es) (hi:i < es.length) (x:Int) (h1:¬ ((es.getD i E0).kind = 1/\(es.getD i E0).tx = x)) (h2:(es.getD i E0).kind = 2->∀ y ∈ QcY es i x,y.lsn ≠ (es.getD i E0).ref):QcY es (i + 1) x = QcY es i x:=by
 rw [Qli W hi,if_neg h1,JU]
 refine Jp.2 fun y hy=>?_
 unfold undp
 by_cases hk:(es.getD i E0).kind = 2
 ·rw [decide_eq_false (show ¬ (es.getD i E0).ref = y.lsn from fun h=>h2 hk y hy h.symm),JZ]
  rfl
 ·rw [decide_eq_false hk]
  rfl
def QnU (h:Qpo f U P e = true) (hf:f<=e.ref):P.any (Qaf e) = true/\(P.getD (P.findIdx (Qaf e)) E0).lsn = e.ref:=by
 unfold Qpo at h
 rw [if_pos hf] at h
 by_cases ha:P.any (Qaf e) = true
 ·rw [if_pos ha] at h
  simp only [Jb,decide_eq_true_eq] at h
  exact ⟨ha,h.2.1⟩
 ·rw [if_neg ha,decide_eq_false (show ¬ e.ref < f by omega),JZ] at h
  cases h
def QF0 {es:List E} (h:(es.getD i E0).kind ≠ 1/\(es.getD i E0).kind ≠ 2):Qcd (es.getD i E0) = false:=by
 unfold Qcd
 rw [J9]
 exact ⟨beq_eq_false_iff_ne.2 h.1,beq_eq_false_iff_ne.2 h.2⟩
def Qgs (W:Wf f es) (hi:i < es.length) (I:Inv f es i A) (h:ckB f A (es.getD i E0) = true):Inv f es (i + 1) (ckS f A (es.getD i E0)):=by
 have hok:=W.ok i hi
 have hil:=Kk hi
 have other:∀ x,(es.getD i E0).tx ≠ x->Qas es x (i + 1) = Qas es x i/\QfW es x (i + 1) = QfW es x i/\exE es (i + 1) (Qhx x) = exE es i (Qhx x)/\exE es (i + 1) (Qe2 f x) = exE es i (Qe2 f x):=fun x hx=>by
  refine ⟨by rw [Qas,if_neg hx],by rw [QfW,if_neg hx],?_,?_⟩
  ·rw [QcN]; unfold Qhx; rw [decide_eq_false hx,JO,JT]
  ·rw [QcN]; unfold Qe2; rw [decide_eq_false hx,JO,JT]
 rcases hok.tx with ⟨ht,hk⟩ | ⟨ht,hk⟩
 ·obtain ⟨eB,eS⟩:=Qzy W I _ ht
  rw [eB] at h
  rw [eS]
  have hlast:=Qfr W (es.getD i E0).tx i hil
  have hund:(es.getD i E0).kind = 2->Qpo f A.U (QcY es i (es.getD i E0).tx) (es.getD i E0) = true:=fun hk2=>by
   unfold Qh0 at h
   rw [if_pos hk2] at h
   simp only [Jb] at h
   exact h.2.2
  have hptx:if Qas es (es.getD i E0).tx i = 0 then (es.getD i E0).ptx < f else (es.getD i E0).ptx = Qas es (es.getD i E0).tx i:=by
   have:=h
   simp only [Jb] at this
   have:=this.1
   split at this
   ·rename_i h0; rw [if_pos h0]; exact of_decide_eq_true this
   ·rename_i h0; rw [if_neg h0]; simp only [Jb,decide_eq_true_eq] at this; exact this.1
  refine ⟨fun p=>?_,fun n=>?_,fun x hx hn k hk'=>?_,fun x t hx hsome=>?_⟩
  ·dsimp only
   rw [Qco]
   by_cases hc:Qcd (es.getD i E0) = true
   ·rw [if_pos hc,Qye,I.pg]
    by_cases hp:(es.getD i E0).c.pg = p
    ·rw [if_pos hp,if_pos (show Qcd (es.getD i E0) = true/\(es.getD i E0).c.pg = p from ⟨hc,hp⟩),if_neg (show ¬ (es.getD i E0).lsn = 0 by have:=hok.lsn; have:=W.f1; omega)]
    ·rw [if_neg hp,if_neg (show ¬ (Qcd (es.getD i E0) = true/\(es.getD i E0).c.pg = p) from fun h=>hp h.2)]
   ·rw [if_neg hc,if_neg (show ¬ (Qcd (es.getD i E0) = true/\(es.getD i E0).c.pg = p) from fun h=>hc h.1),I.pg]
  ·dsimp only
   rw [Qev]
   unfold Qjp undp
   by_cases hk2:(es.getD i E0).kind = 2
   ·rw [if_pos hk2,QxN,I.un,decide_eq_true hk2,Jv,JB,decide_eq_true_eq]
    constructor
    ·rintro (h | h)
     ·exact .inl h
     ·exact .inr h.symm
    ·rintro (h | h)
     ·exact .inl h
     ·exact .inr h.symm
   ·rw [if_neg hk2,I.un,decide_eq_false hk2,JO,JT]
  ·dsimp only at hn
   rw [QlX] at hn
   dsimp only at hn
   split at hn
   ·cases hn
   ·rename_i hne
    by_cases hki:k = i
    ·rw [hki]; exact hne
    ·exact I.no x hx hn k (by omega)
  ·dsimp only at hsome
   rw [QlX] at hsome
   dsimp only at hsome
   by_cases hxe:(es.getD i E0).tx = x
   ·rw [if_pos hxe] at hsome
    obtain rfl:=Kv.inj hsome
    subst hxe
    dsimp only
    rw [Qas,if_pos rfl,QfW,if_pos rfl,QcN,QcN,Qli W hi]
    refine ⟨by have:=hok.lsn; have:=W.f1; omega,rfl,rfl,?_,?_,?_⟩
    ·unfold nen Qhx
     rw [decide_eq_true rfl,Jv,Bool.or_assoc]
    ·unfold Qe2
     rw [decide_eq_true rfl,Jv]
     rcases hlast with ⟨h0,hno⟩ | ⟨h0,_⟩
     ·rw [if_pos h0] at hptx |-
      have:=(QtT (f:=f) hno).2.1
      unfold Qe2 at this
      rw [this,decide_eq_true hptx,J3,Kf]
     ·have hne:Qas es (es.getD i E0).tx i ≠ 0:=by have:=W.f1; omega
      rw [if_neg hne] at hptx |-
      rw [decide_eq_false (show ¬ (es.getD i E0).ptx < f by omega),JZ,JT]
    ·unfold Qd8
     by_cases hk2:(es.getD i E0).kind = 2
     ·rw [if_pos hk2,if_neg (by omega),JU]
      unfold Qr5
      by_cases hf:f<=(es.getD i E0).ref
      ·obtain ⟨a1,a2⟩:=QnU (hund hk2) hf
       rw [if_pos hf,QnT _ _ (Qeh W hil _) a1 a2]
       refine JM fun y _=>?_
       unfold undp
       rw [decide_eq_true hk2,Jv]
       congr 1
       rw [decide_eq_decide]
       exact eq_comm
      ·rw [if_neg hf]
       refine (Jp.2 fun y hy=>?_).symm
       obtain ⟨k,_,_,hl⟩:=Qeg W hil hy
       unfold undp
       rw [decide_eq_false (show ¬ (es.getD i E0).ref = y.lsn by omega),JZ]
       rfl
     ·rw [if_neg hk2]
      have hid:(QcY es i (es.getD i E0).tx).filter (fun y=>!undp y.lsn (es.getD i E0)) = QcY es i (es.getD i E0).tx:=Jp.2 fun y _=>by
       unfold undp
       rw [decide_eq_false hk2]
       rfl
      rw [hid]
      unfold nP
      by_cases hk1:(es.getD i E0).kind = 1
      ·rw [if_pos hk1,if_pos ⟨hk1,rfl⟩]
      ·rw [if_neg hk1,if_neg (fun h=>hk1 h.1),JU]
   ·rw [if_neg hxe] at hsome
    obtain ⟨o1,o2,o3,o4⟩:=other x hxe
    rw [o1,o2,o3,o4,Qlj W hi x (fun h=>hxe h.2) ?_]
    ·exact I.so x t hx hsome
    ·intro hk2 y hy hl
     by_cases hf:f<=(es.getD i E0).ref
     ·obtain ⟨a1,a2⟩:=QnU (hund hk2) hf
      obtain ⟨b1,_⟩:=QjR (Qeh W hil _) a1
      have:=Qxt W hil hy b1 (by rw [hl,a2])
      rw [<- this] at b1
      have h1:=(mem_penL.1 hy).2.2.1
      have h2:=(mem_penL.1 b1).2.2.1
      exact hxe (h2.symm.trans h1)
     ·obtain ⟨k,_,_,hl'⟩:=Qeg W hil hy
      omega
 ·have hc:=QF0 ⟨hk.1,hk.2.1⟩
  rw [ckS,if_pos ht]
  refine ⟨fun p=>?_,fun n=>?_,fun x hx hn k hk'=>?_,fun x t hx hsome=>?_⟩
  ·rw [Qco,if_neg (show ¬ (Qcd (es.getD i E0) = true/\(es.getD i E0).c.pg = p) from fun h=>by rw [hc] at h; cases h.1),I.pg]
  ·rw [Qev,I.un]
   unfold undp
   rw [decide_eq_false hk.2.1,JO,JT]
  ·by_cases hki:k = i
   ·rw [hki]; omega
   ·exact I.no x hx hn k (by omega)
  ·obtain ⟨o1,o2,o3,o4⟩:=other x (by omega)
   rw [o1,o2,o3,o4,Qlj W hi x (fun h=>hk.1 h.1) (fun h=>absurd h hk.2.1)]
   exact I.so x t hx hsome
def Qx6 (f:Int) (es:List E):Inv f es 0 Ck0:=⟨fun p=>rfl,fun n=>by simp [Ck0,QkH,exE],fun x hx hn k hk=>by omega,fun x t hx h=>by cases h⟩
def Qzx (W:Wf f es):∀ i,i<=es.length->ckL f Ck0 (es.take i) = (Jg i).all (Qh4 f es)/\(ckL f Ck0 (es.take i) = true->Inv f es i (ckA f Ck0 (es.take i)))
 | 0,_=>⟨rfl,fun _=>Qx6 f es⟩
 | i + 1,hi=>by
   obtain ⟨h1,h2⟩:=Qzx W i (by omega)
   rw [QjW hi,Qj2,QnG,Jw,Kw,h1]
   cases hb:(Jg i).all (Qh4 f es)
   ·simp
   ·have I:=h2 (h1.trans hb)
    have he:=QGh W hi I
    simp only [ckL,ckA,List.all_cons,List.all_nil,Kf,Jv]
    exact ⟨he,fun h=>Qgs W hi I h⟩
def Qzz (x:Lg):QqE x = Qg6 x:=by
 unfold QqE Qg6
 by_cases h:lgB x = true
 ·rw [if_pos h,if_pos h]
  have:=(Qzx (Wf.of h) x.es.length (JA _)).1
  rw [Km] at this
  rw [this]
 ·rw [if_neg h,if_neg h]
def ovp (lsn tx:Int) (e:E):Bool:=(decide (e.kind = 2) && decide (e.ref = lsn)) || (decide (e.tx = tx) && (decide (e.kind = 3) || decide (e.kind = 5)))
def ovB (es:List E) (k n:Nat):Bool:=(Jg n).any fun j=>decide (k < j) && ovp (es.getD k E0).lsn (es.getD k E0).tx (es.getD j E0)
def QxC (es:List E) (k n:Nat):ovB es k (n + 1) = (ovB es k n || (decide (k < n) && ovp (es.getD k E0).lsn (es.getD k E0).tx (es.getD n E0))):=by
 unfold ovB
 rw [Jw,List.any_append]
 simp
def QxD (es:List E) (n:Nat):ovB es n (n + 1) = false:=by
 unfold ovB
 rw [Kj]
 intro j hj
 have:=Je.1 hj
 simp; omega
def QcZ (es:List E) (n:Nat) (c:Int × Int) (k:Nat):Bool:=decide ((es.getD k E0).kind = 1) && (decide (((es.getD k E0).c.pg,(es.getD k E0).c.sl) = c) && !ovB es k n)
def Qoy (es:List E) (n:Nat) (c:Int × Int):Nat:=(Jg n).countP (QcZ es n c)
abbrev Own:=List ((Int × Int) × (Int × Int))
def QbW (o:Own) (c:Int × Int):Int × Int:=match o with
 | []=>(0,0)
 | (a,x) :: r=>if a = c then x else QbW r c
def QhN (o:Own) (c:Int × Int) (v:Int × Int):Own:=match o with
 | []=>[(c,v)]
 | (a,x) :: r=>if a = c then (a,v) :: r else (a,x) :: QhN r c v
def Qgv (o:Own) (c:Int × Int) (v:Int × Int) (d:Int × Int):QbW (QhN o c v) d = if c = d then v else QbW o d:=by
 induction o with
 | nil=>simp [QhN,QbW]
 | cons p r ih =>
   obtain ⟨a,x⟩:=p
   rw [QhN]
   by_cases h:a = c
   ·rw [if_pos h,QbW]
    subst h
    by_cases h2:a = d
    ·rw [if_pos h2,if_pos h2]
    ·rw [if_neg h2,if_neg h2,QbW,if_neg h2]
   ·rw [if_neg h,QbW,ih]
    by_cases h2:a = d
    ·rw [if_pos h2,if_neg (fun e=>h (h2.trans e.symm)),QbW,if_pos h2]
    ·rw [if_neg h2]
     conv=>rhs; rw [QbW,if_neg h2]
def Qyc (o:Own) (q:Int->Bool) (hn:(o.map (·.1)).Nodup) (c:Int × Int):QbW (o.filter fun p=>!q p.2.1) c = if q (QbW o c).1 = true then (0,0) else QbW o c:=by
 induction o with
 | nil=>show (0,0) = if q 0 = true then (0,0) else (0,0); split<;>rfl
 | cons p r ih =>
   obtain ⟨a,x⟩:=p
   simp only [Jz,JV] at hn
   have ih:=ih hn.2
   by_cases h2:a = c
   ·have hr:∀ o':Own,(∀ y ∈ o',y.1 ≠ c)->QbW o' c = (0,0):=fun o' ho=>by
     induction o' with
     | nil=>rfl
     | cons z s ihs =>
       obtain ⟨b,y⟩:=z
       rw [QbW,if_neg (ho (b,y) (Ju)),ihs fun y hy=>ho y (Js _ hy)]
    rw [JF,QbW,if_pos h2]
    cases hq:q x.1
    ·simp only [hq,Kx,if_true,JH,if_false]
     rw [QbW,if_pos h2]
    ·simp only [hq,J4,JH,if_false,if_true]
     refine hr _ fun y hy e=>?_
     have:=(Jt.1 hy).1
     exact hn.1 (by rw [h2,<- e]; exact Kz.2 ⟨y,this,rfl⟩)
   ·rw [JF,QbW,if_neg h2]
    cases hq:q x.1
    ·simp only [hq,Kx,if_true]
     rw [QbW,if_neg h2]; exact ih
    ·simp only [hq,J4,JH,if_false]
     exact ih
def Qg9 (o:Own) (c:Int × Int) (v:Int × Int) (hn:(o.map (·.1)).Nodup):((QhN o c v).map (·.1)).Nodup/\∀ y ∈ (QhN o c v).map (·.1),y = c\/y ∈ o.map (·.1):=by
 induction o with
 | nil=>simp [QhN]
 | cons p r ih =>
   obtain ⟨a,x⟩:=p
   simp only [Jz,JV] at hn
   obtain ⟨i1,i2⟩:=ih hn.2
   rw [QhN]
   by_cases h:a = c
   ·rw [if_pos h]
    simp only [Jz,JV]
    exact ⟨hn,fun y hy=>.inr hy⟩
   ·rw [if_neg h]
    simp only [Jz,JV]
    refine ⟨⟨fun hm=>?_,i1⟩,fun y hy=>?_⟩
    ·rcases i2 a hm with e | e
     ·exact h e
     ·exact hn.1 e
    ·rcases Jj.1 hy with rfl | hy
     ·exact .inr (Ju)
     ·exact (i2 y hy).imp id fun e=>Js _ e
def QvN (o:Own) (e:E):Option Own :=
 if e.kind = 1 then (if 0 < (QbW o (e.c.pg,e.c.sl)).2/\(QbW o (e.c.pg,e.c.sl)).1 ≠ e.tx then none
  else some (QhN o (e.c.pg,e.c.sl) (if (QbW o (e.c.pg,e.c.sl)).1 ≠ e.tx then (e.tx,1) else (e.tx,(QbW o (e.c.pg,e.c.sl)).2 + 1))))
 else if e.kind = 2 then some (QhN o (e.c.pg,e.c.sl) ((QbW o (e.c.pg,e.c.sl)).1,(QbW o (e.c.pg,e.c.sl)).2 - 1))
 else if e.kind = 3\/e.kind = 5 then some (o.filter fun p=>!decide (p.2.1 = e.tx))
 else some o
def Qm9 (es:List E):Nat->Option Own
 | 0=>some []
 | n + 1=>(Qm9 es n).bind fun o=>QvN o (es.getD n E0)
def QgV (es:List E) (i:Nat):Bool:=!decide ((es.getD i E0).kind = 1) || (Jg i).all fun k=>!(QcZ es i ((es.getD i E0).c.pg,(es.getD i E0).c.sl) k && !decide ((es.getD k E0).tx = (es.getD i E0).tx))
structure OwI (es:List E) (n:Nat) (o:Own):Prop where
 nd:(o.map (·.1)).Nodup
 cnt:∀ c,(QbW o c).2 = Qoy es n c
 tx:∀ c k,k < n->QcZ es n c k = true->(es.getD k E0).tx = (QbW o c).1
def Qde (es:List E) (n:Nat) (c:Int × Int) (hk:k < n):QcZ es (n + 1) c k = (QcZ es n c k && !ovp (es.getD k E0).lsn (es.getD k E0).tx (es.getD n E0)):=by
 unfold QcZ
 rw [QxC,decide_eq_true hk,Jv]
 generalize ovB es k n = a
 generalize ovp _ _ _ = b
 cases a<;>cases b<;>simp
def QeS (es:List E) (n:Nat) (c:Int × Int):Qoy es (n + 1) c = (Jg n).countP (QcZ es (n + 1) c) + (if QcZ es (n + 1) c n = true then 1 else 0):=by
 unfold Qoy
 rw [Jw,JY]
 simp [List.countP_cons]
def Qqz (hr:r < n) (hp:p r = true) (hq:q r = false) (h:∀ k,k < n->k ≠ r->p k = q k):(Jg n).countP p = (Jg n).countP q + 1:=by
 induction n with
 | zero=>omega
 | succ n ih =>
   rw [Jw,JY,JY]
   by_cases hn:r = n
   ·subst hn
    have e:(Jg r).countP p = (Jg r).countP q:=JC fun k hk=>by
     have:=Je.1 hk
     rw [h k (by omega) (by omega)]
    simp [e,hp,hq]
   ·have:=ih (by omega) fun k hk=>h k (by omega)
    have e:=h n (by omega) (fun e=>hn e.symm)
    simp [this,e]
    omega
def Qzf (h2:e.kind ≠ 2) (h3:e.kind ≠ 3) (h5:e.kind ≠ 5):ovp l t e = false:=by simp [ovp,h2,h3,h5]
def Qxw (W:Wf 1 es) (hn:n < es.length) (hr:Qh4 1 es n = true) (href:(es.getD n E0).kind = 2->1<=(es.getD n E0).ref) (I:OwI es n o):
 (QgV es n = false/\QvN o (es.getD n E0) = none)\/(QgV es n = true/\∃ o',QvN o (es.getD n E0) = some o'/\OwI es (n + 1) o'):=by
 have hw:=W.ok n hn
 have hlsn:∀ k,k < es.length->(es.getD k E0).lsn = 1 + k:=fun k hk=>(W.ok k hk).lsn
 by_cases h1:(es.getD n E0).kind = 1
 ·-- a change
  have hov:∀ k,ovp (es.getD k E0).lsn (es.getD k E0).tx (es.getD n E0) = false:=fun k=>Qzf (by omega) (by omega) (by omega)
  have hl:∀ c k,k < n->QcZ es (n + 1) c k = QcZ es n c k:=fun c k hk=>by rw [Qde es n c hk,hov]; simp
  have hself:∀ c,QcZ es (n + 1) c n = decide (((es.getD n E0).c.pg,(es.getD n E0).c.sl) = c):=fun c=>by unfold QcZ; rw [QxD,decide_eq_true h1]; simp
  have hcnt:∀ c,Qoy es (n + 1) c = Qoy es n c + (if ((es.getD n E0).c.pg,(es.getD n E0).c.sl) = c then 1 else 0):=fun c=>by
   rw [QeS,hself]
   have e:(Jg n).countP (QcZ es (n + 1) c) = Qoy es n c:=JC fun k hk=>by rw [hl c k (Je.1 hk)]
   rw [e]; simp
  generalize hc:((es.getD n E0).c.pg,(es.getD n E0).c.sl) = c at *
  unfold QvN
  rw [if_pos h1,hc]
  by_cases hbad:0 < (QbW o c).2/\(QbW o c).1 ≠ (es.getD n E0).tx
  ·refine .inl ⟨?_,if_pos hbad⟩
   have hpos:0 < Qoy es n c:=by have:=I.cnt c; omega
   unfold Qoy at hpos
   obtain ⟨k,hk,hlv⟩:=JG.1 hpos
   have hkn:=Je.1 hk
   unfold QgV
   rw [decide_eq_true h1,hc]
   simp only [J4,J3]
   rw [Kh]
   refine ⟨k,hk,?_⟩
   rw [hlv,I.tx c k hkn hlv,decide_eq_false hbad.2]
   simp
  ·refine .inr ⟨?_,_,if_neg hbad,(Qg9 o c _ I.nd).1,fun d=>?_,fun d k hk hlv=>?_⟩
   ·unfold QgV
    rw [decide_eq_true h1,hc]
    simp only [J4,J3]
    rw [Jo]
    intro k hk
    have hkn:=Je.1 hk
    cases hlv:QcZ es n c k
    ·rfl
    ·have ht:=I.tx c k hkn hlv
     have hpos:0 < Qoy es n c:=JG.2 ⟨k,hk,hlv⟩
     have:=I.cnt c
     rw [ht]
     have:(QbW o c).1 = (es.getD n E0).tx:=J0 fun hne=>hbad ⟨by omega,hne⟩
     simp [this]
   ·rw [Qgv,hcnt]
    by_cases hcd:c = d
    ·subst hcd
     rw [if_pos rfl,if_pos rfl]
     have:=I.cnt c
     split
     ·rename_i hne
      have:¬ 0 < (QbW o c).2:=fun h=>hbad ⟨h,hne⟩
      simp; omega
     ·simp; omega
    ·rw [if_neg hcd,if_neg hcd,I.cnt d]; rfl
   ·rw [Qgv]
    rcases Jy.1 hk with hk | rfl
    ·rw [hl d k hk] at hlv
     have ht:=I.tx d k hk hlv
     by_cases hcd:c = d
     ·subst hcd
      rw [if_pos rfl]
      have hpos:0 < Qoy es n c:=JG.2 ⟨k,Je.2 hk,hlv⟩
      have:=I.cnt c
      have he:(QbW o c).1 = (es.getD n E0).tx:=J0 fun hne=>hbad ⟨by omega,hne⟩
      split<;>exact ht.trans he
     ·rw [if_neg hcd]; exact ht
    ·rw [hself] at hlv
     have:=of_decide_eq_true hlv
     rw [if_pos this]
     split<;>rfl
 have hstr:QgV es n = true:=by unfold QgV; rw [decide_eq_false h1]; rfl
 have hself:∀ c,QcZ es (n + 1) c n = false:=fun c=>by unfold QcZ; rw [decide_eq_false h1]; rfl
 by_cases h2:(es.getD n E0).kind = 2
 ·-- an undo
  unfold QvN
  rw [if_neg h1,if_pos h2]
  have hu:Qjm 1 es n = true:=by
   unfold Qh4 at hr
   rw [decide_eq_true h2] at hr
   simp only [Jv,Jb,Kl] at hr
   exact hr.2.2
  have htxr:txR 1 es n = true:=by
   have ht:0 < (es.getD n E0).tx:=by rcases hw.tx with h | h<;>omega
   unfold Qh4 at hr
   rw [decide_eq_true ht] at hr
   simp only [Jv,Jb,Kl] at hr
   exact hr.1
  refine .inr ⟨hstr,_,rfl,(Qg9 o _ _ I.nd).1,?_,?_⟩
  all_goals
   have hr1:=href h2
   have hlt:=hw.ref.2
   have hl0:=hw.lsn
   unfold Qjm at hu
   rw [if_neg (by omega)] at hu
   obtain ⟨r,hrr⟩:∃ r:Nat,((es.getD n E0).ref - 1).toNat = r:=⟨_,rfl⟩
   rw [hrr] at hu
   simp only [Jb,decide_eq_true_eq,Jm] at hu
   obtain ⟨u1,u2,u3,u4,-⟩:=hu
   have hrn:r < n:=by omega
   have hrl:(es.getD r E0).lsn = (es.getD n E0).ref:=by rw [hlsn r (by omega)]; omega
   have hcell:((es.getD r E0).c.pg,(es.getD r E0).c.sl) = ((es.getD n E0).c.pg,(es.getD n E0).c.sl):=by
    unfold eqC Ch.inv at u3
    simp only [Jb,beq_iff_eq] at u3
    rw [u3.1,u3.2.1]
   have hend:∀ j,j < n->Qhx (es.getD n E0).tx (es.getD j E0) = false:=by
    unfold txR at htxr
    split at htxr
    ·cases htxr
    ·rename_i hne
     exact exE_iff'.1 (by simpa using hne)
   have hund:∀ j,j < n->undp (es.getD n E0).ref (es.getD j E0) = false:=exE_iff'.1 u4
   have hlr:QcZ es n ((es.getD n E0).c.pg,(es.getD n E0).c.sl) r = true:=by
    unfold QcZ
    rw [decide_eq_true u1,decide_eq_true hcell]
    simp only [Jv,Jm]
    unfold ovB
    rw [Kj]
    intro j hj
    have e1:=hend j (Je.1 hj)
    have e2:=hund j (Je.1 hj)
    rw [hrl,u2]
    unfold Qhx at e1
    unfold undp at e2
    unfold ovp
    rw [e1,e2]
    simp
   have hov:∀ k,k < n->k ≠ r->ovp (es.getD k E0).lsn (es.getD k E0).tx (es.getD n E0) = false:=fun k hk hkr=>by
    have e1:=hlsn k (by omega)
    have:¬ (es.getD n E0).ref = (es.getD k E0).lsn:=by omega
    unfold ovp
    rw [decide_eq_false this,decide_eq_false (show ¬ (es.getD n E0).kind = 3 by omega),decide_eq_false (show ¬ (es.getD n E0).kind = 5 by omega)]
    simp
   have hovr:ovp (es.getD r E0).lsn (es.getD r E0).tx (es.getD n E0) = true:=by
    unfold ovp
    rw [decide_eq_true h2,decide_eq_true hrl.symm]; rfl
   have hl:∀ d k,k < n->k ≠ r->QcZ es (n + 1) d k = QcZ es n d k:=fun d k hk hkr=>by rw [Qde es n d hk,hov k hk hkr]; simp
   have hlr2:∀ d,QcZ es (n + 1) d r = false:=fun d=>by rw [Qde es n d hrn,hovr]; simp
   generalize hc:((es.getD n E0).c.pg,(es.getD n E0).c.sl) = c at *
  ·intro d
   rw [Qgv,QeS,hself]
   by_cases hcd:c = d
   ·subst hcd
    rw [if_pos rfl]
    have e1:Qoy es n c = (Jg n).countP (QcZ es (n + 1) c) + 1:=Qqz hrn hlr (hlr2 c) fun k hk hkr=>(hl c k hk hkr).symm
    have:=I.cnt c
    simp only [JH,if_false]
    omega
   ·rw [if_neg hcd,I.cnt d]
    have e:(Jg n).countP (QcZ es (n + 1) d) = Qoy es n d:=JC fun k hk=>by
     by_cases hkr:k = r
     ·subst hkr
      rw [hlr2 d]
      unfold QcZ
      rw [hcell,decide_eq_false hcd]
      simp
     ·rw [hl d k (Je.1 hk) hkr]
    rw [e]; rfl
  ·intro d k hk hlv
   have hkn:k < n:=by
    rcases Jy.1 hk with h | rfl
    ·exact h
    ·rw [hself] at hlv; cases hlv
   have hkr:k ≠ r:=fun e=>by rw [e,hlr2 d] at hlv; cases hlv
   rw [hl d k hkn hkr] at hlv
   have:=I.tx d k hkn hlv
   rw [Qgv]
   split
   ·rename_i hcd; subst hcd; exact this
   ·exact this
 by_cases h35:(es.getD n E0).kind = 3\/(es.getD n E0).kind = 5
 ·unfold QvN
  rw [if_neg h1,if_neg h2,if_pos h35]
  have hov:∀ k,ovp (es.getD k E0).lsn (es.getD k E0).tx (es.getD n E0) = decide ((es.getD k E0).tx = (es.getD n E0).tx):=fun k=>by
   unfold ovp
   rw [decide_eq_false h2]
   have:(decide ((es.getD n E0).kind = 3) || decide ((es.getD n E0).kind = 5)) = true:=by simpa using h35
   rw [this,JO,J3,Kf]
   exact decide_eq_decide.2 eq_comm
  have hl:∀ d k,k < n->QcZ es (n + 1) d k = (QcZ es n d k && !decide ((es.getD k E0).tx = (es.getD n E0).tx)):=fun d k hk=>by rw [Qde es n d hk,hov]
  have hg:=fun d=>Qyc o (fun t=>decide (t = (es.getD n E0).tx)) I.nd d
  refine .inr ⟨hstr,_,rfl,(KA.map _ Kb).nodup I.nd,fun d=>?_,fun d k hk hlv=>?_⟩
  ·rw [hg d,QeS,hself]
   by_cases ht:(QbW o d).1 = (es.getD n E0).tx
   ·rw [if_pos (decide_eq_true ht)]
    have e:(Jg n).countP (QcZ es (n + 1) d) = 0:=List.countP_eq_zero.2 fun k hk=>by
     have hkn:=Je.1 hk
     rw [hl d k hkn]
     cases hlv:QcZ es n d k
     ·simp
     ·rw [I.tx d k hkn hlv,decide_eq_true ht]; simp
    rw [e]; rfl
   ·rw [if_neg (by simpa using ht)]
    have e:(Jg n).countP (QcZ es (n + 1) d) = Qoy es n d:=JC fun k hk=>by
     have hkn:=Je.1 hk
     rw [hl d k hkn]
     cases hlv:QcZ es n d k
     ·simp
     ·rw [I.tx d k hkn hlv,decide_eq_false ht]; simp
    rw [e,I.cnt d]; rfl
  ·have hkn:k < n:=by
    rcases Jy.1 hk with h | rfl
    ·exact h
    ·rw [hself] at hlv; cases hlv
   rw [hl d k hkn,Jb] at hlv
   have ht:=I.tx d k hkn hlv.1
   rw [hg d,if_neg (by rw [<- ht]; simpa using hlv.2)]
   exact ht
 ·unfold QvN
  rw [if_neg h1,if_neg h2,if_neg h35]
  have hov:∀ k,ovp (es.getD k E0).lsn (es.getD k E0).tx (es.getD n E0) = false:=fun k=>Qzf h2 (fun h=>h35 (.inl h)) fun h=>h35 (.inr h)
  have hl:∀ d k,k < n->QcZ es (n + 1) d k = QcZ es n d k:=fun d k hk=>by rw [Qde es n d hk,hov]; simp
  refine .inr ⟨hstr,_,rfl,I.nd,fun d=>?_,fun d k hk hlv=>?_⟩
  ·rw [QeS,hself]
   have e:(Jg n).countP (QcZ es (n + 1) d) = Qoy es n d:=JC fun k hk=>by rw [hl d k (Je.1 hk)]
   rw [e,I.cnt d]; rfl
  ·have hkn:k < n:=by
    rcases Jy.1 hk with h | rfl
    ·exact h
    ·rw [hself] at hlv; cases hlv
   rw [hl d k hkn] at hlv
   exact I.tx d k hkn hlv
def QtI (W:Wf 1 es) (href:∀ i,i < es.length->(es.getD i E0).kind = 2->1<=(es.getD i E0).ref) (hr:∀ i,i < es.length->Qh4 1 es i = true):∀ n,n<=es.length ->
 ((Jg n).all (QgV es) = true/\∃ o,Qm9 es n = some o/\OwI es n o)\/((Jg n).all (QgV es) = false/\Qm9 es n = none)
 | 0,_=>.inl ⟨rfl,[],rfl,Ky,fun c=>rfl,fun c k hk=>absurd hk (JI _)⟩
 | n + 1,hn=>by
   have ih:=QtI W href hr n (by omega)
   rw [Jw,Kw]
   unfold Qm9
   rcases ih with ⟨h1,o,h2,I⟩ | ⟨h1,h2⟩
   ·rw [h1,h2,Option.bind_some]
    rcases Qxw W hn (hr n hn) (href n hn) I with ⟨h3,h4⟩ | ⟨h3,o',h4,I'⟩
    ·exact .inr ⟨by simp [h3],h4⟩
    ·exact .inl ⟨by simp [h3],o',h4,I'⟩
   ·rw [h1,h2]
    exact .inr ⟨by simp,rfl⟩
section
theorem umO:prog.underlying 100 = some (.map 102 104):=by kernel_rfl
theorem zO:Qmr prog 104 = some (k2 (0,0)):=by kernel_rfl
def kLock:KeyT prog 102 k2:=QBP Tryz.underlying102 Tryz.underlying3 Tryz.underlying3 (by kernel_rfl) (by kernel_rfl) rfl rfl (by kernel_rfl) (by kernel_rfl)
attribute [local go_sem] Ce.d Ch.d E.d Qfq Qim Qil Qh2 Qh1 Qie QcA Qq2 Qq1 Qq0 JI Lg.c
def QcS (o:Own):List ((Int × Int) × DV):=o.map fun p=>(p.1,k2D p.2)
def Qxy (o:Own) (c:Int × Int):(QbX (QcS o) c).getD (k2D (0,0)) = k2D (QbW o c):=by
 induction o with
 | nil=>rfl
 | cons p r ih =>
   obtain ⟨a,x⟩:=p
   unfold QcS at ih |-
   simp only [Jz,QbX,QbW]
   split
   ·rfl
   ·exact ih
def Qgp (o:Own) (c v:Int × Int):Qee (QcS o) c (k2D v) = QcS (QhN o c v):=by
 induction o with
 | nil=>rfl
 | cons p r ih =>
   obtain ⟨a,x⟩:=p
   unfold QcS at ih |-
   simp only [Jz,Qee,QhN]
   split
   ·rfl
   ·rw [ih]; rfl
def Qxz (o:Own) (c:Int × Int):QoT (QcS o) c = QcS (o.filter fun p=>!decide (p.1 = c)):=by
 unfold QoT QcS
 rw [List.filter_map]
 rfl
def QtJ (o:Own):(Qam k2 (QcS o)).map (·.1) = (o.map (·.1)).map k2:=by
 simp [Qam,QcS]
def OwB (n:Nat) (o:Own):Prop:=(o.map (·.1)).Nodup/\∀ p ∈ o,-(n:Int)<=p.2.2/\p.2.2<=n
def QoJ {n:Nat}:∀ {o:Own},(∀ p ∈ o,-(n:Int)<=p.2.2/\p.2.2<=n)->∀ c,-(n:Int)<=(QbW o c).2/\(QbW o c).2<=n
 | [],_,c=>⟨by show -(n:Int)<=0; omega,by show (0:Int)<=n; omega⟩
 | (a,x) :: r,h,c=>by
   rw [QbW]
   split
   ·exact h (a,x) Ju
   ·exact QoJ (fun p hp=>h p (Js _ hp)) c
def QB9 (h:OwB n o) (c:Int × Int): -(n:Int)<=(QbW o c).2/\(QbW o c).2<=n:=QoJ h.2 c
def Qoo (c v:Int × Int) (h1 : -((n + 1:Nat):Int)<=v.2) (h2:v.2<=((n + 1:Nat):Int)):∀ {o:Own},(∀ p ∈ o,-(n:Int)<=p.2.2/\p.2.2<=n)->∀ p ∈ QhN o c v,-((n + 1:Nat):Int)<=p.2.2/\p.2.2<=((n + 1:Nat):Int)
 | [],_,p,hp=>by rw [QhN] at hp; simp at hp; subst hp; exact ⟨h1,h2⟩
 | (a,x) :: r,h,p,hp=>by
   rw [QhN] at hp
   split at hp
   ·rcases Jj.1 hp with rfl | hp
    ·exact ⟨h1,h2⟩
    ·have:=h p (Js _ hp); omega
   ·rcases Jj.1 hp with rfl | hp
    ·have:=h _ (Ju (a:=(a,x))); dsimp only at this |-; omega
    ·exact Qoo c v h1 h2 (fun p hp=>h p (Js _ hp)) p hp
def QjC (h:OwB n o) (c v:Int × Int) (h1 : -((n + 1:Nat):Int)<=v.2) (h2:v.2<=((n + 1:Nat):Int)):OwB (n + 1) (QhN o c v):=⟨(Qg9 o c v h.1).1,Qoo c v h1 h2 h.2⟩
def OwB.sub (h:OwB n o) (q:(Int × Int) × (Int × Int)->Bool):OwB (n + 1) (o.filter q):=
 ⟨(KA.map _ Kb).nodup h.1,fun p hp=>by have:=h.2 p (Jt.1 hp).1; omega⟩
def OwB.up (h:OwB n o):OwB (n + 1) o:=⟨h.1,fun p hp=>by have:=h.2 p hp; omega⟩
def Qll (h:Qm9 es (i + 1) = none):∀ {n:Nat},i < n->(Qm9 es n).isSome = false
 | n + 1,hi=>by
   by_cases hin:i = n
   ·subst hin; rw [h]; rfl
   ·have:=Qll h (n:=n) (by omega)
    rw [Qm9]
    cases hq:Qm9 es n
    ·rfl
    ·rw [hq] at this; cases this
def Qna (o:Own) (tx:Int) (left:List (Int × Int)):Own:=o.filter fun p=>decide (p.1 ∈ left) || !decide (p.2.1 = tx)
def QxB (o:Own) (tx:Int):Qna o tx (o.map (·.1)) = o:=by
 unfold Qna
 rw [Jp]
 intro p hp
 simp only [JB,decide_eq_true_eq]
 exact .inl (Kz.2 ⟨p,hp,rfl⟩)
def QxA (o:Own) (tx:Int):Qna o tx [] = o.filter fun p=>!decide (p.2.1 = tx):=by
 unfold Qna
 congr 1
def QoL:∀ {o:Own} {k:Int × Int} {d:DV},QbX (QcS o) k = some d->∃ v,d = k2D v/\(k,v) ∈ o
 | (a,x) :: r,k,d,h=>by
   unfold QcS at h
   simp only [Jz,QbX] at h
   split at h
   ·rename_i e
    subst e
    exact ⟨x,(Kv.inj h).symm,Ju⟩
   ·obtain ⟨v,h1,h2⟩:=QoL (o:=r) h
    exact ⟨v,h1,Js _ h2⟩
def QBw (hn:(o.map (·.1)).Nodup) (tx:Int) (left:List (Int × Int)) (h:QbX (QcS (Qna o tx left)) k = some d):
 ∃ v,d = k2D v/\(v.1 = tx->QoT (QcS (Qna o tx left)) k = QcS (Qna o tx (left.filter fun x=>!decide (x = k))))/\(¬ v.1 = tx->Qna o tx left = Qna o tx (left.filter fun x=>!decide (x = k))):=by
 obtain ⟨v,h1,h2⟩:=QoL h
 have hv:(k,v) ∈ o:=(Jt.1 h2).1
 have uni:∀ p ∈ o,p.1 = k->p.2 = v:=fun p hp e=>by
  obtain ⟨i,hi⟩:=J7.1 hp
  obtain ⟨j,hj⟩:=J7.1 hv
  obtain ⟨li,mi⟩:=J1.1 hi
  obtain ⟨lj,mj⟩:=J1.1 hj
  have:i = j:=(List.getElem_inj (h₀:=by simpa using li) (h₁:=by simpa using lj) hn).1 (by simp only [Ko]; rw [mi,mj]; exact e)
  subst this
  rw [hi] at hj
  rw [Kv.inj hj]
 refine ⟨v,h1,fun ht=>?_,fun ht=>?_⟩
 ·rw [Qxz]
  congr 1
  unfold Qna
  rw [Ke]
  refine JM fun p hp=>?_
  by_cases hk:p.1 = k
  ·have:=uni p hp hk
   simp [hk,this,ht]
  ·simp [hk]
 ·unfold Qna
  refine JM fun p hp=>?_
  by_cases hk:p.1 = k
  ·have:=uni p hp hk
   simp [hk,this,ht]
  ·simp [hk]
structure InS (o:Own) (tx:Int) (k:Nat) (cs:List DV) where
 H:Qb
 hk:k < H.length
 hc:Qc H k = some cs
 left:List (Int × Int)
 cur:Option Value
 o':Own
 ho:o' = Qna o tx left
structure StS (x:Lg) where
 i:Nat
 hi:i<=x.es.length
 H:Qb
 h0:0 < H.length
 o:Own
 ho:Qm9 x.es i = some o
 bd:OwB i o
def Qq5 (x:Lg):Bool:=decide (QqE x = 0) && (decide (x.f = 1) && (Qm9 x.es x.es.length).isSome)
def Qfh (c:Qe5) (x:Lg) (i b:Nat) (hlt:i < x.es.length) (S:St) (o:Own) (h0:0 < S.hp.length) (ho:Qm9 x.es (i + 1) = some o) (bd:OwB (i + 1) o) (hn:S.nt = 92)
 (ht:∀ q ∈ [(22,DV.int .i64 ((i + 1:Nat):Int)),(21,DV.int .i64 x.es.length),(20,DV.pv (.sl (fz encE x.es))),(3,DV.pv (.lit (.map (some b))))],V.look S.tm q.1 = q.2\/q.2 = .any) :
 ∃ j:StS x,x.es.length - j.i < x.es.length - i/\WeakG (MapsIn c) S [(b,Qam k2 (QcS o))] ⟨92,j.H.length,[(22,.int .i64 j.i),(21,.int .i64 x.es.length),(20,.pv (.sl (fz encE x.es))),(3,.pv (.lit (.map (some b))))],j.H⟩ [(b,Qam k2 (QcS j.o))]:=
 ⟨⟨i + 1,hlt,S.hp,h0,o,ho,bd⟩,by dsimp only; omega,WeakG.slots hn rfl ht⟩
def Ql2 (x:Lg) (hx:x.es.length<=9223372036854775807):VCalls prog 21 [.agg x.c] [] (Ret (.bool (Qq5 x))):=by
 refine QcF (fn:=Tryz.f21) Tryz.func21 rfl (by kernel_rfl) (by simp [Tryz.f21]) (fun c=>?_)
 have hc:=QyE x hx
 have eS:Qq5 x = (decide (QqE x = 0) && (decide (x.f = 1) && (Qm9 x.es x.es.length).isSome)):=rfl
 have hck:QqE x = 0->lgB x = true:=fun h=>by
  unfold QqE at h
  split at h
  ·assumption
  ·cases h
 generalize Qq5 x = res at *
 generalize QqE x = ck at *
 unfold Lg.c at hc
 refine VWpG.first (Qa c) ?_
 (unfold Tryz.f21; refine rn trivial ?_)
 refine VWpG.seq ?_
 refine VWpG.first (Qa c) ?_
 refine rn trivial ?_
 refine Qag hc rfl ?_
 by_cases h1:ck = 0
 rotate_left
 ·rw [eS,decide_eq_false h1]
  refine rn @h1 ?_
  refine VWpG.cond rfl (fun hZ=>?_) (fun hZ=>?_)
  ·refine VWpG.plain (Qa c) ?_
   (refine rn trivial ?_; try with_reducible exact ⟨⟩)
  ·cases hZ
 by_cases h2:x.f = 1
 rotate_left
 ·rw [eS,decide_eq_false h2]
  refine rn (Ja @h1 @h2) ?_
  refine VWpG.cond rfl (fun hZ=>?_) (fun hZ=>?_)
  ·refine VWpG.plain (Qa c) ?_
   (refine rn trivial ?_; try with_reducible exact ⟨⟩)
  ·cases hZ
 rw [eS,decide_eq_true h1,decide_eq_true h2]
 have hes:x.es.length<=4096:=(QT (hck h1)).2.2.1
 have hlg:=hck h1
 refine rn (Ja @h1 @h2) ?_
 refine VWpG.cond rfl (fun hZ=>?_) (fun hZ=>?_)
 ·cases hZ
 refine VWpG.plain (Qa c) ?_
 refine rn trivial ?_
 refine VWpG.seq ?_
 refine VWpG.cut1 (Qa c) 0 [] ?_
 refine rn trivial ?_
 refine QO rfl (fun c=>by simp) (Qdn rfl rfl fun b hb=>?_)
 refine rn trivial ?_
 refine VWpG.seq ?_
 refine VWpG.first (Qa c) ?_
 refine rn trivial ?_
 refine VWpG.block ?_
 refine VWpG.loop (fun s:StS x=>⟨92,s.H.length,[(22,.int .i64 s.i),(21,.int .i64 x.es.length),(20,.pv (.sl (fz encE x.es))),(3,.pv (.lit (.map (some b))))],s.H⟩) (fun s=>[(b,Qam k2 (QcS s.o))]) (fun s=>x.es.length - s.i) ⟨0,Jd _,([⟨32,true,[.int .i64 1,.pv (.sl (fz encE x.es)),.int .i64 x.d]⟩]:Qb),Nat.succ_pos _,[],rfl,Ky,fun p hp=>by cases hp⟩ ?_ ?_
 ·refine WeakG.slots rfl rfl ?_
  intro p hp
  simp only [Jj,Jl,or_false] at hp
  rcases hp with rfl | rfl | rfl | rfl<;>exact .inl rfl
 rintro ⟨i,hi,H,h0,o,ho,bd⟩
 dsimp only
 refine VWpG.first (Qa c) ?_
 refine rn trivial ?_
 refine VWpG.seq ?_
 by_cases hlt:i < x.es.length
 rotate_left
 ·have hd:decide ((i:Int) < x.es.length) = false:=by simp; omega
  obtain rfl:i = x.es.length:=by omega
  refine VWpG.cond (t:=false) (by rw [<- hd]; rfl) (fun h=>by cases h) (fun _=>?_)
  refine VWpG.plain (Qa c) ?_
  refine rn trivial ?_
  refine VWpG.plain (Qa c) ?_
  refine rn trivial ?_
  rw [ho]; rfl
 have hg:=Qnu x.es i hlt
 have hd:decide ((i:Int) < x.es.length) = true:=by simp; omega
 refine VWpG.cond (t:=true) (by rw [<- hd]; rfl) (fun _=>?_) (fun h=>by cases h)
 refine VWpG.plain (Qa c) ?_
 refine rn trivial ?_
 refine VWpG.seq ?_
 refine VWpG.block ?_
 have hstep:Qm9 x.es (i + 1) = QvN o (x.es.getD i E0):=by rw [Qm9,ho]; rfl
 have hnone:QvN o (x.es.getD i E0) = none->(Qm9 x.es x.es.length).isSome = false:=fun h=>Qll (hstep.trans h) hlt
 generalize x.es.getD i E0 = e at *
 have hgb:=QB9 bd (e.c.pg,e.c.sl)
 refine VWpG.first (Qa c) ?_
 refine rn @hg ?_
 refine VWpG.first (Qa c) ?_
 refine rn trivial ?_
 refine VWpG.seq ?_
 refine VWpG.cut1 (Qa c) 2 [] ?_
 refine rn trivial ?_
 refine QO rfl (fun c=>by simp) (Qa7 (zv:=k2 (0,0)) (z:=k2D (0,0)) (L:=QcS o) (k:=(e.c.pg,e.c.sl)) rfl rfl umO kLock (Q7 zO) (fun w β hp=>QoC w β hp _) rfl (Jk.2 rfl) (fun w β hp v h=>Qp4 h) ?_)
 rw [Qxy]
 have hm0:∀ p ∈ ([]:MapsD),p.1 ≠ b:=fun p hp=>by cases hp
 have hS:QvN o e = if e.kind = 1 then (if 0 < (QbW o (e.c.pg,e.c.sl)).2/\(QbW o (e.c.pg,e.c.sl)).1 ≠ e.tx then none
  else some (QhN o (e.c.pg,e.c.sl) (if (QbW o (e.c.pg,e.c.sl)).1 ≠ e.tx then (e.tx,1) else (e.tx,(QbW o (e.c.pg,e.c.sl)).2 + 1))))
  else if e.kind = 2 then some (QhN o (e.c.pg,e.c.sl) ((QbW o (e.c.pg,e.c.sl)).1,(QbW o (e.c.pg,e.c.sl)).2 - 1))
  else if e.kind = 3\/e.kind = 5 then some (o.filter fun p=>!decide (p.2.1 = e.tx))
  else some o:=rfl
 obtain ⟨q,hq⟩:∃ q,QbW o (e.c.pg,e.c.sl) = q:=⟨_,rfl⟩
 rw [hq] at hgb hS |-
 obtain ⟨t,p⟩:=q
 dsimp only at hgb hS
 unfold k2D
 refine rn trivial ?_
 refine VWpG.first (Qa c) ?_
 refine rn trivial ?_
 refine VWpG.block ?_
 by_cases hk1:e.kind = 1
 ·rw [if_pos hk1] at hS
  refine VWpG.first (Qa c) ?_
  refine rn @hk1 ?_
  refine VWpG.cond rfl (fun hZ=>?_) (fun hZ=>?_)
  rotate_left
  ·cases hZ
  by_cases hp0:0 < p
  ·by_cases htt:t = e.tx
   ·rw [if_neg (fun h=>h.2 htt),if_neg (fun h=>h htt)] at hS
    have bd':=QjC bd (e.c.pg,e.c.sl) (e.tx,p + 1) (by dsimp only; omega) (by dsimp only; omega)
    rw [<- hstep] at hS
    refine VWpG.first (Qa c) ?_
    refine rn (Ja @hp0 @htt) ?_
    refine VWpG.seq ?_
    refine VWpG.plain (Qa c) ?_
    refine rn @htt ?_
    refine VWpG.first (Qa c) ?_
    refine rn trivial ?_
    refine VWpG.cut1 (Qa c) 3 [] ?_
    refine rn trivial ?_
    refine QO rfl (fun c=>by simp) (QaS (enc:=k2) (L:=QcS o) (k:=(e.c.pg,e.c.sl)) rfl rfl umO kLock rfl (Jk.2 rfl) (fun w β hp v h=>Qp4 h) ?_)
    rw [Qp2 hm0]
    refine rn trivial ?_
    rw [show Qee (QcS o) (e.c.pg,e.c.sl) (.agg [.int .i64 (e.tx),.int .i64 (p + 1)]) = QcS (QhN o (e.c.pg,e.c.sl) (e.tx,p + 1)) from Qgp o _ (e.tx,p + 1)]
    refine VWpG.plain (Qa c) ?_
    refine rn trivial ?_
    refine Qfh c x i b hlt _ _ ?_ hS bd' rfl ?_
    ·simp
    ·intro q hq
     simp only [Jj,Jl,or_false] at hq
     rcases hq with rfl | rfl | rfl | rfl<;>exact .inl rfl
   ·rw [if_pos ⟨hp0,htt⟩] at hS
    refine VWpG.first (Qa c) ?_
    refine rn (Ja @hp0 @htt) ?_
    rw [hnone hS]
  ·by_cases htt:t = e.tx
   ·rw [if_neg (fun h=>h.2 htt),if_neg (fun h=>h htt)] at hS
    have bd':=QjC bd (e.c.pg,e.c.sl) (e.tx,p + 1) (by dsimp only; omega) (by dsimp only; omega)
    rw [<- hstep] at hS
    refine VWpG.first (Qa c) ?_
    refine rn (Ja @hp0 @htt) ?_
    refine VWpG.seq ?_
    refine VWpG.plain (Qa c) ?_
    refine rn @htt ?_
    refine VWpG.first (Qa c) ?_
    refine rn trivial ?_
    refine VWpG.cut1 (Qa c) 3 [] ?_
    refine rn trivial ?_
    refine QO rfl (fun c=>by simp) (QaS (enc:=k2) (L:=QcS o) (k:=(e.c.pg,e.c.sl)) rfl rfl umO kLock rfl (Jk.2 rfl) (fun w β hp v h=>Qp4 h) ?_)
    rw [Qp2 hm0]
    refine rn trivial ?_
    rw [show Qee (QcS o) (e.c.pg,e.c.sl) (.agg [.int .i64 (e.tx),.int .i64 (p + 1)]) = QcS (QhN o (e.c.pg,e.c.sl) (e.tx,p + 1)) from Qgp o _ (e.tx,p + 1)]
    refine VWpG.plain (Qa c) ?_
    refine rn trivial ?_
    refine Qfh c x i b hlt _ _ ?_ hS bd' rfl ?_
    ·simp
    ·intro q hq
     simp only [Jj,Jl,or_false] at hq
     rcases hq with rfl | rfl | rfl | rfl<;>exact .inl rfl
   ·rw [if_neg (fun h=>hp0 h.1),if_pos htt] at hS
    have bd':=QjC bd (e.c.pg,e.c.sl) (e.tx,1) (by dsimp only; omega) (by dsimp only; omega)
    rw [<- hstep] at hS
    refine VWpG.first (Qa c) ?_
    refine rn (Ja @hp0 @htt) ?_
    refine VWpG.seq ?_
    refine VWpG.plain (Qa c) ?_
    refine rn @htt ?_
    refine VWpG.first (Qa c) ?_
    refine rn trivial ?_
    refine VWpG.cut1 (Qa c) 3 [] ?_
    refine rn trivial ?_
    refine QO rfl (fun c=>by simp) (QaS (enc:=k2) (L:=QcS o) (k:=(e.c.pg,e.c.sl)) rfl rfl umO kLock rfl (Jk.2 rfl) (fun w β hp v h=>Qp4 h) ?_)
    rw [Qp2 hm0]
    refine rn trivial ?_
    rw [show Qee (QcS o) (e.c.pg,e.c.sl) (.agg [.int .i64 (e.tx),.int .i64 (1)]) = QcS (QhN o (e.c.pg,e.c.sl) (e.tx,1)) from Qgp o _ (e.tx,1)]
    refine VWpG.plain (Qa c) ?_
    refine rn trivial ?_
    refine Qfh c x i b hlt _ _ ?_ hS bd' rfl ?_
    ·simp
    ·intro q hq
     simp only [Jj,Jl,or_false] at hq
     rcases hq with rfl | rfl | rfl | rfl<;>exact .inl rfl
 rw [if_neg hk1] at hS
 have nk1:decide (e.kind = 1) = false:=decide_eq_false hk1
 refine VWpG.first (Qa c) ?_
 refine rn @hk1 ?_
 refine VWpG.cond rfl (fun hZ=>?_) (fun hZ=>?_)
 ·cases hZ
 by_cases hk2:e.kind = 2
 ·rw [if_pos hk2] at hS
  have bd':=QjC bd (e.c.pg,e.c.sl) (t,p - 1) (by dsimp only; omega) (by dsimp only; omega)
  rw [<- hstep] at hS
  refine VWpG.first (Qa c) ?_
  refine rn @hk2 ?_
  refine VWpG.cond rfl (fun hZ=>?_) (fun hZ=>?_)
  rotate_left
  ·cases hZ
  refine VWpG.first (Qa c) ?_
  refine rn trivial ?_
  refine VWpG.cut1 (Qa c) 3 [] ?_
  refine rn trivial ?_
  refine QO rfl (fun c=>by simp) (QaS (enc:=k2) (L:=QcS o) (k:=(e.c.pg,e.c.sl)) rfl rfl umO kLock rfl (Jk.2 rfl) (fun w β hp v h=>Qp4 h) ?_)
  rw [Qp2 hm0]
  refine rn trivial ?_
  rw [show Qee (QcS o) (e.c.pg,e.c.sl) (.agg [.int .i64 (t),.int .i64 (p - 1)]) = QcS (QhN o (e.c.pg,e.c.sl) (t,p - 1)) from Qgp o _ (t,p - 1)]
  refine VWpG.plain (Qa c) ?_
  refine rn trivial ?_
  refine Qfh c x i b hlt _ _ ?_ hS bd' rfl ?_
  ·simp
  ·intro q hq
   simp only [Jj,Jl,or_false] at hq
   rcases hq with rfl | rfl | rfl | rfl<;>exact .inl rfl
 rw [if_neg hk2] at hS
 refine VWpG.first (Qa c) ?_
 refine rn @hk2 ?_
 refine VWpG.cond rfl (fun hZ=>?_) (fun hZ=>?_)
 ·cases hZ
 by_cases h35:e.kind = 3\/e.kind = 5
 rotate_left
 ·rw [if_neg h35] at hS
  have hk3:¬ e.kind = 3:=fun h=>h35 (.inl h)
  have hk5:¬ e.kind = 5:=fun h=>h35 (.inr h)
  have bd':=bd.up
  rw [<- hstep] at hS
  refine VWpG.first (Qa c) ?_
  refine rn (Ja @hk3 @hk5) ?_
  refine VWpG.cond rfl (fun hZ=>?_) (fun hZ=>?_)
  ·cases hZ
  refine VWpG.plain (Qa c) ?_
  refine rn trivial ?_
  refine VWpG.plain (Qa c) ?_
  refine rn trivial ?_
  refine Qfh c x i b hlt _ _ ?_ hS bd' rfl ?_
  ·simp
  ·intro q hq
   simp only [Jj,Jl,or_false] at hq
   rcases hq with rfl | rfl | rfl | rfl<;>exact .inl rfl
 rw [if_pos h35] at hS
 have bd':=bd.sub (fun p=>!decide (p.2.1 = e.tx))
 rw [<- hstep] at hS
 refine VWpG.seq ?_
 refine VWpG.first (Qa c) ?_
 rcases h35 with hkk | hkk
 rotate_left
 refine rn @hkk ?_
 refine VWpG.cond rfl (fun hZ=>by cases hZ) (fun hZ=>?_)
 refine VWpG.plain (Qa c) ?_
 refine rn @hkk ?_
 refine VWpG.cond rfl (fun hZ=>?_) (fun hZ=>by cases hZ)
 rotate_left
 refine rn @hkk ?_
 refine VWpG.cond rfl (fun hZ=>?_) (fun hZ=>by cases hZ)
 refine VWpG.plain (Qa c) ?_
 refine rn trivial ?_
 refine VWpG.cond rfl (fun hZ=>?_) (fun hZ=>by cases hZ)
 all_goals
  refine VWpG.its ?_
  refine VWpG.seq ?_
  refine VWpG.cut1 (Qbr c) 1 [] ?_
  refine rn trivial ?_
  refine QO rfl (fun c=>by simp) (Qqm rfl rfl umO rfl (Jk.2 rfl) fun r=>?_)
  rw [show (Qam k2 (QcS o)).map (·.1) = (o.map (·.1)).map k2 from QtJ o]
  refine rn trivial ?_
  refine VWpG.block ?_
  have fin:∀ (left:List (Int × Int)) (S:St) (o2:Own) (cur:Option Value) (n:Nat),o2 = Qna o e.tx left->left.length < n->H.length < S.hp.length->Qc S.hp H.length = some e.d->S.nt = 92->(∀ q ∈ [(78,DV.pv (.lit (.pointer (some ⟨r,0,none⟩)))),(22,.int .i64 i),(21,.int .i64 x.es.length),(20,.pv (.sl (fz encE x.es))),(5,.ptr H.length 0),(3,.pv (.lit (.map (some b))))],V.look S.tm q.1 = q.2\/q.2 = .any)->∃ j:InS o e.tx H.length e.d,j.left.length < n/\WeakG (QhM c) S ([(b,Qam k2 (QcS o2))],[⟨r,b,left.map k2,cur⟩]) ⟨92,j.H.length,[(78,.pv (.lit (.pointer (some ⟨r,0,none⟩)))),(22,.int .i64 i),(21,.int .i64 x.es.length),(20,.pv (.sl (fz encE x.es))),(5,.ptr H.length 0),(3,.pv (.lit (.map (some b))))],j.H⟩ ([(b,Qam k2 (QcS j.o'))],[⟨r,b,j.left.map k2,j.cur⟩]):=fun left S o2 cur n a1 a2 a3 a4 a5 a6=>⟨⟨S.hp,a3,a4,left,cur,o2,a1⟩,a2,WeakG.slots a5 rfl a6⟩
  refine Exists.elim (fin (o.map (·.1)) _ o none (o.map (·.1)).length.succ (QxB o e.tx).symm (JQ _) ?_ ?_ ?_ ?_) fun j0 hj=>VWpG.loop (fun s:InS o e.tx H.length e.d=>⟨92,s.H.length,[(78,.pv (.lit (.pointer (some ⟨r,0,none⟩)))),(22,.int .i64 i),(21,.int .i64 x.es.length),(20,.pv (.sl (fz encE x.es))),(5,.ptr H.length 0),(3,.pv (.lit (.map (some b))))],s.H⟩) (fun s=>([(b,Qam k2 (QcS s.o'))],[⟨r,b,s.left.map k2,s.cur⟩])) (fun s=>s.left.length) j0 hj.2 ?_
  ·simp
  ·rw [JD,JD,Qj5]
   simp [E.d,hkk]
   rfl
  ·rfl
  ·intro p hp
   simp only [Jj,Jl,or_false] at hp
   rcases hp with rfl | rfl | rfl | rfl | rfl | rfl<;>exact .inl rfl
  rintro ⟨H',hk',hc',left,cur,o',ho'⟩
  dsimp only
  unfold E.d at hc'
  refine VWpG.seq ?_
  refine VWpG.cut1 (Qbr c) 0 [] ?_
  refine rn trivial ?_
  refine QO rfl (fun c=>by simp) (QuZ (enc:=k2) (L:=QcS o') (fun _ _=>kLock.inj _ _) rfl rfl rfl (Jk.2 rfl) (fun hl=>?_) (fun k d hkl hkd=>?_))
  ·subst hl
   subst ho'
   refine rn trivial ?_
   refine VWpG.seq ?_
   refine VWpG.cond rfl (fun hZ=>?_) (fun hZ=>?_)
   ·cases hZ
   refine VWpG.plain (Qbr c) ?_
   refine rn trivial ?_
   rw [QxA]
   refine VWpG.plain (Qa c) ?_
   refine rn trivial ?_
   refine Qfh c x i b hlt _ _ ?_ hS bd' rfl ?_
   ·simp; try omega
   ·intro q hq
    simp only [Jj,Jl,or_false] at hq
    rcases hq with rfl | rfl | rfl | rfl<;>exact .inl rfl
  subst ho'
  obtain ⟨v,rfl,hdel,hkeep⟩:=QBw bd.1 e.tx left hkd
  have hlt':(left.filter fun x=>!decide (x = k)).length < left.length:=List.length_filter_lt_length_iff_exists.2 ⟨k,hkl,by simp⟩
  refine rn trivial ?_
  refine VWpG.seq ?_
  refine VWpG.cond rfl (fun hZ=>?_) (fun hZ=>?_)
  rotate_left
  ·cases hZ
  refine VWpG.plain (Qbr c) ?_
  refine rn trivial ?_
  refine VWpG.block ?_
  refine VWpG.seq ?_
  refine VWpG.cut1 (Qbr c) 0 [] ?_
  refine rn trivial ?_
  refine QO rfl (fun c=>by simp) (Qqn (enc:=k2) (kD:=k2D) (L:=QcS (Qna o e.tx left)) (fun _ _=>kLock.inj _ _) QoC rfl rfl rfl (Jk.2 rfl) hkd ?_)
  unfold k2D
  refine rn (Ja @hc' @hk') ?_
  refine VWpG.seq ?_
  refine VWpG.plain (Qbr c) ?_
  refine rn (Ja @hc' @hk') ?_
  by_cases hv:v.1 = e.tx
  rotate_left
  ·(refine rn @hv ?_; try with_reducible exact ⟨⟩)
   refine VWpG.cond rfl (fun hZ=>?_) (fun hZ=>?_)
   ·cases hZ
   refine VWpG.plain (Qbr c) ?_
   refine rn trivial ?_
   refine fin _ _ _ _ _ (hkeep hv) hlt' ?_ ?_ rfl ?_
   ·simp; omega
   ·rw [JD,Qq hk']; exact hc'
   ·intro q hq
    simp only [Jj,Jl,or_false] at hq
    rcases hq with rfl | rfl | rfl | rfl | rfl | rfl<;>exact .inl rfl
  refine rn @hv ?_
  refine VWpG.cond rfl (fun hZ=>?_) (fun hZ=>?_)
  rotate_left
  ·cases hZ
  refine VWpG.cut1 (Qbr c) 2 [] ?_
  refine rn trivial ?_
  refine QO rfl (fun c=>by simp) (Qyu (enc:=k2) (L:=QcS (Qna o e.tx left)) (lk:=left.filter fun x=>!decide (x = k)) rfl rfl rfl rfl rfl umO kLock rfl (Jk.2 rfl) (fun w β hp v h=>Qp4 h) (by simp) ?_)
  rw [Qp2 hm0,hdel hv]
  refine rn trivial ?_
  refine fin _ _ _ _ _ rfl hlt' ?_ ?_ rfl ?_
  ·simp; omega
  ·rw [JD,Qq hk']; exact hc'
  ·intro q hq
   simp only [Jj,Jl,or_false] at hq
   rcases hq with rfl | rfl | rfl | rfl | rfl | rfl<;>exact .inl rfl
end
section
attribute [local go_sem] Ce.d Ch.d E.d Lg.c QM Q9
def Qge (x:Lg) (hx:x.es.length<=9223372036854775807):VCalls prog 50 [.agg x.c] [] (Ret (.bool (QS x))):=by
 refine dd Tryz.func50 ?_
 have hv:=Q8 x hx
 unfold Lg.c at hv
 (unfold Tryz.f50; refine rn trivial ?_)
 cases hlg:lgB x
 ·rw [hlg] at hv
  refine rn F ?_
  repeat' (first
   | with_reducible exact ⟨⟩
   | refine vp F (hv) ?_)
  all_goals (unfold QS; rw [hlg]; simp; try (rw [Jx]; simp))
 ·rw [hlg] at hv
  refine rn F ?_
  repeat' (first
   | with_reducible exact ⟨⟩
   | refine vp F (hv) ?_)
  all_goals (unfold QS; rw [hlg]; simp; try (rw [Jx]; simp))
def QFF (es:List E):Prop:=∀ i,i < es.length->(es.getD i E0).lsn = i + 1
def QgA (h:QS x = true):QFF x.es:=fun i hi=>by
 unfold QS at h
 simp only [Jb,decide_eq_true_eq] at h
 have:=h.1
 unfold lgB at this
 rw [Jb,Jo] at this
 have h2:=this.2 i (Je.2 hi)
 unfold lgC at h2
 simp only [Jb,decide_eq_true_eq] at h2
 omega
def QAv (x:Lg) (hn:QFF x.es) (k:Nat) (tx:Int) (hk:k<=x.es.length) (hl:x.es.length<=4096):VCalls prog 64 [.agg x.c,.int .i64 tx,.int .i64 k] [] (Ret (.bool (Qbb x.es k tx))):=by
 refine dd Tryz.func64 ?_
 (unfold Tryz.f64; refine rn trivial ?_)
 refine Qg (fun s:Okay k (fun j=>!comp tx (x.es.getD j E0))=>⟨42,0,[(7,.int .i64 s.i),(3,.ptr 0 0),(2,.int .i64 k),(1,.int .i64 tx)],[⟨32,true,x.c⟩]⟩) (fun s=>k - s.i) (Okay.start _ _) (gc [0]) ?_
 intro s
 have hs:=s.hi
 by_cases hc:s.i < x.es.length
 ·have hc':((s.i:Nat):Int) < x.es.length:=by omega
  have hg:=Qbu x.es s.i (by omega)
  have hls:=hn s.i hc
  obtain ⟨e,he⟩:∃ e,x.es.getD s.i E0 = e:=⟨_,rfl⟩
  rw [he] at hg hls
  by_cases hck:s.i < k
  ·have hle:e.lsn<=k:=by omega
   have F:=(Ja @hc' (Ja @hg @hle))
   refine rn F ?_
   repeat' (first
    | with_reducible exact ⟨⟩
    | (refine sG F ?_ ?_<;>intro hZ)
    | (refine sB F ?_ ?_<;>intro hZ))
   all_goals first
    | exact congrArg DV.bool (Qhw (p:=comp tx) s hck (by rw [he]; simp [comp, *])).symm
    | exact ⟨s.next hck (by rw [he]; simp [comp, *]),s.dec hck,(gc [0])⟩
  ·have hle:¬ e.lsn<=k:=by omega
   have F:=(Ja @hc' (Ja @hg @hle))
   refine rn F ?_
   exact congrArg DV.bool (QlY (p:=comp tx) s hck).symm
 ·have hc':¬ ((s.i:Nat):Int) < x.es.length:=by omega
  have F:=@hc'
  refine rn F ?_
  exact congrArg DV.bool (QlY (p:=comp tx) s (by omega)).symm
def QmL (x:Lg) (hn:QFF x.es) (k:Nat) (pg sl tx:Int) (hk:k<=x.es.length) (hl:x.es.length<=4096):VCalls prog 52 [.agg x.c,.int .i64 pg,.int .i64 sl,.int .i64 tx,.int .i64 k] [] (Ret (.int .i64 (Qiz x.es (Qbb x.es k) pg sl tx k).2)):=by
 refine dd Tryz.func52 ?_
 (unfold Tryz.f52; refine rn trivial ?_)
 refine Qg (fun s:To k=>⟨68,0,[(12,.int .i64 s.i),(11,.int .i64 (Qiz x.es (Qbb x.es k) pg sl tx s.i).2),(5,.ptr 0 0),(4,.int .i64 k),(3,.int .i64 tx),(2,.int .i64 sl),(1,.int .i64 pg)],[⟨32,true,x.c⟩]⟩) (fun s=>k - s.i) ⟨0,Jd _⟩ (gc [0]) ?_
 rintro ⟨i,hi⟩
 dsimp only
 by_cases hc:i < x.es.length
 ·have hc':(i:Int) < x.es.length:=by omega
  have hg:=Qbu x.es i (by omega)
  have hls:=hn i hc
  have hch:VCalls prog 63 [.agg (x.es.getD i E0).d] [] (Ret (.bool (Qcd (x.es.getD i E0)))):=QaW (x.es.getD i E0)
  have hcm:=QAv x hn k (x.es.getD i E0).tx hk hl
  have hnx:Qiz x.es (Qbb x.es k) pg sl tx (i + 1) = if Qmk (Qbb x.es k) pg sl tx (x.es.getD i E0) = true then ((x.es.getD i E0).c.a,(x.es.getD i E0).lsn) else Qiz x.es (Qbb x.es k) pg sl tx i:=rfl
  unfold Lg.c at hcm
  unfold E.d at hch
  generalize x.es.getD i E0 = e at *
  by_cases hck:i < k
  ·have hle:e.lsn<=k:=by omega
   clear hls
   generalize hcb:Qbb x.es k e.tx = cb at *
   generalize hce:Qcd e = ce at *
   have hse:Qmk (Qbb x.es k) pg sl tx e = (ce && (decide (e.c.pg = pg) && (decide (e.c.sl = sl) && (cb || decide (e.tx = tx))))):=by rw [<- hce,<- hcb]; rfl
   rw [hse] at hnx
   cases cb<;>cases ce
   all_goals
    have F:=(Ja @hc' (Ja @hg @hle))
    refine rn F ?_
    repeat' (first
     | with_reducible exact ⟨⟩
     | (refine sG F ?_ ?_<;>intro hZ)
     | refine vp F (hch) ?_
     | refine vp F (hcm) ?_)
    all_goals
     refine ⟨⟨i + 1,hck⟩,by dsimp only; omega,?_⟩
     dsimp only
     simp [*] at hnx
     rw [hnx]
     try dsimp only
     exact (gc [0])
  ·have hle:¬ e.lsn<=k:=by omega
   obtain rfl:i = k:=by omega
   have F:=(Ja @hc' (Ja @hg @hle))
   (refine rn F ?_; try with_reducible exact ⟨⟩)
 ·have hc':¬ (i:Int) < x.es.length:=by omega
  obtain rfl:i = k:=by omega
  have F:=@hc'
  (refine rn F ?_; try with_reducible exact ⟨⟩)
def Qtk (x:Lg) (n:Nat) (hk:n<=x.es.length) (hl:x.es.length<=4096):VCalls prog 51 [.agg x.c,.int .i64 n] [] (Ret (.agg (if n = 0 then Ce0 else (x.es.getD (n - 1) E0).c.a).d)):=by
 refine dd Tryz.func51 ?_
 (unfold Tryz.f51; refine rn trivial ?_)
 by_cases hn:n = 0
 ·subst hn
  (refine rn F ?_; try with_reducible exact ⟨⟩)
  all_goals rfl
 ·have hn':¬ (n:Int) = 0:=by omega
  obtain ⟨m,rfl⟩:∃ m,n = m + 1:=⟨n - 1,by omega⟩
  have hg:=Qbu x.es m (by omega)
  have e1:((m + 1:Nat):Int) - 1 = m:=by omega
  have hm:(m:Int) < x.es.length:=by omega
  rw [if_neg hn]
  simp only [Kg]
  generalize x.es.getD m E0 = e at *
  have F:=(Ja @hn' (Ja @e1 (Ja @hm @hg)))
  (refine rn F ?_; try with_reducible exact ⟨⟩)
def QAu (x:Lg) (k i:Nat) (hki:k < i) (hi:i<=x.es.length) (hl:x.es.length<=4096):VCalls prog 55 [.agg x.c,.int .i64 k,.int .i64 i] [] (Ret (.bool (ovB x.es k i))):=by
 refine dd Tryz.func55 ?_
 (unfold Tryz.f55; refine rn trivial ?_)
 have hk:k < x.es.length:=by omega
 have hgk:=Qbu x.es k hk
 have hkk:(k:Int) < x.es.length:=by omega
 obtain ⟨y,hy⟩:∃ y,x.es.getD k E0 = y:=⟨_,rfl⟩
 rw [hy] at hgk
 have hov:ovB x.es k i = !(Jg i).all fun j=>!(decide (k < j) && ovp y.lsn y.tx (x.es.getD j E0)):=by
  unfold ovB
  rw [hy,List.not_all_eq_any_not]
  simp only [Kl]
 refine Qg (fun s:{s:Okay i (fun j=>!(decide (k < j) && ovp y.lsn y.tx (x.es.getD j E0))) // k < s.i}=>⟨56,0,[(7,.int .i64 s.1.i),(3,.ptr 0 0),(2,.int .i64 i),(1,.int .i64 k)],[⟨32,true,x.c⟩]⟩) (fun s=>i - s.1.i) ⟨⟨k + 1,hki,fun j hj=>by rw [decide_eq_false (by omega)]; rfl⟩,JQ k⟩ (gc [0]) ?_
 rintro ⟨s,hs0⟩
 have hs:=s.hi
 dsimp only
 by_cases hc:s.i < i
 ·have hc':((s.i:Nat):Int) < i:=by omega
  have hcl:((s.i:Nat):Int) < x.es.length:=by omega
  have hg:=Qbu x.es s.i (by omega)
  obtain ⟨e,he⟩:∃ e,x.es.getD s.i E0 = e:=⟨_,rfl⟩
  rw [he] at hg
  have F:=(Ja @hc' (Ja @hcl (Ja @hg (Ja @hkk @hgk))))
  refine rn F ?_
  repeat' (first
   | with_reducible exact ⟨⟩
   | (refine sG F ?_ ?_<;>intro hZ)
   | (refine sB F ?_ ?_<;>intro hZ)
   | (refine Qd (id:=5) [0,1,2,3,4,5,6,7,8,9,10,11,12,13,14,15,16,17,18,19,20,21,22,23,24,25,26,27,28,29,30,31,32,33,34] [] (by kernel_rfl) (by kernel_rfl) ?_; refine rn F ?_))
  all_goals first
   | (rw [hov,QaM hc (by rw [he,decide_eq_true hs0]; simp [ovp, *])]; rfl)
   | exact ⟨⟨s.next hc (by rw [he]; simp [ovp, *]),by show k < s.i + 1; omega⟩,s.dec hc,(gc [0])⟩
 ·have hc':¬ ((s.i:Nat):Int) < i:=by omega
  have F:=@hc'
  refine rn F ?_
  rw [hov,s.all hc]
  rfl
end
section
attribute [local go_sem] Ce.d Ch.d E.d Lg.c Rg.d QM Q9 Qfq Qim Qil Qh2 Qh1 Qie QcA Qzk QzE Qy7 Qy6 Qgb
def Qjr (hn:QFF es) (com:Int->Bool) (pg sl tx:Int):∀ n,n<=es.length->∃ m:Nat,(Qiz es com pg sl tx n).2 = m/\m<=n/\(if m = 0 then Ce0 else (es.getD (m - 1) E0).c.a) = (Qiz es com pg sl tx n).1
 | 0,_=>⟨0,rfl,JA _,rfl⟩
 | n + 1,h=>by
   obtain ⟨m,h1,h2,h3⟩:=Qjr hn com pg sl tx n (by omega)
   rw [Qiz]
   split
   ·exact ⟨n + 1,by dsimp only; rw [hn n (by omega)]; omega,JA _,by rw [if_neg (by omega),Kg]⟩
   ·exact ⟨m,h1,by omega,h3⟩
def Qsq (com:Int->Bool) (pg sl:Int):∀ n,(∀ i,i < n->Qcd (es.getD i E0) = true->1<=(es.getD i E0).tx)->(Qiz es com pg sl 0 n).1 = Qrd es com pg sl n
 | 0,_=>rfl
 | n + 1,h=>by
   have ih:=Qsq com pg sl n fun i hi=>h i (by omega)
   rw [Qiz,Qrd]
   have hx:=h n (JQ n)
   generalize es.getD n E0 = e at *
   have:(Qmk com pg sl 0 e = true) ↔ (Qcd e = true/\com e.tx = true/\e.c.pg = pg/\e.c.sl = sl):=by
    unfold Qmk
    simp only [Jb,JB,decide_eq_true_eq]
    constructor
    ·rintro ⟨a,b,c,d⟩
     have:=hx a
     exact ⟨a,d.resolve_right (by omega),b,c⟩
    ·rintro ⟨a,b,c,d⟩
     exact ⟨a,c,d,.inl b⟩
   by_cases hs:Qmk com pg sl 0 e = true
   ·rw [if_pos hs,if_pos (this.1 hs)]
   ·rw [if_neg hs,if_neg (fun q=>hs (this.2 q))]; exact ih
def Qcf (h:QS x = true):lgB x = true:=by unfold QS at h; simp at h; exact h.1
def Qse (x:Lg) (hx:x.es.length<=9223372036854775807) (pg sl tx at_:Int):VCalls prog 36 [.agg x.c,.int .i64 pg,.int .i64 sl,.int .i64 tx,.int .i64 at_] [] (Ret (.tup [.agg (QcW x pg sl tx at_).1.1.d,.int .i64 (QcW x pg sl tx at_).2])):=by
 refine dd Tryz.func36 ?_
 have hw:=Qge x hx
 have eS:QcW x pg sl tx at_ = if QS x = false then ((Ce0,0),26) else if pg < 0\/64<=pg\/sl < 0\/16<=sl\/QaO x at_ = false then ((Ce0,0),1) else (Qiz x.es (Qbb x.es at_.toNat) pg sl tx at_.toNat,0):=rfl
 generalize QcW x pg sl tx at_ = res at *
 (unfold Tryz.f36; refine rn trivial ?_)
 cases hwb:QS x
 ·rw [hwb] at hw
  rw [if_pos hwb] at eS
  unfold Lg.c at hw
  subst eS
  refine rn F ?_
  repeat' (first
   | with_reducible exact ⟨⟩
   | refine vp F (hw) ?_)
  all_goals rfl
 rw [hwb] at hw
 rw [if_neg (by rw [hwb]; decide)] at eS
 by_cases hin:pg < 0\/64<=pg\/sl < 0\/16<=sl\/QaO x at_ = false
 ·rw [if_pos hin] at eS
  subst eS
  unfold QaO at hin
  simp only [Jn,decide_eq_false_iff_not] at hin
  unfold Lg.c at hw
  refine rn F ?_
  repeat' (first
   | with_reducible exact ⟨⟩
   | (refine sG F ?_ ?_<;>intro hZ)
   | refine vp F (hw) ?_)
  all_goals first
   | rfl
   | (exfalso; omega)
 rw [if_neg hin] at eS
 subst eS
 unfold QaO at hin
 simp only [Jn,decide_eq_false_iff_not] at hin
 have hn:=QgA hwb
 have hes:x.es.length<=4096:=(QT (Qcf hwb)).2.2.1
 obtain ⟨k,rfl⟩:∃ n:Nat,at_ = n:=⟨at_.toNat,by omega⟩
 have hk:k<=x.es.length:=by omega
 have hs:=QmL x hn k pg sl tx hk hes
 simp only [JE]
 obtain ⟨m,h1,h2,h3⟩:=Qjr hn (Qbb x.es k) pg sl tx k hk
 have hc:=Qtk x m (by omega) hes
 rw [h3] at hc
 rw [h1] at hs
 generalize Qiz x.es (Qbb x.es k) pg sl tx k = r at *
 unfold Lg.c at hw hs hc
 unfold Ce.d at hc
 have p1:¬ pg < 0:=by omega
 have p2:¬ 64<=pg:=by omega
 have p3:¬ sl < 0:=by omega
 have p4:¬ 16<=sl:=by omega
 have p5:¬ (x.es.length:Int) < k:=by omega
 have F:=(Ja @p1 (Ja @p2 (Ja @p3 (Ja @p4 @p5))))
 refine rn F ?_
 repeat' (first
  | with_reducible exact ⟨⟩
  | refine vp F (hw) ?_
  | refine vp F (hs) ?_
  | refine vp F (hc) ?_
  | (refine Qd (id:=5) [0,1,2,3,4,5] [⟨[],[],6,[0],[]⟩,⟨[],[],7,[1,2,3,4,5],[]⟩,⟨[],[],8,[],[]⟩,⟨[],[],9,[],[]⟩] (by kernel_rfl) (by kernel_rfl) ?_; refine rn F ?_))
def QAJ {pg sl tx at_:Int} (h:(QcW x pg sl tx at_).2 ≠ 0):(QcW x pg sl tx at_).1.2 = 0:=by
 unfold QcW at h |-
 split
 ·rfl
 ·rename_i h1
  rw [if_neg h1] at h
  split
  ·rfl
  ·rename_i h2
   rw [if_neg h2] at h
   exact absurd rfl h
def QDT {pg sl tx at_:Int} (h:(QcW x pg sl tx at_).2 = 0):QS x = true/\0<=at_/\at_<=x.es.length/\QcW x pg sl tx at_ = (Qiz x.es (Qbb x.es at_.toNat) pg sl tx at_.toNat,0):=by
 unfold QcW at h |-
 split
 ·rename_i h1
  rw [if_pos h1] at h
  cases h
 ·rename_i h1
  rw [if_neg h1] at h
  split
  ·rename_i h2
   rw [if_pos h2] at h
   cases h
  ·rename_i h2
   unfold QaO at h2
   simp only [Jn,decide_eq_false_iff_not] at h2
   exact ⟨by simpa using h1,by omega,by omega,rfl⟩
def QAx (x:Lg) (hx:x.es.length<=9223372036854775807) (r:Rg):VCalls prog 39 [.agg x.c,.agg r.d] [] (Ret (.tup [.int .i64 (QvO x r).1,.bool (QvO x r).2])):=by
 refine dd Tryz.func39 ?_
 have c1:=Qse x hx r.pg r.sl r.tx r.at_
 have e0:QvO x r = ((QcW x r.pg r.sl r.tx r.at_).1.2,decide ((QcW x r.pg r.sl r.tx r.at_).2 = 0) && QGd (QcW x r.pg r.sl r.tx r.at_).1.1 r.c):=rfl
 rw [e0]
 (unfold Tryz.f39; refine rn trivial ?_)
 by_cases hz:(QcW x r.pg r.sl r.tx r.at_).2 = 0
 ·obtain ⟨hw,ha,hb,he⟩:=QDT hz
  obtain ⟨k,hk⟩:∃ n:Nat,r.at_ = n:=⟨r.at_.toNat,by omega⟩
  have hes:x.es.length<=4096:=(QT (Qcf hw)).2.2.1
  have hs:=QmL x (QgA hw) k r.pg r.sl r.tx (by omega) hes
  rw [he,hk] at c1 |-
  simp only [JE] at c1 |-
  generalize Qiz x.es (Qbb x.es k) r.pg r.sl r.tx k = s at *
  unfold Lg.c at c1 hs
  unfold Ce.d at c1
  have F:=@hk
  refine rn F ?_
  repeat' (first
   | with_reducible exact ⟨⟩
   | refine vp F (c1) ?_
   | refine vp F (hs) ?_
   | (refine Qd (id:=4) [0,1,2,3,4,5,6,7,8,10,11,12,13] [⟨[],[],9,[1,3,5,7,10,11,12,13],[]⟩,⟨[],[],14,[10,11,12,13],[]⟩,⟨[],[],15,[],[]⟩] (by kernel_rfl) (by kernel_rfl) ?_; refine rn F ?_))
  all_goals rfl
 ·have h0:=QAJ hz
  generalize QcW x r.pg r.sl r.tx r.at_ = s at *
  rw [h0,decide_eq_false hz]
  unfold Lg.c Ce.d at c1
  have F:=@hz
  refine rn F ?_
  repeat' (first
   | with_reducible exact ⟨⟩
   | refine vp F (c1) ?_)
end
section
attribute [local go_sem] QF1 Ce.d Ch.d E.d Lg.c Rg.d QM Q9 Qfq Qim Qil Qh2 Qh1 Qie QcA Qzk QzE Qy7 Qy6 Qgb QxV QCT QCO QCe JI
def Qr6 (x:Lg) (hx:x.es.length<=9223372036854775807):VCalls prog 40 [.agg x.c] [] (Ret (.tup [.pv (.sl (fz QW (Qq6 x).1)),.int .i64 (Qq6 x).2])):=by
 refine VCalls.unwk ?_
 refine dd Tryz.func40 ?_
 have hw:=Qge x hx
 have eS:Qq6 x = if QS x = false then ([],26) else (QgY x.es x.es.length,0):=rfl
 unfold Lg.c at hw
 (unfold Tryz.f40; refine rn trivial ?_)
 cases hwb:QS x
 ·rw [hwb] at hw
  rw [if_pos hwb] at eS
  refine rn F ?_
  repeat' (first
   | with_reducible exact ⟨⟩
   | refine vp F (hw) ?_)
  rw [eS]
  rfl
 rw [hwb] at hw
 rw [if_neg (by rw [hwb]; decide)] at eS
 rw [eS]
 have hes:x.es.length<=4096:=(QT (Qcf hwb)).2.2.1
 refine rn F ?_
 repeat' (first
  | with_reducible exact ⟨⟩
  | refine vp F (hw) ?_)
 refine VLoop.nilOwn 4 3 1 rfl ?_
 refine Qg (fun s:To x.es.length=>⟨33,0,[(5,.int .i64 s.i),(4,.own 1 1 0 (QgY x.es s.i).length),(1,.ptr 0 0)],[⟨32,true,x.c⟩,⟨3,true,cells QW (QgY x.es s.i)⟩]⟩) (fun s=>x.es.length - s.i) ⟨0,Jd _⟩ (gc [0,1]) ?_
 rintro ⟨k,hk⟩
 dsimp only
 have hpl:=Qgg x.es k
 have hcl:(cells QW (QgY x.es k)).length = (QgY x.es k).length:=QfA _
 have hpn:QgY x.es (k + 1) = if (x.es.getD k E0).kind = 3 then QgY x.es k ++ [(x.es.getD k E0).tx] else QgY x.es k:=rfl
 have hlb:((QgY x.es k).length + 1) * 8<=140737488355328:=by omega
 by_cases hc:k < x.es.length
 ·have hc':(k:Int) < x.es.length:=by omega
  have hg:=Qbu x.es k hc
  generalize x.es.getD k E0 = e at *
  have F:=(Ja @hc' @hg)
  refine rn F ?_
  repeat' (first
   | with_reducible exact ⟨⟩
   | (refine sB F ?_ ?_<;>intro hZ))
  ·rw [if_pos hZ] at hpn
   refine ⟨⟨k + 1,hc⟩,by dsimp only; omega,?_⟩
   dsimp only
   rw [hpn,Jc]
   exact (gc [0,3])
  ·rw [if_neg hZ] at hpn
   refine ⟨⟨k + 1,hc⟩,by dsimp only; omega,?_⟩
   dsimp only
   rw [hpn]
   exact (gc [0,1])
 ·have hc':¬ (k:Int) < x.es.length:=by omega
  obtain rfl:k = x.es.length:=by omega
  have F:=@hc'
  (refine rn F ?_; try with_reducible exact ⟨⟩)
def Qea (es:List E) (com:Int->Bool) (k:Nat) (p:Nat) (i:Nat):Row:=fun j=>if j < i then Qrd es com (p:Nat) (j:Nat) k else Ce0
def QsL (es:List E) (com:Int->Bool) (k p:Nat):Qea es com k p 0 = QvL:=by
 funext j
 unfold Qea
 rw [if_neg (JI _)]
 rfl
def QsM (es:List E) (com:Int->Bool) (k p i:Nat):Qea es com k p (i + 1) = Row.put (Qea es com k p i) i (Qrd es com (p:Nat) (i:Nat) k):=by
 funext j
 unfold Qea Row.put
 by_cases h:i = j
 ·subst h
  rw [if_pos (JQ _),if_pos rfl]
 ·rw [if_neg h]
  dsimp only
  by_cases h2:j < i
  ·rw [if_pos h2,if_pos (by omega)]
  ·rw [if_neg h2,if_neg (by omega)]
def QqJ (h:l.length = l'.length) (h2:∀ i,i < l.length->∀ j,j < 16->l.getD i QvL j = l'.getD i QvL j):fz Qaa l = fz Qaa l':=by
 unfold fz
 refine List.ext_getElem (by simpa using h) fun i h3 h4=>?_
 simp only [Ko]
 have hi:i < l.length:=by simpa using h3
 have:=h2 i hi
 rw [Ji,Ji,Jr hi,Jr (by omega)] at this
 simp only [Kp] at this
 dsimp only [Qaa]
 rw [Kq,Kq]
 exact congrArg List.flatten (List.map_congr_left fun j hj=>by rw [this j (Je.1 hj)])
def Qf3 (es:List E) (com:Int->Bool) (k n:Nat):List Row:=(Jg n).map fun p=>Qea es com k p 16
def QpJ (es:List E) (com:Int->Bool) (k n:Nat):Qf3 es com k (n + 1) = Qf3 es com k n ++ [Qea es com k n 16]:=by
 unfold Qf3
 rw [Jw,Ku]
 rfl
def Qg3 (es:List E) (com:Int->Bool) (k n:Nat):(Qf3 es com k n).length = n:=by simp [Qf3]
def QwW (es:List E) (com:Int->Bool) (k n:Nat):fz Qaa (Qf3 es com k n) = fz Qaa (Qgh es com n k):=by
 refine QqJ (by rw [Qg3,QdJ]) fun i hi j hj=>?_
 rw [Qg3] at hi
 unfold Qf3 Qgh
 rw [Ji,Ji,JN,JN,List.getElem?_range hi]
 simp only [Option.map_some,Kp]
 unfold Qea
 rw [if_pos hj]
def QAw (x:Lg) (hx:x.es.length<=9223372036854775807) (pages at_:Int):VCalls prog 34 [.agg x.c,.int .i64 pages,.int .i64 at_] [] (Ret (.tup [.pv (.sl (fz Qaa (QnE x pages at_).1)),.int .i64 (QnE x pages at_).2])):=by
 refine VCalls.unwk ?_
 refine dd Tryz.func34 ?_
 have hw:=Qge x hx
 have eS:QnE x pages at_ = if QS x = false then ([],26) else if pages < 1\/64 < pages\/QaO x at_ = false then ([],1) else (Qgh x.es (Qbb x.es at_.toNat) pages.toNat at_.toNat,0):=rfl
 generalize QnE x pages at_ = res at *
 (unfold Tryz.f34; refine rn trivial ?_)
 cases hwb:QS x
 ·rw [hwb] at hw
  rw [if_pos hwb] at eS
  unfold Lg.c at hw
  subst eS
  refine rn F ?_
  repeat' (first
   | with_reducible exact ⟨⟩
   | refine vp F (hw) ?_)
  all_goals rfl
 rw [hwb] at hw
 rw [if_neg (by rw [hwb]; decide)] at eS
 by_cases hin:pages < 1\/64 < pages\/QaO x at_ = false
 ·rw [if_pos hin] at eS
  subst eS
  unfold QaO at hin
  simp only [Jn,decide_eq_false_iff_not] at hin
  unfold Lg.c at hw
  refine rn F ?_
  repeat' (first
   | with_reducible exact ⟨⟩
   | (refine sG F ?_ ?_<;>intro hZ)
   | refine vp F (hw) ?_)
  all_goals first
   | rfl
   | (exfalso; omega)
 rw [if_neg hin] at eS
 subst eS
 unfold QaO at hin
 simp only [Jn,decide_eq_false_iff_not] at hin
 have hn:=QgA hwb
 have hlg:=Qcf hwb
 have hes:x.es.length<=4096:=(QT hlg).2.2.1
 obtain ⟨k,rfl⟩:∃ n:Nat,at_ = n:=⟨at_.toNat,by omega⟩
 obtain ⟨n,rfl⟩:∃ n:Nat,pages = n:=⟨pages.toNat,by omega⟩
 have hk:k<=x.es.length:=by omega
 simp only [JE]
 have p1:¬ (n:Int) < 1:=by omega
 have p2:¬ 64 < (n:Int):=by omega
 have p5:¬ (x.es.length:Int) < k:=by omega
 rw [<- QwW]
 have hn64:n<=64:=by omega
 unfold Lg.c at hw
 have F:=(Ja @p1 (Ja @p2 @p5))
 refine rn F ?_
 repeat' (first
  | with_reducible exact ⟨⟩
  | refine vp F (hw) ?_)
 refine VLoop.nilOwn 8 95 32 rfl ?_
 refine Qg (fun s:To n=>⟨55,0,[(9,.int .i64 s.i),(8,.own 1 32 0 (Qf3 x.es (Qbb x.es k) k s.i).length),(3,.ptr 0 0),(2,.int .i64 k),(1,.int .i64 n)],[⟨32,true,x.c⟩,⟨95,true,cells Qaa (Qf3 x.es (Qbb x.es k) k s.i)⟩]⟩) (fun s=>n - s.i) ⟨0,Jd _⟩ (gc [0,1]) ?_
 rintro ⟨p,hp⟩
 dsimp only
 have hpl:=Qg3 x.es (Qbb x.es k) k p
 have hcl:(cells Qaa (Qf3 x.es (Qbb x.es k) k p)).length = p * 32:=by rw [Qy,hpl]; rfl
 by_cases hc:p < n
 ·have hc':(p:Int) < n:=by omega
  have F:=@hc'
  refine rn F ?_
  have hz:cells Qaa [Qea x.es (Qbb x.es k) k p 0] = [.bool false,.pv (.str []),.bool false,.pv (.str []),.bool false,.pv (.str []),.bool false,.pv (.str []),.bool false,.pv (.str []),.bool false,.pv (.str []),.bool false,.pv (.str []),.bool false,.pv (.str []),.bool false,.pv (.str []),.bool false,.pv (.str []),.bool false,.pv (.str []),.bool false,.pv (.str []),.bool false,.pv (.str []),.bool false,.pv (.str []),.bool false,.pv (.str []),.bool false,.pv (.str [])]:=by rw [QsL]; rfl
  refine Qg (fun s:To 16=>⟨55,0,[(11,.int .i64 s.i),(10,.ptr 2 0),(9,.int .i64 p),(8,.own 1 32 0 (Qf3 x.es (Qbb x.es k) k p).length),(3,.ptr 0 0),(2,.int .i64 k),(1,.int .i64 n)],[⟨32,true,x.c⟩,⟨95,true,cells Qaa (Qf3 x.es (Qbb x.es k) k p)⟩,⟨95,true,cells Qaa [Qea x.es (Qbb x.es k) k p s.i]⟩]⟩) (fun s=>16 - s.i) ⟨0,Jd _⟩ (by dsimp only; rw [hz]; exact (gc [0,1,2])) ?_
  rintro ⟨i,hi⟩
  dsimp only
  by_cases hci:i < 16
  ·have hci':(i:Int) < 16:=by omega
   have hset:=QGB [Qea x.es (Qbb x.es k) k p i] 0 i Nat.one_pos hci (Qrd x.es (Qbb x.es k) p i k)
   have hcl2:(cells Qaa [Qea x.es (Qbb x.es k) k p i]).length = 32:=rfl
   rw [<- QmS _ _ _ _ (by rw [hcl2]; omega)] at hset
   simp only [Nat.zero_mul,Nat.zero_add] at hset
   have hi2:i * 2<=30:=by omega
   rw [show ([Qea x.es (Qbb x.es k) k p i].set 0 (Row.put ([Qea x.es (Qbb x.es k) k p i].getD 0 QvL) i (Qrd x.es (Qbb x.es k) p i k))) = [Qea x.es (Qbb x.es k) k p (i + 1)] by rw [QsM]; rfl] at hset
   have hs:=QmL x hn k p i 0 hk hes
   obtain ⟨m,h1,h2,h3⟩:=Qjr hn (Qbb x.es k) p i 0 k hk
   rw [Qsq (Qbb x.es k) p i k fun j hj hch=>(QzA hlg (by omega) hch).2.2] at h3
   have hce:=Qtk x m (by omega) hes
   rw [h3] at hce
   rw [h1] at hs
   generalize Qrd x.es (Qbb x.es k) p i k = ce at *
   unfold Lg.c at hs hce
   unfold Ce.d at hce
   have F:=(Ja @hci' (Ja @hci (Ja @hi2 @hset)))
   refine rn F ?_
   repeat' (first
    | with_reducible exact ⟨⟩
    | refine vp F (hs) ?_
    | refine vp F (hce) ?_
    | (refine Qd (id:=13) [0,1,2,3,4,5] [⟨[],[],6,[0,1],[]⟩,⟨[],[],7,[0,2,3,4,5],[8]⟩,⟨[],[],9,[],[]⟩] (by kernel_rfl) (by kernel_rfl) ?_; refine rn F ?_))
   exact ⟨⟨i + 1,hci⟩,by dsimp only; omega,(gc [0,1,2])⟩
  ·have hci':¬ (i:Int) < 16:=by omega
   obtain rfl:i = 16:=by omega
   have F:=(Ja @hci' (Ja @hpl @hcl))
   refine rn F ?_
   refine ⟨⟨p + 1,hc⟩,by dsimp only; omega,?_⟩
   dsimp only
   rw [QpJ,Jc,hpl]
   exact (gc [0,4])
 ·have hc':¬ (p:Int) < n:=by omega
  obtain rfl:p = n:=by omega
  have F:=(Ja @hc' (Ja @hpl @hcl))
  (refine rn F ?_; try with_reducible exact ⟨⟩)
end
section
attribute [local go_sem] QF1 Ce.d Ch.d E.d Lg.c Rg.d QM Q9 Qfq Qim Qil Qh2 Qh1 Qie QcA Qzk QzE Qy7 Qy6 Qgb QxV QCT QCO QCe JI
def QGb (l:List Row) (i:Nat) (h:i < l.length):∃ r:Row,(fz Qaa l)[i]? = some [.lit (.bool (r 0).set),.str (r 0).data,.lit (.bool (r 1).set),.str (r 1).data,.lit (.bool (r 2).set),.str (r 2).data,.lit (.bool (r 3).set),.str (r 3).data,.lit (.bool (r 4).set),.str (r 4).data,.lit (.bool (r 5).set),.str (r 5).data,.lit (.bool (r 6).set),.str (r 6).data,.lit (.bool (r 7).set),.str (r 7).data,.lit (.bool (r 8).set),.str (r 8).data,.lit (.bool (r 9).set),.str (r 9).data,.lit (.bool (r 10).set),.str (r 10).data,.lit (.bool (r 11).set),.str (r 11).data,.lit (.bool (r 12).set),.str (r 12).data,.lit (.bool (r 13).set),.str (r 13).data,.lit (.bool (r 14).set),.str (r 14).data,.lit (.bool (r 15).set),.str (r 15).data]:=⟨l.getD i QvL,by
 unfold fz
 rw [JN,Jr h,Qm l i h]
 rfl⟩
def QAt (l:List Row) (hl:l.length<=1000000):VCalls prog 35 [.pv (.sl (fz Qaa l)),.pv (.sl (fz Qaa l))] [] (Ret (.bool true)):=by
 refine dd Tryz.func35 ?_
 (unfold Tryz.f35; refine rn trivial ?_)
 refine Qg (fun s:To l.length=>⟨26,0,[(5,.int .i64 s.i),(1,.pv (.sl (fz Qaa l))),(0,.pv (.sl (fz Qaa l)))],[]⟩) (fun s=>l.length - s.i) ⟨0,Jd _⟩ (gc []) ?_
 rintro ⟨i,hi⟩
 dsimp only
 by_cases hc:i < l.length
 ·have hc':(i:Int) < l.length:=by omega
  obtain ⟨r,hg⟩:=QGb l i hc
  have F:=(Ja @hc' @hg)
  refine rn F ?_
  repeat' (first
   | with_reducible exact ⟨⟩
   | (refine Qd (id:=6) [0,1,2,3,4,5,6,7,8] [] (by kernel_rfl) (by kernel_rfl) ?_; refine rn F ?_))
  all_goals exact ⟨⟨i + 1,hc⟩,by dsimp only; omega,(gc [])⟩
 ·have hc':¬ (i:Int) < l.length:=by omega
  have F:=@hc'
  (refine rn F ?_; try with_reducible exact ⟨⟩)
def QBa (l:List Int) (hl:l.length<=1000000):VCalls prog 20 [.pv (.sl (fz QW l)),.pv (.sl (fz QW l))] [] (Ret (.bool true)):=by
 refine dd Tryz.func20 ?_
 (unfold Tryz.f20; refine rn trivial ?_)
 refine Qg (fun s:To l.length=>⟨26,0,[(5,.int .i64 s.i),(1,.pv (.sl (fz QW l))),(0,.pv (.sl (fz QW l)))],[]⟩) (fun s=>l.length - s.i) ⟨0,Jd _⟩ (gc []) ?_
 rintro ⟨i,hi⟩
 dsimp only
 by_cases hc:i < l.length
 ·have hc':(i:Int) < l.length:=by omega
  have hg:(fz QW l)[i]? = some [.lit (.int .i64 (l.getD i 0))]:=by
   unfold fz
   rw [JN,Jr hc,Qm l i hc]
   rfl
  have F:=(Ja @hc' @hg)
  refine rn F ?_
  repeat' (first
   | with_reducible exact ⟨⟩
   | (refine Qd (id:=6) [0,1,2,3,4,5,6,7,8] [] (by kernel_rfl) (by kernel_rfl) ?_; refine rn F ?_))
  all_goals exact ⟨⟨i + 1,hc⟩,by dsimp only; omega,(gc [])⟩
 ·have hc':¬ (i:Int) < l.length:=by omega
  have F:=@hc'
  (refine rn F ?_; try with_reducible exact ⟨⟩)
def QBp (l:List Row) (hl:l.length<=1000000):VCalls prog 12 [.pv (.sl (fz Qaa l)),.pv (.sl (fz Qaa l))] [] (Ret (.bool true)):=by
 refine dd Tryz.func12 ?_
 have h:=QAt l hl
 (unfold Tryz.f12; refine rn trivial ?_)
 refine rn F ?_
 repeat' (first
  | with_reducible exact ⟨⟩
  | refine vp F (h) ?_)
def QEh (x:Lg) (hx:x.es.length<=9223372036854775807) (pages at_:Int):VCalls prog 11 [.agg x.c,.int .i64 pages,.int .i64 at_] [] (Ret (.tup [.pv (.sl (fz Qaa (QnE x pages at_).1)),.int .i64 (QnE x pages at_).2])):=by
 refine dd Tryz.func11 ?_
 have h:=QAw x hx pages at_
 generalize QnE x pages at_ = r at *
 unfold Lg.c at h
 (unfold Tryz.f11; refine rn trivial ?_)
 refine rn F ?_
 repeat' (first
  | with_reducible exact ⟨⟩
  | refine vp F (h) ?_)
def Qtr (x:Lg) (hx:x.es.length<=9223372036854775807) (pg sl tx at_:Int):VCalls prog 13 [.agg x.c,.int .i64 pg,.int .i64 sl,.int .i64 tx,.int .i64 at_] [] (Ret (.tup [.agg (QcW x pg sl tx at_).1.1.d,.int .i64 (QcW x pg sl tx at_).2])):=by
 refine dd Tryz.func13 ?_
 have h:=Qse x hx pg sl tx at_
 generalize QcW x pg sl tx at_ = r at *
 unfold Lg.c Ce.d at h
 (unfold Tryz.f13; refine rn trivial ?_)
 refine rn F ?_
 repeat' (first
  | with_reducible exact ⟨⟩
  | refine vp F (h) ?_)
def QBq (x:Lg) (hx:x.es.length<=9223372036854775807) (r:Rg):VCalls prog 17 [.agg x.c,.agg r.d] [] (Ret (.tup [.int .i64 (QvO x r).1,.bool (QvO x r).2])):=by
 refine dd Tryz.func17 ?_
 have h:=QAx x hx r
 generalize QvO x r = s at *
 unfold Lg.c Rg.d at h
 (unfold Tryz.f17; refine rn trivial ?_)
 refine rn F ?_
 repeat' (first
  | with_reducible exact ⟨⟩
  | refine vp F (h) ?_)
def QEg (x:Lg) (hx:x.es.length<=9223372036854775807):VCalls prog 19 [.agg x.c] [] (Ret (.tup [.pv (.sl (fz QW (Qq6 x).1)),.int .i64 (Qq6 x).2])):=by
 refine dd Tryz.func19 ?_
 have h:=Qr6 x hx
 generalize Qq6 x = s at *
 unfold Lg.c at h
 (unfold Tryz.f19; refine rn trivial ?_)
 refine rn F ?_
 repeat' (first
  | with_reducible exact ⟨⟩
  | refine vp F (h) ?_)
end
section
attribute [local go_sem] Ce.d Ch.d E.d Lg.c Rg.d QM Q9
def QBe (h:lgB x = true) (hi:i < x.es.length) (hk:(x.es.getD i E0).kind = 2):1<=(x.es.getD i E0).ref:=by
 unfold lgB at h
 rw [Jb,Jo] at h
 have h2:=h.2 i (Je.2 hi)
 unfold lgC at h2
 rw [Jb] at h2
 have h4:=h2.2
 generalize x.es.getD i E0 = e at *
 unfold E.okB at h4
 rw [Jb] at h4
 have h5:=h4.2
 unfold E.kindB at h5
 rw [if_neg (by omega),if_pos hk] at h5
 simp at h5
 omega
def QDL {x:Lg} (hw:QS x = true) (hr:Qg6 x = 0):Qq5 x = (Jg x.es.length).all (QgV x.es):=by
 have hlg:=Qcf hw
 have hf:x.f = 1:=by unfold QS at hw; simp at hw; exact hw.2
 have W:=Wf.of hlg
 rw [hf] at W
 unfold Qq5
 rw [Qzz,hr,hf]
 have hall:∀ i,i < x.es.length->Qh4 1 x.es i = true:=by
  unfold Qg6 at hr
  rw [if_pos hlg,hf] at hr
  split at hr
  ·rename_i h
   rw [Jo] at h
   exact fun i hi=>h i (Je.2 hi)
  ·exact absurd hr (by decide)
 have:=QtI W (fun i hi hk=>QBe hlg hi hk) hall x.es.length (JA _)
 rcases this with ⟨h1,o,h2,-⟩ | ⟨h1,h2⟩
 ·rw [h1,h2]; rfl
 ·rw [h1,h2]; rfl
def QDK {x:Lg} (h:QS x = false\/Qg6 x ≠ 0):Qq5 x = false:=by
 unfold Qq5
 rcases h with h | h
 ·unfold QS at h
  simp only [Jn,decide_eq_false_iff_not] at h
  rcases h with h | h
  ·have:QqE x ≠ 0:=by
    unfold QqE
    rw [if_neg (by rw [h]; decide)]
    decide
   rw [decide_eq_false this]; rfl
  ·rw [decide_eq_false h]; simp
 ·rw [Qzz,decide_eq_false h]; rfl
def Qsd (x:Lg) (hx:x.es.length<=9223372036854775807):VCalls prog 42 [.agg x.c] [] (Ret (.bool (Qq5 x))):=by
 refine dd Tryz.func42 ?_
 have hw:=Qge x hx
 have hr:=QEd x hx
 have hno:=@QDK x
 have heq:=@QDL x
 unfold Lg.c at hw hr
 (unfold Tryz.f42; refine rn trivial ?_)
 cases hwb:QS x
 ·rw [hwb] at hw
  rw [hno (.inl hwb)]
  refine rn F ?_
  repeat' (first
   | with_reducible exact ⟨⟩
   | refine vp F (hw) ?_)
 rw [hwb] at hw
 by_cases hz:Qg6 x = 0
 rotate_left
 ·rw [hno (.inr hz)]
  generalize Qg6 x = rc at *
  have F:=@hz
  refine rn F ?_
  repeat' (first
   | with_reducible exact ⟨⟩
   | refine vp F (hw) ?_
   | refine vp F (hr) ?_)
 rw [heq hwb hz]
 rw [hz] at hr
 have hes:x.es.length<=4096:=(QT (Qcf hwb)).2.2.1
 clear hno heq
 have F:=trivial
 refine rn F ?_
 repeat' (first
  | with_reducible exact ⟨⟩
  | refine vp F (hw) ?_
  | refine vp F (hr) ?_)
 refine Qg (fun s:Okay x.es.length (QgV x.es)=>⟨75,0,[(3,.int .i64 s.i),(1,.ptr 0 0)],[⟨32,true,x.c⟩]⟩) (fun s=>x.es.length - s.i) (Okay.start _ _) (gc [0]) ?_
 intro s
 have hs:=s.hi
 by_cases hc:s.i < x.es.length
 ·have hc':((s.i:Nat):Int) < x.es.length:=by omega
  have hg:=Qbu x.es s.i hc
  have hst:QgV x.es s.i = (!decide ((x.es.getD s.i E0).kind = 1) || (Jg s.i).all fun k=>!(QcZ x.es s.i ((x.es.getD s.i E0).c.pg,(x.es.getD s.i E0).c.sl) k && !decide ((x.es.getD k E0).tx = (x.es.getD s.i E0).tx))):=rfl
  obtain ⟨e,he⟩:∃ e,x.es.getD s.i E0 = e:=⟨_,rfl⟩
  rw [he] at hg hst
  by_cases hk:e.kind = 1
  rotate_left
  ·rw [decide_eq_false hk] at hst
   have F:=(Ja @hc' (Ja @hg @hk))
   refine rn F ?_
   exact ⟨s.next hc hst,s.dec hc,(gc [0])⟩
  rw [decide_eq_true hk] at hst
  have F:=(Ja @hc' (Ja @hg @hk))
  refine rn F ?_
  refine Qg (fun r:Okay s.i (fun k=>!(QcZ x.es s.i (e.c.pg,e.c.sl) k && !decide ((x.es.getD k E0).tx = e.tx)))=>⟨75,0,[(5,.int .i64 r.i),(4,.ptr 1 0),(3,.int .i64 s.i),(1,.ptr 0 0)],[⟨32,true,x.c⟩,⟨73,true,e.d⟩]⟩) (fun r=>s.i - r.i) (Okay.start _ _) (by simp only [E.d,hk]; exact (gc [0,1])) ?_
  intro r
  have hrr:=r.hi
  by_cases hcr:r.i < s.i
  ·have hcr':((r.i:Nat):Int) < s.i:=by omega
   have hrl:((r.i:Nat):Int) < x.es.length:=by omega
   have hg2:=Qbu x.es r.i (by omega)
   have ho:=QAu x r.i s.i hcr hs hes
   have hlv:QcZ x.es s.i (e.c.pg,e.c.sl) r.i = (decide ((x.es.getD r.i E0).kind = 1) && (decide (((x.es.getD r.i E0).c.pg,(x.es.getD r.i E0).c.sl) = (e.c.pg,e.c.sl)) && !ovB x.es r.i s.i)):=rfl
   obtain ⟨y,hy⟩:∃ y,x.es.getD r.i E0 = y:=⟨_,rfl⟩
   rw [hy] at hg2 hlv
   generalize hob:ovB x.es r.i s.i = ob at *
   unfold Lg.c at ho
   cases ob
   all_goals
    have F:=(Ja @hcr' (Ja @hrl @hg2))
    refine rn F ?_
    repeat' (first
     | with_reducible exact ⟨⟩
     | (refine sG F ?_ ?_<;>intro hZ)
     | refine vp F (ho) ?_)
    all_goals first
     | exact ⟨r.next hcr (by rw [hy,hlv]; simp [*]),r.dec hcr,(gc [0,1])⟩
     | (rw [QaM hc (by rw [hst,QaM hcr (by rw [hy,hlv]; simp [*])]; rfl)])
  ·have hcr':¬ ((r.i:Nat):Int) < s.i:=by omega
   have F:=@hcr'
   refine rn F ?_
   exact ⟨s.next hc (by rw [hst,r.all hcr]; rfl),s.dec hc,(gc [0])⟩
 ·have hc':¬ ((s.i:Nat):Int) < x.es.length:=by omega
  have F:=@hc'
  refine rn F ?_
  rw [s.all hc]
def Qtq (x:Lg) (hx:x.es.length<=9223372036854775807):VCalls prog 22 [.agg x.c] [] (Ret (.bool (Qq5 x))):=by
 refine dd Tryz.func22 ?_
 have h:=Qsd x hx
 generalize Qq5 x = s at *
 unfold Lg.c at h
 (unfold Tryz.f22; refine rn trivial ?_)
 refine rn F ?_
 repeat' (first
  | with_reducible exact ⟨⟩
  | refine vp F (h) ?_)
end
section
attribute [local go_sem] Ce.d Ch.d E.d Lg.c Rg.d QM Q9 Qfq Qim Qil Qh2 Qh1 Qie
def QGv (tx ptx ppg:Int) (b a:List UInt8):E:=⟨0,1,tx,ptx,ppg,0,⟨0,0,⟨!(b == []),b⟩,⟨true,a⟩⟩,[]⟩
def Qke (tx ptx ppg:Int) (b a:List UInt8) (hb:b.length<=1000):VCalls prog 23 [.int .i64 tx,.int .i64 ptx,.int .i64 ppg,.pv (.str b),.pv (.str a)] [] (Ret (.agg (QGv tx ptx ppg b a).d)):=by
 refine dd Tryz.func23 ?_
 (unfold Tryz.f23; refine rn trivial ?_)
 rfl
def Qzw (n:Nat):List E:=[⟨if 0 < n then 1 else 0,1,1,0,0,0,⟨0,0,⟨false,[]⟩,⟨true,[97]⟩⟩,[]⟩,⟨if 1 < n then 2 else 0,3,1,1,0,0,Ch0,[]⟩,⟨if 2 < n then 3 else 0,1,2,0,1,0,⟨0,0,⟨true,[97]⟩,⟨true,[98]⟩⟩,[]⟩]
def Lg22:Lg:=⟨1,Qzw 3,0⟩
def QDU (tx:Int) (h:tx = 3\/tx = 2):QcW Lg22 0 0 tx 3 = ((⟨true,if tx = 3 then [97] else [98]⟩,if tx = 3 then 1 else 3),0):=by
 rcases h with rfl | rfl<;>rfl
def QFT:Qq5 Lg22 = true:=by decide
def QHo (n:Nat) (h:n < 3):(cells encE (Qzw n)).set (n * 13) (.pv (.lit (.int .i64 (n + 1)))) = cells encE (Qzw (n + 1)):=by
 rcases (show n = 0\/n = 1\/n = 2 by omega) with rfl | rfl | rfl<;>rfl
def Qvy:VCalls prog 4 [] [] (Ret (.bool true)):=by
 refine dd Tryz.func4 ?_
 have w1:=Qke 1 0 0 [] [97] (by decide)
 have w2:=Qke 2 0 1 [97] [98] (by decide)
 unfold QGv at w1 w2
 dsimp only [E.d] at w1 w2
 (unfold Tryz.f4; refine rn trivial ?_)
 refine rn F ?_
 repeat' (first
  | with_reducible exact ⟨⟩
  | refine vp F (w1) ?_
  | refine vp F (w2) ?_)
 refine Qg (fun s:To 3=>⟨53,0,[(2,.int .i64 s.i),(1,.ptr 1 0)],[⟨73,true,cells encE (Qzw s.i)⟩,⟨32,true,[.int .i64 1,.own 0 13 0 3,.int .i64 0]⟩]⟩) (fun s=>3 - s.i) ⟨0,Jd _⟩ (gc [0,1]) ?_
 rintro ⟨i,hi⟩
 dsimp only
 have hcl:(cells encE (Qzw i)).length = 39:=rfl
 have hle:(Qzw i).length = 3:=rfl
 by_cases hc:i < 3
 ·have hc':(i:Int) < 3:=by omega
  have hset:=QHo i hc
  have h1:i * 13 < 39:=by omega
  have F:=(Ja @hc' (Ja @hcl (Ja @hle (Ja @h1 @hset))))
  refine rn F ?_
  exact ⟨⟨i + 1,hc⟩,by dsimp only; omega,(gc [0,1])⟩
 obtain rfl:i = 3:=by omega
 have s1:=QnH Lg22 (by decide) 0 0 3 3
 have s2:=QnH Lg22 (by decide) 0 0 2 3
 have s3:=Ql2 Lg22 (by decide)
 rw [QFT] at s3
 rw [QDU 3 (.inl rfl)] at s1
 rw [QDU 2 (.inr rfl)] at s2
 have hd:Lg22.c = [.int .i64 1,.pv (.sl (fz encE (Qzw 3))),.int .i64 0]:=rfl
 rw [hd] at s1 s2 s3
 dsimp only [Ce.d] at s1 s2
 generalize Qzw 3 = es at *
 have F:=(Ja @hcl @hle)
 refine rn F ?_
 repeat' (first
  | with_reducible exact ⟨⟩
  | refine vl F (s1) ?_
  | refine vl F (s2) ?_
  | refine vl F (s3) ?_)
end
section
attribute [local go_sem] cb cc
def QE6 (b:Int) (hb:0<=b/\b<=255):∃ y:UInt8,b = (y.toNat:Int):=⟨UInt8.ofNat b.toNat,by simp only [UInt8.toNat_ofNat']; omega⟩
def QtZ {α:Type} {n:Nat} {A B:α} (hn:n<=1000000000):(if 0<=(n:Int)/\((1:Nat):Int) * n<=281474976710656/\(n:Int)<=9223372036854775807 then A else B) = A:=
 if_pos ⟨by omega,by omega,by omega⟩
abbrev Dx (n:Nat):DV->Prop:=fun r=>∃ t:List UInt8,r = .pv (.str t)/\t.length<=n
structure DSt (n:Nat) where
 c:C
 l:List UInt8
 hl:l.length<=n
def QoU (c:C):VCalls prog 37 [.ptr 0 0] [cb c] (CX (Dx 13)):=by
 refine dd Tryz.func37 ?_
 (unfold Tryz.f37; refine rn trivial ?_)
 refine QJ (k:=0) (c:=c) (QY c 5 (by omega) (by omega)) rfl rfl ?_
 rintro _ c1 ⟨z,rfl,hz⟩
 refine rn trivial ?_
 refine QJ (k:=0) (c:=c1) (QY c1 6 (by omega) (by omega)) rfl rfl ?_
 rintro _ c2 ⟨z2,rfl,hz2⟩
 have hcw:=fun (hp:Qb) (k o n:Nat)=>Qe0 (hp:=hp) (k:=k) (off:=o) (len:=n) QFE
 have mk:=fun (n:Nat) (h:n<=1000000000) (A B:Option (DV × Qb))=>QtZ (n:=n) (A:=A) (B:=B) h
 refine rn F ?_
 repeat' (first
  | with_reducible exact ⟨⟩
  | (refine sB F ?_ ?_<;>intro hZ))
 case' refine_1=>
  refine QJ (k:=0) (c:=c2) (QY c2 14 (by omega) (by omega)) rfl rfl ?_
  rintro _ c3 ⟨n,rfl,hn⟩
 case' refine_2=>
  obtain ⟨n,rfl,hn⟩:∃ n:Nat,n = z/\n < 14:=⟨z,rfl,by omega⟩
  obtain ⟨c3,rfl⟩:∃ c3,c3 = c2:=⟨c2,rfl⟩
 all_goals
  have hm:=fun A B=>mk n (by omega) A B
  have hr:Jh 0 (0:UInt8) = []:=rfl
  refine rn (Ja @hm @hr) ?_
  refine Qg (fun i:DSt n=>⟨29,1,[(5,.int .i64 i.l.length),(3,.int .i64 n),(4,.own 1 1 0 i.l.length),(0,.ptr 0 0)],[cb i.c,⟨5,true,cells Qfy i.l⟩]⟩) (fun i=>n - i.l.length) ⟨c3,[],Jd _⟩ (gc [0,1]) ?_
  rintro ⟨c4,l,hl⟩
  dsimp only
  have hvc:=fun hp:Qb=>@QdB hp l _ rfl
  by_cases hc:l.length < n
  ·skip
   refine rn F ?_
   refine QJ (k:=0) (c:=c4) (QY c4 3 (by omega) (by omega)) rfl rfl ?_
   rintro r c5 ⟨y,rfl,hy⟩
   obtain ⟨u,hu⟩:∃ u:UInt8,97 + (y:Int) = (u.toNat:Int):=QE6 _ (by omega)
   have e2:cells Qfy l ++ [.pv (.lit (.int .u8 u.toNat))] = cells Qfy (l ++ [u]):=(Qz Qfy l [u]).symm
   have e3:(cells Qfy l).take l.length = cells Qfy l:=by rw [JL]; rw [QdU]; exact JA _
   have hub:u.toNat < 256:=u.toNat_lt
   have hs2:l.length<=140737488355327:=by omega
   refine rn (Ja @hu (Ja @hs2 (Ja @e3 @e2))) ?_
   have hl2:(l ++ [u]).length = l.length + 1:=by simp
   refine ⟨⟨c5,l ++ [u],by rw [hl2]; omega⟩,by dsimp only; rw [hl2]; omega,?_⟩
   dsimp only
   rw [hl2]
   exact (gc [0,3])
  ·skip
   have F:=(Ja @hcw @hvc)
   refine rn F ?_
   exact ⟨_,rfl,rfl,Qal _,rfl,⟨_,rfl,by omega⟩,c4,rfl⟩
end
section
attribute [local go_sem] cb cc Ce.d Ch.d
abbrev CeX:DV->Prop:=fun r=>∃ x:Ce,r = .agg x.d
abbrev ChX:DV->Prop:=fun r=>∃ x:Ch,r = .agg x.d
abbrev EX:DV->Prop:=fun r=>∃ x:E,r = .agg x.d
def QE4 (c:C):VCalls prog 14 [.ptr 0 0] [cb c] (CX CeX):=by
 refine dd Tryz.func14 ?_
 (unfold Tryz.f14; refine rn trivial ?_)
 refine QJ (k:=0) (c:=c) (QY c 3 (by omega) (by omega)) rfl rfl ?_
 rintro _ c1 ⟨z,rfl,hz⟩
 by_cases h0:(z:Int) = 0
 ·skip
  have F:=@h0
  refine rn F ?_
  exact ⟨_,rfl,rfl,Qal _,rfl,⟨⟨_,_⟩,rfl⟩,_,rfl⟩
 ·skip
  have F:=@h0
  refine rn F ?_
  refine QJ (k:=0) (c:=c1) (QoU c1) rfl rfl ?_
  rintro _ c2 ⟨t,rfl,ht⟩
  obtain ⟨m,hm,hm1⟩:∃ m:Nat,(if 12 < (t.length:Int) then 12 else (t.length:Int)) = m/\m<=t.length:=⟨min t.length 12,by split<;>omega,by omega⟩
  have F:=(Ja @hm @hm1)
  refine rn F ?_
  exact ⟨_,rfl,rfl,Qal _,rfl,⟨⟨_,_⟩,rfl⟩,_,rfl⟩
def Qnj (c:C) (x:Ch):VCalls prog 46 [.ptr 0 0,.agg x.d] [cb c] (CX ChX):=by
 refine dd Tryz.func46 ?_
 obtain ⟨pg,sl,⟨b1,b2⟩,⟨a1,a2⟩⟩:=x
 (unfold Tryz.f46; refine rn trivial ?_)
 refine rn F ?_
 repeat' (first
  | with_reducible exact ⟨⟩
  | (refine sB F ?_ ?_<;>intro hZ)
  | (refine QJ (k:=0) (QY _ 4 (by omega) (by omega)) rfl rfl ?_; rintro _ _ ⟨_,rfl,_⟩; refine rn F ?_)
  | (refine QJ (k:=0) (QY _ 2 (by omega) (by omega)) rfl rfl ?_; rintro _ _ ⟨_,rfl,_⟩; refine rn F ?_)
  | (refine QJ (k:=0) (Quf _) rfl rfl ?_; rintro _ _ ⟨_,rfl,_⟩; refine rn F ?_)
  | (refine QJ (k:=0) (QoU _) rfl rfl ?_; rintro _ _ ⟨_,rfl,_⟩; refine rn F ?_))
 all_goals exact ⟨_,rfl,rfl,Qal _,rfl,⟨⟨_,_,⟨_,_⟩,⟨_,_⟩⟩,rfl⟩,_,rfl⟩
def QpW (c:C) (x:E):VCalls prog 26 [.ptr 0 0,.agg x.d] [cb c] (CX EX):=by
 refine dd Tryz.func26 ?_
 unfold E.d
 obtain ⟨lsn,kind,tx,ptx,ppg,ref,⟨pg,sl,⟨b1,b2⟩,⟨a1,a2⟩⟩,blob⟩:=x
 (unfold Tryz.f26; refine rn trivial ?_)
 have hcw:=fun (hp:Qb) (k o n:Nat)=>Qe0 (hp:=hp) (k:=k) (off:=o) (len:=n) QFE
 refine rn F ?_
 repeat' (first
  | with_reducible exact ⟨⟩
  | (refine sB F ?_ ?_<;>intro hZ)
  | (refine QJ (k:=0) (QY _ 9 (by omega) (by omega)) rfl rfl ?_; rintro _ _ ⟨_,rfl,_⟩; refine rn F ?_)
  | (refine QJ (k:=0) (QY _ 11 (by omega) (by omega)) rfl rfl ?_; rintro _ _ ⟨_,rfl,_⟩; refine rn F ?_)
  | (refine QJ (k:=0) (Quf _) rfl rfl ?_; rintro _ _ ⟨_,rfl,_⟩; refine rn F ?_)
  | (refine QJ (k:=0) (Qnj _ ⟨pg,sl,⟨b1,b2⟩,⟨a1,a2⟩⟩) rfl rfl ?_; rintro _ _ ⟨_,rfl,_⟩; refine rn F ?_)
  | (refine QJ (k:=0) (QoU _) rfl rfl ?_; rintro _ _ ⟨_,rfl,_⟩; refine rn F ?_))
 all_goals first
  | exact ⟨_,rfl,rfl,Qal _,rfl,⟨⟨_,_,_,_,_,_,⟨_,_,⟨_,_⟩,⟨_,_⟩⟩,_⟩,rfl⟩,_,rfl⟩
  | skip
 ·refine QJ (k:=0) (QY _ 2 (by omega) (by omega)) rfl rfl ?_
  rintro _ c2 ⟨n,rfl,hn⟩
  obtain ⟨m,hm,hm1⟩:∃ m:Nat,8192 + (n:Int) = m/\m<=9000:=⟨8192 + n,by omega,by omega⟩
  have hrl:(Jh m (0:UInt8)).length = m:=Jq
  have hvc:=fun hp:Qb=>@QdB hp _ _ hrl
  have F:=(Ja @hm (Ja @hm1 (Ja @hcw @hvc)))
  refine rn F ?_
  exact ⟨_,rfl,rfl,Qal _,rfl,⟨⟨_,_,_,_,_,_,⟨_,_,⟨_,_⟩,⟨_,_⟩⟩,_⟩,rfl⟩,_,rfl⟩
end
section
attribute [local go_sem] cb cc Lg.c
def gE (l:List E) (i j:Nat) (h:i < l.length) (hj:j < 13):(cells encE l)[i * 13 + j]? = ((encE.enc (l.getD i E0)).map DV.pv)[j]?:=by
 have:=QdT encE l i h
 rw [Qm l i h]
 rw [<- this,List.getElem?_take,if_pos (show j < encE.sz from hj),List.getElem?_drop]; rfl
def gE0 (l:List E) (i:Nat) (h:i < l.length):(cells encE l)[i * 13]? = some (.pv (.lit (.int .i64 (l.getD i E0).lsn))):=gE l i 0 h (by decide)
def sE3 (l:List E) (i:Nat) (h:i < l.length) (x:Int):(cells encE l).set (i * 13 + 3) (.pv (.lit (.int .i64 x))) = cells encE (l.set i { l.getD i E0 with ptx:=x }):=QFx encE l i 3 _ _ h (by decide) (by rw [Qm l i h]; rfl)
def sE4 (l:List E) (i:Nat) (h:i < l.length) (x:Int):(cells encE l).set (i * 13 + 4) (.pv (.lit (.int .i64 x))) = cells encE (l.set i { l.getD i E0 with ppg:=x }):=QFx encE l i 4 _ _ h (by decide) (by rw [Qm l i h]; rfl)
def QAI (l:List E) (i:Nat) (h:i < l.length) (e:E):(cells encE l).take (i * 13) ++ [.pv (.lit (.int .i64 e.lsn)),.pv (.lit (.int .i64 e.kind)),.pv (.lit (.int .i64 e.tx)),.pv (.lit (.int .i64 e.ptx)),.pv (.lit (.int .i64 e.ppg)),.pv (.lit (.int .i64 e.ref)),.pv (.lit (.int .i64 e.c.pg)),.pv (.lit (.int .i64 e.c.sl)),.pv (.lit (.bool e.c.b.set)),.pv (.str e.c.b.data),.pv (.lit (.bool e.c.a.set)),.pv (.str e.c.a.data),.pv (.str e.blob)] ++ (cells encE l).drop (i * 13 + 13) = cells encE (l.set i e):=Qn1 encE l i e h
def elE (l:List E) (i:Nat) (h:i < l.length):((cells encE l).drop (i * 13)).take 13 = (l.getD i E0).d:=by rw [Qm l i h]; exact QdT encE l i h
end
section
structure RQ (s:List UInt8) where
 at_:Nat
 sh:Bool
 ha:at_<=s.length
def rbQ (T:TypeId) (s:List UInt8) (r:RQ s):Blk:=⟨T,true,[.pv (.str s),.int .i64 r.at_,.bool r.sh]⟩
theorem QBk (T:TypeId) (s:List UInt8) (r:RQ s):DV.nums.go (fun _=>false) (rbQ T s r).cells = true:=rfl
def Qcn (s:List UInt8) (k:Nat) (r:RQ s):Int × RQ s:=
 if h:r.sh = true\/¬ r.at_ + k<=s.length then (0,⟨r.at_,true,r.ha⟩) else (IntKind.i64.wrap (Qmq s r.at_ k),⟨r.at_ + k,false,by omega⟩)
def Qhg (h:r.sh = true\/¬ r.at_ + k<=s.length):Qcn s k r = (0,⟨r.at_,true,r.ha⟩):=by unfold Qcn; rw [dif_pos h]
def Qnm (h:r.sh = false) (h':r.at_ + k<=s.length):Qcn s k r = (IntKind.i64.wrap (Qmq s r.at_ k),⟨r.at_ + k,false,h'⟩):=by
 unfold Qcn; rw [dif_neg (fun z=>z.elim (fun z=>by rw [h] at z; cases z) (fun z=>z h'))]
def RQ.lim {s:List UInt8} (r:RQ s):Nat:=r.at_ + (if r.sh then 4 else 0)
def RQ.lim_le (r:RQ s):r.lim<=s.length + 4:=by have:=r.ha; unfold RQ.lim; split<;>omega
def Qhh (hk:4<=k) (r:RQ s) (hr:r.sh = false):r.lim + 4<=(Qcn s k r).2.lim:=by
 by_cases h:r.at_ + k<=s.length
 ·rw [Qnm hr h]; simp only [RQ.lim,hr]; simp; omega
 ·rw [Qhg (.inr h)]; simp only [RQ.lim,hr]; simp
def Qgq (r:RQ s):r.lim<=(Qcn s k r).2.lim:=by
 cases hr:r.sh
 ·by_cases h:r.at_ + k<=s.length
  ·rw [Qnm hr h]; simp only [RQ.lim,hr]; simp
  ·rw [Qhg (.inr h)]; simp only [RQ.lim,hr]; simp
 ·rw [Qhg (.inl hr)]; simp only [RQ.lim,hr]; simp
def Qos (r:RQ s): -9223372036854775808<=(Qcn s k r).1/\(Qcn s k r).1<=9223372036854775807:=by
 unfold Qcn
 split
 ·dsimp only; omega
 ·dsimp only; rw [IntKind.wrap_i64]; omega
def rdN (s:List UInt8):Nat->List Int->RQ s->List Int × RQ s
 | 0,out,r=>(out,r)
 | n + 1,out,r=>if r.sh = true then (out,r) else rdN s n (out ++ [(Qcn s 8 r).1]) (Qcn s 8 r).2
def QEa (h:r.sh = true):rdN s n out r = (out,r):=by cases n; rfl; rw [rdN,if_pos h]
def Qm5:∀ (n:Nat) (out:List Int) (r:RQ s),4 * out.length<=r.lim->4 * (rdN s n out r).1.length<=(rdN s n out r).2.lim/\r.lim<=(rdN s n out r).2.lim
 | 0,_,_,h=>⟨h,JA _⟩
 | n + 1,out,r,h=>by
   unfold rdN
   split
   ·exact ⟨h,JA _⟩
   ·rename_i hr
    have h1:=Qhh (k:=8) (by omega) r (by simpa using hr)
    have h2:=Qm5 n (out ++ [(Qcn s 8 r).1]) (Qcn s 8 r).2 (by simp; omega)
    exact ⟨h2.1,by omega⟩
def Qf8 (s:List UInt8) (k:Nat) (r:RQ s):List Int × RQ s:=rdN s (Qcn s k r).1.toNat [] (Qcn s k r).2
def QlD (r:RQ s):4 * (Qf8 s k r).1.length<=s.length + 4:=Jf (Qm5 _ _ _ (Jd _)).1 (RQ.lim_le _)
def QlC (r:RQ s):r.lim<=(Qf8 s k r).2.lim:=Jf (Qgq r) (Qm5 _ _ _ (Jd _)).2
def txS (s:List UInt8) (r:RQ s):Tx × RQ s:=
 let a:=Qcn s 4 r
 let b:=Qcn s 1 a.2
 let c:=Qcn s 8 b.2
 let d:=Qcn s 8 c.2
 let q:=Qf8 s 2 d.2
 let v:=Qf8 s 1 q.2
 (⟨a.1,b.1,c.1,d.1,q.1,v.1⟩,v.2)
def QnV (r:RQ s) (hr:r.sh = false):r.lim + 4<=(txS s r).2.lim:=by
 have h1:=Qhh (k:=4) (by omega) r hr
 refine Jf h1 ?_
 unfold txS
 refine Jf (Qgq _) (Jf (Qgq _) (Jf (Qgq _) (Jf (QlC _) (QlC _))))
def QDF (hs:s.length<=3000000) (r:RQ s):(txS s r).1.sm:=⟨by have:=QlD (k:=2) (Qcn s 8 (Qcn s 8 (Qcn s 1 (Qcn s 4 r).2).2).2).2; show (Qf8 s 2 _).1.length<=_; omega,by have:=QlD (k:=1) (Qf8 s 2 (Qcn s 8 (Qcn s 8 (Qcn s 1 (Qcn s 4 r).2).2).2).2).2; show (Qf8 s 1 _).1.length<=_; omega⟩
def rdT (s:List UInt8):Nat->List Tx->RQ s->List Tx × RQ s
 | 0,out,r=>(out,r)
 | n + 1,out,r=>if r.sh = true then (out,r) else rdT s n (out ++ [(txS s r).1]) (txS s r).2
def QD9 (h:r.sh = true):rdT s n out r = (out,r):=by cases n; rfl; rw [rdT,if_pos h]
def Qtf:∀ (n:Nat) (out:List Tx) (r:RQ s),4 * out.length<=r.lim->4 * (rdT s n out r).1.length<=(rdT s n out r).2.lim
 | 0,_,_,h=>h
 | n + 1,out,r,h=>by
   unfold rdT
   split
   ·exact h
   ·rename_i hr
    have h1:=QnV r (by simpa using hr)
    exact Qtf n (out ++ [(txS s r).1]) (txS s r).2 (by simp; omega)
def Qzd (hs:s.length<=3000000):∀ (n:Nat) (out:List Tx) (r:RQ s),(∀ t ∈ out,t.sm)->∀ t ∈ (rdT s n out r).1,t.sm
 | 0,_,_,h=>h
 | n + 1,out,r,h=>by
   unfold rdT
   split
   ·exact h
   ·refine Qzd hs n _ _ fun t ht=>?_
    rcases List.mem_append.1 ht with h1 | h1
    ·exact h t h1
    ·rw [Jk.1 h1]; exact QDF hs r
def rq0 (s:List UInt8):RQ s:=⟨0,false,Jd _⟩
def rdA (s:List UInt8):List Tx × RQ s:=rdT s (Qcn s 2 (rq0 s)).1.toNat [] (Qcn s 2 (rq0 s)).2
def QEb (hs:s.length<=3000000):smL (rdA s).1:=
 ⟨by have:=Qtf (Qcn s 2 (rq0 s)).1.toNat [] (Qcn s 2 (rq0 s)).2 (Jd _); have h2:=(rdA s).2.lim_le; unfold rdA at h2 |-; omega,Qzd hs _ _ _ (by simp)⟩
def QE0 (s:List UInt8):List Tx × Int:=
 if (rdA s).2.sh = true then ([],5) else if ((rdA s).2.at_:Int) ≠ s.length then ([],4) else if Qd7 (rdA s).1 = false then ([],15) else ((rdA s).1,0)
abbrev RY (T:TypeId) (s:List UInt8) (v:DV) (q:RQ s):DV->Qb->Prop:=fun r h'=>∃ B',h' = [B']/\B'.live = true/\DV.nums.go (fun _=>false) B'.cells = true/\r.nums (fun _=>false) = true/\(r = v/\B' = rbQ T s q)
def Qjg (h:VCalls prog g (args.map (DV.ren fun _=>0)) [rbQ T s r] (RY T s v q)) (hk:hp[k]? = some (rbQ T s r)) (ha:DV.nums.go (fun i=>i == k) args = true) (hK:K v (hp.set k (rbQ T s q))):VCalls prog g args hp K:=
 (VCalls.ptr1 (R:=fun x B'=>x = v/\B' = rbQ T s q) hk rfl (QBk T s r) h ha).mono fun x h' ⟨B',e1,_,_,e2,e3⟩=>by subst e1 e2 e3; exact hK
attribute [local go_sem] rbQ
attribute [local go_sem] QBL QDk QDO QDN Quz Qga
@[go_sem] def lb (l:List Int):DV:=.pv (.sl (fz QW l))
def Qeb (s:List UInt8) (hs:s.length<=3000000) (k:Nat) (h1:1<=k) (h8:k<=8) (r:RQ s):VCalls prog 266 [.ptr 0 0,.int .i64 k] [rbQ 355 s r] (RY 355 s (.int .i64 (Qcn s k r).1) (Qcn s k r).2):=by
 refine dd Tryz.func266 ?_
 have ha:=r.ha
 by_cases h:r.at_ + k<=s.length
 ·have c1:=QiE s (by omega) r.at_ k ⟨h1,h8⟩ h
  cases hr:r.sh
  ·rw [Qnm hr h]
   (unfold Tryz.f266; refine rn trivial ?_)
   have F:=@hr
   refine rn F ?_
   repeat' (first
    | with_reducible exact ⟨⟩
    | refine vp F (c1) ?_
    | (refine Qd (id:=1) [0,1,2,3,4,5,6,7,8] [⟨[],[],9,[0,1,2,4,5,6],[10,11,12]⟩,⟨[],[],13,[12],[]⟩,⟨[],[],14,[],[]⟩] (by kernel_rfl) (by kernel_rfl) ?_; refine rn F ?_))
   all_goals exact ⟨_,rfl,rfl,rfl,rfl,rfl,rfl⟩
  ·rw [Qhg (.inl hr)]
   (unfold Tryz.f266; refine rn trivial ?_)
   have F:=@hr
   refine rn F ?_
   repeat' (first
    | with_reducible exact ⟨⟩
    | refine vp F (c1) ?_
    | (refine Qd (id:=1) [0,1,2,3,4,5,6,7,8] [⟨[],[],9,[0,1,2,4,5,6],[10,11,12]⟩,⟨[],[],13,[12],[]⟩,⟨[],[],14,[],[]⟩] (by kernel_rfl) (by kernel_rfl) ?_; refine rn F ?_))
   all_goals exact ⟨_,rfl,rfl,rfl,rfl,rfl,(by first | rfl | simp only [rbQ,hr])⟩
 ·have c1:=QdK s r.at_ k (by omega) (by omega) (by omega)
  rw [Qhg (.inr h)]
  (unfold Tryz.f266; refine rn trivial ?_)
  have F:=trivial
  refine rn F ?_
  repeat' (first
   | with_reducible exact ⟨⟩
   | (refine sG F ?_ ?_<;>intro hZ)
   | refine vp F (c1) ?_
   | (refine Qd (id:=1) [0,1,2,3,4,5,6,7,8] [⟨[],[],9,[0,1,2,4,5,6],[10,11,12]⟩,⟨[],[],13,[12],[]⟩,⟨[],[],14,[],[]⟩] (by kernel_rfl) (by kernel_rfl) ?_; refine rn F ?_))
  all_goals exact ⟨_,rfl,rfl,rfl,rfl,rfl,rfl⟩
structure LSrnum (s:List UInt8) (fin:List Int × RQ s) where
 n:Int
 out:List Int
 r:RQ s
 hn : -9223372036854775808<=n/\n<=9223372036854775807
 ho:4 * out.length<=r.lim
 he:rdN s n.toNat out r = fin
def Qzb (s:List UInt8) (hs:s.length<=3000000) (k:Nat) (h1:1<=k) (h8:k<=8) (r:RQ s):VCalls prog 267 [.ptr 0 0,.int .i64 k] [rbQ 355 s r] (RY 355 s (lb (Qf8 s k r).1) (Qf8 s k r).2):=by
 refine dd Tryz.func267 ?_
 (unfold Tryz.f267; refine rn trivial ?_)
 refine Qjg (k:=0) (Qeb s hs k h1 h8 r) rfl rfl ?_
 refine rn trivial ?_
 refine VLoop.nilOwn 5 3 1 rfl ?_
 refine Qg (fun t:LSrnum s (Qf8 s k r)=>⟨27,1,[(6,.int .i64 t.n),(5,.own 1 1 0 t.out.length),(0,.ptr 0 0)],[rbQ 355 s t.r,⟨3,true,cells QW t.out⟩]⟩) (fun t=>t.n.toNat) ⟨(Qcn s k r).1,[],(Qcn s k r).2,Qos r,Jd _,rfl⟩ (gc [0,1]) ?_
 rintro ⟨n,out,q,hn,ho,he⟩
 dsimp only
 have hl:=q.lim_le
 have hl1:out.length + 1<=1000000:=by omega
 have hb:(out.length + 1) * 8<=140737488355328:=by omega
 obtain ⟨a,sh,ha⟩:=q
 cases sh
 ·by_cases h0:0 < n
  ·have e:n.toNat = (n - 1).toNat + 1:=by omega
   rw [e,rdN,if_neg (by simp)] at he
   have hm:=Qhh (k:=8) (by omega) (⟨a,false,ha⟩:RQ s) rfl
   have F:=(Ja @h0 (Ja @Qgb @hb))
   refine rn F ?_
   refine Qjg (k:=0) (Qeb s hs 8 (by omega) (by omega) ⟨a,false,ha⟩) rfl rfl ?_
   have F:=(Ja @Qgb @hb)
   refine rn F ?_
   refine ⟨⟨n - 1,_,_,by omega,by simp; omega,he⟩,by show (n - 1).toNat < n.toNat; omega,?_⟩
   dsimp only
   rw [Jc]
   exact (gc [0,3])
  ·have e:n.toNat = 0:=by omega
   rw [e,rdN] at he
   have F:=(Ja @Qgb @hb)
   (refine rn F ?_; try with_reducible exact ⟨⟩)
   all_goals exact ⟨_,rfl,rfl,rfl,rfl,(by rw [<- he]; try rfl),(by rw [<- he]; try rfl)⟩
 ·rw [QEa rfl] at he
  have F:=(Ja @Qgb @hb)
  refine rn F ?_
  repeat' (first
   | with_reducible exact ⟨⟩
   | (refine sG F ?_ ?_<;>intro hZ))
  all_goals exact ⟨_,rfl,rfl,rfl,rfl,(by rw [<- he]; try rfl),(by rw [<- he]; try rfl)⟩
structure DTrnum (s:List UInt8) where
 n:Int
 out:List Tx
 r:RQ s
 hn : -9223372036854775808<=n/\n<=9223372036854775807
 ho:4 * out.length<=r.lim
 he:rdT s n.toNat out r = rdA s
def QpG (s:List UInt8) (hs:s.length<=3000000):VCalls prog 264 [.pv (.str s)] [] (Ret (QDd (QE0 s))):=by
 refine VCalls.unwk ?_
 refine dd Tryz.func264 ?_
 (unfold Tryz.f264; refine rn trivial ?_)
 refine Qjg (k:=0) (Qeb s hs 2 (by omega) (by omega) (rq0 s)) rfl rfl ?_
 refine rn trivial ?_
 refine VLoop.nilOwn 5 215 6 rfl ?_
 refine Qg (fun t:DTrnum s=>⟨64,0,[(6,.int .i64 t.n),(5,.own 1 6 0 t.out.length),(4,.ptr 0 0),(0,.pv (.str s))],[rbQ 355 s t.r,⟨215,true,cells Qat t.out⟩]⟩) (fun t=>t.n.toNat) ⟨(Qcn s 2 (rq0 s)).1,[],(Qcn s 2 (rq0 s)).2,Qos _,Jd _,rfl⟩ (gc [0,1]) ?_
 rintro ⟨n,out,q,hn,ho,he⟩
 dsimp only
 have hl:=q.lim_le
 have hb:(out.length + 1) * 80<=140737488355328:=by omega
 have hsm:=QEb hs
 have ed:QE0 s = if (rdA s).2.sh = true then ([],5) else if ((rdA s).2.at_:Int) ≠ s.length then ([],4) else if Qd7 (rdA s).1 = false then ([],15) else ((rdA s).1,0):=rfl
 obtain ⟨a,sh,ha⟩:=q
 cases sh
 ·by_cases h0:0 < n
  ·have e:n.toNat = (n - 1).toNat + 1:=by omega
   rw [e,rdT,if_neg (by simp)] at he
   have hm:=QnV (⟨a,false,ha⟩:RQ s) rfl
   simp only [txS] at he hm
   have cA:=Qeb s hs 4 (by omega) (by omega) ⟨a,false,ha⟩
   generalize Qcn s 4 ⟨a,false,ha⟩ = A at cA he hm
   have cB:=Qeb s hs 1 (by omega) (by omega) A.2
   generalize Qcn s 1 A.2 = B at cB he hm
   have cC:=Qeb s hs 8 (by omega) (by omega) B.2
   generalize Qcn s 8 B.2 = C at cC he hm
   have cD:=Qeb s hs 8 (by omega) (by omega) C.2
   generalize Qcn s 8 C.2 = D at cD he hm
   have cE:=Qzb s hs 2 (by omega) (by omega) D.2
   generalize Qf8 s 2 D.2 = E at cE he hm
   have cF:=Qzb s hs 1 (by omega) (by omega) E.2
   generalize Qf8 s 1 E.2 = W at cF he hm
   have F:=(Ja @h0 (Ja @Qga @hb))
   refine rn F ?_
   refine Qjg (k:=0) cA rfl rfl ?_
   have F:=(Ja @h0 (Ja @Qga @hb))
   refine rn F ?_
   refine Qjg (k:=0) cB rfl rfl ?_
   have F:=(Ja @h0 (Ja @Qga @hb))
   refine rn F ?_
   refine Qjg (k:=0) cC rfl rfl ?_
   have F:=(Ja @h0 (Ja @Qga @hb))
   refine rn F ?_
   refine Qjg (k:=0) cD rfl rfl ?_
   have F:=(Ja @h0 (Ja @Qga @hb))
   refine rn F ?_
   refine Qjg (k:=0) cE rfl rfl ?_
   have F:=(Ja @h0 (Ja @Qga @hb))
   refine rn F ?_
   refine Qjg (k:=0) cF rfl rfl ?_
   have F:=(Ja @h0 (Ja @Qga @hb))
   refine rn F ?_
   refine ⟨⟨n - 1,_,_,by omega,by simp; omega,he⟩,by show (n - 1).toNat < n.toNat; omega,?_⟩
   dsimp only
   have e2:cells Qat out ++ [.pv (.lit (.int .i64 A.1)),.pv (.lit (.int .i64 B.1)),.pv (.lit (.int .i64 C.1)),.pv (.lit (.int .i64 D.1)),.pv (.sl (fz QW E.1)),.pv (.sl (fz QW W.1))] = cells Qat (out ++ [⟨A.1,B.1,C.1,D.1,E.1,W.1⟩]):=Qga out ⟨A.1,B.1,C.1,D.1,E.1,W.1⟩
   rw [Jc]
   rw [e2]
   exact (gc [0,4])
  ·have e:n.toNat = 0:=by omega
   rw [e,rdT] at he
   rw [<- he] at ed hsm
   have c1:=QbL out hsm
   rw [ed]
   by_cases h1:(a:Int) = s.length
   ·cases hv:Qd7 out
    ·rw [hv] at c1
     dsimp only
     rw [if_neg (by simp),if_neg (by simpa using h1),if_pos (by first | rfl | exact hv)]
     have F:=(Ja @h0 (Ja @h1 @hb))
     refine rn F ?_
     repeat' (first
      | with_reducible exact ⟨⟩
      | refine vl F (c1) ?_)
     all_goals first | rfl | contradiction
    ·rw [hv] at c1
     dsimp only
     rw [if_neg (by simp),if_neg (by simpa using h1),if_neg (by first | simp; done | (rw [hv]; simp))]
     have F:=(Ja @h0 (Ja @h1 @hb))
     refine rn F ?_
     repeat' (first
      | with_reducible exact ⟨⟩
      | refine vl F (c1) ?_)
     all_goals first | rfl | contradiction
   ·dsimp only
    rw [if_neg (by simp),if_pos (by simpa using h1)]
    have F:=(Ja @h0 (Ja @h1 @hb))
    (refine rn F ?_; try with_reducible exact ⟨⟩)
    all_goals first | rfl | contradiction
 ·rw [QD9 rfl] at he
  rw [<- he] at ed
  rw [ed]
  dsimp only
  rw [if_pos rfl]
  have F:=@hb
  refine rn F ?_
  repeat' (first
   | with_reducible exact ⟨⟩
   | (refine sG F ?_ ?_<;>intro hZ))
  all_goals first | rfl | contradiction
end
section
attribute [local go_sem] Qbj
structure Sv where
 k:Kn
 v:Dv
@[go_sem] def Sv.d (s:Sv):List DV:=[.int .i64 s.k.pg,.int .i64 s.k.nx,.int .i64 s.k.lg.f,.pv (.sl (fz encE s.k.lg.es)),.int .i64 s.k.lg.d,.int .i64 s.k.pl.size,.pv (.sl (fz QcC s.k.pl.fs)),.int .i64 s.k.pl.hand,.pv (.sl (fz Qaz s.k.lk.held)),.pv (.sl (fz Qaz s.k.lk.wait)),.pv (.sl (fz Qat s.k.tx)),.pv (.sl (fz Qce s.k.ix)),.pv (.sl (fz QdQ s.k.la)),.pv (.sl (fz QdR s.v.ps)),.int .i64 s.v.wr,.pv (.sl []),.bool s.v.dead,.pv (.sl [])]
def Sv0:Sv:=⟨Kn0,Dv0⟩
def Sv.sm (s:Sv):Prop:=s.k.sm/\s.v.ps.length<=64
def Qdw:Sv0.sm:=⟨Qb3,Jd _⟩
@[go_sem] def svD (a:Sv × Int):DV:=.tup [.agg a.1.d,.int .i64 a.2]
def Zv:List DV:=[.int .i64 0,.int .i64 0,.int .i64 0,.pv (.slc []),.int .i64 0,.int .i64 0,.pv (.slc []),.int .i64 0,.pv (.slc []),.pv (.slc []),.pv (.slc []),.pv (.slc []),.pv (.slc []),.pv (.slc []),.int .i64 0,.pv (.slc []),.bool false,.pv (.slc [])]
def QDl (k:Kn) (x:Pg) (a:Sv × Int):Prop:=a.1.sm/\(a.2 = 0->Ev k.lg a.1.k.lg/\a.1.k.tx = k.tx/\(0<=Qbw k.pl x.id->a.1.k.pl = (Qb2 k.pl x.id x.lsn).1/\(Qb2 k.pl x.id x.lsn).2 = 0))
def Qn4 (s:Sv) (hs:s.v.ps.length<=64) (k:Kn) (hk:k.sm) (x:Pg):VCalls prog 103 [.agg s.d,.agg k.d,.agg x.d] [] (QI svD (QDl k x)):=by
 refine dk Tryz.func103 ?_
 have c1:=QmZ x
 have c2:=fun (t:List UInt8) (h:t.length<=256)=>Qtc s.v (by omega) x.id t (by omega)
 have c3:=QpC k hk x.id x.lsn
 (unfold Tryz.f103; refine rn trivial ?_)
 refine rn F ?_
 repeat' (first
  | with_reducible exact ⟨⟩
  | (refine sB F ?_ ?_<;>intro hZ)
  | (refine Ql (c1) rfl ?_; rintro ⟨t,e1⟩ ht; refine rn F ?_)
  | (refine Ql (c2 t ht) rfl ?_; rintro ⟨v1,e2⟩ hv; refine rn F ?_)
  | (refine Ql (c3) rfl ?_; rintro ⟨k1,e3⟩ hq; refine rn F ?_))
 all_goals first
  | exact ⟨rfl,rfl,(Sv0,e2),rfl,Qdw,fun h=>absurd h (by assumption)⟩
  | exact ⟨rfl,rfl,(Sv0,e3),rfl,Qdw,fun h=>absurd h (by assumption)⟩
  | (have q:=hq.2 (by dsimp only; omega)
     exact ⟨rfl,rfl,(⟨k1,v1⟩,0),rfl,⟨hq.1,hv⟩,fun _=>⟨q.2.1,q.2.2.1,q.2.2.2.1⟩⟩)
  | skip
def Qdp (l:List Fm):Nat:=l.countP (·.dirty)
def QiQ (l:List Fm):Qdp (l.map Fm.clr) = Qdp l:=by
 unfold Qdp; rw [List.countP_map]; rfl
def SameF.dirty (h:SameF l m):Qdp m = Qdp l:=by
 rw [<- QiQ m,<- QiQ l,show m.map Fm.clr = l.map Fm.clr from h]
def Qqo (l:List Fm) (i:Nat) (h:i < l.length) (hu:(l.getD i Fm0).dirty = true) (f:Fm) (hf:f.dirty = false):Qdp (l.set i f) < Qdp l:=by
 unfold Qdp
 rw [List.countP_set h]
 rw [Qm l i h] at hu
 have:0 < l.countP (·.dirty):=JG.2 ⟨l[i],JR h,hu⟩
 simp only [hu,hf,if_true]
 simp
 omega
def QqC (hp:plB p = true) (hi:i < p.fs.length) (h1:idF p.fs x.id = i) (h2:(p.fs.getD i Fm0).pg = x) (h3:(p.fs.getD i Fm0).dirty = true):Qdp (Qb2 p x.id x.lsn).1.fs < Qdp p.fs:=by
 unfold Qb2
 rw [if_neg (by rw [hp]; decide),h1,if_neg (by omega),JE,h2,if_neg (by omega),if_neg (by rw [h3]; decide)]
 refine Qqo _ _ hi h3 _ ?_
 unfold QfR
 rw [h2,if_pos rfl]
def stQ (s:Sv) (a:Sv × Int):Prop:=a.1.sm/\(a.2 = 0->Ev s.k.lg a.1.k.lg/\a.1.k.tx = s.k.tx)
structure Rm (s0:Sv) where
 s:Sv
 sm:s.sm
 ev:Ev s0.k.lg s.k.lg
 tx:s.k.tx = s0.k.tx
def QwN (s:Sv) (hs:s.sm):VCalls prog 137 [.agg s.d] [] (QI svD (stQ s)):=by
 refine dk Tryz.func137 ?_
 (unfold Tryz.f137; refine rn trivial ?_)
 refine Qg (fun r:Rm s=>⟨36,0,[(2,.ptr 1 0),(1,.ptr 0 0)],[⟨82,true,r.s.d⟩,⟨82,true,Zv⟩]⟩) (fun r=>Qdp r.s.k.pl.fs) ⟨s,hs,Ev.refl _,rfl⟩ (gc [0,1]) ?_
 rintro ⟨s1,sm,ev,tx⟩
 dsimp only
 have c1:=QAV s1.k sm.1
 have c2:=fun k hk x=>Qn4 s1 sm.2 k hk x
 unfold Zv
 refine rn F ?_
 repeat' (first
  | with_reducible exact ⟨⟩
  | (refine sB F ?_ ?_<;>intro hZ)
  | (refine Ql (c1) rfl ?_; rintro ⟨k1,x,b,e⟩ hq; refine rn F ?_)
  | (refine Ql (c2 k1 hq.1 x) rfl ?_; rintro ⟨s2,e2⟩ hq2; refine rn F ?_))
 ·exact ⟨rfl,rfl,(Sv0,e),rfl,Qdw,fun h=>absurd h (by assumption)⟩
 ·have q:=hq.2 (by dsimp only; omega)
  exact ⟨rfl,rfl,(⟨k1,s1.v⟩,0),rfl,⟨hq.1,sm.2⟩,fun _=>⟨ev.trans q.1,q.2.1.trans tx⟩⟩
 ·exact ⟨rfl,rfl,(Sv0,e2),rfl,Qdw,fun h=>absurd h (by assumption)⟩
 ·have q:=hq.2 (by dsimp only; omega)
  have q2:=hq2.2 (by dsimp only; omega)
  obtain ⟨p1,p2,i,p3,p4,p5,p6⟩:=q.2.2 (by dsimp only; first | assumption | simp_all)
  dsimp only at p1 p2 p3 p4 p5 p6
  have hf:Qbw k1.pl x.id = i:=by unfold Qbw; rw [if_pos p1]; exact p4
  obtain ⟨r1,r2⟩:=q2.2.2 (by rw [hf]; omega)
  have hlt:=QqC p1 p3 p4 p5 p6
  rw [p2.dirty] at hlt
  dsimp only at r1
  exact ⟨⟨s2,hq2.1,(ev.trans q.1).trans q2.1,q2.2.1.trans (q.2.1.trans tx)⟩,by dsimp only; rw [r1]; exact hlt,(gc [0,1])⟩
def Qzu (s:Sv) (n:Int) (a:Sv × Int):Prop:=a.1.sm/\(a.2 = 0->Ev s.k.lg a.1.k.lg/\a.1.k.tx = s.k.tx/\0<=idF a.1.k.pl.fs n)
def QeG (s:Sv) (hs:s.sm) (n:Int):VCalls prog 108 [.agg s.d,.int .i64 n] [] (QI svD (Qzu s n)):=by
 refine dk Tryz.func108 ?_
 have c1:=Q0 s.k hs.1
 have c2:=QcH s.k.pl (Jf hs.1.2.1 (by decide)) n
 have c3:=QwN s hs
 have c4:=fun (t:Sv) (h:t.sm)=>Qxc t.v (Jf h.2 (by decide)) n
 have c5:=fun (t:Sv) (h:t.sm)=>Qm3 t.k h.1 n
 have c6:=fun (t:Sv) (h:t.sm) (hd:Int) (b:List UInt8) (hb:b.length<=1000000)=>Qw2 t.k.ix h.1.2.2.2.2.1 n hd b hb
 have c7:=fun (t:Sv) (h:t.sm) (p:Pg) (hd:Int)=>QAW t.k.lg h.1.1 p hd
 have c8:=fun (t:Sv) (h:t.sm) (p:Pg)=>QsA t.k h.1 p
 have hfi:0<=Qbw s.k.pl n->0<=idF s.k.pl.fs n:=fun h=>by unfold Qbw at h; split at h<;>omega
 have e0:∀ e,e ≠ 0->Qzu s n (Sv0,e):=fun e h=>⟨Qdw,fun h2=>absurd h2 h⟩
 generalize Qbw s.k.pl n = fi at *
 (unfold Tryz.f108; refine rn trivial ?_)
 refine rn F ?_
 repeat' (first
  | with_reducible exact ⟨⟩
  | (refine sG F ?_ ?_<;>intro hZ)
  | (refine sB F ?_ ?_<;>intro hZ)
  | (refine Ql (c1) rfl ?_; rintro b -; refine rn F ?_)
  | refine vp F (c2) ?_
  | (refine Ql (c3) rfl ?_; rintro ⟨s1,e1⟩ hq1; refine rn F ?_)
  | (refine Ql (c4 s1 hq1.1) rfl ?_; rintro ⟨t,e2⟩ ht; refine rn F ?_)
  | (refine Ql (c5 s1 hq1.1) rfl ?_; rintro hd -; refine rn F ?_)
  | (refine Ql (c6 s1 hq1.1 hd t (by have:=ht (by dsimp only; omega); dsimp only at this; omega)) rfl ?_; rintro ⟨p,e3⟩ hp; refine rn F ?_)
  | (refine Ql (c7 s1 hq1.1 p hd) rfl ?_; rintro ⟨p2,e4⟩ hp2; refine rn F ?_)
  | (refine Ql (c8 s1 hq1.1 p2) rfl ?_; rintro ⟨k2,e5⟩ hq5; refine rn F ?_))
 all_goals first
  | exact ⟨rfl,rfl,(s,0),rfl,hs,fun _=>⟨Ev.refl _,rfl,hfi (by omega)⟩⟩
  | exact ⟨rfl,rfl,(Sv0,_),rfl,e0 _ (by assumption)⟩
  | exact ⟨rfl,rfl,(Sv0,15),rfl,e0 _ (by decide)⟩
  | exact ⟨rfl,rfl,(Sv0,1),rfl,e0 _ (by decide)⟩
  | (have q1:=hq1.2 (by dsimp only; omega)
     have q5:=hq5.2 (by dsimp only; omega)
     have i3:=hp (by dsimp only; omega)
     have i4:=hp2 (by dsimp only; omega)
     dsimp only at q1 q5 i3 i4
     exact ⟨rfl,rfl,(⟨k2,s1.v⟩,0),rfl,⟨hq5.1,hq1.1.2⟩,fun _=>⟨by dsimp only; rw [q5.1]; exact q1.1,q5.2.1.trans q1.2,by dsimp only; have:=q5.2.2; rw [i4,i3] at this; exact this⟩⟩)
  | skip
end
section
attribute [local go_sem] Qbj
@[go_sem] def tiD (a:Tx × Int):DV:=.tup [.agg a.1.d,.int .i64 a.2]
@[go_sem] def ebD (a:E × Bool):DV:=.tup [.agg a.1.d,.bool a.2]
def QAs (l:List Tx) (a:Int):Tx:=l.getD (idT l a).toNat Tx0
def QDZ (k:Kn) (tx:Int) (a:Tx × Int):Prop:=a.1.l.length<=100000/\(a.2 = 0->VK k/\0<=idT k.tx tx/\a.1 = QAs k.tx tx)
def QdH (k:Kn) (h:k.sm) (tx:Int):VCalls prog 144 [.agg k.d,.int .i64 tx] [] (QI tiD (QDZ k tx)):=by
 refine dk Tryz.func144 ?_
 have c1:=Q0 k h
 obtain ⟨h1,h2,h3,h4,h5,h6⟩:=h
 have c2:=Qb6 k.tx (Jf h4.1 (by decide)) tx
 have e0:∀ e,e ≠ 0->QDZ k tx (Tx0,e):=fun e h=>⟨by simp [Tx0],fun h2=>absurd h2 h⟩
 rcases Qak k.tx tx with hn | ⟨i,hil,hid,_⟩
 ·rw [hn] at c2
  (unfold Tryz.f144; refine rn trivial ?_)
  refine rn F ?_
  repeat' (first
   | with_reducible exact ⟨⟩
   | (refine sB F ?_ ?_<;>intro hZ)
   | (refine Ql (c1) rfl ?_; rintro b -; refine rn F ?_)
   | refine vp F (c2) ?_)
  all_goals exact ⟨rfl,rfl,(Tx0,_),rfl,e0 _ (by decide)⟩
 rw [hid] at c2
 have hg:=Qej k.tx i hil
 have ht:(k.tx.getD i Tx0).l.length<=100000:=by rw [Qm _ _ hil]; exact (h4.2 _ (JR hil)).1
 have he:QAs k.tx tx = k.tx.getD i Tx0:=by unfold QAs; rw [hid]; rfl
 (unfold Tryz.f144; refine rn trivial ?_)
 have F:=@hg
 refine rn F ?_
 repeat' (first
  | with_reducible exact ⟨⟩
  | (refine sB F ?_ ?_<;>intro hZ)
  | (refine Ql (c1) rfl ?_; rintro b hb; refine rn F ?_)
  | refine vp F (c2) ?_)
 all_goals first
  | exact ⟨rfl,rfl,(k.tx.getD i Tx0,0),rfl,ht,fun _=>⟨hb (by assumption),by omega,he.symm⟩⟩
  | exact ⟨rfl,rfl,(Tx0,15),rfl,e0 _ (by decide)⟩
  | exact ⟨rfl,rfl,(Tx0,16),rfl,e0 _ (by decide)⟩
  | skip
def Qp0 (l:List Tx) (a:Int):Int:=(QAs l a).l.getD ((QAs l a).l.length - 1) 0
def QjK (l:List Tx) (g:Lg) (a:Int):E:=(QfN g (Qp0 l a)).1
def QEu (k:Kn) (tx:Int) (a:E × Bool):Prop:=a.2 = true->VK k/\a.1 = QjK k.tx k.lg tx/\(QfN k.lg (Qp0 k.tx tx)).2 = 0
def QA7 (k:Kn) (h:k.sm) (tx:Int):VCalls prog 146 [.agg k.d,.int .i64 tx] [] (QI ebD (QEu k tx)):=by
 refine dk Tryz.func146 ?_
 have c1:=QdH k h tx
 obtain ⟨h1,h2,h3,h4,h5,h6⟩:=h
 have c2:=QiF k.lg (by omega)
 have e0:QEu k tx (E0,false):=fun h=>by cases h
 (unfold Tryz.f146; refine rn trivial ?_)
 refine Ql c1 rfl ?_
 rintro ⟨t,e⟩ ⟨ht,hq⟩
 dsimp only at ht hq
 have hg:=fun h:t.l.length - 1 < t.l.length=>Qae t.l (t.l.length - 1) h
 have F:=@hg
 refine rn F ?_
 repeat' (first
  | with_reducible exact ⟨⟩
  | (refine sG F ?_ ?_<;>intro hZ)
  | (refine sB F ?_ ?_<;>intro hZ)
  | refine vp F (c2 _) ?_
  | (refine Qd (id:=2) [0,1,2,3,4,5,6,7,8,9,10,11,12,13,14,15,16,17,18,19,20] [] (by kernel_rfl) (by kernel_rfl) ?_; refine rn F ?_)
  | (refine Qd (id:=4) [0,1,2,3,4,5,6,7,8,9] [⟨[14],[],10,[0,2,3,4,5,6,7,8],[11,12,13]⟩,⟨[14],[14],15,[13],[]⟩,⟨[],[],16,[],[]⟩] (by kernel_rfl) (by kernel_rfl) ?_; refine rn F ?_))
 all_goals first
  | exact ⟨rfl,rfl,(E0,false),rfl,e0⟩
  | skip
 obtain ⟨v,_,rfl⟩:=hq (by first | omega | simp_all)
 exact ⟨rfl,rfl,((QfN k.lg (Qp0 k.tx tx)).1,_),rfl,fun h=>⟨v,rfl,by simpa [Qp0] using h⟩⟩
def QFX (k:Kn) (h:k.sm) (t:Tx) (ht:t.l.length<=100000) (pg sl:Int):VCalls prog 241 [.agg k.d,.agg t.d,.agg [.int .i64 pg,.int .i64 sl],.int .i64 t.l.length] [] (QI ebD fun a=>a.2 = true->a.1.c.pg = pg):=by
 refine dk Tryz.func241 ?_
 obtain ⟨h1,h2,h3,h4,h5,h6⟩:=h
 have c2:=QiF k.lg (by omega)
 (unfold Tryz.f241; refine rn trivial ?_)
 refine Qg (fun s:To t.l.length=>⟨50,0,[(10,.int .i64 ((s.i:Int) - 1)),(8,.ptr 3 0),(6,.ptr 2 0),(5,.ptr 1 0),(4,.ptr 0 0)],[⟨45,true,k.d⟩,⟨215,true,t.d⟩,⟨102,true,[.int .i64 pg,.int .i64 sl]⟩,⟨73,true,E0.d⟩]⟩) (fun s=>s.i) ⟨t.l.length,JA _⟩ (gc [0,1,2,3]) ?_
 rintro ⟨i,hi⟩
 dsimp only
 have hg:=fun h:i - 1 < t.l.length=>Qae t.l (i - 1) h
 have c3:=c2 (t.l.getD (i - 1) 0)
 generalize QfN k.lg (t.l.getD (i - 1) 0) = g at *
 have F:=@hg
 refine rn F ?_
 repeat' (first
  | with_reducible exact ⟨⟩
  | (refine sG F ?_ ?_<;>intro hZ)
  | (refine sB F ?_ ?_<;>intro hZ)
  | refine vp F (c3) ?_
  | (refine Qd (id:=4) [0,1,2,3,4,5,6] [⟨[11],[],7,[0,2,3,4,5],[8,9,10]⟩,⟨[11],[11],12,[10],[]⟩,⟨[],[],13,[],[]⟩] (by kernel_rfl) (by kernel_rfl) ?_; refine rn F ?_))
 all_goals first
  | exact ⟨rfl,rfl,(E0,false),rfl,fun h=>by cases h⟩
  | exact ⟨rfl,rfl,(g.1,true),rfl,fun _=>by dsimp only; omega⟩
  | (refine ⟨⟨i - 1,by omega⟩,by dsimp only; omega,?_⟩
     dsimp only
     rw [show ((i - 1:Nat):Int) - 1 = (i:Int) - 1 - 1 by omega]
     exact (gc [0,1,2,3]))
  | skip
def Qk6 (k:Kn) (h:k.sm) (tx pg sl:Int):VCalls prog 195 [.agg k.d,.int .i64 tx,.agg [.int .i64 pg,.int .i64 sl]] [] (QI ebD fun a=>a.2 = true->a.1.c.pg = pg):=by
 refine dk Tryz.func195 ?_
 have c1:=QdH k h tx
 (unfold Tryz.f195; refine rn trivial ?_)
 refine Ql c1 rfl ?_
 rintro ⟨t,e⟩ ⟨ht,hq⟩
 have c2:=QFX k h t ht
 refine rn F ?_
 repeat' (first
  | with_reducible exact ⟨⟩
  | (refine sG F ?_ ?_<;>intro hZ)
  | (refine sB F ?_ ?_<;>intro hZ)
  | (refine Ql (c2 _ _) rfl ?_; rintro ⟨y,b⟩ hb; refine rn F ?_))
 all_goals first
  | exact ⟨rfl,rfl,(E0,false),rfl,fun h=>by cases h⟩
  | exact ⟨rfl,rfl,(y,b),rfl,hb⟩
  | skip
def QDC (k:Kn) (pg:Int) (a:Kn × Rs):Prop:=a.1.sm/\Ev k.lg a.1.lg/\(a.2.st = 3->a.1 = k/\a.2.pg = pg/\idF k.pl.fs pg < 0)/\(a.2.st ≠ 3->a.2.st ≠ 5->k.lg.es.length < a.1.lg.es.length)/\(a.2.st = 5->a.2.er ≠ 0)
def Qsu (k:Kn) (h:k.sm) (hv:VK k) (t:Tx) (e:E):VCalls prog 147 [.agg k.d,.agg t.d,.agg e.d] [] (QI krD (QDC k e.c.pg)):=by
 refine dk Tryz.func147 ?_
 have h':=h
 obtain ⟨h1,h2,h3,h4,h5,h6⟩:=h
 have c1:=Qg2 k.pl (by omega) e.c.pg
 have hn:=Qus (a:=e.c.pg) hv.2.2.2.1
 have c2:=Qzc e.c
 generalize QoI k.pl e.c.pg = g at *
 have c3:=Qk4 g.1 ⟨e.c.pg,e.c.sl,e.c.a,e.c.b⟩
 have c4:=Qy8 k h' ⟨0,2,t.id,0,0,e.lsn,⟨e.c.pg,e.c.sl,e.c.a,e.c.b⟩,[]⟩ (.inr rfl)
 have hf:∀ er,er ≠ 0->QDC k e.c.pg (k,QaR er):=fun er hr=>⟨h',Ev.refl _,fun h=>by simp [QaR] at h,fun _ h=>absurd rfl h,fun _=>hr⟩
 (unfold Tryz.f147; refine rn trivial ?_)
 refine rn F ?_
 repeat' (first
  | with_reducible exact ⟨⟩
  | (refine sB F ?_ ?_<;>intro hZ)
  | refine vp F (c1) ?_
  | refine vp F (c2) ?_
  | (refine Ql (c3) rfl ?_; rintro ⟨p1,e1⟩ -; refine rn F ?_)
  | (refine Ql (c4) rfl ?_; rintro ⟨k1,e2⟩ hq; refine rn F ?_)
  | refine vp F (Qap _) ?_
  | (refine Ql (Qk6 k1 hq.1 _ _ _) rfl ?_; rintro ⟨y,b⟩ -; refine rn F ?_)
  | (refine Ql (Qte k1.lk (Jf hq.1.2.2.1 (by decide)) _ _ _) rfl ?_; rintro u hu; refine rn F ?_)
  | (refine Qd (id:=3) [0,1,2,3,4] [⟨[],[],5,[1,2,3,4],[]⟩,⟨[],[],6,[],[]⟩] (by kernel_rfl) (by kernel_rfl) ?_; refine rn F ?_)
  | (refine Qd (id:=7) [0,1] [⟨[],[],2,[0],[]⟩,⟨[],[],3,[1],[]⟩,⟨[],[],4,[],[]⟩] (by kernel_rfl) (by kernel_rfl) ?_; refine rn F ?_)
  | (refine Qd (id:=10) [0,1] [⟨[],[],2,[0],[]⟩,⟨[],[],3,[1],[]⟩,⟨[],[],4,[],[]⟩] (by kernel_rfl) (by kernel_rfl) ?_; refine rn F ?_)
  | (refine Qd (id:=16) [0,1,2,3] [⟨[],[],4,[1,2,3],[]⟩,⟨[],[],5,[],[]⟩] (by kernel_rfl) (by kernel_rfl) ?_; refine rn F ?_))
 all_goals first
  | exact ⟨rfl,rfl,(k,⟨3,0,e.c.pg,Ce0,0⟩),rfl,h',Ev.refl _,fun _=>⟨rfl,rfl,hn (by first | assumption | simp_all)⟩,fun h=>absurd rfl h,fun h=>by simp at h⟩
  | exact ⟨rfl,rfl,(k,QaR _),rfl,hf _ (by assumption)⟩
  | (have q:=hq.2.1 (by dsimp only; omega)
     dsimp only at q
     first
      | exact ⟨rfl,rfl,(k1,⟨1,t.id,0,Ce0,0⟩),rfl,hq.1,q.1,fun h=>by simp at h,fun _ _=>by dsimp only; omega,fun h=>by simp at h⟩
      | (obtain ⟨r1,r2,r3,r4,r5,r6⟩:=hq.1
         exact ⟨rfl,rfl,(⟨k1.pg,k1.nx,k1.lg,k1.pl,u,k1.tx,k1.ix,k1.la⟩,⟨1,t.id,0,Ce0,0⟩),rfl,⟨r1,r2,Jf hu r3,r4,r5,r6⟩,q.1,fun h=>by simp at h,fun _ _=>by dsimp only; omega,fun h=>by simp at h⟩))
  | skip
end
section
attribute [local go_sem] Qbj
def QDM (k:Kn) (tx:Int) (a:Kn × Rs):Prop:=a.1.sm/\Ev k.lg a.1.lg/\(a.2.st = 3->VK k/\a.1 = k/\a.2.pg = (QjK k.tx k.lg tx).c.pg/\(QfN k.lg (Qp0 k.tx tx)).2 = 0/\idF k.pl.fs a.2.pg < 0)/\(a.2.st ≠ 3->a.2.st ≠ 5->k.lg.es.length < a.1.lg.es.length)/\(a.2.st = 5->a.2.er ≠ 0)
def QsB (k:Kn) (h:k.sm) (tx:Int):VCalls prog 110 [.agg k.d,.int .i64 tx] [] (QI krD (QDM k tx)):=by
 refine dk Tryz.func110 ?_
 have c1:=QdH k h tx
 have c2:=Qec k h ⟨0,5,tx,0,0,0,Ch0,[]⟩
 have c3:=QA7 k h tx
 have hf:∀ er,er ≠ 0->QDM k tx (k,QaR er):=fun er hr=>⟨h,Ev.refl _,fun h=>by simp [QaR] at h,fun _ h=>absurd rfl h,fun _=>hr⟩
 (unfold Tryz.f110; refine rn trivial ?_)
 refine Ql c1 rfl ?_
 rintro ⟨t,e⟩ ⟨ht,hq0⟩
 by_cases he:e = 0
 rotate_left
 ·skip
  have F:=@he
  refine rn F ?_
  repeat' (first
   | with_reducible exact ⟨⟩
   | refine vp F (Qap _) ?_
   | (refine Qd (id:=3) [0,1] [⟨[],[],2,[0],[]⟩,⟨[],[],3,[1],[]⟩,⟨[],[],4,[],[]⟩] (by kernel_rfl) (by kernel_rfl) ?_; refine rn F ?_))
  exact ⟨rfl,rfl,(k,QaR e),rfl,hf _ he⟩
 obtain ⟨hv,hi,rfl⟩:=hq0 he
 subst he
 generalize QAs k.tx tx = t at *
 have F:=trivial
 refine rn F ?_
 repeat' (first
  | with_reducible exact ⟨⟩
  | (refine sG F ?_ ?_<;>intro hZ)
  | (refine sB F ?_ ?_<;>intro hZ)
  | (refine Ql (c2) rfl ?_; rintro ⟨k1,n1,e1⟩ hq; refine rn F ?_)
  | refine vp F (Qap _) ?_
  | (refine Ql (QdI k1.lk (Jf hq.1.2.2.1 (by decide)) tx) rfl ?_; rintro u hu; refine rn F ?_)
  | (refine Ql (c3) rfl ?_; rintro ⟨y,ok⟩ hy; refine rn F ?_)
  | (refine Ql (Qsu k h hv ⟨_,_,_,_,_,_⟩ y) rfl ?_; rintro ⟨k2,r2⟩ hq2; refine rn F ?_)
  | (refine Qd (id:=7) [0,1] [⟨[],[],2,[0],[]⟩,⟨[],[],3,[1],[]⟩,⟨[],[],4,[],[]⟩] (by kernel_rfl) (by kernel_rfl) ?_; refine rn F ?_)
  | (refine Qd (id:=12) [0] [⟨[],[],1,[0],[]⟩,⟨[],[],2,[],[]⟩,⟨[],[],3,[],[]⟩] (by kernel_rfl) (by kernel_rfl) ?_; refine rn F ?_))
 all_goals first
  | exact ⟨rfl,rfl,(k,QaR _),rfl,hf _ (by first | assumption | decide)⟩
  | (obtain ⟨q1,q2,q3,q4,q5,q6,q7⟩:=Qeo hq (by omega)
     obtain ⟨r1,r2,r3,r4,r5,r6⟩:=hq.1
     exact ⟨rfl,rfl,(⟨k1.pg,k1.nx,k1.lg,k1.pl,u,k1.tx,k1.ix,k1.la⟩,⟨1,0,0,Ce0,0⟩),rfl,⟨r1,r2,Jf hu r3,r4,r5,r6⟩,q1,fun h=>by simp at h,fun _ _=>by dsimp only; omega,fun h=>by simp at h⟩)
  | (obtain ⟨y1,y2,y3⟩:=hy (by first | assumption | simp_all)
     dsimp only at y2
     exact ⟨rfl,rfl,(k2,r2),rfl,hq2.1,hq2.2.1,fun h=>⟨hv,(hq2.2.2.1 h).1,by rw [<- y2]; exact (hq2.2.2.1 h).2.1,y3,by rw [(hq2.2.2.1 h).2.1]; exact (hq2.2.2.1 h).2.2⟩,hq2.2.2.2.1,hq2.2.2.2.2⟩)
  | skip
def QE5 (k:Kn) (pg:Int) (a:Kn × Rs):Prop:=a.1.sm/\Ev k.lg a.1.lg/\(a.2.st = 3->a.1 = k/\a.2.pg = pg/\idF k.pl.fs pg < 0)/\(a.2.st ≠ 3->a.2.st ≠ 5->a.2.tx ≠ 0->k.lg.es.length < a.1.lg.es.length)
def QBi (k:Kn) (h:k.sm) (tx pg sl:Int):VCalls prog 158 [.agg k.d,.int .i64 tx,.agg [.int .i64 pg,.int .i64 sl]] [] (QI krD (QE5 k pg)):=by
 refine dk Tryz.func158 ?_
 have c1:=QdH k h tx
 have c3:=Qk6 k h tx pg sl
 have hf:∀ er,QE5 k pg (k,QaR er):=fun er=>⟨h,Ev.refl _,fun h=>by simp [QaR] at h,fun _ h=>absurd rfl h⟩
 (unfold Tryz.f158; refine rn trivial ?_)
 refine Ql c1 rfl ?_
 rintro ⟨t,e⟩ ⟨ht,hq0⟩
 by_cases he:e = 0
 rotate_left
 ·skip
  have F:=@he
  refine rn F ?_
  repeat' (first
   | with_reducible exact ⟨⟩
   | refine vp F (Qap _) ?_
   | (refine Qd (id:=3) [0,1] [⟨[],[],2,[0],[]⟩,⟨[],[],3,[1],[]⟩,⟨[],[],4,[],[]⟩] (by kernel_rfl) (by kernel_rfl) ?_; refine rn F ?_))
  exact ⟨rfl,rfl,(k,QaR e),rfl,hf _⟩
 obtain ⟨hv,hi,rfl⟩:=hq0 he
 subst he
 generalize QAs k.tx tx = t at *
 have F:=trivial
 refine rn F ?_
 repeat' (first
  | with_reducible exact ⟨⟩
  | (refine sB F ?_ ?_<;>intro hZ)
  | refine vp F (Qap _) ?_
  | (refine Ql (c3) rfl ?_; rintro ⟨y,ok⟩ hy; refine rn F ?_)
  | (refine Ql (Qsu k h hv ⟨_,_,_,_,_,_⟩ y) rfl ?_; rintro ⟨k2,r2⟩ hq2; refine rn F ?_)
  | (refine Qd (id:=5) [0] [⟨[],[],1,[0],[]⟩,⟨[],[],2,[],[]⟩,⟨[],[],3,[],[]⟩] (by kernel_rfl) (by kernel_rfl) ?_; refine rn F ?_))
 all_goals first
  | exact ⟨rfl,rfl,(k,QaR _),rfl,hf _⟩
  | exact ⟨rfl,rfl,(k,⟨1,0,0,Ce0,0⟩),rfl,h,Ev.refl _,fun h=>by simp at h,fun _ _ h=>absurd rfl h⟩
  | (have y2:=hy (by first | assumption | simp_all)
     dsimp only at y2
     rw [y2] at hq2
     exact ⟨rfl,rfl,(k2,r2),rfl,hq2.1,hq2.2.1,hq2.2.2.1,fun h1 h2 _=>hq2.2.2.2.1 h1 h2⟩)
  | skip
end
section
attribute [local go_sem] Qbj
def Ev.get (h:Ev x y) (h0:(QfN x n).2 = 0):QfN y n = QfN x n:=by
 obtain ⟨hv,h1,h2,_,_⟩:=Qut h0
 have hf:=h.f
 obtain ⟨t,ht⟩:=h.pre
 have hv2:=h.ok hv
 have hl:y.es.length = x.es.length + t.length:=by rw [<- ht,Jc]
 have hd:=QT hv
 simp only [Lg.hd] at hd
 unfold QfN
 rw [if_neg (by rw [hv2]; decide),if_neg (by simp only [Lg.end_] at *; omega),if_neg (by rw [hv]; decide),if_neg (by omega)]
 rw [hf,<- ht]
 congr 1
 simp only [Lg.end_] at h2
 rw [Ji,Ji,List.getElem?_append_left (by omega)]
def Qn6 (s:Sv) (hs:s.sm) (tx:Int):VCalls prog 154 [.agg s.d,.int .i64 tx] [] (QI boD fun _=>True):=by
 refine dd Tryz.func154 ?_
 have h4:=hs.1.2.2.2.1
 have c2:=Qb6 s.k.tx (Jf h4.1 (by decide)) tx
 rcases Qak s.k.tx tx with hn | ⟨i,hil,hid,_⟩
 ·rw [hn] at c2
  (unfold Tryz.f154; refine rn trivial ?_)
  refine rn F ?_
  repeat' (first
   | with_reducible exact ⟨⟩
   | refine vp F (c2) ?_)
  all_goals exact ⟨rfl,rfl,_,rfl,trivial⟩
 rw [hid] at c2
 have hg:=Qej s.k.tx i hil
 (unfold Tryz.f154; refine rn trivial ?_)
 have F:=@hg
 refine rn F ?_
 repeat' (first
  | with_reducible exact ⟨⟩
  | refine vp F (c2) ?_)
 all_goals exact ⟨rfl,rfl,_,rfl,trivial⟩
def inP (l:List Fm) (a:Int):Nat:=if 0<=idF l a then 0 else 1
def Qzl (l:List Fm) (a:Int):inP l a<=1:=by unfold inP; split<;>omega
def rbM (tx:Int) (s:Sv):Nat:=2 * (4096 - s.k.lg.es.length) + inP s.k.pl.fs (QjK s.k.tx s.k.lg tx).c.pg
def Qxj (h:s.k.lg.es.length < t.k.lg.es.length) (hl:t.k.lg.es.length<=4096):rbM tx t < rbM tx s:=by
 have:=Qzl t.k.pl.fs (QjK t.k.tx t.k.lg tx).c.pg
 unfold rbM; omega
def Qoj (ev:Ev s.k.lg t.k.lg) (hx:t.k.tx = s.k.tx) (h0:(QfN s.k.lg (Qp0 s.k.tx tx)).2 = 0) (h1:idF s.k.pl.fs (QjK s.k.tx s.k.lg tx).c.pg < 0) (h2:0<=idF t.k.pl.fs (QjK s.k.tx s.k.lg tx).c.pg):rbM tx t < rbM tx s:=by
 have hl:=ev.len
 have e:QjK t.k.tx t.k.lg tx = QjK s.k.tx s.k.lg tx:=by unfold QjK; rw [hx,ev.get h0]
 unfold rbM
 rw [e]
 unfold inP
 rw [if_pos h2,if_neg (by omega)]
 omega
def evQ (s:Sv) (a:Sv × Int):Prop:=a.1.sm/\(a.2 = 0->Ev s.k.lg a.1.k.lg)
structure Re (s0:Sv) where
 s:Sv
 sm:s.sm
 ev:Ev s0.k.lg s.k.lg
def QmY (s:Sv) (hs:s.sm) (tx:Int):VCalls prog 155 [.agg s.d,.int .i64 tx] [] (QI svD (evQ s)):=by
 refine dk Tryz.func155 ?_
 have c1:=Q0 s.k hs.1
 have c2:=Qb6 s.k.tx (Jf hs.1.2.2.2.1.1 (by decide)) tx
 have e0:∀ e,e ≠ 0->evQ s (Sv0,e):=fun e h=>⟨Qdw,fun h2=>absurd h2 h⟩
 (unfold Tryz.f155; refine rn trivial ?_)
 refine rn F ?_
 repeat' (first
  | with_reducible exact ⟨⟩
  | (refine sB F ?_ ?_<;>intro hZ)
  | (refine Ql (c1) rfl ?_; rintro b -; refine rn F ?_)
  | refine vp F (c2) ?_)
 all_goals first
  | exact ⟨rfl,rfl,(Sv0,15),rfl,e0 _ (by decide)⟩
  | exact ⟨rfl,rfl,(Sv0,16),rfl,e0 _ (by decide)⟩
  | skip
 refine Qg (fun r:Re s=>⟨56,0,[(4,.ptr 1 0),(2,.ptr 0 0),(1,.int .i64 tx)],[⟨82,true,r.s.d⟩,⟨82,true,Zv⟩]⟩) (fun r=>rbM tx r.s) ⟨s,hs,Ev.refl _⟩ (gc [0,1]) ?_
 rintro ⟨s1,sm,ev⟩
 dsimp only
 unfold Zv
 have d1:=Qn6 s1 sm tx
 have d2:=QsB s1.k sm.1 tx
 have d3:=fun n=>QeG s1 sm n
 refine rn F ?_
 repeat' (first
  | with_reducible exact ⟨⟩
  | (refine sB F ?_ ?_<;>intro hZ)
  | (refine Ql (d1) rfl ?_; rintro b2 -; refine rn F ?_)
  | (refine Ql (d2) rfl ?_; rintro ⟨k1,r1⟩ hq; refine rn F ?_)
  | (refine Ql (d3 _) rfl ?_; rintro ⟨s2,e2⟩ hq2; refine rn F ?_)
  | (refine Qd (id:=10) [0,1,2] [⟨[],[],3,[1,2],[]⟩,⟨[],[],4,[],[]⟩] (by kernel_rfl) (by kernel_rfl) ?_; refine rn F ?_))
 all_goals first
  | exact ⟨rfl,rfl,(s1,0),rfl,sm,fun _=>ev⟩
  | exact ⟨rfl,rfl,(Sv0,e2),rfl,e0 _ (by assumption)⟩
  | exact ⟨rfl,rfl,(Sv0,r1.er),rfl,e0 _ (hq.2.2.2.2 (by assumption))⟩
  | skip
 ·obtain ⟨v,_,g1,g2,g3⟩:=hq.2.2.1 (by first | assumption | omega)
  have q2:=hq2.2 (by dsimp only; omega)
  dsimp only at g1 g3 q2
  rw [g1] at g3 q2
  exact ⟨⟨s2,hq2.1,ev.trans q2.1⟩,Qoj q2.1 q2.2.1 g2 g3 q2.2.2,(gc [0,1])⟩
 ·have q:=hq.2.2.2.1 (by dsimp only; omega) (by dsimp only; omega)
  exact ⟨⟨⟨k1,s1.v⟩,⟨hq.1,sm.2⟩,ev.trans hq.2.1⟩,Qxj q hq.1.1,(gc [0,1])⟩
end
section
attribute [local go_sem] Qbj
@[go_sem] def srD (a:Sv × Rs):DV:=.tup [.agg a.1.d,.agg a.2.d]
def QGC (s:Sv) (a:Sv × Rs):Prop:=a.1.sm/\Ev s.k.lg a.1.k.lg
def Zr:List DV:=[.int .i64 0,.int .i64 0,.int .i64 0,.bool false,.pv (.str []),.int .i64 0]
def QDW (s:Sv) (hs:s.sm) (tx:Int) (a:Ac):VCalls prog 119 [.agg s.d,.int .i64 tx,.agg a.d] [] (QI srD (QGC s)):=by
 refine dk Tryz.func119 ?_
 (unfold Tryz.f119; refine rn trivial ?_)
 refine Qg (fun r:Re s=>⟨79,0,[(7,.ptr 3 0),(6,.ptr 2 0),(5,.ptr 1 0),(3,.ptr 0 0),(1,.int .i64 tx)],[⟨82,true,r.s.d⟩,⟨133,true,a.d⟩,⟨82,true,Zv⟩,⟨130,true,Zr⟩]⟩) (fun r=>inP r.s.k.pl.fs a.pg) ⟨s,hs,Ev.refl _⟩ (gc [0,1,2,3]) ?_
 rintro ⟨s1,sm,ev⟩
 dsimp only
 unfold Zv Zr
 have d1:=QD2 s1.k sm.1 tx a
 have d2:=fun (k:Kn) (hk:k.sm)=>QeG ⟨k,s1.v⟩ ⟨hk,sm.2⟩
 have d3:=fun (k:Kn) (hk:k.sm)=>Qn6 ⟨k,s1.v⟩ ⟨hk,sm.2⟩ tx
 have d4:=fun (k:Kn) (hk:k.sm)=>QmY ⟨k,s1.v⟩ ⟨hk,sm.2⟩ tx
 refine rn F ?_
 repeat' (first
  | with_reducible exact ⟨⟩
  | (refine sG F ?_ ?_<;>intro hZ)
  | (refine sB F ?_ ?_<;>intro hZ)
  | (refine Ql (d1) rfl ?_; rintro ⟨k1,r1⟩ hq; refine rn F ?_)
  | (refine Ql (d2 k1 hq.1 _) rfl ?_; rintro ⟨s2,e2⟩ hq2; refine rn F ?_)
  | refine vp F (Qap _) ?_
  | (refine Ql (d3 k1 hq.1) rfl ?_; rintro b -; refine rn F ?_)
  | (refine Ql (d4 k1 hq.1) rfl ?_; rintro ⟨s3,e3⟩ hq3; refine rn F ?_)
  | (refine Qd (id:=6) [0,1] [⟨[],[],2,[0],[]⟩,⟨[],[],3,[1],[]⟩,⟨[],[],4,[],[]⟩] (by kernel_rfl) (by kernel_rfl) ?_; refine rn F ?_)
  | (refine Qd (id:=12) [0,1] [⟨[],[],2,[0],[]⟩,⟨[],[],3,[1],[]⟩,⟨[],[],4,[],[]⟩] (by kernel_rfl) (by kernel_rfl) ?_; refine rn F ?_)
  | (refine Qd (id:=14) [0,1] [⟨[],[],2,[1],[]⟩,⟨[],[],3,[],[]⟩] (by kernel_rfl) (by kernel_rfl) ?_; refine rn F ?_))
 all_goals first
  | exact ⟨rfl,rfl,(⟨k1,s1.v⟩,QaR _),rfl,⟨hq.1,sm.2⟩,ev.trans hq.2.1⟩
  | exact ⟨rfl,rfl,(⟨k1,s1.v⟩,r1),rfl,⟨hq.1,sm.2⟩,ev.trans hq.2.1⟩
  | (have q3:=hq3.2 (by dsimp only; omega)
     exact ⟨rfl,rfl,(s3,r1),rfl,hq3.1,(ev.trans hq.2.1).trans q3⟩)
  | skip
 obtain ⟨g1,g2,g3⟩:=hq.2.2 (by first | assumption | (dsimp only; omega))
 have q2:=hq2.2 (by dsimp only; omega)
 dsimp only at g1 g2 g3 q2
 rw [g2] at q2
 refine ⟨⟨s2,hq2.1,(ev.trans hq.2.1).trans q2.1⟩,?_,(gc [0,1,2,3])⟩
 unfold inP
 dsimp only
 rw [if_pos q2.2.2,if_neg (by omega)]
 omega
@[go_sem] def QGA (a:Sv × Int × Int):DV:=.tup [.agg a.1.d,.int .i64 a.2.1,.int .i64 a.2.2]
def QsG (s:Sv) (hs:s.sm):VCalls prog 75 [.agg s.d] [] (QI QGA fun a=>a.1.sm/\(a.2.2 = 0->Ev s.k.lg a.1.k.lg)):=by
 refine dk Tryz.func75 ?_
 have c1:=QsZ s.k hs.1
 (unfold Tryz.f75; refine rn trivial ?_)
 refine rn F ?_
 repeat' (first
  | with_reducible exact ⟨⟩
  | (refine sB F ?_ ?_<;>intro hZ)
  | (refine Ql (c1) rfl ?_; rintro ⟨k1,n1,e1⟩ hq; refine rn F ?_))
 all_goals first
  | exact ⟨rfl,rfl,(Sv0,0,e1),rfl,Qdw,fun h=>absurd h (by assumption)⟩
  | exact ⟨rfl,rfl,(⟨k1,s.v⟩,n1,0),rfl,⟨hq.1,hs.2⟩,fun _=>by have q:=(hq.2 (by dsimp only; omega)).2.2; dsimp only at q; subst q; exact Ev.refl _⟩
  | skip
def mkR:∀ n:Nat,V.mk [.pv (.lit (.int .i64 0)),.pv (.lit (.int .i64 0)),.pv (.lit (.int .i64 0))] n = cells Qce (Jh n Rw0)
 | 0=>rfl
 | n + 1=>by
   show _ ++ V.mk _ n = _
   rw [mkR n,List.replicate_succ]; rfl
def Qob (n:Int):VCalls prog 72 [.int .i64 n] [] (QI (fun a:List Rw × Int=>.tup [.agg [.pv (.sl (fz Qce a.1))],.int .i64 a.2]) fun a=>a.1.length<=64):=by
 refine dk Tryz.func72 ?_
 (unfold Tryz.f72; refine rn trivial ?_)
 refine rn F ?_
 repeat' (first
  | with_reducible exact ⟨⟩
  | (refine sG F ?_ ?_<;>intro hZ)
  | (refine sB F ?_ ?_<;>intro hZ))
 all_goals first
  | exact ⟨rfl,rfl,([],1),rfl,Jd _⟩
  | skip
 obtain ⟨m,rfl⟩:∃ m:Nat,n = m:=⟨n.toNat,by omega⟩
 have hc:((0:Int)<=(m:Int)/\(m:Int)<=(m:Int)/\((24:Nat):Int) * (m:Int)<=281474976710656/\(m:Int)<=9223372036854775807) = True:=eq_true ⟨by omega,by omega,by omega,by omega⟩
 have hmk:=mkR m
 have hlr:(Jh m Rw0).length = m:=Jq
 refine rn (Ja @hc (Ja @hmk @hlr)) ?_
 exact ⟨rfl,rfl,(Jh m Rw0,0),rfl,by dsimp only; rw [hlr]; omega⟩
end
section
attribute [local go_sem] Qbj
def Lg1:Lg:=⟨1,[],0⟩
def QFi:lgB Lg1 = true:=by decide
def QA8:VCalls prog 73 [] [] (Ret (.agg Lg1.c)):=by
 refine dk Tryz.func73 ?_
 (unfold Tryz.f73; refine rn trivial ?_)
 rfl
def Qop (n:Int):(Qm8 n).1.fs = []:=by unfold Qm8; split<;>rfl
def QsC (s:Sv) (hs:s.sm) (n:Int):VCalls prog 78 [.agg s.d,.int .i64 n] [] (QI svD (evQ s)):=by
 refine dk Tryz.func78 ?_
 have c1:=Qxa s.k hs.1 n
 have c2:=QcH s.k.pl (Jf hs.1.2.1 (by decide)) n
 have c3:=fun k hk x=>Qn4 s hs.2 k hk x
 have e0:∀ e,e ≠ 0->evQ s (Sv0,e):=fun e h=>⟨Qdw,fun h2=>absurd h2 h⟩
 (unfold Tryz.f78; refine rn trivial ?_)
 refine Ql c1 rfl ?_
 rintro ⟨k1,x,e⟩ hq
 by_cases he:e = 0
 rotate_left
 ·skip
  have F:=@he
  refine rn F ?_
  exact ⟨rfl,rfl,(Sv0,e),rfl,e0 _ he⟩
 have q:=hq.2 he
 subst he
 rcases QcM s.k.pl n with hn | ⟨_,i,hi,hfi,_⟩
 ·have:=q.2; omega
 rw [hfi] at c2
 have hg:=Qb1 s.k.pl.fs i hi
 generalize s.k.pl.fs.getD i Fm0 = f at *
 have F:=@hg
 refine rn F ?_
 repeat' (first
  | with_reducible exact ⟨⟩
  | (refine sB F ?_ ?_<;>intro hZ)
  | refine vp F (c2) ?_
  | (refine Ql (c3 k1 hq.1 x) rfl ?_; rintro ⟨s2,e2⟩ hq2; refine rn F ?_)
  | (refine Qd (id:=4) [0,1,2,3,4,5,6,7] [⟨[],[],8,[0,1,2,3,4,5],[9,10,11,12]⟩] (by kernel_rfl) (by kernel_rfl) ?_; refine rn F ?_))
 all_goals first
  | exact ⟨rfl,rfl,(s,0),rfl,hs,fun _=>Ev.refl _⟩
  | exact ⟨rfl,rfl,(s2,e2),rfl,hq2.1,fun h=>q.1.trans (hq2.2 h).1⟩
  | skip
end
section
attribute [local go_sem] Qbj
@[go_sem] def tbD (a:Tx × Bool):DV:=.tup [.agg a.1.d,.bool a.2]
def Qk8 (k:Kn) (h:k.sm) (tx:Int):VCalls prog 143 [.agg k.d,.int .i64 tx] [] (QI tbD fun _=>True):=by
 refine dk Tryz.func143 ?_
 have c1:=Q0 k h
 have c2:=Qb6 k.tx (Jf h.2.2.2.1.1 (by decide)) tx
 rcases Qak k.tx tx with hn | ⟨i,hil,hid,_⟩
 ·rw [hn] at c2
  (unfold Tryz.f143; refine rn trivial ?_)
  refine rn F ?_
  repeat' (first
   | with_reducible exact ⟨⟩
   | (refine sB F ?_ ?_<;>intro hZ)
   | (refine Ql (c1) rfl ?_; rintro b -; refine rn F ?_)
   | refine vp F (c2) ?_)
  all_goals exact ⟨rfl,rfl,(Tx0,false),rfl,trivial⟩
 rw [hid] at c2
 have hg:=Qej k.tx i hil
 (unfold Tryz.f143; refine rn trivial ?_)
 have F:=@hg
 refine rn F ?_
 repeat' (first
  | with_reducible exact ⟨⟩
  | (refine sB F ?_ ?_<;>intro hZ)
  | (refine Ql (c1) rfl ?_; rintro b hb; refine rn F ?_)
  | refine vp F (c2) ?_)
 all_goals first
  | exact ⟨rfl,rfl,(k.tx.getD i Tx0,true),rfl,trivial⟩
  | exact ⟨rfl,rfl,(Tx0,false),rfl,trivial⟩
  | skip
@[go_sem] def QHr (a:Int × Int × Int × Bool):DV:=.tup [.int .i64 a.1,.agg [.int .i64 a.2.1,.int .i64 a.2.2.1],.bool a.2.2.2]
def QpP (k:Kn) (h:k.sm) (tx:Int):VCalls prog 120 [.agg k.d,.int .i64 tx] [] (QI QHr fun _=>True):=by
 refine dk Tryz.func120 ?_
 have h3:=h.2.2.1
 have c1:=QdG k.lk (by omega) tx
 have c2:=Qod k.lk (by omega) tx
 have c3:=fun n=>Qk8 k h n
 (unfold Tryz.f120; refine rn trivial ?_)
 refine rn F ?_
 repeat' (first
  | with_reducible exact ⟨⟩
  | (refine sB F ?_ ?_<;>intro hZ)
  | (refine Ql (c1) rfl ?_; rintro ⟨g,b⟩ -; refine rn F ?_)
  | (refine Ql (c2) rfl ?_; rintro l hl; refine rn F ?_))
 all_goals first
  | exact ⟨rfl,rfl,(0,0,0,false),rfl,trivial⟩
  | skip
 refine Qg (fun s:To l.length=>⟨44,0,[(28,.int .i64 s.i),(27,.int .i64 l.length),(26,.pv (.sl (fz QW l))),(7,.ptr 2 0),(5,.ptr 1 0),(2,.ptr 0 0)],[⟨45,true,k.d⟩,⟨102,true,[.int .i64 0,.int .i64 0]⟩,⟨219,true,g.d⟩]⟩) (fun s=>l.length - s.i) ⟨0,Jd _⟩ (gc [0,1,2]) ?_
 rintro ⟨i,hi⟩
 dsimp only
 have hx:=fun h:i < l.length=>Qae l i h
 have F:=@hx
 refine rn F ?_
 repeat' (first
  | with_reducible exact ⟨⟩
  | (refine sB F ?_ ?_<;>intro hZ)
  | (refine Ql (c3 _) rfl ?_; rintro ⟨t,b3⟩ -; refine rn F ?_)
  | (refine Qd (id:=9) [0,1,2] [⟨[],[],3,[1,2],[]⟩,⟨[],[],4,[],[]⟩,⟨[],[],5,[],[]⟩] (by kernel_rfl) (by kernel_rfl) ?_; refine rn F ?_))
 all_goals first
  | exact ⟨rfl,rfl,(_,g.pg,g.sl,true),rfl,trivial⟩
  | exact ⟨rfl,rfl,(0,0,0,false),rfl,trivial⟩
  | exact ⟨⟨i + 1,by omega⟩,by dsimp only; omega,(gc [0,1,2])⟩
  | skip
def QwZ (k:Kn) (h:k.sm):VCalls prog 109 [.agg k.d] [] (QI ilD fun l=>l.length<=65):=by
 refine dk Tryz.func109 ?_
 have h4:=h.2.2.2.1.1
 have c3:=fun n=>Qk8 k h n
 (unfold Tryz.f109; refine rn trivial ?_)
 refine VLoop.nilOwn 3 3 1 rfl ?_
 refine rn trivial ?_
 refine Qg (fun s:{s:Nat × List Int // s.1<=k.tx.length/\s.2.length<=s.1}=>⟨36,0,[(4,.int .i64 s.1.1),(3,.own 1 1 0 s.1.2.length),(1,.ptr 0 0)],[⟨45,true,k.d⟩,⟨3,true,cells QW s.1.2⟩]⟩) (fun s=>k.tx.length - s.1.1) ⟨(0,[]),by simp⟩ (gc [0,1]) ?_
 rintro ⟨⟨i,out⟩,hi,ho⟩
 dsimp only at hi ho |-
 have hg:=fun h:i < k.tx.length=>Qej k.tx i h
 have hb:(out.length + 1) * 8<=140737488355328:=by omega
 have F:=(Ja @hg @hb)
 refine rn F ?_
 repeat' (first
  | with_reducible exact ⟨⟩
  | (refine sB F ?_ ?_<;>intro hZ)
  | (refine Ql (c3 _) rfl ?_; rintro ⟨t,b3⟩ -; refine rn F ?_)
  | (refine Qd (id:=5) [0,1,2,3,4,5,6] [⟨[11],[],7,[1,2,3,4,5],[8,9,10]⟩,⟨[11],[11],12,[10],[]⟩,⟨[],[],13,[],[]⟩] (by kernel_rfl) (by kernel_rfl) ?_; refine rn F ?_))
 all_goals first
  | exact ⟨rfl,rfl,out,rfl,by omega⟩
  | exact ⟨⟨(i + 1,out),by dsimp only; omega,by dsimp only; omega⟩,by dsimp only; omega,(gc [0,1])⟩
  | exact ⟨⟨(i + 1,out ++ [(k.tx.getD i Tx0).id]),by dsimp only; omega,by simp; omega⟩,by dsimp only; omega,by dsimp only; rw [Jc]; exact (gc [0,4])⟩
  | skip
@[go_sem] def QG8 (a:Sv × Nat × Int):DV:=.tup [.agg a.1.d,.int .i64 a.2.1,.int .i64 a.2.2]
def ceQ (s:Sv) (a:Sv × Nat × Int):Prop:=a.1.sm/\Ev s.k.lg a.1.k.lg/\a.2.1 + s.k.lg.es.length<=a.1.k.lg.es.length
structure Rn (s0:Sv) where
 s:Sv
 n:Nat
 sm:s.sm
 ev:Ev s0.k.lg s.k.lg
 up:n + s0.k.lg.es.length<=s.k.lg.es.length
def QwM (s:Sv) (hs:s.sm) (tx pg sl:Int):VCalls prog 121 [.agg s.d,.int .i64 tx,.agg [.int .i64 pg,.int .i64 sl]] [] (QI QG8 (ceQ s)):=by
 refine dk Tryz.func121 ?_
 (unfold Tryz.f121; refine rn trivial ?_)
 refine Qg (fun r:Rn s=>⟨57,0,[(9,.int .i64 r.n),(6,.ptr 2 0),(5,.ptr 1 0),(3,.ptr 0 0),(1,.int .i64 tx)],[⟨82,true,r.s.d⟩,⟨102,true,[.int .i64 pg,.int .i64 sl]⟩,⟨82,true,Zv⟩]⟩) (fun r=>2 * (4096 - r.s.k.lg.es.length) + inP r.s.k.pl.fs pg) ⟨s,0,hs,Ev.refl _,by omega⟩ (gc [0,1,2]) ?_
 rintro ⟨s1,n,sm,ev,up⟩
 have hle:=sm.1.1
 dsimp only
 unfold Zv
 have d1:=QBi s1.k sm.1 tx pg sl
 have d2:=fun p=>QeG s1 sm p
 refine rn F ?_
 repeat' (first
  | with_reducible exact ⟨⟩
  | (refine sB F ?_ ?_<;>intro hZ)
  | (refine Ql (d1) rfl ?_; rintro ⟨k1,r1⟩ hq; refine rn F ?_)
  | (refine Ql (d2 _) rfl ?_; rintro ⟨s2,e2⟩ hq2; refine rn F ?_)
  | (refine Qd (id:=6) [0,1,2,3] [⟨[],[],4,[1,2,3],[]⟩,⟨[],[],5,[2,3],[]⟩,⟨[],[],6,[],[]⟩] (by kernel_rfl) (by kernel_rfl) ?_; refine rn F ?_))
 all_goals first
  | exact ⟨rfl,rfl,(s1,n,_),rfl,sm,ev,up⟩
  | skip
 ·obtain ⟨g1,g2,g3⟩:=hq.2.2.1 (by first | assumption | (dsimp only; omega))
  have q2:=hq2.2 (by dsimp only; omega)
  dsimp only at g1 g2 g3 q2
  rw [g2] at q2
  have hl:=q2.1.len
  refine ⟨⟨s2,n,hq2.1,ev.trans q2.1,by omega⟩,?_,(gc [0,1,2])⟩
  unfold inP
  dsimp only
  rw [if_pos q2.2.2,if_neg (by omega)]
  omega
 ·have q:=hq.2.2.2 (by dsimp only; omega) (by dsimp only; omega) (by dsimp only; omega)
  have hk:=hq.1.1
  have h1:=Qzl k1.pl.fs pg
  dsimp only at q hk
  exact ⟨⟨⟨k1,s1.v⟩,n + 1,⟨hq.1,sm.2⟩,ev.trans hq.2.1,by dsimp only; omega⟩,by dsimp only; omega,(gc [0,1,2])⟩
end
section
attribute [local go_sem] Qbj
def QD3 (s:Sv) (hs:s.sm) (tx:Int) (a:Ac):VCalls prog 100 [.agg s.d,.int .i64 tx,.agg a.d] [] (QI srD (QGC s)):=by
 refine dk Tryz.func100 ?_
 (unfold Tryz.f100; refine rn trivial ?_)
 refine Qg (fun r:Re s=>⟨58,0,[(7,.ptr 3 0),(6,.ptr 2 0),(5,.ptr 1 0),(3,.ptr 0 0),(1,.int .i64 tx)],[⟨82,true,r.s.d⟩,⟨133,true,a.d⟩,⟨82,true,Zv⟩,⟨130,true,Zr⟩]⟩) (fun r=>4096 - r.s.k.lg.es.length) ⟨s,hs,Ev.refl _⟩ (gc [0,1,2,3]) ?_
 rintro ⟨s1,sm,ev⟩
 dsimp only
 unfold Zv Zr
 have d1:=QDW s1 sm tx a
 have d2:=fun (t:Sv) (h:t.sm)=>QpP t.k h.1 tx
 have d3:=fun (t:Sv) (h:t.sm)=>QwM t h
 refine rn F ?_
 repeat' (first
  | with_reducible exact ⟨⟩
  | (refine sB F ?_ ?_<;>intro hZ)
  | (refine Ql (d1) rfl ?_; rintro ⟨s2,r2⟩ hq; refine rn F ?_)
  | (refine Ql (d2 s2 hq.1) rfl ?_; rintro ⟨x,p,q,b⟩ -; refine rn F ?_)
  | (refine Ql (d3 s2 hq.1 _ _ _) rfl ?_; rintro ⟨s3,n,e3⟩ hq3; refine rn F ?_)
  | refine vp F (Qap _) ?_
  | (refine Qd (id:=4) [0,1] [⟨[],[],2,[1],[]⟩,⟨[],[],3,[],[]⟩] (by kernel_rfl) (by kernel_rfl) ?_; refine rn F ?_)
  | (refine Qd (id:=7) [0,1] [⟨[],[],2,[1],[]⟩,⟨[],[],3,[],[]⟩] (by kernel_rfl) (by kernel_rfl) ?_; refine rn F ?_)
  | (refine Qd (id:=11) [0,1] [⟨[],[],2,[0],[]⟩,⟨[],[],3,[1],[]⟩,⟨[],[],4,[],[]⟩] (by kernel_rfl) (by kernel_rfl) ?_; refine rn F ?_)
  | (refine Qd (id:=13) [0,1] [⟨[],[],2,[1],[]⟩,⟨[],[],3,[],[]⟩] (by kernel_rfl) (by kernel_rfl) ?_; refine rn F ?_))
 all_goals first
  | exact ⟨rfl,rfl,(s2,r2),rfl,hq.1,ev.trans hq.2⟩
  | exact ⟨rfl,rfl,(s3,QaR e3),rfl,hq3.1,(ev.trans hq.2).trans hq3.2.1⟩
  | exact ⟨rfl,rfl,(s3,r2),rfl,hq3.1,(ev.trans hq.2).trans hq3.2.1⟩
  | skip
 have h1:=hq.2.len
 have h2:=hq3.2.2
 have h3:=hq3.1.1.1
 dsimp only at h1 h2 h3
 exact ⟨⟨s3,hq3.1,(ev.trans hq.2).trans hq3.2.1⟩,by dsimp only; omega,(gc [0,1,2,3])⟩
@[go_sem] def QHc (a:Sv × Bool × Int):DV:=.tup [.agg a.1.d,.bool a.2.1,.int .i64 a.2.2]
def wkQ (s:Sv) (a:Sv × Bool × Int):Prop:=a.1.sm/\(a.2.2 = 0->Ev s.k.lg a.1.k.lg)
def QAK (s:Sv) (hs:s.sm):VCalls prog 82 [.agg s.d] [] (QI QHc (wkQ s)):=by
 refine dk Tryz.func82 ?_
 have c1:=Q0 s.k hs.1
 have c2:=fun n=>QeG s hs n
 have c3:=QwZ s.k hs.1
 have hg:=fun h:0 < s.k.la.length=>QfO s.k.la 0 h
 have e0:∀ e,e ≠ 0->wkQ s (Sv0,false,e):=fun e h=>⟨Qdw,fun h2=>absurd h2 h⟩
 (unfold Tryz.f82; refine rn trivial ?_)
 have F:=@hg
 refine rn F ?_
 repeat' (first
  | with_reducible exact ⟨⟩
  | (refine sB F ?_ ?_<;>intro hZ)
  | (refine Ql (c1) rfl ?_; rintro b -; refine rn F ?_)
  | (refine Ql (c2 _) rfl ?_; rintro ⟨s2,e2⟩ hq; refine rn F ?_)
  | (refine Ql (c3) rfl ?_; rintro l hl; refine rn F ?_)
  | (refine Qd (id:=4) [0,1,2,3,4,5,6] [⟨[11],[],7,[1,2,3,4,5],[8,9,10]⟩,⟨[11],[11],12,[10],[]⟩,⟨[],[],13,[],[]⟩] (by kernel_rfl) (by kernel_rfl) ?_; refine rn F ?_))
 all_goals first
  | exact ⟨rfl,rfl,(Sv0,false,15),rfl,e0 _ (by decide)⟩
  | exact ⟨rfl,rfl,(s,false,0),rfl,hs,fun _=>Ev.refl _⟩
  | exact ⟨rfl,rfl,(s2,_,e2),rfl,hq.1,fun h=>(hq.2 h).1⟩
  | skip
 have hg0:=fun h:0 < l.length=>Qae l 0 h
 generalize l.getD 0 0 = tx at *
 refine Qg (fun r:Re s=>⟨77,0,[(7,.pv (.sl (fz QW l))),(2,.ptr 1 0),(1,.ptr 0 0)],[⟨82,true,r.s.d⟩,⟨82,true,Zv⟩]⟩) (fun r=>rbM tx r.s) ⟨s,hs,Ev.refl _⟩ (gc [0,1]) ?_
 rintro ⟨s1,sm,ev⟩
 dsimp only
 unfold Zv
 have d2:=QsB s1.k sm.1 tx
 have d3:=fun n=>QeG s1 sm n
 have F:=@hg0
 refine rn F ?_
 repeat' (first
  | with_reducible exact ⟨⟩
  | (refine sB F ?_ ?_<;>intro hZ)
  | (refine Ql (d2) rfl ?_; rintro ⟨k1,r1⟩ hq; refine rn F ?_)
  | (refine Ql (d3 _) rfl ?_; rintro ⟨s2,e2⟩ hq2; refine rn F ?_)
  | (refine Qd (id:=9) [0,1,2,3,4] [⟨[9,10],[],5,[0,2,3],[6,7,8]⟩,⟨[9,10],[9],11,[8],[]⟩,⟨[10],[10],12,[],[]⟩] (by kernel_rfl) (by kernel_rfl) ?_; refine rn F ?_)
  | (refine Qd (id:=11) [0,1,2] [⟨[],[],3,[1,2],[]⟩,⟨[],[],4,[1,2],[]⟩,⟨[],[],5,[],[]⟩] (by kernel_rfl) (by kernel_rfl) ?_; refine rn F ?_))
 all_goals first
  | exact ⟨rfl,rfl,(Sv0,false,e2),rfl,e0 _ (by assumption)⟩
  | exact ⟨rfl,rfl,(Sv0,false,r1.er),rfl,e0 _ (hq.2.2.2.2 (by assumption))⟩
  | exact ⟨rfl,rfl,(⟨k1,s1.v⟩,true,0),rfl,⟨hq.1,sm.2⟩,fun _=>ev.trans hq.2.1⟩
  | skip
 obtain ⟨v,_,g1,g2,g3⟩:=hq.2.2.1 (by first | assumption | (dsimp only; omega))
 have q2:=hq2.2 (by dsimp only; omega)
 dsimp only at g1 g3 q2
 rw [g1] at g3 q2
 exact ⟨⟨s2,hq2.1,ev.trans q2.1⟩,Qoj q2.1 q2.2.1 g2 g3 q2.2.2,(gc [0,1])⟩
end
@[go_sem] def stD (s:List UInt8):DV:=.pv (.str s)
def Qn7 (s:List UInt8) (hs:s.length<=1000000000) (n:Int) (k:Nat) (h1:1<=k) (h8:k<=8):VCalls prog 161 [.pv (.str s),.int .i64 n,.int .i64 k] [] (QI stD fun t=>t.length = s.length + k):=
 (Qcl s hs n k h1 h8).toS (Qay s n k) rfl (Qr s n k)
def QwR (s:List UInt8) (hs:s.length<=1000000000) (n:Int):VCalls prog 161 [.pv (.str s),.int .i64 n,.int .i64 1] [] (QI stD fun t=>t.length = s.length + 1):=Qn7 s hs n 1 (by omega) (by omega)
def QwQ (s:List UInt8) (hs:s.length<=1000000000) (n:Int):VCalls prog 161 [.pv (.str s),.int .i64 n,.int .i64 2] [] (QI stD fun t=>t.length = s.length + 2):=Qn7 s hs n 2 (by omega) (by omega)
def QAY (s:List UInt8) (hs:s.length<=1000000000) (n:Int):VCalls prog 161 [.pv (.str s),.int .i64 n,.int .i64 4] [] (QI stD fun t=>t.length = s.length + 4):=Qn7 s hs n 4 (by omega) (by omega)
def Qk3 (s:List UInt8) (hs:s.length<=1000000000) (n:Int):VCalls prog 161 [.pv (.str s),.int .i64 n,.int .i64 8] [] (QI stD fun t=>t.length = s.length + 8):=Qn7 s hs n 8 (by omega) (by omega)
def QiD (s:List UInt8) (hs:s.length<=800000000) (l:List Int) (hl:l.length<=100000):VCalls prog 215 [.pv (.str s),.pv (.sl (fz QW l))] [] (QI stD fun t=>t.length<=s.length + 800000):=by
 refine dd Tryz.func215 ?_
 (unfold Tryz.f215; refine rn trivial ?_)
 refine Qg (fun r:{r:Nat × List UInt8 // r.1<=l.length/\r.2.length = s.length + 8 * r.1}=>⟨19,0,[(5,.int .i64 r.1.1),(1,.pv (.sl (fz QW l))),(0,.pv (.str r.1.2))],[]⟩) (fun r=>l.length - r.1.1) ⟨(0,s),by simp⟩ (gc []) ?_
 rintro ⟨⟨i,t⟩,hi,ht⟩
 dsimp only at hi ht |-
 have hg:=fun h:i < l.length=>Qae l i h
 have c1:=Qk3 t (by omega)
 have F:=@hg
 refine rn F ?_
 repeat' (first
  | with_reducible exact ⟨⟩
  | (refine sB F ?_ ?_<;>intro hZ)
  | (refine Ql (c1 _) rfl ?_; rintro u hu; refine rn F ?_))
 all_goals first
  | exact ⟨⟨(i + 1,u),by dsimp only; omega,by dsimp only; omega⟩,by dsimp only; omega,(gc [])⟩
  | exact ⟨rfl,rfl,t,rfl,by omega⟩
  | skip
def QAQ (l:List Tx) (hl:smN 65 l):VCalls prog 171 [.pv (.sl (fz Qat l))] [] (QI siD fun a=>a.1.length<=200000000):=by
 refine dd Tryz.func171 ?_
 have c1:=QbL l (hl.smL (by omega))
 have h1:=hl.1
 have c2:=QwQ [] (by simp)
 generalize Qd7 l = b at *
 (unfold Tryz.f171; refine rn trivial ?_)
 refine rn F ?_
 repeat' (first
  | with_reducible exact ⟨⟩
  | (refine sB F ?_ ?_<;>intro hZ)
  | refine vp F (c1) ?_
  | (refine Ql (c2 _) rfl ?_; rintro u hu; refine rn F ?_))
 all_goals first
  | exact ⟨rfl,rfl,([],15),rfl,by simp⟩
  | skip
 refine Qg (fun r:{r:Nat × List UInt8 // r.1<=l.length/\r.2.length<=2 + 1600024 * r.1}=>⟨56,0,[(5,.int .i64 r.1.1),(4,.pv (.str r.1.2)),(0,.pv (.sl (fz Qat l)))],[]⟩) (fun r=>l.length - r.1.1) ⟨(0,u),by simp at hu |-; omega⟩ (gc []) ?_
 rintro ⟨⟨i,t⟩,hi,ht⟩
 dsimp only at hi ht |-
 have hg:=fun h:i < l.length=>Qej l i h
 have hss:i < l.length->(l.getD i Tx0).l.length<=100000/\(l.getD i Tx0).s.length<=100000:=fun h=>by rw [Qm _ _ h]; exact hl.2 _ (JR h)
 generalize l.getD i Tx0 = x at *
 by_cases hil:i < l.length
 rotate_left
 ·skip
  have F:=@hg
  refine rn F ?_
  exact ⟨rfl,rfl,(t,0),rfl,by dsimp only; omega⟩
 obtain ⟨s1,s2⟩:=hss hil
 have F:=@hg
 refine rn F ?_
 repeat' (first
  | with_reducible exact ⟨⟩
  | (refine Ql (QAY t (by omega) x.id) rfl ?_; rintro u1 hu1; refine rn F ?_)
  | (refine Ql (QwR u1 (by omega) x.st) rfl ?_; rintro u2 hu2; refine rn F ?_)
  | (refine Ql (Qk3 u2 (by omega) x.n) rfl ?_; rintro u3 hu3; refine rn F ?_)
  | (refine Ql (Qk3 u3 (by omega) x.b) rfl ?_; rintro u4 hu4; refine rn F ?_)
  | (refine Ql (QwQ u4 (by omega) _) rfl ?_; rintro u5 hu5; refine rn F ?_)
  | (refine Ql (QiD u5 (by omega) x.l s1) rfl ?_; rintro u6 hu6; refine rn F ?_)
  | (refine Ql (QwR u6 (by omega) x.s.length) rfl ?_; rintro u7 hu7; refine rn F ?_)
  | (refine Ql (QiD u7 (by omega) x.s s2) rfl ?_; rintro u8 hu8; refine rn F ?_)
  | (refine Qd (id:=12) [0,1,2,3,5,6] [⟨[],[],4,[1,2,5,6],[]⟩,⟨[],[],7,[0,1,2,3,5],[]⟩,⟨[],[],8,[],[]⟩] (by kernel_rfl) (by kernel_rfl) ?_; refine rn F ?_)
  | (refine Qd (id:=13) [0,1,2,3,5,6] [⟨[],[],4,[1,2,5,6],[]⟩,⟨[],[],7,[0,1,2,3,5],[]⟩,⟨[],[],8,[],[]⟩] (by kernel_rfl) (by kernel_rfl) ?_; refine rn F ?_))
 all_goals first
  | exact ⟨⟨(i + 1,u8),hil,Jf (show u8.length<=(2 + 1600024 * i) + 1600024 by omega) (by rw [KB]; exact Nat.le_of_eq (Nat.add_assoc _ _ _))⟩,by dsimp only; omega,(gc [])⟩
  | skip
def Qw4 (l:List Rw) (hl:l.length<=64):VCalls prog 172 [.agg [.pv (.sl (fz Qce l))]] [] (QI siD fun a=>a.1.length<=2000):=by
 refine dd Tryz.func172 ?_
 have c1:=Qbg l (by omega)
 have c2:=QwQ [] (by simp)
 generalize ixB l = b at *
 (unfold Tryz.f172; refine rn trivial ?_)
 refine rn F ?_
 repeat' (first
  | with_reducible exact ⟨⟩
  | (refine sB F ?_ ?_<;>intro hZ)
  | refine vp F (c1) ?_
  | (refine Ql (c2 _) rfl ?_; rintro u hu; refine rn F ?_))
 all_goals first
  | exact ⟨rfl,rfl,([],28),rfl,by simp⟩
  | skip
 refine Qg (fun r:{r:Nat × List UInt8 // r.1<=l.length/\r.2.length<=2 + 24 * r.1}=>⟨45,0,[(5,.int .i64 r.1.1),(4,.pv (.str r.1.2)),(1,.ptr 0 0)],[⟨42,true,[.pv (.sl (fz Qce l))]⟩]⟩) (fun r=>l.length - r.1.1) ⟨(0,u),by simp at hu |-; omega⟩ (gc [0]) ?_
 rintro ⟨⟨i,t⟩,hi,ht⟩
 dsimp only at hi ht |-
 have hg:=fun h:i < l.length=>QlS l i h
 generalize l.getD i Rw0 = x at *
 have F:=@hg
 refine rn F ?_
 repeat' (first
  | with_reducible exact ⟨⟩
  | (refine sB F ?_ ?_<;>intro hZ)
  | (refine Ql (Qk3 t (by omega) x.lsn) rfl ?_; rintro u1 hu1; refine rn F ?_)
  | (refine Ql (Qk3 u1 (by omega) x.im) rfl ?_; rintro u2 hu2; refine rn F ?_)
  | (refine Ql (Qk3 u2 (by omega) x.at_) rfl ?_; rintro u3 hu3; refine rn F ?_))
 all_goals first
  | exact ⟨⟨(i + 1,u3),by dsimp only; omega,by dsimp only; omega⟩,by dsimp only; omega,(gc [0])⟩
  | exact ⟨rfl,rfl,(t,0),rfl,by dsimp only; omega⟩
  | skip
section
attribute [local go_sem] Qbv
structure Cp where
 pg:Int
 nx:Int
 tx:List Tx
 dl:List Dt
 ix:List Rw
@[go_sem] def Cp.d (c:Cp):List DV:=[.int .i64 c.pg,.int .i64 c.nx,.pv (.sl (fz Qat c.tx)),.pv (.sl (fz QdQ c.dl)),.pv (.sl (fz Qce c.ix))]
def Cp0:Cp:=⟨0,0,[],[],[]⟩
def Cp.sm (c:Cp):Prop:=smN 65 c.tx/\c.dl.length<=10000/\c.ix.length<=64
def QFj:Cp0.sm:=⟨QU _,by decide,by decide⟩
@[go_sem] def QGN (a:Cp × Int):DV:=.tup [.agg a.1.d,.int .i64 a.2]
def Zc:List DV:=[.int .i64 0,.int .i64 0,.pv (.slc []),.pv (.slc []),.pv (.slc [])]
def QBg (k:Kn) (h:k.sm):VCalls prog 129 [.agg k.d] [] (QI QGN fun a=>a.1.sm):=by
 refine dk Tryz.func129 ?_
 have c1:=Q0 k h
 obtain ⟨h1,h2,h3,h4,h5,h6⟩:=h
 have c2:=fun n=>Qgi k (by omega) n
 have c3:=QsJ k.pl (by omega)
 (unfold Tryz.f129; refine rn trivial ?_)
 refine Ql c1 rfl ?_
 rintro b hb
 cases b
 ·skip
  refine rn F ?_
  exact ⟨rfl,rfl,(Cp0,15),rfl,QFj⟩
 have hv:=(hb rfl).1
 refine rn F ?_
 refine VLoop.nilOwnC 2 3 187 3 rfl rfl ?_
 refine rn trivial ?_
 refine Qg (fun s:{s:Nat × List Dt // s.1<=64/\s.2.length<=65 * s.1}=>⟨62,0,[(5,.int .i64 s.1.1),(4,.ptr 2 0),(2,.ptr 1 0),(1,.ptr 0 0)],[⟨45,true,k.d⟩,⟨207,true,Zc⟩,⟨207,true,[.int .i64 k.pg,.int .i64 k.nx,.pv (.sl (fz Qat k.tx)),.own 3 3 0 s.1.2.length,.pv (.sl (fz Qce k.ix))]⟩,⟨187,true,cells QdQ s.1.2⟩]⟩) (fun s=>64 - s.1.1) ⟨(0,[]),by simp⟩ (gc [0,1,2,3]) ?_
 rintro ⟨⟨i,out⟩,hi,ho⟩
 dsimp only at hi ho |-
 unfold Zc
 have hb1:(out.length + 1) * 24<=140737488355328:=by omega
 have F:=@hb1
 refine rn F ?_
 repeat' (first
  | with_reducible exact ⟨⟩
  | (refine sB F ?_ ?_<;>intro hZ)
  | (refine Ql (c2 _) rfl ?_; rintro ⟨d,b2⟩ -; refine rn F ?_)
  | (refine Ql (c3) rfl ?_; rintro l hl; refine rn F ?_))
 rotate_left 2
 ·exact ⟨rfl,rfl,(⟨k.pg,k.nx,k.tx,out,k.ix⟩,0),rfl,h4,by dsimp only; omega,h5⟩
 all_goals
  first
   | refine Qg (fun s:{s:Nat × List Dt // s.1<=l.length/\s.2.length<=65 * i + 1 + s.1}=>⟨62,0,[(46,.int .i64 s.1.1),(45,.int .i64 l.length),(44,.pv (.sl (fz QdQ l))),(5,.int .i64 i),(4,.ptr 2 0),(2,.ptr 1 0),(1,.ptr 0 0)],[⟨45,true,k.d⟩,⟨207,true,Zc⟩,⟨207,true,[.int .i64 k.pg,.int .i64 k.nx,.pv (.sl (fz Qat k.tx)),.own 3 3 0 s.1.2.length,.pv (.sl (fz Qce k.ix))]⟩,⟨187,true,cells QdQ s.1.2⟩]⟩) (fun s=>l.length - s.1.1) ⟨(0,out ++ [⟨d.pg,d.rc,d.last⟩]),by dsimp only; rw [Jc]; exact ⟨Jd _,by simp; omega⟩⟩ (by dsimp only; rw [Jc]; exact (gc [0,1,2,6])) ?_
   | refine Qg (fun s:{s:Nat × List Dt // s.1<=l.length/\s.2.length<=65 * i + 1 + s.1}=>⟨62,0,[(46,.int .i64 s.1.1),(45,.int .i64 l.length),(44,.pv (.sl (fz QdQ l))),(5,.int .i64 i),(4,.ptr 2 0),(2,.ptr 1 0),(1,.ptr 0 0)],[⟨45,true,k.d⟩,⟨207,true,Zc⟩,⟨207,true,[.int .i64 k.pg,.int .i64 k.nx,.pv (.sl (fz Qat k.tx)),.own 3 3 0 s.1.2.length,.pv (.sl (fz Qce k.ix))]⟩,⟨187,true,cells QdQ s.1.2⟩]⟩) (fun s=>l.length - s.1.1) ⟨(0,out),by dsimp only; exact ⟨Jd _,by omega⟩⟩ (gc [0,1,2,3]) ?_
  rintro ⟨⟨j,o2⟩,hj,ho2⟩
  dsimp only at hj ho2 |-
  unfold Zc
  have hy:=fun h:j < l.length=>QfO l j h
  have hb2:(o2.length + 1) * 24<=140737488355328:=by omega
  have F:=(Ja @hy @hb2)
  refine rn F ?_
  repeat' (first
   | with_reducible exact ⟨⟩
   | (refine sB F ?_ ?_<;>intro hZ))
 all_goals first
  | exact ⟨⟨(j + 1,o2),by dsimp only; omega,by dsimp only; omega⟩,by dsimp only; omega,(gc [0,1,2,3])⟩
  | exact ⟨⟨(j + 1,o2 ++ [⟨(l.getD j Dt0).pg,(l.getD j Dt0).rc,(l.getD j Dt0).last⟩]),by dsimp only; omega,by simp; omega⟩,by dsimp only; omega,by dsimp only; rw [Jc]; exact (gc [0,1,2,6])⟩
  | exact ⟨⟨(i + 1,o2),by dsimp only; omega,by dsimp only; omega⟩,by dsimp only; omega,(gc [0,1,2,3])⟩
  | skip
 all_goals skip
end
def QiH (c:Cp) (h:c.sm):VCalls prog 170 [.agg c.d] [] (QI boD fun _=>True):=by
 refine dd Tryz.func170 ?_
 obtain ⟨h1,h2,h3⟩:=h
 have h10:=h1.1
 have c1:=QbL c.tx (h1.smL (by omega))
 have c2:=fun n=>Qk1 c.dl (by omega) n
 have c3:=Qbg c.ix (by omega)
 generalize Qd7 c.tx = b1 at *
 generalize ixB c.ix = b2 at *
 (unfold Tryz.f170; refine rn trivial ?_)
 refine rn F ?_
 repeat' (first
  | with_reducible exact ⟨⟩
  | (refine sG F ?_ ?_<;>intro hZ)
  | (refine sB F ?_ ?_<;>intro hZ)
  | refine vp F (c1) ?_
  | (refine Ql (c2 _) rfl ?_; rintro b3 -; refine rn F ?_)
  | refine vp F (c3) ?_)
 all_goals first
  | exact ⟨rfl,rfl,false,rfl,trivial⟩
  | skip
 all_goals
  refine Qg (fun s:To c.tx.length=>⟨67,0,[(3,.int .i64 s.i),(1,.ptr 0 0)],[⟨207,true,c.d⟩]⟩) (fun s=>c.tx.length - s.i) ⟨0,Jd _⟩ (gc [0]) ?_
  rintro ⟨i,hi⟩
  dsimp only
  have hg:=fun h:i < c.tx.length=>Qej c.tx i h
  have F:=@hg
  refine rn F ?_
  repeat' (first
   | with_reducible exact ⟨⟩
   | (refine sB F ?_ ?_<;>intro hZ)
   | (refine Qd (id:=6) [0,1,2,3,4,5,6,7,8] [] (by kernel_rfl) (by kernel_rfl) ?_; refine rn F ?_))
 all_goals first
  | exact ⟨rfl,rfl,false,rfl,trivial⟩
  | exact ⟨rfl,rfl,true,rfl,trivial⟩
  | exact ⟨⟨i + 1,by omega⟩,by dsimp only; omega,(gc [0])⟩
  | skip
def Qxf (c:Cp) (h:c.sm):VCalls prog 130 [.agg c.d] [] (QI siD fun a=>a.1.length<=300000000):=by
 refine dd Tryz.func130 ?_
 have c1:=QiH c h
 obtain ⟨h1,h2,h3⟩:=h
 have c2:=QAQ c.tx h1
 have c3:=Qw4 c.ix h3
 have c4:=QwQ [] (by simp)
 (unfold Tryz.f130; refine rn trivial ?_)
 refine rn F ?_
 repeat' (first
  | with_reducible exact ⟨⟩
  | (refine sB F ?_ ?_<;>intro hZ)
  | (refine Ql (c1) rfl ?_; rintro b -; refine rn F ?_)
  | (refine Ql (c2) rfl ?_; rintro ⟨t,e⟩ ht; refine rn F ?_)
  | (refine Ql (c4 _) rfl ?_; rintro u1 hu1; refine rn F ?_)
  | (refine Ql (QAY u1 (by simp at hu1; omega) c.nx) rfl ?_; rintro u2 hu2; refine rn F ?_)
  | (refine Ql (QAY u2 (by simp at hu1; omega) t.length) rfl ?_; rintro u3 hu3; refine rn F ?_))
 all_goals first
  | exact ⟨rfl,rfl,([],24),rfl,by simp⟩
  | skip
 dsimp only at ht
 simp only [JJ] at hu1
 have hadd:=Qc8 (a:=u3) (b:=t) (by omega)
 have hw:(u3 ++ t).length = u3.length + t.length:=Jc
 have F:=@hadd
 refine rn F ?_
 repeat' (first
  | with_reducible exact ⟨⟩
  | (refine Ql (QwR (u3 ++ t) (by rw [hw]; omega) c.dl.length) rfl ?_; rintro u4 hu4; refine rn F ?_))
 rw [hw] at hu4
 refine Qg (fun r:{r:Nat × List UInt8 // r.1<=c.dl.length/\r.2.length = u4.length + 17 * r.1}=>⟨77,0,[(7,.int .i64 r.1.1),(6,.pv (.str r.1.2)),(1,.ptr 0 0)],[⟨207,true,c.d⟩]⟩) (fun r=>c.dl.length - r.1.1) ⟨(0,u4),by simp⟩ (gc [0]) ?_
 rintro ⟨⟨i,v⟩,hi,hv⟩
 dsimp only at hi hv |-
 have hy:=fun h:i < c.dl.length=>QfO c.dl i h
 generalize c.dl.getD i Dt0 = x at *
 have F:=@hy
 refine rn F ?_
 repeat' (first
  | with_reducible exact ⟨⟩
  | (refine sB F ?_ ?_<;>intro hZ)
  | (refine Ql (QwR v (by omega) x.pg) rfl ?_; rintro v1 hv1; refine rn F ?_)
  | (refine Ql (Qk3 v1 (by omega) x.rc) rfl ?_; rintro v2 hv2; refine rn F ?_)
  | (refine Ql (Qk3 v2 (by omega) x.last) rfl ?_; rintro v3 hv3; refine rn F ?_)
  | (refine Ql (c3) rfl ?_; rintro ⟨w,e2⟩ hw2; refine rn F ?_))
 all_goals first
  | exact ⟨⟨(i + 1,v3),by dsimp only; omega,by dsimp only; omega⟩,by dsimp only; omega,(gc [0])⟩
  | skip
 dsimp only at hw2
 have hadd2:=Qc8 (a:=v) (b:=w) (by omega)
 have F:=@hadd2
 refine rn F ?_
 exact ⟨rfl,rfl,(v ++ w,0),rfl,by dsimp only; rw [Jc]; omega⟩
def QeW (h:(Qao x n).2 = 0):Ev x (Qao x n).1:=by
 unfold Qao at h |-
 split at h
 ·simp at h
 rename_i q1
 split at h
 ·simp at h
 rename_i q2
 rw [if_neg q1,if_neg q2]
 refine ⟨rfl,List.prefix_rfl,fun hv=>?_⟩
 have hd:=QT hv
 unfold lgB at hv |-
 simp only [Jb,decide_eq_true_eq] at hv |-
 refine ⟨?_,hv.2⟩
 simp only [Lg.hd,Lg.end_] at hd q2 |-
 split<;>omega
def QiP (x:Lg) (n:Int) (h:x.es.length<=4096):(Qao x n).1.es.length<=4096:=by
 unfold Qao
 repeat' split
 all_goals first | exact Jd _ | exact h
def QqV (hq:QzF k e (k1,n1,e1)) (h:e1 = 0):(Qao k1.lg n1).2 = 0:=by
 obtain ⟨e',⟨_,_,_,hl,_⟩,hk,hn,hv⟩:=hq.2 h
 dsimp only at hk hn hv
 subst hk
 unfold Qao
 rw [if_neg (by rw [hv]; decide),if_neg]
 simp only [Kn.add,Lg.end_,Jc,JP,JJ] at *
 omega
def QDI (k:Kn) (a:Kn × Int × Int):Prop:=a.1.sm/\(a.2.2 = 0->Ev k.lg a.1.lg)
def QAS (k:Kn) (h:k.sm):VCalls prog 104 [.agg k.d] [] (QI kie (QDI k)):=by
 refine dk Tryz.func104 ?_
 have c1:=QBg k h
 have c2:=fun c hc=>Qxf c hc
 have c3:=fun t=>Qec k h ⟨0,6,0,0,0,0,Ch0,t⟩
 have e0:∀ n e,e ≠ 0->QDI k (Kn0,n,e):=fun n e h=>⟨Qb3,fun h2=>absurd h2 h⟩
 (unfold Tryz.f104; refine rn trivial ?_)
 refine rn F ?_
 repeat' (first
  | with_reducible exact ⟨⟩
  | (refine sB F ?_ ?_<;>intro hZ)
  | (refine Ql (c1) rfl ?_; rintro ⟨c,e⟩ hc; refine rn F ?_)
  | (refine Ql (c2 c hc) rfl ?_; rintro ⟨t,e2⟩ ht; refine rn F ?_)
  | (refine Ql (c3 _) rfl ?_; rintro ⟨k1,n1,e1⟩ hq; refine rn F ?_)
  | refine vp F (Qgj k1.lg (Jf hq.1.1 (by decide)) n1) ?_)
 all_goals first
  | exact ⟨rfl,rfl,(Kn0,0,21),rfl,e0 _ _ (by decide)⟩
  | exact ⟨rfl,rfl,(Kn0,0,e),rfl,e0 _ _ (by assumption)⟩
  | exact ⟨rfl,rfl,(Kn0,0,e1),rfl,e0 _ _ (by assumption)⟩
  | skip
 have he1:e1 = 0:=by omega
 obtain ⟨q1,q2,q3,q4,q5,q6,q7⟩:=Qeo hq he1
 obtain ⟨r1,r2,r3,r4,r5,r6⟩:=hq.1
 have hf:=QeW (QqV hq he1)
 exact ⟨rfl,rfl,(⟨k1.pg,k1.nx,(Qao k1.lg n1).1,k1.pl,k1.lk,k1.tx,k1.ix,k1.la⟩,n1,0),rfl,⟨QiP _ _ r1,r2,r3,r4,r5,r6⟩,fun _=>q1.trans hf⟩
def QsF (s:Sv) (hs:s.sm):VCalls prog 79 [.agg s.d] [] (QI QGA fun a=>a.1.sm/\(a.2.2 = 0->Ev s.k.lg a.1.k.lg)):=by
 refine dk Tryz.func79 ?_
 have c1:=QAS s.k hs.1
 (unfold Tryz.f79; refine rn trivial ?_)
 refine rn F ?_
 repeat' (first
  | with_reducible exact ⟨⟩
  | (refine sB F ?_ ?_<;>intro hZ)
  | (refine Ql (c1) rfl ?_; rintro ⟨k1,n1,e1⟩ hq; refine rn F ?_))
 all_goals first
  | exact ⟨rfl,rfl,(Sv0,0,e1),rfl,Qdw,fun h=>absurd h (by assumption)⟩
  | exact ⟨rfl,rfl,(⟨k1,s.v⟩,n1,0),rfl,⟨hq.1,hs.2⟩,fun _=>hq.2 (by dsimp only; omega)⟩
  | skip
@[go_sem] def niZ (a:Int × Int):DV:=.tup [.int .i64 a.1,.int .i64 a.2]
def Qed (s:List UInt8) (hs:s.length<=100000000) (a:Int) (k:Nat) (h1:1<=k) (h8:k<=8) (h0:0<=a):VCalls prog 223 [.pv (.str s),.int .i64 a,.int .i64 k] [] (QI niZ fun r=>(k<=4->0<=r.1/\r.1 < 4294967296)/\(k<=2->r.1 < 65536)/\(k<=1->r.1 < 256)/\(r.2 = 0->a + k<=s.length)):=by
 by_cases h:a + k<=s.length
 ·obtain ⟨n,rfl⟩:∃ n:Nat,a = n:=⟨a.toNat,by omega⟩
  refine (QiE s (by omega) n k ⟨h1,h8⟩ (by omega)).toS (IntKind.i64.wrap (Qmq s n k),0) rfl ⟨fun hk=>?_,fun hk=>?_,fun hk=>?_,fun _=>h⟩
  all_goals
   have e:=Qe4 s n k (by omega)
   have h2:=QlG s n k
   dsimp only
   rw [e,IntKind.wrap_i64]
  ·have:(2:Nat) ^ (8 * k)<=2 ^ 32:=JS (by omega) (by omega)
   omega
  ·have:(2:Nat) ^ (8 * k)<=2 ^ 16:=JS (by omega) (by omega)
   omega
  ·have:(2:Nat) ^ (8 * k)<=2 ^ 8:=JS (by omega) (by omega)
   omega
 ·refine (QdK s a k (by omega) h0 h).toS (0,5) rfl ⟨fun _=>by decide,fun _=>by decide,fun _=>by decide,fun h=>by simp at h⟩
structure RwS (n:Nat) where
 i:Nat
 l:List Rw
 hl:l.length = i
 hi:i<=n
@[go_sem] def ixD (a:List Rw × Int):DV:=.tup [.agg [.pv (.sl (fz Qce a.1))],.int .i64 a.2]
def Qw5 (s:List UInt8) (hs:s.length<=100000000):VCalls prog 265 [.pv (.str s)] [] (QI ixD fun a=>a.1.length<=64):=by
 refine dk Tryz.func265 ?_
 have c1:=Qed s hs 0 2 (by omega) (by omega) (by omega)
 have c8:=fun a h=>Qed s hs a 8 (by omega) (by omega) h
 (unfold Tryz.f265; refine rn trivial ?_)
 refine rn F ?_
 repeat' (first
  | with_reducible exact ⟨⟩
  | (refine sG F ?_ ?_<;>intro hZ)
  | (refine sB F ?_ ?_<;>intro hZ)
  | (refine Ql (c1) rfl ?_; rintro ⟨n,e⟩ hn; refine rn F ?_))
 all_goals first
  | exact ⟨rfl,rfl,([],_),rfl,Jd _⟩
  | skip
 dsimp only at hn
 obtain ⟨n,rfl⟩:∃ m:Nat,n = m:=⟨n.toNat,by omega⟩
 have hn2:n < 65536:=by omega
 clear hn
 refine VLoop.nilOwnC 1 0 281 3 rfl rfl ?_
 refine rn trivial ?_
 refine Qg (fun r:RwS n=>⟨77,0,[(7,.int .i64 r.i),(6,.ptr 1 0),(4,.int .i64 n),(2,.ptr 0 0),(0,.pv (.str s))],[⟨42,true,[.pv (.slc [])]⟩,⟨42,true,[.own 2 3 0 r.i]⟩,⟨281,true,cells Qce r.l⟩]⟩) (fun r=>n - r.i) ⟨0,[],rfl,Jd _⟩ (gc [0,1,2]) ?_
 rintro ⟨i,l,hl,hi⟩
 dsimp only at hi |-
 subst hl
 have hb:(l.length + 1) * 24<=140737488355328:=by omega
 have c9:=Qbg l (by omega)
 have hix:=fun h:ixB l = true=>Quc h
 generalize ixB l = ok at *
 have F:=@hb
 refine rn F ?_
 repeat' (first
  | with_reducible exact ⟨⟩
  | (refine sB F ?_ ?_<;>intro hZ)
  | (refine Ql (c8 (2 + 24 * (l.length:Int)) (by omega)) rfl ?_; rintro ⟨a1,e1⟩ h1; refine rn F ?_)
  | (refine Ql (c8 (10 + 24 * (l.length:Int)) (by omega)) rfl ?_; rintro ⟨a2,e2⟩ h2; refine rn F ?_)
  | (refine Ql (c8 (18 + 24 * (l.length:Int)) (by omega)) rfl ?_; rintro ⟨a3,e3⟩ h3; refine rn F ?_))
 ·have hl2:(l ++ [(⟨a1,a2,a3⟩:Rw)]).length = l.length + 1:=by simp
  have hil:l.length < n:=by omega
  clear h1 h2 h3
  refine ⟨⟨l.length + 1,l ++ [⟨a1,a2,a3⟩],hl2,hil⟩,by dsimp only; omega,?_⟩
  exact (gc [0,1,5])
 have hix:=fun h:ixB l = true=>Quc h
 have c9:=Qbg l (by omega)
 generalize ixB l = ok at *
 refine vl hb c9 ?_
 cases ok
 ·skip
  have F:=@hb
  refine rn F ?_
  exact ⟨rfl,rfl,([],_),rfl,Jd _⟩
 ·skip
  have F:=@hb
  refine rn F ?_
  exact ⟨rfl,rfl,(l,0),rfl,(hix rfl).2⟩
structure DtS (n m:Nat) where
 i:Nat
 a:Int
 l:List Dt
 hl:l.length = i
 hi:i<=m
 ha:a = 11 + n + 17 * i
def Qxg (s:List UInt8) (hs:s.length<=3000000):VCalls prog 261 [.pv (.str s)] [] (QI QGN fun a=>smN 64 a.1.tx/\a.1.dl.length<=256/\a.1.ix.length<=64):=by
 refine dk Tryz.func261 ?_
 have c1:=Qed s (by omega) 0 2 (by omega) (by omega) (by omega)
 have c2:=Qed s (by omega) 2 4 (by omega) (by omega) (by omega)
 have c3:=Qed s (by omega) 6 4 (by omega) (by omega) (by omega)
 have c4:=fun a h=>Qed s (by omega) a 1 (by omega) (by omega) h
 have c8:=fun a h=>Qed s (by omega) a 8 (by omega) (by omega) h
 (unfold Tryz.f261; refine rn trivial ?_)
 refine Ql c1 rfl ?_
 rintro ⟨pg,e1⟩ h1
 refine rn trivial ?_
 refine Ql c2 rfl ?_
 rintro ⟨nx,e2⟩ h2
 refine rn trivial ?_
 refine Ql c3 rfl ?_
 rintro ⟨n,e3⟩ h3
 dsimp only at h3
 obtain ⟨n,rfl⟩:∃ m:Nat,n = m:=⟨n.toNat,by omega⟩
 have hn:n < 4294967296:=by omega
 clear h3
 refine rn F ?_
 repeat' (first
  | with_reducible exact ⟨⟩
  | (refine sG F ?_ ?_<;>intro hZ)
  | (refine sB F ?_ ?_<;>intro hZ))
 all_goals first | exact ⟨rfl,rfl,(Cp0,5),rfl,QU _,Jd _,Jd _⟩ | skip
 have hns:n + 10<=s.length:=by omega
 refine Ql (c4 (10 + (n:Int)) (by omega)) rfl ?_
 rintro ⟨m,e4⟩ h4
 dsimp only at h4
 obtain ⟨m,rfl⟩:∃ k:Nat,m = k:=⟨m.toNat,by omega⟩
 have hm:m < 256:=by omega
 clear h4
 refine rn F ?_
 repeat' (first
  | with_reducible exact ⟨⟩
  | (refine sG F ?_ ?_<;>intro hZ)
  | (refine sB F ?_ ?_<;>intro hZ))
 all_goals first | exact ⟨rfl,rfl,(Cp0,5),rfl,QU _,Jd _,Jd _⟩ | skip
 have hns2:11 + n + 17 * m<=s.length:=by omega
 refine VLoop.nilOwnC 1 3 187 3 rfl rfl ?_
 refine rn trivial ?_
 generalize htx:(s.take (10 + (n:Int)).toNat).drop 10 = txs
 have htl:txs.length<=3000000:=by rw [<- htx,Kr,Ks]; omega
 refine Qg (fun r:DtS n m=>⟨130,0,[(11,.int .i64 r.i),(10,.int .i64 m),(9,.int .i64 r.a),(8,.pv (.str txs)),(4,.ptr 1 0),(2,.ptr 0 0),(0,.pv (.str s))],[⟨207,true,[.int .i64 0,.int .i64 0,.pv (.slc []),.pv (.slc []),.pv (.slc [])]⟩,⟨207,true,[.int .i64 pg,.int .i64 nx,.pv (.slc []),.own 2 3 0 r.i,.pv (.slc [])]⟩,⟨187,true,cells QdQ r.l⟩]⟩) (fun r=>m - r.i) ⟨0,10 + (n:Int) + 1,[],rfl,Jd _,by omega⟩ (gc [0,1,2]) ?_
 rintro ⟨i,a,l,hl,hi,ha⟩
 dsimp only
 subst hl
 have hb:(l.length + 1) * 24<=140737488355328:=by omega
 by_cases hil:l.length < m
 ·skip
  have F:=@hb
  refine rn F ?_
  repeat' (first
   | with_reducible exact ⟨⟩
   | (refine Ql (c4 a (by omega)) rfl ?_; rintro ⟨a1,e1⟩ h1; refine rn F ?_)
   | (refine Ql (c8 (a + 1) (by omega)) rfl ?_; rintro ⟨a2,e2⟩ h2; refine rn F ?_)
   | (refine Ql (c8 (a + 9) (by omega)) rfl ?_; rintro ⟨a3,e3⟩ h3; refine rn F ?_))
  have hl2:(l ++ [(⟨a1,a2,a3⟩:Dt)]).length = l.length + 1:=by simp
  clear h1 h2 h3
  refine ⟨⟨l.length + 1,a + 17,l ++ [⟨a1,a2,a3⟩],hl2,hil,by rw [ha]; omega⟩,by dsimp only; omega,?_⟩
  exact (gc [0,1,5])
 obtain rfl:m = l.length:=by omega
 have c9:=QpG txs htl
 have hq:smN 64 (QE0 txs).1:=by
  unfold QE0
  split
  ·exact QU _
  split
  ·exact QU _
  split
  ·exact QU _
  ·rename_i h; exact Qgf (by simpa using h)
 generalize QE0 txs = D at *
 obtain ⟨tx,et⟩:=D
 dsimp only at hq
 have ha2:0<=a/\a<=s.length:=by omega
 obtain ⟨a,rfl⟩:∃ k:Nat,a = k:=⟨a.toNat,by omega⟩
 have hsl:(s.drop a).length<=100000000:=by rw [Kr]; omega
 have hal:a<=s.length:=by omega
 have F:=(Ja @hb @hal)
 refine rn F ?_
 repeat' (first
  | with_reducible exact ⟨⟩
  | (refine sB F ?_ ?_<;>intro hZ)
  | refine vp F (c9) ?_
  | (refine Ql (Qw5 _ hsl) rfl ?_; rintro ⟨ix,ei⟩ hi2; refine rn F ?_))
 all_goals first | exact ⟨rfl,rfl,(Cp0,_),rfl,QU _,Jd _,Jd _⟩ | skip
 dsimp only at hi2
 have c10:=QiH ⟨pg,nx,tx,l,ix⟩ ⟨hq.mono (by decide),by dsimp only; omega,hi2⟩
 have F:=@hb
 refine rn F ?_
 repeat' (first
  | with_reducible exact ⟨⟩
  | (refine sB F ?_ ?_<;>intro hZ)
  | (refine Qwd (c10) ?_ (fun _=>rfl) ?_; (focus (refine rd F)); rintro b -; refine rn F ?_))
 all_goals first
  | exact ⟨rfl,rfl,(Cp0,_),rfl,QU _,Jd _,Jd _⟩
  | exact ⟨rfl,rfl,(⟨pg,nx,tx,l,ix⟩,0),rfl,hq,by dsimp only; omega,hi2⟩
  | skip
def QqL {c:Ce} (h:c.no = true):c.data.length<=12:=by
 unfold Ce.no at h
 simp only [Jb,beq_iff_eq] at h
 rw [h.2]; exact Jd _
def QyD {c:Ce} (h:c.okB = true):c.data.length<=12:=by
 unfold Ce.okB at h
 simp only [Jb,decide_eq_true_eq] at h
 exact h.1
def QeO {e:E} (h:e.okB = true):e.c.b.data.length<=12/\e.c.a.data.length<=12/\e.blob.length<=8192:=by
 unfold E.okB at h
 simp only [Jb] at h
 have h2:=h.2
 clear h
 unfold E.kindB at h2
 have nb:∀ {l:List UInt8},l == []->l.length<=8192:=fun h=>by rw [beq_iff_eq] at h; rw [h]; exact Jd _
 split at h2
 ·simp only [Jb,Ch.okB] at h2
  exact ⟨QyD h2.2.1.2,QyD h2.2.2,nb h2.1.2⟩
 split at h2
 ·simp only [Jb,Ch.okB] at h2
  exact ⟨QyD h2.2.1.2,QyD h2.2.2,nb h2.1.1.1.2⟩
 split at h2
 ·simp only [Jb,Ch.no] at h2
  exact ⟨QqL h2.2.1.2,QqL h2.2.2,nb h2.1.2⟩
 split at h2
 ·simp only [Jb,Ch.no,decide_eq_true_eq] at h2
  exact ⟨QqL h2.2.1.2,QqL h2.2.2,h2.1.2⟩
 split at h2
 ·simp only [Jb,Ch.ix] at h2
  exact ⟨QqL h2.2.1.1.1.2,QqL h2.2.1.1.2,nb h2.1.2⟩
 ·cases h2
def Qau (s:List UInt8) (c:Ce):List UInt8:=if c.set = true then Qay s c.data.length 1 ++ c.data else Qay s 255 1
def QbE (s:List UInt8) (c:Ce):(Qau s c).length<=s.length + 1 + c.data.length:=by
 unfold Qau; split
 ·rw [Jc,Qr]; exact JA _
 ·rw [Qr]; omega
def Qk9 (s:List UInt8) (hs:s.length<=100000000) (c:Ce) (hc:c.data.length<=1000000):VCalls prog 252 [.pv (.str s),.agg c.d] [] (Ret (.pv (.str (Qau s c)))):=by
 refine dd Tryz.func252 ?_
 have c1:=Qcl s (by omega) 255 1 (by omega) (by omega)
 have c2:=Qcl s (by omega) c.data.length 1 (by omega) (by omega)
 have e:Qau s c = if c.set = true then Qay s c.data.length 1 ++ c.data else Qay s 255 1:=rfl
 have hadd:=Qc8 (a:=Qay s c.data.length 1) (b:=c.data) (by rw [Qr]; omega)
 generalize Qau s c = r at *
 (unfold Tryz.f252; refine rn trivial ?_)
 have F:=@hadd
 refine rn F ?_
 repeat' (first
  | with_reducible exact ⟨⟩
  | (refine sB F ?_ ?_<;>intro hZ)
  | refine vp F (c1) ?_
  | refine vp F (c2) ?_
  | (refine Qd (id:=3) [0,1,2,3,5,6] [⟨[],[],4,[1,2,5,6],[7]⟩,⟨[],[],8,[],[]⟩] (by kernel_rfl) (by kernel_rfl) ?_; refine rn F ?_))
 all_goals first | (first | (rw [e]; simp (disch:=first | assumption | omega | exact rfl | exact nf (by assumption) | exact nt (by assumption) | decide | fail) only [if_pos,if_neg]; first | done | rfl) | (rw [e]; simp (disch:=first | assumption | omega | exact rfl | exact nf (by assumption) | exact nt (by assumption) | decide | (simp_all; done) | fail) only [if_pos,if_neg]; first | done | rfl)) | skip
def Qa5 (e:E):List UInt8:=Qay (Qay (Qay (Qay (Qay (Qay (Qay (Qay [] e.lsn 8) e.kind 1) e.tx 4) e.ptx 8) e.ppg 8) e.ref 8) e.c.pg 4) e.c.sl 1
def QdP (e:E):(Qa5 e).length = 42:=by unfold Qa5; simp only [Qr,JJ]
def Ql0 (e:E):List UInt8:=Qay (Qau (Qau (Qa5 e) e.c.b) e.c.a) e.blob.length 4 ++ e.blob
def Qij (e:E):List UInt8 × Int:=if e.okB = true then (Ql0 e,0) else ([],12)
def QBf (e:E):VCalls prog 221 [.agg e.d] [] (Ret (.tup [.pv (.str (Qij e).1),.int .i64 (Qij e).2])):=by
 refine dd Tryz.func221 ?_
 have c1:=QcG e
 unfold Qij
 cases hv:e.okB
 ·rw [hv] at c1
  (unfold Tryz.f221; refine rn trivial ?_)
  refine rn F ?_
  repeat' (first
   | with_reducible exact ⟨⟩
   | refine vp F (c1) ?_)
  all_goals rfl
 rw [hv] at c1
 obtain ⟨l1,l2,l3⟩:=QeO hv
 have n1:=QbE (Qa5 e) e.c.b
 have n2:=QbE (Qau (Qa5 e) e.c.b) e.c.a
 rw [QdP] at n1
 have p9:=Qk9 (Qa5 e) (by rw [QdP]; omega) e.c.b (by omega)
 have p10:=Qk9 (Qau (Qa5 e) e.c.b) (by omega) e.c.a (by omega)
 have p11:=Qcl (Qau (Qau (Qa5 e) e.c.b) e.c.a) (by omega) e.blob.length 4 (by omega) (by omega)
 have hadd:=Qc8 (a:=Qay (Qau (Qau (Qa5 e) e.c.b) e.c.a) e.blob.length 4) (b:=e.blob) (by rw [Qr]; omega)
 have hh:Qa5 e = Qay (Qay (Qay (Qay (Qay (Qay (Qay (Qay [] e.lsn 8) e.kind 1) e.tx 4) e.ptx 8) e.ppg 8) e.ref 8) e.c.pg 4) e.c.sl 1:=rfl
 have q:=fun (s:List UInt8) (hs:s.length<=1000) (n:Int) (k:Nat) (h1:1<=k) (h8:k<=8)=>Qcl s (by omega) n k h1 h8
 (unfold Tryz.f221; refine rn trivial ?_)
 have F:=@hh.symm
 refine rn F ?_
 repeat' (first
  | with_reducible exact ⟨⟩
  | refine vp F (c1) ?_
  | refine vp F (q _ (by simp [Qr]) _ 8 (by omega) (by omega)) ?_
  | refine vp F (q _ (by simp [Qr]) _ 1 (by omega) (by omega)) ?_
  | refine vp F (q _ (by simp [Qr]) _ 4 (by omega) (by omega)) ?_
  | (refine Qd (id:=11) [0,1,2,3,5,6,7] [⟨[],[],4,[1,2,5,6,7],[]⟩,⟨[],[],8,[0,1,2,3,5,6],[]⟩,⟨[],[],9,[],[]⟩] (by kernel_rfl) (by kernel_rfl) ?_; refine rn F ?_))
 have F:=@hadd
 refine rn F ?_
 repeat' (first
  | with_reducible exact ⟨⟩
  | refine vp F (p9) ?_
  | refine vp F (p10) ?_
  | refine vp F (p11) ?_
  | (refine Qd (id:=12) [0,1,2,3,5,6] [⟨[],[],4,[1,2,5,6],[7]⟩,⟨[],[],8,[],[]⟩,⟨[],[],9,[],[]⟩] (by kernel_rfl) (by kernel_rfl) ?_; refine rn F ?_))
 all_goals rfl
def QlZ (e:E):(Qij e).1.length<=9000:=by
 unfold Qij
 split
 ·rename_i hv
  obtain ⟨l1,l2,l3⟩:=QeO hv
  have n1:=QbE (Qa5 e) e.c.b
  have n2:=QbE (Qau (Qa5 e) e.c.b) e.c.a
  rw [QdP] at n1
  unfold Ql0
  dsimp only
  rw [Jc,Qr]
  omega
 ·exact Jd _
def Qs1 (e:E):VCalls prog 179 [.agg e.d] [] (Ret (.pv (.str (frm (Qij e).1)))):=by
 refine dd Tryz.func179 ?_
 have c1:=QBf e
 have hl:=QlZ e
 generalize Qij e = r at *
 have c2:=Qoc r.1 (by omega)
 (unfold Tryz.f179; refine rn trivial ?_)
 refine rn F ?_
 repeat' (first
  | with_reducible exact ⟨⟩
  | refine vp F (c1) ?_
  | refine vp F (c2) ?_)
 all_goals rfl
def Qdl (n:Int):List UInt8:=frm (Qay [80,77,76,71] n 8)
def Qw8 (n:Int):VCalls prog 178 [.int .i64 n] [] (Ret (.pv (.str (Qdl n)))):=by
 refine dd Tryz.func178 ?_
 have c1:=Qcl [80,77,76,71] (by simp) n 8 (by omega) (by omega)
 have c2:=Qoc (Qay [80,77,76,71] n 8) (by rw [Qr]; simp)
 (unfold Tryz.f178; refine rn trivial ?_)
 refine rn F ?_
 repeat' (first
  | with_reducible exact ⟨⟩
  | refine vp F (c1) ?_
  | refine vp F (c2) ?_)
 all_goals rfl
def frE (e:E):List UInt8:=frm (Qij e).1
def QuI (e:E):(frE e).length<=9008:=by
 have:=QlZ e
 unfold frE frm
 split
 ·rw [Qr,Jc,Qr,JJ]; omega
 ·exact Jd _
def Qrb (l:List E) (d:Int):List UInt8:=(l.filter fun e=>decide (e.lsn<=d)).flatMap frE
def Qs3 (l:List E) (d:Int):List UInt8:=(l.filter fun e=>!decide (e.lsn<=d)).flatMap frE
def QuW (l:List E) (d:Int) (i:Nat) (h:i < l.length):Qrb (l.take (i + 1)) d = if (l.getD i E0).lsn<=d then Qrb (l.take i) d ++ frE (l.getD i E0) else Qrb (l.take i) d:=by
 unfold Qrb
 rw [JK h,JX,Kc,Qm l i h]
 split<;>rename_i hx<;>simp [hx]
def Qs2 (l:List E) (d:Int) (i:Nat) (h:i < l.length):Qs3 (l.take (i + 1)) d = if (l.getD i E0).lsn<=d then Qs3 (l.take i) d else Qs3 (l.take i) d ++ frE (l.getD i E0):=by
 unfold Qs3
 rw [JK h,JX,Kc,Qm l i h]
 split<;>rename_i hx<;>simp [hx]
def Qzr (l:List E):(l.flatMap frE).length<=9008 * l.length:=by
 induction l with
 | nil=>simp
 | cons a r ih =>
   have:=QuI a
   rw [List.flatMap_cons,Jc,JP]; omega
def QoR (l:List E) (d:Int):(Qrb l d).length<=9008 * l.length:=
 Jf (Qzr _) (Kd _ (J8 _ _))
def Qof (l:List E) (d:Int):(Qs3 l d).length<=9008 * l.length:=
 Jf (Qzr _) (Kd _ (J8 _ _))
def QlP (n:Int):(Qdl n).length<=9008:=by
 unfold Qdl frm
 split
 ·rw [Qr,Jc,Qr,Qr,JJ]; simp
 ·exact Jd _
def Qdr (x:Lg) (torn:Int):List UInt8:=if lgB x = true then Qdl x.f ++ Qrb x.es x.d ++ (Qs3 x.es x.d).take torn.toNat else []
def Qog (x:Lg) (hx:x.es.length<=9223372036854775807) (torn:Int):VCalls prog 133 [.agg x.c,.int .i64 torn] [] (Ret (.pv (.str (Qdr x torn)))):=by
 refine dd Tryz.func133 ?_
 have c1:=Q8 x hx
 have c2:=Qw8 x.f
 have hh:=QlP x.f
 unfold Qdr
 (unfold Tryz.f133; refine rn trivial ?_)
 cases hv:lgB x
 ·rw [hv] at c1
  refine rn F ?_
  repeat' (first
   | with_reducible exact ⟨⟩
   | refine vp F (c1) ?_)
  all_goals rfl
 rw [hv] at c1
 have hd:=QT hv
 simp only [Lg.hd] at hd
 refine rn F ?_
 repeat' (first
  | with_reducible exact ⟨⟩
  | refine vp F (c1) ?_
  | refine vp F (c2) ?_)
 generalize Qdl x.f = H at *
 refine Qg (fun s:To x.es.length=>⟨55,0,[(7,.int .i64 s.i),(6,.pv (.str (Qs3 (x.es.take s.i) x.d))),(5,.pv (.str (H ++ Qrb (x.es.take s.i) x.d))),(2,.ptr 0 0),(1,.int .i64 torn)],[⟨32,true,x.c⟩]⟩) (fun s=>x.es.length - s.i) ⟨0,Jd _⟩ (by simp only [List.take_zero]; rw [show Qrb [] x.d = [] from rfl,show Qs3 [] x.d = [] from rfl,JU]; exact (gc [0])) ?_
 rintro ⟨i,hi⟩
 dsimp only
 have hg:=fun h:i < x.es.length=>Qbu x.es i h
 have c3:=Qs1 (x.es.getD i E0)
 have hf:=QuI (x.es.getD i E0)
 have hs1:=QuW x.es x.d i
 have hs2:=Qs2 x.es x.d i
 have l1:=QoR (x.es.take i) x.d
 have l2:=Qof (x.es.take i) x.d
 rw [Ks] at l1 l2
 have hfr:frm (Qij (x.es.getD i E0)).1 = frE (x.es.getD i E0):=rfl
 rw [hfr] at c3
 have a1:=Qc8 (a:=H ++ Qrb (x.es.take i) x.d) (b:=frE (x.es.getD i E0)) (by rw [Jc]; omega)
 have a2:=Qc8 (a:=Qs3 (x.es.take i) x.d) (b:=frE (x.es.getD i E0)) (by omega)
 have hH:(H ++ Qrb (x.es.take i) x.d).length = H.length + (Qrb (x.es.take i) x.d).length:=Jc
 have F:=(Ja @hg (Ja @a1 @a2))
 refine rn F ?_
 repeat' (first
  | with_reducible exact ⟨⟩
  | (refine sB F ?_ ?_<;>intro hZ)
  | refine vp F (c3) ?_
  | (refine Qd (id:=7) [0,1,2,3,4,5,6,7,8] [] (by kernel_rfl) (by kernel_rfl) ?_; refine rn F ?_))
 ·have d1:=hs1 (by omega)
  have d2:=hs2 (by omega)
  rw [if_pos (by first | assumption | omega)] at d1 d2
  refine ⟨⟨i + 1,by omega⟩,by dsimp only; omega,?_⟩
  dsimp only
  rw [d1,d2,<- JD]
  exact (gc [0])
 ·have d1:=hs1 (by omega)
  have d2:=hs2 (by omega)
  rw [if_neg (by first | assumption | omega)] at d1 d2
  refine ⟨⟨i + 1,by omega⟩,by dsimp only; omega,?_⟩
  dsimp only
  rw [d1,d2]
  exact (gc [0])
 ·rw [JL (show x.es.length<=i by omega)]
  congr 3
  generalize Qs3 x.es x.d = R
  by_cases h0:0 > torn
  ·rw [if_pos h0]
   rw [if_neg (by omega),show torn.toNat = (0:Int).toNat by omega]
  ·rw [if_neg h0]
   by_cases h1:(R.length:Int) < torn
   ·rw [if_pos h1,JE,Km,JL (by omega)]
   ·rw [if_neg h1]
@[go_sem] def ltD (a:Cp × Int × Bool):DV:=.tup [.agg a.1.d,.int .i64 a.2.1,.bool a.2.2]
def QEA (h:lgB x = true):∀ i,i < x.es.length->(x.es.getD i E0).blob.length<=8192:=by
 unfold lgB at h
 simp only [Jb,Jo,Je] at h
 intro i hi
 have:=h.2 i hi
 simp only [lgC,Jb] at this
 exact (QeO this.2).2.2
def cpQ (c:Cp):Prop:=smN 64 c.tx/\c.dl.length<=256/\c.ix.length<=64
def QFk:cpQ Cp0:=⟨QU _,Jd _,Jd _⟩
def QsW (x:Lg) (hx:x.es.length<=1000000):VCalls prog 256 [.agg x.c] [] (QI ltD fun a=>cpQ a.1):=by
 refine dk Tryz.func256 ?_
 have c1:=Q8 x (by omega)
 (unfold Tryz.f256; refine rn trivial ?_)
 cases hv:lgB x
 ·rw [hv] at c1
  refine rn F ?_
  repeat' (first
   | with_reducible exact ⟨⟩
   | refine vp F (c1) ?_)
  exact ⟨rfl,rfl,(Cp0,0,false),rfl,QFk⟩
 rw [hv] at c1
 have hs:=QEA hv
 refine rn F ?_
 repeat' (first
  | with_reducible exact ⟨⟩
  | refine vp F (c1) ?_)
 refine Qg (fun r:{r:To x.es.length × Int // r.2 = (r.1.i:Int) - 1}=>⟨47,0,[(5,.int .i64 r.1.2),(2,.ptr 1 0),(1,.ptr 0 0)],[⟨32,true,x.c⟩,⟨207,true,Zc⟩]⟩) (fun r=>r.1.1.i) ⟨(⟨x.es.length,JA _⟩,(x.es.length:Int) - 1),rfl⟩ (gc [0,1]) ?_
 rintro ⟨⟨⟨k,hk⟩,j⟩,hj⟩
 dsimp only at hj |-
 unfold Zc
 by_cases h0:k = 0
 ·subst h0
  have hj2:¬ j >= 0:=by omega
  have F:=@hj2
  refine rn F ?_
  exact ⟨rfl,rfl,(Cp0,0,false),rfl,QFk⟩
 obtain ⟨i,rfl⟩:∃ i,k = i + 1:=⟨k - 1,by omega⟩
 obtain rfl:j = (i:Int):=by omega
 have hg:=Qbu x.es i (by omega)
 have hb:=hs i (by omega)
 have c2:=Qxg (x.es.getD i E0).blob (by omega)
 have F:=@hg
 refine rn F ?_
 repeat' (first
  | with_reducible exact ⟨⟩
  | (refine sB F ?_ ?_<;>intro hZ)
  | (refine Ql (c2) rfl ?_; rintro ⟨c,e⟩ hc; refine rn F ?_)
  | (refine Qd (id:=9) [0,1,2,3,4,5,6] [⟨[],[],7,[1,2,3,4,5,6],[]⟩,⟨[],[],8,[],[]⟩,⟨[],[],9,[],[]⟩] (by kernel_rfl) (by kernel_rfl) ?_; refine rn F ?_))
 all_goals first
  | exact ⟨⟨(⟨i,by omega⟩,(i:Int) - 1),rfl⟩,by dsimp only; omega,(gc [0,1])⟩
  | exact ⟨rfl,rfl,(c,_,true),rfl,hc⟩
  | skip
structure DyS (n:Nat) where
 i:Nat
 d:Bool
 out:List Dt
 hi:i<=n
 ho:out.length<=i + d.toNat
@[go_sem] def dtL (l:List Dt):DV:=.pv (.sl (fz QdQ l))
def Qxd (l:List Dt) (hl:l.length<=1000000) (e:E):VCalls prog 257 [.pv (.sl (fz QdQ l)),.agg e.d] [] (QI dtL fun m=>m.length<=l.length + 1):=by
 refine dk Tryz.func257 ?_
 have c1:=QaW e
 generalize (e.kind == 1 || e.kind == 2) = ch at *
 (unfold Tryz.f257; refine rn trivial ?_)
 refine rn F ?_
 repeat' (first
  | with_reducible exact ⟨⟩
  | (refine sG F ?_ ?_<;>intro hZ)
  | (refine sB F ?_ ?_<;>intro hZ)
  | refine vp F (c1) ?_)
 all_goals first
  | exact ⟨rfl,rfl,l,rfl,KC _⟩
  | skip
 all_goals
  refine VLoop.nilOwn 5 187 3 rfl ?_
  refine Qg (fun s:DyS l.length=>⟨100,0,[(7,.int .i64 s.i),(6,.bool s.d),(5,.own 1 3 0 s.out.length),(3,.ptr 0 0),(0,.pv (.sl (fz QdQ l)))],[⟨73,true,e.d⟩,⟨187,true,cells QdQ s.out⟩]⟩) (fun s=>l.length - s.i) ⟨0,false,[],Jd _,Jd _⟩ (gc [0,1]) ?_
  rintro ⟨i,d,out,hi,ho⟩
  dsimp only
  have hg:=fun h:i < l.length=>QfO l i h
  generalize l.getD i Dt0 = x at *
  have ho3:out.length<=i + 1:=Jf ho (Nat.add_le_add_left (Bool.toNat_le d) i)
  have hb1:(out.length + 1) * 24<=140737488355328:=Jf (Ka 24 (show out.length + 1<=1000002 by omega)) (by decide)
  have hb2:(out.length + 1 + 1) * 24<=140737488355328:=Jf (Ka 24 (show out.length + 1 + 1<=1000003 by omega)) (by decide)
  cases d
 all_goals first | simp only [Bool.toNat_false,Nat.add_zero] at ho | simp only [Bool.toNat_true] at ho
 all_goals
  have F:=(Ja @hg (Ja @hb1 @hb2))
  refine rn F ?_
  repeat' (first
   | with_reducible exact ⟨⟩
   | (refine sG F ?_ ?_<;>intro hZ)
   | (refine sB F ?_ ?_<;>intro hZ)
   | refine vp F (c1) ?_)
 all_goals first
  | exact ⟨rfl,rfl,out,rfl,by omega⟩
  | exact ⟨rfl,rfl,_,rfl,by simp; omega⟩
  | exact ⟨⟨i + 1,false,out,by omega,by simp; omega⟩,by dsimp only; omega,(gc [0,1])⟩
  | exact ⟨⟨i + 1,true,out,by omega,by simp; omega⟩,by dsimp only; omega,(gc [0,1])⟩
  | (refine ⟨⟨i + 1,false,out ++ [⟨x.pg,x.rc,x.last⟩],by omega,by simp; omega⟩,by dsimp only; omega,?_⟩; dsimp only; rw [Jc]; exact (gc [0,4]))
  | (refine ⟨⟨i + 1,true,out ++ [⟨x.pg,x.rc,x.last⟩],by omega,by simp; omega⟩,by dsimp only; omega,?_⟩; dsimp only; rw [Jc]; exact (gc [0,4]))
  | (refine ⟨⟨i + 1,true,out ++ [⟨e.c.pg,e.lsn,e.lsn⟩] ++ [⟨x.pg,x.rc,x.last⟩],by omega,by simp; omega⟩,by dsimp only; omega,?_⟩; dsimp only; rw [Jc,Jc]; exact (gc [0,6]))
  | (refine ⟨⟨i + 1,false,out ++ [⟨x.pg,x.rc,e.lsn⟩],by omega,by simp; omega⟩,by dsimp only; omega,?_⟩; dsimp only; rw [Jc]; exact (gc [0,4]))
  | (refine ⟨⟨i + 1,true,out ++ [⟨x.pg,x.rc,e.lsn⟩],by omega,by simp; omega⟩,by dsimp only; omega,?_⟩; dsimp only; rw [Jc]; exact (gc [0,4]))
  | (refine ⟨⟨i + 1,true,out ++ [⟨e.c.pg,e.lsn,e.lsn⟩] ++ [⟨x.pg,x.rc,e.lsn⟩],by omega,by simp; omega⟩,by dsimp only; omega,?_⟩; dsimp only; rw [Jc,Jc]; exact (gc [0,6]))
  | (refine ⟨⟨i + 1,false,out ++ [⟨x.pg,IntKind.i64.wrap (e.ref + 1),x.last⟩],by omega,by simp; omega⟩,by dsimp only; omega,?_⟩; dsimp only; rw [Jc]; exact (gc [0,4]))
  | (refine ⟨⟨i + 1,true,out ++ [⟨x.pg,IntKind.i64.wrap (e.ref + 1),x.last⟩],by omega,by simp; omega⟩,by dsimp only; omega,?_⟩; dsimp only; rw [Jc]; exact (gc [0,4]))
  | (refine ⟨⟨i + 1,true,out ++ [⟨e.c.pg,e.lsn,e.lsn⟩] ++ [⟨x.pg,IntKind.i64.wrap (e.ref + 1),x.last⟩],by omega,by simp; omega⟩,by dsimp only; omega,?_⟩; dsimp only; rw [Jc,Jc]; exact (gc [0,6]))
  | skip
def QsV (a b:Gr):VCalls prog 262 [.agg a.d,.agg b.d] [] (QI boD fun _=>True):=by
 refine dd Tryz.func262 ?_
 (unfold Tryz.f262; refine rn trivial ?_)
 refine rn F ?_
 repeat' (first
  | with_reducible exact ⟨⟩
  | (refine sB F ?_ ?_<;>intro hZ))
 all_goals exact ⟨rfl,rfl,_,rfl,trivial⟩
@[go_sem] def grL (l:List Gr):DV:=.pv (.sl (fz Qaz l))
def Qss (l:List Gr) (hl:l.length<=10000000) (g:Gr):VCalls prog 258 [.pv (.sl (fz Qaz l)),.agg g.d] [] (QI grL fun m=>m.length<=l.length + 1):=by
 refine dk Tryz.func258 ?_
 have c1:=fun a=>QsV a g
 (unfold Tryz.f258; refine rn trivial ?_)
 refine Qg (fun s:To l.length=>⟨44,0,[(5,.int .i64 s.i),(3,.ptr 0 0),(0,.pv (.sl (fz Qaz l)))],[⟨219,true,g.d⟩]⟩) (fun s=>l.length - s.i) ⟨0,Jd _⟩ (gc [0]) ?_
 rintro ⟨i,hi⟩
 dsimp only
 have hg:=fun h:i < l.length=>QaK l i h
 by_cases hil:i < l.length
 ·have hg:=QaK l i hil
  have c2:=QsV (l.getD i Gr0) g
  generalize l.getD i Gr0 = x at *
  have he:=QvD x.tx x.pg x.sl x.md g.tx g.pg g.sl g.md
  have hb:(i + 1 + (l.length - i)) * 32<=140737488355328:=by omega
  have F:=(Ja @hg (Ja @he @hb))
  refine rn F ?_
  repeat' (first
   | with_reducible exact ⟨⟩
   | (refine sB F ?_ ?_<;>intro hZ)
   | (refine Ql (c2) rfl ?_; rintro b -; refine rn F ?_)
   | (refine Qd (id:=2) [0,1,2,3,4,5,6,7,8,9] [⟨[],[],10,[0,1,2,3,5,6,7],[11]⟩] (by kernel_rfl) (by kernel_rfl) ?_; refine rn F ?_)
   | (refine Qd (id:=4) [0,1,2,3,4,5,6,7,8,9,10,11] [] (by kernel_rfl) (by kernel_rfl) ?_; refine rn F ?_)
   | (refine Qd (id:=6) [0,1,2,4,7,8,9] [⟨[5],[],3,[0,1,4,7,8,9],[]⟩,⟨[5],[5],6,[0,1,2,4,7,8,9],[]⟩,⟨[],[],10,[0,1,2,4,7,8],[]⟩,⟨[],[],11,[],[]⟩] (by kernel_rfl) (by kernel_rfl) ?_; refine rn F ?_))
  all_goals first
   | exact ⟨⟨i + 1,by omega⟩,by dsimp only; omega,(gc [0])⟩
   | exact ⟨rfl,rfl,l,rfl,KC _⟩
   | exact ⟨rfl,rfl,_,rfl,by simp; omega⟩
   | skip
 ·skip
  have F:=trivial
  refine rn F ?_
  repeat' (first
   | with_reducible exact ⟨⟩
   | (refine Qd (id:=2) [0,1,2,3,4,5,6,7,8,9] [⟨[],[],10,[0,1,2,3,5,6,7],[11]⟩] (by kernel_rfl) (by kernel_rfl) ?_; refine rn F ?_)
   | (refine Qd (id:=4) [0,1,2,3,4,5,6,7,8,9,10,11] [] (by kernel_rfl) (by kernel_rfl) ?_; refine rn F ?_)
   | (refine Qd (id:=6) [0,1,2,4,7,8,9] [⟨[5],[],3,[0,1,4,7,8,9],[]⟩,⟨[5],[5],6,[0,1,2,4,7,8,9],[]⟩,⟨[],[],10,[0,1,2,4,7,8],[]⟩,⟨[],[],11,[],[]⟩] (by kernel_rfl) (by kernel_rfl) ?_; refine rn F ?_))
  exact ⟨rfl,rfl,_,rfl,by simp; omega⟩
@[go_sem] def lkR (a:List Gr × Int):DV:=.tup [.pv (.sl (fz Qaz a.1)),.int .i64 a.2]
structure LkO (n:Nat) where
 i:Nat
 out:List Gr
 hi:i<=n
 ho:out.length<=100000 * i
structure LkI (n i:Nat) where
 k:Nat
 out:List Gr
 hk:k<=n
 ho:out.length<=100000 * i + k
def QwY (x:Lg) (hx:x.es.length<=1000000) (l:List Tx) (hl:smN 65 l):VCalls prog 227 [.agg x.c,.pv (.sl (fz Qat l))] [] (QI lkR fun a=>a.1.length<=6500000):=by
 refine dk Tryz.func227 ?_
 have h65:=hl.1
 (unfold Tryz.f227; refine rn trivial ?_)
 refine VLoop.wkS ?_
 refine rn trivial ?_
 refine Qg (fun s:LkO l.length=>⟨68,0,[(7,.int .i64 s.i),(6,.pv (.sl (fz Qaz s.out))),(2,.ptr 0 0),(1,.pv (.sl (fz Qat l)))],[⟨32,true,x.c⟩]⟩) (fun s=>l.length - s.i) ⟨0,[],Jd _,Jd _⟩ (gc [0]) ?_
 rintro ⟨i,out,hi,ho⟩
 dsimp only
 by_cases hil:i < l.length
 rotate_left
 ·skip
  refine rn F ?_
  exact ⟨rfl,rfl,(out,0),rfl,by dsimp only; omega⟩
 have hg:=Qej l i hil
 have hss:(l.getD i Tx0).l.length<=100000:=by rw [Qm _ _ hil]; exact (hl.2 _ (JR hil)).1
 generalize l.getD i Tx0 = t at *
 refine rn F ?_
 refine Qg (fun s:LkI t.l.length i=>⟨68,0,[(8,.int .i64 s.k),(7,.int .i64 i),(6,.pv (.sl (fz Qaz s.out))),(2,.ptr 0 0),(1,.pv (.sl (fz Qat l)))],[⟨32,true,x.c⟩]⟩) (fun s=>t.l.length - s.k) ⟨0,out,Jd _,ho⟩ (gc [0]) ?_
 rintro ⟨k,out2,hk,ho2⟩
 dsimp only
 by_cases hkl:k < t.l.length
 rotate_left
 ·skip
  have F:=@hg
  refine rn F ?_
  exact ⟨⟨i + 1,out2,hil,by rw [KB]; omega⟩,by dsimp only; omega,(gc [0])⟩
 have hg2:=Qae t.l k hkl
 have c1:=QiF x (by omega) (t.l.getD k 0)
 generalize QfN x (t.l.getD k 0) = r at *
 obtain ⟨e,f⟩:=r
 dsimp only at c1
 have c2:=Qss out2 (by omega) ⟨e.tx,e.c.pg,e.c.sl,2⟩
 have F:=(Ja @hg @hg2)
 refine rn F ?_
 repeat' (first
  | with_reducible exact ⟨⟩
  | (refine sG F ?_ ?_<;>intro hZ)
  | (refine sB F ?_ ?_<;>intro hZ)
  | refine vp F (c1) ?_
  | (refine Ql (c2) rfl ?_; rintro m hm; refine rn F ?_)
  | (refine Qd (id:=8) [0,1,2,3,4,5,6,7,8] [⟨[13],[],9,[1,2,3,4,5,6,7],[10,11,12]⟩,⟨[13],[13],14,[12],[]⟩,⟨[],[],15,[],[]⟩] (by kernel_rfl) (by kernel_rfl) ?_; refine rn F ?_)
  | (refine Qd (id:=11) [0,1,2,3,4,5,6,7,8,9,10,11,12] [] (by kernel_rfl) (by kernel_rfl) ?_; refine rn F ?_))
 all_goals first
  | exact ⟨rfl,rfl,([],_),rfl,Jd _⟩
  | exact ⟨⟨k + 1,m,hkl,by omega⟩,by dsimp only; omega,(gc [0])⟩
  | skip
structure An where
 pg:Int
 nx:Int
 cp:Int
 lo:List Tx
 lk:List Gr
 la:List Dt
 ix:List Rw
@[go_sem] def An.d (a:An):List DV:=[.int .i64 a.pg,.int .i64 a.nx,.int .i64 a.cp,.pv (.sl (fz Qat a.lo)),.pv (.sl (fz Qaz a.lk)),.pv (.sl (fz QdQ a.la)),.pv (.sl (fz Qce a.ix))]
def An0:An:=⟨0,0,0,[],[],[],[]⟩
def An.sm (a:An) (n:Nat):Prop:=smN 65 a.lo/\a.lk.length<=6500000/\a.la.length<=n/\a.ix.length<=64
def QvK (n:Nat):An0.sm n:=⟨QU _,Jd _,Jd _,Jd _⟩
@[go_sem] def anD (a:An × Int):DV:=.tup [.agg a.1.d,.int .i64 a.2]
def QsR (a:An) (n:Nat) (hn:n<=100000) (ha:a.sm n) (e:E):VCalls prog 226 [.agg a.d,.agg e.d] [] (QI anD fun r=>r.1.sm (n + 1)):=by
 refine dk Tryz.func226 ?_
 obtain ⟨h1,h2,h3,h4⟩:=ha
 have hl:=h1.1
 have c1:=Qb6 a.lo (by omega) e.tx
 have c2:=Qoi a.lo (h1.smL (by omega)) e.tx
 have c3:=Qm1 a.lo (h1.smL (by omega)) e
 have hs2:=Qmb (l:=a.lo) e.tx
 have hs3:=QjI (l:=a.lo) e
 have c4:=Qm1 (Qcz a.lo e.tx).1 (hs2.smL (by omega)) e
 have hs4:=QjI (l:=(Qcz a.lo e.tx).1) e
 have c5:=Qk7 a.ix (by omega) e
 have h5:=Qly a.ix e h4
 have c6:=QaW e
 have c7:=Qxd a.la (by omega) e
 generalize Qb9 (Qcz a.lo e.tx).1 e = N2 at *
 generalize Qcz a.lo e.tx = B at *
 generalize Qb9 a.lo e = N1 at *
 generalize Qhi a.ix e = R at *
 generalize (e.kind == 1 || e.kind == 2) = ch at *
 generalize idT a.lo e.tx = f at *
 obtain ⟨b,eb⟩:=B
 obtain ⟨n1,e1⟩:=N1
 obtain ⟨n2,e2⟩:=N2
 obtain ⟨r,er⟩:=R
 dsimp only at *
 have old:∀ z,QI anD (fun r=>r.1.sm (n + 1)) (anD (a,z)) []:=fun z=>⟨rfl,rfl,(a,z),rfl,h1,h2,by dsimp only; omega,h4⟩
 (unfold Tryz.f226; refine rn trivial ?_)
 refine rn F ?_
 repeat' (first
  | with_reducible exact ⟨⟩
  | (refine sG F ?_ ?_<;>intro hZ)
  | (refine sB F ?_ ?_<;>intro hZ)
  | refine vp F (c1) ?_
  | refine vp F (c2) ?_
  | refine vp F (c3) ?_
  | refine vp F (c4) ?_
  | refine vp F (c5) ?_
  | refine vp F (c6) ?_
  | (refine Ql (c7) rfl ?_; rintro la hla; refine rn F ?_))
 all_goals first
  | exact old _
  | exact ⟨rfl,rfl,(⟨a.pg,_,a.cp,b,a.lk,a.la,a.ix⟩,_),rfl,hs2,h2,by dsimp only; omega,h4⟩
  | exact ⟨rfl,rfl,(⟨a.pg,_,a.cp,n1,a.lk,a.la,a.ix⟩,_),rfl,hs3,h2,by dsimp only; omega,h4⟩
  | exact ⟨rfl,rfl,(⟨a.pg,_,a.cp,n1,a.lk,a.la,r⟩,_),rfl,hs3,h2,by dsimp only; omega,h5⟩
  | exact ⟨rfl,rfl,(⟨a.pg,_,a.cp,n1,a.lk,la,r⟩,_),rfl,hs3,h2,Jf hla (Kt h3),h5⟩
  | exact ⟨rfl,rfl,(⟨a.pg,_,a.cp,n2,a.lk,a.la,a.ix⟩,_),rfl,hs4,h2,by dsimp only; omega,h4⟩
  | exact ⟨rfl,rfl,(⟨a.pg,_,a.cp,n2,a.lk,a.la,r⟩,_),rfl,hs4,h2,by dsimp only; omega,h5⟩
  | exact ⟨rfl,rfl,(⟨a.pg,_,a.cp,n2,a.lk,la,r⟩,_),rfl,hs4,h2,Jf hla (Kt h3),h5⟩
def QpQ (x:Lg) (hx:x.es.length<=1000000) (n:Int):VCalls prog 225 [.agg x.c,.int .i64 n] [] (QI anD fun r=>r.1.sm 256):=by
 refine dk Tryz.func225 ?_
 have c1:=QsW x hx
 have c2:=Qob n
 (unfold Tryz.f225; refine rn trivial ?_)
 refine rn F ?_
 repeat' (first
  | with_reducible exact ⟨⟩
  | (refine sB F ?_ ?_<;>intro hZ)
  | (refine Ql (c1) rfl ?_; rintro ⟨c,at_,ok⟩ hc; refine rn F ?_)
  | (refine Ql (c2) rfl ?_; rintro ⟨ix,e⟩ hi; refine rn F ?_))
 all_goals first
  | exact ⟨rfl,rfl,(An0,24),rfl,QvK _⟩
  | exact ⟨rfl,rfl,(⟨n,1,0,[],[],[],ix⟩,0),rfl,QU _,Jd _,Jd _,hi⟩
  | exact ⟨rfl,rfl,(⟨n,c.nx,at_,c.tx,[],c.dl,c.ix⟩,0),rfl,hc.1.mono (by decide),Jd _,hc.2.1,hc.2.2⟩
  | skip
end Go.Proofs.YtdkdbodcffiiaaaGreat
