/-
  Contracts of functions and plain laws. No condition.
-/
import Derived.Test.YtdkdbodcffiiaaaGreatP3
import Derived.Test.YtdkdbodcffiiaaaGreatV4
import Derived.Test.YtdkdbodcffiiaaaGreatP1
import Derived.Test.YtdkdbodcffiiaaaGreatV3
import Derived.Test.YtdkdbodcffiiaaaGreatV2
set_option linter.unusedSimpArgs false
set_option linter.unusedVariables false
set_option linter.defProp false
set_option maxRecDepth 100000
set_option maxHeartbeats 8000000
set_option autoImplicit true
set_option relaxedAutoImplicit true
open And renaming intro->Ja
open Bool renaming and_eq_true->Jx
open Int renaming reduceAdd->Jn,reduceBEq->Js,toNat_natCast->Jt,natCast_pow->JH,le_refl->JM
open List renaming length_append->Jc,append_assoc->Je,getD_eq_getElem?_getD->Jf,length_cons->Jg,length_take->Jh,flatMap_cons->Ji,take_of_length_le->Jj,append_nil->Jl,getElem?_eq_some_iff->Jo,length_drop->Jp,prefix_append->Jq,getD_cons_succ->Ju,getElem?_append_right->Jv,all_eq_true->Jw,prefix_refl->Jy,length_set->Jz,take_succ_cons->JB,map_cons->JC,getElem?_take->JD,getElem_mem->JE,filter_cons->JF,idxOf_cons->JG,nil_append->JI,drop_left->JJ,mem_range->JK,take_zero->JL,range->JN
open Nat renaming zero_le->Jb,le_succ_of_le->Jd,le_trans->Jk,reduceAdd->Jm,reduceBEq->Jr,le_refl->JA
namespace Go.Proofs.YtdkdbodcffiiaaaGreat
open Go.V Go
open Tryz (prog)
section
attribute [local go_sem] QBL QDk QDO QDN Quz Qga QcP Qdk Qct Qa2 QaF
structure AnS (x:Lg) where
 i:Nat
 a:An
 hi:i<=x.es.length
 ha:a.sm (256 + i)
structure LoS (l:List Tx) where
 i:Nat
 out:List Tx
 hi:i<=l.length
 ho:out.length<=i
 hs:∀ t ∈ out,t.ss
def Za:List DV:=[.int .i64 0,.int .i64 0,.int .i64 0,.pv (.slc []),.pv (.slc []),.pv (.slc []),.pv (.slc [])]
def Qmf (x:Lg) (hx:x.es.length<=4096) (a:An) (ha:a.sm 10000) (out:List Tx) (ho:smN 65 out):VWp prog (QcJ 8 (QcP Tryz.f181)) (Qkl prog [ResultVar.cell 4 270,ResultVar.tmp 5] 0 (QI anD fun r=>r.1.sm 10000)) ⟨98,0,[(9,.pv (.sl (fz Qat out))),(6,.ptr 2 0),(4,.ptr 1 0),(2,.ptr 0 0)],[⟨32,true,x.c⟩,⟨270,true,Za⟩,⟨270,true,a.d⟩]⟩:=by
 refine Qv _ _ _ ?_
 have c4:=QwY x (by omega) out ho
 unfold Za
 (unfold Tryz.f181; refine rn trivial ?_)
 refine rn F ?_
 repeat' (first
  | with_reducible exact ⟨⟩
  | (refine sB F ?_ ?_<;>intro hZ)
  | (refine Ql (c4) rfl ?_; rintro ⟨lk,e⟩ hlk; refine rn F ?_))
 ·exact ⟨rfl,rfl,(An0,_),rfl,QvK _⟩
 ·exact ⟨rfl,rfl,(⟨a.pg,a.nx,a.cp,out,lk,a.la,a.ix⟩,0),rfl,ho,hlk,ha.2.2.1,ha.2.2.2⟩
def QpR (x:Lg) (hx:x.es.length<=4096) (n:Int):VCalls prog 181 [.agg x.c,.int .i64 n] [] (QI anD fun r=>r.1.sm 10000):=by
 refine QbY (fn:=Tryz.f181) (c:=QcP Tryz.f181) Tryz.func181 rfl (by kernel_rfl) (by simp [Tryz.f181]) (VWp.postK ?_)
 refine QDx 8 ?_
 have tail:=fun a ha out ho=>Qmf x hx a ha out ho
 generalize QcJ 8 (QcP Tryz.f181) = rest at *
 have c1:=Q8 x (by omega)
 have c2:=QpQ x (by omega) n
 generalize lgB x = ok at *
 have err:∀ z,QI anD (fun r=>r.1.sm 10000) (anD (An0,z)) []:=fun z=>⟨rfl,rfl,(An0,z),rfl,QvK _⟩
 (unfold Tryz.f181; refine rn trivial ?_)
 refine rn F ?_
 repeat' (first
  | with_reducible exact ⟨⟩
  | (refine sG F ?_ ?_<;>intro hZ)
  | (refine sB F ?_ ?_<;>intro hZ)
  | refine vp F (c1) ?_
  | (refine Ql (c2) rfl ?_; rintro ⟨a0,e0⟩ h0; refine rn F ?_))
 all_goals first | exact err _ | skip
 dsimp only at h0
 refine Qg (fun s:AnS x=>⟨98,0,[(8,.int .i64 s.i),(6,.ptr 2 0),(4,.ptr 1 0),(2,.ptr 0 0)],[⟨32,true,x.c⟩,⟨270,true,Za⟩,⟨270,true,s.a.d⟩]⟩) (fun s=>x.es.length - s.i) ⟨0,a0,Jb _,h0⟩ (gc [0,1,2]) ?_
 rintro ⟨i,a,hi,ha⟩
 dsimp only
 unfold Za
 by_cases hil:i < x.es.length
 ·have hg:=Qbu x.es i hil
  have c3:=QsR a (256 + i) (by omega) ha (x.es.getD i E0)
  generalize x.es.getD i E0 = e at *
  have F:=@hg
  refine rn F ?_
  repeat' (first
   | with_reducible exact ⟨⟩
   | (refine sB F ?_ ?_<;>intro hZ)
   | (refine Ql (c3) rfl ?_; rintro ⟨a1,e1⟩ h1; refine rn F ?_)
   | (refine Qd (id:=11) [0,1,2,3,4,5,6,7,8] [] (by kernel_rfl) (by kernel_rfl) ?_; refine rn F ?_)
   | (refine Qd (id:=12) [0,1,2,3,4,5] [⟨[],[],6,[1,2,3,4],[7,8,9]⟩,⟨[],[],10,[9],[]⟩,⟨[],[],11,[],[]⟩] (by kernel_rfl) (by kernel_rfl) ?_; refine rn F ?_))
  all_goals first
   | exact err _
   | exact ⟨⟨i + 1,a,hil,ha.1,ha.2.1,Jd ha.2.2.1,ha.2.2.2⟩,by dsimp only; omega,(gc [0,1,2])⟩
   | exact ⟨⟨i + 1,a1,hil,h1⟩,by dsimp only; omega,(gc [0,1,2])⟩
   | skip
 have F:=trivial
 refine rn F ?_
 refine VLoop.nilOwn 9 215 6 rfl ?_
 have hlo:=ha.1.1
 refine Qg (fun s:LoS a.lo=>⟨98,0,[(10,.int .i64 s.i),(9,.own 3 6 0 s.out.length),(6,.ptr 2 0),(4,.ptr 1 0),(2,.ptr 0 0)],[⟨32,true,x.c⟩,⟨270,true,Za⟩,⟨270,true,a.d⟩,⟨215,true,cells Qat s.out⟩]⟩) (fun s=>a.lo.length - s.i) ⟨0,[],Jb _,Jb _,fun t h=>by simp at h⟩ (gc [0,1,2,3]) ?_
 rintro ⟨k,out,hk,ho,hs⟩
 dsimp only
 unfold Za
 by_cases hkl:k < a.lo.length
 ·have hg:=Qej a.lo k hkl
  have hss:(a.lo.getD k Tx0).ss:=by rw [Qm _ _ hkl]; exact ha.1.2 _ (JE hkl)
  have hb:(out.length + 1) * 80<=140737488355328:=Jk (Nat.mul_le_mul_right 80 (show out.length + 1<=1000 by omega)) (by decide)
  generalize a.lo.getD k Tx0 = t at *
  have F:=(Ja @hg @hb)
  refine rn F ?_
  repeat' (first
   | with_reducible exact ⟨⟩
   | (refine sB F ?_ ?_<;>intro hZ))
  ·have hl2:(out ++ [t]).length = out.length + 1:=by simp
   refine ⟨⟨k + 1,out ++ [t],hkl,by rw [hl2]; omega,fun z hz=>?_⟩,by dsimp only; omega,?_⟩
   ·rcases List.mem_append.1 hz with h | h
    ·exact hs z h
    ·rw [List.mem_singleton.1 h]; exact hss
   dsimp only
   rw [hl2]
   exact (gc [0,1,2,5])
  ·exact ⟨⟨k + 1,out,hkl,by omega,hs⟩,by dsimp only; omega,(gc [0,1,2,3])⟩
 have hsm:smN 65 out:=⟨by omega,hs⟩
 have F:=trivial
 refine rn F ?_
 refine ⟨⟨98,0,[(9,.pv (.sl (fz Qat out))),(6,.ptr 2 0),(4,.ptr 1 0),(2,.ptr 0 0)],[⟨32,true,x.c⟩,⟨270,true,Za⟩,⟨270,true,a.d⟩]⟩,.fzN (n:=3) ⟨rfl,rfl,Jb _,by simp,?_,?_⟩,tail a (by have:=ha; exact ⟨this.1,this.2.1,Jk this.2.2.1 (by omega),this.2.2.2⟩) out hsm⟩
 ·rfl
 ·refine ⟨?_,rfl,rfl,rfl,trivial⟩
  (refine rn trivial ?_; try with_reducible exact ⟨⟩)
end
section
attribute [local go_sem] Qbj
structure Rd where
 tx:Int
 pg:Int
 sl:Int
 at_:Int
 cell:Ce
def Qmo:Enc Rd:=⟨6,fun r=>[.lit (.int .i64 r.tx),.lit (.int .i64 r.pg),.lit (.int .i64 r.sl),.lit (.int .i64 r.at_),.lit (.bool r.cell.set),.str r.cell.data],by decide,fun _=>rfl⟩
def QGJ (l:List Rd):(cells Qmo l).length = l.length * 6:=Qy Qmo l
def QHy (l:List Rd) (n:Nat) (h:l.length * 6<=n):(cells Qmo l).take n = cells Qmo l:=by rw [Jj]; rw [QGJ]; exact h
def QHj (h:l.length = len):Qgy n hp 0 6 len (some (cells Qmo l)) = some (.sl (fz Qmo l)):=QZ Qmo h
def QGr (l:List Rd) (a b c d:Int) (x:Bool) (s:List UInt8):cells Qmo l ++ [.pv (.lit (.int .i64 a)),.pv (.lit (.int .i64 b)),.pv (.lit (.int .i64 c)),.pv (.lit (.int .i64 d)),.pv (.lit (.bool x)),.pv (.str s)] = cells Qmo (l ++ [⟨a,b,c,d,⟨x,s⟩⟩]):=by rw [Qz]; rfl
attribute [go_sem] QGJ QHy QHj QGr
structure Sp where
 kind:Int
 tx:Int
 pg:Int
 torn:Int
 cut:Int
 a:Ac
@[go_sem] def Sp.d (t:Sp):List DV:=[.int .i64 t.kind,.int .i64 t.tx,.int .i64 t.pg,.int .i64 t.torn,.int .i64 t.cut,.int .i64 t.a.kind,.int .i64 t.a.pg,.int .i64 t.a.sl,.pv (.str t.a.data)]
structure Sc where
 s:Sv
 tx:List Int
 rd:List Rd
 dead:Bool
def Sc.sm (c:Sc) (n:Nat):Prop:=c.s.sm/\c.tx.length<=n/\c.rd.length<=n
@[go_sem] def scB (c:Sc) (i j:Nat):Blk:=⟨128,true,c.s.d ++ [.own i 1 0 c.tx.length,.own j 6 0 c.rd.length,.bool c.dead]⟩
@[go_sem] def scT (l:List Int):Blk:=⟨3,true,cells QW l⟩
@[go_sem] def scR (l:List Rd):Blk:=⟨26,true,cells Qmo l⟩
@[go_sem] def Qu3:Blk:=⟨3,false,[]⟩
@[go_sem] def Qqp:Blk:=⟨26,false,[]⟩
def ScEnd {α:Type} (f:α->DV) (Q:Nat->Sc->α->Prop):DV->Qb->Prop:=fun r h'=>∃ c a B,r = f a/\(f a).nums (fun _=>false) = true/\((Q 0 c a/\h' = scB c 1 2 :: scT c.tx :: scR c.rd :: [B])\/(Q 1 c a/\h' = scB c 3 2 :: Qu3 :: scR c.rd :: scT c.tx :: [B])\/(Q 2 c a/\h' = scB c 1 3 :: scT c.tx :: Qqp :: scR c.rd :: [B]))
def ScEnd.mono (h:∀ n c a,Q n c a->Q' n c a):∀ r h',ScEnd f Q r h'->ScEnd f Q' r h'
 | _,_,⟨c,a,B,e1,e2,.inl ⟨q,e⟩⟩=>⟨c,a,B,e1,e2,.inl ⟨h _ _ _ q,e⟩⟩
 | _,_,⟨c,a,B,e1,e2,.inr (.inl ⟨q,e⟩)⟩=>⟨c,a,B,e1,e2,.inr (.inl ⟨h _ _ _ q,e⟩)⟩
 | _,_,⟨c,a,B,e1,e2,.inr (.inr ⟨q,e⟩)⟩=>⟨c,a,B,e1,e2,.inr (.inr ⟨h _ _ _ q,e⟩)⟩
def QkB (k0 k1 k2:Nat) (cc:VCalls P g args0 [scB c 1 2,scT c.tx,scR c.rd] (ScEnd f Q)) (hk0:hp[k0]? = some (scB c k1 k2)) (hk1:hp[k1]? = some (scT c.tx)) (hk2:hp[k2]? = some (scR c.rd)) (n01:k0 ≠ k1) (n02:k0 ≠ k2) (n12:k1 ≠ k2) (ha0:args0 = args.map (DV.ren fun j=>[k0,k1,k2].idxOf j)) (ha:DV.nums.go [k0,k1,k2].contains args = true) (hN:∀ c a,Q 0 c a->∀ B,K (f a) (((hp.set k0 (scB c k1 k2)).set k1 (scT c.tx)).set k2 (scR c.rd) ++ [B])) (hT:∀ c a,Q 1 c a->∀ B,K (f a) (((hp.set k0 (scB c hp.length k2)).set k1 Qu3).set k2 (scR c.rd) ++ scT c.tx :: [B])) (hR:∀ c a,Q 2 c a->∀ B,K (f a) (((hp.set k0 (scB c k1 hp.length)).set k1 (scT c.tx)).set k2 Qqp ++ scR c.rd :: [B])):VCalls P g args hp K:=by
 have l0:k0 < hp.length:=(Jo.1 hk0).1
 have l1:k1 < hp.length:=(Jo.1 hk1).1
 have l2:k2 < hp.length:=(Jo.1 hk2).1
 have q1:(k0 == k1) = false:=by simp [n01]
 have q2:(k0 == k2) = false:=by simp [n02]
 have q3:(k1 == k2) = false:=by simp [n12]
 have rt:∀ (σ:Nat->Nat) l,QcX σ (scT l) = scT l:=fun σ l=>QaV (Qu _ _ _)
 have rr:∀ (σ:Nat->Nat) l,QcX σ (scR l) = scR l:=fun σ l=>QaV (Qu _ _ _)
 have rs:∀ (σ:Nat->Nat) (c:Sc) i j,QcX σ (scB c i j) = scB c (σ i) (σ j):=fun σ c i j=>rfl
 have i0:[k0,k1,k2].idxOf k0 = 0:=by simp
 have i1:[k0,k1,k2].idxOf k1 = 1:=by simp [JG,q1]
 have i2:[k0,k1,k2].idxOf k2 = 2:=by simp [JG,q2,q3]
 refine (VCalls.frame [k0,k1,k2] (by simp [n01,n02,n12]) ?_ ?_ cc ha0 ha).mono ?_
 ·simp only [QlE,JC,List.map_nil,hk0,hk1,hk2,Option.map_some,Qh,rt,rr,rs,i1,i2]
 ·unfold QiK
  rw [Jw]
  intro k hk
  simp only [List.mem_cons,List.not_mem_nil,or_false] at hk
  rcases hk with rfl | rfl | rfl
  ·rw [hk0]
   simp [scB,Sv.d,DV.nums,DV.nums.go]
  ·rw [hk1]
   dsimp only
   rw [show (scT c.tx).cells = cells QW c.tx from rfl,QX _ _ (Qu _ _ _)]; simp
  ·rw [hk2]
   dsimp only
   rw [show (scR c.rd).cells = cells Qmo c.rd from rfl,QX _ _ (Qu _ _ _)]; simp
 ·rintro r h2 ⟨r0,h',⟨c1,a,B,rfl,hn,e⟩,-,rfl,rfl⟩
  rw [QeH _ _ hn]
  have b1:back [k0,k1,k2] hp.length 1 = k1:=rfl
  have b2:back [k0,k1,k2] hp.length 2 = k2:=rfl
  have b3:back [k0,k1,k2] hp.length 3 = hp.length:=rfl
  have rI:∀ (σ:Nat->Nat),QcX σ Qu3 = Qu3:=fun σ=>rfl
  have rO:∀ (σ:Nat->Nat),QcX σ Qqp = Qqp:=fun σ=>rfl
  rcases e with ⟨q,rfl⟩ | ⟨q,rfl⟩ | ⟨q,rfl⟩<;>rw [Qma l0 l1 l2 n01 n02 n12]
  ·rw [rs,rt,rr,b1,b2]; exact hN c1 a q _
  ·rw [rs,rI,rr,b2,b3,JC,rt]; exact hT c1 a q _
  ·rw [rs,rt,rO,b1,b3,JC,rr]; exact hR c1 a q _
def Qf4 (e:Int):Rs:=if e = 0 then ⟨1,0,0,Ce0,0⟩ else QaR e
def QeD (e:Int):VCalls prog 80 [.int .i64 e] [] (Ret (.agg (Qf4 e).d)):=by
 refine dd Tryz.func80 ?_
 have c1:=Qap e
 (unfold Tryz.f80; refine rn trivial ?_)
 unfold Qf4
 refine rn F ?_
 repeat' (first
  | with_reducible exact ⟨⟩
  | (refine sB F ?_ ?_<;>intro hZ)
  | refine vp F (c1) ?_)
 all_goals first
  | (rw [if_pos (by assumption)]; first | done | rfl)
  | (rw [if_neg (by assumption)]; first | done | rfl)
@[go_sem] def rsD (r:Rs):DV:=.agg r.d
def Qg4 (c:Sc) (s:Sv) (e:Int):VCalls prog 76 [.ptr 0 0,.agg s.d,.int .i64 e] [scB c 1 2,scT c.tx,scR c.rd] (ScEnd rsD fun n c' r=>n = 0/\c' = ⟨if e = 0 then s else c.s,c.tx,c.rd,c.dead⟩/\r = Qf4 e):=by
 refine QQ (fn:=Tryz.f76) Tryz.func76 rfl (by kernel_rfl) (by simp [Tryz.f76]) ?_
 have c1:=QeD e
 (unfold Tryz.f76; refine rn trivial ?_)
 refine rn F ?_
 repeat' (first
  | with_reducible exact ⟨⟩
  | (refine sB F ?_ ?_<;>intro hZ)
  | refine vp F (c1) ?_)
 ·exact QG ⟨15,3,[(6,.ptr 3 0)],[scB ⟨s,c.tx,c.rd,c.dead⟩ 1 2,scT c.tx,scR c.rd,⟨130,true,(Qf4 e).d⟩]⟩ (gc [0,1,2,4]) ⟨⟨s,c.tx,c.rd,c.dead⟩,Qf4 e,_,rfl,rfl,.inl ⟨⟨rfl,by rw [if_pos (by assumption)],rfl⟩,rfl⟩⟩
 ·exact QG ⟨15,3,[(6,.ptr 3 0)],[scB c 1 2,scT c.tx,scR c.rd,⟨130,true,(Qf4 e).d⟩]⟩ (gc [0,1,2,4]) ⟨c,Qf4 e,_,rfl,rfl,.inl ⟨⟨rfl,by rw [if_neg (by assumption)],rfl⟩,rfl⟩⟩
end
section
attribute [local go_sem] Qbj
def scQ (c:Sc) (n m:Nat) (c':Sc) (_:Rs):Prop:=m ≠ 1/\c'.sm n/\c'.dead = c.dead/\Ev c.s.k.lg c'.s.k.lg
def Qwz (c:Sc) (n:Nat) (hc:c.sm n) (r:Rs):scQ c (n + 1) 0 c r:=⟨by decide,⟨hc.1,Jd hc.2.1,Jd hc.2.2⟩,rfl,Ev.refl _⟩
def QEf (c:Sc) (n:Nat) (hn:n<=2000) (hc:c.sm n) (t:Sp):VCalls prog 77 [.ptr 0 0,.agg t.d] [scB c 1 2,scT c.tx,scR c.rd] (ScEnd rsD (scQ c (n + 1))):=by
 refine QQ (fn:=Tryz.f77) Tryz.func77 rfl (by kernel_rfl) (by simp [Tryz.f77]) ?_
 have c1:=Qap 16
 have hq0:=Qwz c n hc
 have h1:=hc.2.1
 have h2:=hc.2.2
 by_cases h0:∃ i:Nat,i < c.tx.length/\t.tx = i + 1
 rotate_left
 ·have h3:t.tx < 1\/c.tx.length < t.tx:=by
   by_cases ha:t.tx < 1
   ·exact .inl ha
   ·by_cases hb:c.tx.length < t.tx
    ·exact .inr hb
    ·exact absurd ⟨(t.tx - 1).toNat,by omega,by omega⟩ h0
  (unfold Tryz.f77; refine rn trivial ?_)
  refine rn F ?_
  repeat' (first
   | with_reducible exact ⟨⟩
   | (refine sG F ?_ ?_<;>intro hZ)
   | refine vp F (c1) ?_
   | (refine Qd (id:=1) [0,1,2,3,4,5,6,7,8,9,10,11,12,13,14,15,16,17,18,19,20,21,22,23,24] [] (by kernel_rfl) (by kernel_rfl) ?_; refine rn F ?_))
  all_goals first
   | (exfalso; omega)
   | exact QG ⟨95,3,[(4,.ptr 3 0)],[scB c 1 2,scT (Sc.tx c),scR (Sc.rd c),⟨130,true,Rs.d (QaR 16)⟩]⟩ (gc [0,1,2,4]) ⟨c,QaR 16,_,rfl,rfl,.inl ⟨hq0 _,rfl⟩⟩
   | skip
 obtain ⟨i,hi,ht⟩:=h0
 have hg:=QfB c.tx i hi
 have d1:=QD3 c.s hc.1 (c.tx.getD i 0) t.a
 have e1:(↑i + 1 - 1:Int) = ↑i:=by omega
 have hlt:(i < c.tx.length) = True:=eq_true hi
 (unfold Tryz.f77; refine rn trivial ?_)
 simp only [ht]
 have F:=(Ja @hg (Ja @e1 @hlt))
 refine rn F ?_
 repeat' (first
  | with_reducible exact ⟨⟩
  | (refine sG F ?_ ?_<;>intro hZ)
  | (refine sB F ?_ ?_<;>intro hZ)
  | refine vp F (c1) ?_
  | (refine Ql (d1) rfl ?_; rintro ⟨s2,r2⟩ hq; refine rn F ?_)
  | refine vp F (QeE s2.k.lg (Jk hq.1.1.1 (by decide))) ?_
  | (refine Qd (id:=1) [0,1,2,3,4,5,6,7,8,9,10,11,12,13,14,15,16,17,18,19,20,21,22,23,24] [] (by kernel_rfl) (by kernel_rfl) ?_; refine rn F ?_)
  | (refine Qd (id:=3) [0,1,2,3,4,5,6,7,8] [⟨[],[],9,[],[]⟩] (by kernel_rfl) (by kernel_rfl) ?_; refine rn F ?_)
  | (refine Qd (id:=4) [0,1,2,3,4,5,6] [⟨[11,12],[],7,[0,1,2,5],[8,9,10]⟩,⟨[11,12],[11],13,[10],[]⟩,⟨[12],[12],14,[],[]⟩] (by kernel_rfl) (by kernel_rfl) ?_; refine rn F ?_)
  | (refine Qd (id:=9) [0,1,2,3,4,5,6,7,8,9,10,11,12,13,14,16,17] [⟨[],[],15,[0,1,2,3,4,5,6,7,8,9,10,11,12,13,16,17],[18]⟩,⟨[19],[19],20,[0,1,2,3,5,6,7,8,9,10,11,12,13,14,16,17,18],[21,22]⟩,⟨[],[],23,[21],[]⟩] (by kernel_rfl) (by kernel_rfl) ?_; refine rn F ?_))
 all_goals first
  | exact QG ⟨95,3,[(4,.ptr 3 0)],[scB c 1 2,scT (Sc.tx c),scR (Sc.rd c),⟨130,true,Rs.d (QaR 16)⟩]⟩ (gc [0,1,2,4]) ⟨c,QaR 16,_,rfl,rfl,.inl ⟨hq0 _,rfl⟩⟩
  | exact QG ⟨95,3,[(4,.ptr 3 0)],[scB c 1 2,scT (Sc.tx c),scR (Sc.rd c),⟨130,true,Rs.d (r2)⟩]⟩ (gc [0,1,2,4]) ⟨c,r2,_,rfl,rfl,.inl ⟨hq0 _,rfl⟩⟩
  | exact QG ⟨95,3,[(4,.ptr 3 0)],[scB ⟨s2,c.tx,c.rd,c.dead⟩ 1 2,scT (Sc.tx ⟨s2,c.tx,c.rd,c.dead⟩),scR (Sc.rd ⟨s2,c.tx,c.rd,c.dead⟩),⟨130,true,Rs.d (r2)⟩]⟩ (gc [0,1,2,4]) ⟨⟨s2,c.tx,c.rd,c.dead⟩,r2,_,rfl,rfl,.inl ⟨⟨by decide,⟨hq.1,by dsimp only; omega,by dsimp only; omega⟩,rfl,hq.2⟩,rfl⟩⟩
  | skip
 have hl:(c.rd ++ [(⟨c.tx.getD i 0,t.a.pg,t.a.sl,Qdi s2.k.lg,r2.cell⟩:Rd)]).length = c.rd.length + 1:=by simp
 generalize hr:c.rd ++ [(⟨c.tx.getD i 0,t.a.pg,t.a.sl,Qdi s2.k.lg,r2.cell⟩:Rd)] = rd at *
 rw [<- hl]
 exact QG ⟨95,3,[(4,.ptr 4 0)],[scB ⟨s2,c.tx,rd,c.dead⟩ 1 3,scT c.tx,Qqp,scR rd,⟨130,true,r2.d⟩]⟩ (gc [0,1,2,8,4]) ⟨⟨s2,c.tx,rd,c.dead⟩,r2,_,rfl,rfl,.inr (.inr ⟨⟨by decide,⟨hq.1,by dsimp only; omega,by dsimp only; omega⟩,rfl,hq.2⟩,rfl⟩)⟩
end
section
attribute [local go_sem] Qbj
def scI (I:Lg->Prop) (c:Sc) (n _:Nat) (c':Sc) (_:Rs):Prop:=c'.sm n/\(I c.s.k.lg->I c'.s.k.lg)
def Qn3 (I:Lg->Prop) (c:Sc) (n:Nat) (hc:c.sm n) (r:Rs):scI I c (n + 1) 0 c r:=⟨⟨hc.1,Jd hc.2.1,Jd hc.2.2⟩,id⟩
abbrev QhK (I:Lg->Prop) (c:Sc) (n:Nat) (t:Sp):Prop:=VCalls prog 58 [.ptr 0 0,.agg t.d] [scB c 1 2,scT c.tx,scR c.rd] (ScEnd rsD (scI I c (n + 1)))
def Qub (I:Lg->Prop) (hI:∀ x y,Ev x y->I x->I y) {s s2:Sv} {e:Int} (hs:s.sm) (hq:s2.sm/\(e = 0->Ev s.k.lg s2.k.lg)):(if e = 0 then s2 else s).sm/\(I s.k.lg->I (if e = 0 then s2 else s).k.lg):=by
 split
 ·rename_i h; exact ⟨hq.1,hI _ _ (hq.2 h)⟩
 ·exact ⟨hs,id⟩
def QwJ (I:Lg->Prop) (hI:∀ x y,Ev x y->I x->I y) (c:Sc) (n:Nat) (hn:n<=2000) (hc:c.sm n) (t:Sp) (ht:t.kind = 3):QhK I c n t:=by
 refine QQ (fn:=Tryz.f58) Tryz.func58 rfl (by kernel_rfl) (by simp [Tryz.f58]) ?_
 obtain ⟨k,tx,pg,torn,cut,a⟩:=t
 dsimp only at ht
 subst ht
 have c1:=QsC c.s hc.1 pg
 (unfold Tryz.f58; refine rn trivial ?_)
 refine rn F ?_
 repeat' (first
  | with_reducible exact ⟨⟩
  | (refine Ql (c1) rfl ?_; rintro ⟨s2,e2⟩ hq; refine rn F ?_)
  | (refine QbH (id:=12) [[],[],[1],[1,2],[1,2,3],[],[5],[1,2,3,4,5,6],[1,2,3,4,5,6,7],[1,2,3,4,5,6,7],[0,1,2,3,4,5,6,7,8,9],[0,1,2,3,4,5,6,7,8,9,10]] [0,1,2,3,4,5,6] [⟨[],[],7,[0],[8,9]⟩,⟨[],[],10,[],[]⟩,⟨[],[],11,[],[]⟩] (by kernel_rfl) (by kernel_rfl) (by kernel_rfl) ?_; refine rn F ?_))
 refine QkB (c:=c) 0 1 2 (Qg4 c s2 e2) rfl rfl rfl (by decide) (by decide) (by decide) rfl rfl ?_ (fun _ _ h=>absurd h.1 (by decide)) (fun _ _ h=>absurd h.1 (by decide))
 rintro _ _ ⟨-,rfl,rfl⟩ B
 obtain ⟨k1,k2⟩:=Qub I hI hc.1 hq
 generalize (if e2 = 0 then s2 else c.s) = s' at *
 refine rn trivial ?_
 exact QG ⟨132,3,[(4,.ptr 3 0)],[scB ⟨s',c.tx,c.rd,c.dead⟩ 1 2,scT (Sc.tx ⟨s',c.tx,c.rd,c.dead⟩),scR (Sc.rd ⟨s',c.tx,c.rd,c.dead⟩),⟨130,true,Rs.d (Qf4 e2)⟩]⟩ (gc [0,1,2,4]) ⟨⟨s',c.tx,c.rd,c.dead⟩,Qf4 e2,_,rfl,rfl,.inl ⟨⟨⟨k1,Jd hc.2.1,Jd hc.2.2⟩,k2⟩,rfl⟩⟩
def QwI (I:Lg->Prop) (hI:∀ x y,Ev x y->I x->I y) (c:Sc) (n:Nat) (hn:n<=2000) (hc:c.sm n) (t:Sp) (ht:t.kind = 4):QhK I c n t:=by
 refine QQ (fn:=Tryz.f58) Tryz.func58 rfl (by kernel_rfl) (by simp [Tryz.f58]) ?_
 obtain ⟨k,tx,pg,torn,cut,a⟩:=t
 dsimp only at ht
 subst ht
 have c1:=QsF c.s hc.1
 (unfold Tryz.f58; refine rn trivial ?_)
 refine rn F ?_
 repeat' (first
  | with_reducible exact ⟨⟩
  | (refine Ql (c1) rfl ?_; rintro ⟨s2,n2,e2⟩ hq; refine rn F ?_))
 refine QkB (c:=c) 0 1 2 (Qg4 c s2 e2) rfl rfl rfl (by decide) (by decide) (by decide) rfl rfl ?_ (fun _ _ h=>absurd h.1 (by decide)) (fun _ _ h=>absurd h.1 (by decide))
 rintro _ _ ⟨-,rfl,rfl⟩ B
 obtain ⟨k1,k2⟩:=Qub I hI hc.1 hq
 generalize (if e2 = 0 then s2 else c.s) = s' at *
 refine rn trivial ?_
 exact QG ⟨132,3,[(4,.ptr 3 0)],[scB ⟨s',c.tx,c.rd,c.dead⟩ 1 2,scT (Sc.tx ⟨s',c.tx,c.rd,c.dead⟩),scR (Sc.rd ⟨s',c.tx,c.rd,c.dead⟩),⟨130,true,Rs.d (Qf4 e2)⟩]⟩ (gc [0,1,2,4]) ⟨⟨s',c.tx,c.rd,c.dead⟩,Qf4 e2,_,rfl,rfl,.inl ⟨⟨⟨k1,Jd hc.2.1,Jd hc.2.2⟩,k2⟩,rfl⟩⟩
def QwF (I:Lg->Prop) (hI:∀ x y,Ev x y->I x->I y) (c:Sc) (n:Nat) (hn:n<=2000) (hc:c.sm n) (t:Sp) (ht:t.kind = 7):QhK I c n t:=by
 refine QQ (fn:=Tryz.f58) Tryz.func58 rfl (by kernel_rfl) (by simp [Tryz.f58]) ?_
 obtain ⟨k,tx,pg,torn,cut,a⟩:=t
 dsimp only at ht
 subst ht
 have c1:=QAK c.s hc.1
 (unfold Tryz.f58; refine rn trivial ?_)
 refine rn F ?_
 repeat' (first
  | with_reducible exact ⟨⟩
  | (refine Ql (c1) rfl ?_; rintro ⟨s2,n2,e2⟩ hq; refine rn F ?_))
 refine QkB (c:=c) 0 1 2 (Qg4 c s2 e2) rfl rfl rfl (by decide) (by decide) (by decide) rfl rfl ?_ (fun _ _ h=>absurd h.1 (by decide)) (fun _ _ h=>absurd h.1 (by decide))
 rintro _ _ ⟨-,rfl,rfl⟩ B
 obtain ⟨k1,k2⟩:=Qub I hI hc.1 hq
 generalize (if e2 = 0 then s2 else c.s) = s' at *
 refine rn trivial ?_
 exact QG ⟨132,3,[(4,.ptr 3 0)],[scB ⟨s',c.tx,c.rd,c.dead⟩ 1 2,scT (Sc.tx ⟨s',c.tx,c.rd,c.dead⟩),scR (Sc.rd ⟨s',c.tx,c.rd,c.dead⟩),⟨130,true,Rs.d (Qf4 e2)⟩]⟩ (gc [0,1,2,4]) ⟨⟨s',c.tx,c.rd,c.dead⟩,Qf4 e2,_,rfl,rfl,.inl ⟨⟨⟨k1,Jd hc.2.1,Jd hc.2.2⟩,k2⟩,rfl⟩⟩
def QwH (I:Lg->Prop) (hI:∀ x y,Ev x y->I x->I y) (c:Sc) (n:Nat) (hn:n<=2000) (hc:c.sm n) (t:Sp) (ht:t.kind = 5):QhK I c n t:=by
 refine QQ (fn:=Tryz.f58) Tryz.func58 rfl (by kernel_rfl) (by simp [Tryz.f58]) ?_
 obtain ⟨k,tx,pg,torn,cut,a⟩:=t
 dsimp only at ht
 subst ht
 have c1:=QeE c.s.k.lg (Jk hc.1.1.1 (by decide))
 have c2:=Qgj c.s.k.lg (Jk hc.1.1.1 (by decide)) (Qdi c.s.k.lg)
 have c3:=fun e=>QeD e
 (unfold Tryz.f58; refine rn trivial ?_)
 refine rn F ?_
 repeat' (first
  | with_reducible exact ⟨⟩
  | (refine sB F ?_ ?_<;>intro hZ)
  | refine vp F (c1) ?_
  | refine vp F (c2) ?_
  | refine vp F (c3 _) ?_
  | (refine QbH (id:=17) [[],[0],[0,1],[0,1,2],[0,1,2,3],[0,1,2,3,4],[],[6],[6,7],[6,7,8],[6,7,8,9],[6,7,8,9,10],[6,7,8,9,10,11],[0,1,2,3,4,5,6,7,8,9,10,11,12],[0,1,2,3,4,5,6,7,8,9,10,11,12,13],[0,1,2,3,4,5,6,7,8,9,10,11,12,13,14],[0,1,2,3,4,5,6,7,8,9,10,11,12,13,14],[],[0,1,2,3,4,5,6,7,8,9,10,11,12,13,14,15,17],[0,1,2,3,4,5,6,7,8,9,10,11,12,13,14,15,16,17,18]] [0,1,2,3,4,5,6,7,8,9,10,11] [⟨[17],[],12,[0,1,2,3,4,5],[]⟩,⟨[17],[],13,[],[14,15,16]⟩,⟨[17],[17],18,[16],[]⟩,⟨[],[],19,[],[]⟩] (by kernel_rfl) (by kernel_rfl) (by kernel_rfl) ?_; refine rn F ?_))
 ·exact QG ⟨132,3,[(4,.ptr 3 0)],[scB ⟨⟨⟨c.s.k.pg,c.s.k.nx,(Qao c.s.k.lg (Qdi c.s.k.lg)).1,c.s.k.pl,c.s.k.lk,c.s.k.tx,c.s.k.ix,c.s.k.la⟩,c.s.v⟩,c.tx,c.rd,c.dead⟩ 1 2,scT (Sc.tx ⟨⟨⟨c.s.k.pg,c.s.k.nx,(Qao c.s.k.lg (Qdi c.s.k.lg)).1,c.s.k.pl,c.s.k.lk,c.s.k.tx,c.s.k.ix,c.s.k.la⟩,c.s.v⟩,c.tx,c.rd,c.dead⟩),scR (Sc.rd ⟨⟨⟨c.s.k.pg,c.s.k.nx,(Qao c.s.k.lg (Qdi c.s.k.lg)).1,c.s.k.pl,c.s.k.lk,c.s.k.tx,c.s.k.ix,c.s.k.la⟩,c.s.v⟩,c.tx,c.rd,c.dead⟩),⟨130,true,Rs.d (Qf4 _)⟩]⟩ (gc [0,1,2,4]) ⟨⟨⟨⟨c.s.k.pg,c.s.k.nx,(Qao c.s.k.lg (Qdi c.s.k.lg)).1,c.s.k.pl,c.s.k.lk,c.s.k.tx,c.s.k.ix,c.s.k.la⟩,c.s.v⟩,c.tx,c.rd,c.dead⟩,Qf4 _,_,rfl,rfl,.inl ⟨⟨⟨⟨⟨QiP _ _ hc.1.1.1,hc.1.1.2⟩,hc.1.2⟩,Jd hc.2.1,Jd hc.2.2⟩,hI _ _ (QeW (by assumption))⟩,rfl⟩⟩
 ·exact QG ⟨132,3,[(4,.ptr 3 0)],[scB c 1 2,scT (Sc.tx c),scR (Sc.rd c),⟨130,true,Rs.d (Qf4 _)⟩]⟩ (gc [0,1,2,4]) ⟨c,Qf4 _,_,rfl,rfl,.inl ⟨Qn3 I c n hc _,rfl⟩⟩
def QwK (I:Lg->Prop) (hI:∀ x y,Ev x y->I x->I y) (c:Sc) (n:Nat) (hn:n<=2000) (hc:c.sm n) (t:Sp) (ht:t.kind = 2):QhK I c n t:=by
 refine QQ (fn:=Tryz.f58) Tryz.func58 rfl (by kernel_rfl) (by simp [Tryz.f58]) ?_
 obtain ⟨k,tx,pg,torn,cut,a⟩:=t
 dsimp only at ht
 subst ht
 (unfold Tryz.f58; refine rn trivial ?_)
 refine QkB (c:=c) 0 1 2 (QEf c n hn hc ⟨2,tx,pg,torn,cut,a⟩) rfl rfl rfl (by decide) (by decide) (by decide) rfl rfl ?_ (fun _ _ h=>absurd rfl h.1) ?_
 ·rintro c1 r1 ⟨-,q1,-,q2⟩ B
  refine rn trivial ?_
  exact QG ⟨132,3,[(4,.ptr 3 0)],[scB c1 1 2,scT (Sc.tx c1),scR (Sc.rd c1),⟨130,true,Rs.d (r1)⟩]⟩ (gc [0,1,2,4]) ⟨c1,r1,_,rfl,rfl,.inl ⟨⟨q1,hI _ _ q2⟩,rfl⟩⟩
 ·rintro c1 r1 ⟨-,q1,-,q2⟩ B
  refine rn trivial ?_
  exact QG ⟨132,3,[(4,.ptr 4 0)],[scB c1 1 3,scT c1.tx,Qqp,scR c1.rd,⟨130,true,r1.d⟩]⟩ (gc [0,1,2,5,4]) ⟨c1,r1,_,rfl,rfl,.inr (.inr ⟨⟨q1,hI _ _ q2⟩,rfl⟩)⟩
def QwL (I:Lg->Prop) (hI:∀ x y,Ev x y->I x->I y) (c:Sc) (n:Nat) (hn:n<=2000) (hc:c.sm n) (t:Sp) (ht:t.kind = 1):QhK I c n t:=by
 refine QQ (fn:=Tryz.f58) Tryz.func58 rfl (by kernel_rfl) (by simp [Tryz.f58]) ?_
 obtain ⟨k,tx,pg,torn,cut,a⟩:=t
 dsimp only at ht
 subst ht
 have c1:=QsG c.s hc.1
 (unfold Tryz.f58; refine rn trivial ?_)
 have hb:(c.tx.length + 1) * 8<=140737488355328:=by have:=hc.2.1; omega
 have F:=@hb
 refine rn F ?_
 repeat' (first
  | with_reducible exact ⟨⟩
  | (refine sB F ?_ ?_<;>intro hZ)
  | (refine Ql (c1) rfl ?_; rintro ⟨s2,n2,e2⟩ hq; refine rn F ?_))
 rotate_left
 ·refine QkB (c:=c) 0 1 2 (Qg4 c s2 e2) rfl rfl rfl (by decide) (by decide) (by decide) rfl rfl ?_ (fun _ _ h=>absurd h.1 (by decide)) (fun _ _ h=>absurd h.1 (by decide))
  rintro _ _ ⟨-,rfl,rfl⟩ B
  obtain ⟨k1,k2⟩:=Qub I hI hc.1 hq
  generalize (if e2 = 0 then s2 else c.s) = s' at *
  refine rn trivial ?_
  exact QG ⟨132,3,[(4,.ptr 3 0)],[scB ⟨s',c.tx,c.rd,c.dead⟩ 1 2,scT (Sc.tx ⟨s',c.tx,c.rd,c.dead⟩),scR (Sc.rd ⟨s',c.tx,c.rd,c.dead⟩),⟨130,true,Rs.d ({ Qf4 e2 with tx:=n2 })⟩]⟩ (gc [0,1,2,4]) ⟨⟨s',c.tx,c.rd,c.dead⟩,{ Qf4 e2 with tx:=n2 },_,rfl,rfl,.inl ⟨⟨⟨k1,Jd hc.2.1,Jd hc.2.2⟩,k2⟩,rfl⟩⟩
 have hl:(c.tx ++ [n2]).length = c.tx.length + 1:=by simp
 generalize c.tx ++ [n2] = l at *
 rw [<- hl]
 refine QkB (c:=⟨c.s,l,c.rd,c.dead⟩) 0 7 2 (Qg4 ⟨c.s,l,c.rd,c.dead⟩ s2 e2) rfl rfl rfl (by decide) (by decide) (by decide) rfl rfl ?_ (fun _ _ h=>absurd h.1 (by decide)) (fun _ _ h=>absurd h.1 (by decide))
 rintro _ _ ⟨-,rfl,rfl⟩ B
 obtain ⟨k1,k2⟩:=Qub I hI hc.1 hq
 generalize (if e2 = 0 then s2 else c.s) = s' at *
 have h1:=hc.2.1
 refine rn trivial ?_
 exact QG ⟨132,3,[(4,.ptr 4 0)],[scB ⟨s',l,c.rd,c.dead⟩ 3 2,Qu3,scR c.rd,scT l,⟨130,true,Rs.d { Qf4 e2 with tx:=n2 }⟩]⟩ (gc [0,1,2,7,4]) ⟨⟨s',l,c.rd,c.dead⟩,{ Qf4 e2 with tx:=n2 },_,rfl,rfl,.inr (.inl ⟨⟨⟨k1,by dsimp only; omega,Jd hc.2.2⟩,k2⟩,rfl⟩)⟩
end
section
attribute [local go_sem] Qbj
def QwD (I:Lg->Prop) (c:Sc) (n:Nat) (hc:c.sm n) (t:Sp) (h1:t.kind ≠ 1) (h2:t.kind ≠ 2) (h3:t.kind ≠ 3) (h4:t.kind ≠ 4) (h5:t.kind ≠ 5) (h6:t.kind ≠ 6) (h7:t.kind ≠ 7):QhK I c n t:=by
 refine QQ (fn:=Tryz.f58) Tryz.func58 rfl (by kernel_rfl) (by simp [Tryz.f58]) ?_
 have c1:=Qap 1
 (unfold Tryz.f58; refine rn (Ja @h1 (Ja @h2 (Ja @h3 (Ja @h4 (Ja @h5 (Ja @h6 @h7)))))) ?_)
 have F:=(Ja @h1 (Ja @h2 (Ja @h3 (Ja @h4 (Ja @h5 (Ja @h6 @h7))))))
 refine rn F ?_
 repeat' (first
  | with_reducible exact ⟨⟩
  | refine vp F (c1) ?_)
 exact QG ⟨132,3,[(4,.ptr 3 0)],[scB c 1 2,scT (Sc.tx c),scR (Sc.rd c),⟨130,true,Rs.d (QaR 1)⟩]⟩ (gc [0,1,2,4]) ⟨c,QaR 1,_,rfl,rfl,.inl ⟨Qn3 I c n hc _,rfl⟩⟩
def QwE (I:Lg->Prop) (hI:∀ x y,Ev x y->I x->I y) (c:Sc) (n:Nat) (hn:n<=2000) (hc:c.sm n) (t:Sp) (h6:t.kind = 6->QhK I c n t):QhK I c n t:=by
 by_cases q1:t.kind = 1
 ·exact QwL I hI c n hn hc t q1
 by_cases q2:t.kind = 2
 ·exact QwK I hI c n hn hc t q2
 by_cases q3:t.kind = 3
 ·exact QwJ I hI c n hn hc t q3
 by_cases q4:t.kind = 4
 ·exact QwI I hI c n hn hc t q4
 by_cases q5:t.kind = 5
 ·exact QwH I hI c n hn hc t q5
 by_cases q6:t.kind = 6
 ·exact h6 q6
 by_cases q7:t.kind = 7
 ·exact QwF I hI c n hn hc t q7
 exact QwD I c n hc t q1 q2 q3 q4 q5 q6 q7
def QnA:Enc Sp:=⟨9,fun t=>[.lit (.int .i64 t.kind),.lit (.int .i64 t.tx),.lit (.int .i64 t.pg),.lit (.int .i64 t.torn),.lit (.int .i64 t.cut),.lit (.int .i64 t.a.kind),.lit (.int .i64 t.a.pg),.lit (.int .i64 t.a.sl),.str t.a.data],by decide,fun _=>rfl⟩
def QGH (l:List Sp):(cells QnA l).length = l.length * 9:=Qy QnA l
def QHw (l:List Sp) (n:Nat) (h:l.length * 9<=n):(cells QnA l).take n = cells QnA l:=by rw [Jj]; rw [QGH]; exact h
def QHh (h:l.length = len):Qgy n hp 0 9 len (some (cells QnA l)) = some (.sl (fz QnA l)):=QZ QnA h
def Sp0:Sp:=⟨0,0,0,0,0,0,0,0,[]⟩
def QEM (l:List Sp) (i:Nat) (h:i < l.length):(fz QnA l)[i]? = some [.lit (.int .i64 (l.getD i Sp0).kind),.lit (.int .i64 (l.getD i Sp0).tx),.lit (.int .i64 (l.getD i Sp0).pg),.lit (.int .i64 (l.getD i Sp0).torn),.lit (.int .i64 (l.getD i Sp0).cut),.lit (.int .i64 (l.getD i Sp0).a.kind),.lit (.int .i64 (l.getD i Sp0).a.pg),.lit (.int .i64 (l.getD i Sp0).a.sl),.str (l.getD i Sp0).a.data]:=Qdm QnA l Sp0 i h
attribute [go_sem] QGH QHw QHh
def Qen:Enc Rs:=⟨6,fun r=>[.lit (.int .i64 r.st),.lit (.int .i64 r.tx),.lit (.int .i64 r.pg),.lit (.bool r.cell.set),.str r.cell.data,.lit (.int .i64 r.er)],by decide,fun _=>rfl⟩
def QEC (l:List Rs):(cells Qen l).length = l.length * 6:=Qy Qen l
def QGu (l:List Rs) (n:Nat) (h:l.length * 6<=n):(cells Qen l).take n = cells Qen l:=by rw [Jj]; rw [QEC]; exact h
def QGc (h:l.length = len):Qgy n hp 0 6 len (some (cells Qen l)) = some (.sl (fz Qen l)):=QZ Qen h
def QFb (l:List Rs) (a b c:Int) (x:Bool) (s:List UInt8) (d:Int):cells Qen l ++ [.pv (.lit (.int .i64 a)),.pv (.lit (.int .i64 b)),.pv (.lit (.int .i64 c)),.pv (.lit (.bool x)),.pv (.str s),.pv (.lit (.int .i64 d))] = cells Qen (l ++ [⟨a,b,c,⟨x,s⟩,d⟩]):=by rw [Qz]; rfl
attribute [go_sem] QEC QGu QGc QFb
def QGW (l:List Rd):DV.wk.go (cells Qmo l) = cells Qmo l:=Qbl Qmo l fun a p hp=>by
 simp [Qmo] at hp
 rcases hp with h | h | h | h | h | h<;>subst h<;>rfl
def QFH (l:List Rs):DV.wk.go (cells Qen l) = cells Qen l:=Qbl Qen l fun a p hp=>by
 simp [Qen] at hp
 rcases hp with h | h | h | h | h | h<;>subst h<;>rfl
attribute [go_sem] QGW QFH
structure Ru (I:Lg->Prop) (s:Sv) (l:List Sp) where
 i:Nat
 c:Sc
 out:List Rs
 hi:i<=l.length
 h1:i<=1000
 hc:c.sm i
 ho:out.length = i
 hI:I s.k.lg->I c.s.k.lg
@[go_sem] def QHd (a:Sv × List Rs × List Rd):DV:=.tup [.agg a.1.d,.pv (.sl (fz Qen a.2.1)),.pv (.sl (fz Qmo a.2.2))]
def QDX (I:Lg->Prop) (hI:∀ x y,Ev x y->I x->I y) (s:Sv) (hs:s.sm) (l:List Sp) (h6:∀ i,i < l.length->(l.getD i Sp0).kind = 6->∀ c n,n<=2000->c.sm n->QhK I c n (l.getD i Sp0)):VCalls prog 44 [.agg s.d,.pv (.sl (fz QnA l))] [] (QI QHd fun a=>a.1.sm/\(I s.k.lg->I a.1.k.lg)):=by
 refine dk Tryz.func44 ?_
 (unfold Tryz.f44; refine rn trivial ?_)
 refine VLoop.nilOwnC 2 18 3 1 rfl rfl ?_
 refine VLoop.nilOwnC 2 19 26 6 rfl rfl ?_
 refine VLoop.nilOwn 8 130 6 rfl ?_
 refine rn trivial ?_
 refine Qg (fun r:Ru I s l=>⟨48,0,[(9,.int .i64 r.i),(8,.own 4 6 0 r.out.length),(7,.ptr 1 0),(4,.ptr 0 0),(1,.pv (.sl (fz QnA l)))],[⟨82,true,Zv⟩,scB r.c 2 3,scT r.c.tx,scR r.c.rd,⟨130,true,cells Qen r.out⟩]⟩) (fun r=>l.length - r.i) ⟨0,⟨s,[],[],false⟩,[],Jb _,by decide,⟨hs,Jb _,Jb _⟩,rfl,id⟩ (gc [1,2,3,4,5]) ?_
 rintro ⟨i,c,out,hi,h1,hc,ho,h⟩
 dsimp only
 unfold Zv
 have hg:=fun h:i < l.length=>QEM l i h
 have hb:(out.length + 1) * 72<=140737488355328:=by omega
 obtain ⟨sv,tx,rd,dead⟩:=c
 cases dead
 rotate_left
 ·skip
  have F:=@hg
  refine rn F ?_
  repeat' (first
   | with_reducible exact ⟨⟩
   | (refine sG F ?_ ?_<;>intro hZ)
   | (refine QbH (id:=7) [[],[0],[0,1],[0,1,2],[],[],[5],[5,6],[5,6,7],[0,1,2,3],[0,1,2,3,4,9],[0,1,2,3,4,5,6,7,8,9,10]] [0,1,2,3,4,5,6,7,8] [⟨[],[],9,[4,5,6,7,8],[]⟩,⟨[],[],10,[5,6,7,8],[]⟩,⟨[],[],11,[],[]⟩] (by kernel_rfl) (by kernel_rfl) (by kernel_rfl) ?_; refine rn F ?_))
  all_goals exact ⟨rfl,rfl,(sv,out,rd),rfl,hc.1,h⟩
 have F:=@hg
 refine rn F ?_
 repeat' (first
  | with_reducible exact ⟨⟩
  | (refine sG F ?_ ?_<;>intro hZ)
  | (refine QbH (id:=7) [[],[0],[0,1],[0,1,2],[],[],[5],[5,6],[5,6,7],[0,1,2,3],[0,1,2,3,4,9],[0,1,2,3,4,5,6,7,8,9,10]] [0,1,2,3,4,5,6,7,8] [⟨[],[],9,[4,5,6,7,8],[]⟩,⟨[],[],10,[5,6,7,8],[]⟩,⟨[],[],11,[],[]⟩] (by kernel_rfl) (by kernel_rfl) (by kernel_rfl) ?_; refine rn F ?_))
 all_goals first | exact ⟨rfl,rfl,(sv,out,rd),rfl,hc.1,h⟩ | skip
 have hil:i < l.length:=by omega
 refine QkB (c:=⟨sv,tx,rd,false⟩) 1 2 3 (QwE I hI _ i (by omega) hc (l.getD i Sp0) (fun hk=>h6 i hil hk _ i (by omega) hc)) rfl rfl rfl (by decide) (by decide) (by decide) rfl rfl ?_ ?_ ?_
 all_goals
  rintro c1 r1 ⟨q1,q2⟩ B
  refine rn @hb ?_
  have hl2:(out ++ [r1]).length = out.length + 1:=by simp
  refine ⟨⟨i + 1,c1,out ++ [r1],hil,by omega,q1,by rw [hl2]; omega,fun x=>q2 (h x)⟩,by dsimp only; omega,?_⟩
  dsimp only
  rw [hl2]
 ·exact (gc [0,1,2,3,7])
 ·exact (gc [0,1,5,3,8])
 ·exact (gc [0,1,2,5,8])
end
section
attribute [local go_sem] cb cc
def Qt9 (i:Nat) (h:i < 12):∃ n:Int,([.pv (.lit (.int .i64 1)),.pv (.lit (.int .i64 1)),.pv (.lit (.int .i64 2)),.pv (.lit (.int .i64 2)),.pv (.lit (.int .i64 2)),.pv (.lit (.int .i64 3)),.pv (.lit (.int .i64 4)),.pv (.lit (.int .i64 5)),.pv (.lit (.int .i64 6)),.pv (.lit (.int .i64 7)),.pv (.lit (.int .i64 2)),.pv (.lit (.int .i64 4))]:List DV)[i]? = some (.int .i64 n):=by
 have e:([.pv (.lit (.int .i64 1)),.pv (.lit (.int .i64 1)),.pv (.lit (.int .i64 2)),.pv (.lit (.int .i64 2)),.pv (.lit (.int .i64 2)),.pv (.lit (.int .i64 3)),.pv (.lit (.int .i64 4)),.pv (.lit (.int .i64 5)),.pv (.lit (.int .i64 6)),.pv (.lit (.int .i64 7)),.pv (.lit (.int .i64 2)),.pv (.lit (.int .i64 4))]:List DV) = ([1,1,2,2,2,3,4,5,6,7,2,4]:List Int).map (DV.int .i64):=rfl
 refine ⟨([1,1,2,2,2,3,4,5,6,7,2,4]:List Int)[i]'h,?_⟩
 rw [e,List.getElem?_map,List.getElem?_eq_getElem h]; rfl
def QyU (c:C) (m:Nat) (h1:1<=m) (h2:m<=1000):VCalls prog 84 [.ptr 0 0,.int .i64 m] [cb c] (CX fun r=>∃ a:Ac,r = .agg a.d):=by
 refine dd Tryz.func84 ?_
 (unfold Tryz.f84; refine rn trivial ?_)
 refine QJ (k:=0) (c:=c) (QY c 12 (by omega) (by omega)) rfl rfl ?_
 rintro _ c1 ⟨y,rfl,hy⟩
 obtain ⟨n,hn⟩:=Qt9 y hy
 have F:=@hn
 refine rn F ?_
 repeat' (first
  | with_reducible exact ⟨⟩
  | (refine sB F ?_ ?_<;>intro hZ)
  | (refine QJ (k:=0) (QY _ 2 (by omega) (by omega)) rfl rfl ?_; rintro _ _ ⟨_,rfl,_⟩; refine rn F ?_)
  | (refine QJ (k:=0) (QY _ 40 (by omega) (by omega)) rfl rfl ?_; rintro _ _ ⟨_,rfl,_⟩; refine rn F ?_)
  | (refine QJ (k:=0) (QY _ m (by omega) (by omega)) rfl rfl ?_; rintro _ _ ⟨_,rfl,_⟩; refine rn F ?_)
  | (refine QJ (k:=0) (QoU _) rfl rfl ?_; rintro _ _ ⟨_,rfl,_⟩; refine rn F ?_)
  | (refine QJ (k:=0) (Quf _) rfl rfl ?_; rintro _ _ ⟨_,rfl,_⟩; refine rn F ?_))
 all_goals first
  | exact ⟨_,rfl,rfl,Qal _,rfl,⟨⟨_,_,_,_⟩,rfl⟩,_,rfl⟩
  | skip
end
section
attribute [local go_sem] cb cc
def QD8 (n:Int) (h:1<=n/\n<=64):VCalls prog 57 [.int .i64 n] [] (QI dvD fun a=>dvQ a/\a.2 = 0):=by
 refine dk Tryz.func57 ?_
 have c1:=Qtm n
 (unfold Tryz.f57; refine rn trivial ?_)
 refine rn F ?_
 repeat' (first
  | with_reducible exact ⟨⟩
  | (refine Ql (c1 (by omega)) rfl ?_; rintro l hl; refine rn F ?_))
 all_goals first
  | (exfalso; omega)
  | exact ⟨rfl,rfl,(⟨l,0,false⟩,0),rfl,hl,rfl⟩
  | skip
def QD1 (n m:Int) (h:1<=n/\n<=64) (h2:1<=m/\m<=64):VCalls prog 56 [.int .i64 n,.int .i64 m] [] (QI kiD fun a=>a.1.sm/\a.2 = 0/\a.1.lg = Lg1):=by
 refine dk Tryz.func56 ?_
 have c1:=QsI m
 have c2:=Qob n
 have c3:=QA8
 have hf:=Qop m
 generalize Qm8 m = p at *
 (unfold Tryz.f56; refine rn trivial ?_)
 refine rn F ?_
 repeat' (first
  | with_reducible exact ⟨⟩
  | refine vp F (c1) ?_
  | (refine Ql (c2) rfl ?_; rintro ⟨l,e⟩ hl; refine rn F ?_)
  | refine vp F (c3) ?_
  | (refine Qd (id:=5) [0,2,3] [⟨[],[],1,[0,2,3],[4]⟩,⟨[],[],5,[],[]⟩,⟨[],[],6,[],[]⟩] (by kernel_rfl) (by kernel_rfl) ?_; refine rn F ?_))
 all_goals first
  | (exfalso; omega)
  | exact ⟨rfl,rfl,(⟨n,1,Lg1,p.1,Lk0,[],l,[]⟩,0),rfl,⟨Jb _,by dsimp only; rw [hf]; exact Jb _,Jb _,QU _,hl,Jb _⟩,rfl,rfl⟩
  | skip
def QDV (n m:Int) (h:1<=n/\n<=64) (h2:1<=m/\m<=64):VCalls prog 43 [.int .i64 n,.int .i64 m] [] (QI svD fun a=>a.1.sm/\a.2 = 0/\a.1.k.lg = Lg1):=by
 refine dk Tryz.func43 ?_
 have c1:=QD1 n m h h2
 have c2:=QD8 n h
 (unfold Tryz.f43; refine rn trivial ?_)
 refine Ql c1 rfl ?_
 rintro ⟨k,e⟩ ⟨hk,he,hg⟩
 dsimp only at hk he hg
 subst he
 refine rn trivial ?_
 refine Ql c2 rfl ?_
 rintro ⟨v,e⟩ ⟨hv,he⟩
 dsimp only at he
 subst he
 refine rn trivial ?_
 exact ⟨rfl,rfl,(⟨k,v⟩,0),rfl,⟨hk,hv⟩,rfl,hg⟩
def QGo (l:List Sp) (a b c d e f g h:Int) (s:List UInt8):cells QnA l ++ [.pv (.lit (.int .i64 a)),.pv (.lit (.int .i64 b)),.pv (.lit (.int .i64 c)),.pv (.lit (.int .i64 d)),.pv (.lit (.int .i64 e)),.pv (.lit (.int .i64 f)),.pv (.lit (.int .i64 g)),.pv (.lit (.int .i64 h)),.pv (.str s)] = cells QnA (l ++ [⟨a,b,c,d,e,⟨f,g,h,s⟩⟩]):=by rw [Qz]; rfl
def no6 (l:List Sp):Prop:=∀ i,i < l.length->(l.getD i Sp0).kind ≠ 6
structure Sd (most:Nat) where
 k:Nat
 c:C
 l:List Sp
 hk:k + l.length<=most + 2
 h6:no6 l
def spB:Sp:=⟨1,0,0,0,0,⟨0,0,0,[]⟩⟩
def LgI (x:Lg):Prop:=lgB x = true/\x.f = 1
end
def QsU (t:Lk) (h:1024 < t.sum) (h2:t.held.length<=10000000/\t.wait.length<=10000000):VCalls prog 183 [.agg t.d] [] (Ret (.bool false)):=by
 refine dd Tryz.func183 ?_
 unfold Lk.sum at h
 have h':(1024:Int) < t.held.length + t.wait.length:=by omega
 (unfold Tryz.f183; refine rn @h' ?_; try with_reducible exact ⟨⟩)
def Kn.smX (k:Kn):Prop:=k.lg.es.length<=4096/\k.pl.fs.length<=64/\smN 65 k.tx/\k.ix.length<=64/\k.la.length<=10000
def QA4 (k:Kn) (hk:k.smX) (h:1024 < k.lk.sum) (hq:k.lk.held.length<=10000000/\k.lk.wait.length<=10000000):VCalls prog 135 [.agg k.d] [] (Ret (.bool false)):=by
 refine dd Tryz.func135 ?_
 obtain ⟨h1,h2,h4,h5,h6⟩:=hk
 have c1:=Q8 k.lg (by omega)
 have c2:=Qax k.pl (by omega)
 have c3:=QsU k.lk h hq
 generalize lgB k.lg = b1 at *
 generalize plB k.pl = b2 at *
 (unfold Tryz.f135; refine rn trivial ?_)
 refine rn F ?_
 repeat' (first
  | with_reducible exact ⟨⟩
  | (refine sG F ?_ ?_<;>intro hZ)
  | refine vp F (c1) ?_
  | refine vp F (c2) ?_
  | refine vp F (c3) ?_)
 all_goals first | rfl | skip
def Qw1 (k:Kn) (hk:k.smX) (h:1024 < k.lk.sum) (hq:k.lk.held.length<=10000000/\k.lk.wait.length<=10000000):VCalls prog 107 [.agg k.d] [] (Ret (.bool false)):=by
 refine dd Tryz.func107 ?_
 have c1:=QA4 k hk h hq
 (unfold Tryz.f107; refine rn trivial ?_)
 refine rn F ?_
 repeat' (first
  | with_reducible exact ⟨⟩
  | refine vp F (c1) ?_)
 all_goals first | rfl | skip
structure AdS (x:Lg) (n:Nat) where
 i:Nat
 k:Kn
 hi:i<=n
 hk:k.sm
 he:Ev x k.lg
def Qxl (x:Lg) (hx:x.es.length<=4096) (a:An) (ha:a.sm 10000) (n:Int):VCalls prog 182 [.agg x.c,.agg a.d,.int .i64 n] [] (QI kiD fun r=>r.1.sm/\(r.2 = 0->Ev x r.1.lg)):=by
 refine dk Tryz.func182 ?_
 obtain ⟨h1,h2,h3,h4⟩:=ha
 have c1:=QsI n
 have hf:=Qop n
 generalize Qm8 n = p at *
 obtain ⟨p,e0⟩:=p
 dsimp only at c1 hf
 have err:∀ z,z ≠ 0->QI kiD (fun r=>r.1.sm/\(r.2 = 0->Ev x r.1.lg)) (kiD (Kn0,z)) []:=fun z hz=>⟨rfl,rfl,(Kn0,z),rfl,Qb3,fun h=>absurd h hz⟩
 (unfold Tryz.f182; refine rn trivial ?_)
 refine rn F ?_
 repeat' (first
  | with_reducible exact ⟨⟩
  | (refine sB F ?_ ?_<;>intro hZ)
  | refine vp F (c1) ?_)
 all_goals first | exact err 1 (by decide) | skip
 by_cases hs:a.lk.length<=1024
 rotate_left
 ·have c2:=Qw1 ⟨a.pg,a.nx,x,p,⟨a.lk,[]⟩,a.lo,a.ix,a.la⟩ ⟨hx,by dsimp only; rw [hf]; exact Jb _,h1,h4,h3⟩ (by unfold Lk.sum; simp; omega) ⟨by dsimp only; omega,Jb _⟩
  refine rn F ?_
  refine VCalls.wkH ?_; simp only [Qgt,QeU,Qep,Qdx,DV.wk,PV.wk,QFJ]
  refine rn F ?_
  repeat' (first
   | with_reducible exact ⟨⟩
   | refine vp F (c2) ?_)
  exact err 15 (by decide)
 have hk0:(⟨a.pg,a.nx,x,p,⟨a.lk,[]⟩,a.lo,a.ix,a.la⟩:Kn).sm:=⟨hx,by dsimp only; rw [hf]; exact Jb _,by unfold Lk.sum; simp; omega,h1,h4,h3⟩
 have c2:=Q0 ⟨a.pg,a.nx,x,p,⟨a.lk,[]⟩,a.lo,a.ix,a.la⟩ hk0
 refine rn F ?_
 refine VCalls.wkH ?_; simp only [Qgt,QeU,Qep,Qdx,DV.wk,PV.wk,QFJ]
 refine rn F ?_
 repeat' (first
  | with_reducible exact ⟨⟩
  | (refine sB F ?_ ?_<;>intro hZ)
  | (refine Ql (c2) rfl ?_; rintro b hb; refine rn F ?_))
 all_goals first | exact err 15 (by decide) | skip
 have hlo:=h1.1
 refine Qg (fun s:AdS x a.lo.length=>⟨72,0,[(11,.int .i64 s.i),(10,.ptr 4 0),(6,.ptr 2 0),(4,.ptr 1 0)],[⟨32,true,x.c⟩,⟨270,true,a.d⟩,⟨45,true,Kn.d Kn0⟩,⟨35,true,p.d⟩,⟨45,true,s.k.d⟩]⟩) (fun s=>a.lo.length - s.i) ⟨0,_,Jb _,hk0,Ev.refl _⟩ (gc [0,1,2,3,4]) ?_
 rintro ⟨i,k,hi,hk,he⟩
 dsimp only
 by_cases hil:i < a.lo.length
 rotate_left
 ·skip
  refine rn F ?_
  exact ⟨rfl,rfl,(k,0),rfl,hk,fun _=>he⟩
 have hg:=Qej a.lo i hil
 generalize a.lo.getD i Tx0 = t at *
 have c3:=Qec k hk ⟨0,4,t.id,0,0,0,Ch0,[]⟩
 have F:=@hg
 refine rn F ?_
 repeat' (first
  | with_reducible exact ⟨⟩
  | (refine sB F ?_ ?_<;>intro hZ)
  | (refine Ql (c3) rfl ?_; rintro ⟨k1,n1,e1⟩ hq; refine rn F ?_)
  | (refine Qd (id:=11) [0,1,2,3,4,5,6,7] [⟨[],[],8,[1,2,3,4,5,6],[9,10,11,12]⟩,⟨[],[],13,[11,12],[]⟩,⟨[],[],14,[],[]⟩] (by kernel_rfl) (by kernel_rfl) ?_; refine rn F ?_))
 all_goals first
  | exact err _ (by assumption)
  | exact ⟨⟨i + 1,k,hil,hk,he⟩,by dsimp only; omega,(gc [0,1,2,3,4])⟩
  | exact ⟨⟨i + 1,k1,hil,hq.1,he.trans (Qeo hq (by assumption)).1⟩,by dsimp only; omega,(gc [0,1,2,3,4])⟩
  | skip
def unf (s:List UInt8) (a:Int):List UInt8 × Int × Int:=
 if a < 0\/(s.length:Int) < a then ([],0,1)
 else if ¬ a.toNat + 4<=s.length then ([],0,5)
 else if 8392 < n4 s a.toNat then ([],0,2)
 else if ¬ a.toNat + 4 + n4 s a.toNat + 4<=s.length then ([],0,5)
 else if ¬ (n4 s (a.toNat + 4 + n4 s a.toNat):Int) = QmP ((s.take (a.toNat + 4 + n4 s a.toNat)).drop a.toNat) then ([],0,3)
 else ((s.take (a.toNat + 4 + n4 s a.toNat)).drop (a.toNat + 4),(a.toNat + 4 + n4 s a.toNat + 4:Nat),0)
def Qy1 (s:List UInt8) (a:Int):(unf s a).1.length<=s.length/\((unf s a).2.2 = 0->0<=a/\0<=(unf s a).2.1/\(unf s a).2.1<=s.length):=by
 unfold unf
 split
 ·exact ⟨Jb _,fun h=>by simp at h⟩
 rename_i h1
 split
 ·exact ⟨Jb _,fun h=>by simp at h⟩
 split
 ·exact ⟨Jb _,fun h=>by simp at h⟩
 split
 ·exact ⟨Jb _,fun h=>by simp at h⟩
 rename_i h2
 split
 ·exact ⟨Jb _,fun h=>by simp at h⟩
 ·refine ⟨by dsimp only; rw [Jp,Jh]; omega,fun _=>⟨by omega,by dsimp only; omega,by dsimp only; omega⟩⟩
def QFt (s:List UInt8) (a:Int):DV:=.tup [.pv (.str (unf s a).1),.int .i64 (unf s a).2.1,.int .i64 (unf s a).2.2]
def QiB (s:List UInt8) (hs:s.length<=100000000) (a:Int):VCalls prog 222 [.pv (.str s),.int .i64 a] [] (Ret (QFt s a)):=by
 refine dd Tryz.func222 ?_
 unfold QFt unf
 by_cases h1:a < 0
 ·rw [if_pos (.inl h1)]
  (unfold Tryz.f222; refine rn @h1 ?_; try with_reducible exact ⟨⟩)
 ·by_cases h2:(s.length:Int) < a
  ·rw [if_pos (.inr h2)]
   (unfold Tryz.f222; refine rn (Ja @h1 @h2) ?_; try with_reducible exact ⟨⟩)
  ·rw [if_neg (by omega)]
   obtain ⟨k,rfl⟩:∃ k:Nat,a = k:=⟨a.toNat,by omega⟩
   rw [Jt]
   by_cases h3:k + 4<=s.length
   ·rw [if_neg (by omega)]
    have hn:=QBE s k
    (unfold Tryz.f222; refine rn (Ja @h1 @h2) ?_)
    refine Qag (QD5 s (by omega) k h3) rfl ?_
    by_cases h4:8392 < n4 s k
    ·rw [if_pos h4]
     have h4':8392 < (n4 s k:Int):=by omega
     (refine rn @h4' ?_; try with_reducible exact ⟨⟩)
    ·rw [if_neg h4]
     have h4':¬ 8392 < (n4 s k:Int):=by omega
     have hw:IntKind.u32.wrap (n4 s (k + 4 + n4 s k):Int) = (n4 s (k + 4 + n4 s k):Int):=by
      have:=QBE s (k + 4 + n4 s k)
      simp [IntKind.wrap,IntKind.signed,IntKind.bits]; omega
     by_cases h5:k + 4 + n4 s k + 4<=s.length
     ·rw [if_neg (by omega)]
      have hg:=QD5 s (by omega) (k + 4 + n4 s k) h5
      have e:(((k + 4 + n4 s k:Nat)):Int) = (k:Int) + 4 + (n4 s k:Int):=by omega
      rw [e] at hg
      have h5':¬ (s.length:Int) - (k:Int) < (n4 s k:Int) + 8:=by omega
      refine rn (Ja @h4' @h5') ?_
      refine Qag hg rfl ?_
      have ht:((k:Int) + 4 + (n4 s k:Int)).toNat = k + 4 + n4 s k:=by omega
      have q1:(0:Int)<=(k:Int) + 4 + (n4 s k:Int):=by omega
      have q2:k<=k + 4 + n4 s k:=by omega
      have q3:k + 4 + n4 s k<=s.length:=by omega
      have hx:=QmO ((s.take (k + 4 + n4 s k)).drop k)
      refine rn (Ja @ht (Ja @q1 (Ja @q2 (Ja @q3 @hw)))) ?_
      refine Qag (Qn5 _ (by rw [Jp,Jh]; omega)) rfl ?_
      by_cases h6:(n4 s (k + 4 + n4 s k):Int) = QmP ((s.take (k + 4 + n4 s k)).drop k)
      ·rw [if_neg (by omega)]
       have q4:((k:Int) + 4).toNat = k + 4:=by omega
       have q5:k + 4<=k + 4 + n4 s k:=by omega
       have q6:(0:Int)<=(k:Int) + 4:=by omega
       have e8:(((k + 4 + n4 s k + 4:Nat)):Int) = (k:Int) + 8 + (n4 s k:Int):=by omega
       refine rn (Ja @h6 (Ja @ht (Ja @q1 (Ja @q2 (Ja @q3 (Ja @q4 (Ja @q5 @q6))))))) ?_
       rw [e8]
      ·rw [if_pos h6]
       (refine rn @h6 ?_; try with_reducible exact ⟨⟩)
     ·rw [if_pos (by omega)]
      have h5':(s.length:Int) - (k:Int) < (n4 s k:Int) + 8:=by omega
      (refine rn (Ja @h4' @h5') ?_; try with_reducible exact ⟨⟩)
   ·rw [if_pos h3]
    (unfold Tryz.f222; refine rn (Ja @h1 @h2) ?_)
    refine Qag (QdK s k 4 (by omega) (by omega) (by omega)) rfl ?_
    (refine rn trivial ?_; try with_reducible exact ⟨⟩)
section
structure RS (s:List UInt8) where
 at_:Int
 e:Int
 h:0<=at_/\at_<=s.length
def Qnl (s:List UInt8) (a k:Nat):Int:=IntKind.i64.wrap (Qmq s a k)
def QcU (s:List UInt8) (r:RS s) (k:Nat):Int × RS s:=
 if r.e = 0 then if h:r.at_ + k<=s.length then (Qnl s r.at_.toNat k,⟨r.at_ + k,0,by have:=r.h; omega⟩) else (0,⟨r.at_,5,r.h⟩) else (0,r)
def Qfg (s:List UInt8) (r:RS s) (n:Int):List UInt8 × RS s:=
 if r.e = 0 then if h:0<=n/\r.at_ + n<=s.length then ((s.take (r.at_ + n).toNat).drop r.at_.toNat,⟨r.at_ + n,0,by have:=r.h; omega⟩) else ([],⟨r.at_,5,r.h⟩) else ([],r)
def Qik (s:List UInt8) (p:Int × RS s):Ce × RS s :=
 if p.2.e = 0/\¬ p.1 = 255 then
  if 12 < p.1 then (Ce0,⟨p.2.at_,4,p.2.h⟩) else (⟨true,(Qfg s p.2 p.1).1⟩,(Qfg s p.2 p.1).2)
 else (Ce0,p.2)
def QfC (s:List UInt8) (r:RS s):Ce × RS s:=Qik s (QcU s r 1)
def Qnk (s:List UInt8) (a k:Nat) (h:k<=7):0<=Qnl s a k/\Qnl s a k < 2 ^ (8 * k):=by
 have h1:=Qe4 s a k (by omega)
 have h2:=QlG s a k
 have h3:(2:Nat) ^ (8 * k)<=2 ^ 56:=Nat.pow_le_pow_right (by omega) (by omega)
 have h4:((2:Int) ^ (8 * k)) = ((2 ^ (8 * k):Nat):Int):=by rw [JH]; rfl
 unfold Qnl
 rw [h1,IntKind.wrap_i64,h4]
 omega
def QtQ (s:List UInt8) (r:RS s) (k:Nat) (h:k<=7):0<=(QcU s r k).1:=by
 unfold QcU
 split
 ·split
  ·exact (Qnk s _ k h).1
  ·exact JM _
 ·exact JM _
abbrev RC (B:Blk) (d:DV):DV->Qb->Prop:=fun r h'=>∃ B',h' = [B']/\B'.live = true/\DV.nums.go (fun _=>false) B'.cells = true/\r.nums (fun _=>false) = true/\(r = d/\B' = B)
def rdB (T:TypeId) (s:List UInt8) (r:RS s):Blk:=⟨T,true,[.pv (.str s),.int .i64 r.at_,.int .i64 r.e]⟩
attribute [go_sem] rdB
attribute [local go_sem] Ce.d
def Qet (h:VCalls prog g (args.map (DV.ren fun _=>0)) [rdB T s r0] (RC (rdB T s r1) d)) (hk:hp[k]? = some (rdB T s r0)) (ha:DV.nums.go (fun i=>i == k) args = true) (hK:K d (hp.set k (rdB T s r1))):VCalls prog g args hp K:=
 (VCalls.ptr1 (R:=fun r B'=>r = d/\B' = rdB T s r1) hk rfl rfl h ha).mono fun r h' ⟨B',e1,_,_,e2,e3⟩=>by subst e1 e2 e3; exact hK
def Qcb (s:List UInt8) (hs:s.length<=100000000) (r:RS s) (k:Nat) (hk:1<=k/\k<=8):VCalls prog 253 [.ptr 0 0,.int .i64 k] [rdB 344 s r] (RC (rdB 344 s (QcU s r k).2) (.int .i64 (QcU s r k).1)):=by
 refine dd Tryz.func253 ?_
 obtain ⟨a,e,ha⟩:=r
 obtain ⟨n,rfl⟩:∃ n:Nat,a = n:=⟨a.toNat,by omega⟩
 unfold QcU
 dsimp only
 by_cases he:e = 0
 ·subst he
  rw [if_pos rfl]
  by_cases h:(n:Int) + k<=s.length
  ·rw [dif_pos h]
   have hg:=QiE s (by omega) n k hk (by omega)
   (unfold Tryz.f253; refine rn trivial ?_)
   refine Qd (id:=3) [0,1,2,3,4,5,6,7,8] [⟨[],[],9,[0,1,2,4,5,6],[10,11,12]⟩,⟨[],[],13,[12],[]⟩,⟨[],[],14,[],[]⟩] (by kernel_rfl) (by kernel_rfl) ?_
   refine rn trivial ?_
   refine Qag hg rfl ?_
   refine rn trivial ?_
   exact ⟨_,rfl,rfl,rfl,rfl,rfl,rfl⟩
  ·rw [dif_neg h]
   have hg:=QdK s n k (by omega) (by omega) h
   (unfold Tryz.f253; refine rn trivial ?_)
   refine Qd (id:=3) [0,1,2,3,4,5,6,7,8] [⟨[],[],9,[0,1,2,4,5,6],[10,11,12]⟩,⟨[],[],13,[12],[]⟩,⟨[],[],14,[],[]⟩] (by kernel_rfl) (by kernel_rfl) ?_
   refine rn trivial ?_
   refine Qag hg rfl ?_
   refine rn trivial ?_
   exact ⟨_,rfl,rfl,rfl,rfl,rfl,rfl⟩
 ·rw [if_neg he]
  (unfold Tryz.f253; refine rn @he ?_)
  exact ⟨_,rfl,rfl,rfl,rfl,rfl,rfl⟩
def QoE (s:List UInt8) (hs:s.length<=100000000) (r:RS s) (n:Int) (hn:0<=n/\n<=4294967296):VCalls prog 255 [.ptr 0 0,.int .i64 n] [rdB 344 s r] (RC (rdB 344 s (Qfg s r n).2) (.pv (.str (Qfg s r n).1))):=by
 refine dd Tryz.func255 ?_
 obtain ⟨a,e,ha⟩:=r
 obtain ⟨n,rfl⟩:∃ m:Nat,n = m:=⟨n.toNat,by omega⟩
 obtain ⟨a,rfl⟩:∃ m:Nat,a = m:=⟨a.toNat,by omega⟩
 unfold Qfg
 dsimp only
 by_cases he:e = 0
 ·subst he
  rw [if_pos rfl]
  by_cases h:0<=(n:Int)/\(a:Int) + n<=s.length
  ·rw [dif_pos h]
   have q1:¬ (s.length:Int) - a < n:=by omega
   have q2:¬ (s.length:Int) - a < n:=by omega
   have q3:¬ (s.length:Int) - (a:Int) < (n:Int):=by omega
   have q4:((a:Int) + n).toNat = a + n:=by omega
   have q5:(a:Int) + n - n = a:=by omega
   have q6:a<=a + n:=by omega
   have q7:a + n<=s.length:=by omega
   have q8:0<=(a:Int) + n:=by omega
   have q9:(a:Int).toNat = a:=by omega
   have q10:¬ (n:Int) > (s.length:Int) - a:=by omega
   (unfold Tryz.f255; refine rn @q3 ?_)
   refine QdX (by kernel_rfl) (by kernel_rfl) ?_
   refine rn (Ja @q3 @q10) ?_
   refine QdX (by kernel_rfl) (by kernel_rfl) ?_
   refine rn (Ja @q4 (Ja @q5 (Ja @q6 (Ja @q7 @q8)))) ?_
   exact ⟨_,rfl,rfl,rfl,rfl,rfl,rfl⟩
  ·rw [dif_neg h]
   have q3:(s.length:Int) - (a:Int) < (n:Int):=by omega
   (unfold Tryz.f255; refine rn @q3 ?_)
   refine QdX (by kernel_rfl) (by kernel_rfl) ?_
   refine rn @q3 ?_
   exact ⟨_,rfl,rfl,rfl,rfl,rfl,rfl⟩
 ·rw [if_neg he]
  (unfold Tryz.f255; refine rn @he ?_)
  exact ⟨_,rfl,rfl,rfl,rfl,rfl,rfl⟩
def QlJ (s:List UInt8) (hs:s.length<=100000000) (r:RS s):VCalls prog 254 [.ptr 0 0] [rdB 344 s r] (RC (rdB 344 s (QfC s r).2) (.agg (QfC s r).1.d)):=by
 refine dd Tryz.func254 ?_
 have hn:=Qcb s hs r 1 (by omega)
 have h0:=QtQ s r 1 (by omega)
 have h1:(QcU s r 1).1<=255:=by
  unfold QcU
  split
  ·split
   ·have:=(Qnk s r.at_.toNat 1 (by omega)).2; dsimp only; omega
   ·simp
  ·simp
 unfold QfC
 generalize QcU s r 1 = p at hn h0 h1 |-
 obtain ⟨n,r1⟩:=p
 unfold Qik
 dsimp only at hn h0 h1 |-
 (unfold Tryz.f254; refine rn trivial ?_)
 refine Qet (k:=0) hn rfl rfl ?_
 by_cases he:r1.e = 0
 ·by_cases h2:n = 255
  ·subst h2
   rw [if_neg (by simp)]
   refine rn @he ?_
   exact ⟨_,rfl,rfl,rfl,rfl,rfl,by rw [<- he]⟩
  ·rw [if_pos ⟨he,h2⟩]
   by_cases h3:12 < n
   ·rw [if_pos h3]
    refine rn (Ja @he (Ja @h2 @h3)) ?_
    exact ⟨_,rfl,rfl,rfl,rfl,rfl,rfl⟩
   ·rw [if_neg h3]
    have ht:=QoE s hs r1 n (by omega)
    refine rn (Ja @he (Ja @h2 @h3)) ?_
    have e9:(⟨344,true,[.pv (.str s),.int .i64 r1.at_,.int .i64 0]⟩:Blk) = rdB 344 s r1:=by rw [rdB,he]
    rw [e9]
    refine Qet (k:=0) ht rfl rfl ?_
    refine rn trivial ?_
    exact ⟨_,rfl,rfl,rfl,rfl,rfl,rfl⟩
 ·rw [if_neg (fun h=>he h.1)]
  refine rn @he ?_
  exact ⟨_,rfl,rfl,rfl,rfl,rfl,rfl⟩
end
section
attribute [local go_sem] Ce.d
def rs0 (s:List UInt8):RS s:=⟨0,0,by omega⟩
def QxK (s:List UInt8) (r:RS s):(QcU s r 4).1<=4294967296:=by
 unfold QcU
 split
 ·split
  ·have:=(Qnk s r.at_.toNat 4 (by omega)).2; dsimp only; omega
  ·simp
 ·simp
def Qu1 (s:List UInt8):E × RS s:=
 let p1:=QcU s (rs0 s) 8
 let p2:=QcU s p1.2 1
 let p3:=QcU s p2.2 4
 let p4:=QcU s p3.2 8
 let p5:=QcU s p4.2 8
 let p6:=QcU s p5.2 8
 let p7:=QcU s p6.2 4
 let p8:=QcU s p7.2 1
 let c1:=QfC s p8.2
 let c2:=QfC s c1.2
 let p9:=QcU s c2.2 4
 let t:=Qfg s p9.2 p9.1
 (⟨p1.1,p2.1,p3.1,p4.1,p5.1,p6.1,⟨p7.1,p8.1,c1.1,c2.1⟩,t.1⟩,t.2)
def Qrc (s:List UInt8):E × Int:=
 if (Qu1 s).2.e = 0 then if (Qu1 s).2.at_ = s.length then if (Qu1 s).1.okB = true then ((Qu1 s).1,0) else (E0,12) else (E0,4) else (E0,(Qu1 s).2.e)
def Qp5 (s:List UInt8) (hs:s.length<=100000000):VCalls prog 224 [.pv (.str s)] [] (Ret (.tup [.agg (Qrc s).1.d,.int .i64 (Qrc s).2])):=by
 have hp1:=Qcb s hs (rs0 s) 8 (by omega)
 generalize hqp1:QcU s (rs0 s) 8 = p1 at hp1
 have hp2:=Qcb s hs p1.2 1 (by omega)
 generalize hqp2:QcU s p1.2 1 = p2 at hp2
 have hp3:=Qcb s hs p2.2 4 (by omega)
 generalize hqp3:QcU s p2.2 4 = p3 at hp3
 have hp4:=Qcb s hs p3.2 8 (by omega)
 generalize hqp4:QcU s p3.2 8 = p4 at hp4
 have hp5:=Qcb s hs p4.2 8 (by omega)
 generalize hqp5:QcU s p4.2 8 = p5 at hp5
 have hp6:=Qcb s hs p5.2 8 (by omega)
 generalize hqp6:QcU s p5.2 8 = p6 at hp6
 have hp7:=Qcb s hs p6.2 4 (by omega)
 generalize hqp7:QcU s p6.2 4 = p7 at hp7
 have hp8:=Qcb s hs p7.2 1 (by omega)
 generalize hqp8:QcU s p7.2 1 = p8 at hp8
 have hc1:=QlJ s hs p8.2
 generalize hqc1:QfC s p8.2  = c1 at hc1
 have hc2:=QlJ s hs c1.2
 generalize hqc2:QfC s c1.2  = c2 at hc2
 have hp9:=Qcb s hs c2.2 4 (by omega)
 generalize hqp9:QcU s c2.2 4 = p9 at hp9
 have ht:=QoE s hs p9.2 p9.1 ⟨by rw [<- hqp9]; exact QtQ s _ 4 (by omega),by rw [<- hqp9]; exact QxK s _⟩
 generalize hqt:Qfg s p9.2 p9.1 = t at ht
 have hd:Qu1 s = (⟨p1.1,p2.1,p3.1,p4.1,p5.1,p6.1,⟨p7.1,p8.1,c1.1,c2.1⟩,t.1⟩,t.2):=by
  unfold Qu1
  simp only [hqp1,hqp2,hqp3,hqp4,hqp5,hqp6,hqp7,hqp8,hqc1,hqc2,hqp9,hqt]
 have hv:=QcG ⟨p1.1,p2.1,p3.1,p4.1,p5.1,p6.1,⟨p7.1,p8.1,c1.1,c2.1⟩,t.1⟩
 unfold Qrc
 rw [hd]
 clear hqt hqp9 hqc2 hqc1 hqp8 hqp7 hqp6 hqp5 hqp4 hqp3 hqp2 hqp1 hd
 obtain ⟨n1,r1⟩:=p1
 obtain ⟨n2,r2⟩:=p2
 obtain ⟨n3,r3⟩:=p3
 obtain ⟨n4,r4⟩:=p4
 obtain ⟨n5,r5⟩:=p5
 obtain ⟨n6,r6⟩:=p6
 obtain ⟨n7,r7⟩:=p7
 obtain ⟨n8,r8⟩:=p8
 obtain ⟨x1,r9⟩:=c1
 obtain ⟨x2,r10⟩:=c2
 obtain ⟨n9,r11⟩:=p9
 obtain ⟨tt,r12⟩:=t
 dsimp only at *
 refine dd Tryz.func224 ?_
 (unfold Tryz.f224; refine rn trivial ?_)
 have e0:(⟨344,true,[.pv (.str s),.int .i64 0,.int .i64 0]⟩:Blk) = rdB 344 s (rs0 s):=rfl
 rw [e0]
 refine Qet (k:=1) hp1 rfl rfl ?_
 refine rn trivial ?_
 refine Qet (k:=1) hp2 rfl rfl ?_
 refine rn trivial ?_
 refine Qet (k:=1) hp3 rfl rfl ?_
 refine rn trivial ?_
 refine Qet (k:=1) hp4 rfl rfl ?_
 refine rn trivial ?_
 refine Qet (k:=1) hp5 rfl rfl ?_
 refine rn trivial ?_
 refine Qet (k:=1) hp6 rfl rfl ?_
 refine rn trivial ?_
 refine Qet (k:=1) hp7 rfl rfl ?_
 refine rn trivial ?_
 refine Qet (k:=1) hp8 rfl rfl ?_
 refine rn trivial ?_
 refine Qet (k:=1) hc1 rfl rfl ?_
 refine rn trivial ?_
 refine Qet (k:=1) hc2 rfl rfl ?_
 refine rn trivial ?_
 refine Qet (k:=1) hp9 rfl rfl ?_
 refine rn trivial ?_
 refine Qet (k:=1) ht rfl rfl ?_
 refine rn trivial ?_
 by_cases he:r12.e = 0
 ·rw [if_pos he]
  by_cases ha:r12.at_ = s.length
  ·rw [if_pos ha]
   refine rn (Ja @he @ha) ?_
   by_cases hb:E.okB ⟨n1,n2,n3,n4,n5,n6,⟨n7,n8,x1,x2⟩,tt⟩ = true
   ·rw [if_pos hb]
    rw [hb] at hv
    refine Qag hv rfl ?_
    refine rn trivial ?_
    first | exact ⟨⟩ | rfl
   ·rw [if_neg hb]
    have hb:E.okB ⟨n1,n2,n3,n4,n5,n6,⟨n7,n8,x1,x2⟩,tt⟩ = false:=by simpa using hb
    rw [hb] at hv
    refine Qag hv rfl ?_
    refine rn trivial ?_
    rfl
  ·rw [if_neg ha]
   refine rn (Ja @he @ha) ?_
   rfl
 ·rw [if_neg he]
  refine rn @he ?_
  refine QdX (by kernel_rfl) (by kernel_rfl) ?_
  refine rn trivial ?_
  rfl
end
def QgW (s:List UInt8) (a l:Int):Option (E × Int):=if (unf s a).2.2 = 0/\(Qrc (unf s a).1).2 = 0/\(Qrc (unf s a).1).1.lsn = l then some ((Qrc (unf s a).1).1,(unf s a).2.1) else none
def opn (s:List UInt8):Nat->Int->Int->List E
 | 0,_,_=>[]
 | n + 1,a,l=>match QgW s a l with
   | some (x,b)=>x :: opn s n b (l + 1)
   | none=>[]
def QDf (s:List UInt8):List E:=opn s 4096 (unf s 0).2.1 (Qnl (unf s 0).1 4 8)
def hdO (s:List UInt8):Prop:=(unf s 0).2.2 = 0/\(unf s 0).1.length = 12/\(unf s 0).1.take 4 = [80,77,76,71]/\1<=Qnl (unf s 0).1 4 8/\Qnl (unf s 0).1 4 8<=1099511627776
instance (s:List UInt8):Decidable (hdO s):=by unfold hdO; infer_instance
def Qb8 (s:List UInt8):Lg × Int:=if hdO s then (⟨Qnl (unf s 0).1 4 8,QDf s,Qnl (unf s 0).1 4 8 + (QDf s).length - 1⟩,0) else (Lg0,4)
def QtM (s:List UInt8):∀ n a l,(opn s n a l).length<=n
 | 0,_,_=>JA _
 | n + 1,a,l=>by
   unfold opn
   split
   ·rw [Jg]; have:=QtM s n; exact Nat.succ_le_succ (this _ _)
   ·exact Jb _
def Qoq (n:Nat) (h:QgW s a l = none):opn s n a l = []:=by
 cases n
 ·rfl
 ·unfold opn; rw [h]
def Qsm (h:(unf s a).2.2 ≠ 0):QgW s a l = none:=if_neg fun x=>h x.1
structure Op (s:List UInt8) (f a0:Int) where
 l:List E
 a:Int
 hl:l.length<=4096
 h:l ++ opn s (4096 - l.length) a (f + l.length) = opn s 4096 a0 f
def Op.start (s:List UInt8) (f a0:Int):Op s f a0:=⟨[],a0,Jb _,by simp⟩
def QxE (hn:n < 4096) (h:QgW s a l = some (x,b)):opn s (4096 - n) a l = x :: opn s (4096 - (n + 1)) b (l + 1):=by
 obtain ⟨m,hm⟩:∃ m,4096 - n = m + 1:=⟨4095 - n,by omega⟩
 rw [hm,show 4096 - (n + 1) = m by omega]
 conv=>lhs; unfold opn
 rw [h]
def Op.next {s:List UInt8} {f a0:Int} (o:Op s f a0) (hn:o.l.length < 4096) {x:E} {b:Int} (h:QgW s o.a (f + o.l.length) = some (x,b)):Op s f a0:=⟨o.l ++ [x],b,by simp; omega,by
 have:=o.h
 rw [QxE hn h] at this
 rw [<- this,Jc,List.length_singleton,Je,List.singleton_append]
 congr 3
 omega⟩
def Op.stop (o:Op s f a0) (h:o.l.length < 4096->QgW s o.a (f + o.l.length) = none):opn s 4096 a0 f = o.l:=by
 rw [<- o.h]
 by_cases hc:o.l.length < 4096
 ·rw [Qoq _ (h hc),Jl]
 ·have:=o.hl
  rw [show 4096 - o.l.length = 0 by omega]; exact Jl _
def QA6 (s:List UInt8) (hs:s.length<=100000000):VCalls prog 180 [.pv (.str s)] [] (Ret (lgD (Qb8 s))):=by
 refine VCalls.unwk ?_
 refine dd Tryz.func180 ?_
 have c0:=QiB s hs 0
 have hu:=Qy1 s 0
 generalize hR:Qb8 s = R
 unfold QFt at c0
 generalize hU:unf s 0 = u at *
 obtain ⟨u,a0,e0⟩:=u
 dsimp only at hu c0
 (unfold Tryz.f180; refine rn trivial ?_)
 by_cases he:e0 = 0
 rotate_left
 ·skip
  have F:=@he
  refine rn F ?_
  repeat' (first
   | with_reducible exact ⟨⟩
   | refine vp F (c0) ?_)
  all_goals
   rw [<- hR]
   unfold Qb8
   rw [if_neg (fun h=>by have h1:=h.1; rw [hU] at h1; exact he h1)]
   rfl
 subst he
 by_cases hl:u.length = 12
 rotate_left
 ·have hl2:¬ (u.length:Int) = 12:=by omega
  have F:=@hl2
  refine rn F ?_
  repeat' (first
   | with_reducible exact ⟨⟩
   | refine vp F (c0) ?_)
  all_goals first
   | (rw [<- hR]; unfold Qb8; rw [if_neg (fun h=>by have h1:=h.2.1; rw [hU] at h1; exact hl h1)]; rfl)
   | (exfalso; omega)
 have h4:4<=u.length:=by omega
 have c3:=QiE u (by omega) 4 8 (by omega) (by omega)
 have hN:IntKind.i64.wrap (Qmq u 4 8) = Qnl u 4 8:=rfl
 rw [hN] at c3
 generalize hn:Qnl u 4 8 = f at *
 have hl3:(u.length:Int) = 12:=by omega
 by_cases hp:u.take 4 = [80,77,76,71]
 rotate_left
 ·skip
  have F:=(Ja @h4 (Ja @hl3 @hp))
  refine rn F ?_
  repeat' (first
   | with_reducible exact ⟨⟩
   | (refine sG F ?_ ?_<;>intro hZ)
   | (refine sB F ?_ ?_<;>intro hZ)
   | refine vp F (c0) ?_
   | refine vp F (c3) ?_)
  all_goals first
   | (rw [<- hR]; unfold Qb8; rw [if_neg (fun h=>by have h1:=h.2.2.1; rw [hU] at h1; exact hp h1)]; rfl)
   | (exfalso; omega)
   | skip
  all_goals (exfalso; simp_all)
 by_cases hf:1<=f/\f<=1099511627776
 rotate_left
 ·skip
  have F:=(Ja @h4 (Ja @hl3 @hp))
  refine rn F ?_
  repeat' (first
   | with_reducible exact ⟨⟩
   | (refine sG F ?_ ?_<;>intro hZ)
   | refine vp F (c0) ?_
   | refine vp F (c3) ?_)
  all_goals first
   | (rw [<- hR]; unfold Qb8; rw [if_neg (fun h=>by have h1:=h.2.2.2; rw [hU,hn] at h1; exact hf h1)]; rfl)
   | (exfalso; omega)
 have F:=(Ja @h4 (Ja @hl3 @hp))
 refine rn F ?_
 repeat' (first
  | with_reducible exact ⟨⟩
  | refine vp F (c0) ?_
  | refine vp F (c3) ?_)
 all_goals first | (exfalso; omega) | skip
 refine VLoop.nilOwnC 1 1 73 13 rfl rfl ?_
 refine rn trivial ?_
 refine Qg (fun o:{o:Op s f a0 × Int // o.2 = f + o.1.l.length - 1}=>⟨90,0,[(9,.ptr 1 0),(5,.int .i64 o.1.1.a),(2,.ptr 0 0),(0,.pv (.str s))],[⟨32,true,[.int .i64 0,.pv (.slc []),.int .i64 0]⟩,⟨32,true,[.int .i64 f,.own 2 13 0 o.1.1.l.length,.int .i64 o.1.2]⟩,⟨73,true,cells encE o.1.1.l⟩]⟩) (fun o=>4096 - o.1.1.l.length) ⟨(Op.start s f a0,f - 1),by simp [Op.start]⟩ (gc [0,1,2]) ?_
 rintro ⟨⟨o,d⟩,hd⟩
 dsimp only at hd |-
 have hol:=o.hl
 have hst:=o.stop
 have c4:=QiB s hs o.a
 unfold QFt at c4
 have hu2:=Qy1 s o.a
 have hso:QgW s o.a (f + o.l.length) = if (unf s o.a).2.2 = 0/\(Qrc (unf s o.a).1).2 = 0/\(Qrc (unf s o.a).1).1.lsn = f + o.l.length then some ((Qrc (unf s o.a).1).1,(unf s o.a).2.1) else none:=rfl
 generalize unf s o.a = v at *
 obtain ⟨v,b,e⟩:=v
 dsimp only at hu2 hso c4
 have c5:=Qp5 v (by omega)
 generalize Qrc v = D at *
 have hb:(o.l.length + 1) * 128<=140737488355328:=by omega
 have fin:(o.l.length < 4096->QgW s o.a (f + o.l.length) = none)->DV.tup [.agg [.int .i64 f,.pv (.sl (fz encE o.l)),.int .i64 d],.int .i64 0] = lgD R:=fun h=>by
  have h1:hdO s:=by unfold hdO; rw [hU,hn]; exact ⟨rfl,hl,hp,hf⟩
  have h2:QDf s = o.l:=by unfold QDf; rw [hU,hn]; exact hst h
  rw [<- hR,hd]
  unfold Qb8
  rw [if_pos h1,h2,hU,hn]
  rfl
 have F:=@hb
 refine rn F ?_
 repeat' (first
  | with_reducible exact ⟨⟩
  | (refine sG F ?_ ?_<;>intro hZ)
  | (refine sB F ?_ ?_<;>intro hZ)
  | refine vp F (c4) ?_
  | refine vp F (c5) ?_)
 ·exact fin fun _=>by rw [hso,if_neg fun h=>by have h1:=h.1; omega]
 ·exact fin fun _=>by rw [hso,if_neg fun h=>by have h1:=h.2.1; have h2:=h.2.2; omega]
 ·have hl1:(o.l ++ [D.1]).length = o.l.length + 1:=by simp
  refine ⟨⟨(o.next (by omega) (x:=D.1) (b:=b) (by rw [hso,if_pos ⟨by omega,by omega,by omega⟩]),D.1.lsn),?_⟩,?_,?_⟩
  ·dsimp only [Op.next]; rw [hl1]; omega
  ·dsimp only [Op.next]; rw [hl1]; omega
  ·dsimp only [Op.next]
   rw [hl1]
   exact (gc [0,1,5])
 ·exact fin fun _=>by rw [hso,if_neg fun h=>by have h1:=h.2.1; omega]
 ·exact fin fun h=>by omega
def QlH:∀ {k:Nat},(∀ i,i < k->s.getD (a + i) 0 = t.getD (b + i) 0)->leN s a k = leN t b k
 | 0,_=>rfl
 | k + 1,h=>by rw [leN,leN,QlH (fun i hi=>h i (by omega)),h k (by omega)]
def Qt8 (s t:List UInt8) (n:Int) (k:Nat) (hk:k<=8):leN (Qay s n k ++ t) s.length k = u64N n % 2 ^ (8 * k):=by
 have h:=QnP s t n k hk k (JA _)
 rw [Qe4 _ _ _ hk] at h
 omega
def frq (q:List UInt8):List UInt8:=Qay [] q.length 4 ++ q
def Qnw (q:List UInt8):(frq q).length = q.length + 4:=by rw [frq,Jc,Qr]; simp; omega
def QuF (h:q.length<=8392):frm q = Qay (frq q) (QmP (frq q)) 4:=by rw [frm,if_pos h]; rfl
def Qhs (h:q.length<=8392):(frm q).length = q.length + 8:=by rw [QuF h,Qr,Qnw]
def Qty (p q:List UInt8) (n:Int) (k:Nat):p ++ Qay q n k = Qay (p ++ q) n k:=by simp [Qay]
def QuE (h:q.length<=8392) (p r:List UInt8):p ++ (frm q ++ r) = Qay (p ++ frq q) (QmP (frq q)) 4 ++ r:=by
 rw [QuF h,<- Qty,Je]
def QEw (h:q.length<=8392) (p r:List UInt8):n4 (p ++ (frm q ++ r)) p.length = q.length:=by
 have:=Qt8 p (q ++ ((JN 4).map (Ql9 (QmP (frq q))) ++ r)) q.length 4 (by omega)
 have e:p ++ (frm q ++ r) = Qay p q.length 4 ++ (q ++ ((JN 4).map (Ql9 (QmP (frq q))) ++ r)):=by
  rw [QuF h]
  generalize QmP (frq q) = z
  simp only [frq,Qay,JI,Je]
 rw [n4,e,this]
 unfold u64N; omega
def QEv (h:q.length<=8392) (p r:List UInt8):(n4 (p ++ (frm q ++ r)) (p.length + 4 + q.length):Int) = QmP (frq q):=by
 have:=Qt8 (p ++ frq q) r (QmP (frq q)) 4 (by omega)
 have hx:=QmO (frq q)
 have hl:(p ++ frq q).length = p.length + 4 + q.length:=by rw [Jc,Qnw]; omega
 rw [QuE h,n4,<- hl,this]
 unfold u64N; omega
def QEP (h:q.length<=8392) (p r:List UInt8):((p ++ (frm q ++ r)).take (p.length + 4 + q.length)).drop p.length = frq q:=by
 have hl:(p ++ frq q).length = p.length + 4 + q.length:=by rw [Jc,Qnw]; omega
 rw [QuE h,Qay,Je,List.take_left' hl,JJ]
def Qy2 (h:q.length<=8392) (p r:List UInt8):unf (p ++ (frm q ++ r)) p.length = (q,((p.length + (q.length + 8):Nat):Int),0):=by
 have h1:=QEw h p r
 have h2:=QEv h p r
 have h3:=QEP h p r
 have hl:=Qhs h
 have hs:(p ++ (frm q ++ r)).length = p.length + (q.length + 8) + r.length:=by rw [Jc,Jc,hl]; omega
 unfold unf
 rw [Jt,if_neg (by omega),if_neg (by omega),h1,if_neg (by omega),if_neg (by omega),h2,h3,if_neg (by simp)]
 have e:((p ++ (frm q ++ r)).take (p.length + 4 + q.length)).drop (p.length + 4) = q:=by
  rw [<- List.drop_drop,h3,frq,List.drop_left' (by rw [Qr]; rfl)]
 rw [e]
 congr 2
 omega
def QAp (h:q.length<=8392) (p:List UInt8) (k:Nat) (hk:k < q.length + 8):(unf (p ++ (frm q).take k) p.length).2.2 = 5:=by
 have hl:=Qhs h
 have hs:(p ++ (frm q).take k).length = p.length + k:=by rw [Jc,Jh]; omega
 unfold unf
 rw [Jt,if_neg (by omega)]
 by_cases h4:k < 4
 ·rw [if_pos (by omega)]
 have h1:=QEw h p []
 have h0:n4 (p ++ (frm q).take k) p.length = q.length:=by
  rw [<- h1]
  refine QlH fun i hi=>?_
  rw [Jf,Jf,Jv (by omega),Jv (by omega),JD,if_pos (by omega),Jl]
 rw [if_neg (by omega),h0,if_neg (by omega),if_pos (by omega)]
def QAo (p:List UInt8):(unf p p.length).2.2 = 5:=by
 unfold unf
 rw [Jt,if_neg (by omega),if_pos (by omega)]
def QtP (s p:List UInt8) (n:Int) (k:Nat) (hk:k<=8) (hp:Qay p n k <+: s) (h:0<=n/\n < 2 ^ (8 * k)/\n<=9223372036854775807):Qnl s p.length k = n:=by
 obtain ⟨t,rfl⟩:=hp
 unfold Qnl
 rw [QnP p t n k hk k (JA _)]
 have e:u64N n % 2 ^ (8 * k) = n.toNat:=by
  have h1:u64N n = n.toNat:=by unfold u64N; omega
  have h2:((2:Int) ^ (8 * k)) = ((2 ^ (8 * k):Nat):Int):=by rw [JH]; rfl
  rw [h1]
  exact Nat.mod_eq_of_lt (by omega)
 rw [e,IntKind.wrap_i64]
 omega
def At {t:List UInt8} (r:RS t) (p:List UInt8):Prop:=(r.e = 5/\t.length < p.length)\/(r.e = 0/\r.at_ = p.length)
def Qbn (p:List UInt8) (n:Int) (k:Nat):p <+: Qay p n k:=Jq _ _
def Qze {t s p:List UInt8} (ht:t <+: s) (hp:p <+: s) (hl:p.length<=t.length):p <+: t:=List.prefix_of_prefix_length_le hp ht hl
def Qdc (ht:t <+: s) (n:Int) (k:Nat) (hk:k<=8) (hp:Qay p n k <+: s) (h:0<=n/\n < 2 ^ (8 * k)/\n<=9223372036854775807) (ha:At r p):
 At (QcU t r k).2 (Qay p n k)/\((QcU t r k).2.e = 0->(QcU t r k).1 = n):=by
 have hl:=Qr p n k
 unfold QcU
 rcases ha with ⟨h1,h2⟩ | ⟨h1,h2⟩
 ·rw [if_neg (by omega)]
  refine ⟨.inl ⟨h1,by omega⟩,fun h=>absurd (h1.symm.trans h) (by decide)⟩
 ·rw [if_pos h1]
  split
  ·rename_i hb
   refine ⟨.inr ⟨rfl,by dsimp only; omega⟩,fun _=>?_⟩
   have e:r.at_.toNat = p.length:=by omega
   dsimp only
   rw [e]
   exact QtP t p n k hk (Qze ht hp (by omega)) h
  ·refine ⟨.inl ⟨rfl,by omega⟩,fun h=>absurd (show (5:Int) = 0 from h) (by decide)⟩
def Qr8 (ht:t <+: s) (hp:p ++ d <+: s) {n:Int} (ha:At r p) (hn:r.e = 0->n = d.length):
 At (Qfg t r n).2 (p ++ d)/\((Qfg t r n).2.e = 0->(Qfg t r n).1 = d):=by
 have hl:(p ++ d).length = p.length + d.length:=Jc
 unfold Qfg
 rcases ha with ⟨h1,h2⟩ | ⟨h1,h2⟩
 ·rw [if_neg (by omega)]
  refine ⟨.inl ⟨h1,by omega⟩,fun h=>absurd (h1.symm.trans h) (by decide)⟩
 ·rw [if_pos h1]
  have hn:=hn h1
  split
  ·rename_i hb
   refine ⟨.inr ⟨rfl,by dsimp only; omega⟩,fun _=>?_⟩
   have e:r.at_.toNat = p.length:=by omega
   have e2:(r.at_ + n).toNat = (p ++ d).length:=by omega
   dsimp only
   rw [e,e2]
   have:=Qze ht hp (by omega)
   rw [<- List.prefix_iff_eq_take.1 this,JJ]
  ·refine ⟨.inl ⟨rfl,by omega⟩,fun h=>absurd (show (5:Int) = 0 from h) (by decide)⟩
def Qvq (ht:t <+: s) (c:Ce) (hc:c.okB = true) (hp:Qau p c <+: s) (ha:At r p):
 At (QfC t r).2 (Qau p c)/\((QfC t r).2.e = 0->(QfC t r).1 = c):=by
 obtain ⟨set,data⟩:=c
 simp only [Ce.okB,Jx,decide_eq_true_eq,Bool.or_eq_true,beq_iff_eq] at hc
 unfold QfC Qik
 unfold Qau at hp |-
 cases set
 ·simp only [Bool.false_eq_true,if_false] at hp |-
  obtain ⟨h1,h2⟩:=Qdc (r:=r) ht 255 1 (by omega) hp ⟨by omega,by omega,by omega⟩ ha
  have hd:data = []:=by rcases hc.2 with h | h; cases h; exact h
  subst hd
  split
  ·rename_i h
   exact absurd (h2 h.1) h.2
  ·exact ⟨h1,fun _=>rfl⟩
 ·simp only [if_true] at hp |-
  obtain ⟨h1,h2⟩:=Qdc (r:=r) ht data.length 1 (by omega) ((Jq _ _).trans hp) ⟨by omega,by omega,by omega⟩ ha
  split
  ·rename_i h
   have h3:=h2 h.1
   rw [if_neg (by omega)]
   obtain ⟨h4,h5⟩:=Qr8 ht hp h1 (n:=(QcU t r 1).1) (fun _=>h3)
   exact ⟨h4,fun h=>by rw [h5 h]⟩
  ·rename_i h
   have h3:(QcU t r 1).2.e ≠ 0:=fun e=>h ⟨e,by rw [h2 e]; omega⟩
   rcases h1 with ⟨h4,h5⟩ | ⟨h4,h5⟩
   ·refine ⟨.inl ⟨h4,?_⟩,fun e=>absurd e h3⟩
    rw [Jc]; omega
   ·exact absurd h4 h3
def Qia (h:(QcU t r k).2.e = 0):r.e = 0:=by
 unfold QcU at h
 split at h
 ·assumption
 ·exact h
def QDH (h:(Qfg t r n).2.e = 0):r.e = 0:=by
 unfold Qfg at h
 split at h
 ·assumption
 ·exact h
def QzC (h:(QfC t r).2.e = 0):r.e = 0:=by
 unfold QfC Qik at h
 split at h
 ·rename_i hc
  exact Qia hc.1
 ·exact Qia h
def QFZ (e:E) (h:e.okB = true):(0<=e.lsn/\e.lsn<=1099511627776)/\(0<=e.kind/\e.kind < 256)/\(0<=e.tx/\e.tx < 4294967296)/\(0<=e.ptx/\e.ptx<=1099511627776)/\(0<=e.ppg/\e.ppg<=1099511627776)/\(0<=e.ref/\e.ref<=1099511627776)/\(0<=e.c.pg/\e.c.pg < 64)/\(0<=e.c.sl/\e.c.sl < 16)/\e.c.b.okB = true/\e.c.a.okB = true:=by
 obtain ⟨lsn,kind,tx,ptx,ppg,ref,⟨pg,sl,⟨b1,b2⟩,⟨a1,a2⟩⟩,blob⟩:=e
 simp only [E.okB,Jx,bef,decide_eq_true_eq] at h
 obtain ⟨h0,h⟩:=h
 unfold E.kindB at h
 dsimp only at h0 h |-
 split at h
 ·simp [Ch.okB,Ce.okB,txB] at h |-; grind
 split at h
 ·simp [Ch.okB,Ce.okB,txB] at h |-; grind
 split at h
 ·simp [Ch.no,Ce.no,Ce.okB,txB] at h |-; grind
 split at h
 ·simp [Ch.no,Ce.no,Ce.okB] at h |-; grind
 split at h
 ·simp [Ch.ix,Ce.no,Ce.okB] at h |-; grind
 ·simp at h
def QiT (p:List UInt8) (c:Ce):p <+: Qau p c:=by
 unfold Qau
 split
 ·exact (Qbn _ _ _).trans (Jq _ _)
 ·exact Qbn _ _ _
def QEZ (x:E) (h:x.okB = true) (ht:t <+: s) (hx:Ql0 x <+: s):At (Qu1 t).2 (Ql0 x)/\((Qu1 t).2.e = 0->(Qu1 t).1 = x):=by
 obtain ⟨i1,i2,i3,i4,i5,i6,i7,i8,i9,i10⟩:=QFZ x h
 obtain ⟨l1,l2,l3⟩:=QeO h
 have a0:At (rs0 t) []:=.inr ⟨rfl,rfl⟩
 have P10:Qay (Qau (Qau (Qa5 x) x.c.b) x.c.a) x.blob.length 4 <+: s:=(Jq _ _).trans hx
 have P9:Qau (Qau (Qa5 x) x.c.b) x.c.a <+: s:=(Qbn _ _ _).trans P10
 have P8:Qau (Qa5 x) x.c.b <+: s:=(QiT _ _).trans P9
 have PH:Qa5 x <+: s:=(QiT _ _).trans P8
 unfold Qa5 at PH P8 P9 P10
 have P7:=(Qbn _ _ _).trans PH
 have P6:=(Qbn _ _ _).trans P7
 have P5:=(Qbn _ _ _).trans P6
 have P4:=(Qbn _ _ _).trans P5
 have P3:=(Qbn _ _ _).trans P4
 have P2:=(Qbn _ _ _).trans P3
 have P1:=(Qbn _ _ _).trans P2
 obtain ⟨b1,c1⟩:=Qdc (r:=rs0 t) ht x.lsn 8 (by omega) P1 ⟨by omega,by omega,by omega⟩ a0
 obtain ⟨b2,c2⟩:=Qdc ht x.kind 1 (by omega) P2 ⟨by omega,by omega,by omega⟩ b1
 obtain ⟨b3,c3⟩:=Qdc ht x.tx 4 (by omega) P3 ⟨by omega,by omega,by omega⟩ b2
 obtain ⟨b4,c4⟩:=Qdc ht x.ptx 8 (by omega) P4 ⟨by omega,by omega,by omega⟩ b3
 obtain ⟨b5,c5⟩:=Qdc ht x.ppg 8 (by omega) P5 ⟨by omega,by omega,by omega⟩ b4
 obtain ⟨b6,c6⟩:=Qdc ht x.ref 8 (by omega) P6 ⟨by omega,by omega,by omega⟩ b5
 obtain ⟨b7,c7⟩:=Qdc ht x.c.pg 4 (by omega) P7 ⟨by omega,by omega,by omega⟩ b6
 obtain ⟨b8,c8⟩:=Qdc ht x.c.sl 1 (by omega) PH ⟨by omega,by omega,by omega⟩ b7
 obtain ⟨b9,c9⟩:=Qvq ht x.c.b i9 P8 b8
 obtain ⟨b10,c10⟩:=Qvq ht x.c.a i10 P9 b9
 obtain ⟨b11,c11⟩:=Qdc ht x.blob.length 4 (by omega) P10 ⟨by omega,by omega,by omega⟩ b10
 obtain ⟨b12,c12⟩:=Qr8 ht hx b11 c11
 unfold Qu1
 dsimp only
 refine ⟨b12,fun e12=>?_⟩
 have e11:=QDH e12
 have e10:=Qia e11
 have e9:=QzC e10
 have e8:=QzC e9
 have e7:=Qia e8
 have e6:=Qia e7
 have e5:=Qia e6
 have e4:=Qia e5
 have e3:=Qia e4
 have e2:=Qia e3
 have e1:=Qia e2
 rw [c1 e1,c2 e2,c3 e3,c4 e4,c5 e5,c6 e6,c7 e7,c8 e8,c9 e9,c10 e10,c12 e12]
def QEY (x:E) (h:x.okB = true):Qrc (Ql0 x) = (x,0):=by
 obtain ⟨h1,h2⟩:=QEZ x h (Jy _) (Jy _)
 unfold Qrc
 rcases h1 with ⟨h3,h4⟩ | ⟨h3,h4⟩
 ·omega
 ·rw [if_pos h3,if_pos h4,h2 h3,if_pos h]
def QeX (h:e.okB = true):(Ql0 e).length<=8392:=by
 obtain ⟨l1,l2,l3⟩:=QeO h
 have n1:=QbE (Qa5 e) e.c.b
 have n2:=QbE (Qau (Qa5 e) e.c.b) e.c.a
 rw [QdP] at n1
 unfold Ql0
 rw [Jc,Qr]
 omega
def Qzs (h:e.okB = true):frE e = frm (Ql0 e):=by unfold frE Qij; rw [if_pos h]
def Qwr (h:e.okB = true) (p r:List UInt8):QgW (p ++ (frE e ++ r)) p.length e.lsn = some (e,((p.length + (frE e).length:Nat):Int)):=by
 have h1:=Qy2 (QeX h) p r
 have h2:=QEY e h
 have hl:=Qhs (QeX h)
 rw [Qzs h]
 unfold QgW
 rw [h1]
 dsimp only
 rw [h2,if_pos ⟨rfl,rfl,rfl⟩,hl]
def Qq7 (l:Int) (es:List E):Prop:=∀ i:Nat,i < es.length->(es.getD i E0).lsn = l + i/\(es.getD i E0).okB = true
def QkY (h:Qq7 l (e :: r)):e.lsn = l/\e.okB = true/\Qq7 (l + 1) r:=by
 have h0:=h 0 (by simp)
 refine ⟨by simpa using h0.1,by simpa using h0.2,fun i hi=>?_⟩
 have:=h (i + 1) (by simpa using hi)
 simp only [Ju] at this
 exact ⟨by omega,this.2⟩
def QiI (r:List UInt8):∀ (es:List E) (p:List UInt8) (l:Int) (n:Nat),Qq7 l es->es.length<=n ->
 opn (p ++ (es.flatMap frE ++ r)) n p.length l = es ++ opn (p ++ (es.flatMap frE ++ r)) (n - es.length) ((p.length + (es.flatMap frE).length:Nat):Int) (l + es.length)
 | [],p,l,n,_,_=>by simp
 | e :: t,p,l,n,h,hn=>by
   obtain ⟨h1,h2,h3⟩:=QkY h
   rw [Jg] at hn
   obtain ⟨m,rfl⟩:∃ m,n = m + 1:=⟨n - 1,by omega⟩
   have hs:p ++ ((e :: t).flatMap frE ++ r) = p ++ (frE e ++ (t.flatMap frE ++ r)):=by rw [Ji]; simp only [Je]
   have hs2:p ++ ((e :: t).flatMap frE ++ r) = (p ++ frE e) ++ (t.flatMap frE ++ r):=by rw [Ji]; simp only [Je]
   have h4:=Qwr h2 p (t.flatMap frE ++ r)
   rw [<- hs,h1] at h4
   have ih:=QiI r t (p ++ frE e) (l + 1) m h3 (by omega)
   rw [<- hs2] at ih
   have e1:opn (p ++ ((e :: t).flatMap frE ++ r)) (m + 1) p.length l = e :: opn (p ++ ((e :: t).flatMap frE ++ r)) m ((p.length + (frE e).length:Nat):Int) (l + 1):=by
    conv=>lhs; unfold opn
    rw [h4]
   rw [e1,<- Jc,ih,Jg,Ji,Jc,Jc]
   rw [show m + 1 - (t.length + 1) = m - t.length by omega,List.cons_append]
   congr 3
   ·omega
   ·omega
def QlO (r:List UInt8):unf (Qdl f ++ r) 0 = (Qay [80,77,76,71] f 8,20,0):=by
 have:=Qy2 (q:=Qay [80,77,76,71] f 8) (by rw [Qr]; simp) [] r
 rw [JI] at this
 unfold Qdl
 rw [show (([]:List UInt8).length:Int) = 0 from rfl] at this
 rw [this,Qr]
 rfl
def Qfu (f:Int):(Qdl f).length = 20:=by
 unfold Qdl
 rw [Qhs (by rw [Qr]; simp),Qr]; rfl
def Qya (h:1<=f/\f<=1099511627776) (r:List UInt8):hdO (Qdl f ++ r)/\Qnl (unf (Qdl f ++ r) 0).1 4 8 = f:=by
 have h1:=QlO (f:=f) r
 have h2:Qnl (Qay [80,77,76,71] f 8) 4 8 = f:=QtP _ [80,77,76,71] f 8 (by omega) (Jy _) ⟨by omega,by omega,by omega⟩
 unfold hdO
 rw [h1]
 dsimp only
 refine ⟨⟨rfl,by rw [Qr]; rfl,?_,by omega,by omega⟩,h2⟩
 simp [Qay]
def Qlm (h:1<=f/\f<=1099511627776) (he:Qq7 f es) (hl:es.length<=4096) (r:List UInt8) (hr:es.length < 4096->QgW (Qdl f ++ (es.flatMap frE ++ r)) ((20 + (es.flatMap frE).length:Nat):Int) (f + es.length) = none):Qb8 (Qdl f ++ (es.flatMap frE ++ r)) = (⟨f,es,f + es.length - 1⟩,0):=by
 obtain ⟨h1,h2⟩:=Qya h (es.flatMap frE ++ r)
 have h3:=QlO (f:=f) (es.flatMap frE ++ r)
 have h4:=QiI r es (Qdl f) f 4096 he hl
 rw [Qfu] at h4
 have h5:QDf (Qdl f ++ (es.flatMap frE ++ r)) = es:=by
  unfold QDf
  rw [h2,h3]
  dsimp only
  refine h4.trans ?_
  by_cases hc:es.length < 4096
  ·rw [Qoq _ (hr hc),Jl]
  ·rw [show 4096 - es.length = 0 by omega]; exact Jl _
 unfold Qb8
 rw [if_pos h1,h2,h5]
def QjO (h:lgB x = true):Qq7 x.f x.es:=by
 unfold lgB at h
 simp only [Jx,Jw,JK] at h
 intro i hi
 have:=h.2 i hi
 simpa [lgC] using this
def Qzj (h:x.hd) (hs:Qq7 x.f x.es):lgB x = true:=by
 unfold lgB
 rw [decide_eq_true h,Bool.true_and,Jw]
 intro i hi
 have:=hs i (JK.1 hi)
 simpa [lgC] using this
def Quu {α:Type} (l:List α) (n i:Nat) (h:i < n) (d:α):(l.take n).getD i d = l.getD i d:=by
 rw [Jf,Jf,JD,if_pos h]
def QkX (h:Qq7 l es) (n:Nat):Qq7 l (es.take n):=fun i hi=>by
 rw [Jh] at hi
 rw [Quu _ _ _ (by omega)]
 exact h i (by omega)
def Qhu:∀ (es:List E) (t:Nat),∃ j m,j<=es.length/\(es.flatMap frE).take t = (es.take j).flatMap frE ++ (frE (es.getD j E0)).take m/\(j < es.length->m < (frE (es.getD j E0)).length)/\(j = es.length->m = 0)
 | [],t=>⟨0,0,JA _,by simp,fun h=>absurd h (by simp),fun _=>rfl⟩
 | e :: r,t=>by
   by_cases h:t < (frE e).length
   ·refine ⟨0,t,Jb _,?_,fun _=>by simpa using h,fun h=>absurd h (by simp)⟩
    rw [Ji,List.take_append_of_le_length (by omega)]
    simp
   ·obtain ⟨j,m,h1,h2,h3,h4⟩:=Qhu r (t - (frE e).length)
    refine ⟨j + 1,m,by rw [Jg]; omega,?_,fun h=>?_,fun h=>?_⟩
    ·rw [Ji,List.take_append,Jj (by omega),h2,JB,Ji,Ju,Je]
    ·rw [Jg] at h
     rw [Ju]; exact h3 (by omega)
    ·rw [Jg] at h
     exact h4 (by omega)
def QfP:∀ (es:List E),Qq7 l es->l - 1<=d->d<=l + es.length - 1->(es.filter fun e=>decide (e.lsn<=d)) = es.take (d - l + 1).toNat/\(es.filter fun e=>!decide (e.lsn<=d)) = es.drop (d - l + 1).toNat
 | [],_,h1,h2=>by simp
 | e :: r,h,h1,h2=>by
   obtain ⟨a1,a2,a3⟩:=QkY h
   rw [Jg] at h2
   by_cases hc:l<=d
   ·obtain ⟨b1,b2⟩:=QfP (d:=d) (l:=l + 1) r a3 (by omega) (by omega)
    obtain ⟨k,hk,hk2⟩:∃ k,(d - l + 1).toNat = k + 1/\(d - (l + 1) + 1).toNat = k:=⟨(d - l).toNat,by omega,by omega⟩
    rw [hk2] at b1 b2
    rw [hk,JB,List.drop_succ_cons,JF,JF,if_pos (by simp; omega),if_neg (by simp; omega),b1,b2]
    exact ⟨rfl,rfl⟩
   ·have hk:(d - l + 1).toNat = 0:=by omega
    rw [hk,JL,List.drop_zero]
    have hall:∀ x ∈ (e :: r),¬ x.lsn<=d:=fun x hx=>by
     obtain ⟨i,hi,rfl⟩:=List.getElem_of_mem hx
     have:=(h i hi).1
     rw [Qm _ _ hi] at this
     omega
    refine ⟨List.filter_eq_nil_iff.2 fun x hx=>by have:=hall x hx; simp; omega,List.filter_eq_self.2 fun x hx=>by have:=hall x hx; simp; omega⟩
def Qqy (h:lgB x = true) (torn:Int):∃ n,(x.d - x.f + 1).toNat<=n/\n<=x.es.length/\Qb8 (Qdr x torn) = (⟨x.f,x.es.take n,x.f + n - 1⟩,0):=by
 have hh:=QT h
 simp only [Lg.hd] at hh
 have hs:=QjO h
 obtain ⟨f1,f2⟩:=QfP (d:=x.d) (l:=x.f) x.es hs (by omega) (by omega)
 unfold Qdr
 rw [if_pos h]
 unfold Qrb Qs3
 rw [f1,f2]
 generalize hk:(x.d - x.f + 1).toNat = k
 obtain ⟨j,m,h1,h2,h3,h4⟩:=Qhu (x.es.drop k) torn.toNat
 rw [Jp] at h1 h3 h4
 have hget:(x.es.drop k).getD j E0 = x.es.getD (k + j) E0:=by
  rw [Jf,Jf,List.getElem?_drop]
 have htk:x.es.take k ++ (x.es.drop k).take j = x.es.take (k + j):=by rw [<- List.take_add]
 have hlen:(x.es.take (k + j)).length = k + j:=by rw [Jh]; omega
 refine ⟨k + j,by omega,by omega,?_⟩
 rw [h2,hget,Je,<- Je,<- Je,Je,Je,<- Je (List.flatMap frE _),<- List.flatMap_append,htk]
 have:=Qlm (f:=x.f) ⟨by omega,by omega⟩ (QkX hs (k + j)) (by rw [hlen]; omega) ((frE (x.es.getD (k + j) E0)).take m) (fun _=>Qsm (by
  by_cases hc:j < x.es.length - k
  ·have h5:=h3 hc
   rw [hget] at h5
   have hok:=(hs (k + j) (by omega)).2
   rw [Qzs hok] at h5 |-
   rw [Qhs (QeX hok)] at h5
   have:=QAp (QeX hok) (Qdl x.f ++ (x.es.take (k + j)).flatMap frE) m h5
   rw [Jc,Qfu,Je] at this
   rw [this]; decide
  ·rw [h4 (by omega),JL,Jl]
   have:=QAo (Qdl x.f ++ (x.es.take (k + j)).flatMap frE)
   rw [Jc,Qfu] at this
   rw [this]; decide))
 rw [hlen] at this
 exact this
def QtN (s:List UInt8):(Qb8 s).1.es.length<=4096:=by
 unfold Qb8
 split
 ·exact QtM _ _ _ _
 ·exact Jb _
def QsQ (v:Dv) (hv:v.ps.length<=64) (s:List UInt8) (hs:s.length<=100000000) (n m:Int):VCalls prog 134 [.agg v.d,.pv (.str s),.int .i64 n,.int .i64 m] [] (QI svD fun r=>r.1.sm/\(r.2 = 0->(Qb8 s).2 = 0/\Ev (Qb8 s).1 r.1.k.lg)):=by
 refine dk Tryz.func134 ?_
 have c1:=QA6 s hs
 have hl:=QtN s
 generalize Qb8 s = o at *
 obtain ⟨x,e0⟩:=o
 dsimp only at hl c1 |-
 have c2:=QpR x hl n
 have c3:=fun a ha=>Qxl x hl a ha m
 have err:∀ z,z ≠ 0->QI svD (fun r=>r.1.sm/\(r.2 = 0->e0 = 0/\Ev x r.1.k.lg)) (svD (Sv0,z)) []:=fun z hz=>⟨rfl,rfl,(Sv0,z),rfl,Qdw,fun h=>absurd h hz⟩
 (unfold Tryz.f134; refine rn trivial ?_)
 refine rn F ?_
 repeat' (first
  | with_reducible exact ⟨⟩
  | (refine sB F ?_ ?_<;>intro hZ)
  | refine vp F (c1) ?_
  | (refine Ql (c2) rfl ?_; rintro ⟨a,e1⟩ ha; refine rn F ?_)
  | (refine Ql (c3 a ha) rfl ?_; rintro ⟨k,e2⟩ hk; refine rn F ?_))
 all_goals first
  | exact err _ (by assumption)
  | exact ⟨rfl,rfl,(⟨k,v⟩,0),rfl,⟨hk.1,hv⟩,fun _=>⟨by assumption,hk.2 (by assumption)⟩⟩
  | skip
def QsP (v:Dv) (hv:v.ps.length<=64) (s:List UInt8) (hs:s.length<=100000000) (n m:Int):VCalls prog 106 [.agg v.d,.pv (.str s),.int .i64 n,.int .i64 m] [] (QI svD fun r=>r.1.sm/\(r.2 = 0->(Qb8 s).2 = 0/\Ev (Qb8 s).1 r.1.k.lg)):=by
 refine dk Tryz.func106 ?_
 have c1:=QsQ v hv s hs n m
 generalize Qb8 s = o at *
 (unfold Tryz.f106; refine rn trivial ?_)
 refine rn F ?_
 repeat' (first
  | with_reducible exact ⟨⟩
  | (refine Ql (c1) rfl ?_; rintro ⟨k,e⟩ hk; refine rn F ?_))
 all_goals first
  | exact ⟨rfl,rfl,(k,e),rfl,hk⟩
  | skip
section
attribute [local go_sem] Qbj
@[go_sem] def crD (a:Dv × Lg × Int):DV:=.tup [.agg a.1.d,.pv (.str (Qdr a.2.1 a.2.2))]
def crQ (s:Sv) (a:Dv × Lg × Int):Prop:=a.1.ps.length<=64/\a.2.1.f = s.k.lg.f/\a.2.1.es = s.k.lg.es/\(lgB s.k.lg = true->lgB a.2.1 = true)
def QsE (s:Sv) (hs:s.sm) (torn id cut:Int):VCalls prog 105 [.agg s.d,.int .i64 torn,.int .i64 id,.int .i64 cut] [] (QI crD (crQ s)):=by
 refine dk Tryz.func105 ?_
 have c1:=QcH s.k.pl (Jk hs.1.2.1 (by decide)) id
 have hl:=hs.1.1
 have c2:=Qog s.k.lg (by omega) torn
 have c3:=fun d=>Qog ⟨s.k.lg.f,s.k.lg.es,d⟩ (by dsimp only; omega) torn
 have h0:crQ s (s.v,s.k.lg,torn):=⟨hs.2,rfl,rfl,fun h=>h⟩
 (unfold Tryz.f105; refine rn trivial ?_)
 refine rn F ?_
 repeat' (first
  | with_reducible exact ⟨⟩
  | (refine Qd (id:=1) [0,1,2,3] [⟨[4,5],[4],6,[2,3],[]⟩,⟨[5],[5],7,[],[]⟩] (by kernel_rfl) (by kernel_rfl) ?_; refine rn F ?_))
 refine vp hl c1 ?_
 rcases QcM s.k.pl id with hn | ⟨_,i,hi,hfi,_⟩
 ·rw [hn]
  refine rn @hl ?_
  refine rn F ?_
  repeat' (first
   | with_reducible exact ⟨⟩
   | refine vp F (c2) ?_
   | (refine Qd (id:=9) [0,1,2,3] [⟨[],[],4,[0,1],[]⟩,⟨[],[],5,[1,2,3],[]⟩,⟨[],[],6,[],[]⟩] (by kernel_rfl) (by kernel_rfl) ?_; refine rn F ?_))
  exact ⟨rfl,rfl,(s.v,s.k.lg,torn),rfl,h0⟩
 ·rw [hfi]
  have hg:=Qb1 s.k.pl.fs i hi
  generalize s.k.pl.fs.getD i Fm0 = f at *
  have c4:=QmZ f.pg
  have c5:=QeF s.k hs.1 f.pg.lsn
  refine rn @hg ?_
  have c6:=fun b (hb:b.length<=256)=>QAR s.v (Jk hs.2 (by decide)) id b (Jk hb (by decide)) cut
  have F:=@hg
  refine rn F ?_
  repeat' (first
   | with_reducible exact ⟨⟩
   | (refine sB F ?_ ?_<;>intro hZ)
   | refine vp F (c2) ?_
   | (refine Ql (c4) rfl ?_; rintro ⟨b,e1⟩ hb; refine rn F ?_)
   | (refine Ql (c5) rfl ?_; rintro d hd; refine rn F ?_)
   | (refine Ql (c6 b hb) rfl ?_; rintro ⟨v2,e2⟩ hv; refine rn F ?_)
   | refine vp F (c3 d) ?_
   | (refine Qd (id:=5) [0,1,2,3,4,5,6,7,8] [⟨[],[],9,[1,2,3,4,5,6,7],[]⟩,⟨[],[],10,[],[]⟩] (by kernel_rfl) (by kernel_rfl) ?_; refine rn F ?_)
   | (refine Qd (id:=9) [0,1,2,3] [⟨[],[],4,[0,1],[]⟩,⟨[],[],5,[1,2,3],[]⟩,⟨[],[],6,[],[]⟩] (by kernel_rfl) (by kernel_rfl) ?_; refine rn F ?_))
  all_goals first
   | exact ⟨rfl,rfl,(s.v,s.k.lg,torn),rfl,h0⟩
   | exact ⟨rfl,rfl,(v2,⟨s.k.lg.f,s.k.lg.es,d⟩,torn),rfl,hv,rfl,rfl,hd⟩
   | exact ⟨rfl,rfl,(s.v,⟨s.k.lg.f,s.k.lg.es,d⟩,torn),rfl,hs.2,rfl,rfl,hd⟩
   | skip
end
section
attribute [local go_sem] Qbj
def Qve (hx:LgI x) (hf:y.f = x.f) (hv:lgB y = true) (he:Ev (Qb8 (Qdr y t)).1 z):LgI z:=by
 obtain ⟨n,h1,h2,h3⟩:=Qqy hv t
 rw [h3] at he
 have hd:=QT hv
 simp only [Lg.hd] at hd
 have hl:(y.es.take n).length = n:=by rw [Jh]; omega
 refine ⟨he.ok (Qzj (x:=⟨y.f,y.es.take n,y.f + n - 1⟩) ⟨hd.1,hd.2.1,by dsimp only; omega,by dsimp only; omega,by dsimp only; omega⟩ (show Qq7 y.f (y.es.take n) from QkX (QjO hv) n)),he.f.trans (hf.trans hx.2)⟩
def Qvf (hx:x.es.length<=4096) (t:Int):(Qdr x t).length<=100000000:=by
 have h9:=QlP x.f
 have h8:=QoR x.es x.d
 have h7:=Qof x.es x.d
 unfold Qdr
 split
 ·rw [Jc,Jc,Jh]
  omega
 ·exact Jb _
structure Tz (n:Nat) where
 i:Nat
 l:List Int
 hi:i<=n
 hl:l.length = n
def crI (c:Sc) (n m:Nat) (c':Sc) (_:Rs):Prop:=m = 0/\c'.sm n/\(LgI c.s.k.lg->LgI c'.s.k.lg)
def Qtg (c:Sc) (n:Nat) (hn:n<=2000) (hc:c.sm n) (t:Sp):VCalls prog 81 [.ptr 0 0,.agg t.d] [scB c 1 2,scT c.tx,scR c.rd] (ScEnd rsD (crI c n)):=by
 refine QQ (fn:=Tryz.f81) Tryz.func81 rfl (by kernel_rfl) (by simp [Tryz.f81]) ?_
 have c1:=QsE c.s hc.1 t.torn t.pg t.cut
 (unfold Tryz.f81; refine rn trivial ?_)
 refine rn F ?_
 repeat' (first
  | with_reducible exact ⟨⟩
  | (refine Ql (c1) rfl ?_; rintro ⟨v,y,tn⟩ hq; refine rn F ?_)
  | (refine QbH (id:=1) [[],[0],[0,1],[0,1,2],[],[4],[],[6],[],[8],[0,1,2,3,4,5,6,7,8,9],[0,1,2,3,4,5,6,7,8,9,10],[0,1,2,3,4,5,6,7,8,9,10,11],[0,1,2,3,4,5,6,7,8,9,10,11],[],[0,1,2,3,4,5,6,7,8,9,10,11,12,14],[0,1,2,3,4,5,6,7,8,9,10,11,12,13,14,15]] [0,1,2,3,4,5,6,7,8,9] [⟨[14],[],10,[],[11,12,13]⟩,⟨[14],[14],15,[13],[]⟩,⟨[],[],16,[],[]⟩] (by kernel_rfl) (by kernel_rfl) (by kernel_rfl) ?_; refine rn F ?_)
  | (refine QbH (id:=2) [[],[],[],[2],[2,3],[2,3,4],[2,3,4,5],[2,3,4,5,6],[],[8],[8,9],[8,9,10],[8,9,10,11],[8,9,10,11,12],[8,9,10,11,12,13],[0,1,2,3,4,5,6,7,8,9,10,11,12,13,14],[0,1,2,3,4,5,6,7,8,9,10,11,12,13,14,15],[0,1,2,3,4,5,6,7,8,9,10,11,12,13,14,15,16],[0,1,2,3,4,5,6,7,8,9,10,11,12,13,14,15,16],[],[0,1,2,3,4,5,6,7,8,9,10,11,12,13,14,15,16,17,19],[0,1,2,3,4,5,6,7,8,9,10,11,12,13,14,15,16,17,18,19,20]] [0,1,2,3,4,5,6,7,8,9,10,11,12,13,14] [⟨[19],[],15,[],[16,17,18]⟩,⟨[19],[19],20,[18],[]⟩,⟨[],[],21,[],[]⟩] (by kernel_rfl) (by kernel_rfl) (by kernel_rfl) ?_; refine rn F ?_))
 obtain ⟨q1,q2,q3,q4⟩:=hq
 dsimp only at q1 q2 q3 q4
 have c2:=QsP v q1 (Qdr y tn) (Qvf (by rw [q3]; exact hc.1.1.1) tn) c.s.k.pg c.s.k.pl.size
 have hI:=fun (h:LgI c.s.k.lg) (z:Lg) (he:Ev (Qb8 (Qdr y tn)).1 z)=>Qve h q2 (q4 h.1) he
 generalize Qdr y tn = str at *
 generalize Qb8 str = o at *
 refine rn F ?_
 repeat' (first
  | with_reducible exact ⟨⟩
  | (refine Ql (c2) rfl ?_; rintro ⟨s2,e⟩ hk; refine rn F ?_))
 obtain ⟨k1,k2⟩:=hk
 dsimp only at k1 k2
 refine Qg (fun r:Tz c.tx.length=>⟨70,3,[(9,.int .i64 r.i),(8,.int .i64 e),(7,.ptr 4 0),(4,.ptr 3 0),(0,.ptr 0 0)],[scB ⟨c.s,r.l,c.rd,c.dead⟩ 1 2,scT r.l,scR c.rd,⟨130,true,[.int .i64 0,.int .i64 0,.int .i64 0,.bool false,.pv (.str []),.int .i64 0]⟩,⟨82,true,s2.d⟩]⟩) (fun r=>c.tx.length - r.i) ⟨0,c.tx,Jb _,rfl⟩ (gc [0,1,2,4,6]) ?_
 rintro ⟨i,l,hi,hl⟩
 dsimp only
 have hsm:∀ (z:Sv) (d:Bool),z.sm->(⟨z,l,c.rd,d⟩:Sc).sm n:=fun z d hz=>⟨hz,by dsimp only; rw [hl]; exact hc.2.1,hc.2.2⟩
 have htx:=hc.2.1
 by_cases hil:i < c.tx.length
 ·have hil2:i < l.length:=by omega
  have hset:=QiS l i 0
  have F:=@hil2
  refine rn F ?_
  refine ⟨⟨i + 1,l.set i 0,hil,by rw [Jz]; exact hl⟩,by dsimp only; omega,?_⟩
  dsimp only
  rw [Jz]
  exact (gc [0,1,2,3,4])
 have hil2:¬ i < l.length:=by omega
 by_cases he:e = 0
 ·subst he
  have c3:=QeD 0
  have F:=trivial
  refine rn F ?_
  repeat' (first
   | with_reducible exact ⟨⟩
   | refine vp F (c3) ?_)
  exact QG ⟨70,3,[(4,.ptr 3 0)],[scB ⟨s2,l,c.rd,c.dead⟩ 1 2,scT l,scR c.rd,⟨130,true,(Qf4 0).d⟩]⟩ (gc [0,1,2,3]) ⟨⟨s2,l,c.rd,c.dead⟩,Qf4 0,_,rfl,rfl,.inl ⟨⟨rfl,hsm s2 _ k1,fun h=>hI h _ (k2 rfl).2⟩,rfl⟩⟩
 ·have c3:=QeD e
  have F:=@he
  refine rn F ?_
  repeat' (first
   | with_reducible exact ⟨⟩
   | refine vp F (c3) ?_)
  exact QG ⟨70,3,[(4,.ptr 3 0)],[scB ⟨c.s,l,c.rd,true⟩ 1 2,scT l,scR c.rd,⟨130,true,(Qf4 e).d⟩]⟩ (gc [0,1,2,3]) ⟨⟨c.s,l,c.rd,true⟩,Qf4 e,_,rfl,rfl,.inl ⟨⟨rfl,hsm c.s _ hc.1,fun h=>h⟩,rfl⟩⟩
def QwG (c:Sc) (n:Nat) (hn:n<=2000) (hc:c.sm n) (t:Sp) (ht:t.kind = 6):QhK LgI c n t:=by
 refine QQ (fn:=Tryz.f58) Tryz.func58 rfl (by kernel_rfl) (by simp [Tryz.f58]) ?_
 obtain ⟨k,tx,pg,torn,cut,a⟩:=t
 dsimp only at ht
 subst ht
 (unfold Tryz.f58; refine rn trivial ?_)
 refine QkB (c:=c) 0 1 2 (Qtg c n hn hc ⟨6,tx,pg,torn,cut,a⟩) rfl rfl rfl (by decide) (by decide) (by decide) rfl rfl ?_ (fun _ _ h=>absurd h.1 (by decide)) (fun _ _ h=>absurd h.1 (by decide))
 rintro c1 r1 ⟨-,q1,q2⟩ B
 refine rn trivial ?_
 exact QG ⟨132,3,[(4,.ptr 3 0)],[scB c1 1 2,scT (Sc.tx c1),scR (Sc.rd c1),⟨130,true,Rs.d (r1)⟩]⟩ (gc [0,1,2,4]) ⟨c1,r1,_,rfl,rfl,.inl ⟨⟨⟨q1.1,Jd q1.2.1,Jd q1.2.2⟩,q2⟩,rfl⟩⟩
end
section
attribute [local go_sem] cb cc
def QAB (c:C) (m n:Nat) (h1:1<=m) (h2:m<=1000) (h3:1<=n) (h4:n<=1000):VCalls prog 59 [.ptr 0 0,.int .i64 m,.int .i64 n,.bool true] [cb c] (CX fun r=>∃ t:Sp,r = .agg t.d):=by
 refine dd Tryz.func59 ?_
 (unfold Tryz.f59; refine rn trivial ?_)
 refine rn F ?_
 repeat' (first
  | with_reducible exact ⟨⟩
  | (refine sB F ?_ ?_<;>intro hZ)
  | (refine QJ (k:=0) (QY _ 16 (by omega) (by omega)) rfl rfl ?_; rintro _ _ ⟨_,rfl,_⟩; refine rn F ?_)
  | (refine QJ (k:=0) (QY _ 4 (by omega) (by omega)) rfl rfl ?_; rintro _ _ ⟨_,rfl,_⟩; refine rn F ?_)
  | (refine QJ (k:=0) (QY _ 90 (by omega) (by omega)) rfl rfl ?_; rintro _ _ ⟨_,rfl,_⟩; refine rn F ?_)
  | (refine QJ (k:=0) (QY _ 257 (by omega) (by omega)) rfl rfl ?_; rintro _ _ ⟨_,rfl,_⟩; refine rn F ?_)
  | (refine QJ (k:=0) (QY _ m (by omega) (by omega)) rfl rfl ?_; rintro _ _ ⟨_,rfl,_⟩; refine rn F ?_)
  | (refine QJ (k:=0) (QY _ n (by omega) (by omega)) rfl rfl ?_; rintro _ _ ⟨_,rfl,_⟩; refine rn F ?_)
  | (refine QJ (k:=0) (QtV _ ((m:Int) + 1) (by omega) (by omega)) rfl rfl ?_; rintro _ _ ⟨_,rfl,_⟩; refine rn F ?_)
  | (refine QJ (k:=0) (QyU _ m h1 h2) rfl rfl ?_; rintro _ _ ⟨_,rfl,_⟩; refine rn F ?_))
 all_goals exact ⟨_,rfl,rfl,Qal _,rfl,⟨⟨_,_,_,_,_,⟨_,_,_,_⟩⟩,rfl⟩,_,rfl⟩
structure Sd1 (most:Nat) where
 k:Nat
 c:C
 l:List Sp
 hk:k + l.length<=most + 2
def Qwy (c:C) (m most:Nat) (h1:1<=m) (h2:m<=1000) (hm:most<=1000):VCalls prog 45 [.ptr 0 0,.int .i64 m,.int .i64 most,.bool true] [cb c] (CX fun r=>∃ l:List Sp,r = .pv (.sl (fz QnA l))/\l.length<=most + 2):=by
 refine dd Tryz.func45 ?_
 (unfold Tryz.f45; refine rn trivial ?_)
 refine QJ (k:=0) (c:=c) (QtV c ((most:Int) + 1) (by omega) (by omega)) rfl rfl ?_
 rintro _ c1 ⟨k,rfl,hk⟩
 refine rn trivial ?_
 refine Qg (fun s:Sd1 most=>⟨30,1,[(10,.int .i64 s.k),(9,.own 1 9 0 s.l.length),(3,.bool true),(1,.int .i64 m),(0,.ptr 0 0)],[cb s.c,⟨135,true,cells QnA s.l⟩]⟩) (fun s=>s.k) ⟨k,c1,[spB,spB],by simp; omega⟩ (gc [0,1]) ?_
 rintro ⟨k,c2,l,hk⟩
 dsimp only
 have hb:(l.length + 1) * 80<=140737488355328:=by omega
 by_cases hc:0 < k
 ·obtain ⟨k,rfl⟩:∃ k':Nat,k = k' + 1:=⟨k - 1,by omega⟩
  have hkk:((k + 1:Nat):Int) - 1 = k:=by omega
  have F:=(Ja @hb @hkk)
  refine rn F ?_
  refine QJ (k:=0) (c:=c2) (QAB c2 m 5 h1 h2 (by omega) (by omega)) rfl rfl ?_
  rintro _ c3 ⟨t,rfl⟩
  have F:=(Ja @hb (Ja @QGo @hkk))
  refine rn F ?_
  have hl2:(l ++ [t]).length = l.length + 1:=by simp
  refine ⟨⟨k,c3,l ++ [t],by rw [hl2]; omega⟩,by dsimp only; omega,?_⟩
  dsimp only
  rw [hl2]
  exact (gc [0,3])
 ·skip
  have F:=@hb
  refine rn F ?_
  exact ⟨_,rfl,rfl,Qal _,rfl,⟨l,rfl,by omega⟩,_,rfl⟩
def QpA (c:C) (most:Nat) (hm:most<=1000):VCalls prog 24 [.ptr 0 0,.int .i64 most,.bool true] [cb c] (CX fun r=>∃ s:Sv,r = .agg s.d/\s.sm/\LgI s.k.lg):=by
 refine dd Tryz.func24 ?_
 (unfold Tryz.f24; refine rn trivial ?_)
 refine QJ (k:=0) (c:=c) (QY c 4 (by omega) (by omega)) rfl rfl ?_
 rintro _ c1 ⟨x,rfl,hx⟩
 obtain ⟨m,hm1,hm2⟩:∃ m:Nat,1 + (x:Int) = m/\m<=4:=⟨1 + x,by omega,by omega⟩
 refine rn @hm1 ?_
 refine QJ (k:=0) (c:=c1) (QY c1 3 (by omega) (by omega)) rfl rfl ?_
 rintro _ c2 ⟨y,rfl,hy⟩
 refine rn trivial ?_
 refine Ql (QDV m (1 + y) (by omega) (by omega)) rfl ?_
 rintro ⟨s,e⟩ ⟨hs,he,hg⟩
 dsimp only at hs he hg
 subst he
 refine rn F ?_
 repeat' (first
  | with_reducible exact ⟨⟩
  | (refine Qd (id:=3) [0,1,2,3,4] [⟨[],[],5,[0],[]⟩,⟨[],[],6,[1,2,3,4],[7,8,9,10]⟩,⟨[],[],11,[9,10],[]⟩] (by kernel_rfl) (by kernel_rfl) ?_; refine rn F ?_))
 refine QJ (k:=0) (c:=c2) (Qwy c2 m most (by omega) (by omega) hm) rfl rfl ?_
 rintro _ c3 ⟨l,rfl,hl⟩
 have c9:=QDX LgI (fun x y h hx=>⟨h.ok hx.1,h.f.trans hx.2⟩) s hs l (fun i _ hk c n hn hc=>QwG c n hn hc _ hk)
 refine rn trivial ?_
 refine Ql c9 rfl ?_
 rintro ⟨s1,out,rd⟩ ⟨q1,q2⟩
 refine rn trivial ?_
 exact ⟨_,rfl,rfl,Qal _,rfl,⟨s1,rfl,q1,q2 (by rw [hg]; exact ⟨QFi,rfl⟩)⟩,_,rfl⟩
def QlI (c:C) (most:Nat) (hm:most<=1000):VCalls prog 6 [.ptr 0 0,.int .i64 most,.bool true] [cb c] (CX fun r=>∃ k:Kn,r = .agg k.d/\k.sm/\LgI k.lg):=by
 refine dd Tryz.func6 ?_
 (unfold Tryz.f6; refine rn trivial ?_)
 refine QJ (k:=0) (c:=c) (QpA c most hm) rfl rfl ?_
 rintro _ c1 ⟨s,rfl,hs,hi⟩
 refine rn trivial ?_
 exact ⟨_,rfl,rfl,Qal _,rfl,⟨s.k,rfl,hs.1,hi⟩,_,rfl⟩
end
section
attribute [local go_sem] cb cc
def Qsp (h:Qq7 l es) (n:Nat):Qq7 (l + n) (es.drop n):=fun i hi=>by
 rw [Jp] at hi
 have:=h (n + i) (by omega)
 rw [show (es.drop n).getD i E0 = es.getD (n + i) E0 by simp [Jf]]
 exact ⟨by rw [this.1]; omega,this.2⟩
structure DLg (x:Lg):Prop where
 ok:lgB x = true
 len:x.es.length<=4096
 end_:x.f + x.es.length<=4097
def DLg.lsn (h:DLg x) (i:Nat) (hi:i < x.es.length):1<=(x.es.getD i E0).lsn/\(x.es.getD i E0).lsn<=1000000000:=by
 have h1:=QjO h.ok i hi
 have h2:=QT h.ok
 simp only [Lg.hd] at h2
 have h3:=h.end_
 rw [h1.1]
 omega
def QCw (hz:lgB z = true) (hf:z.f = 1) (h0:0<=u) (hu:z.f + u<=z.d + 1):DLg (QDi z (z.f + u)).1:=by
 have hd:=QT hz
 simp only [Lg.hd] at hd
 unfold QDi
 rw [if_neg (by rw [hz]; decide),if_neg (by unfold Lg.end_; omega),if_neg (by omega)]
 have e1:z.f + u - z.f = u:=by omega
 dsimp only
 rw [e1]
 have hs:=Qsp (QjO hz) u.toNat
 rw [show ((u.toNat:Nat):Int) = u by omega] at hs
 have hl:(z.es.drop u.toNat).length = z.es.length - u.toNat:=Jp
 exact ⟨Qzj (x:=⟨z.f + u,z.es.drop u.toNat,z.d⟩) ⟨by dsimp only; omega,by dsimp only; omega,by dsimp only; omega,by dsimp only; omega,by dsimp only; omega⟩ hs,by dsimp only; omega,by dsimp only; omega⟩
def QEX (c:C) (most:Nat) (hm:most<=1000):VCalls prog 8 [.ptr 0 0,.int .i64 most] [cb c] (CX fun r=>∃ x:Lg,r = .agg x.c/\DLg x):=by
 refine dd Tryz.func8 ?_
 (unfold Tryz.f8; refine rn trivial ?_)
 refine QJ (k:=0) (c:=c) (QlI c most hm) rfl rfl ?_
 rintro _ c1 ⟨k,rfl,hk,hv,hf⟩
 obtain ⟨pg,nx,x,pl,lk,tx,ix,la⟩:=k
 dsimp only at hv hf
 have hl:x.es.length<=4096:=hk.1
 refine rn trivial ?_
 refine QJ (k:=0) (c:=c1) (QY c1 2 (by omega) (by omega)) rfl rfl ?_
 rintro _ c2 ⟨y,rfl,hy⟩
 have q1:=QeE x (by omega)
 have q2:=Qgj x (by omega) (Qdi x)
 have hF:lgB (Qao x (Qdi x)).1 = true/\(Qao x (Qdi x)).1.f = 1:=by
  have hd:=QT hv
  simp only [Lg.hd] at hd
  have e1:Qdi x = x.end_:=if_pos hv
  have h0:(Qao x (Qdi x)).2 = 0:=by
   unfold Qao
   rw [if_neg (by rw [hv]; decide),if_neg (by rw [e1]; omega)]
  exact ⟨(QeW h0).ok hv,(QeW h0).f.trans hf⟩
 generalize Qao x (Qdi x) = F0 at *
 obtain ⟨z0,e0⟩:=F0
 dsimp only at hF
 refine rn F ?_
 repeat' (first
  | with_reducible exact ⟨⟩
  | (refine sB F ?_ ?_<;>intro hZ)
  | refine vp F (q1) ?_
  | refine vp F (q2) ?_
  | (refine Qd (id:=3) [0,1] [⟨[],[],2,[0],[]⟩,⟨[],[],3,[1],[4,5,6]⟩,⟨[],[],7,[6],[]⟩] (by kernel_rfl) (by kernel_rfl) ?_; refine rn F ?_))
 case' refine_1=>obtain ⟨z,rfl,hz,hzf⟩:∃ z,z = z0/\lgB z = true/\z.f = 1:=⟨z0,rfl,hF⟩
 case' refine_2=>obtain ⟨z,rfl,hz,hzf⟩:∃ z,z = x/\lgB z = true/\z.f = 1:=⟨x,rfl,hv,hf⟩
 all_goals
  have hd:=QT hz
  simp only [Lg.hd] at hd
  have hl2:z.es.length<=4096:=hd.2.2.1
  refine QJ (k:=0) (c:=c2) (QY c2 5 (by omega) (by omega)) rfl rfl ?_
  rintro _ c3 ⟨w,rfl,hw⟩
  by_cases hq:(w:Int) = 0/\z.d >= z.f
  ·obtain ⟨hq1,hq2⟩:=hq
   have F:=(Ja @hq1 @hq2)
   refine rn F ?_
   repeat' (first
    | with_reducible exact ⟨⟩
    | (refine Qd (id:=5) [0,1,2,3,4,5,6,7,8,9] [⟨[],[],10,[0,1,2,4,5,6,7,8],[11]⟩,⟨[],[],12,[1,2,3,4,5,6,7,8,9],[13,14,15]⟩,⟨[],[],16,[15],[]⟩] (by kernel_rfl) (by kernel_rfl) ?_; refine rn F ?_))
   refine QJ (k:=0) (c:=c3) (QtV c3 (z.d - z.f + 2) (by omega) (by omega)) rfl rfl ?_
   rintro _ c4 ⟨u,rfl,hu⟩
   have q3:=QEc z (by omega) (z.f + u)
   have F:=trivial
   refine rn F ?_
   repeat' (first
    | with_reducible exact ⟨⟩
    | refine vp F (q3) ?_)
   exact ⟨_,rfl,rfl,Qal _,rfl,⟨(QDi z (z.f + u)).1,rfl,QCw hz hzf (by omega) (by omega)⟩,_,rfl⟩
  ·skip
   have F:=trivial
   refine rn F ?_
   repeat' (first
    | with_reducible exact ⟨⟩
    | (refine sG F ?_ ?_<;>intro hZ))
   all_goals first
    | exact ⟨_,rfl,rfl,Qal _,rfl,⟨z,rfl,hz,hl2,by omega⟩,_,rfl⟩
    | (exfalso; omega)
    | skip
end
section
attribute [local go_sem] cb cc Lg.c
def QtU (c:C) (n:Int):VCalls prog 9 [.ptr 0 0,.int .i64 n] [cb c] (CX fun r=>∃ z:Int,r = .int .i64 z):=by
 by_cases h0:n < 1
 ·refine dd Tryz.func9 ?_
  have ha:=c.ha
  have hl:=c.hl
  simp (config:={ maxSteps:=2000000 }) (implicitDefEqProofs:=false) (disch:=first | omega | assumption | (simp only []; done) | fail) only [go_sem,Jm,Jn,Tryz.f9,cb,cc]
  refine QdX (by kernel_rfl) (by kernel_rfl) ?_
  by_cases a:c.at_ < c.l.length
  ·simp (config:={ maxSteps:=2000000 }) (implicitDefEqProofs:=false) (disch:=first | omega | assumption | (simp only []; done) | fail) only [go_sem,↓reduceIte,reduceCtorEq,Jm,Jr,Jn,Js,h0]
   exact ⟨_,rfl,rfl,rfl,rfl,⟨_,rfl⟩,c,rfl⟩
  ·simp (config:={ maxSteps:=2000000 }) (implicitDefEqProofs:=false) (disch:=first | omega | assumption | (simp only []; done) | fail) only [go_sem,↓reduceIte,reduceCtorEq,Jm,Jr,Jn,Js]
   exact ⟨_,rfl,rfl,rfl,rfl,⟨_,rfl⟩,c,rfl⟩
 obtain ⟨m,rfl,h1⟩:∃ m:Nat,n = m/\1<=m:=⟨n.toNat,by omega,by omega⟩
 by_cases hs:m<=256
 ·exact (QjL c m h1 hs).mono fun r h' ⟨B,e1,e2,e3,e4,⟨x,e5,_⟩,e6⟩=>⟨B,e1,e2,e3,e4,⟨x,e5⟩,e6⟩
 refine dd Tryz.func9 ?_
 have ha:=c.ha
 have hl:=c.hl
 simp (config:={ maxSteps:=2000000 }) (implicitDefEqProofs:=false) (disch:=first | omega | assumption | (simp only []; done) | fail) only [go_sem,Jm,Jn,Tryz.f9,cb,cc]
 refine QdX (by kernel_rfl) (by kernel_rfl) ?_
 by_cases a:c.at_ < c.l.length
 ·simp (config:={ maxSteps:=2000000 }) (implicitDefEqProofs:=false) (disch:=first | omega | assumption | (simp only []; done) | fail) only [go_sem,↓reduceIte,reduceCtorEq,Jm,Jr,Jn,Js]
  refine QdX (by kernel_rfl) (by kernel_rfl) ?_
  have hg:=Qnt c.l c.at_ a
  have hh:(c.l.getD c.at_ 0).toNat < 256:=UInt8.toNat_lt _
  generalize hx:(c.l.getD c.at_ 0).toNat = x at hg hh
  simp (config:={ maxSteps:=2000000 }) (implicitDefEqProofs:=false) (disch:=first | omega | assumption | (simp only [Jg,List.length_nil,Nat.zero_add]; done) | fail) only [go_sem,↓reduceIte,reduceCtorEq,Jm,Nat.reduceLT,Jr,Int.reduceLT,Jn,Js,hg]
  refine QJ (k:=0) (c:=⟨c.l,c.at_ + 1,a,hl⟩) (QjL _ 256 (by omega) (by omega)) rfl rfl ?_
  rintro r c' ⟨z,rfl,hz⟩
  simp (config:={ maxSteps:=2000000 }) (implicitDefEqProofs:=false) (disch:=first | omega | assumption | (simp only []; done) | fail) only [go_sem,Jr,Js,cb,cc]
  obtain ⟨y,hy,hlt⟩:=Qjn (256 * x + z) m h1
  have e:(256 * (x:Int) + (z:Int)) = ((256 * x + z:Nat):Int):=by omega
  refine ⟨_,rfl,rfl,rfl,rfl,⟨y,by rw [e,hy]⟩,c',rfl⟩
 ·simp (config:={ maxSteps:=2000000 }) (implicitDefEqProofs:=false) (disch:=first | omega | assumption | (simp only []; done) | fail) only [go_sem,↓reduceIte,reduceCtorEq,Jm,Jr,Jn,Js]
  exact ⟨_,rfl,rfl,rfl,rfl,⟨0,rfl⟩,c,rfl⟩
end
section
attribute [local go_sem] cb cc Lg.c Qfq Qim Qil Qh2 Qh1 Qie
def QxJ (c:C) (x:Lg) (hl:x.es.length<=4096):VCalls prog 7 [.ptr 0 0,.agg x.c] [cb c] (CX fun r=>∃ y:Lg,r = .agg y.c/\y.es.length<=4096):=by
 refine dk Tryz.func7 ?_
 obtain ⟨f,es,d⟩:=x
 dsimp only at hl
 (unfold Tryz.f7; refine rn trivial ?_)
 refine rn F ?_
 repeat' (first
  | with_reducible exact ⟨⟩
  | (refine sG F ?_ ?_<;>intro hZ)
  | (refine sB F ?_ ?_<;>intro hZ)
  | (refine QJ (k:=0) (QY _ 8 (by omega) (by omega)) rfl rfl ?_; rintro _ _ ⟨_,rfl,_⟩; refine rn F ?_)
  | (refine QJ (k:=0) (Quf _) rfl rfl ?_; rintro _ _ ⟨_,rfl,_⟩; refine rn F ?_))
 all_goals first
  | exact ⟨_,rfl,rfl,Qal _,rfl,⟨⟨_,_,_⟩,rfl,hl⟩,_,rfl⟩
  | skip
 refine QJ (k:=0) (QY _ es.length (by omega) (by omega)) rfl rfl ?_
 rintro _ c2 ⟨k,rfl,hk⟩
 have h0:=gE0 es k hk
 have h1:k * 13 < es.length * 13:=by omega
 have h2:k * 13 + 3 < es.length * 13:=by omega
 have h3:k * 13 + 4 < es.length * 13:=by omega
 have h4:k * 13 + 13<=es.length * 13:=by omega
 have he:=elE es k hk
 have h5:=sE3 es k hk
 have h6:=sE4 es k hk
 have h7:=QAI es k hk
 have h8:=fun e=>@List.length_set _ es k e
 generalize (es.getD k E0).lsn = n at *
 have F:=(Ja @h0 (Ja @h1 (Ja @h2 (Ja @h3 (Ja @h4 (Ja @he (Ja @h5 (Ja @h6 (Ja @h7 @h8)))))))))
 refine rn F ?_
 repeat' (first
  | with_reducible exact ⟨⟩
  | (refine sB F ?_ ?_<;>intro hZ)
  | (refine QJ (k:=0) (QY _ 4 (by omega) (by omega)) rfl rfl ?_; rintro _ _ ⟨_,rfl,_⟩; refine rn F ?_)
  | (refine QJ (k:=0) (Quf _) rfl rfl ?_; rintro _ _ ⟨_,rfl,_⟩; refine rn F ?_)
  | (refine QJ (k:=0) (QpW _ _) rfl rfl ?_; rintro _ _ ⟨_,rfl,_⟩; refine rn F ?_)
  | (refine QJ (k:=0) (QtU _ _) rfl rfl ?_; rintro _ _ ⟨_,rfl,_⟩; refine rn F ?_)
  | (refine Qd (id:=10) [0,1,2,3,4,5,6,7,8,9] [⟨[],[],10,[0,1,2,4,5,6,7,8],[11,12]⟩,⟨[],[],13,[11],[]⟩] (by kernel_rfl) (by kernel_rfl) ?_; refine rn F ?_)
  | (refine Qd (id:=12) [0,1,2,3,4,5,6,7,8,9] [⟨[],[],10,[0,1,2,4,5,6,7,8],[11,12]⟩,⟨[],[],13,[11],[]⟩] (by kernel_rfl) (by kernel_rfl) ?_; refine rn F ?_)
  | (refine Qd (id:=14) [0,1,2,3,4,5,6,7,8] [⟨[],[],9,[0,1,2,4,5,6,7],[10]⟩,⟨[],[],11,[],[]⟩] (by kernel_rfl) (by kernel_rfl) ?_; refine rn F ?_))
 all_goals first
  | exact ⟨_,rfl,rfl,Qal _,rfl,⟨⟨_,_,_⟩,rfl,hl⟩,_,rfl⟩
  | exact ⟨_,rfl,rfl,Qal _,rfl,⟨⟨_,_,_⟩,rfl,by rw [Jz]; exact hl⟩,_,rfl⟩
  | skip
end
section
attribute [local go_sem] cb cc Lg.c Ce.d Rg.d QM Q9
def QnB:Enc Lg:=⟨3,fun x=>[.lit (.int .i64 x.f),.sl (fz encE x.es),.lit (.int .i64 x.d)],by decide,fun _=>rfl⟩
def QHn (l:List Lg) (i:Nat) (h:i < l.length):((cells QnB l).drop (i * 3)).take 3 = (l.getD i Lg0).c:=by rw [Qm l i h]; exact QdT QnB l i h
def QEV:Enc (Int × Int):=⟨2,fun x=>[.lit (.int .i64 x.1),.lit (.int .i64 x.2)],by decide,fun _=>rfl⟩
def elZ (l:List (Int × Int)) (i:Nat) (h:i < l.length):((cells QEV l).drop (i * 2)).take 2 = [.int .i64 (l.getD i (0,0)).1,.int .i64 (l.getD i (0,0)).2]:=by rw [Qm l i h]; exact QdT QEV l i h
def Rg0:Rg:=⟨0,0,0,0,Ce0⟩
def QuV:Enc Rg:=⟨6,fun x=>[.lit (.int .i64 x.tx),.lit (.int .i64 x.pg),.lit (.int .i64 x.sl),.lit (.int .i64 x.at_),.lit (.bool x.c.set),.str x.c.data],by decide,fun _=>rfl⟩
def QHm (l:List Rg) (i:Nat) (h:i < l.length):((cells QuV l).drop (i * 6)).take 6 = (l.getD i Rg0).d:=by rw [Qm l i h]; exact QdT QuV l i h
structure JSL (n:Nat) where
 i:Nat
 hi:i<=n
 c:C
def Qt7 (l:List UInt8) (hl:l.length<=9223372036854775807) (pg at_:Int) (rd:Rg):VCalls prog 3 [.pv (.sl (fz Qfy l)),.int .i64 pg,.int .i64 at_,.agg rd.d] [] (Ret (.bool true)):=by
 refine dd Tryz.func3 ?_
 have c0:=Qvy
 (unfold Tryz.f3; refine rn trivial ?_)
 refine rn F ?_
 repeat' (first
  | with_reducible exact ⟨⟩
  | refine vp F (c0) ?_)
 refine QAh (most:=600) (by omega) (by omega) hl fun c=>?_
 refine rn trivial ?_
 refine QJ (k:=1) (c:=c) (QlI c 40 (by omega)) rfl rfl ?_
 rintro _ c1 ⟨k,rfl,hk,-,-⟩
 have hxl:k.lg.es.length<=4096:=hk.1
 generalize hkx:k.lg = x at *
 have F:=@hkx
 refine rn F ?_
 repeat' (first
  | with_reducible exact ⟨⟩
  | (refine QbH (id:=6) [[],[],[],[1,2],[],[1,2,3,4],[0,1,2,3,4,5],[0,1,2,3,4,5,6],[]] [0,1,2,4,8] [⟨[],[],3,[0,4,8],[]⟩,⟨[],[],5,[0,8],[]⟩,⟨[],[],6,[8],[7]⟩] (by kernel_rfl) (by kernel_rfl) (by kernel_rfl) ?_; refine rn F ?_))
 refine QJ (k:=1) (QxJ c1 x hxl) rfl rfl ?_
 rintro _ c2 ⟨y,rfl,hyl⟩
 have F:=trivial
 refine rn F ?_
 refine QJ (k:=1) (QEX c2 20 (by omega)) rfl rfl ?_
 rintro _ c3 ⟨z,rfl,hz⟩
 have hzl:=hz.len
 have F:=trivial
 refine rn F ?_
 obtain ⟨ls,hL,h2,hle⟩:∃ ls:List Lg,([.int .i64 x.f,.pv (.sl (fz encE x.es)),.int .i64 x.d,.int .i64 y.f,.pv (.sl (fz encE y.es)),.int .i64 y.d,.int .i64 z.f,.pv (.sl (fz encE z.es)),.int .i64 z.d]:List DV) = cells QnB ls/\ls.length = 3/\∀ t ∈ ls,t.es.length<=4096:=
  ⟨[x,y,z],rfl,rfl,by
   simp only [List.forall_mem_cons]
   exact ⟨hxl,hyl,hzl,fun _ h=>by cases h⟩⟩
 rw [hL]
 have hcl:(cells QnB ls).length = 9:=by rw [Qy,h2]; rfl
 refine Qg (fun s:JSL 3=>⟨225,0,[(54,.int .i64 s.i),(53,.int .i64 3),(52,.own 3 3 0 3),(11,.int .i64 x.es.length),(10,.ptr 2 0),(9,.ptr 1 0),(7,.ptr 0 0),(2,.int .i64 at_),(1,.int .i64 pg)],[⟨26,true,rd.d⟩,cb s.c,⟨32,true,x.c⟩,⟨32,true,cells QnB ls⟩]⟩) (fun s=>3 - s.i) ⟨0,Jb _,c3⟩ (gc [0,1,2,3]) ?_
 rintro ⟨i,hi,c4⟩
 dsimp only
 by_cases hin:i < 3
 rotate_left
 ·have hin':¬ (i:Int) < 3:=by omega
  have F:=@hin'
  (refine rn F ?_; try with_reducible exact ⟨⟩)
 have hin':(i:Int) < 3:=by omega
 have hb:i * 3 + 3<=9:=by omega
 have hg:=QHn ls i (by omega)
 have hwl:(ls.getD i Lg0).es.length<=4096:=by rw [Qm ls i (by omega)]; exact hle _ (JE _)
 generalize ls.getD i Lg0 = w at *
 have F:=(Ja @hin' (Ja @hcl (Ja @hb @hg)))
 refine rn F ?_
 repeat' (first
  | with_reducible exact ⟨⟩
  | (refine QJ (k:=1) (QtU _ _) rfl rfl ?_; rintro _ _ ⟨_,rfl,_⟩; refine rn F ?_))
 rename_i c5 z1 c6 z2
 obtain ⟨zs,hZ,h4⟩:∃ zs:List (Int × Int),([.int .i64 pg,.int .i64 at_,.int .i64 (IntKind.i64.wrap (1 + z1)),.int .i64 z2]:List DV) = cells QEV zs/\zs.length = 2:=⟨[(pg,at_),(IntKind.i64.wrap (1 + z1),z2)],rfl,rfl⟩
 rw [hZ]
 have hcz:(cells QEV zs).length = 4:=by rw [Qy,h4]; rfl
 refine Qg (fun s:To 2=>⟨225,0,[(71,.int .i64 s.i),(70,.int .i64 2),(69,.own 5 2 0 2),(13,.ptr 4 0),(54,.int .i64 i),(53,.int .i64 3),(52,.own 3 3 0 3),(11,.int .i64 x.es.length),(10,.ptr 2 0),(9,.ptr 1 0),(7,.ptr 0 0),(2,.int .i64 at_),(1,.int .i64 pg)],[⟨26,true,rd.d⟩,cb c6,⟨32,true,x.c⟩,⟨32,true,cells QnB ls⟩,⟨32,true,w.c⟩,⟨50,true,cells QEV zs⟩]⟩) (fun s=>2 - s.i) ⟨0,Jb _⟩ (gc [0,1,2,3,4,5]) ?_
 rintro ⟨j,hj⟩
 dsimp only
 by_cases hjn:j < 2
 ·have hjn':(j:Int) < 2:=by omega
  have hb2:j * 2 + 2<=4:=by omega
  have hg2:=elZ zs j (by omega)
  generalize zs.getD j (0,0) = q at *
  have q1:=QCG w (by omega) q.1 q.2
  have q2:=QEh w (by omega) q.1 q.2
  have hcs:(QnE w q.1 q.2).1.length<=64:=by
   unfold QnE
   split
   ·exact Jb _
   ·split
    ·exact Jb _
    ·rw [QdJ]; omega
  have q3:=QBp (QnE w q.1 q.2).1 (by omega)
  generalize QnE w q.1 q.2 = o at *
  have F:=(Ja @hjn' (Ja @hcz (Ja @hb2 @hg2)))
  refine rn F ?_
  repeat' (first
   | with_reducible exact ⟨⟩
   | refine vp F (q1) ?_
   | refine vp F (q2) ?_
   | refine vp F (q3) ?_)
  exact ⟨⟨j + 1,by omega⟩,by dsimp only; omega,(gc [0,1,2,3,4,5])⟩
 have hjn':¬ (j:Int) < 2:=by omega
 have F:=@hjn'
 refine rn F ?_
 repeat' (first
  | with_reducible exact ⟨⟩
  | (refine QJ (k:=1) (QtU _ _) rfl rfl ?_; rintro _ _ ⟨_,rfl,_⟩; refine rn F ?_))
 rename_i d1 u1 d2 u2 d3 u3 d4 u4
 have v1:=Qtr x (by omega) u2 u3 u1 u4
 generalize QcW x u2 u3 u1 u4 = se at *
 have F:=trivial
 refine rn F ?_
 repeat' (first
  | with_reducible exact ⟨⟩
  | refine vp F (v1) ?_
  | (refine QJ (k:=1) (QE4 _) rfl rfl ?_; rintro _ _ ⟨_,rfl,_⟩; refine rn F ?_))
 rename_i c7 ce
 obtain ⟨rs,hR,h6⟩:∃ rs:List Rg,([.int .i64 rd.tx,.int .i64 rd.pg,.int .i64 rd.sl,.int .i64 rd.at_,.bool rd.c.set,.pv (.str rd.c.data),.int .i64 u1,.int .i64 u2,.int .i64 u3,.int .i64 u4,.bool se.1.1.set,.pv (.str se.1.1.data),.int .i64 u1,.int .i64 u2,.int .i64 u3,.int .i64 u4,.bool ce.set,.pv (.str ce.data)]:List DV) = cells QuV rs/\rs.length = 3:=⟨[rd,⟨u1,u2,u3,u4,se.1.1⟩,⟨u1,u2,u3,u4,ce⟩],rfl,rfl⟩
 rw [hR]
 have hcr:(cells QuV rs).length = 18:=by rw [Qy,h6]; rfl
 refine Qg (fun s:To 3=>⟨225,0,[(137,.int .i64 s.i),(136,.int .i64 3),(135,.own 5 6 0 3),(13,.ptr 4 0),(54,.int .i64 i),(53,.int .i64 3),(52,.own 3 3 0 3),(11,.int .i64 x.es.length),(10,.ptr 2 0),(9,.ptr 1 0),(7,.ptr 0 0),(2,.int .i64 at_),(1,.int .i64 pg)],[⟨26,true,rd.d⟩,cb c7,⟨32,true,x.c⟩,⟨32,true,cells QnB ls⟩,⟨32,true,w.c⟩,⟨26,true,cells QuV rs⟩]⟩) (fun s=>3 - s.i) ⟨0,Jb _⟩ (gc [0,1,2,3,4,8]) ?_
 clear hR hZ hL
 rintro ⟨m,hm⟩
 dsimp only
 by_cases hmn:m < 3
 ·have hmn':(m:Int) < 3:=by omega
  have hb3:m * 6 + 6<=18:=by omega
  have hg3:=QHm rs m (by omega)
  generalize rs.getD m Rg0 = q at *
  have q1:=QnH w (by omega) q.pg q.sl q.tx q.at_
  have q2:=Qtr w (by omega) q.pg q.sl q.tx q.at_
  have q3:=QCB w (by omega) q
  have q4:=QBq w (by omega) q
  generalize QcW w q.pg q.sl q.tx q.at_ = o at *
  generalize QvO w q = o2 at *
  have F:=(Ja @hmn' (Ja @hcr (Ja @hb3 @hg3)))
  refine rn F ?_
  repeat' (first
   | with_reducible exact ⟨⟩
   | refine vp F (q1) ?_
   | refine vp F (q2) ?_
   | refine vp F (q3) ?_
   | refine vp F (q4) ?_)
  exact ⟨⟨m + 1,by omega⟩,by dsimp only; omega,(gc [0,1,2,3,4,5])⟩
 have hmn':¬ (m:Int) < 3:=by omega
 have q1:=Qu5 w (by omega)
 have q2:=QEg w (by omega)
 have q3:=QBa (Qq6 w).1 (by
  unfold Qq6
  split
  ·exact Jb _
  ·have:=Qgg w.es w.es.length
   dsimp only
   omega)
 have q4:=Ql2 w (by omega)
 have q5:=Qtq w (by omega)
 generalize Qq6 w = o at *
 generalize Qq5 w = o2 at *
 have F:=@hmn'
 refine rn F ?_
 repeat' (first
  | with_reducible exact ⟨⟩
  | refine vp F (q1) ?_
  | refine vp F (q2) ?_
  | refine vp F (q3) ?_
  | refine vp F (q4) ?_
  | refine vp F (q5) ?_
  | (refine QbH (id:=33) [[],[],[0,1],[0,1,2],[0,1,2,3],[0,1,2,3],[0,1,2,3,4,5],[0,1,2,3,4,5,6],[0,1,2,3,4,5,6,7],[0,1,2,3,4,5,6,7,8],[0,1,2,3,4,5,6,7,8,9],[0,1,2,3,4,5,6,7,8,9,10],[0,1,2,3,4,5,6,7,8,9],[0,1,2,3,4,5,6,7,8,9,10,11,12],[0,1,2,3,4,5,6,7,8,9,10,11,12,13],[0,1,2,3,4,5,6,7,8,9,10,11,12,13,14]] [0,1,2,3,4,5] [⟨[],[],6,[],[7,8,9,10,12]⟩,⟨[],[],11,[12],[]⟩,⟨[],[],13,[],[14,15]⟩] (by kernel_rfl) (by kernel_rfl) (by kernel_rfl) ?_; refine rn F ?_))
 exact ⟨⟨i + 1,by omega,c7⟩,by dsimp only; omega,(gc [0,1,2,3])⟩
end
section
open Go.ChangeShapes Go.WideShapes
def QyQ (hval:Value.okWide prog W r0 b0 26 v) (h:DataW.Trod enc prog W 0 (fun _=>true) true 26 v d ps):
 ∃ t:Rg,RelD W β0 [] (.agg t.d) v/\True:=by
 obtain ⟨l,h1,h2,h3⟩:=QqP (n:=8) (r:=[.pl (.int .i64),.pl (.int .i64),.pl (.int .i64),.pl (.int .i64),.pl .bool,.pl .str]) Tryz.underlying26 (by kernel_rfl) hval h
 obtain ⟨d0,e0,n0,rfl,_⟩:=h3 0 _ rfl
 obtain ⟨d1,e1,n1,rfl,_⟩:=h3 1 _ rfl
 obtain ⟨d2,e2,n2,rfl,_⟩:=h3 2 _ rfl
 obtain ⟨d3,e3,n3,rfl,_⟩:=h3 3 _ rfl
 obtain ⟨d4,e4,n4,rfl⟩:=h3 4 _ rfl
 obtain ⟨d5,e5,n5,rfl,_⟩:=h3 5 _ rfl
 match l,h2 with
 | [a0,a1,a2,a3,a4,a5],_ =>
   simp at e0 e1 e2 e3 e4 e5
   subst e0 e1 e2 e3 e4 e5
   exact ⟨⟨n0,n1,n2,n3,⟨n4,n5⟩⟩,h1,trivial⟩
end
end Go.Proofs.YtdkdbodcffiiaaaGreat
