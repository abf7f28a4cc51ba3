/-
  Contracts of functions and plain laws. No condition.
-/
import Derived.Test.YtdnbdbgdfocpgaaGreatP2
import Derived.Test.YtdnbdbgdfocpgaaGreatP1
import Derived.Test.YtdnbdbgdfocpgaaGreatV3
set_option linter.unusedSimpArgs false
set_option linter.unusedVariables false
set_option linter.defProp false
set_option maxRecDepth 100000
set_option maxHeartbeats 8000000
set_option autoImplicit true
set_option relaxedAutoImplicit true
open And renaming intro->Ja
open Bool renaming and_eq_true->Jd,or_false->JN,and_false->JW,false_and->JX,true_and->JY,or_eq_true->J2,toNat_le->Kb,toNat_false->Kk
open Int renaming toNat_natCast->Jo,le_refl->JR,natCast_pow->J1
open List renaming length_append->Jb,take_succ_eq_append_getElem->Je,append_assoc->Jf,take_of_length_le->Ji,getD_eq_getElem?_getD->Jj,length_take->Jk,mem_singleton->Jl,length_cons->Jm,append_nil->Jn,mem_append->Jp,length_singleton->Jr,flatMap_cons->Js,filter_eq_self->Jt,all_eq_true->Ju,getElem_mem->Jv,mem_range->Jw,filter_append->JB,length_nil->JC,take_zero->JD,getElem?_eq_some_iff->JE,length_drop->JF,filter_cons->JG,prefix_append->JH,mem_filter->JI,replicate->JJ,getElem_map->JK,mem_append_left->JL,map_cons->JM,nil_append->JO,getElem_of_mem->JP,flatMap_append->JQ,getD_cons_succ->JS,getElem?_append_right->JT,pairwise_cons->JU,drop_left->JV,prefix_refl->J0,length_filter_le->J3,mem_append_right->J4,filter_nil->J5,find?_cons->J6,mem_cons_of_mem->J7,mem_iff_getElem->J8,take_succ_cons->Ka,getElem?_take->Kc,range->Ke,getElem_take->Kf,findIdx_cons->Kg,filter_congr->Kh,take_length->Kj,idxOf_cons->Kl,length_set->Km,range_succ->Ko,take_nil->Kp,mem_map->Kq
open Nat renaming zero_le->Jc,le_succ_of_le->Jg,le_trans->Jh,le_refl->Jq,pow_le_pow_right->Jy,mul_le_mul_right->Jz,not_lt_zero->JA,succ_le_succ->JZ,mul_le_mul_left->J9,lt_of_lt_of_le->Kd,mod_eq_of_lt->Ki,le_succ->Ks
open Option renaming some->Kt
namespace Go.Proofs.YtdnbdbgdfocpgaaGreat
open Go.V Go
open Tryz (prog)
section
structure RQ(s:List UInt8) where
 at_:Nat
 sh:Bool
 ha:at_<=s.length
def rbQ(T:TypeId)(s:List UInt8)(r:RQ s):Blk:=⟨T,true,[.pv (.str s),.int .i64 r.at_,.bool r.sh]⟩
theorem QAG(T:TypeId)(s:List UInt8)(r:RQ s):DV.nums.go (fun _=>false) (rbQ T s r).cells=true:=rfl
def Qcb(s:List UInt8)(k:Nat)(r:RQ s):Int×RQ s:=
 if h:r.sh=true\/¬ r.at_+k<=s.length then (0,⟨r.at_,true,r.ha⟩) else (IntKind.i64.wrap (Qe3 s r.at_ k),⟨r.at_+k,false,by omega⟩)
def Qhd(h:r.sh=true\/¬ r.at_+k<=s.length):Qcb s k r=(0,⟨r.at_,true,r.ha⟩):=by unfold Qcb; rw[dif_pos h]
def QjT(h:r.sh=false)(h':r.at_+k<=s.length):Qcb s k r=(IntKind.i64.wrap (Qe3 s r.at_ k),⟨r.at_+k,false,h'⟩):=by
 unfold Qcb; rw[dif_neg (fun z=>z.elim (fun z=>by rw[h] at z; cases z) (fun z=>z h'))]
def RQ.lim{s:List UInt8}(r:RQ s):Nat:=r.at_+(if r.sh then 4 else 0)
def RQ.lim_le(r:RQ s):r.lim<=s.length+4:=by have:=r.ha; unfold RQ.lim; split<;>omega
def Qhe(hk:4<=k)(r:RQ s)(hr:r.sh=false):r.lim+4<=(Qcb s k r).2.lim:=by
 by_cases h:r.at_+k<=s.length
 ·rw[QjT hr h]; simp only[RQ.lim,hr]; simp; omega
 ·rw[Qhd (.inr h)]; simp only[RQ.lim,hr]; simp
def Qgm(r:RQ s):r.lim<=(Qcb s k r).2.lim:=by
 cases hr:r.sh
 ·by_cases h:r.at_ + k<=s.length
  ·rw[QjT hr h]; simp only[RQ.lim,hr]; simp
  ·rw[Qhd (.inr h)]; simp only[RQ.lim,hr]; simp
 ·rw[Qhd (.inl hr)]; simp only[RQ.lim,hr]; simp
def Qoq(r:RQ s): -9223372036854775808<=(Qcb s k r).1/\(Qcb s k r).1<=9223372036854775807:=by
 unfold Qcb
 split
 ·dsimp only; omega
 ·dsimp only; rw[IntKind.wrap_i64]; omega
def rdN(s:List UInt8):Nat->List Int->RQ s->List Int×RQ s
 | 0,out,r=>(out,r)
 | n+1,out,r=>if r.sh=true then (out,r) else rdN s n (out++[(Qcb s 8 r).1]) (Qcb s 8 r).2
def QDp(h:r.sh=true):rdN s n out r=(out,r):=by cases n; rfl; rw[rdN,if_pos h]
def Qm1:∀ (n:Nat) (out:List Int) (r:RQ s),4 * out.length<=r.lim->4 * (rdN s n out r).1.length<=(rdN s n out r).2.lim/\r.lim<=(rdN s n out r).2.lim
 | 0,_,_,h=>⟨h,Jq _⟩
 | n + 1,out,r,h=>by
   unfold rdN
   split
   ·exact⟨h,Jq _⟩
   ·rename_i hr
    have h1:=Qhe (k:=8) (by omega) r (by simpa using hr)
    have h2:=Qm1 n (out++[(Qcb s 8 r).1]) (Qcb s 8 r).2 (by simp; omega)
    exact⟨h2.1,by omega⟩
def QeL(s:List UInt8)(k:Nat)(r:RQ s):List Int×RQ s:=rdN s (Qcb s k r).1.toNat [] (Qcb s k r).2
def QlB(r:RQ s):4*(QeL s k r).1.length<=s.length+4:=Jh (Qm1 _ _ _ (Jc _)).1 (RQ.lim_le _)
def QlA(r:RQ s):r.lim<=(QeL s k r).2.lim:=Jh (Qgm r) (Qm1 _ _ _ (Jc _)).2
def txS(s:List UInt8)(r:RQ s):Tx×RQ s:=
 let a:=Qcb s 4 r
 let b:=Qcb s 1 a.2
 let c:=Qcb s 8 b.2
 let d:=Qcb s 8 c.2
 let q:=QeL s 2 d.2
 let v:=QeL s 1 q.2
 (⟨a.1,b.1,c.1,d.1,q.1,v.1⟩,v.2)
def QnQ(r:RQ s)(hr:r.sh=false):r.lim+4<=(txS s r).2.lim:=by
 have h1:=Qhe (k:=4) (by omega) r hr
 refine Jh h1 ?_
 unfold txS
 refine Jh (Qgm _) (Jh (Qgm _) (Jh (Qgm _) (Jh (QlA _) (QlA _))))
def QCV(hs:s.length<=3000000)(r:RQ s):(txS s r).1.sm:=⟨by have:=QlB (k:=2) (Qcb s 8 (Qcb s 8 (Qcb s 1 (Qcb s 4 r).2).2).2).2; show(QeL s 2 _).1.length<=_; omega,by have:=QlB (k:=1) (QeL s 2 (Qcb s 8 (Qcb s 8 (Qcb s 1 (Qcb s 4 r).2).2).2).2).2; show(QeL s 1 _).1.length<=_; omega⟩
def rdT(s:List UInt8):Nat->List Tx->RQ s->List Tx×RQ s
 | 0,out,r=>(out,r)
 | n+1,out,r=>if r.sh=true then (out,r) else rdT s n (out++[(txS s r).1]) (txS s r).2
def QDo(h:r.sh=true):rdT s n out r=(out,r):=by cases n; rfl; rw[rdT,if_pos h]
def QsK:∀ (n:Nat) (out:List Tx) (r:RQ s),4 * out.length<=r.lim->4 * (rdT s n out r).1.length<=(rdT s n out r).2.lim
 | 0,_,_,h=>h
 | n + 1,out,r,h=>by
   unfold rdT
   split
   ·exact h
   ·rename_i hr
    have h1:=QnQ r (by simpa using hr)
    exact QsK n (out++[(txS s r).1]) (txS s r).2 (by simp; omega)
def QyI (hs:s.length<=3000000):∀ (n:Nat) (out:List Tx) (r:RQ s),(∀ t ∈ out,t.sm)->∀ t ∈ (rdT s n out r).1,t.sm
 | 0,_,_,h=>h
 | n + 1,out,r,h=>by
   unfold rdT
   split
   ·exact h
   ·refine QyI hs n _ _ fun t ht=>?_
    rcases Jp.1 ht with h1 | h1
    ·exact h t h1
    ·rw[Jl.1 h1]; exact QCV hs r
def rq0(s:List UInt8):RQ s:=⟨0,false,Jc _⟩
def rdA(s:List UInt8):List Tx×RQ s:=rdT s (Qcb s 2 (rq0 s)).1.toNat [] (Qcb s 2 (rq0 s)).2
def QDq(hs:s.length<=3000000):smL (rdA s).1:=
 ⟨by have:=QsK (Qcb s 2 (rq0 s)).1.toNat [] (Qcb s 2 (rq0 s)).2 (Jc _); have h2:=(rdA s).2.lim_le; unfold rdA at h2 |-; omega,QyI hs _ _ _ (by simp)⟩
def Qy8(s:List UInt8):List Tx×Int:=
 if (rdA s).2.sh=true then ([],5) else if ((rdA s).2.at_:Int)≠s.length then ([],4) else if Qbw (rdA s).1=false then ([],15) else ((rdA s).1,0)
abbrev RY(T:TypeId)(s:List UInt8)(v:DV)(q:RQ s):DV->Qa->Prop:=fun r h'=>∃ B',h'=[B']/\B'.live=true/\DV.nums.go (fun _=>false) B'.cells=true/\r.nums (fun _=>false)=true/\(r=v/\B'=rbQ T s q)
def Qjr(h:VCalls prog g (args.map (DV.ren fun _=>0)) [rbQ T s r] (RY T s v q))(hk:hp[k]?=some (rbQ T s r))(ha:DV.nums.go (fun i=>i==k) args=true)(hK:K v (hp.set k (rbQ T s q))):VCalls prog g args hp K:=
 (VCalls.ptr1 (R:=fun x B'=>x=v/\B'=rbQ T s q) hk rfl (QAG T s r) h ha).mono fun x h' ⟨B',e1,_,_,e2,e3⟩=>by subst e1 e2 e3; exact hK
attribute [local go_sem] rbQ
attribute [local go_sem] QA9 QCC QC3 QC2 Qt3 Qf8
@[go_sem] def lb(l:List Int):DV:=.pv (.sl (fz QW l))
def Qd4(s:List UInt8)(hs:s.length<=3000000)(k:Nat)(h1:1<=k)(h8:k<=8)(r:RQ s):VCalls prog 240 [.ptr 0 0,.int .i64 k] [rbQ 336 s r] (RY 336 s (.int .i64 (Qcb s k r).1) (Qcb s k r).2):=by
 refine dd Tryz.func240 ?_
 have ha:=r.ha
 by_cases h:r.at_+k<=s.length
 ·have c1:=QiG s (by omega) r.at_ k ⟨h1,h8⟩ h
  cases hr:r.sh
  ·rw [QjT hr h]
   (unfold Tryz.f240; refine rn trivial ?_)
   have F:=@hr
   refine rn F ?_
   repeat' (first
    | with_reducible exact⟨⟩
    | refine vp F (c1) ?_
    | (refine Qc (id:=1) [0,1,2,3,4,5,6,7,8] [⟨[],[],9,[0,1,2,4,5,6],[10,11,12]⟩,⟨[],[],13,[12],[]⟩,⟨[],[],14,[],[]⟩] (by kernel_rfl) (by kernel_rfl) ?_; refine rn F ?_))
   all_goals exact⟨_,rfl,rfl,rfl,rfl,rfl,rfl⟩
  ·rw [Qhd (.inl hr)]
   (unfold Tryz.f240; refine rn trivial ?_)
   have F:=@hr
   refine rn F ?_
   repeat' (first
    | with_reducible exact⟨⟩
    | refine vp F (c1) ?_
    | (refine Qc (id:=1) [0,1,2,3,4,5,6,7,8] [⟨[],[],9,[0,1,2,4,5,6],[10,11,12]⟩,⟨[],[],13,[12],[]⟩,⟨[],[],14,[],[]⟩] (by kernel_rfl) (by kernel_rfl) ?_; refine rn F ?_))
   all_goals exact⟨_,rfl,rfl,rfl,rfl,rfl,(by first | rfl | simp only[rbQ,hr])⟩
 ·have c1:=Qdv s r.at_ k (by omega) (by omega) (by omega)
  rw[Qhd (.inr h)]
  (unfold Tryz.f240; refine rn trivial ?_)
  have F:=trivial
  refine rn F ?_
  repeat' (first
   | with_reducible exact⟨⟩
   | (refine sG F ?_ ?_<;>intro hZ)
   | refine vp F (c1) ?_
   | (refine Qc (id:=1) [0,1,2,3,4,5,6,7,8] [⟨[],[],9,[0,1,2,4,5,6],[10,11,12]⟩,⟨[],[],13,[12],[]⟩,⟨[],[],14,[],[]⟩] (by kernel_rfl) (by kernel_rfl) ?_; refine rn F ?_))
  all_goals exact⟨_,rfl,rfl,rfl,rfl,rfl,rfl⟩
structure LSrnum(s:List UInt8)(fin:List Int×RQ s) where
 n:Int
 out:List Int
 r:RQ s
 hn : -9223372036854775808<=n/\n<=9223372036854775807
 ho:4*out.length<=r.lim
 he:rdN s n.toNat out r=fin
def QyH(s:List UInt8)(hs:s.length<=3000000)(k:Nat)(h1:1<=k)(h8:k<=8)(r:RQ s):VCalls prog 241 [.ptr 0 0,.int .i64 k] [rbQ 336 s r] (RY 336 s (lb (QeL s k r).1) (QeL s k r).2):=by
 refine dd Tryz.func241 ?_
 (unfold Tryz.f241; refine rn trivial ?_)
 refine Qjr (k:=0) (Qd4 s hs k h1 h8 r) rfl rfl ?_
 refine rn trivial ?_
 refine VLoop.nilOwn 5 3 1 rfl ?_
 refine Qi (fun t:LSrnum s (QeL s k r)=>⟨27,1,[(6,.int .i64 t.n),(5,.own 1 1 0 t.out.length),(0,.ptr 0 0)],[rbQ 336 s t.r,⟨3,true,cells QW t.out⟩]⟩) (fun t=>t.n.toNat) ⟨(Qcb s k r).1,[],(Qcb s k r).2,Qoq r,Jc _,rfl⟩ (gc [0,1]) ?_
 rintro⟨n,out,q,hn,ho,he⟩
 dsimp only
 have hl:=q.lim_le
 have hl1:out.length+1<=1000000:=by omega
 have hb:(out.length+1)*8<=140737488355328:=by omega
 obtain⟨a,sh,ha⟩:=q
 cases sh
 ·by_cases h0:0 < n
  ·have e:n.toNat = (n - 1).toNat + 1:=by omega
   rw[e,rdN,if_neg (by simp)] at he
   have hm:=Qhe (k:=8) (by omega) (⟨a,false,ha⟩:RQ s) rfl
   have F:=(Ja @h0 (Ja @Qme @hb))
   refine rn F ?_
   refine Qjr (k:=0) (Qd4 s hs 8 (by omega) (by omega) ⟨a,false,ha⟩) rfl rfl ?_
   have F:=(Ja @Qme @hb)
   refine rn F ?_
   refine⟨⟨n-1,_,_,by omega,by simp; omega,he⟩,by show(n-1).toNat<n.toNat; omega,?_⟩
   dsimp only
   rw[Jb]
   exact(gc [0,3])
  ·have e:n.toNat = 0:=by omega
   rw[e,rdN] at he
   have F:=(Ja @Qme @hb)
   (refine rn F ?_; try with_reducible exact⟨⟩)
   all_goals exact⟨_,rfl,rfl,rfl,rfl,(by rw[<- he]; try rfl),(by rw[<- he]; try rfl)⟩
 ·rw [QDp rfl] at he
  have F:=(Ja @Qme @hb)
  refine rn F ?_
  repeat' (first
   | with_reducible exact⟨⟩
   | (refine sG F ?_ ?_<;>intro hZ))
  all_goals exact⟨_,rfl,rfl,rfl,rfl,(by rw[<- he]; try rfl),(by rw[<- he]; try rfl)⟩
structure DTrnum(s:List UInt8) where
 n:Int
 out:List Tx
 r:RQ s
 hn : -9223372036854775808<=n/\n<=9223372036854775807
 ho:4*out.length<=r.lim
 he:rdT s n.toNat out r=rdA s
def QpA(s:List UInt8)(hs:s.length<=3000000):VCalls prog 238 [.pv (.str s)] [] (Ret (QCx (Qy8 s))):=by
 refine VCalls.unwk ?_
 refine dd Tryz.func238 ?_
 (unfold Tryz.f238; refine rn trivial ?_)
 refine Qjr (k:=0) (Qd4 s hs 2 (by omega) (by omega) (rq0 s)) rfl rfl ?_
 refine rn trivial ?_
 refine VLoop.nilOwn 5 201 6 rfl ?_
 refine Qi (fun t:DTrnum s=>⟨64,0,[(6,.int .i64 t.n),(5,.own 1 6 0 t.out.length),(4,.ptr 0 0),(0,.pv (.str s))],[rbQ 336 s t.r,⟨201,true,cells Qaf t.out⟩]⟩) (fun t=>t.n.toNat) ⟨(Qcb s 2 (rq0 s)).1,[],(Qcb s 2 (rq0 s)).2,Qoq _,Jc _,rfl⟩ (gc [0,1]) ?_
 rintro⟨n,out,q,hn,ho,he⟩
 dsimp only
 have hl:=q.lim_le
 have hb:(out.length+1)*80<=140737488355328:=by omega
 have hsm:=QDq hs
 have ed:Qy8 s=if (rdA s).2.sh=true then ([],5) else if ((rdA s).2.at_:Int)≠s.length then ([],4) else if Qbw (rdA s).1=false then ([],15) else ((rdA s).1,0):=rfl
 obtain⟨a,sh,ha⟩:=q
 cases sh
 ·by_cases h0:0 < n
  ·have e:n.toNat = (n - 1).toNat + 1:=by omega
   rw[e,rdT,if_neg (by simp)] at he
   have hm:=QnQ (⟨a,false,ha⟩:RQ s) rfl
   simp only[txS] at he hm
   have cA:=Qd4 s hs 4 (by omega) (by omega) ⟨a,false,ha⟩
   generalize Qcb s 4 ⟨a,false,ha⟩=A at cA he hm
   have cB:=Qd4 s hs 1 (by omega) (by omega) A.2
   generalize Qcb s 1 A.2=B at cB he hm
   have cC:=Qd4 s hs 8 (by omega) (by omega) B.2
   generalize Qcb s 8 B.2=C at cC he hm
   have cD:=Qd4 s hs 8 (by omega) (by omega) C.2
   generalize Qcb s 8 C.2=D at cD he hm
   have cE:=QyH s hs 2 (by omega) (by omega) D.2
   generalize QeL s 2 D.2=E at cE he hm
   have cF:=QyH s hs 1 (by omega) (by omega) E.2
   generalize QeL s 1 E.2=W at cF he hm
   have F:=(Ja @h0 (Ja @Qf8 @hb))
   refine rn F ?_
   refine Qjr (k:=0) cA rfl rfl ?_
   have F:=(Ja @h0 (Ja @Qf8 @hb))
   refine rn F ?_
   refine Qjr (k:=0) cB rfl rfl ?_
   have F:=(Ja @h0 (Ja @Qf8 @hb))
   refine rn F ?_
   refine Qjr (k:=0) cC rfl rfl ?_
   have F:=(Ja @h0 (Ja @Qf8 @hb))
   refine rn F ?_
   refine Qjr (k:=0) cD rfl rfl ?_
   have F:=(Ja @h0 (Ja @Qf8 @hb))
   refine rn F ?_
   refine Qjr (k:=0) cE rfl rfl ?_
   have F:=(Ja @h0 (Ja @Qf8 @hb))
   refine rn F ?_
   refine Qjr (k:=0) cF rfl rfl ?_
   have F:=(Ja @h0 (Ja @Qf8 @hb))
   refine rn F ?_
   refine⟨⟨n-1,_,_,by omega,by simp; omega,he⟩,by show(n-1).toNat<n.toNat; omega,?_⟩
   dsimp only
   have e2:cells Qaf out++[.pv (.lit (.int .i64 A.1)),.pv (.lit (.int .i64 B.1)),.pv (.lit (.int .i64 C.1)),.pv (.lit (.int .i64 D.1)),.pv (.sl (fz QW E.1)),.pv (.sl (fz QW W.1))]=cells Qaf (out++[⟨A.1,B.1,C.1,D.1,E.1,W.1⟩]):=Qf8 out ⟨A.1,B.1,C.1,D.1,E.1,W.1⟩
   rw[Jb]
   rw[e2]
   exact(gc [0,4])
  ·have e:n.toNat = 0:=by omega
   rw[e,rdT] at he
   rw[<- he] at ed hsm
   have c1:=QbM out hsm
   rw[ed]
   by_cases h1:(a:Int)=s.length
   ·cases hv:Qbw out
    ·rw [hv] at c1
     dsimp only
     rw[if_neg (by simp),if_neg (by simpa using h1),if_pos (by first | rfl | exact hv)]
     have F:=(Ja @h0 (Ja @h1 @hb))
     refine rn F ?_
     repeat' (first
      | with_reducible exact⟨⟩
      | refine vl F (c1) ?_)
     all_goals first | rfl | contradiction
    ·rw [hv] at c1
     dsimp only
     rw[if_neg (by simp),if_neg (by simpa using h1),if_neg (by first | simp; done | (rw[hv]; simp))]
     have F:=(Ja @h0 (Ja @h1 @hb))
     refine rn F ?_
     repeat' (first
      | with_reducible exact⟨⟩
      | refine vl F (c1) ?_)
     all_goals first | rfl | contradiction
   ·dsimp only
    rw[if_neg (by simp),if_pos (by simpa using h1)]
    have F:=(Ja @h0 (Ja @h1 @hb))
    (refine rn F ?_; try with_reducible exact⟨⟩)
    all_goals first | rfl | contradiction
 ·rw [QDo rfl] at he
  rw[<- he] at ed
  rw[ed]
  dsimp only
  rw[if_pos rfl]
  have F:=@hb
  refine rn F ?_
  repeat' (first
   | with_reducible exact⟨⟩
   | (refine sG F ?_ ?_<;>intro hZ))
  all_goals first | rfl | contradiction
end
def QiK(c:Cp)(h:c.sm):VCalls prog 143 [.agg c.d] [] (QG boD fun b=>b=true->CkV c):=by
 refine dd Tryz.func143 ?_
 obtain⟨h1,h2,h3⟩:=h
 have h10:=h1.1
 have c1:=QbM c.tx (h1.smL (by omega))
 have c2:=fun n=>Qk3 c.dl (by omega) n
 have c3:=QbF c.ix (by omega)
 have e:CkV c=((1<=c.pg/\c.pg<=64)/\(1<=c.nx/\c.nx<=1073741825)/\Qbw c.tx=true/\laB c.dl c.pg=true/\ixB c.ix=true/\(c.ix.length:Int)=c.pg):=rfl
 generalize Qbw c.tx=b1 at *
 generalize ixB c.ix=b2 at *
 (unfold Tryz.f143; refine rn trivial ?_)
 refine rn F ?_
 repeat' (first
  | with_reducible exact⟨⟩
  | (refine sG F ?_ ?_<;>intro hZ)
  | (refine sB F ?_ ?_<;>intro hZ)
  | refine vp F (c1) ?_
  | (refine Qo (c2 _) rfl ?_; rintro b3 hb3; refine rn F ?_)
  | refine vp F (c3) ?_)
 all_goals first
  | exact⟨rfl,rfl,false,rfl,fun h=>by cases h⟩
  | skip
 all_goals
  have hV:CkV c:=by
   rw[e]
   refine⟨⟨by omega,by omega⟩,⟨by omega,by omega⟩,?_,?_,?_,?_⟩<;>first | assumption | omega | (simp_all; done)
  refine Qi (fun s:To c.tx.length=>⟨67,0,[(3,.int .i64 s.i),(1,.ptr 0 0)],[⟨193,true,c.d⟩]⟩) (fun s=>c.tx.length-s.i) ⟨0,Jc _⟩ (gc [0]) ?_
  rintro⟨i,hi⟩
  dsimp only
  have hg:=fun h:i<c.tx.length=>Qea c.tx i h
  have F:=@hg
  refine rn F ?_
  repeat' (first
   | with_reducible exact⟨⟩
   | (refine sB F ?_ ?_<;>intro hZ)
   | (refine Qc (id:=6) [0,1,2,3,4,5,6,7,8] [] (by kernel_rfl) (by kernel_rfl) ?_; refine rn F ?_))
 all_goals first
  | exact⟨rfl,rfl,false,rfl,fun h=>by cases h⟩
  | exact⟨rfl,rfl,true,rfl,fun _=>hV⟩
  | exact⟨⟨i+1,by omega⟩,by dsimp only; omega,(gc [0])⟩
  | skip
def QeX:∀ (l:List Dt) (s:List UInt8),(Qdc s l).length = s.length + 17 * l.length
 | [],s=>by simp[Qdc]
 | t :: r,s=>by
   show(Qdc (Qj7 s t) r).length=_
   rw[QeX r]
   unfold Qj7
   rw[Qb,Qb,Qb,Jm]; omega
def QiX(s:List UInt8)(l:List Dt)(i:Nat)(h:i<l.length):Qdc s (l.take (i+1))=Qj7 (Qdc s (l.take i)) (l.getD i Dt0):=by
 rw[Je h,Qdc,List.foldl_append,Qd l i h]; rfl
def QEb(c:Cp)(a:List UInt8×Int):Prop:=a.1.length<=300000000/\(a.1=[]\/CkV c/\a.1=QaI c)
def QwO(c:Cp)(h:c.sm):VCalls prog 106 [.agg c.d] [] (QG siD (QEb c)):=by
 refine dd Tryz.func106 ?_
 have c1:=QiK c h
 obtain⟨h1,h2,h3⟩:=h
 have c2:=QAf c.tx h1
 have c3:=QwD c.ix h3
 have p1:=QT [] (by simp) c.pg 2 (by omega) (by omega)
 have p2:=QT (Qk [] c.pg 2) (by rw[Qb]; simp) c.nx 4 (by omega) (by omega)
 (unfold Tryz.f106; refine rn trivial ?_)
 refine Qo c1 rfl ?_
 rintro b hb
 cases b
 ·skip
  refine rn F ?_
  exact⟨rfl,rfl,([],24),rfl,by simp,.inl rfl⟩
 have hV:=hb rfl
 obtain⟨_,_,v3,v4,v5,_⟩:=hb rfl
 have hle:=QoJ v3
 have hlx:=Ql1 c.ix
 have eck:QaI c=Qdc (Qk (Qk (Qk (Qk [] c.pg 2) c.nx 4) (QaT c.tx).length 4++QaT c.tx) c.dl.length 1) c.dl++Qcr c.ix:=rfl
 replace c2:=c2 v3
 replace c3:=c3 v5
 generalize QaT c.tx=t at *
 generalize Qcr c.ix=w at *
 have p3:=QT (Qk (Qk [] c.pg 2) c.nx 4) (by rw[Qb,Qb]; simp) t.length 4 (by omega) (by omega)
 have l3:(Qk (Qk (Qk [] c.pg 2) c.nx 4) t.length 4).length=10:=by rw[Qb,Qb,Qb]; simp
 have hadd:=QcY (a:=Qk (Qk (Qk [] c.pg 2) c.nx 4) t.length 4) (b:=t) (by omega)
 have p4:=QT (Qk (Qk (Qk [] c.pg 2) c.nx 4) t.length 4++t) (by rw[Jb]; omega) c.dl.length 1 (by omega) (by omega)
 have l4:(Qk (Qk (Qk (Qk [] c.pg 2) c.nx 4) t.length 4++t) c.dl.length 1).length=11+t.length:=by rw[Qb,Jb]; omega
 have F:=@hadd
 refine rn F ?_
 repeat' (first
  | with_reducible exact⟨⟩
  | refine vp F (p1) ?_
  | refine vp F (p2) ?_
  | refine vp F (c2) ?_
  | refine vp F (p3) ?_
  | refine vp F (p4) ?_)
 generalize Qk (Qk (Qk (Qk [] c.pg 2) c.nx 4) t.length 4++t) c.dl.length 1=u at *
 refine Qi (fun r:To c.dl.length=>⟨77,0,[(7,.int .i64 r.i),(6,.pv (.str (Qdc u (c.dl.take r.i)))),(1,.ptr 0 0)],[⟨193,true,c.d⟩]⟩) (fun r=>c.dl.length-r.i) ⟨0,Jc _⟩ (gc [0]) ?_
 rintro⟨i,hi⟩
 dsimp only
 have hy:=fun h:i<c.dl.length=>QeQ c.dl i h
 have hlen:=QeX (c.dl.take i) u
 rw[Jk] at hlen
 have hsc:=QiX u c.dl i
 have hend:c.dl.length<=i->c.dl.take i=c.dl:=fun h=>Ji h
 by_cases hc:i<c.dl.length
 ·replace hsc:=hsc hc
  generalize Qdc u (c.dl.take i)=s at *
  generalize c.dl.getD i Dt0=x at *
  unfold Qj7 at hsc
  have q1:=QT s (by omega) x.pg 1 (by omega) (by omega)
  have q2:=QT (Qk s x.pg 1) (by rw[Qb]; omega) x.rc 8 (by omega) (by omega)
  have q3:=QT (Qk (Qk s x.pg 1) x.rc 8) (by rw[Qb,Qb]; omega) x.last 8 (by omega) (by omega)
  have F:=@hy
  refine rn F ?_
  repeat' (first
   | with_reducible exact⟨⟩
   | refine vp F (q1) ?_
   | refine vp F (q2) ?_
   | refine vp F (q3) ?_)
  refine⟨⟨i+1,by omega⟩,by dsimp only; omega,?_⟩
  dsimp only
  rw[hsc]
  exact(gc [0])
 ·rw [hend (by omega)] at hlen |-
  generalize Qdc u c.dl=v at *
  have hadd2:=QcY (a:=v) (b:=w) (by omega)
  have F:=(Ja @hy @hadd2)
  refine rn F ?_
  repeat' (first
   | with_reducible exact⟨⟩
   | refine vp F (c3) ?_)
  exact⟨rfl,rfl,(v++w,0),rfl,by dsimp only; rw[Jb]; omega,.inr ⟨hV,eck.symm⟩⟩
def QlW(h:(Q4 x n).2=0):Ev x (Q4 x n).1:=by
 unfold Q4 at h |-
 split at h
 ·simp at h
 rename_i q1
 split at h
 ·simp at h
 rename_i q2
 rw[if_neg q1,if_neg q2]
 refine⟨rfl,List.prefix_rfl,fun hv=>?_⟩
 have hd:=Q9 hv
 unfold lgB at hv |-
 simp only[Jd,decide_eq_true_eq] at hv |-
 refine⟨?_,hv.2⟩
 simp only[Lg.hd,Lg.end_] at hd q2 |-
 split<;>omega
def QiV(x:Lg)(n:Int)(h:x.es.length<=4096):(Q4 x n).1.es.length<=4096:=by
 unfold Q4
 repeat' split
 all_goals first | exact Jc _ | exact h
def QqD(hq:Qvq k e (k1,n1,e1))(h:e1=0):(Q4 k1.lg n1).2=0:=by
 obtain⟨e',⟨_,_,_,hl,_⟩,hk,hn,hv⟩:=hq.2 h
 dsimp only at hk hn hv
 subst hk
 unfold Q4
 rw[if_neg (by rw[hv]; decide),if_neg]
 simp only[Kn.add,Lg.end_,Jb,Jm,JC] at *
 omega
def QeS(h:(Q4 x n).2=0):(Q4 x n).1=⟨x.f,x.es,(Q4 x n).1.d⟩:=by
 unfold Q4 at h |-
 split at h
 ·simp at h
 rename_i q1
 split at h
 ·simp at h
 rename_i q2
 rw[if_neg q1,if_neg q2]
def QCX(k:Kn)(a:Kn×Int×Int):Prop:=a.1.sm/\(a.2.2=0->Str 1 k a.1)
def QAh(k:Kn)(h:k.sm):VCalls prog 84 [.agg k.d] [] (QG kie (QCX k)):=by
 refine dk Tryz.func84 ?_
 have c1:=QAC k h
 have c2:=fun c hc=>QwO c hc
 have c3:=fun t=>Qd5 k h ⟨0,6,0,0,0,0,Ch0,t⟩
 have e0:∀ n e,e≠0->QCX k (Kn0,n,e):=fun n e h=>⟨QbW,fun h2=>absurd h2 h⟩
 (unfold Tryz.f84; refine rn trivial ?_)
 refine rn F ?_
 repeat' (first
  | with_reducible exact⟨⟩
  | (refine sB F ?_ ?_<;>intro hZ)
  | (refine Qo (c1) rfl ?_; rintro⟨c,e⟩ hc; refine rn F ?_)
  | (refine Qo (c2 c hc.1) rfl ?_; rintro⟨t,e2⟩ ht; refine rn F ?_)
  | (refine Qo (c3 _) rfl ?_; rintro⟨k1,n1,e1⟩ hq; refine rn F ?_)
  | refine vp F (QjF k1.lg (Jh hq.1.1 (by decide)) n1) ?_)
 all_goals first
  | exact⟨rfl,rfl,(Kn0,0,21),rfl,e0 _ _ (by decide)⟩
  | exact⟨rfl,rfl,(Kn0,0,e),rfl,e0 _ _ (by assumption)⟩
  | exact⟨rfl,rfl,(Kn0,0,e1),rfl,e0 _ _ (by assumption)⟩
  | skip
 have he1:e1=0:=by omega
 obtain⟨r1,r2,r3,r4,r5,r6⟩:=hq.1
 have hf0:=QqD hq he1
 obtain⟨e',ha,hk1,_,_⟩:=hq.2 he1
 dsimp only at hk1
 have qs:Str 1 k k1:=by
  rw[hk1]
  refine .one (.ckpt ha rfl ?_)
  rcases ht.2 with h | ⟨h,h'⟩
  ·exact .inl h
  ·exact .inr ⟨c,hc.2 (by first | assumption | (dsimp only; omega)),h,h'⟩
 have qf:=Stp.force (k:=k1) (Q4 k1.lg n1).1.d fun _=>by
  have:=(QlW hf0).ok (hq.2 he1).choose_spec.2.2.2
  rw[QeS hf0] at this
  exact this
 rw[<- QeS hf0] at qf
 exact⟨rfl,rfl,(⟨k1.pg,k1.nx,(Q4 k1.lg n1).1,k1.pl,k1.lk,k1.tx,k1.ix,k1.la⟩,n1,0),rfl,⟨QiV _ _ r1,r2,r3,r4,r5,r6⟩,fun _=>qs.step qf⟩
def Qsg(s:Sv)(hs:s.sm):VCalls prog 69 [.agg s.d] [] (QG QF9 fun a=>a.1.sm/\(a.2.2=0->Str 1 s.k a.1.k)):=by
 refine dk Tryz.func69 ?_
 have c1:=QAh s.k hs.1
 (unfold Tryz.f69; refine rn trivial ?_)
 refine rn F ?_
 repeat' (first
  | with_reducible exact⟨⟩
  | (refine sB F ?_ ?_<;>intro hZ)
  | (refine Qo (c1) rfl ?_; rintro⟨k1,n1,e1⟩ hq; refine rn F ?_))
 all_goals first
  | exact⟨rfl,rfl,(Sv0,0,e1),rfl,Qdk,fun h=>absurd h (by assumption)⟩
  | exact⟨rfl,rfl,(⟨k1,s.v⟩,n1,0),rfl,⟨hq.1,hs.2⟩,fun _=>hq.2 (by dsimp only; omega)⟩
  | skip
def Pre(q s:List UInt8):Prop:=∃ u,s=q++u
def Pre.trans(h:Pre p q)(h':Pre q s):Pre p s:=by
 obtain⟨u,rfl⟩:=h; obtain⟨v,rfl⟩:=h'; exact⟨u++v,by rw[Jf]⟩
def Pre.refl(s:List UInt8):Pre s s:=⟨[],by simp⟩
def Pre.len(h:Pre p s):p.length<=s.length:=by obtain⟨u,rfl⟩:=h; simp
def QL(s:List UInt8)(n:Int)(k:Nat):Pre s (Qk s n k):=⟨_,rfl⟩
def QbY:∀ (l:List Int) (s:List UInt8),Pre s (Qkj s l)
 | [],s=>.refl s
 | a::r,s=>(QL s a 8).trans (QbY r (Qk s a 8))
def Qup(s:List UInt8)(t:Tx):Pre s (QeV s t):=by
 unfold QeV
 exact(QL _ _ _).trans ((QL _ _ _).trans ((QL _ _ _).trans ((QL _ _ _).trans ((QL _ _ _).trans ((QbY _ _).trans ((QL _ _ _).trans (QbY _ _)))))))
def Qht:∀ (l:List Tx) (s:List UInt8),Pre s (QeU s l)
 | [],s=>.refl s
 | a::r,s=>(Qup s a).trans (Qht r (QeV s a))
def fit(n:Int)(k:Nat):Prop:=(k<=7/\0<=n/\n<2 ^ (8*k))\/(k=8/\-9223372036854775808<=n/\n<=9223372036854775807)
def Qul(n:Int)(k:Nat)(h:fit n k):IntKind.i64.wrap ((u64N n % 2 ^ (8*k):Nat):Int)=n:=by
 rcases h with⟨hk,h0,h1⟩ | ⟨rfl,h1⟩
 ·rw [Qo1 n (8 * k) (by omega)]
  have hp:(2:Nat) ^ (8*k)<=2 ^ 56:=Jy (by omega) (by omega)
  have e2:((2:Int) ^ (8*k))=((2 ^ (8*k):Nat):Int):=by rw[J1]; rfl
  rw[e2] at h1
  generalize 2 ^ (8*k)=z at *
  have e3:u64N n=n.toNat:=by unfold u64N; omega
  rw[e3,Ki (by omega)]; omega
 ·exact QqS n h1
def QFn(e:a=b):(⟨a,sh,ha⟩:RQ s)=⟨b,sh,hb⟩:=by subst e; rfl
def QcC(hp:Pre (Qk p n k) s)(hk:1<=k)(hf:fit n k)(ha:a<=s.length)(e:a=p.length):
 ∃ h,Qcb s k ⟨a,false,ha⟩=(n,⟨(Qk p n k).length,false,h⟩):=by
 subst e
 have hl:=hp.len
 have hl0:=hp.len
 have hk8:k<=8:=by rcases hf with h | h<;>omega
 rw[Qb] at hl
 rw[QjT rfl hl]
 obtain⟨t,rfl⟩:=hp
 refine⟨hl0,?_⟩
 dsimp only
 rw[QhM p t n k hk8 k (Jq _),Qul n k hf]
 exact congrArg (Prod.mk n) (QFn (Qb _ _ _).symm)
def QsL:∀ (l:List Int) {s p:List UInt8} (_:Pre (Qkj p l) s) (_:∀ n ∈ l,fit n 8) (out:List Int) {a:Nat} (ha:a<=s.length) (_:a = p.length),
 ∃ h,rdN s l.length out ⟨a,false,ha⟩=(out++l,⟨(Qkj p l).length,false,h⟩)
 | [],s,p,hp,_,out,a,ha,e=>⟨hp.len,by subst e; rw[Jn]; rfl⟩
 | n :: r,s,p,hp,hf,out,a,ha,e=>by
   obtain⟨h1,e1⟩:=QcC (p:=p) (n:=n) (k:=8) ((QbY r _).trans hp) (by omega) (hf n (by simp)) ha e
   obtain⟨h2,e2⟩:=QsL r (p:=Qk p n 8) hp (fun m hm=>hf m (J7 _ hm)) (out++[n]) h1 rfl
   refine⟨h2,?_⟩
   rw[Jm,rdN,if_neg (by simp),e1,e2,Jf]
   rfl
def Qlz(hp:Pre (Qkj (Qk p l.length k) l) s)(hk:1<=k)(hfk:fit l.length k)(hf:∀ n∈l,fit n 8)(ha:a<=s.length)(e:a=p.length):
 ∃ h,QeL s k ⟨a,false,ha⟩=(l,⟨(Qkj (Qk p l.length k) l).length,false,h⟩):=by
 obtain⟨h1,e1⟩:=QcC (p:=p) (n:=l.length) (k:=k) ((QbY l _).trans hp) hk hfk ha e
 obtain⟨h2,e2⟩:=QsL l hp hf [] h1 rfl
 refine⟨h2,?_⟩
 unfold QeL
 rw[e1,Jo,e2,JO]
def Tx.fits(t:Tx):Prop:=fit t.id 4/\fit t.st 1/\fit t.n 8/\fit t.b 8/\fit t.l.length 2/\fit t.s.length 1/\(∀ n∈t.l,fit n 8)/\∀ n∈t.s,fit n 8
def QzX(hp:Pre (QeV p t) s)(hf:t.fits)(ha:a<=s.length)(e:a=p.length):
 ∃ h,txS s ⟨a,false,ha⟩=(t,⟨(QeV p t).length,false,h⟩):=by
 obtain⟨f1,f2,f3,f4,f5,f6,f7,f8⟩:=hf
 obtain⟨id,st,n,b,q,v⟩:=t
 unfold QeV at hp |-
 dsimp only at *
 have p6:=(QL _ _ _).trans ((QbY _ _).trans hp)
 have p5:=(QL _ _ _).trans ((QbY _ _).trans p6)
 have p4:=(QL _ _ _).trans p5
 have p3:=(QL _ _ _).trans p4
 have p2:=(QL _ _ _).trans p3
 obtain⟨h1,e1⟩:=QcC (p:=p) (n:=id) (k:=4) (by first | exact p2 | exact p3 | exact p4 | exact p5) (by omega) f1 ha e
 obtain⟨h2,e2⟩:=QcC (p:=Qk p id 4) (n:=st) (k:=1) (by first | exact p2 | exact p3 | exact p4 | exact p5) (by omega) f2 h1 rfl
 obtain⟨h3,e3⟩:=QcC (p:=Qk (Qk p id 4) st 1) (n:=n) (k:=8) (by first | exact p2 | exact p3 | exact p4 | exact p5) (by omega) f3 h2 rfl
 obtain⟨h4,e4⟩:=QcC (p:=Qk (Qk (Qk p id 4) st 1) n 8) (n:=b) (k:=8) (by first | exact p2 | exact p3 | exact p4 | exact p5 | exact p6) (by omega) f4 h3 rfl
 obtain⟨h5,e5⟩:=Qlz (p:=Qk (Qk (Qk (Qk p id 4) st 1) n 8) b 8) (l:=q) (k:=2) (by first | exact p6 | exact p5 | exact(QL _ _ _).trans ((QbY _ _).trans hp)) (by omega) f5 f7 h4 rfl
 obtain⟨h6,e6⟩:=Qlz (l:=v) (k:=1) hp (by omega) f6 f8 h5 rfl
 refine⟨h6,?_⟩
 simp only[txS,e1,e2,e3,e4,e5,e6]
def QsJ:∀ (l:List Tx) {s p:List UInt8} (_:Pre (QeU p l) s) (_:∀ t ∈ l,t.fits) (out:List Tx) {a:Nat} (ha:a<=s.length) (_:a = p.length),
 ∃ h,rdT s l.length out ⟨a,false,ha⟩=(out++l,⟨(QeU p l).length,false,h⟩)
 | [],s,p,hp,_,out,a,ha,e=>⟨hp.len,by subst e; rw[Jn]; rfl⟩
 | n :: r,s,p,hp,hf,out,a,ha,e=>by
   obtain⟨h1,e1⟩:=QzX (p:=p) (t:=n) ((Qht r _).trans hp) (hf n (by simp)) ha e
   obtain⟨h2,e2⟩:=QsJ r (p:=QeV p n) hp (fun m hm=>hf m (J7 _ hm)) (out++[n]) h1 rfl
   refine⟨h2,?_⟩
   rw[Jm,rdT,if_neg (by simp),e1,e2,Jf]
   rfl
def Qu5{lo n d:Int}(h:QoV l lo n d=true)(h0:0<=lo)(hn:n<=1099511627776):∀ x∈l,fit x 8:=fun x hx=>by
 obtain⟨i,hi,rfl⟩:=JP hx
 unfold QoV at h
 rw[Ju] at h
 have:=(QdL l lo n d i).1 (h i (Jw.2 hi))
 rw[Qd l i hi] at this
 exact .inr ⟨rfl,by omega,by omega⟩
def Qw8{t:Tx}(h:t.okB=true):t.fits:=by
 simp only[Tx.okB,Tx.hdB,Jd,J2,decide_eq_true_eq] at h
 obtain⟨⟨hh,h1⟩,h2⟩:=h
 refine⟨.inl ⟨by omega,by omega,by show t.id<4294967296; omega⟩,.inl ⟨by omega,by omega,by show t.st<256; omega⟩,.inr ⟨rfl,by omega,by omega⟩,.inr ⟨rfl,by omega,by omega⟩,.inl ⟨by omega,by omega,by show(t.l.length:Int)<65536; omega⟩,.inl ⟨by omega,by omega,by show(t.s.length:Int)<256; omega⟩,
  Qu5 h1 (by omega) (by omega),Qu5 h2 (by omega) (by omega)⟩
def QrO(h:Qbw l=true):∀ t∈l,t.fits:=fun t ht=>by
 obtain⟨i,hi,rfl⟩:=JP ht
 exact Qw8 (Qbp h hi)
def QD6(h:Qbw l=true):Qy8 (QaT l)=(l,0):=by
 have hf:=QrO h
 have hl:=Qeq h
 generalize hs:QaT l=s
 have hp:Pre (QeU (Qk [] l.length 2) l) s:=by rw[<- hs]; exact .refl _
 obtain⟨h1,e1⟩:=QcC (p:=[]) (n:=l.length) (k:=2) ((Qht l _).trans hp) (by omega) (.inl ⟨by omega,by omega,by show(l.length:Int)<65536; omega⟩) (Jc s.length) rfl
 obtain⟨h2,e2⟩:=QsJ l hp hf [] h1 rfl
 have e3:rdA s=(l,⟨(QeU (Qk [] l.length 2) l).length,false,h2⟩):=by
  unfold rdA rq0
  rw[e1,Jo,e2,JO]
 unfold Qy8
 rw[e3]
 dsimp only
 rw[if_neg (by simp),if_neg (by rw[<- hs]; unfold QaT; simp),if_neg (by rw[h]; decide)]
def QbS(hp:Pre (Qk p n k) s)(hf:fit n k)(e:a=p.length):a+k<=s.length/\IntKind.i64.wrap (Qe3 s a k)=n:=by
 subst e
 have hl:=hp.len
 have hk8:k<=8:=by rcases hf with h | h<;>omega
 rw[Qb] at hl
 refine⟨hl,?_⟩
 obtain⟨t,rfl⟩:=hp
 rw[QhM p t n k hk8 k (Jq _),Qul n k hf]
def Pre.app(s u:List UInt8):Pre s (s++u):=⟨u,rfl⟩
def Qur(s:List UInt8)(r:Rw):Pre s (Qj6 s r):=(QL _ _ _).trans ((QL _ _ _).trans (QL _ _ _))
def Qhu:∀ (l:List Rw) (s:List UInt8),Pre s (Qee s l)
 | [],s=>.refl s
 | a::r,s=>(Qur s a).trans (Qhu r (Qj6 s a))
def Qus(s:List UInt8)(r:Dt):Pre s (Qj7 s r):=(QL _ _ _).trans ((QL _ _ _).trans (QL _ _ _))
def Qhv:∀ (l:List Dt) (s:List UInt8),Pre s (Qdc s l)
 | [],s=>.refl s
 | a::r,s=>(Qus s a).trans (Qhv r (Qj7 s a))
def QoK:∀ (l:List Rw) (s:List UInt8) (i:Nat),i<=l.length->Pre (Qee s (l.take i)) (Qee s l)
 | [],s,i,_=>by rw[Kp]; exact .refl _
 | a::r,s,0,_=>Qhu _ _
 | a::r,s,i+1,h=>QoK r (Qj6 s a) i (by simpa using h)
def QoL:∀ (l:List Dt) (s:List UInt8) (i:Nat),i<=l.length->Pre (Qdc s (l.take i)) (Qdc s l)
 | [],s,i,_=>by rw[Kp]; exact .refl _
 | a::r,s,0,_=>Qhv _ _
 | a::r,s,i+1,h=>QoL r (Qj7 s a) i (by simpa using h)
def QBe(h:ixB l=true)(hi:i<l.length):fit (l.getD i Rw0).lsn 8/\fit (l.getD i Rw0).im 8/\fit (l.getD i Rw0).at_ 8:=by
 unfold ixB at h
 simp only[Jd,Ju,Jw] at h
 have:=h.2 i hi
 unfold QAt QpQ at this
 simp only[Jd,decide_eq_true_eq] at this
 exact⟨.inr ⟨rfl,by omega,by omega⟩,.inr ⟨rfl,by omega,by omega⟩,.inr ⟨rfl,by omega,by omega⟩⟩
def QDR(h:ixB l=true):IntKind.i64.wrap (Qe3 (Qcr l) 0 2)=l.length/\(Qcr l).length=2+24*l.length:=by
 have h2:=QtG h
 exact⟨(QbS (p:=[]) (n:=l.length) (k:=2) (Qhu l _) (.inl ⟨by omega,by omega,by show(l.length:Int)<65536; omega⟩) rfl).2,Ql1 l⟩
def QDQ(h:ixB l=true)(hi:i<l.length):IntKind.i64.wrap (Qe3 (Qcr l) (2+24*i) 8)=(l.getD i Rw0).lsn/\IntKind.i64.wrap (Qe3 (Qcr l) (10+24*i) 8)=(l.getD i Rw0).im/\IntKind.i64.wrap (Qe3 (Qcr l) (18+24*i) 8)=(l.getD i Rw0).at_:=by
 obtain⟨f1,f2,f3⟩:=QBe h hi
 have h1:=QoK l (Qk [] l.length 2) (i+1) hi
 rw[QiW _ _ _ hi] at h1
 have hl:(Qee (Qk [] l.length 2) (l.take i)).length=2+24*i:=by
  rw[QeW,Qb,Jk,JC]; omega
 have hs:Qee (Qk [] l.length 2) l=Qcr l:=rfl
 rw[hs] at h1
 generalize Qee (Qk [] l.length 2) (l.take i)=p at *
 unfold Qj6 at h1
 have h2:=(QL _ _ _).trans h1
 have h3:=(QL _ _ _).trans h2
 exact⟨(QbS h3 f1 hl.symm).2,(QbS h2 f2 (by rw[Qb]; omega)).2,(QbS h1 f3 (by rw[Qb,Qb]; omega)).2⟩
def Qoy(h:laB l n=true)(hi:i<l.length):0<=(l.getD i Dt0).pg/\(l.getD i Dt0).pg<n/\1<=(l.getD i Dt0).rc/\(l.getD i Dt0).rc<=(l.getD i Dt0).last/\(l.getD i Dt0).last<=1099511627776/\(i=0\/(l.getD (i-1) Dt0).pg<(l.getD i Dt0).pg):=by
 unfold laB at h
 rw[Ju] at h
 exact(Qnk _ _ _).1 (h i (Jw.2 hi))
def QyT (h:laB l n = true):∀ i:Nat,i < l.length->(i:Int)<=(l.getD i Dt0).pg
 | 0,hi=>(Qoy h hi).1
 | i + 1,hi=>by
   have h1:=QyT h i (by omega)
   have h2:=(Qoy h hi).2.2.2.2.2
   rcases h2 with h2 | h2
   ·omega
   ·rw[Nat.add_sub_cancel] at h2; omega
def QBb(h:laB l n=true)(hn:0<=n):(l.length:Int)<=n:=by
 rcases Nat.eq_zero_or_pos l.length with h0 | h0
 ·omega
 ·have h1:=QyT h (l.length - 1) (by omega)
  have h2:=(Qoy h (i:=l.length-1) (by omega)).2.1
  omega
def Ql8(h:CkV c):(11+(QaT c.tx).length+17*c.dl.length<=(QaI c).length/\IntKind.i64.wrap (Qe3 (QaI c) 0 2)=c.pg/\IntKind.i64.wrap (Qe3 (QaI c) 2 4)=c.nx/\IntKind.i64.wrap (Qe3 (QaI c) 6 4)=(QaT c.tx).length)/\((QaI c).take (10+(QaT c.tx).length)).drop 10=QaT c.tx/\IntKind.i64.wrap (Qe3 (QaI c) (10+(QaT c.tx).length) 1)=c.dl.length/\(QaI c).drop (11+(QaT c.tx).length+17*c.dl.length)=Qcr c.ix /\
 ∀ i,i<c.dl.length->IntKind.i64.wrap (Qe3 (QaI c) (11+(QaT c.tx).length+17*i) 1)=(c.dl.getD i Dt0).pg/\IntKind.i64.wrap (Qe3 (QaI c) (12+(QaT c.tx).length+17*i) 8)=(c.dl.getD i Dt0).rc/\IntKind.i64.wrap (Qe3 (QaI c) (20+(QaT c.tx).length+17*i) 8)=(c.dl.getD i Dt0).last:=by
 obtain⟨⟨v1,v2⟩,⟨v3,v4⟩,v5,v6,v7,v8⟩:=h
 have hT:=QoJ v5
 have hL:=QBb v6 (by omega)
 have hs:QaI c=Qdc (Qk (Qk (Qk (Qk [] c.pg 2) c.nx 4) (QaT c.tx).length 4++QaT c.tx) c.dl.length 1) c.dl++Qcr c.ix:=rfl
 generalize QaI c=s at *
 generalize QaT c.tx=T at *
 have p5:Pre (Qdc (Qk (Qk (Qk (Qk [] c.pg 2) c.nx 4) T.length 4++T) c.dl.length 1) c.dl) s:=⟨_,hs⟩
 have p4:=(Qhv _ _).trans p5
 have p3:=(QL _ _ _).trans p4
 have p2:=(Pre.app _ _).trans p3
 have p1:=(QL _ _ _).trans p2
 have p0:=(QL _ _ _).trans p1
 have l2:(Qk (Qk (Qk [] c.pg 2) c.nx 4) T.length 4).length=10:=by rw[Qb,Qb,Qb]; rfl
 have l3:(Qk (Qk (Qk [] c.pg 2) c.nx 4) T.length 4++T).length=10+T.length:=by rw[Jb,l2]
 have l4:(Qk (Qk (Qk (Qk [] c.pg 2) c.nx 4) T.length 4++T) c.dl.length 1).length=11+T.length:=by rw[Qb,l3]; omega
 have l5:=QeX c.dl (Qk (Qk (Qk (Qk [] c.pg 2) c.nx 4) T.length 4++T) c.dl.length 1)
 rw[l4] at l5
 refine⟨⟨by have:=p5.len; omega,(QbS p0 (.inl ⟨by omega,by omega,by show c.pg<65536; omega⟩) rfl).2,(QbS p1 (.inl ⟨by omega,by omega,by show c.nx<4294967296; omega⟩) (by rw[Qb]; rfl)).2,(QbS p2 (.inl ⟨by omega,by omega,by show(T.length:Int)<4294967296; omega⟩) (by rw[Qb,Qb]; rfl)).2⟩,?_,(QbS p4 (.inl ⟨by omega,by omega,by show(c.dl.length:Int)<256; omega⟩) l3.symm).2,?_,fun i hi=>?_⟩
 ·obtain ⟨u,hu⟩:=p3
  rw[hu,<- l3,List.take_left,<- l2,JV]
 ·rw[hs,<- l5,JV]
 ·have h1:=(QoL c.dl (Qk (Qk (Qk (Qk [] c.pg 2) c.nx 4) T.length 4 ++ T) c.dl.length 1) (i + 1) hi).trans p5
  rw[QiX _ _ _ hi] at h1
  have hl:=QeX (c.dl.take i) (Qk (Qk (Qk (Qk [] c.pg 2) c.nx 4) T.length 4++T) c.dl.length 1)
  rw[l4,Jk] at hl
  obtain⟨a1,a2,a3,a4,a5,_⟩:=Qoy v6 hi
  clear l5 p5 p4 p3 p2 p1 p0 hs l4
  generalize Qdc (Qk (Qk (Qk (Qk [] c.pg 2) c.nx 4) T.length 4++T) c.dl.length 1) (c.dl.take i)=p at *
  generalize c.dl.getD i Dt0=d at *
  unfold Qj7 at h1
  have h2:=(QL _ _ _).trans h1
  have h3:=(QL _ _ _).trans h2
  exact⟨(QbS h3 (.inl ⟨by omega,by omega,by show d.pg<256; omega⟩) (by omega)).2,(QbS h2 (.inr ⟨rfl,by omega,by omega⟩) (by rw[Qb]; omega)).2,(QbS h1 (.inr ⟨rfl,by omega,by omega⟩) (by rw[Qb,Qb]; omega)).2⟩
@[go_sem] def niZ(a:Int×Int):DV:=.tup [.int .i64 a.1,.int .i64 a.2]
def Qd6(s:List UInt8)(hs:s.length<=100000000)(a:Int)(k:Nat)(h1:1<=k)(h8:k<=8)(h0:0<=a):VCalls prog 197 [.pv (.str s),.int .i64 a,.int .i64 k] [] (QG niZ fun r=>(k<=4->0<=r.1/\r.1<4294967296)/\(k<=2->r.1<65536)/\(k<=1->r.1<256)/\(r.2=0->a+k<=s.length)/\(a+k<=s.length->r.1=IntKind.i64.wrap (Qe3 s a.toNat k))):=by
 by_cases h:a+k<=s.length
 ·obtain ⟨n,rfl⟩:∃ n:Nat,a = n:=⟨a.toNat,by omega⟩
  refine(QiG s (by omega) n k ⟨h1,h8⟩ (by omega)).toS (IntKind.i64.wrap (Qe3 s n k),0) rfl ⟨fun hk=>?_,fun hk=>?_,fun hk=>?_,fun _=>h,fun _=>by rw[Jo]⟩
  all_goals
   have e:=Qe2 s n k (by omega)
   have h2:=QlE s n k
   dsimp only
   rw[e,IntKind.wrap_i64]
  ·have:(2:Nat) ^ (8 * k)<=2 ^ 32:=Jy (by omega) (by omega)
   omega
  ·have:(2:Nat) ^ (8 * k)<=2 ^ 16:=Jy (by omega) (by omega)
   omega
  ·have:(2:Nat) ^ (8 * k)<=2 ^ 8:=Jy (by omega) (by omega)
   omega
 ·refine(Qdv s a k (by omega) h0 h).toS (0,5) rfl ⟨fun _=>by decide,fun _=>by decide,fun _=>by decide,fun h=>by simp at h,fun h2=>absurd h2 h⟩
structure RwS(n:Nat)(s:List UInt8) where
 i:Nat
 l:List Rw
 hl:l.length=i
 hi:i<=n
 hx:∀ l0,ixB l0=true->s=Qcr l0->l=l0.take i
@[go_sem] def ixD(a:List Rw×Int):DV:=.tup [.agg [.pv (.sl (fz Qcc a.1))],.int .i64 a.2]
def ixQ(s:List UInt8)(a:List Rw×Int):Prop:=a.1.length<=64/\(a.2=0->∀ l0,ixB l0=true->s=Qcr l0->a.1=l0)
def QwE(s:List UInt8)(hs:s.length<=100000000):VCalls prog 239 [.pv (.str s)] [] (QG ixD (ixQ s)):=by
 refine dk Tryz.func239 ?_
 have c1:=Qd6 s hs 0 2 (by omega) (by omega) (by omega)
 have c8:=fun a h=>Qd6 s hs a 8 (by omega) (by omega) h
 have e0:∀ e,e≠0->ixQ s ([],e):=fun e h=>⟨Jc _,fun h2=>absurd h2 h⟩
 (unfold Tryz.f239; refine rn trivial ?_)
 refine rn F ?_
 repeat' (first
  | with_reducible exact⟨⟩
  | (refine sG F ?_ ?_<;>intro hZ)
  | (refine sB F ?_ ?_<;>intro hZ)
  | (refine Qo (c1) rfl ?_; rintro⟨n,e⟩ hn; refine rn F ?_))
 all_goals first
  | exact⟨rfl,rfl,([],_),rfl,e0 _ (by decide)⟩
  | skip
 dsimp only at hn
 obtain⟨n,rfl⟩:∃ m:Nat,n=m:=⟨n.toNat,by omega⟩
 have hn2:n<65536:=by omega
 have hnl:∀ l0,ixB l0=true->s=Qcr l0->n=l0.length/\s.length=2+24*n:=fun l0 h1 h2=>by
  have h3:=QDR h1
  have h4:=hn.2.2.2.2
  rw[h2] at h4 |-
  have h5:=h4 (by omega)
  rw[show(0:Int).toNat=0 from rfl] at h5
  omega
 clear hn
 refine VLoop.nilOwnC 1 0 263 3 rfl rfl ?_
 refine rn trivial ?_
 refine Qi (fun r:RwS n s=>⟨77,0,[(7,.int .i64 r.i),(6,.ptr 1 0),(4,.int .i64 n),(2,.ptr 0 0),(0,.pv (.str s))],[⟨38,true,[.pv (.slc [])]⟩,⟨38,true,[.own 2 3 0 r.i]⟩,⟨263,true,cells Qcc r.l⟩]⟩) (fun r=>n-r.i) ⟨0,[],rfl,Jc _,fun _ _ _=>by rw[JD]⟩ (gc [0,1,2]) ?_
 rintro⟨i,l,hl,hi,hx⟩
 dsimp only at hi |-
 subst hl
 have hb:(l.length+1)*24<=140737488355328:=by omega
 have F:=@hb
 refine rn F ?_
 repeat' (first
  | with_reducible exact⟨⟩
  | (refine sB F ?_ ?_<;>intro hZ)
  | (refine Qo (c8 (2+24*(l.length:Int)) (by omega)) rfl ?_; rintro⟨a1,e1⟩ h1; refine rn F ?_)
  | (refine Qo (c8 (10+24*(l.length:Int)) (by omega)) rfl ?_; rintro⟨a2,e2⟩ h2; refine rn F ?_)
  | (refine Qo (c8 (18+24*(l.length:Int)) (by omega)) rfl ?_; rintro⟨a3,e3⟩ h3; refine rn F ?_))
 ·have hl2:(l ++ [(⟨a1,a2,a3⟩:Rw)]).length = l.length + 1:=by simp
  have hil:l.length<n:=by omega
  have hx2:∀ l0,ixB l0=true->s=Qcr l0->l++[(⟨a1,a2,a3⟩:Rw)]=l0.take (l.length+1):=fun l0 q1 q2=>by
   obtain⟨q3,q4⟩:=hnl l0 q1 q2
   have q5:=hx l0 q1 q2
   have hil2:l.length<l0.length:=by omega
   obtain⟨g1,g2,g3⟩:=QDQ q1 hil2
   have z1:=h1.2.2.2.2 (by omega)
   have z2:=h2.2.2.2.2 (by omega)
   have z3:=h3.2.2.2.2 (by omega)
   dsimp only at z1 z2 z3
   rw[show((2:Int)+24*(l.length:Int)).toNat=2+24*l.length by omega,q2,g1] at z1
   rw[show((10:Int)+24*(l.length:Int)).toNat=10+24*l.length by omega,q2,g2] at z2
   rw[show((18:Int)+24*(l.length:Int)).toNat=18+24*l.length by omega,q2,g3] at z3
   rw[Je hil2,z1,z2,z3,Qd _ _ hil2,<- q5]
  clear h1 h2 h3
  refine⟨⟨l.length+1,l++[⟨a1,a2,a3⟩],hl2,hil,hx2⟩,by dsimp only; omega,?_⟩
  exact(gc [0,1,5])
 have hix:=fun h:ixB l=true=>QtG h
 have c9:=QbF l (by omega)
 generalize ixB l=ok at *
 refine vl hb c9 ?_
 cases ok
 ·skip
  have F:=@hb
  refine rn F ?_
  exact⟨rfl,rfl,([],_),rfl,e0 _ (by decide)⟩
 ·skip
  have F:=@hb
  refine rn F ?_
  exact⟨rfl,rfl,(l,0),rfl,(hix rfl).2,fun _ l0 q1 q2=>by
   have q3:=(hnl l0 q1 q2).1
   have q4:=hx l0 q1 q2
   dsimp only
   rw[q4,Ji (by omega)]⟩
structure DtS(s:List UInt8)(n m:Nat) where
 i:Nat
 a:Int
 l:List Dt
 hl:l.length=i
 hi:i<=m
 ha:a=11+n+17*i
 hx:∀ c,CkV c->s=QaI c->l=c.dl.take i
def QEh(s:List UInt8)(a:Cp×Int):Prop:=smN 64 a.1.tx/\a.1.dl.length<=256/\a.1.ix.length<=64/\(a.2=0->s≠[]/\∀ c,CkV c->s=QaI c->a.1=c)
def QwP(s:List UInt8)(hs:s.length<=3000000):VCalls prog 235 [.pv (.str s)] [] (QG QGk (QEh s)):=by
 refine dk Tryz.func235 ?_
 have c1:=Qd6 s (by omega) 0 2 (by omega) (by omega) (by omega)
 have c2:=Qd6 s (by omega) 2 4 (by omega) (by omega) (by omega)
 have c3:=Qd6 s (by omega) 6 4 (by omega) (by omega) (by omega)
 have c4:=fun a h=>Qd6 s (by omega) a 1 (by omega) (by omega) h
 have c8:=fun a h=>Qd6 s (by omega) a 8 (by omega) (by omega) h
 have err:∀ e,e≠0->QEh s (Cp0,e):=fun e h=>⟨QX _,Jc _,Jc _,fun h2=>absurd h2 h⟩
 (unfold Tryz.f235; refine rn trivial ?_)
 refine Qo c1 rfl ?_
 rintro⟨pg,e1⟩ h1
 refine rn trivial ?_
 refine Qo c2 rfl ?_
 rintro⟨nx,e2⟩ h2
 refine rn trivial ?_
 refine Qo c3 rfl ?_
 rintro⟨n,e3⟩ h3
 have hA:∀ c,CkV c->s=QaI c->pg=c.pg/\nx=c.nx/\n=(QaT c.tx).length:=fun c q1 q2=>by
  obtain⟨⟨g1,g2,g3,g4⟩,_⟩:=Ql8 q1
  rw[<- q2] at g1 g2 g3 g4
  exact⟨(h1.2.2.2.2 (by omega)).trans g2,(h2.2.2.2.2 (by omega)).trans g3,(h3.2.2.2.2 (by omega)).trans g4⟩
 dsimp only at h3
 obtain⟨n,rfl⟩:∃ m:Nat,n=m:=⟨n.toNat,by omega⟩
 have hn:n<4294967296:=by omega
 clear h1 h2 h3
 refine rn F ?_
 repeat' (first
  | with_reducible exact⟨⟩
  | (refine sG F ?_ ?_<;>intro hZ)
  | (refine sB F ?_ ?_<;>intro hZ))
 all_goals first | exact⟨rfl,rfl,(Cp0,5),rfl,err _ (by decide)⟩ | skip
 have hns:n+10<=s.length:=by omega
 refine Qo (c4 (10+(n:Int)) (by omega)) rfl ?_
 rintro⟨m,e4⟩ h4
 have hM:∀ c,CkV c->s=QaI c->m=c.dl.length:=fun c q1 q2=>by
  obtain⟨_,_,q3⟩:=hA c q1 q2
  obtain⟨⟨g0,_⟩,_,g1,_⟩:=Ql8 q1
  rw[<- q2,<- (by omega:n=(QaT c.tx).length)] at g0 g1
  have:=h4.2.2.2.2 (by omega)
  rw[show((10:Int)+(n:Int)).toNat=10+n by omega] at this
  exact this.trans g1
 dsimp only at h4
 obtain⟨m,rfl⟩:∃ k:Nat,m=k:=⟨m.toNat,by omega⟩
 have hm:m<256:=by omega
 clear h4
 refine rn F ?_
 repeat' (first
  | with_reducible exact⟨⟩
  | (refine sG F ?_ ?_<;>intro hZ)
  | (refine sB F ?_ ?_<;>intro hZ))
 all_goals first | exact⟨rfl,rfl,(Cp0,5),rfl,err _ (by decide)⟩ | skip
 have hns2:11+n+17*m<=s.length:=by omega
 refine VLoop.nilOwnC 1 3 171 3 rfl rfl ?_
 refine rn trivial ?_
 have hTX:∀ c,CkV c->s=QaI c->(s.take (10+(n:Int)).toNat).drop 10=QaT c.tx:=fun c q1 q2=>by
  obtain⟨_,_,q3⟩:=hA c q1 q2
  obtain⟨_,g1,_⟩:=Ql8 q1
  rw[<- q2,<- (by omega:n=(QaT c.tx).length)] at g1
  rw[show((10:Int)+(n:Int)).toNat=10+n by omega]
  exact g1
 generalize htx:(s.take (10+(n:Int)).toNat).drop 10=txs at *
 have htl:txs.length<=3000000:=by rw[<- htx,JF,Jk]; omega
 refine Qi (fun r:DtS s n m=>⟨130,0,[(11,.int .i64 r.i),(10,.int .i64 m),(9,.int .i64 r.a),(8,.pv (.str txs)),(4,.ptr 1 0),(2,.ptr 0 0),(0,.pv (.str s))],[⟨193,true,[.int .i64 0,.int .i64 0,.pv (.slc []),.pv (.slc []),.pv (.slc [])]⟩,⟨193,true,[.int .i64 pg,.int .i64 nx,.pv (.slc []),.own 2 3 0 r.i,.pv (.slc [])]⟩,⟨171,true,cells QcM r.l⟩]⟩) (fun r=>m-r.i) ⟨0,10+(n:Int)+1,[],rfl,Jc _,by omega,fun _ _ _=>by rw[JD]⟩ (gc [0,1,2]) ?_
 rintro⟨i,a,l,hl,hi,ha,hx⟩
 dsimp only
 subst hl
 have hb:(l.length+1)*24<=140737488355328:=by omega
 by_cases hil:l.length<m
 ·skip
  have F:=@hb
  refine rn F ?_
  repeat' (first
   | with_reducible exact⟨⟩
   | (refine Qo (c4 a (by omega)) rfl ?_; rintro⟨a1,e1⟩ h1; refine rn F ?_)
   | (refine Qo (c8 (a+1) (by omega)) rfl ?_; rintro⟨a2,e2⟩ h2; refine rn F ?_)
   | (refine Qo (c8 (a+9) (by omega)) rfl ?_; rintro⟨a3,e3⟩ h3; refine rn F ?_))
  have hl2:(l++[(⟨a1,a2,a3⟩:Dt)]).length=l.length+1:=by simp
  have hx2:∀ c,CkV c->s=QaI c->l++[(⟨a1,a2,a3⟩:Dt)]=c.dl.take (l.length+1):=fun c q1 q2=>by
   obtain⟨_,_,q3⟩:=hA c q1 q2
   have q4:=hM c q1 q2
   have q5:=hx c q1 q2
   have hil2:l.length<c.dl.length:=by omega
   obtain⟨⟨g0,_⟩,_,_,_,gr⟩:=Ql8 q1
   obtain⟨g1,g2,g3⟩:=gr _ hil2
   rw[<- q2,<- (by omega:n=(QaT c.tx).length)] at g0 g1 g2 g3
   have z1:=h1.2.2.2.2 (by omega)
   have z2:=h2.2.2.2.2 (by omega)
   have z3:=h3.2.2.2.2 (by omega)
   dsimp only at z1 z2 z3
   rw[show a.toNat=11+n+17*l.length by omega,g1] at z1
   rw[show(a+1).toNat=12+n+17*l.length by omega,g2] at z2
   rw[show(a+9).toNat=20+n+17*l.length by omega,g3] at z3
   rw[Je hil2,z1,z2,z3,Qd _ _ hil2,<- q5]
  clear h1 h2 h3
  refine⟨⟨l.length+1,a+17,l++[⟨a1,a2,a3⟩],hl2,hil,by rw[ha]; omega,hx2⟩,by dsimp only; omega,?_⟩
  exact(gc [0,1,5])
 obtain rfl:m=l.length:=by omega
 have c9:=QpA txs htl
 have hq:smN 64 (Qy8 txs).1:=by
  unfold Qy8
  split
  ·exact QX _
  split
  ·exact QX _
  split
  ·exact QX _
  ·rename_i h; exact Qgb (by simpa using h)
 have hD:∀ c,CkV c->s=QaI c->(Qy8 txs).1=c.tx:=fun c q1 q2=>by rw[hTX c q1 q2,QD6 q1.2.2.1]
 generalize Qy8 txs=D at *
 obtain⟨tx,et⟩:=D
 dsimp only at hq hD
 have hX:∀ c,CkV c->s=QaI c->s.drop a.toNat=Qcr c.ix:=fun c q1 q2=>by
  obtain⟨_,_,q3⟩:=hA c q1 q2
  have q4:=hM c q1 q2
  obtain⟨_,_,_,g1,_⟩:=Ql8 q1
  rw[<- q2,<- (by omega:n=(QaT c.tx).length),<- (by omega:l.length=c.dl.length)] at g1
  rw[show a.toNat=11+n+17*l.length by omega]
  exact g1
 have ha2:0<=a/\a<=s.length:=by omega
 obtain⟨a,rfl⟩:∃ k:Nat,a=k:=⟨a.toNat,by omega⟩
 rw[Jo] at hX
 have hsl:(s.drop a).length<=100000000:=by rw[JF]; omega
 have hal:a<=s.length:=by omega
 have F:=(Ja @hb @hal)
 refine rn F ?_
 repeat' (first
  | with_reducible exact⟨⟩
  | (refine sB F ?_ ?_<;>intro hZ)
  | refine vp F (c9) ?_
  | (refine Qo (QwE _ hsl) rfl ?_; rintro⟨ix,ei⟩ hi2; refine rn F ?_))
 all_goals first | exact⟨rfl,rfl,(Cp0,_),rfl,err _ (by assumption)⟩ | skip
 unfold ixQ at hi2
 dsimp only at hi2
 have c10:=QiK ⟨pg,nx,tx,l,ix⟩ ⟨hq.mono (by decide),by dsimp only; omega,hi2.1⟩
 have F:=@hb
 refine rn F ?_
 repeat' (first
  | with_reducible exact⟨⟩
  | (refine sB F ?_ ?_<;>intro hZ)
  | (refine QvN (c10) ?_ (fun _=>rfl) ?_; (focus (refine rd F)); rintro b -; refine rn F ?_))
 all_goals first
  | exact⟨rfl,rfl,(Cp0,_),rfl,err _ (by decide)⟩
  | skip
 refine⟨rfl,rfl,(⟨pg,nx,tx,l,ix⟩,0),rfl,hq,by dsimp only; omega,hi2.1,fun _=>⟨fun h=>by rw[h] at hns; simp at hns,fun c q1 q2=>?_⟩⟩
 obtain⟨q3,q4,_⟩:=hA c q1 q2
 have q5:=hx c q1 q2
 have q6:=hD c q1 q2
 have q7:=hi2.2 (by assumption) c.ix q1.2.2.2.2.1 (hX c q1 q2)
 have q8:=hM c q1 q2
 rw[Ji (by omega)] at q5
 dsimp only
 rw[q3,q4,q6,q7,q5]
def Qqs{c:Ce}(h:c.no=true):c.data.length<=12:=by
 unfold Ce.no at h
 simp only[Jd,beq_iff_eq] at h
 rw[h.2]; exact Jc _
def Qx8{c:Ce}(h:c.okB=true):c.data.length<=12:=by
 unfold Ce.okB at h
 simp only[Jd,decide_eq_true_eq] at h
 exact h.1
def QeG{e:E}(h:e.okB=true):e.c.b.data.length<=12/\e.c.a.data.length<=12/\e.blob.length<=8192:=by
 unfold E.okB at h
 simp only[Jd] at h
 have h2:=h.2
 clear h
 unfold E.kindB at h2
 have nb:∀ {l:List UInt8},l==[]->l.length<=8192:=fun h=>by rw[beq_iff_eq] at h; rw[h]; exact Jc _
 split at h2
 ·simp only [Jd,Ch.okB] at h2
  exact⟨Qx8 h2.2.1.2,Qx8 h2.2.2,nb h2.1.2⟩
 split at h2
 ·simp only [Jd,Ch.okB] at h2
  exact⟨Qx8 h2.2.1.2,Qx8 h2.2.2,nb h2.1.1.1.2⟩
 split at h2
 ·simp only [Jd,Ch.no] at h2
  exact⟨Qqs h2.2.1.2,Qqs h2.2.2,nb h2.1.2⟩
 split at h2
 ·simp only [Jd,Ch.no,decide_eq_true_eq] at h2
  exact⟨Qqs h2.2.1.2,Qqs h2.2.2,h2.1.2⟩
 split at h2
 ·simp only [Jd,Ch.ix] at h2
  exact⟨Qqs h2.2.1.1.1.2,Qqs h2.2.1.1.2,nb h2.1.2⟩
 ·cases h2
def Qag(s:List UInt8)(c:Ce):List UInt8:=if c.set=true then Qk s c.data.length 1++c.data else Qk s 255 1
def QbI(s:List UInt8)(c:Ce):(Qag s c).length<=s.length+1+c.data.length:=by
 unfold Qag; split
 ·rw[Jb,Qb]; exact Jq _
 ·rw[Qb]; omega
def Qk8(s:List UInt8)(hs:s.length<=100000000)(c:Ce)(hc:c.data.length<=1000000):VCalls prog 226 [.pv (.str s),.agg c.d] [] (Ret (.pv (.str (Qag s c)))):=by
 refine dd Tryz.func226 ?_
 have c1:=QT s (by omega) 255 1 (by omega) (by omega)
 have c2:=QT s (by omega) c.data.length 1 (by omega) (by omega)
 have e:Qag s c=if c.set=true then Qk s c.data.length 1++c.data else Qk s 255 1:=rfl
 have hadd:=QcY (a:=Qk s c.data.length 1) (b:=c.data) (by rw[Qb]; omega)
 generalize Qag s c=r at *
 (unfold Tryz.f226; refine rn trivial ?_)
 have F:=@hadd
 refine rn F ?_
 repeat' (first
  | with_reducible exact⟨⟩
  | (refine sB F ?_ ?_<;>intro hZ)
  | refine vp F (c1) ?_
  | refine vp F (c2) ?_
  | (refine Qc (id:=3) [0,1,2,3,5,6] [⟨[],[],4,[1,2,5,6],[7]⟩,⟨[],[],8,[],[]⟩] (by kernel_rfl) (by kernel_rfl) ?_; refine rn F ?_))
 all_goals first | (first | (rw[e]; simp(disch:=first | assumption | omega | exact rfl | exact nf (by assumption) | exact nt (by assumption) | decide | fail) only[if_pos,if_neg]; first | done | rfl) | (rw[e]; simp(disch:=first | assumption | omega | exact rfl | exact nf (by assumption) | exact nt (by assumption) | decide | (simp_all; done) | fail) only[if_pos,if_neg]; first | done | rfl)) | skip
def QaZ(e:E):List UInt8:=Qk (Qk (Qk (Qk (Qk (Qk (Qk (Qk [] e.lsn 8) e.kind 1) e.tx 4) e.ptx 8) e.ppg 8) e.ref 8) e.c.pg 4) e.c.sl 1
def QdF(e:E):(QaZ e).length=42:=by unfold QaZ; simp only[Qb,JC]
def Ql3(e:E):List UInt8:=Qk (Qag (Qag (QaZ e) e.c.b) e.c.a) e.blob.length 4++e.blob
def Qii(e:E):List UInt8×Int:=if e.okB=true then (Ql3 e,0) else ([],12)
def QAB(e:E):VCalls prog 195 [.agg e.d] [] (Ret (.tup [.pv (.str (Qii e).1),.int .i64 (Qii e).2])):=by
 refine dd Tryz.func195 ?_
 have c1:=Qcy e
 unfold Qii
 cases hv:e.okB
 ·rw [hv] at c1
  (unfold Tryz.f195; refine rn trivial ?_)
  refine rn F ?_
  repeat' (first
   | with_reducible exact⟨⟩
   | refine vp F (c1) ?_)
  all_goals rfl
 rw[hv] at c1
 obtain⟨l1,l2,l3⟩:=QeG hv
 have n1:=QbI (QaZ e) e.c.b
 have n2:=QbI (Qag (QaZ e) e.c.b) e.c.a
 rw[QdF] at n1
 have p9:=Qk8 (QaZ e) (by rw[QdF]; omega) e.c.b (by omega)
 have p10:=Qk8 (Qag (QaZ e) e.c.b) (by omega) e.c.a (by omega)
 have p11:=QT (Qag (Qag (QaZ e) e.c.b) e.c.a) (by omega) e.blob.length 4 (by omega) (by omega)
 have hadd:=QcY (a:=Qk (Qag (Qag (QaZ e) e.c.b) e.c.a) e.blob.length 4) (b:=e.blob) (by rw[Qb]; omega)
 have hh:QaZ e=Qk (Qk (Qk (Qk (Qk (Qk (Qk (Qk [] e.lsn 8) e.kind 1) e.tx 4) e.ptx 8) e.ppg 8) e.ref 8) e.c.pg 4) e.c.sl 1:=rfl
 have q:=fun(s:List UInt8) (hs:s.length<=1000) (n:Int) (k:Nat) (h1:1<=k) (h8:k<=8)=>QT s (by omega) n k h1 h8
 (unfold Tryz.f195; refine rn trivial ?_)
 have F:=@hh.symm
 refine rn F ?_
 repeat' (first
  | with_reducible exact⟨⟩
  | refine vp F (c1) ?_
  | refine vp F (q _ (by simp[Qb]) _ 8 (by omega) (by omega)) ?_
  | refine vp F (q _ (by simp[Qb]) _ 1 (by omega) (by omega)) ?_
  | refine vp F (q _ (by simp[Qb]) _ 4 (by omega) (by omega)) ?_
  | (refine Qc (id:=11) [0,1,2,3,5,6,7] [⟨[],[],4,[1,2,5,6,7],[]⟩,⟨[],[],8,[0,1,2,3,5,6],[]⟩,⟨[],[],9,[],[]⟩] (by kernel_rfl) (by kernel_rfl) ?_; refine rn F ?_))
 have F:=@hadd
 refine rn F ?_
 repeat' (first
  | with_reducible exact⟨⟩
  | refine vp F (p9) ?_
  | refine vp F (p10) ?_
  | refine vp F (p11) ?_
  | (refine Qc (id:=12) [0,1,2,3,5,6] [⟨[],[],4,[1,2,5,6],[7]⟩,⟨[],[],8,[],[]⟩,⟨[],[],9,[],[]⟩] (by kernel_rfl) (by kernel_rfl) ?_; refine rn F ?_))
 all_goals rfl
def Ql2(e:E):(Qii e).1.length<=9000:=by
 unfold Qii
 split
 ·rename_i hv
  obtain⟨l1,l2,l3⟩:=QeG hv
  have n1:=QbI (QaZ e) e.c.b
  have n2:=QbI (Qag (QaZ e) e.c.b) e.c.a
  rw[QdF] at n1
  unfold Ql3
  dsimp only
  rw[Jb,Qb]
  omega
 ·exact Jc _
def Qsx(e:E):VCalls prog 152 [.agg e.d] [] (Ret (.pv (.str (frm (Qii e).1)))):=by
 refine dd Tryz.func152 ?_
 have c1:=QAB e
 have hl:=Ql2 e
 generalize Qii e=r at *
 have c2:=Qoa r.1 (by omega)
 (unfold Tryz.f152; refine rn trivial ?_)
 refine rn F ?_
 repeat' (first
  | with_reducible exact⟨⟩
  | refine vp F (c1) ?_
  | refine vp F (c2) ?_)
 all_goals rfl
def Qc9(n:Int):List UInt8:=frm (Qk [80,77,76,71] n 8)
def QwG(n:Int):VCalls prog 151 [.int .i64 n] [] (Ret (.pv (.str (Qc9 n)))):=by
 refine dd Tryz.func151 ?_
 have c1:=QT [80,77,76,71] (by simp) n 8 (by omega) (by omega)
 have c2:=Qoa (Qk [80,77,76,71] n 8) (by rw[Qb]; simp)
 (unfold Tryz.f151; refine rn trivial ?_)
 refine rn F ?_
 repeat' (first
  | with_reducible exact⟨⟩
  | refine vp F (c1) ?_
  | refine vp F (c2) ?_)
 all_goals rfl
def frE(e:E):List UInt8:=frm (Qii e).1
def Qua(e:E):(frE e).length<=9008:=by
 have:=Ql2 e
 unfold frE frm
 split
 ·rw[Qb,Jb,Qb,JC]; omega
 ·exact Jc _
def QqK(l:List E)(d:Int):List UInt8:=(l.filter fun e=>decide (e.lsn<=d)).flatMap frE
def QsA(l:List E)(d:Int):List UInt8:=(l.filter fun e=>!decide (e.lsn<=d)).flatMap frE
def Qut(l:List E)(d:Int)(i:Nat)(h:i<l.length):QqK (l.take (i+1)) d=if (l.getD i E0).lsn<=d then QqK (l.take i) d++frE (l.getD i E0) else QqK (l.take i) d:=by
 unfold QqK
 rw[Je h,JB,JQ,Qd l i h]
 split<;>rename_i hx<;>simp[hx]
def Qsz(l:List E)(d:Int)(i:Nat)(h:i<l.length):QsA (l.take (i+1)) d=if (l.getD i E0).lsn<=d then QsA (l.take i) d else QsA (l.take i) d++frE (l.getD i E0):=by
 unfold QsA
 rw[Je h,JB,JQ,Qd l i h]
 split<;>rename_i hx<;>simp[hx]
def Qy0 (l:List E):(l.flatMap frE).length<=9008 * l.length:=by
 induction l with
 | nil=>simp
 | cons a r ih =>
   have:=Qua a
   rw[Js,Jb,Jm]; omega
def QoM(l:List E)(d:Int):(QqK l d).length<=9008*l.length:=
 Jh (Qy0 _) (J9 _ (J3 _ _))
def Qoe(l:List E)(d:Int):(QsA l d).length<=9008*l.length:=
 Jh (Qy0 _) (J9 _ (J3 _ _))
def QlP(n:Int):(Qc9 n).length<=9008:=by
 unfold Qc9 frm
 split
 ·rw[Qb,Jb,Qb,Qb,JC]; simp
 ·exact Jc _
def Qdf(x:Lg)(torn:Int):List UInt8:=if lgB x=true then Qc9 x.f++QqK x.es x.d++(QsA x.es x.d).take torn.toNat else []
def Qof(x:Lg)(hx:x.es.length<=9223372036854775807)(torn:Int):VCalls prog 109 [.agg x.c,.int .i64 torn] [] (Ret (.pv (.str (Qdf x torn)))):=by
 refine dd Tryz.func109 ?_
 have c1:=Qas x hx
 have c2:=QwG x.f
 have hh:=QlP x.f
 unfold Qdf
 (unfold Tryz.f109; refine rn trivial ?_)
 cases hv:lgB x
 ·rw [hv] at c1
  refine rn F ?_
  repeat' (first
   | with_reducible exact⟨⟩
   | refine vp F (c1) ?_)
  all_goals rfl
 rw[hv] at c1
 have hd:=Q9 hv
 simp only[Lg.hd] at hd
 refine rn F ?_
 repeat' (first
  | with_reducible exact⟨⟩
  | refine vp F (c1) ?_
  | refine vp F (c2) ?_)
 generalize Qc9 x.f=H at *
 refine Qi (fun s:To x.es.length=>⟨55,0,[(7,.int .i64 s.i),(6,.pv (.str (QsA (x.es.take s.i) x.d))),(5,.pv (.str (H++QqK (x.es.take s.i) x.d))),(2,.ptr 0 0),(1,.int .i64 torn)],[⟨28,true,x.c⟩]⟩) (fun s=>x.es.length-s.i) ⟨0,Jc _⟩ (by simp only[JD]; rw[show QqK [] x.d=[] from rfl,show QsA [] x.d=[] from rfl,Jn]; exact(gc [0])) ?_
 rintro⟨i,hi⟩
 dsimp only
 have hg:=fun h:i<x.es.length=>QeR x.es i h
 have c3:=Qsx (x.es.getD i E0)
 have hf:=Qua (x.es.getD i E0)
 have hs1:=Qut x.es x.d i
 have hs2:=Qsz x.es x.d i
 have l1:=QoM (x.es.take i) x.d
 have l2:=Qoe (x.es.take i) x.d
 rw[Jk] at l1 l2
 have hfr:frm (Qii (x.es.getD i E0)).1=frE (x.es.getD i E0):=rfl
 rw[hfr] at c3
 have a1:=QcY (a:=H++QqK (x.es.take i) x.d) (b:=frE (x.es.getD i E0)) (by rw[Jb]; omega)
 have a2:=QcY (a:=QsA (x.es.take i) x.d) (b:=frE (x.es.getD i E0)) (by omega)
 have hH:(H++QqK (x.es.take i) x.d).length=H.length+(QqK (x.es.take i) x.d).length:=Jb
 have F:=(Ja @hg (Ja @a1 @a2))
 refine rn F ?_
 repeat' (first
  | with_reducible exact⟨⟩
  | (refine sB F ?_ ?_<;>intro hZ)
  | refine vp F (c3) ?_
  | (refine Qc (id:=7) [0,1,2,3,4,5,6,7,8] [] (by kernel_rfl) (by kernel_rfl) ?_; refine rn F ?_))
 ·have d1:=hs1 (by omega)
  have d2:=hs2 (by omega)
  rw[if_pos (by first | assumption | omega)] at d1 d2
  refine⟨⟨i+1,by omega⟩,by dsimp only; omega,?_⟩
  dsimp only
  rw[d1,d2,<- Jf]
  exact(gc [0])
 ·have d1:=hs1 (by omega)
  have d2:=hs2 (by omega)
  rw[if_neg (by first | assumption | omega)] at d1 d2
  refine⟨⟨i+1,by omega⟩,by dsimp only; omega,?_⟩
  dsimp only
  rw[d1,d2]
  exact(gc [0])
 ·rw [Ji (show x.es.length<=i by omega)]
  congr 3
  generalize QsA x.es x.d=R
  by_cases h0:0 > torn
  ·rw [if_pos h0]
   rw[if_neg (by omega),show torn.toNat=(0:Int).toNat by omega]
  ·rw [if_neg h0]
   by_cases h1:(R.length:Int)<torn
   ·rw[if_pos h1,Jo,Kj,Ji (by omega)]
   ·rw[if_neg h1]
@[go_sem] def ltD(a:Cp×Int×Bool):DV:=.tup [.agg a.1.d,.int .i64 a.2.1,.bool a.2.2]
def QDK(h:lgB x=true):∀ i,i<x.es.length->(x.es.getD i E0).blob.length<=8192:=by
 unfold lgB at h
 simp only[Jd,Ju,Jw] at h
 intro i hi
 have:=h.2 i hi
 simp only[lgC,Jd] at this
 exact(QeG this.2).2.2
def cpQ(c:Cp):Prop:=smN 64 c.tx/\c.dl.length<=256/\c.ix.length<=64
def QEG:cpQ Cp0:=⟨QX _,Jc _,Jc _⟩
def QGP(x:Lg)(a:Cp×Int×Bool):Prop:=cpQ a.1/\(a.2.2=true->∃ i,i<x.es.length/\(x.es.getD i E0).kind=6/\a.2.1=(x.es.getD i E0).lsn/\(x.es.getD i E0).blob≠[]/\∀ c,CkV c->(x.es.getD i E0).blob=QaI c->a.1=c)
def Qss(x:Lg)(hx:x.es.length<=1000000):VCalls prog 230 [.agg x.c] [] (QG ltD (QGP x)):=by
 refine dk Tryz.func230 ?_
 have c1:=Qas x (by omega)
 (unfold Tryz.f230; refine rn trivial ?_)
 cases hv:lgB x
 ·rw [hv] at c1
  refine rn F ?_
  repeat' (first
   | with_reducible exact⟨⟩
   | refine vp F (c1) ?_)
  exact⟨rfl,rfl,(Cp0,0,false),rfl,QEG,fun h=>by simp at h⟩
 rw[hv] at c1
 have hs:=QDK hv
 refine rn F ?_
 repeat' (first
  | with_reducible exact⟨⟩
  | refine vp F (c1) ?_)
 refine Qi (fun r:{r:To x.es.length×Int // r.2=(r.1.i:Int)-1}=>⟨47,0,[(5,.int .i64 r.1.2),(2,.ptr 1 0),(1,.ptr 0 0)],[⟨28,true,x.c⟩,⟨193,true,Zc⟩]⟩) (fun r=>r.1.1.i) ⟨(⟨x.es.length,Jq _⟩,(x.es.length:Int)-1),rfl⟩ (gc [0,1]) ?_
 rintro⟨⟨⟨k,hk⟩,j⟩,hj⟩
 dsimp only at hj |-
 unfold Zc
 by_cases h0:k=0
 ·subst h0
  have hj2:¬ j >= 0:=by omega
  have F:=@hj2
  refine rn F ?_
  exact⟨rfl,rfl,(Cp0,0,false),rfl,QEG,fun h=>by simp at h⟩
 obtain⟨i,rfl⟩:∃ i,k=i+1:=⟨k-1,by omega⟩
 obtain rfl:j=(i:Int):=by omega
 have hg:=QeR x.es i (by omega)
 have hb:=hs i (by omega)
 have c2:=QwP (x.es.getD i E0).blob (by omega)
 have F:=@hg
 refine rn F ?_
 repeat' (first
  | with_reducible exact⟨⟩
  | (refine sB F ?_ ?_<;>intro hZ)
  | (refine Qo (c2) rfl ?_; rintro⟨c,e⟩ hc; refine rn F ?_)
  | (refine Qc (id:=9) [0,1,2,3,4,5,6] [⟨[],[],7,[1,2,3,4,5,6],[]⟩,⟨[],[],8,[],[]⟩,⟨[],[],9,[],[]⟩] (by kernel_rfl) (by kernel_rfl) ?_; refine rn F ?_))
 all_goals first
  | exact⟨⟨(⟨i,by omega⟩,(i:Int)-1),rfl⟩,by dsimp only; omega,(gc [0,1])⟩
  | exact⟨rfl,rfl,(c,_,true),rfl,⟨hc.1,hc.2.1,hc.2.2.1⟩,fun _=>⟨i,by omega,by first | assumption | omega,rfl,hc.2.2.2 (by first | assumption | (dsimp only; omega))⟩⟩
  | skip
def DyA(l:List Dt)(e:E)(ch:Bool)(y:Dt):Prop:=(y∈l/\y.pg≠e.c.pg)\/(y.pg=e.c.pg/\ch=true/\y.last=e.lsn)\/(y.pg=e.c.pg/\ch=false/\∃ z∈l,z.pg=e.c.pg/\z.last=y.last/\e.ref<z.last)
structure DyP(l:List Dt)(e:E)(ch:Bool)(i:Nat)(d:Bool)(out:List Dt):Prop where
 ha:∀ y∈out,DyA l e ch y
 hb:∀ y∈l.take i,y.pg≠e.c.pg->y∈out
 hc:d=true->ch=true->∃ y∈out,y.pg=e.c.pg
def DyP.ap(h:DyP l e ch i d out)(hi:i<l.length)(d':Bool)(ys:List Dt)(hA:∀ y∈ys,DyA l e ch y)(hx:(l.getD i Dt0).pg≠e.c.pg->l.getD i Dt0∈ys)(hd:d'=true->ch=true->d=true\/∃ y∈ys,y.pg=e.c.pg):DyP l e ch (i+1) d' (out++ys):=by
 refine⟨fun y hy=>?_,fun y hy hn=>?_,fun a b=>?_⟩
 ·rcases Jp.1 hy with hy | hy
  ·exact h.ha y hy
  ·exact hA y hy
 ·rw [Je hi] at hy
  rcases Jp.1 hy with hy | hy
  ·exact JL _ (h.hb y hy hn)
  ·rw [Jl.1 hy] at hn |-
   rw[Qd _ _ hi] at hx
   exact J4 _ (hx hn)
 ·rcases hd a b with q | ⟨y,q1,q2⟩
  ·obtain ⟨y,q1,q2⟩:=h.hc q b
   exact⟨y,JL _ q1,q2⟩
  ·exact⟨y,J4 _ q1,q2⟩
def DyP.p0(h:DyP l e ch i d out)(hi:i<l.length)(d':Bool)(hx:(l.getD i Dt0).pg=e.c.pg)(hc:ch=false):DyP l e ch (i+1) d' out:=by
 have:=h.ap hi d' [] (fun y hy=>by simp at hy) (fun q=>absurd hx q) (fun _ b=>by rw[hc] at b; cases b)
 rwa [Jn] at this
def DyP.p1{l:List Dt}{e:E}{ch:Bool}{i:Nat}{d:Bool}{out:List Dt}(h:DyP l e ch i d out)(hi:i<l.length)(d':Bool)(y:Dt)(hA:DyA l e ch y)(hx:(l.getD i Dt0).pg≠e.c.pg->l.getD i Dt0=y)(hd:d'=true->ch=true->d=true\/y.pg=e.c.pg):DyP l e ch (i+1) d' (out++[y]):=
 h.ap hi d' [y] (fun z hz=>by rw[Jl.1 hz]; exact hA) (fun q=>by rw[hx q]; simp) fun a b=>(hd a b).imp id fun q=>⟨y,by simp,q⟩
def DyP.p2{l:List Dt}{e:E}{ch:Bool}{i:Nat}{d:Bool}{out:List Dt}(h:DyP l e ch i d out)(hi:i<l.length)(y z:Dt)(hA:DyA l e ch y)(hB:DyA l e ch z)(hx:(l.getD i Dt0).pg≠e.c.pg->l.getD i Dt0=z)(hy:y.pg=e.c.pg):DyP l e ch (i+1) true (out++[y]++[z]):=by
 rw[Jf]
 exact h.ap hi true ([y]++[z]) (fun w hw=>by
  rcases Jp.1 hw with hw | hw<;>rw[Jl.1 hw]<;>assumption) (fun q=>by rw[hx q]; simp) fun _ _=>.inr ⟨y,by simp,hy⟩
def QEE(l:List Dt)(e:E)(m:List Dt):Prop:=(¬ (e.kind=1\/e.kind=2)->e.kind≠7->m=l)/\((e.kind=1\/e.kind=2)\/e.kind=7->DyP l e (e.kind==1||e.kind==2) l.length true m)
structure DyS(l:List Dt)(e:E)(ch:Bool) where
 i:Nat
 d:Bool
 out:List Dt
 hi:i<=l.length
 ho:out.length<=i+d.toNat
 hP:DyP l e ch i d out
@[go_sem] def dtL(l:List Dt):DV:=.pv (.sl (fz QcM l))
def QwM (l:List Dt) (hl:l.length<=1000000) (e:E):VCalls prog 231 [.pv (.sl (fz QcM l)),.agg e.d] [] (QG dtL fun m=>m.length<=l.length + 1/\QEE l e m):=by
 refine dk Tryz.func231 ?_
 have c1:=QbG e
 have hch:(e.kind==1||e.kind==2)=true ↔ e.kind=1\/e.kind=2:=by simp
 unfold QEE
 generalize (e.kind==1||e.kind==2)=ch at *
 cases ch
 ·have hnc:¬ (e.kind = 1\/e.kind = 2):=fun h=>by have:=hch.2 h; cases this
  (unfold Tryz.f231; refine rn trivial ?_)
  refine rn F ?_
  repeat' (first
   | with_reducible exact⟨⟩
   | (refine sB F ?_ ?_<;>intro hZ)
   | refine vp F (c1) ?_)
  all_goals first
   | (refine ⟨rfl,rfl,l,rfl,Ks _,fun _ _=>rfl,fun h=>?_⟩
      rcases h with h | h
      ·exact absurd h hnc
      ·exact absurd h (by assumption))
   | skip
  have h7:e.kind=7:=by assumption
  refine VLoop.nilOwn 5 171 3 rfl ?_
  refine Qi (fun s:DyS l e false=>⟨100,0,[(7,.int .i64 s.i),(6,.bool s.d),(5,.own 1 3 0 s.out.length),(3,.ptr 0 0),(0,.pv (.sl (fz QcM l)))],[⟨57,true,e.d⟩,⟨171,true,cells QcM s.out⟩]⟩) (fun s=>l.length-s.i) ⟨0,false,[],Jc _,Jc _,⟨fun y h=>by simp at h,fun y h=>by simp at h,fun h=>by cases h⟩⟩ (gc [0,1]) ?_
  rintro⟨i,d,out,hi,ho,hP⟩
  dsimp only
  have ho3:out.length<=i+1:=Jh ho (Nat.add_le_add_left (Kb d) i)
  by_cases hil:i<l.length
  rotate_left
  ·have hPl:i = l.length:=by omega
   subst hPl
   have hfin:DyP l e false l.length true out:=⟨hP.ha,hP.hb,fun _ h=>by cases h⟩
   have F:=@hil
   refine rn F ?_
   repeat' (first
    | with_reducible exact⟨⟩
    | (refine sG F ?_ ?_<;>intro hZ)
    | refine vp F (c1) ?_)
   all_goals first
    | exact⟨rfl,rfl,out,rfl,by omega,fun _ h=>absurd h7 h,fun _=>hfin⟩
    | skip
  have hg:=QeQ l i hil
  have hxl:l.getD i Dt0∈l:=by rw[Qd _ _ hil]; exact Jv hil
  have hp0:=fun d' hx=>hP.p0 hil d' hx rfl
  have hp1:=fun d' y hA hx=>hP.p1 hil d' y hA hx fun _ h=>by cases h
  unfold DyA at hp1
  generalize l.getD i Dt0=x at *
  have hb1:(out.length+1)*24<=140737488355328:=Jh (Jz 24 (show out.length+1<=1000002 by omega)) (by decide)
  have hb2:(out.length+1+1)*24<=140737488355328:=Jh (Jz 24 (show out.length+1+1<=1000003 by omega)) (by decide)
  have ho4:∀ d':Bool,d.toNat<=d'.toNat->out.length<=i+1+d'.toNat:=fun d' h=>by omega
  have ho5:∀ d':Bool,d.toNat<=d'.toNat->∀ y:Dt,(out++[y]).length<=i+1+d'.toNat:=fun d' h y=>by rw[Jb,Jr]; omega
  have hdt:d.toNat<=1:=Kb d
  by_cases hs:x.pg=e.c.pg
  ·by_cases hr:e.ref >= x.last
   ·skip
    have F:=(Ja @hil (Ja @hg (Ja @hb1 (Ja @hb2 (Ja @hs @hr)))))
    refine rn F ?_
    repeat' (first
     | with_reducible exact⟨⟩
     | refine vp F (c1) ?_)
    all_goals exact⟨⟨i+1,true,out,by omega,ho4 true hdt,hp0 true hs⟩,by dsimp only; omega,(gc [0,1])⟩
   ·have hlt:e.ref < x.last:=by omega
    have F:=(Ja @hil (Ja @hg (Ja @hb1 (Ja @hb2 (Ja @hs @hr)))))
    refine rn F ?_
    repeat' (first
     | with_reducible exact⟨⟩
     | (refine sB F ?_ ?_<;>intro hZ)
     | refine vp F (c1) ?_)
    all_goals first
     | (refine⟨⟨i+1,true,out++[⟨e.c.pg,IntKind.i64.wrap (e.ref+1),x.last⟩],by omega,ho5 true hdt _,hp1 true _ (.inr (.inr ⟨rfl,rfl,x,hxl,hs,rfl,hlt⟩)) (fun h=>absurd hs h)⟩,by dsimp only; omega,?_⟩; dsimp only; rw[Jb]; exact(gc [0,4]))
     | (refine⟨⟨i+1,true,out++[⟨x.pg,IntKind.i64.wrap (e.ref+1),x.last⟩],by omega,ho5 true hdt _,hp1 true _ (.inr (.inr ⟨hs,rfl,x,hxl,hs,rfl,hlt⟩)) (fun h=>absurd hs h)⟩,by dsimp only; omega,?_⟩; dsimp only; rw[Jb]; exact(gc [0,4]))
     | (refine⟨⟨i+1,true,out++[⟨e.c.pg,x.rc,x.last⟩],by omega,ho5 true hdt _,hp1 true _ (.inr (.inr ⟨rfl,rfl,x,hxl,hs,rfl,hlt⟩)) (fun h=>absurd hs h)⟩,by dsimp only; omega,?_⟩; dsimp only; rw[Jb]; exact(gc [0,4]))
     | (refine⟨⟨i+1,true,out++[⟨x.pg,x.rc,x.last⟩],by omega,ho5 true hdt _,hp1 true _ (.inr (.inr ⟨hs,rfl,x,hxl,hs,rfl,hlt⟩)) (fun h=>absurd hs h)⟩,by dsimp only; omega,?_⟩; dsimp only; rw[Jb]; exact(gc [0,4]))
     | skip
  ·cases d
   ·skip
    have F:=(Ja @hil (Ja @hg (Ja @hb1 (Ja @hb2 @hs))))
    refine rn F ?_
    repeat' (first
     | with_reducible exact⟨⟩
     | (refine sG F ?_ ?_<;>intro hZ)
     | refine vp F (c1) ?_)
    all_goals
     refine⟨⟨i+1,false,out++[⟨x.pg,x.rc,x.last⟩],by omega,ho5 false (Jq _) _,hp1 false _ (.inl ⟨hxl,hs⟩) (fun _=>rfl)⟩,by dsimp only; omega,?_⟩
     dsimp only
     rw[Jb]
     exact(gc [0,4])
   ·skip
    have F:=(Ja @hil (Ja @hg (Ja @hb1 (Ja @hb2 @hs))))
    refine rn F ?_
    repeat' (first
     | with_reducible exact⟨⟩
     | (refine sG F ?_ ?_<;>intro hZ))
    all_goals
     refine⟨⟨i+1,true,out++[⟨x.pg,x.rc,x.last⟩],by omega,ho5 true (Jq _) _,hp1 true _ (.inl ⟨hxl,hs⟩) (fun _=>rfl)⟩,by dsimp only; omega,?_⟩
     dsimp only
     rw[Jb]
     exact(gc [0,4])
 have hc:e.kind=1\/e.kind=2:=hch.1 rfl
 (unfold Tryz.f231; refine rn trivial ?_)
 have F:=trivial
 refine rn F ?_
 repeat' (first
  | with_reducible exact⟨⟩
  | refine vp F (c1) ?_)
 refine VLoop.nilOwn 5 171 3 rfl ?_
 refine Qi (fun s:DyS l e true=>⟨100,0,[(7,.int .i64 s.i),(6,.bool s.d),(5,.own 1 3 0 s.out.length),(3,.ptr 0 0),(0,.pv (.sl (fz QcM l)))],[⟨57,true,e.d⟩,⟨171,true,cells QcM s.out⟩]⟩) (fun s=>l.length-s.i) ⟨0,false,[],Jc _,Jc _,⟨fun y h=>by simp at h,fun y h=>by simp at h,fun h=>by cases h⟩⟩ (gc [0,1]) ?_
 rintro⟨i,d,out,hi,ho,hP⟩
 dsimp only
 have hdt:d.toNat<=1:=Kb d
 have ho3:out.length<=i+1:=by omega
 have hb1:(out.length+1)*24<=140737488355328:=Jh (Jz 24 (show out.length+1<=1000002 by omega)) (by decide)
 have hb2:(out.length+1+1)*24<=140737488355328:=Jh (Jz 24 (show out.length+1+1<=1000003 by omega)) (by decide)
 by_cases hil:i<l.length
 rotate_left
 ·have hPl:i = l.length:=by omega
  subst hPl
  cases d
  ·have hfin:DyP l e true l.length true (out ++ [⟨e.c.pg,e.lsn,e.lsn⟩]):=⟨fun y hy=>by
    rcases Jp.1 hy with hy | hy
    ·exact hP.ha y hy
    ·rw[Jl.1 hy]; exact .inr (.inl ⟨rfl,rfl,rfl⟩),fun y hy hn=>JL _ (hP.hb y hy hn),fun _ _=>⟨⟨e.c.pg,e.lsn,e.lsn⟩,by simp,rfl⟩⟩
   rw[Kk] at ho
   have F:=(Ja @hil @hb1)
   refine rn F ?_
   repeat' (first
    | with_reducible exact⟨⟩
    | refine vp F (c1) ?_)
   exact⟨rfl,rfl,_,rfl,by rw[Jb,Jr]; omega,fun h=>absurd hc h,fun _=>hfin⟩
  ·skip
   have F:=(Ja @hil @hb1)
   refine rn F ?_
   exact⟨rfl,rfl,out,rfl,by omega,fun h=>absurd hc h,fun _=>hP⟩
 have hg:=QeQ l i hil
 have hxl:l.getD i Dt0∈l:=by rw[Qd _ _ hil]; exact Jv hil
 have hp1:=fun d' y hA hx hd=>hP.p1 hil d' y hA hx hd
 have hp2:=fun y z hA hB hx hy=>hP.p2 hil y z hA hB hx hy
 unfold DyA at hp1 hp2
 generalize l.getD i Dt0=x at *
 by_cases hs:x.pg=e.c.pg
 ·have hng:¬ x.pg > e.c.pg:=by omega
  have F:=(Ja @hil (Ja @hg (Ja @hb1 (Ja @hb2 (Ja @hs @hng)))))
  refine rn F ?_
  repeat' (first
   | with_reducible exact⟨⟩
   | refine vp F (c1) ?_)
  all_goals first
   | (refine⟨⟨i+1,true,out++[⟨e.c.pg,x.rc,e.lsn⟩],by omega,by simp; omega,hp1 true _ (.inr (.inl ⟨rfl,rfl,rfl⟩)) (fun h=>absurd hs h) (fun _ _=>.inr rfl)⟩,by dsimp only; omega,?_⟩; dsimp only; rw[Jb]; exact(gc [0,4]))
   | (refine⟨⟨i+1,true,out++[⟨x.pg,x.rc,e.lsn⟩],by omega,by simp; omega,hp1 true _ (.inr (.inl ⟨hs,rfl,rfl⟩)) (fun h=>absurd hs h) (fun _ _=>.inr hs)⟩,by dsimp only; omega,?_⟩; dsimp only; rw[Jb]; exact(gc [0,4]))
   | (exfalso; omega)
   | skip
 ·cases d
  ·by_cases hgt:x.pg > e.c.pg
   ·rw [Kk] at ho
    have F:=(Ja @hil (Ja @hg (Ja @hb1 (Ja @hb2 (Ja @hs @hgt)))))
    refine rn F ?_
    repeat' (first
     | with_reducible exact⟨⟩
     | refine vp F (c1) ?_)
    refine⟨⟨i+1,true,out++[⟨e.c.pg,e.lsn,e.lsn⟩]++[⟨x.pg,x.rc,x.last⟩],by omega,by simp; omega,hp2 _ _ (.inr (.inl ⟨rfl,rfl,rfl⟩)) (.inl ⟨hxl,hs⟩) (fun _=>rfl) rfl⟩,by dsimp only; omega,?_⟩
    dsimp only; rw[Jb,Jb]; exact(gc [0,6])
   ·skip
    have F:=(Ja @hil (Ja @hg (Ja @hb1 (Ja @hb2 (Ja @hs @hgt)))))
    refine rn F ?_
    refine⟨⟨i+1,false,out++[⟨x.pg,x.rc,x.last⟩],by omega,by rw[Jb,Jr]; omega,hp1 false _ (.inl ⟨hxl,hs⟩) (fun _=>rfl) (fun h=>by cases h)⟩,by dsimp only; omega,?_⟩
    dsimp only; rw[Jb]; exact(gc [0,4])
  ·skip
   have F:=(Ja @hil (Ja @hg (Ja @hb1 (Ja @hb2 @hs))))
   refine rn F ?_
   repeat' (first
    | with_reducible exact⟨⟩
    | (refine sG F ?_ ?_<;>intro hZ))
   all_goals
    refine⟨⟨i+1,true,out++[⟨x.pg,x.rc,x.last⟩],by omega,by rw[Jb,Jr]; omega,hp1 true _ (.inl ⟨hxl,hs⟩) (fun _=>rfl) (fun _ _=>.inl rfl)⟩,by dsimp only; omega,?_⟩
    dsimp only
    rw[Jb]
    exact(gc [0,4])
def Qsr(a b:Gr):VCalls prog 236 [.agg a.d,.agg b.d] [] (QG boD fun _=>True):=by
 refine dd Tryz.func236 ?_
 (unfold Tryz.f236; refine rn trivial ?_)
 refine rn F ?_
 repeat' (first
  | with_reducible exact⟨⟩
  | (refine sB F ?_ ?_<;>intro hZ))
 all_goals exact⟨rfl,rfl,_,rfl,trivial⟩
@[go_sem] def grL(l:List Gr):DV:=.pv (.sl (fz Qaq l))
def Qr3(l:List Gr)(hl:l.length<=10000000)(g:Gr):VCalls prog 232 [.pv (.sl (fz Qaq l)),.agg g.d] [] (QG grL fun m=>m.length<=l.length+1):=by
 refine dk Tryz.func232 ?_
 have c1:=fun a=>Qsr a g
 (unfold Tryz.f232; refine rn trivial ?_)
 refine Qi (fun s:To l.length=>⟨44,0,[(5,.int .i64 s.i),(3,.ptr 0 0),(0,.pv (.sl (fz Qaq l)))],[⟨205,true,g.d⟩]⟩) (fun s=>l.length-s.i) ⟨0,Jc _⟩ (gc [0]) ?_
 rintro⟨i,hi⟩
 dsimp only
 have hg:=fun h:i<l.length=>QaC l i h
 by_cases hil:i<l.length
 ·have hg:=QaC l i hil
  have c2:=Qsr (l.getD i Gr0) g
  generalize l.getD i Gr0=x at *
  have he:=Qu9 x.tx x.pg x.sl x.md g.tx g.pg g.sl g.md
  have hb:(i+1+(l.length-i))*32<=140737488355328:=by omega
  have F:=(Ja @hg (Ja @he @hb))
  refine rn F ?_
  repeat' (first
   | with_reducible exact⟨⟩
   | (refine sB F ?_ ?_<;>intro hZ)
   | (refine Qo (c2) rfl ?_; rintro b -; refine rn F ?_)
   | (refine Qc (id:=2) [0,1,2,3,4,5,6,7,8,9] [⟨[],[],10,[0,1,2,3,5,6,7],[11]⟩] (by kernel_rfl) (by kernel_rfl) ?_; refine rn F ?_)
   | (refine Qc (id:=4) [0,1,2,3,4,5,6,7,8,9,10,11] [] (by kernel_rfl) (by kernel_rfl) ?_; refine rn F ?_)
   | (refine Qc (id:=6) [0,1,2,4,7,8,9] [⟨[5],[],3,[0,1,4,7,8,9],[]⟩,⟨[5],[5],6,[0,1,2,4,7,8,9],[]⟩,⟨[],[],10,[0,1,2,4,7,8],[]⟩,⟨[],[],11,[],[]⟩] (by kernel_rfl) (by kernel_rfl) ?_; refine rn F ?_))
  all_goals first
   | exact⟨⟨i+1,by omega⟩,by dsimp only; omega,(gc [0])⟩
   | exact⟨rfl,rfl,l,rfl,Ks _⟩
   | exact⟨rfl,rfl,_,rfl,by simp; omega⟩
   | skip
 ·skip
  have F:=trivial
  refine rn F ?_
  repeat' (first
   | with_reducible exact⟨⟩
   | (refine Qc (id:=2) [0,1,2,3,4,5,6,7,8,9] [⟨[],[],10,[0,1,2,3,5,6,7],[11]⟩] (by kernel_rfl) (by kernel_rfl) ?_; refine rn F ?_)
   | (refine Qc (id:=4) [0,1,2,3,4,5,6,7,8,9,10,11] [] (by kernel_rfl) (by kernel_rfl) ?_; refine rn F ?_)
   | (refine Qc (id:=6) [0,1,2,4,7,8,9] [⟨[5],[],3,[0,1,4,7,8,9],[]⟩,⟨[5],[5],6,[0,1,2,4,7,8,9],[]⟩,⟨[],[],10,[0,1,2,4,7,8],[]⟩,⟨[],[],11,[],[]⟩] (by kernel_rfl) (by kernel_rfl) ?_; refine rn F ?_))
  exact⟨rfl,rfl,_,rfl,by simp; omega⟩
@[go_sem] def lkR(a:List Gr×Int):DV:=.tup [.pv (.sl (fz Qaq a.1)),.int .i64 a.2]
structure LkO(n:Nat) where
 i:Nat
 out:List Gr
 hi:i<=n
 ho:out.length<=100000*i
structure LkI(n i:Nat) where
 k:Nat
 out:List Gr
 hk:k<=n
 ho:out.length<=100000*i+k
def Qwx(x:Lg)(hx:x.es.length<=1000000)(l:List Tx)(hl:smN 65 l):VCalls prog 201 [.agg x.c,.pv (.sl (fz Qaf l))] [] (QG lkR fun a=>a.1.length<=6500000):=by
 refine dk Tryz.func201 ?_
 have h65:=hl.1
 (unfold Tryz.f201; refine rn trivial ?_)
 refine VLoop.wkS ?_
 refine rn trivial ?_
 refine Qi (fun s:LkO l.length=>⟨68,0,[(7,.int .i64 s.i),(6,.pv (.sl (fz Qaq s.out))),(2,.ptr 0 0),(1,.pv (.sl (fz Qaf l)))],[⟨28,true,x.c⟩]⟩) (fun s=>l.length-s.i) ⟨0,[],Jc _,Jc _⟩ (gc [0]) ?_
 rintro⟨i,out,hi,ho⟩
 dsimp only
 by_cases hil:i<l.length
 rotate_left
 ·skip
  refine rn F ?_
  exact⟨rfl,rfl,(out,0),rfl,by dsimp only; omega⟩
 have hg:=Qea l i hil
 have hss:(l.getD i Tx0).l.length<=100000:=by rw[Qd _ _ hil]; exact(hl.2 _ (Jv hil)).1
 generalize l.getD i Tx0=t at *
 refine rn F ?_
 refine Qi (fun s:LkI t.l.length i=>⟨68,0,[(8,.int .i64 s.k),(7,.int .i64 i),(6,.pv (.sl (fz Qaq s.out))),(2,.ptr 0 0),(1,.pv (.sl (fz Qaf l)))],[⟨28,true,x.c⟩]⟩) (fun s=>t.l.length-s.k) ⟨0,out,Jc _,ho⟩ (gc [0]) ?_
 rintro⟨k,out2,hk,ho2⟩
 dsimp only
 by_cases hkl:k<t.l.length
 rotate_left
 ·skip
  have F:=@hg
  refine rn F ?_
  exact⟨⟨i+1,out2,hil,by rw[Nat.mul_succ]; omega⟩,by dsimp only; omega,(gc [0])⟩
 have hg2:=QY t.l k hkl
 have c1:=QiH x (by omega) (t.l.getD k 0)
 generalize Qbr x (t.l.getD k 0)=r at *
 obtain⟨e,f⟩:=r
 dsimp only at c1
 have c2:=Qr3 out2 (by omega) ⟨e.tx,e.c.pg,e.c.sl,2⟩
 have F:=(Ja @hg @hg2)
 refine rn F ?_
 repeat' (first
  | with_reducible exact⟨⟩
  | (refine sG F ?_ ?_<;>intro hZ)
  | (refine sB F ?_ ?_<;>intro hZ)
  | refine vp F (c1) ?_
  | (refine Qo (c2) rfl ?_; rintro m hm; refine rn F ?_)
  | (refine Qc (id:=8) [0,1,2,3,4,5,6,7,8] [⟨[13],[],9,[1,2,3,4,5,6,7],[10,11,12]⟩,⟨[13],[13],14,[12],[]⟩,⟨[],[],15,[],[]⟩] (by kernel_rfl) (by kernel_rfl) ?_; refine rn F ?_)
  | (refine Qc (id:=11) [0,1,2,3,4,5,6,7,8,9,10,11,12] [] (by kernel_rfl) (by kernel_rfl) ?_; refine rn F ?_))
 all_goals first
  | exact⟨rfl,rfl,([],_),rfl,Jc _⟩
  | exact⟨⟨k+1,m,hkl,by omega⟩,by dsimp only; omega,(gc [0])⟩
  | skip
structure An where
 pg:Int
 nx:Int
 cp:Int
 lo:List Tx
 lk:List Gr
 la:List Dt
 ix:List Rw
@[go_sem] def An.d(a:An):List DV:=[.int .i64 a.pg,.int .i64 a.nx,.int .i64 a.cp,.pv (.sl (fz Qaf a.lo)),.pv (.sl (fz Qaq a.lk)),.pv (.sl (fz QcM a.la)),.pv (.sl (fz Qcc a.ix))]
def An0:An:=⟨0,0,0,[],[],[],[]⟩
def An.sm(a:An)(n:Nat):Prop:=smN 65 a.lo/\a.lk.length<=6500000/\a.la.length<=n/\a.ix.length<=64
def Qvi(n:Nat):An0.sm n:=⟨QX _,Jc _,Jc _,Jc _⟩
@[go_sem] def anD(a:An×Int):DV:=.tup [.agg a.1.d,.int .i64 a.2]
def Qc2(h:(QU l e).2=0):Qbw l=true/\e.okB=true:=by
 unfold QU at h
 split at h
 ·simp at h
 rename_i q1
 split at h
 ·simp at h
 rename_i q2
 exact⟨by simpa using q1,by simpa using q2⟩
def Qti{e:E}(h:e.okB=true):0<=e.tx/\e.tx<=1073741824:=by
 unfold E.okB at h
 rw[Jd] at h
 have h2:=h.2
 unfold E.kindB txB at h2
 split at h2
 ·simp only[Jd,decide_eq_true_eq] at h2; omega
 split at h2
 ·simp only[Jd,decide_eq_true_eq] at h2; omega
 split at h2
 ·simp only[Jd,decide_eq_true_eq] at h2; omega
 split at h2
 ·simp only[Jd,beq_iff_eq] at h2; omega
 split at h2
 ·simp only[Jd,beq_iff_eq] at h2; omega
 ·cases h2
def QyN(h:(QU l e).2=0)(n:Int):(if IntKind.i64.wrap (e.tx+1) > n then IntKind.i64.wrap (e.tx+1) else n)=max n (e.tx+1):=by
 have:=Qti (Qc2 h).2
 have hw:IntKind.i64.wrap (e.tx+1)=e.tx+1:=by rw[IntKind.wrap_i64]; omega
 rw[hw]
 split<;>omega
def NoteR(a:An)(e:E)(b:An):Prop:=b.pg=a.pg/\b.cp=a.cp/\b.nx=max a.nx (e.tx+1) /\
 ((¬ (0<e.tx/\idT a.lo e.tx<0)/\(QU a.lo e).2=0/\b.lo=(QU a.lo e).1)\/((0<e.tx/\idT a.lo e.tx<0)/\(Qab a.lo e.tx).2=0/\(QU (Qab a.lo e.tx).1 e).2=0/\b.lo=(QU (Qab a.lo e.tx).1 e).1)) /\
 (Qbq a.ix e).2=0/\b.ix=(Qbq a.ix e).1/\((e.kind=1\/e.kind=2)->e.c.pg<a.pg)/\QEE a.la e b.la
def QDC{a:An}{e:E}(q1:¬ (0<e.tx/\idT a.lo e.tx<0))(q2:(QU a.lo e).2=0)(q3:(Qbq a.ix e).2=0)(q4:(e.kind=1\/e.kind=2)->e.c.pg<a.pg)(la:List Dt)(q5:QEE a.la e la)(x:Int)(q6:x=if IntKind.i64.wrap (e.tx+1) > a.nx then IntKind.i64.wrap (e.tx+1) else a.nx):NoteR a e ⟨a.pg,x,a.cp,(QU a.lo e).1,a.lk,la,(Qbq a.ix e).1⟩:=
 ⟨rfl,rfl,q6.trans (QyN q2 _),.inl ⟨q1,q2,rfl⟩,q3,rfl,q4,q5⟩
def QDB{a:An}{e:E}(q1:0<e.tx/\idT a.lo e.tx<0)(q0:(Qab a.lo e.tx).2=0)(q2:(QU (Qab a.lo e.tx).1 e).2=0)(q3:(Qbq a.ix e).2=0)(q4:(e.kind=1\/e.kind=2)->e.c.pg<a.pg)(la:List Dt)(q5:QEE a.la e la)(x:Int)(q6:x=if IntKind.i64.wrap (e.tx+1) > a.nx then IntKind.i64.wrap (e.tx+1) else a.nx):NoteR a e ⟨a.pg,x,a.cp,(QU (Qab a.lo e.tx).1 e).1,a.lk,la,(Qbq a.ix e).1⟩:=
 ⟨rfl,rfl,q6.trans (QyN q2 _),.inr ⟨q1,q0,q2,rfl⟩,q3,rfl,q4,q5⟩
def QDD(a:An)(n:Nat)(e:E)(r:An×Int):Prop:=r.1.sm (n+1)/\(r.2=0->NoteR a e r.1)
def Qsn(a:An)(n:Nat)(hn:n<=100000)(ha:a.sm n)(e:E):VCalls prog 200 [.agg a.d,.agg e.d] [] (QG anD (QDD a n e)):=by
 refine dk Tryz.func200 ?_
 obtain⟨h1,h2,h3,h4⟩:=ha
 have hl:=h1.1
 have c1:=Qb3 a.lo (by omega) e.tx
 have c2:=Qoh a.lo (h1.smL (by omega)) e.tx
 have c3:=QmX a.lo (h1.smL (by omega)) e
 have hs2:=Qmc (l:=a.lo) e.tx
 have hs3:=QjU (l:=a.lo) e
 have c4:=QmX (Qab a.lo e.tx).1 (hs2.smL (by omega)) e
 have hs4:=QjU (l:=(Qab a.lo e.tx).1) e
 have c5:=Qk6 a.ix (by omega) e
 have h5:=Qlv a.ix e h4
 have c6:=QbG e
 have c7:=QwM a.la (by omega) e
 have k1:=@QDC a e
 have k2:=@QDB a e
 have hch:(e.kind==1||e.kind==2)=true ↔ e.kind=1\/e.kind=2:=by simp
 generalize QU (Qab a.lo e.tx).1 e=N2 at *
 generalize Qab a.lo e.tx=B at *
 generalize QU a.lo e=N1 at *
 generalize Qbq a.ix e=R at *
 generalize (e.kind==1||e.kind==2)=ch at *
 generalize idT a.lo e.tx=f at *
 obtain⟨b,eb⟩:=B
 obtain⟨n1,e1⟩:=N1
 obtain⟨n2,e2⟩:=N2
 obtain⟨r,er⟩:=R
 dsimp only at *
 have old:∀ z,z≠0->QG anD (QDD a n e) (anD (a,z)) []:=fun z hz=>⟨rfl,rfl,(a,z),rfl,⟨h1,h2,by dsimp only; omega,h4⟩,fun h=>absurd h hz⟩
 (unfold Tryz.f200; refine rn trivial ?_)
 refine rn F ?_
 repeat' (first
  | with_reducible exact⟨⟩
  | (refine sG F ?_ ?_<;>intro hZ)
  | (refine sB F ?_ ?_<;>intro hZ)
  | refine vp F (c1) ?_
  | refine vp F (c2) ?_
  | refine vp F (c3) ?_
  | refine vp F (c4) ?_
  | refine vp F (c5) ?_
  | refine vp F (c6) ?_
  | (refine Qo (c7) rfl ?_; rintro la hla; refine rn F ?_))
 all_goals first
  | exact old _ (by first | assumption | decide)
  | exact⟨rfl,rfl,(⟨a.pg,_,a.cp,b,a.lk,a.la,a.ix⟩,_),rfl,⟨hs2,h2,by dsimp only; omega,h4⟩,fun h=>absurd h (by first | assumption | (dsimp only; assumption) | (dsimp only; decide))⟩
  | exact⟨rfl,rfl,(⟨a.pg,_,a.cp,n1,a.lk,a.la,a.ix⟩,_),rfl,⟨hs3,h2,by dsimp only; omega,h4⟩,fun h=>absurd h (by first | assumption | (dsimp only; assumption) | (dsimp only; decide))⟩
  | exact⟨rfl,rfl,(⟨a.pg,_,a.cp,n1,a.lk,a.la,r⟩,_),rfl,⟨hs3,h2,by dsimp only; omega,h5⟩,fun h=>absurd h (by first | assumption | (dsimp only; assumption) | (dsimp only; decide))⟩
  | exact⟨rfl,rfl,(⟨a.pg,_,a.cp,n2,a.lk,a.la,a.ix⟩,_),rfl,⟨hs4,h2,by dsimp only; omega,h4⟩,fun h=>absurd h (by first | assumption | (dsimp only; assumption) | (dsimp only; decide))⟩
  | exact⟨rfl,rfl,(⟨a.pg,_,a.cp,n2,a.lk,a.la,r⟩,_),rfl,⟨hs4,h2,by dsimp only; omega,h5⟩,fun h=>absurd h (by first | assumption | (dsimp only; assumption) | (dsimp only; decide))⟩
  | skip
 all_goals
  have h4c:(e.kind=1\/e.kind=2)->e.c.pg<a.pg:=fun h=>by
   have hc1:=hch.2 h
   first
    | assumption
    | (exfalso; simp_all; done)
  first
   | exact⟨rfl,rfl,(⟨a.pg,_,a.cp,n1,a.lk,la,r⟩,_),rfl,⟨hs3,h2,Jh hla.1 (JZ h3),h5⟩,fun _=>k1 (by omega) (by omega) (by omega) h4c la hla.2 _ rfl⟩
   | exact⟨rfl,rfl,(⟨a.pg,_,a.cp,n2,a.lk,la,r⟩,_),rfl,⟨hs4,h2,Jh hla.1 (JZ h3),h5⟩,fun _=>k2 (by omega) (by omega) (by omega) (by omega) h4c la hla.2 _ rfl⟩
def QGp(x:Lg)(n:Int)(a:An):Prop:=a.pg=n/\((x.f<=1/\a.nx=1/\a.cp=0/\a.lo=[]/\a.la=[]/\a.ix=JJ n.toNat Rw0) \/
 ∃ i,i<x.es.length/\(x.es.getD i E0).kind=6/\a.cp=(x.es.getD i E0).lsn/\(x.es.getD i E0).blob≠[]/\∀ c,CkV c->(x.es.getD i E0).blob=QaI c->c.pg=n/\a.nx=c.nx/\a.lo=c.tx/\a.la=c.dl/\a.ix=c.ix)
def QG1(x:Lg)(n:Int)(r:An×Int):Prop:=r.1.sm 256/\(r.2=0->QGp x n r.1)
def QpH (x:Lg) (hx:x.es.length<=1000000) (n:Int) (hn:1<=n/\n<=64):VCalls prog 199 [.agg x.c,.int .i64 n] [] (QG anD (QG1 x n)):=by
 refine dk Tryz.func199 ?_
 have c1:=Qss x hx
 have c2:=Qn9 n
 (unfold Tryz.f199; refine rn trivial ?_)
 refine rn F ?_
 repeat' (first
  | with_reducible exact⟨⟩
  | (refine sB F ?_ ?_<;>intro hZ)
  | (refine Qo (c1) rfl ?_; rintro⟨c,at_,ok⟩ hc; refine rn F ?_)
  | (refine Qo (c2) rfl ?_; rintro⟨ix,e⟩ hi; refine rn F ?_))
 all_goals first
  | exact⟨rfl,rfl,(An0,24),rfl,Qvi _,fun h=>by simp at h⟩
  | exact⟨rfl,rfl,(⟨n,1,0,[],[],[],ix⟩,0),rfl,⟨QX _,Jc _,Jc _,hi.1⟩,fun _=>⟨rfl,.inl ⟨by omega,rfl,rfl,rfl,rfl,hi.2.1 (hi.2.2 hn.1 hn.2)⟩⟩⟩
  | (have hl:=hc.2 (by first | assumption | (dsimp only; assumption))
     have hq:=hc.1
     dsimp only at hl hq
     obtain⟨i,l1,l2,l3,l5,l4⟩:=hl
     exact⟨rfl,rfl,(⟨n,c.nx,at_,c.tx,[],c.dl,c.ix⟩,0),rfl,⟨hq.1.mono (by decide),Jc _,hq.2.1,hq.2.2⟩,fun _=>⟨rfl,.inr ⟨i,l1,l2,l3,l5,fun c0 q1 q2=>by
      have:=l4 c0 q1 q2
      subst this
      exact⟨by first | assumption | omega,rfl,rfl,rfl,rfl⟩⟩⟩⟩)
  | skip
section
attribute [local go_sem] QA9 QCC QC3 QC2 Qt3 Qf8 QhH Qc8 Qcn QaE Qal
inductive AnC (x:Lg) (n:Int):Nat->An->Prop
 | init {a:An}:QGp x n a->AnC x n 0 a
 | skip {i:Nat} {a:An}:AnC x n i a->i<x.es.length->(x.es.getD i E0).lsn<=a.cp->AnC x n (i+1) a
 | note {i:Nat} {a b:An}:AnC x n i a->i<x.es.length->¬ (x.es.getD i E0).lsn<=a.cp->NoteR a (x.es.getD i E0) b->AnC x n (i+1) b
def loF(a:An)(lk:List Gr):An:=⟨a.pg,a.nx,a.cp,a.lo.filter fun t=>decide (0<t.n),lk,a.la,a.ix⟩
def QFX(x:Lg)(n:Int)(r:An×Int):Prop:=r.1.sm 10000/\(r.2=0->lgB x=true/\(1<=n/\n<=64)/\∃ a lk,AnC x n x.es.length a/\r.1=loF a lk)
structure AnS(x:Lg)(n:Int) where
 i:Nat
 a:An
 hi:i<=x.es.length
 ha:a.sm (256+i)
 hc:AnC x n i a
def flT(l:List Tx)(i:Nat):List Tx:=(l.take i).filter fun t=>decide (0<t.n)
def QxL(l:List Tx)(i:Nat)(h:i<l.length):flT l (i+1)=if 0<(l.getD i Tx0).n then flT l i++[l.getD i Tx0] else flT l i:=by
 unfold flT
 rw[Je h,JB,Qd l i h]
 split<;>rename_i hx<;>simp[hx]
structure LoS(l:List Tx) where
 i:Nat
 out:List Tx
 hi:i<=l.length
 ho:out.length<=i
 hs:∀ t∈out,t.ss
 he:out=flT l i
def Za:List DV:=[.int .i64 0,.int .i64 0,.int .i64 0,.pv (.slc []),.pv (.slc []),.pv (.slc []),.pv (.slc [])]
def Qmg(x:Lg)(hx:x.es.length<=4096)(n:Int)(hv:lgB x=true)(hn:1<=n/\n<=64)(a:An)(ha:a.sm 10000)(hc:AnC x n x.es.length a)(out:List Tx)(ho:smN 65 out)(he:out=a.lo.filter fun t=>decide (0<t.n)):VWp prog (Qh5 8 (QhH Tryz.f154)) (QfD prog [ResultVar.cell 4 252,ResultVar.tmp 5] 0 (QG anD (QFX x n))) ⟨98,0,[(9,.pv (.sl (fz Qaf out))),(6,.ptr 2 0),(4,.ptr 1 0),(2,.ptr 0 0)],[⟨28,true,x.c⟩,⟨252,true,Za⟩,⟨252,true,a.d⟩]⟩:=by
 refine Qv _ _ _ ?_
 have c4:=Qwx x (by omega) out ho
 unfold Za
 (unfold Tryz.f154; refine rn trivial ?_)
 refine rn F ?_
 repeat' (first
  | with_reducible exact⟨⟩
  | (refine sB F ?_ ?_<;>intro hZ)
  | (refine Qo (c4) rfl ?_; rintro⟨lk,e⟩ hlk; refine rn F ?_))
 ·exact⟨rfl,rfl,(An0,_),rfl,Qvi _,fun h=>absurd h (by first | assumption | (dsimp only; assumption))⟩
 ·exact⟨rfl,rfl,(⟨a.pg,a.nx,a.cp,out,lk,a.la,a.ix⟩,0),rfl,⟨ho,hlk,ha.2.2.1,ha.2.2.2⟩,fun _=>⟨hv,hn,a,lk,hc,by unfold loF; rw[he]⟩⟩
def QpI(x:Lg)(hx:x.es.length<=4096)(n:Int):VCalls prog 154 [.agg x.c,.int .i64 n] [] (QG anD (QFX x n)):=by
 refine QcW (fn:=Tryz.f154) (c:=QhH Tryz.f154) Tryz.func154 rfl (by kernel_rfl) (by simp[Tryz.f154]) (VWp.postK ?_)
 refine QFf 8 ?_
 have tail:=fun hv hn a ha hc out ho he=>Qmg x hx n hv hn a ha hc out ho he
 generalize Qh5 8 (QhH Tryz.f154)=rest at *
 have c1:=Qas x (by omega)
 have c2:=fun hn=>QpH x (by omega) n hn
 have err:∀ z,z≠0->QG anD (QFX x n) (anD (An0,z)) []:=fun z hz=>⟨rfl,rfl,(An0,z),rfl,Qvi _,fun h=>absurd h hz⟩
 (unfold Tryz.f154; refine rn trivial ?_)
 cases hv:lgB x
 ·rw [hv] at c1
  refine rn F ?_
  repeat' (first
   | with_reducible exact⟨⟩
   | refine vp F (c1) ?_)
  exact err _ (by decide)
 rw[hv] at c1
 by_cases hn:1<=n/\n<=64
 rotate_left
 ·skip
  refine rn F ?_
  repeat' (first
   | with_reducible exact⟨⟩
   | (refine sG F ?_ ?_<;>intro hZ)
   | refine vp F (c1) ?_)
  all_goals first | exact err _ (by decide) | (exfalso; omega)
 refine rn F ?_
 repeat' (first
  | with_reducible exact⟨⟩
  | (refine sB F ?_ ?_<;>intro hZ)
  | refine vp F (c1) ?_
  | (refine Qo (c2 hn) rfl ?_; rintro⟨a0,e0⟩ h0; refine rn F ?_))
 all_goals first | exact err _ (by first | assumption | decide) | (exfalso; omega) | skip
 have h0b:=h0.2 (by first | assumption | (dsimp only; omega))
 replace h0:=h0.1
 dsimp only at h0 h0b
 refine Qi (fun s:AnS x n=>⟨98,0,[(8,.int .i64 s.i),(6,.ptr 2 0),(4,.ptr 1 0),(2,.ptr 0 0)],[⟨28,true,x.c⟩,⟨252,true,Za⟩,⟨252,true,s.a.d⟩]⟩) (fun s=>x.es.length-s.i) ⟨0,a0,Jc _,h0,.init h0b⟩ (gc [0,1,2]) ?_
 rintro⟨i,a,hi,ha,hc⟩
 dsimp only
 unfold Za
 by_cases hil:i<x.es.length
 ·have hg:=QeR x.es i hil
  have c3:=Qsn a (256+i) (by omega) ha (x.es.getD i E0)
  have hk1:=fun h=>AnC.skip hc hil h
  have hk2:=fun h b hb=>AnC.note (b:=b) hc hil h hb
  generalize x.es.getD i E0=e at *
  have F:=@hg
  refine rn F ?_
  repeat' (first
   | with_reducible exact⟨⟩
   | (refine sB F ?_ ?_<;>intro hZ)
   | (refine Qo (c3) rfl ?_; rintro⟨a1,e1⟩ h1; refine rn F ?_)
   | (refine Qc (id:=11) [0,1,2,3,4,5,6,7,8] [] (by kernel_rfl) (by kernel_rfl) ?_; refine rn F ?_)
   | (refine Qc (id:=12) [0,1,2,3,4,5] [⟨[],[],6,[1,2,3,4],[7,8,9]⟩,⟨[],[],10,[9],[]⟩,⟨[],[],11,[],[]⟩] (by kernel_rfl) (by kernel_rfl) ?_; refine rn F ?_))
  all_goals first
   | exact err _ (by first | assumption | decide)
   | exact⟨⟨i+1,a,hil,⟨ha.1,ha.2.1,Jg ha.2.2.1,ha.2.2.2⟩,hk1 (by omega)⟩,by dsimp only; omega,(gc [0,1,2])⟩
   | exact⟨⟨i+1,a1,hil,h1.1,hk2 (by omega) a1 (h1.2 (by first | assumption | (dsimp only; omega)))⟩,by dsimp only; omega,(gc [0,1,2])⟩
   | skip
 have F:=trivial
 refine rn F ?_
 refine VLoop.nilOwn 9 201 6 rfl ?_
 have hlo:=ha.1.1
 refine Qi (fun s:LoS a.lo=>⟨98,0,[(10,.int .i64 s.i),(9,.own 3 6 0 s.out.length),(6,.ptr 2 0),(4,.ptr 1 0),(2,.ptr 0 0)],[⟨28,true,x.c⟩,⟨252,true,Za⟩,⟨252,true,a.d⟩,⟨201,true,cells Qaf s.out⟩]⟩) (fun s=>a.lo.length-s.i) ⟨0,[],Jc _,Jc _,fun t h=>by simp at h,rfl⟩ (gc [0,1,2,3]) ?_
 rintro⟨k,out,hk,ho,hs,he⟩
 dsimp only
 unfold Za
 by_cases hkl:k<a.lo.length
 ·have hg:=Qea a.lo k hkl
  have hss:(a.lo.getD k Tx0).ss:=by rw[Qd _ _ hkl]; exact ha.1.2 _ (Jv hkl)
  have hb:(out.length+1)*80<=140737488355328:=Jh (Jz 80 (show out.length+1<=1000 by omega)) (by decide)
  have hsu:=QxL a.lo k hkl
  rw[<- he] at hsu
  generalize a.lo.getD k Tx0=t at *
  have F:=(Ja @hg @hb)
  refine rn F ?_
  repeat' (first
   | with_reducible exact⟨⟩
   | (refine sB F ?_ ?_<;>intro hZ))
  ·have hl2:(out ++ [t]).length = out.length + 1:=by simp
   rw[if_pos (by omega)] at hsu
   refine⟨⟨k+1,out++[t],hkl,by rw[hl2]; omega,fun z hz=>?_,hsu.symm⟩,by dsimp only; omega,?_⟩
   ·rcases Jp.1 hz with h | h
    ·exact hs z h
    ·rw[Jl.1 h]; exact hss
   dsimp only
   rw[hl2]
   exact(gc [0,1,2,5])
  ·rw [if_neg (by omega)] at hsu
   exact⟨⟨k+1,out,hkl,by omega,hs,hsu.symm⟩,by dsimp only; omega,(gc [0,1,2,3])⟩
 have hsm:smN 65 out:=⟨by omega,hs⟩
 have F:=trivial
 refine rn F ?_
 refine⟨⟨98,0,[(9,.pv (.sl (fz Qaf out))),(6,.ptr 2 0),(4,.ptr 1 0),(2,.ptr 0 0)],[⟨28,true,x.c⟩,⟨252,true,Za⟩,⟨252,true,a.d⟩]⟩,.fzN (n:=3) ⟨rfl,rfl,Jc _,by simp,?_,?_⟩,tail hv hn a (by have:=ha; exact⟨this.1,this.2.1,Jh this.2.2.1 (by omega),this.2.2.2⟩) (by rw[show x.es.length=i by omega]; exact hc) out hsm (by rw[he]; unfold flT; rw[Ji (by omega)])⟩
 ·rfl
 ·refine ⟨?_,rfl,rfl,rfl,trivial⟩
  (refine rn trivial ?_; try with_reducible exact⟨⟩)
end
section
attribute [local go_sem] Qba
structure Rd where
 tx:Int
 pg:Int
 sl:Int
 at_:Int
 cell:Ce
def Qmo:Enc Rd:=⟨6,fun r=>[.lit (.int .i64 r.tx),.lit (.int .i64 r.pg),.lit (.int .i64 r.sl),.lit (.int .i64 r.at_),.lit (.bool r.cell.set),.str r.cell.data],by decide,fun _=>rfl⟩
def QGg(l:List Rd):(cells Qmo l).length=l.length*6:=QV Qmo l
def QG8(l:List Rd)(n:Nat)(h:l.length*6<=n):(cells Qmo l).take n=cells Qmo l:=by rw[Ji]; rw[QGg]; exact h
def QGV(h:l.length=len):QoH n hp 0 6 len (some (cells Qmo l))=some (.sl (fz Qmo l)):=QZ Qmo h
def QFV(l:List Rd)(a b c d:Int)(x:Bool)(s:List UInt8):cells Qmo l++[.pv (.lit (.int .i64 a)),.pv (.lit (.int .i64 b)),.pv (.lit (.int .i64 c)),.pv (.lit (.int .i64 d)),.pv (.lit (.bool x)),.pv (.str s)]=cells Qmo (l++[⟨a,b,c,d,⟨x,s⟩⟩]):=by rw[QM]; rfl
attribute [go_sem] QGg QG8 QGV QFV
structure Sp where
 kind:Int
 tx:Int
 pg:Int
 torn:Int
 cut:Int
 a:Ac
@[go_sem] def Sp.d(t:Sp):List DV:=[.int .i64 t.kind,.int .i64 t.tx,.int .i64 t.pg,.int .i64 t.torn,.int .i64 t.cut,.int .i64 t.a.kind,.int .i64 t.a.pg,.int .i64 t.a.sl,.pv (.str t.a.data)]
structure Sc where
 s:Sv
 tx:List Int
 rd:List Rd
 dead:Bool
def Sc.sm(c:Sc)(n:Nat):Prop:=c.s.sm/\c.tx.length<=n/\c.rd.length<=n
@[go_sem] def scB(c:Sc)(i j:Nat):Blk:=⟨116,true,c.s.d++[.own i 1 0 c.tx.length,.own j 6 0 c.rd.length,.bool c.dead]⟩
@[go_sem] def scT(l:List Int):Blk:=⟨3,true,cells QW l⟩
@[go_sem] def scR(l:List Rd):Blk:=⟨156,true,cells Qmo l⟩
@[go_sem] def Quz:Blk:=⟨3,false,[]⟩
@[go_sem] def Qqd:Blk:=⟨156,false,[]⟩
def ScEnd{α:Type}(f:α->DV)(Q:Nat->Sc->α->Prop):DV->Qa->Prop:=fun r h'=>∃ c a B,r=f a/\(f a).nums (fun _=>false)=true/\((Q 0 c a/\h'=scB c 1 2::scT c.tx::scR c.rd::[B])\/(Q 1 c a/\h'=scB c 3 2::Quz::scR c.rd::scT c.tx::[B])\/(Q 2 c a/\h'=scB c 1 3::scT c.tx::Qqd::scR c.rd::[B]))
def ScEnd.mono(h:∀ n c a,Q n c a->Q' n c a):∀ r h',ScEnd f Q r h'->ScEnd f Q' r h'
 | _,_,⟨c,a,B,e1,e2,.inl ⟨q,e⟩⟩=>⟨c,a,B,e1,e2,.inl ⟨h _ _ _ q,e⟩⟩
 | _,_,⟨c,a,B,e1,e2,.inr (.inl ⟨q,e⟩)⟩=>⟨c,a,B,e1,e2,.inr (.inl ⟨h _ _ _ q,e⟩)⟩
 | _,_,⟨c,a,B,e1,e2,.inr (.inr ⟨q,e⟩)⟩=>⟨c,a,B,e1,e2,.inr (.inr ⟨h _ _ _ q,e⟩)⟩
def QkI(k0 k1 k2:Nat)(cc:VCalls P g args0 [scB c 1 2,scT c.tx,scR c.rd] (ScEnd f Q))(hk0:hp[k0]?=some (scB c k1 k2))(hk1:hp[k1]?=some (scT c.tx))(hk2:hp[k2]?=some (scR c.rd))(n01:k0≠k1)(n02:k0≠k2)(n12:k1≠k2)(ha0:args0=args.map (DV.ren fun j=>[k0,k1,k2].idxOf j))(ha:DV.nums.go [k0,k1,k2].contains args=true)(hN:∀ c a,Q 0 c a->∀ B,K (f a) (((hp.set k0 (scB c k1 k2)).set k1 (scT c.tx)).set k2 (scR c.rd)++[B]))(hT:∀ c a,Q 1 c a->∀ B,K (f a) (((hp.set k0 (scB c hp.length k2)).set k1 Quz).set k2 (scR c.rd)++scT c.tx::[B]))(hR:∀ c a,Q 2 c a->∀ B,K (f a) (((hp.set k0 (scB c k1 hp.length)).set k1 (scT c.tx)).set k2 Qqd++scR c.rd::[B])):VCalls P g args hp K:=by
 have l0:k0<hp.length:=(JE.1 hk0).1
 have l1:k1<hp.length:=(JE.1 hk1).1
 have l2:k2<hp.length:=(JE.1 hk2).1
 have q1:(k0==k1)=false:=by simp[n01]
 have q2:(k0==k2)=false:=by simp[n02]
 have q3:(k1==k2)=false:=by simp[n12]
 have rt:∀ (σ:Nat->Nat) l,QdN σ (scT l)=scT l:=fun σ l=>QaN (Qs _ _ _)
 have rr:∀ (σ:Nat->Nat) l,QdN σ (scR l)=scR l:=fun σ l=>QaN (Qs _ _ _)
 have rs:∀ (σ:Nat->Nat) (c:Sc) i j,QdN σ (scB c i j)=scB c (σ i) (σ j):=fun σ c i j=>rfl
 have i0:[k0,k1,k2].idxOf k0=0:=by simp
 have i1:[k0,k1,k2].idxOf k1=1:=by simp[Kl,q1]
 have i2:[k0,k1,k2].idxOf k2=2:=by simp[Kl,q2,q3]
 refine(VCalls.frame [k0,k1,k2] (by simp[n01,n02,n12]) ?_ ?_ cc ha0 ha).mono ?_
 ·simp only[Qtx,JM,List.map_nil,hk0,hk1,hk2,Option.map_some,Qh,rt,rr,rs,i1,i2]
 ·unfold Qox
  rw[Ju]
  intro k hk
  simp only[List.mem_cons,List.not_mem_nil,or_false] at hk
  rcases hk with rfl | rfl | rfl
  ·rw [hk0]
   simp[scB,Sv.d,DV.nums,DV.nums.go]
  ·rw [hk1]
   dsimp only
   rw[show(scT c.tx).cells=cells QW c.tx from rfl,QS _ _ (Qs _ _ _)]; simp
  ·rw [hk2]
   dsimp only
   rw[show(scR c.rd).cells=cells Qmo c.rd from rfl,QS _ _ (Qs _ _ _)]; simp
 ·rintro r h2 ⟨r0,h',⟨c1,a,B,rfl,hn,e⟩,-,rfl,rfl⟩
  rw[QfF _ _ hn]
  have b1:back [k0,k1,k2] hp.length 1=k1:=rfl
  have b2:back [k0,k1,k2] hp.length 2=k2:=rfl
  have b3:back [k0,k1,k2] hp.length 3=hp.length:=rfl
  have rI:∀ (σ:Nat->Nat),QdN σ Quz=Quz:=fun σ=>rfl
  have rO:∀ (σ:Nat->Nat),QdN σ Qqd=Qqd:=fun σ=>rfl
  rcases e with⟨q,rfl⟩ | ⟨q,rfl⟩ | ⟨q,rfl⟩<;>rw[Qmb l0 l1 l2 n01 n02 n12]
  ·rw[rs,rt,rr,b1,b2]; exact hN c1 a q _
  ·rw[rs,rI,rr,b2,b3,JM,rt]; exact hT c1 a q _
  ·rw[rs,rt,rO,b1,b3,JM,rr]; exact hR c1 a q _
def Qf2(e:Int):Rs:=if e=0 then ⟨1,0,0,Ce0,0⟩ else QaA e
def Qev(e:Int):VCalls prog 70 [.int .i64 e] [] (Ret (.agg (Qf2 e).d)):=by
 refine dd Tryz.func70 ?_
 have c1:=Qae e
 (unfold Tryz.f70; refine rn trivial ?_)
 unfold Qf2
 refine rn F ?_
 repeat' (first
  | with_reducible exact⟨⟩
  | (refine sB F ?_ ?_<;>intro hZ)
  | refine vp F (c1) ?_)
 all_goals first
  | (rw[if_pos (by assumption)]; first | done | rfl)
  | (rw[if_neg (by assumption)]; first | done | rfl)
@[go_sem] def rsD(r:Rs):DV:=.agg r.d
def QgZ(c:Sc)(s:Sv)(e:Int):VCalls prog 66 [.ptr 0 0,.agg s.d,.int .i64 e] [scB c 1 2,scT c.tx,scR c.rd] (ScEnd rsD fun n c' r=>n=0/\c'=⟨if e=0 then s else c.s,c.tx,c.rd,c.dead⟩/\r=Qf2 e):=by
 refine QK (fn:=Tryz.f66) Tryz.func66 rfl (by kernel_rfl) (by simp[Tryz.f66]) ?_
 have c1:=Qev e
 (unfold Tryz.f66; refine rn trivial ?_)
 refine rn F ?_
 repeat' (first
  | with_reducible exact⟨⟩
  | (refine sB F ?_ ?_<;>intro hZ)
  | refine vp F (c1) ?_)
 ·exact QA ⟨15,3,[(6,.ptr 3 0)],[scB ⟨s,c.tx,c.rd,c.dead⟩ 1 2,scT c.tx,scR c.rd,⟨118,true,(Qf2 e).d⟩]⟩ (gc [0,1,2,4]) ⟨⟨s,c.tx,c.rd,c.dead⟩,Qf2 e,_,rfl,rfl,.inl ⟨⟨rfl,by rw[if_pos (by assumption)],rfl⟩,rfl⟩⟩
 ·exact QA ⟨15,3,[(6,.ptr 3 0)],[scB c 1 2,scT c.tx,scR c.rd,⟨118,true,(Qf2 e).d⟩]⟩ (gc [0,1,2,4]) ⟨c,Qf2 e,_,rfl,rfl,.inl ⟨⟨rfl,by rw[if_neg (by assumption)],rfl⟩,rfl⟩⟩
end
section
attribute [local go_sem] Qba
def scQ(c:Sc)(n m:Nat)(c':Sc)(_:Rs):Prop:=m≠1/\c'.sm n/\c'.dead=c.dead/\Str 1 c.s.k c'.s.k
def Qwb(c:Sc)(n:Nat)(hc:c.sm n)(r:Rs):scQ c (n+1) 0 c r:=⟨by decide,⟨hc.1,Jg hc.2.1,Jg hc.2.2⟩,rfl,Str.refl _⟩
def QDs (c:Sc) (n:Nat) (hn:n<=2000) (hc:c.sm n) (t:Sp):VCalls prog 67 [.ptr 0 0,.agg t.d] [scB c 1 2,scT c.tx,scR c.rd] (ScEnd rsD (scQ c (n + 1))):=by
 refine QK (fn:=Tryz.f67) Tryz.func67 rfl (by kernel_rfl) (by simp[Tryz.f67]) ?_
 have c1:=Qae 16
 have hq0:=Qwb c n hc
 have h1:=hc.2.1
 have h2:=hc.2.2
 by_cases h0:∃ i:Nat,i<c.tx.length/\t.tx=i+1
 rotate_left
 ·have h3:t.tx < 1\/c.tx.length < t.tx:=by
   by_cases ha:t.tx<1
   ·exact .inl ha
   ·by_cases hb:c.tx.length < t.tx
    ·exact .inr hb
    ·exact absurd ⟨(t.tx-1).toNat,by omega,by omega⟩ h0
  (unfold Tryz.f67; refine rn trivial ?_)
  refine rn F ?_
  repeat' (first
   | with_reducible exact⟨⟩
   | (refine sG F ?_ ?_<;>intro hZ)
   | refine vp F (c1) ?_
   | (refine Qc (id:=1) [0,1,2,3,4,5,6,7,8,9,10,11,12,13,14,15,16,17,18,19,20,21,22,23,24] [] (by kernel_rfl) (by kernel_rfl) ?_; refine rn F ?_))
  all_goals first
   | (exfalso; omega)
   | exact QA ⟨95,3,[(4,.ptr 3 0)],[scB c 1 2,scT (Sc.tx c),scR (Sc.rd c),⟨118,true,Rs.d (QaA 16)⟩]⟩ (gc [0,1,2,4]) ⟨c,QaA 16,_,rfl,rfl,.inl ⟨hq0 _,rfl⟩⟩
   | skip
 obtain⟨i,hi,ht⟩:=h0
 have hg:=Qfv c.tx i hi
 have d1:=QDh c.s hc.1 (c.tx.getD i 0) t.a
 have e1:(↑i+1-1:Int)=↑i:=by omega
 have hlt:(i<c.tx.length)=True:=eq_true hi
 (unfold Tryz.f67; refine rn trivial ?_)
 simp only[ht]
 have F:=(Ja @hg (Ja @e1 @hlt))
 refine rn F ?_
 repeat' (first
  | with_reducible exact⟨⟩
  | (refine sG F ?_ ?_<;>intro hZ)
  | (refine sB F ?_ ?_<;>intro hZ)
  | refine vp F (c1) ?_
  | (refine Qo (d1) rfl ?_; rintro⟨s2,r2⟩ hq; refine rn F ?_)
  | refine vp F (Qgf s2.k.lg (Jh hq.1.1.1 (by decide))) ?_
  | (refine Qc (id:=1) [0,1,2,3,4,5,6,7,8,9,10,11,12,13,14,15,16,17,18,19,20,21,22,23,24] [] (by kernel_rfl) (by kernel_rfl) ?_; refine rn F ?_)
  | (refine Qc (id:=3) [0,1,2,3,4,5,6,7,8] [⟨[],[],9,[],[]⟩] (by kernel_rfl) (by kernel_rfl) ?_; refine rn F ?_)
  | (refine Qc (id:=4) [0,1,2,3,4,5,6] [⟨[11,12],[],7,[0,1,2,5],[8,9,10]⟩,⟨[11,12],[11],13,[10],[]⟩,⟨[12],[12],14,[],[]⟩] (by kernel_rfl) (by kernel_rfl) ?_; refine rn F ?_)
  | (refine Qc (id:=9) [0,1,2,3,4,5,6,7,8,9,10,11,12,13,14,16,17] [⟨[],[],15,[0,1,2,3,4,5,6,7,8,9,10,11,12,13,16,17],[18]⟩,⟨[19],[19],20,[0,1,2,3,5,6,7,8,9,10,11,12,13,14,16,17,18],[21,22]⟩,⟨[],[],23,[21],[]⟩] (by kernel_rfl) (by kernel_rfl) ?_; refine rn F ?_))
 all_goals first
  | exact QA ⟨95,3,[(4,.ptr 3 0)],[scB c 1 2,scT (Sc.tx c),scR (Sc.rd c),⟨118,true,Rs.d (QaA 16)⟩]⟩ (gc [0,1,2,4]) ⟨c,QaA 16,_,rfl,rfl,.inl ⟨hq0 _,rfl⟩⟩
  | exact QA ⟨95,3,[(4,.ptr 3 0)],[scB c 1 2,scT (Sc.tx c),scR (Sc.rd c),⟨118,true,Rs.d (r2)⟩]⟩ (gc [0,1,2,4]) ⟨c,r2,_,rfl,rfl,.inl ⟨hq0 _,rfl⟩⟩
  | exact QA ⟨95,3,[(4,.ptr 3 0)],[scB ⟨s2,c.tx,c.rd,c.dead⟩ 1 2,scT (Sc.tx ⟨s2,c.tx,c.rd,c.dead⟩),scR (Sc.rd ⟨s2,c.tx,c.rd,c.dead⟩),⟨118,true,Rs.d (r2)⟩]⟩ (gc [0,1,2,4]) ⟨⟨s2,c.tx,c.rd,c.dead⟩,r2,_,rfl,rfl,.inl ⟨⟨by decide,⟨hq.1,by dsimp only; omega,by dsimp only; omega⟩,rfl,hq.2.2 (by dsimp only; omega)⟩,rfl⟩⟩
  | skip
 have hl:(c.rd++[(⟨c.tx.getD i 0,t.a.pg,t.a.sl,Qhk s2.k.lg,r2.cell⟩:Rd)]).length=c.rd.length+1:=by simp
 generalize hr:c.rd++[(⟨c.tx.getD i 0,t.a.pg,t.a.sl,Qhk s2.k.lg,r2.cell⟩:Rd)]=rd at *
 rw[<- hl]
 exact QA ⟨95,3,[(4,.ptr 4 0)],[scB ⟨s2,c.tx,rd,c.dead⟩ 1 3,scT c.tx,Qqd,scR rd,⟨118,true,r2.d⟩]⟩ (gc [0,1,2,8,4]) ⟨⟨s2,c.tx,rd,c.dead⟩,r2,_,rfl,rfl,.inr (.inr ⟨⟨by decide,⟨hq.1,by dsimp only; omega,by dsimp only; omega⟩,rfl,hq.2.2 (by dsimp only; omega)⟩,rfl⟩)⟩
end
section
attribute [local go_sem] Qba
def scI(I:Nat->Kn->Prop)(c:Sc)(n _:Nat)(c':Sc)(_:Rs):Prop:=c'.sm n/\∀ m,I m c.s.k->I (m+1) c'.s.k
abbrev QqN(I:Nat->Kn->Prop):Prop:=∀ n m k k',Str m k k'->I n k->I (n+m) k'
def Qn1(I:Nat->Kn->Prop)(hI:QqN I)(c:Sc)(n:Nat)(hc:c.sm n)(r:Rs):scI I c (n+1) 0 c r:=⟨⟨hc.1,Jg hc.2.1,Jg hc.2.2⟩,fun m=>hI m 1 _ _ (Str.refl _)⟩
abbrev QhN(I:Nat->Kn->Prop)(c:Sc)(n:Nat)(t:Sp):Prop:=VCalls prog 46 [.ptr 0 0,.agg t.d] [scB c 1 2,scT c.tx,scR c.rd] (ScEnd rsD (scI I c (n+1)))
def Qp3(k:Kn)(h:(Q4 k.lg n).2=0):Str 1 k ⟨k.pg,k.nx,(Q4 k.lg n).1,k.pl,k.lk,k.tx,k.ix,k.la⟩:=by
 have qf:=Stp.force (k:=k) (Q4 k.lg n).1.d fun hv=>by
  have:=(QlW h).ok hv
  rw[QeS h] at this
  exact this
 rw[<- QeS h] at qf
 exact(Str.one qf).mono (by omega)
def QtE(I:Nat->Kn->Prop)(hI:QqN I){s s2:Sv}{e:Int}(hs:s.sm)(hq:s2.sm/\(e=0->Str 1 s.k s2.k)):(if e=0 then s2 else s).sm/\(∀ m,I m s.k->I (m+1) (if e=0 then s2 else s).k):=by
 split
 ·rename_i h; exact⟨hq.1,fun m=>hI m 1 _ _ (hq.2 h)⟩
 ·exact⟨hs,fun m=>hI m 1 _ _ (Str.refl _)⟩
def Qwl(I:Nat->Kn->Prop)(hI:QqN I)(c:Sc)(n:Nat)(hn:n<=2000)(hc:c.sm n)(t:Sp)(ht:t.kind=3):QhN I c n t:=by
 refine QK (fn:=Tryz.f46) Tryz.func46 rfl (by kernel_rfl) (by simp[Tryz.f46]) ?_
 obtain⟨k,tx,pg,torn,cut,a⟩:=t
 dsimp only at ht
 subst ht
 have c1:=Qsd c.s hc.1 pg
 (unfold Tryz.f46; refine rn trivial ?_)
 refine rn F ?_
 repeat' (first
  | with_reducible exact⟨⟩
  | (refine Qo (c1) rfl ?_; rintro⟨s2,e2⟩ hq; refine rn F ?_)
  | (refine Qa5 (id:=12) [[],[],[1],[1,2],[1,2,3],[],[5],[1,2,3,4,5,6],[1,2,3,4,5,6,7],[1,2,3,4,5,6,7],[0,1,2,3,4,5,6,7,8,9],[0,1,2,3,4,5,6,7,8,9,10]] [0,1,2,3,4,5,6] [⟨[],[],7,[0],[8,9]⟩,⟨[],[],10,[],[]⟩,⟨[],[],11,[],[]⟩] (by kernel_rfl) (by kernel_rfl) (by kernel_rfl) ?_; refine rn F ?_))
 refine QkI (c:=c) 0 1 2 (QgZ c s2 e2) rfl rfl rfl (by decide) (by decide) (by decide) rfl rfl ?_ (fun _ _ h=>absurd h.1 (by decide)) (fun _ _ h=>absurd h.1 (by decide))
 rintro _ _ ⟨-,rfl,rfl⟩ B
 obtain⟨k1,k2⟩:=QtE I hI hc.1 ⟨hq.1,fun h=>(hq.2 h).mono (by omega)⟩
 generalize (if e2=0 then s2 else c.s)=s' at *
 refine rn trivial ?_
 exact QA ⟨132,3,[(4,.ptr 3 0)],[scB ⟨s',c.tx,c.rd,c.dead⟩ 1 2,scT (Sc.tx ⟨s',c.tx,c.rd,c.dead⟩),scR (Sc.rd ⟨s',c.tx,c.rd,c.dead⟩),⟨118,true,Rs.d (Qf2 e2)⟩]⟩ (gc [0,1,2,4]) ⟨⟨s',c.tx,c.rd,c.dead⟩,Qf2 e2,_,rfl,rfl,.inl ⟨⟨⟨k1,Jg hc.2.1,Jg hc.2.2⟩,k2⟩,rfl⟩⟩
def Qwk(I:Nat->Kn->Prop)(hI:QqN I)(c:Sc)(n:Nat)(hn:n<=2000)(hc:c.sm n)(t:Sp)(ht:t.kind=4):QhN I c n t:=by
 refine QK (fn:=Tryz.f46) Tryz.func46 rfl (by kernel_rfl) (by simp[Tryz.f46]) ?_
 obtain⟨k,tx,pg,torn,cut,a⟩:=t
 dsimp only at ht
 subst ht
 have c1:=Qsg c.s hc.1
 (unfold Tryz.f46; refine rn trivial ?_)
 refine rn F ?_
 repeat' (first
  | with_reducible exact⟨⟩
  | (refine Qo (c1) rfl ?_; rintro⟨s2,n2,e2⟩ hq; refine rn F ?_))
 refine QkI (c:=c) 0 1 2 (QgZ c s2 e2) rfl rfl rfl (by decide) (by decide) (by decide) rfl rfl ?_ (fun _ _ h=>absurd h.1 (by decide)) (fun _ _ h=>absurd h.1 (by decide))
 rintro _ _ ⟨-,rfl,rfl⟩ B
 obtain⟨k1,k2⟩:=QtE I hI hc.1 hq
 generalize (if e2=0 then s2 else c.s)=s' at *
 refine rn trivial ?_
 exact QA ⟨132,3,[(4,.ptr 3 0)],[scB ⟨s',c.tx,c.rd,c.dead⟩ 1 2,scT (Sc.tx ⟨s',c.tx,c.rd,c.dead⟩),scR (Sc.rd ⟨s',c.tx,c.rd,c.dead⟩),⟨118,true,Rs.d (Qf2 e2)⟩]⟩ (gc [0,1,2,4]) ⟨⟨s',c.tx,c.rd,c.dead⟩,Qf2 e2,_,rfl,rfl,.inl ⟨⟨⟨k1,Jg hc.2.1,Jg hc.2.2⟩,k2⟩,rfl⟩⟩
def Qwh(I:Nat->Kn->Prop)(hI:QqN I)(c:Sc)(n:Nat)(hn:n<=2000)(hc:c.sm n)(t:Sp)(ht:t.kind=7):QhN I c n t:=by
 refine QK (fn:=Tryz.f46) Tryz.func46 rfl (by kernel_rfl) (by simp[Tryz.f46]) ?_
 obtain⟨k,tx,pg,torn,cut,a⟩:=t
 dsimp only at ht
 subst ht
 have c1:=QAc c.s hc.1
 (unfold Tryz.f46; refine rn trivial ?_)
 refine rn F ?_
 repeat' (first
  | with_reducible exact⟨⟩
  | (refine Qo (c1) rfl ?_; rintro⟨s2,n2,e2⟩ hq; refine rn F ?_))
 refine QkI (c:=c) 0 1 2 (QgZ c s2 e2) rfl rfl rfl (by decide) (by decide) (by decide) rfl rfl ?_ (fun _ _ h=>absurd h.1 (by decide)) (fun _ _ h=>absurd h.1 (by decide))
 rintro _ _ ⟨-,rfl,rfl⟩ B
 obtain⟨k1,k2⟩:=QtE I hI hc.1 ⟨hq.1,fun h=>(hq.2 h).mono (by omega)⟩
 generalize (if e2=0 then s2 else c.s)=s' at *
 refine rn trivial ?_
 exact QA ⟨132,3,[(4,.ptr 3 0)],[scB ⟨s',c.tx,c.rd,c.dead⟩ 1 2,scT (Sc.tx ⟨s',c.tx,c.rd,c.dead⟩),scR (Sc.rd ⟨s',c.tx,c.rd,c.dead⟩),⟨118,true,Rs.d (Qf2 e2)⟩]⟩ (gc [0,1,2,4]) ⟨⟨s',c.tx,c.rd,c.dead⟩,Qf2 e2,_,rfl,rfl,.inl ⟨⟨⟨k1,Jg hc.2.1,Jg hc.2.2⟩,k2⟩,rfl⟩⟩
def Qwj(I:Nat->Kn->Prop)(hI:QqN I)(c:Sc)(n:Nat)(hn:n<=2000)(hc:c.sm n)(t:Sp)(ht:t.kind=5):QhN I c n t:=by
 refine QK (fn:=Tryz.f46) Tryz.func46 rfl (by kernel_rfl) (by simp[Tryz.f46]) ?_
 obtain⟨k,tx,pg,torn,cut,a⟩:=t
 dsimp only at ht
 subst ht
 have c1:=Qgf c.s.k.lg (Jh hc.1.1.1 (by decide))
 have c2:=QjF c.s.k.lg (Jh hc.1.1.1 (by decide)) (Qhk c.s.k.lg)
 have c3:=fun e=>Qev e
 (unfold Tryz.f46; refine rn trivial ?_)
 refine rn F ?_
 repeat' (first
  | with_reducible exact⟨⟩
  | (refine sB F ?_ ?_<;>intro hZ)
  | refine vp F (c1) ?_
  | refine vp F (c2) ?_
  | refine vp F (c3 _) ?_
  | (refine Qa5 (id:=17) [[],[0],[0,1],[0,1,2],[0,1,2,3],[0,1,2,3,4],[],[6],[6,7],[6,7,8],[6,7,8,9],[6,7,8,9,10],[6,7,8,9,10,11],[0,1,2,3,4,5,6,7,8,9,10,11,12],[0,1,2,3,4,5,6,7,8,9,10,11,12,13],[0,1,2,3,4,5,6,7,8,9,10,11,12,13,14],[0,1,2,3,4,5,6,7,8,9,10,11,12,13,14],[],[0,1,2,3,4,5,6,7,8,9,10,11,12,13,14,15,17],[0,1,2,3,4,5,6,7,8,9,10,11,12,13,14,15,16,17,18]] [0,1,2,3,4,5,6,7,8,9,10,11] [⟨[17],[],12,[0,1,2,3,4,5],[]⟩,⟨[17],[],13,[],[14,15,16]⟩,⟨[17],[17],18,[16],[]⟩,⟨[],[],19,[],[]⟩] (by kernel_rfl) (by kernel_rfl) (by kernel_rfl) ?_; refine rn F ?_))
 ·exact QA ⟨132,3,[(4,.ptr 3 0)],[scB ⟨⟨⟨c.s.k.pg,c.s.k.nx,(Q4 c.s.k.lg (Qhk c.s.k.lg)).1,c.s.k.pl,c.s.k.lk,c.s.k.tx,c.s.k.ix,c.s.k.la⟩,c.s.v⟩,c.tx,c.rd,c.dead⟩ 1 2,scT (Sc.tx ⟨⟨⟨c.s.k.pg,c.s.k.nx,(Q4 c.s.k.lg (Qhk c.s.k.lg)).1,c.s.k.pl,c.s.k.lk,c.s.k.tx,c.s.k.ix,c.s.k.la⟩,c.s.v⟩,c.tx,c.rd,c.dead⟩),scR (Sc.rd ⟨⟨⟨c.s.k.pg,c.s.k.nx,(Q4 c.s.k.lg (Qhk c.s.k.lg)).1,c.s.k.pl,c.s.k.lk,c.s.k.tx,c.s.k.ix,c.s.k.la⟩,c.s.v⟩,c.tx,c.rd,c.dead⟩),⟨118,true,Rs.d (Qf2 _)⟩]⟩ (gc [0,1,2,4]) ⟨⟨⟨⟨c.s.k.pg,c.s.k.nx,(Q4 c.s.k.lg (Qhk c.s.k.lg)).1,c.s.k.pl,c.s.k.lk,c.s.k.tx,c.s.k.ix,c.s.k.la⟩,c.s.v⟩,c.tx,c.rd,c.dead⟩,Qf2 _,_,rfl,rfl,.inl ⟨⟨⟨⟨⟨QiV _ _ hc.1.1.1,hc.1.1.2⟩,hc.1.2⟩,Jg hc.2.1,Jg hc.2.2⟩,fun m=>hI m 1 _ _ (Qp3 _ (by assumption))⟩,rfl⟩⟩
 ·exact QA ⟨132,3,[(4,.ptr 3 0)],[scB c 1 2,scT (Sc.tx c),scR (Sc.rd c),⟨118,true,Rs.d (Qf2 _)⟩]⟩ (gc [0,1,2,4]) ⟨c,Qf2 _,_,rfl,rfl,.inl ⟨Qn1 I hI c n hc _,rfl⟩⟩
def Qwm(I:Nat->Kn->Prop)(hI:QqN I)(c:Sc)(n:Nat)(hn:n<=2000)(hc:c.sm n)(t:Sp)(ht:t.kind=2):QhN I c n t:=by
 refine QK (fn:=Tryz.f46) Tryz.func46 rfl (by kernel_rfl) (by simp[Tryz.f46]) ?_
 obtain⟨k,tx,pg,torn,cut,a⟩:=t
 dsimp only at ht
 subst ht
 (unfold Tryz.f46; refine rn trivial ?_)
 refine QkI (c:=c) 0 1 2 (QDs c n hn hc ⟨2,tx,pg,torn,cut,a⟩) rfl rfl rfl (by decide) (by decide) (by decide) rfl rfl ?_ (fun _ _ h=>absurd rfl h.1) ?_
 ·rintro c1 r1 ⟨-,q1,-,q2⟩ B
  refine rn trivial ?_
  exact QA ⟨132,3,[(4,.ptr 3 0)],[scB c1 1 2,scT (Sc.tx c1),scR (Sc.rd c1),⟨118,true,Rs.d (r1)⟩]⟩ (gc [0,1,2,4]) ⟨c1,r1,_,rfl,rfl,.inl ⟨⟨q1,fun m=>hI m 1 _ _ q2⟩,rfl⟩⟩
 ·rintro c1 r1 ⟨-,q1,-,q2⟩ B
  refine rn trivial ?_
  exact QA ⟨132,3,[(4,.ptr 4 0)],[scB c1 1 3,scT c1.tx,Qqd,scR c1.rd,⟨118,true,r1.d⟩]⟩ (gc [0,1,2,5,4]) ⟨c1,r1,_,rfl,rfl,.inr (.inr ⟨⟨q1,fun m=>hI m 1 _ _ q2⟩,rfl⟩)⟩
def Qwn(I:Nat->Kn->Prop)(hI:QqN I)(c:Sc)(n:Nat)(hn:n<=2000)(hc:c.sm n)(t:Sp)(ht:t.kind=1):QhN I c n t:=by
 refine QK (fn:=Tryz.f46) Tryz.func46 rfl (by kernel_rfl) (by simp[Tryz.f46]) ?_
 obtain⟨k,tx,pg,torn,cut,a⟩:=t
 dsimp only at ht
 subst ht
 have c1:=Qsh c.s hc.1
 (unfold Tryz.f46; refine rn trivial ?_)
 have hb:(c.tx.length+1)*8<=140737488355328:=by have:=hc.2.1; omega
 have F:=@hb
 refine rn F ?_
 repeat' (first
  | with_reducible exact⟨⟩
  | (refine sB F ?_ ?_<;>intro hZ)
  | (refine Qo (c1) rfl ?_; rintro⟨s2,n2,e2⟩ hq; refine rn F ?_))
 rotate_left
 ·refine QkI (c:=c) 0 1 2 (QgZ c s2 e2) rfl rfl rfl (by decide) (by decide) (by decide) rfl rfl ?_ (fun _ _ h=>absurd h.1 (by decide)) (fun _ _ h=>absurd h.1 (by decide))
  rintro _ _ ⟨-,rfl,rfl⟩ B
  obtain⟨k1,k2⟩:=QtE I hI hc.1 hq
  generalize (if e2=0 then s2 else c.s)=s' at *
  refine rn trivial ?_
  exact QA ⟨132,3,[(4,.ptr 3 0)],[scB ⟨s',c.tx,c.rd,c.dead⟩ 1 2,scT (Sc.tx ⟨s',c.tx,c.rd,c.dead⟩),scR (Sc.rd ⟨s',c.tx,c.rd,c.dead⟩),⟨118,true,Rs.d ({ Qf2 e2 with tx:=n2 })⟩]⟩ (gc [0,1,2,4]) ⟨⟨s',c.tx,c.rd,c.dead⟩,{ Qf2 e2 with tx:=n2 },_,rfl,rfl,.inl ⟨⟨⟨k1,Jg hc.2.1,Jg hc.2.2⟩,k2⟩,rfl⟩⟩
 have hl:(c.tx++[n2]).length=c.tx.length+1:=by simp
 generalize c.tx++[n2]=l at *
 rw[<- hl]
 refine QkI (c:=⟨c.s,l,c.rd,c.dead⟩) 0 7 2 (QgZ ⟨c.s,l,c.rd,c.dead⟩ s2 e2) rfl rfl rfl (by decide) (by decide) (by decide) rfl rfl ?_ (fun _ _ h=>absurd h.1 (by decide)) (fun _ _ h=>absurd h.1 (by decide))
 rintro _ _ ⟨-,rfl,rfl⟩ B
 obtain⟨k1,k2⟩:=QtE I hI hc.1 hq
 generalize (if e2=0 then s2 else c.s)=s' at *
 have h1:=hc.2.1
 refine rn trivial ?_
 exact QA ⟨132,3,[(4,.ptr 4 0)],[scB ⟨s',l,c.rd,c.dead⟩ 3 2,Quz,scR c.rd,scT l,⟨118,true,Rs.d { Qf2 e2 with tx:=n2 }⟩]⟩ (gc [0,1,2,7,4]) ⟨⟨s',l,c.rd,c.dead⟩,{ Qf2 e2 with tx:=n2 },_,rfl,rfl,.inr (.inl ⟨⟨⟨k1,by dsimp only; omega,Jg hc.2.2⟩,k2⟩,rfl⟩)⟩
end
section
attribute [local go_sem] Qba
def Qwf(I:Nat->Kn->Prop)(hI:QqN I)(c:Sc)(n:Nat)(hc:c.sm n)(t:Sp)(h1:t.kind≠1)(h2:t.kind≠2)(h3:t.kind≠3)(h4:t.kind≠4)(h5:t.kind≠5)(h6:t.kind≠6)(h7:t.kind≠7):QhN I c n t:=by
 refine QK (fn:=Tryz.f46) Tryz.func46 rfl (by kernel_rfl) (by simp[Tryz.f46]) ?_
 have c1:=Qae 1
 (unfold Tryz.f46; refine rn (Ja @h1 (Ja @h2 (Ja @h3 (Ja @h4 (Ja @h5 (Ja @h6 @h7)))))) ?_)
 have F:=(Ja @h1 (Ja @h2 (Ja @h3 (Ja @h4 (Ja @h5 (Ja @h6 @h7))))))
 refine rn F ?_
 repeat' (first
  | with_reducible exact⟨⟩
  | refine vp F (c1) ?_)
 exact QA ⟨132,3,[(4,.ptr 3 0)],[scB c 1 2,scT (Sc.tx c),scR (Sc.rd c),⟨118,true,Rs.d (QaA 1)⟩]⟩ (gc [0,1,2,4]) ⟨c,QaA 1,_,rfl,rfl,.inl ⟨Qn1 I hI c n hc _,rfl⟩⟩
def Qwg(I:Nat->Kn->Prop)(hI:QqN I)(c:Sc)(n:Nat)(hn:n<=2000)(hc:c.sm n)(t:Sp)(h6:t.kind=6->QhN I c n t):QhN I c n t:=by
 by_cases q1:t.kind=1
 ·exact Qwn I hI c n hn hc t q1
 by_cases q2:t.kind=2
 ·exact Qwm I hI c n hn hc t q2
 by_cases q3:t.kind=3
 ·exact Qwl I hI c n hn hc t q3
 by_cases q4:t.kind=4
 ·exact Qwk I hI c n hn hc t q4
 by_cases q5:t.kind=5
 ·exact Qwj I hI c n hn hc t q5
 by_cases q6:t.kind=6
 ·exact h6 q6
 by_cases q7:t.kind=7
 ·exact Qwh I hI c n hn hc t q7
 exact Qwf I hI c n hc t q1 q2 q3 q4 q5 q6 q7
def QnA:Enc Sp:=⟨9,fun t=>[.lit (.int .i64 t.kind),.lit (.int .i64 t.tx),.lit (.int .i64 t.pg),.lit (.int .i64 t.torn),.lit (.int .i64 t.cut),.lit (.int .i64 t.a.kind),.lit (.int .i64 t.a.pg),.lit (.int .i64 t.a.sl),.str t.a.data],by decide,fun _=>rfl⟩
def QGe(l:List Sp):(cells QnA l).length=l.length*9:=QV QnA l
def QG6(l:List Sp)(n:Nat)(h:l.length*9<=n):(cells QnA l).take n=cells QnA l:=by rw[Ji]; rw[QGe]; exact h
def QGT(h:l.length=len):QoH n hp 0 9 len (some (cells QnA l))=some (.sl (fz QnA l)):=QZ QnA h
def Sp0:Sp:=⟨0,0,0,0,0,0,0,0,[]⟩
def QDX(l:List Sp)(i:Nat)(h:i<l.length):(fz QnA l)[i]?=some [.lit (.int .i64 (l.getD i Sp0).kind),.lit (.int .i64 (l.getD i Sp0).tx),.lit (.int .i64 (l.getD i Sp0).pg),.lit (.int .i64 (l.getD i Sp0).torn),.lit (.int .i64 (l.getD i Sp0).cut),.lit (.int .i64 (l.getD i Sp0).a.kind),.lit (.int .i64 (l.getD i Sp0).a.pg),.lit (.int .i64 (l.getD i Sp0).a.sl),.str (l.getD i Sp0).a.data]:=Qda QnA l Sp0 i h
attribute [go_sem] QGe QG6 QGT
def Qed:Enc Rs:=⟨6,fun r=>[.lit (.int .i64 r.st),.lit (.int .i64 r.tx),.lit (.int .i64 r.pg),.lit (.bool r.cell.set),.str r.cell.data,.lit (.int .i64 r.er)],by decide,fun _=>rfl⟩
def QDM(l:List Rs):(cells Qed l).length=l.length*6:=QV Qed l
def QFY(l:List Rs)(n:Nat)(h:l.length*6<=n):(cells Qed l).take n=cells Qed l:=by rw[Ji]; rw[QDM]; exact h
def QFH(h:l.length=len):QoH n hp 0 6 len (some (cells Qed l))=some (.sl (fz Qed l)):=QZ Qed h
def QEo(l:List Rs)(a b c:Int)(x:Bool)(s:List UInt8)(d:Int):cells Qed l++[.pv (.lit (.int .i64 a)),.pv (.lit (.int .i64 b)),.pv (.lit (.int .i64 c)),.pv (.lit (.bool x)),.pv (.str s),.pv (.lit (.int .i64 d))]=cells Qed (l++[⟨a,b,c,⟨x,s⟩,d⟩]):=by rw[QM]; rfl
attribute [go_sem] QDM QFY QFH QEo
def QGt(l:List Rd):DV.wk.go (cells Qmo l)=cells Qmo l:=Qbd Qmo l fun a p hp=>by
 simp[Qmo] at hp
 rcases hp with h | h | h | h | h | h<;>subst h<;>rfl
def QE7(l:List Rs):DV.wk.go (cells Qed l)=cells Qed l:=Qbd Qed l fun a p hp=>by
 simp[Qed] at hp
 rcases hp with h | h | h | h | h | h<;>subst h<;>rfl
attribute [go_sem] QGt QE7
structure Ru(I:Nat->Kn->Prop)(s:Sv)(l:List Sp) where
 i:Nat
 c:Sc
 out:List Rs
 hi:i<=l.length
 h1:i<=1000
 hc:c.sm i
 ho:out.length=i
 hI:I 0 s.k->I i c.s.k
@[go_sem] def QGL(a:Sv×List Rs×List Rd):DV:=.tup [.agg a.1.d,.pv (.sl (fz Qed a.2.1)),.pv (.sl (fz Qmo a.2.2))]
def QDb(I:Nat->Kn->Prop)(hI:QqN I)(s:Sv)(hs:s.sm)(l:List Sp)(h6:∀ i,i<l.length->(l.getD i Sp0).kind=6->∀ c n,n<=2000->c.sm n->QhN I c n (l.getD i Sp0)):VCalls prog 35 [.agg s.d,.pv (.sl (fz QnA l))] [] (QG QGL fun a=>a.1.sm/\(I 0 s.k->∃ i,i<=l.length/\I i a.1.k)):=by
 refine dk Tryz.func35 ?_
 (unfold Tryz.f35; refine rn trivial ?_)
 refine VLoop.nilOwnC 2 18 3 1 rfl rfl ?_
 refine VLoop.nilOwnC 2 19 156 6 rfl rfl ?_
 refine VLoop.nilOwn 8 118 6 rfl ?_
 refine rn trivial ?_
 refine Qi (fun r:Ru I s l=>⟨48,0,[(9,.int .i64 r.i),(8,.own 4 6 0 r.out.length),(7,.ptr 1 0),(4,.ptr 0 0),(1,.pv (.sl (fz QnA l)))],[⟨74,true,Zv⟩,scB r.c 2 3,scT r.c.tx,scR r.c.rd,⟨118,true,cells Qed r.out⟩]⟩) (fun r=>l.length-r.i) ⟨0,⟨s,[],[],false⟩,[],Jc _,by decide,⟨hs,Jc _,Jc _⟩,rfl,id⟩ (gc [1,2,3,4,5]) ?_
 rintro⟨i,c,out,hi,h1,hc,ho,h⟩
 dsimp only
 unfold Zv
 have hg:=fun h:i<l.length=>QDX l i h
 have hb:(out.length+1)*72<=140737488355328:=by omega
 obtain⟨sv,tx,rd,dead⟩:=c
 cases dead
 rotate_left
 ·skip
  have F:=@hg
  refine rn F ?_
  repeat' (first
   | with_reducible exact⟨⟩
   | (refine sG F ?_ ?_<;>intro hZ)
   | (refine Qa5 (id:=7) [[],[0],[0,1],[0,1,2],[],[],[5],[5,6],[5,6,7],[0,1,2,3],[0,1,2,3,4,9],[0,1,2,3,4,5,6,7,8,9,10]] [0,1,2,3,4,5,6,7,8] [⟨[],[],9,[4,5,6,7,8],[]⟩,⟨[],[],10,[5,6,7,8],[]⟩,⟨[],[],11,[],[]⟩] (by kernel_rfl) (by kernel_rfl) (by kernel_rfl) ?_; refine rn F ?_))
  all_goals exact⟨rfl,rfl,(sv,out,rd),rfl,hc.1,fun x=>⟨i,hi,h x⟩⟩
 have F:=@hg
 refine rn F ?_
 repeat' (first
  | with_reducible exact⟨⟩
  | (refine sG F ?_ ?_<;>intro hZ)
  | (refine Qa5 (id:=7) [[],[0],[0,1],[0,1,2],[],[],[5],[5,6],[5,6,7],[0,1,2,3],[0,1,2,3,4,9],[0,1,2,3,4,5,6,7,8,9,10]] [0,1,2,3,4,5,6,7,8] [⟨[],[],9,[4,5,6,7,8],[]⟩,⟨[],[],10,[5,6,7,8],[]⟩,⟨[],[],11,[],[]⟩] (by kernel_rfl) (by kernel_rfl) (by kernel_rfl) ?_; refine rn F ?_))
 all_goals first | exact⟨rfl,rfl,(sv,out,rd),rfl,hc.1,fun x=>⟨i,hi,h x⟩⟩ | skip
 have hil:i<l.length:=by omega
 refine QkI (c:=⟨sv,tx,rd,false⟩) 1 2 3 (Qwg I hI _ i (by omega) hc (l.getD i Sp0) (fun hk=>h6 i hil hk _ i (by omega) hc)) rfl rfl rfl (by decide) (by decide) (by decide) rfl rfl ?_ ?_ ?_
 all_goals
  rintro c1 r1 ⟨q1,q2⟩ B
  refine rn @hb ?_
  have hl2:(out++[r1]).length=out.length+1:=by simp
  refine⟨⟨i+1,c1,out++[r1],hil,by omega,q1,by rw[hl2]; omega,fun x=>q2 i (h x)⟩,by dsimp only; omega,?_⟩
  dsimp only
  rw[hl2]
 ·exact(gc [0,1,2,3,7])
 ·exact(gc [0,1,5,3,8])
 ·exact(gc [0,1,2,5,8])
end
section
attribute [local go_sem] cb cc
def QEi(b:Int)(hb:0<=b/\b<=255):∃ y:UInt8,b=(y.toNat:Int):=⟨UInt8.ofNat b.toNat,by simp only[UInt8.toNat_ofNat']; omega⟩
def Qtr{α:Type}{n:Nat}{A B:α}(hn:n<=1000000000):(if 0<=(n:Int)/\((1:Nat):Int)*n<=281474976710656/\(n:Int)<=9223372036854775807 then A else B)=A:=
 if_pos ⟨by omega,by omega,by omega⟩
abbrev Dx(n:Nat):DV->Prop:=fun r=>∃ t:List UInt8,r=.pv (.str t)/\t.length<=n
structure DSt(n:Nat) where
 c:C
 l:List UInt8
 hl:l.length<=n
def QD9(c:C):VCalls prog 91 [.ptr 0 0] [cb c] (CX (Dx 13)):=by
 refine dd Tryz.func91 ?_
 (unfold Tryz.f91; refine rn trivial ?_)
 refine QaL (k:=0) (c:=c) (QaB c 5 (by omega) (by omega)) rfl rfl ?_
 rintro _ c1 ⟨z,rfl,hz⟩
 refine rn trivial ?_
 refine QaL (k:=0) (c:=c1) (QaB c1 6 (by omega) (by omega)) rfl rfl ?_
 rintro _ c2 ⟨z2,rfl,hz2⟩
 have hcw:=fun(hp:Qa) (k o n:Nat)=>Qgt (hp:=hp) (k:=k) (off:=o) (len:=n) QFO
 have mk:=fun(n:Nat) (h:n<=1000000000) (A B:Option (DV×Qa))=>Qtr (n:=n) (A:=A) (B:=B) h
 refine rn F ?_
 repeat' (first
  | with_reducible exact⟨⟩
  | (refine sB F ?_ ?_<;>intro hZ))
 case' refine_1=>
  refine QaL (k:=0) (c:=c2) (QaB c2 14 (by omega) (by omega)) rfl rfl ?_
  rintro _ c3 ⟨n,rfl,hn⟩
 case' refine_2=>
  obtain⟨n,rfl,hn⟩:∃ n:Nat,n=z/\n<14:=⟨z,rfl,by omega⟩
  obtain⟨c3,rfl⟩:∃ c3,c3=c2:=⟨c2,rfl⟩
 all_goals
  have hm:=fun A B=>mk n (by omega) A B
  have hr:JJ 0 (0:UInt8)=[]:=rfl
  refine rn (Ja @hm @hr) ?_
  refine Qi (fun i:DSt n=>⟨29,1,[(5,.int .i64 i.l.length),(3,.int .i64 n),(4,.own 1 1 0 i.l.length),(0,.ptr 0 0)],[cb i.c,⟨5,true,cells Qfs i.l⟩]⟩) (fun i=>n-i.l.length) ⟨c3,[],Jc _⟩ (gc [0,1]) ?_
  rintro⟨c4,l,hl⟩
  dsimp only
  have hvc:=fun hp:Qa=>@Qe9 hp l _ rfl
  by_cases hc:l.length<n
  ·skip
   refine rn F ?_
   refine QaL (k:=0) (c:=c4) (QaB c4 3 (by omega) (by omega)) rfl rfl ?_
   rintro r c5 ⟨y,rfl,hy⟩
   obtain⟨u,hu⟩:∃ u:UInt8,97+(y:Int)=(u.toNat:Int):=QEi _ (by omega)
   have e2:cells Qfs l++[.pv (.lit (.int .u8 u.toNat))]=cells Qfs (l++[u]):=(QM Qfs l [u]).symm
   have e3:(cells Qfs l).take l.length=cells Qfs l:=by rw[Ji]; rw[QdJ]; exact Jq _
   have hub:u.toNat<256:=u.toNat_lt
   have hs2:l.length<=140737488355327:=by omega
   refine rn (Ja @hu (Ja @hs2 (Ja @e3 @e2))) ?_
   have hl2:(l++[u]).length=l.length+1:=by simp
   refine⟨⟨c5,l++[u],by rw[hl2]; omega⟩,by dsimp only; rw[hl2]; omega,?_⟩
   dsimp only
   rw[hl2]
   exact(gc [0,3])
  ·skip
   have F:=(Ja @hcw @hvc)
   refine rn F ?_
   exact⟨_,rfl,rfl,Qca _,rfl,⟨_,rfl,by omega⟩,c4,rfl⟩
end
section
attribute [local go_sem] cb cc
def QtA(i:Nat)(h:i<12):∃ n:Int,([.pv (.lit (.int .i64 1)),.pv (.lit (.int .i64 1)),.pv (.lit (.int .i64 2)),.pv (.lit (.int .i64 2)),.pv (.lit (.int .i64 2)),.pv (.lit (.int .i64 3)),.pv (.lit (.int .i64 4)),.pv (.lit (.int .i64 5)),.pv (.lit (.int .i64 6)),.pv (.lit (.int .i64 7)),.pv (.lit (.int .i64 2)),.pv (.lit (.int .i64 4))]:List DV)[i]?=some (.int .i64 n):=by
 have e:([.pv (.lit (.int .i64 1)),.pv (.lit (.int .i64 1)),.pv (.lit (.int .i64 2)),.pv (.lit (.int .i64 2)),.pv (.lit (.int .i64 2)),.pv (.lit (.int .i64 3)),.pv (.lit (.int .i64 4)),.pv (.lit (.int .i64 5)),.pv (.lit (.int .i64 6)),.pv (.lit (.int .i64 7)),.pv (.lit (.int .i64 2)),.pv (.lit (.int .i64 4))]:List DV)=([1,1,2,2,2,3,4,5,6,7,2,4]:List Int).map (DV.int .i64):=rfl
 refine⟨([1,1,2,2,2,3,4,5,6,7,2,4]:List Int)[i]'h,?_⟩
 rw[e,List.getElem?_map,List.getElem?_eq_getElem h]; rfl
def Qyo(c:C)(m:Nat)(h1:1<=m)(h2:m<=1000):VCalls prog 74 [.ptr 0 0,.int .i64 m] [cb c] (CX fun r=>∃ a:Ac,r=.agg a.d):=by
 refine dd Tryz.func74 ?_
 (unfold Tryz.f74; refine rn trivial ?_)
 refine QaL (k:=0) (c:=c) (QaB c 12 (by omega) (by omega)) rfl rfl ?_
 rintro _ c1 ⟨y,rfl,hy⟩
 obtain⟨n,hn⟩:=QtA y hy
 have F:=@hn
 refine rn F ?_
 repeat' (first
  | with_reducible exact⟨⟩
  | (refine sB F ?_ ?_<;>intro hZ)
  | (refine QaL (k:=0) (QaB _ 2 (by omega) (by omega)) rfl rfl ?_; rintro _ _ ⟨_,rfl,_⟩; refine rn F ?_)
  | (refine QaL (k:=0) (QaB _ 40 (by omega) (by omega)) rfl rfl ?_; rintro _ _ ⟨_,rfl,_⟩; refine rn F ?_)
  | (refine QaL (k:=0) (QaB _ m (by omega) (by omega)) rfl rfl ?_; rintro _ _ ⟨_,rfl,_⟩; refine rn F ?_)
  | (refine QaL (k:=0) (QD9 _) rfl rfl ?_; rintro _ _ ⟨_,rfl,_⟩; refine rn F ?_)
  | (refine QaL (k:=0) (QFD _) rfl rfl ?_; rintro _ _ ⟨_,rfl,_⟩; refine rn F ?_))
 all_goals first
  | exact⟨_,rfl,rfl,Qca _,rfl,⟨⟨_,_,_,_⟩,rfl⟩,_,rfl⟩
  | skip
end
section
attribute [local go_sem] cb cc
def QDn(n:Int)(h:1<=n/\n<=64):VCalls prog 45 [.int .i64 n] [] (QG dvD fun a=>dvQ a/\a.2=0):=by
 refine dk Tryz.func45 ?_
 have c1:=QsR n
 (unfold Tryz.f45; refine rn trivial ?_)
 refine rn F ?_
 repeat' (first
  | with_reducible exact⟨⟩
  | (refine Qo (c1 (by omega)) rfl ?_; rintro l hl; refine rn F ?_))
 all_goals first
  | (exfalso; omega)
  | exact⟨rfl,rfl,(⟨l,0,false⟩,0),rfl,hl,rfl⟩
  | skip
def QqI(n m:Int):Kn:=⟨n,1,Lg1,⟨m,[],0⟩,Lk0,[],JJ n.toNat Rw0,[]⟩
def QDe(n m:Int)(h:1<=n/\n<=64)(h2:1<=m/\m<=64):VCalls prog 44 [.int .i64 n,.int .i64 m] [] (QG kiD fun a=>a.1.sm/\a.2=0/\a.1=QqI n m):=by
 refine dk Tryz.func44 ?_
 have c1:=Qsj m
 have c2:=Qn9 n
 have c3:=QAw
 have hf:Qh6 m=(⟨m,[],0⟩,0):=by unfold Qh6; rw[if_neg (by omega)]
 rw[hf] at c1
 (unfold Tryz.f44; refine rn trivial ?_)
 refine rn F ?_
 repeat' (first
  | with_reducible exact⟨⟩
  | refine vp F (c1) ?_
  | (refine Qo (c2) rfl ?_; rintro⟨l,e⟩ hl; refine rn F ?_)
  | refine vp F (c3) ?_
  | (refine Qc (id:=5) [0,2,3] [⟨[],[],1,[0,2,3],[4]⟩,⟨[],[],5,[],[]⟩,⟨[],[],6,[],[]⟩] (by kernel_rfl) (by kernel_rfl) ?_; refine rn F ?_))
 all_goals first
  | (exfalso; omega)
  | skip
 have e1:=hl.2.1 (hl.2.2 h.1 h.2)
 dsimp only at e1
 subst e1
 exact⟨rfl,rfl,(QqI n m,0),rfl,⟨Jc _,Jc _,Jc _,QX _,hl.1,Jc _⟩,rfl,rfl⟩
def QC9(n m:Int)(h:1<=n/\n<=64)(h2:1<=m/\m<=64):VCalls prog 34 [.int .i64 n,.int .i64 m] [] (QG svD fun a=>a.1.sm/\a.2=0/\a.1.k=QqI n m):=by
 refine dk Tryz.func34 ?_
 have c1:=QDe n m h h2
 have c2:=QDn n h
 (unfold Tryz.f34; refine rn trivial ?_)
 refine Qo c1 rfl ?_
 rintro⟨k,e⟩ ⟨hk,he,hg⟩
 dsimp only at hk he hg
 subst he
 refine rn trivial ?_
 refine Qo c2 rfl ?_
 rintro⟨v,e⟩ ⟨hv,he⟩
 dsimp only at he
 subst he
 refine rn trivial ?_
 exact⟨rfl,rfl,(⟨k,v⟩,0),rfl,⟨hk,hv⟩,rfl,hg⟩
def QFS(l:List Sp)(a b c d e f g h:Int)(s:List UInt8):cells QnA l++[.pv (.lit (.int .i64 a)),.pv (.lit (.int .i64 b)),.pv (.lit (.int .i64 c)),.pv (.lit (.int .i64 d)),.pv (.lit (.int .i64 e)),.pv (.lit (.int .i64 f)),.pv (.lit (.int .i64 g)),.pv (.lit (.int .i64 h)),.pv (.str s)]=cells QnA (l++[⟨a,b,c,d,e,⟨f,g,h,s⟩⟩]):=by rw[QM]; rfl
def spB:Sp:=⟨1,0,0,0,0,⟨0,0,0,[]⟩⟩
end
def Qsq(t:Lk)(h:1024<t.sum)(h2:t.held.length<=10000000/\t.wait.length<=10000000):VCalls prog 156 [.agg t.d] [] (Ret (.bool false)):=by
 refine dd Tryz.func156 ?_
 unfold Lk.sum at h
 have h':(1024:Int)<t.held.length+t.wait.length:=by omega
 (unfold Tryz.f156; refine rn @h' ?_; try with_reducible exact⟨⟩)
def Kn.smX(k:Kn):Prop:=k.lg.es.length<=4096/\k.pl.fs.length<=64/\smN 65 k.tx/\k.ix.length<=64/\k.la.length<=10000
def QAs(k:Kn)(hk:k.smX)(h:1024<k.lk.sum)(hq:k.lk.held.length<=10000000/\k.lk.wait.length<=10000000):VCalls prog 111 [.agg k.d] [] (Ret (.bool false)):=by
 refine dd Tryz.func111 ?_
 obtain⟨h1,h2,h4,h5,h6⟩:=hk
 have c1:=Qas k.lg (by omega)
 have c2:=Qak k.pl (by omega)
 have c3:=Qsq k.lk h hq
 generalize lgB k.lg=b1 at *
 generalize plB k.pl=b2 at *
 (unfold Tryz.f111; refine rn trivial ?_)
 refine rn F ?_
 repeat' (first
  | with_reducible exact⟨⟩
  | (refine sG F ?_ ?_<;>intro hZ)
  | refine vp F (c1) ?_
  | refine vp F (c2) ?_
  | refine vp F (c3) ?_)
 all_goals first | rfl | skip
def QwA(k:Kn)(hk:k.smX)(h:1024<k.lk.sum)(hq:k.lk.held.length<=10000000/\k.lk.wait.length<=10000000):VCalls prog 87 [.agg k.d] [] (Ret (.bool false)):=by
 refine dd Tryz.func87 ?_
 have c1:=QAs k hk h hq
 (unfold Tryz.f87; refine rn trivial ?_)
 refine rn F ?_
 repeat' (first
  | with_reducible exact⟨⟩
  | refine vp F (c1) ?_)
 all_goals first | rfl | skip
def adK(x:Lg)(a:An)(n:Int):Kn:=⟨a.pg,a.nx,x,(Qh6 n).1,⟨a.lk,[]⟩,a.lo,a.ix,a.la⟩
def QBx(h:l.map (·.id)=m.map (·.id))(a:Int):idT l a=idT m a:=by
 have e:∀ l:List Tx,idT l a=Qmn (l.map (·.id)) fun n=>n==a:=fun l=>by
  unfold idT Qmn
  rw[List.any_map,List.findIdx_map]
  rfl
 rw[e,e,h]
def Qfm(h:Qbw l=true)(hi:i<l.length):idT l (l.getD i Tx0).id=i:=by
 have hs:=Qd2 h
 rw[Qd _ _ hi]
 rcases QB l l[i].id with hn | ⟨j,hj,h1,h2⟩
 ·have:=(Qj2 (l:=l) (a:=l[i].id)).2 (Kq.2 ⟨l[i],Jv hi,rfl⟩)
  omega
 ·rw [h1]
  rw[List.pairwise_iff_getElem] at hs
  rcases Nat.lt_trichotomy i j with h3 | h3 | h3
  ·have:=hs i j (by simpa using hi) (by simpa using hj) h3
   rw[JK,JK] at this
   omega
  ·omega
  ·have:=hs j i (by simpa using hj) (by simpa using hi) h3
   rw[JK,JK] at this
   omega
def Qnf(h:(QU l e).2=0)(hk:e.kind=4)(ht:0<e.tx)(ha:a≠e.tx)(h0:0<=idT l a):Qa7 (QU l e).1 a=Qa7 l a:=by
 have hid:=QBx (Qlu h ⟨by omega,by omega⟩) a
 unfold Qa7
 rw[hid]
 unfold QU at h |-
 split at h
 ·simp at h
 rename_i q1
 split at h
 ·simp at h
 rename_i q2
 split at h
 ·omega
 rename_i q3
 split at h
 ·simp at h
 rename_i q4
 rw[if_neg q1,if_neg q2,if_neg q3,if_neg q4]
 rcases QB l e.tx with hn | ⟨i,hi,hid2,he⟩
 ·omega
 rcases QB l a with hn | ⟨j,hj,hjd,hja⟩
 ·omega
 rw[hid2,Jo] at h |-
 unfold Qlw at h |-
 split at h
 ·simp at h
 rename_i q5
 split at h
 ·rename_i q6; omega
 rename_i q6
 rw[if_neg q5,if_neg q6,hjd,Jo]
 have hij:i≠j:=fun h=>ha (by subst h; rw[<- hja,<- he])
 simp only[Jj,List.getElem?_set_ne hij]
structure AdS(x:Lg)(a:An)(n:Int) where
 i:Nat
 k:Kn
 hi:i<=a.lo.length
 hk:k.sm
 he:Str 0 (adK x a n) k
 hl:∀ j,i<=j->j<a.lo.length->0<=idT k.tx (a.lo.getD j Tx0).id/\Qa7 k.tx (a.lo.getD j Tx0).id=a.lo.getD j Tx0
def AdS.nx{a:An}{k k1:Kn}{i:Nat}(ht:Qbw a.lo=true){e:E}{n1 e1:Int}(hq:Qvq k e (k1,n1,e1))(h:e1=0)(hk:e.kind=4)(hil:i<a.lo.length)(he:e.tx=(a.lo.getD i Tx0).id)
 (hl:∀ j,i<=j->j<a.lo.length->0<=idT k.tx (a.lo.getD j Tx0).id/\Qa7 k.tx (a.lo.getD j Tx0).id=a.lo.getD j Tx0):∀ j,i+1<=j->j<a.lo.length->0<=idT k1.tx (a.lo.getD j Tx0).id/\Qa7 k1.tx (a.lo.getD j Tx0).id=a.lo.getD j Tx0:=fun j h1 h2=>by
 obtain⟨q1,q2⟩:=hl j (by omega) h2
 refine⟨Qmj hq h ⟨by omega,by omega⟩ q1,?_⟩
 obtain⟨e',⟨v,s,_,_,_,hn,_⟩,hk1,_,_⟩:=hq.2 h
 dsimp only at hk1
 subst hk1
 have i1:=Qfm ht hil
 have i2:=Qfm ht h2
 have ho:=Qti (Qc2 hn).2
 have hne:(a.lo.getD j Tx0).id≠e'.tx:=fun q=>by
  rw[s.2.1,he] at q
  rw[q,i1] at i2
  omega
 have hpos:0<e'.tx:=by
  have:=Qbp ht hil
  rw[s.2.1,he,Qd _ _ hil]
  simp only[Tx.okB,Tx.hdB,Jd,decide_eq_true_eq] at this
  omega
 exact(Qnf hn (by rw[s.1]; exact hk) hpos hne q1).trans q2
def adQ(x:Lg)(a:An)(n:Int)(r:Kn×Int):Prop:=r.1.sm/\(r.2=0->kB (adK x a n)=true/\(adK x a n).pl.fs=[]/\Str 0 (adK x a n) r.1)
def QwU(x:Lg)(hx:x.es.length<=4096)(a:An)(ha:a.sm 10000)(n:Int):VCalls prog 155 [.agg x.c,.agg a.d,.int .i64 n] [] (QG kiD (adQ x a n)):=by
 refine dk Tryz.func155 ?_
 obtain⟨h1,h2,h3,h4⟩:=ha
 have c1:=Qsj n
 have hf:=Qw0 n
 have had:adK x a n=⟨a.pg,a.nx,x,(Qh6 n).1,⟨a.lk,[]⟩,a.lo,a.ix,a.la⟩:=rfl
 unfold adQ
 have hst0:=fun k=>Str 0 (adK x a n) k
 clear hst0
 generalize hpn:Qh6 n=p at *
 obtain⟨p,e0⟩:=p
 dsimp only at c1 hf had
 have err:∀ z,z≠0->QG kiD (fun r:Kn×Int=>r.1.sm/\(r.2=0->kB (adK x a n)=true/\(adK x a n).pl.fs=[]/\Str 0 (adK x a n) r.1)) (kiD (Kn0,z)) []:=fun z hz=>⟨rfl,rfl,(Kn0,z),rfl,QbW,fun h=>absurd h hz⟩
 (unfold Tryz.f155; refine rn trivial ?_)
 refine rn F ?_
 repeat' (first
  | with_reducible exact⟨⟩
  | (refine sB F ?_ ?_<;>intro hZ)
  | refine vp F (c1) ?_)
 all_goals first | exact err 1 (by decide) | skip
 by_cases hs:a.lk.length<=1024
 rotate_left
 ·have c2:=QwA ⟨a.pg,a.nx,x,p,⟨a.lk,[]⟩,a.lo,a.ix,a.la⟩ ⟨hx,by dsimp only; rw [hf]; exact Jc _,h1,h4,h3⟩ (by unfold Lk.sum; simp; omega) ⟨by dsimp only; omega,Jc _⟩
  refine rn F ?_
  refine VCalls.wkH ?_; simp only[Qgq,QeN,Qeh,Qdm,DV.wk,PV.wk,QE9]
  refine rn F ?_
  repeat' (first
   | with_reducible exact⟨⟩
   | refine vp F (c2) ?_)
  exact err 15 (by decide)
 have hk0:(⟨a.pg,a.nx,x,p,⟨a.lk,[]⟩,a.lo,a.ix,a.la⟩:Kn).sm:=⟨hx,by dsimp only; rw[hf]; exact Jc _,by unfold Lk.sum; simp; omega,h1,h4,h3⟩
 have c2:=QbN ⟨a.pg,a.nx,x,p,⟨a.lk,[]⟩,a.lo,a.ix,a.la⟩ hk0
 refine rn F ?_
 refine VCalls.wkH ?_; simp only[Qgq,QeN,Qeh,Qdm,DV.wk,PV.wk,QE9]
 cases hv:kB ⟨a.pg,a.nx,x,p,⟨a.lk,[]⟩,a.lo,a.ix,a.la⟩
 ·rw [hv] at c2
  refine rn F ?_
  repeat' (first
   | with_reducible exact⟨⟩
   | refine vp F (c2) ?_)
  exact err 15 (by decide)
 rw[hv] at c2
 rw[<- had] at hv
 have htb:Qbw a.lo=true:=by have:=(Qj0 hv).2.2.2.2.1; rw[had] at this; exact this
 refine rn F ?_
 repeat' (first
  | with_reducible exact⟨⟩
  | refine vp F (c2) ?_)
 have hlo:=h1.1
 have hpf:(adK x a n).pl.fs=[]:=by rw[had]; exact hf
 refine Qi (fun s:AdS x a n=>⟨72,0,[(11,.int .i64 s.i),(10,.ptr 4 0),(6,.ptr 2 0),(4,.ptr 1 0)],[⟨28,true,x.c⟩,⟨252,true,a.d⟩,⟨41,true,Kn.d Kn0⟩,⟨31,true,p.d⟩,⟨41,true,s.k.d⟩]⟩) (fun s=>a.lo.length-s.i) ⟨0,⟨a.pg,a.nx,x,p,⟨a.lk,[]⟩,a.lo,a.ix,a.la⟩,Jc _,hk0,by rw[had]; exact Str.refl _,fun j _ hj=>by
  have i1:=Qfm htb hj
  exact⟨by dsimp only; rw[i1]; omega,Qd1 i1⟩⟩ (gc [0,1,2,3,4]) ?_
 rintro⟨i,k,hi,hk,he,hl⟩
 dsimp only
 by_cases hil:i<a.lo.length
 rotate_left
 ·skip
  refine rn F ?_
  exact⟨rfl,rfl,(k,0),rfl,hk,fun _=>⟨hv,hpf,he⟩⟩
 have hg:=Qea a.lo i hil
 have hl0:=hl i (Jq _) hil
 have hfp:(a.lo.getD i Tx0).st≠3->QEC k ⟨0,4,(a.lo.getD i Tx0).id,0,0,0,Ch0,[]⟩:=fun h=>⟨hl0.1,fun _=>by dsimp only; rw[hl0.2]; exact h,fun h=>by simp at h⟩
 have hnx:=fun k1 n1 e1 hq h=>AdS.nx (k1:=k1) (n1:=n1) (e1:=e1) htb (e:=⟨0,4,(a.lo.getD i Tx0).id,0,0,0,Ch0,[]⟩) hq h rfl hil rfl hl
 generalize htt:a.lo.getD i Tx0=t at *
 have c3:=Qd5 k hk ⟨0,4,t.id,0,0,0,Ch0,[]⟩
 have F:=@hg
 refine rn F ?_
 repeat' (first
  | with_reducible exact⟨⟩
  | (refine sB F ?_ ?_<;>intro hZ)
  | (refine Qo (c3) rfl ?_; rintro⟨k1,n1,e1⟩ hq; refine rn F ?_)
  | (refine Qc (id:=11) [0,1,2,3,4,5,6,7] [⟨[],[],8,[1,2,3,4,5,6],[9,10,11,12]⟩,⟨[],[],13,[11,12],[]⟩,⟨[],[],14,[],[]⟩] (by kernel_rfl) (by kernel_rfl) ?_; refine rn F ?_))
 all_goals first
  | exact err _ (by assumption)
  | exact⟨⟨i+1,k,hil,hk,he,fun j h1 h2=>hl j (by omega) h2⟩,by dsimp only; omega,(gc [0,1,2,3,4])⟩
  | exact⟨⟨i+1,k1,hil,hq.1,he.trans (Qgv hq (by assumption) (.inr (.inl rfl)) (hfp (by assumption))),hnx k1 n1 e1 hq (by assumption)⟩,by dsimp only; omega,(gc [0,1,2,3,4])⟩
  | skip
def unf(s:List UInt8)(a:Int):List UInt8×Int×Int:=
 if a<0\/(s.length:Int)<a then ([],0,1)
 else if ¬ a.toNat+4<=s.length then ([],0,5)
 else if 8392<n4 s a.toNat then ([],0,2)
 else if ¬ a.toNat+4+n4 s a.toNat+4<=s.length then ([],0,5)
 else if ¬ (n4 s (a.toNat+4+n4 s a.toNat):Int)=QmN ((s.take (a.toNat+4+n4 s a.toNat)).drop a.toNat) then ([],0,3)
 else ((s.take (a.toNat+4+n4 s a.toNat)).drop (a.toNat+4),(a.toNat+4+n4 s a.toNat+4:Nat),0)
def Qyx(s:List UInt8)(a:Int):(unf s a).1.length<=s.length/\((unf s a).2.2=0->0<=a/\0<=(unf s a).2.1/\(unf s a).2.1<=s.length):=by
 unfold unf
 split
 ·exact⟨Jc _,fun h=>by simp at h⟩
 rename_i h1
 split
 ·exact⟨Jc _,fun h=>by simp at h⟩
 split
 ·exact⟨Jc _,fun h=>by simp at h⟩
 split
 ·exact⟨Jc _,fun h=>by simp at h⟩
 rename_i h2
 split
 ·exact⟨Jc _,fun h=>by simp at h⟩
 ·refine⟨by dsimp only; rw[JF,Jk]; omega,fun _=>⟨by omega,by dsimp only; omega,by dsimp only; omega⟩⟩
def QEQ(s:List UInt8)(a:Int):DV:=.tup [.pv (.str (unf s a).1),.int .i64 (unf s a).2.1,.int .i64 (unf s a).2.2]
def QiE(s:List UInt8)(hs:s.length<=100000000)(a:Int):VCalls prog 196 [.pv (.str s),.int .i64 a] [] (Ret (QEQ s a)):=by
 refine dd Tryz.func196 ?_
 unfold QEQ unf
 by_cases h1:a<0
 ·rw [if_pos (.inl h1)]
  (unfold Tryz.f196; refine rn @h1 ?_; try with_reducible exact⟨⟩)
 ·by_cases h2:(s.length:Int) < a
  ·rw [if_pos (.inr h2)]
   (unfold Tryz.f196; refine rn (Ja @h1 @h2) ?_; try with_reducible exact⟨⟩)
  ·rw [if_neg (by omega)]
   obtain⟨k,rfl⟩:∃ k:Nat,a=k:=⟨a.toNat,by omega⟩
   rw[Jo]
   by_cases h3:k+4<=s.length
   ·rw [if_neg (by omega)]
    have hn:=QA2 s k
    (unfold Tryz.f196; refine rn (Ja @h1 @h2) ?_)
    refine QaK (QDj s (by omega) k h3) rfl ?_
    by_cases h4:8392<n4 s k
    ·rw [if_pos h4]
     have h4':8392<(n4 s k:Int):=by omega
     (refine rn @h4' ?_; try with_reducible exact⟨⟩)
    ·rw [if_neg h4]
     have h4':¬ 8392<(n4 s k:Int):=by omega
     have hw:IntKind.u32.wrap (n4 s (k+4+n4 s k):Int)=(n4 s (k+4+n4 s k):Int):=by
      have:=QA2 s (k+4+n4 s k)
      simp[IntKind.wrap,IntKind.signed,IntKind.bits]; omega
     by_cases h5:k+4+n4 s k+4<=s.length
     ·rw [if_neg (by omega)]
      have hg:=QDj s (by omega) (k+4+n4 s k) h5
      have e:(((k+4+n4 s k:Nat)):Int)=(k:Int)+4+(n4 s k:Int):=by omega
      rw[e] at hg
      have h5':¬ (s.length:Int)-(k:Int)<(n4 s k:Int)+8:=by omega
      refine rn (Ja @h4' @h5') ?_
      refine QaK hg rfl ?_
      have ht:((k:Int)+4+(n4 s k:Int)).toNat=k+4+n4 s k:=by omega
      have q1:(0:Int)<=(k:Int)+4+(n4 s k:Int):=by omega
      have q2:k<=k+4+n4 s k:=by omega
      have q3:k+4+n4 s k<=s.length:=by omega
      have hx:=QmM ((s.take (k+4+n4 s k)).drop k)
      refine rn (Ja @ht (Ja @q1 (Ja @q2 (Ja @q3 @hw)))) ?_
      refine QaK (Qn3 _ (by rw[JF,Jk]; omega)) rfl ?_
      by_cases h6:(n4 s (k+4+n4 s k):Int)=QmN ((s.take (k+4+n4 s k)).drop k)
      ·rw [if_neg (by omega)]
       have q4:((k:Int)+4).toNat=k+4:=by omega
       have q5:k+4<=k+4+n4 s k:=by omega
       have q6:(0:Int)<=(k:Int)+4:=by omega
       have e8:(((k+4+n4 s k+4:Nat)):Int)=(k:Int)+8+(n4 s k:Int):=by omega
       refine rn (Ja @h6 (Ja @ht (Ja @q1 (Ja @q2 (Ja @q3 (Ja @q4 (Ja @q5 @q6))))))) ?_
       rw[e8]
      ·rw [if_pos h6]
       (refine rn @h6 ?_; try with_reducible exact⟨⟩)
     ·rw [if_pos (by omega)]
      have h5':(s.length:Int)-(k:Int)<(n4 s k:Int)+8:=by omega
      (refine rn (Ja @h4' @h5') ?_; try with_reducible exact⟨⟩)
   ·rw [if_pos h3]
    (unfold Tryz.f196; refine rn (Ja @h1 @h2) ?_)
    refine QaK (Qdv s k 4 (by omega) (by omega) (by omega)) rfl ?_
    (refine rn trivial ?_; try with_reducible exact⟨⟩)
section
structure RS(s:List UInt8) where
 at_:Int
 e:Int
 h:0<=at_/\at_<=s.length
def Qne(s:List UInt8)(a k:Nat):Int:=IntKind.i64.wrap (Qe3 s a k)
def QcJ(s:List UInt8)(r:RS s)(k:Nat):Int×RS s:=
 if r.e=0 then if h:r.at_+k<=s.length then (Qne s r.at_.toNat k,⟨r.at_+k,0,by have:=r.h; omega⟩) else (0,⟨r.at_,5,r.h⟩) else (0,r)
def Qfg(s:List UInt8)(r:RS s)(n:Int):List UInt8×RS s:=
 if r.e=0 then if h:0<=n/\r.at_+n<=s.length then ((s.take (r.at_+n).toNat).drop r.at_.toNat,⟨r.at_+n,0,by have:=r.h; omega⟩) else ([],⟨r.at_,5,r.h⟩) else ([],r)
def Qqr(s:List UInt8)(p:Int×RS s):Ce×RS s :=
 if p.2.e=0/\¬ p.1=255 then
  if 12<p.1 then (Ce0,⟨p.2.at_,4,p.2.h⟩) else (⟨true,(Qfg s p.2 p.1).1⟩,(Qfg s p.2 p.1).2)
 else (Ce0,p.2)
def Qfw(s:List UInt8)(r:RS s):Ce×RS s:=Qqr s (QcJ s r 1)
def Qnd(s:List UInt8)(a k:Nat)(h:k<=7):0<=Qne s a k/\Qne s a k<2 ^ (8*k):=by
 have h1:=Qe2 s a k (by omega)
 have h2:=QlE s a k
 have h3:(2:Nat) ^ (8*k)<=2 ^ 56:=Jy (by omega) (by omega)
 have h4:((2:Int) ^ (8*k))=((2 ^ (8*k):Nat):Int):=by rw[J1]; rfl
 unfold Qne
 rw[h1,IntKind.wrap_i64,h4]
 omega
def Qtm(s:List UInt8)(r:RS s)(k:Nat)(h:k<=7):0<=(QcJ s r k).1:=by
 unfold QcJ
 split
 ·split
  ·exact(Qnd s _ k h).1
  ·exact JR _
 ·exact JR _
abbrev RC(B:Blk)(d:DV):DV->Qa->Prop:=fun r h'=>∃ B',h'=[B']/\B'.live=true/\DV.nums.go (fun _=>false) B'.cells=true/\r.nums (fun _=>false)=true/\(r=d/\B'=B)
def rdB(T:TypeId)(s:List UInt8)(r:RS s):Blk:=⟨T,true,[.pv (.str s),.int .i64 r.at_,.int .i64 r.e]⟩
attribute [go_sem] rdB
attribute [local go_sem] Ce.d
def Qek(h:VCalls prog g (args.map (DV.ren fun _=>0)) [rdB T s r0] (RC (rdB T s r1) d))(hk:hp[k]?=some (rdB T s r0))(ha:DV.nums.go (fun i=>i==k) args=true)(hK:K d (hp.set k (rdB T s r1))):VCalls prog g args hp K:=
 (VCalls.ptr1 (R:=fun r B'=>r=d/\B'=rdB T s r1) hk rfl rfl h ha).mono fun r h' ⟨B',e1,_,_,e2,e3⟩=>by subst e1 e2 e3; exact hK
def Qb8(s:List UInt8)(hs:s.length<=100000000)(r:RS s)(k:Nat)(hk:1<=k/\k<=8):VCalls prog 227 [.ptr 0 0,.int .i64 k] [rdB 325 s r] (RC (rdB 325 s (QcJ s r k).2) (.int .i64 (QcJ s r k).1)):=by
 refine dd Tryz.func227 ?_
 obtain⟨a,e,ha⟩:=r
 obtain⟨n,rfl⟩:∃ n:Nat,a=n:=⟨a.toNat,by omega⟩
 unfold QcJ
 dsimp only
 by_cases he:e=0
 ·subst he
  rw[if_pos rfl]
  by_cases h:(n:Int)+k<=s.length
  ·rw [dif_pos h]
   have hg:=QiG s (by omega) n k hk (by omega)
   (unfold Tryz.f227; refine rn trivial ?_)
   refine Qc (id:=3) [0,1,2,3,4,5,6,7,8] [⟨[],[],9,[0,1,2,4,5,6],[10,11,12]⟩,⟨[],[],13,[12],[]⟩,⟨[],[],14,[],[]⟩] (by kernel_rfl) (by kernel_rfl) ?_
   refine rn trivial ?_
   refine QaK hg rfl ?_
   refine rn trivial ?_
   exact⟨_,rfl,rfl,rfl,rfl,rfl,rfl⟩
  ·rw [dif_neg h]
   have hg:=Qdv s n k (by omega) (by omega) h
   (unfold Tryz.f227; refine rn trivial ?_)
   refine Qc (id:=3) [0,1,2,3,4,5,6,7,8] [⟨[],[],9,[0,1,2,4,5,6],[10,11,12]⟩,⟨[],[],13,[12],[]⟩,⟨[],[],14,[],[]⟩] (by kernel_rfl) (by kernel_rfl) ?_
   refine rn trivial ?_
   refine QaK hg rfl ?_
   refine rn trivial ?_
   exact⟨_,rfl,rfl,rfl,rfl,rfl,rfl⟩
 ·rw [if_neg he]
  (unfold Tryz.f227; refine rn @he ?_)
  exact⟨_,rfl,rfl,rfl,rfl,rfl,rfl⟩
def QoA(s:List UInt8)(hs:s.length<=100000000)(r:RS s)(n:Int)(hn:0<=n/\n<=4294967296):VCalls prog 229 [.ptr 0 0,.int .i64 n] [rdB 325 s r] (RC (rdB 325 s (Qfg s r n).2) (.pv (.str (Qfg s r n).1))):=by
 refine dd Tryz.func229 ?_
 obtain⟨a,e,ha⟩:=r
 obtain⟨n,rfl⟩:∃ m:Nat,n=m:=⟨n.toNat,by omega⟩
 obtain⟨a,rfl⟩:∃ m:Nat,a=m:=⟨a.toNat,by omega⟩
 unfold Qfg
 dsimp only
 by_cases he:e=0
 ·subst he
  rw[if_pos rfl]
  by_cases h:0<=(n:Int)/\(a:Int)+n<=s.length
  ·rw [dif_pos h]
   have q1:¬ (s.length:Int)-a<n:=by omega
   have q2:¬ (s.length:Int)-a<n:=by omega
   have q3:¬ (s.length:Int)-(a:Int)<(n:Int):=by omega
   have q4:((a:Int)+n).toNat=a+n:=by omega
   have q5:(a:Int)+n-n=a:=by omega
   have q6:a<=a+n:=by omega
   have q7:a+n<=s.length:=by omega
   have q8:0<=(a:Int)+n:=by omega
   have q9:(a:Int).toNat=a:=by omega
   have q10:¬ (n:Int) > (s.length:Int)-a:=by omega
   (unfold Tryz.f229; refine rn @q3 ?_)
   refine QfZ (by kernel_rfl) (by kernel_rfl) ?_
   refine rn (Ja @q3 @q10) ?_
   refine QfZ (by kernel_rfl) (by kernel_rfl) ?_
   refine rn (Ja @q4 (Ja @q5 (Ja @q6 (Ja @q7 @q8)))) ?_
   exact⟨_,rfl,rfl,rfl,rfl,rfl,rfl⟩
  ·rw [dif_neg h]
   have q3:(s.length:Int)-(a:Int)<(n:Int):=by omega
   (unfold Tryz.f229; refine rn @q3 ?_)
   refine QfZ (by kernel_rfl) (by kernel_rfl) ?_
   refine rn @q3 ?_
   exact⟨_,rfl,rfl,rfl,rfl,rfl,rfl⟩
 ·rw [if_neg he]
  (unfold Tryz.f229; refine rn @he ?_)
  exact⟨_,rfl,rfl,rfl,rfl,rfl,rfl⟩
def QlL(s:List UInt8)(hs:s.length<=100000000)(r:RS s):VCalls prog 228 [.ptr 0 0] [rdB 325 s r] (RC (rdB 325 s (Qfw s r).2) (.agg (Qfw s r).1.d)):=by
 refine dd Tryz.func228 ?_
 have hn:=Qb8 s hs r 1 (by omega)
 have h0:=Qtm s r 1 (by omega)
 have h1:(QcJ s r 1).1<=255:=by
  unfold QcJ
  split
  ·split
   ·have:=(Qnd s r.at_.toNat 1 (by omega)).2; dsimp only; omega
   ·simp
  ·simp
 unfold Qfw
 generalize QcJ s r 1=p at hn h0 h1 |-
 obtain⟨n,r1⟩:=p
 unfold Qqr
 dsimp only at hn h0 h1 |-
 (unfold Tryz.f228; refine rn trivial ?_)
 refine Qek (k:=0) hn rfl rfl ?_
 by_cases he:r1.e=0
 ·by_cases h2:n = 255
  ·subst h2
   rw[if_neg (by simp)]
   refine rn @he ?_
   exact⟨_,rfl,rfl,rfl,rfl,rfl,by rw[<- he]⟩
  ·rw [if_pos ⟨he,h2⟩]
   by_cases h3:12<n
   ·rw [if_pos h3]
    refine rn (Ja @he (Ja @h2 @h3)) ?_
    exact⟨_,rfl,rfl,rfl,rfl,rfl,rfl⟩
   ·rw [if_neg h3]
    have ht:=QoA s hs r1 n (by omega)
    refine rn (Ja @he (Ja @h2 @h3)) ?_
    have e9:(⟨325,true,[.pv (.str s),.int .i64 r1.at_,.int .i64 0]⟩:Blk)=rdB 325 s r1:=by rw[rdB,he]
    rw[e9]
    refine Qek (k:=0) ht rfl rfl ?_
    refine rn trivial ?_
    exact⟨_,rfl,rfl,rfl,rfl,rfl,rfl⟩
 ·rw [if_neg (fun h=>he h.1)]
  refine rn @he ?_
  exact⟨_,rfl,rfl,rfl,rfl,rfl,rfl⟩
end
section
attribute [local go_sem] Ce.d
def rs0(s:List UInt8):RS s:=⟨0,0,by omega⟩
def Qw9(s:List UInt8)(r:RS s):(QcJ s r 4).1<=4294967296:=by
 unfold QcJ
 split
 ·split
  ·have:=(Qnd s r.at_.toNat 4 (by omega)).2; dsimp only; omega
  ·simp
 ·simp
def Quy(s:List UInt8):E×RS s:=
 let p1:=QcJ s (rs0 s) 8
 let p2:=QcJ s p1.2 1
 let p3:=QcJ s p2.2 4
 let p4:=QcJ s p3.2 8
 let p5:=QcJ s p4.2 8
 let p6:=QcJ s p5.2 8
 let p7:=QcJ s p6.2 4
 let p8:=QcJ s p7.2 1
 let c1:=Qfw s p8.2
 let c2:=Qfw s c1.2
 let p9:=QcJ s c2.2 4
 let t:=Qfg s p9.2 p9.1
 (⟨p1.1,p2.1,p3.1,p4.1,p5.1,p6.1,⟨p7.1,p8.1,c1.1,c2.1⟩,t.1⟩,t.2)
def QqL(s:List UInt8):E×Int:=
 if (Quy s).2.e=0 then if (Quy s).2.at_=s.length then if (Quy s).1.okB=true then ((Quy s).1,0) else (E0,12) else (E0,4) else (E0,(Quy s).2.e)
def QpT(s:List UInt8)(hs:s.length<=100000000):VCalls prog 198 [.pv (.str s)] [] (Ret (.tup [.agg (QqL s).1.d,.int .i64 (QqL s).2])):=by
 have hp1:=Qb8 s hs (rs0 s) 8 (by omega)
 generalize hqp1:QcJ s (rs0 s) 8=p1 at hp1
 have hp2:=Qb8 s hs p1.2 1 (by omega)
 generalize hqp2:QcJ s p1.2 1=p2 at hp2
 have hp3:=Qb8 s hs p2.2 4 (by omega)
 generalize hqp3:QcJ s p2.2 4=p3 at hp3
 have hp4:=Qb8 s hs p3.2 8 (by omega)
 generalize hqp4:QcJ s p3.2 8=p4 at hp4
 have hp5:=Qb8 s hs p4.2 8 (by omega)
 generalize hqp5:QcJ s p4.2 8=p5 at hp5
 have hp6:=Qb8 s hs p5.2 8 (by omega)
 generalize hqp6:QcJ s p5.2 8=p6 at hp6
 have hp7:=Qb8 s hs p6.2 4 (by omega)
 generalize hqp7:QcJ s p6.2 4=p7 at hp7
 have hp8:=Qb8 s hs p7.2 1 (by omega)
 generalize hqp8:QcJ s p7.2 1=p8 at hp8
 have hc1:=QlL s hs p8.2
 generalize hqc1:Qfw s p8.2  = c1 at hc1
 have hc2:=QlL s hs c1.2
 generalize hqc2:Qfw s c1.2  = c2 at hc2
 have hp9:=Qb8 s hs c2.2 4 (by omega)
 generalize hqp9:QcJ s c2.2 4=p9 at hp9
 have ht:=QoA s hs p9.2 p9.1 ⟨by rw[<- hqp9]; exact Qtm s _ 4 (by omega),by rw[<- hqp9]; exact Qw9 s _⟩
 generalize hqt:Qfg s p9.2 p9.1=t at ht
 have hd:Quy s=(⟨p1.1,p2.1,p3.1,p4.1,p5.1,p6.1,⟨p7.1,p8.1,c1.1,c2.1⟩,t.1⟩,t.2):=by
  unfold Quy
  simp only[hqp1,hqp2,hqp3,hqp4,hqp5,hqp6,hqp7,hqp8,hqc1,hqc2,hqp9,hqt]
 have hv:=Qcy ⟨p1.1,p2.1,p3.1,p4.1,p5.1,p6.1,⟨p7.1,p8.1,c1.1,c2.1⟩,t.1⟩
 unfold QqL
 rw[hd]
 clear hqt hqp9 hqc2 hqc1 hqp8 hqp7 hqp6 hqp5 hqp4 hqp3 hqp2 hqp1 hd
 obtain⟨n1,r1⟩:=p1
 obtain⟨n2,r2⟩:=p2
 obtain⟨n3,r3⟩:=p3
 obtain⟨n4,r4⟩:=p4
 obtain⟨n5,r5⟩:=p5
 obtain⟨n6,r6⟩:=p6
 obtain⟨n7,r7⟩:=p7
 obtain⟨n8,r8⟩:=p8
 obtain⟨x1,r9⟩:=c1
 obtain⟨x2,r10⟩:=c2
 obtain⟨n9,r11⟩:=p9
 obtain⟨tt,r12⟩:=t
 dsimp only at *
 refine dd Tryz.func198 ?_
 (unfold Tryz.f198; refine rn trivial ?_)
 have e0:(⟨325,true,[.pv (.str s),.int .i64 0,.int .i64 0]⟩:Blk)=rdB 325 s (rs0 s):=rfl
 rw[e0]
 refine Qek (k:=1) hp1 rfl rfl ?_
 refine rn trivial ?_
 refine Qek (k:=1) hp2 rfl rfl ?_
 refine rn trivial ?_
 refine Qek (k:=1) hp3 rfl rfl ?_
 refine rn trivial ?_
 refine Qek (k:=1) hp4 rfl rfl ?_
 refine rn trivial ?_
 refine Qek (k:=1) hp5 rfl rfl ?_
 refine rn trivial ?_
 refine Qek (k:=1) hp6 rfl rfl ?_
 refine rn trivial ?_
 refine Qek (k:=1) hp7 rfl rfl ?_
 refine rn trivial ?_
 refine Qek (k:=1) hp8 rfl rfl ?_
 refine rn trivial ?_
 refine Qek (k:=1) hc1 rfl rfl ?_
 refine rn trivial ?_
 refine Qek (k:=1) hc2 rfl rfl ?_
 refine rn trivial ?_
 refine Qek (k:=1) hp9 rfl rfl ?_
 refine rn trivial ?_
 refine Qek (k:=1) ht rfl rfl ?_
 refine rn trivial ?_
 by_cases he:r12.e=0
 ·rw [if_pos he]
  by_cases ha:r12.at_=s.length
  ·rw [if_pos ha]
   refine rn (Ja @he @ha) ?_
   by_cases hb:E.okB ⟨n1,n2,n3,n4,n5,n6,⟨n7,n8,x1,x2⟩,tt⟩=true
   ·rw [if_pos hb]
    rw[hb] at hv
    refine QaK hv rfl ?_
    refine rn trivial ?_
    first | exact⟨⟩ | rfl
   ·rw [if_neg hb]
    have hb:E.okB ⟨n1,n2,n3,n4,n5,n6,⟨n7,n8,x1,x2⟩,tt⟩=false:=by simpa using hb
    rw[hb] at hv
    refine QaK hv rfl ?_
    refine rn trivial ?_
    rfl
  ·rw [if_neg ha]
   refine rn (Ja @he @ha) ?_
   rfl
 ·rw [if_neg he]
  refine rn @he ?_
  refine QfZ (by kernel_rfl) (by kernel_rfl) ?_
  refine rn trivial ?_
  rfl
end
def QgQ(s:List UInt8)(a l:Int):Option (E×Int):=if (unf s a).2.2=0/\(QqL (unf s a).1).2=0/\(QqL (unf s a).1).1.lsn=l then some ((QqL (unf s a).1).1,(unf s a).2.1) else none
def opn (s:List UInt8):Nat->Int->Int->List E
 | 0,_,_=>[]
 | n + 1,a,l=>match QgQ s a l with
   | some (x,b)=>x::opn s n b (l+1)
   | none=>[]
def QCy(s:List UInt8):List E:=opn s 4096 (unf s 0).2.1 (Qne (unf s 0).1 4 8)
def hdO(s:List UInt8):Prop:=(unf s 0).2.2=0/\(unf s 0).1.length=12/\(unf s 0).1.take 4=[80,77,76,71]/\1<=Qne (unf s 0).1 4 8/\Qne (unf s 0).1 4 8<=1099511627776
instance (s:List UInt8):Decidable (hdO s):=by unfold hdO; infer_instance
def Qb4(s:List UInt8):Lg×Int:=if hdO s then (⟨Qne (unf s 0).1 4 8,QCy s,Qne (unf s 0).1 4 8+(QCy s).length-1⟩,0) else (Lg0,4)
def Qtg (s:List UInt8):∀ n a l,(opn s n a l).length<=n
 | 0,_,_=>Jq _
 | n + 1,a,l=>by
   unfold opn
   split
   ·rw[Jm]; have:=Qtg s n; exact JZ (this _ _)
   ·exact Jc _
def Qop(n:Nat)(h:QgQ s a l=none):opn s n a l=[]:=by
 cases n
 ·rfl
 ·unfold opn; rw[h]
def QrW(h:(unf s a).2.2≠0):QgQ s a l=none:=if_neg fun x=>h x.1
structure Op(s:List UInt8)(f a0:Int) where
 l:List E
 a:Int
 hl:l.length<=4096
 h:l++opn s (4096-l.length) a (f+l.length)=opn s 4096 a0 f
def Op.start(s:List UInt8)(f a0:Int):Op s f a0:=⟨[],a0,Jc _,by simp⟩
def Qw5(hn:n<4096)(h:QgQ s a l=some (x,b)):opn s (4096-n) a l=x::opn s (4096-(n+1)) b (l+1):=by
 obtain⟨m,hm⟩:∃ m,4096-n=m+1:=⟨4095-n,by omega⟩
 rw[hm,show 4096-(n+1)=m by omega]
 conv=>lhs; unfold opn
 rw[h]
def Op.next{s:List UInt8}{f a0:Int}(o:Op s f a0)(hn:o.l.length<4096){x:E}{b:Int}(h:QgQ s o.a (f+o.l.length)=some (x,b)):Op s f a0:=⟨o.l++[x],b,by simp; omega,by
 have:=o.h
 rw[Qw5 hn h] at this
 rw[<- this,Jb,Jr,Jf,List.singleton_append]
 congr 3
 omega⟩
def Op.stop(o:Op s f a0)(h:o.l.length<4096->QgQ s o.a (f+o.l.length)=none):opn s 4096 a0 f=o.l:=by
 rw[<- o.h]
 by_cases hc:o.l.length<4096
 ·rw[Qop _ (h hc),Jn]
 ·have:=o.hl
  rw[show 4096-o.l.length=0 by omega]; exact Jn _
def QAu(s:List UInt8)(hs:s.length<=100000000):VCalls prog 153 [.pv (.str s)] [] (Ret (lgD (Qb4 s))):=by
 refine VCalls.unwk ?_
 refine dd Tryz.func153 ?_
 have c0:=QiE s hs 0
 have hu:=Qyx s 0
 generalize hR:Qb4 s=R
 unfold QEQ at c0
 generalize hU:unf s 0=u at *
 obtain⟨u,a0,e0⟩:=u
 dsimp only at hu c0
 (unfold Tryz.f153; refine rn trivial ?_)
 by_cases he:e0=0
 rotate_left
 ·skip
  have F:=@he
  refine rn F ?_
  repeat' (first
   | with_reducible exact⟨⟩
   | refine vp F (c0) ?_)
  all_goals
   rw[<- hR]
   unfold Qb4
   rw[if_neg (fun h=>by have h1:=h.1; rw[hU] at h1; exact he h1)]
   rfl
 subst he
 by_cases hl:u.length=12
 rotate_left
 ·have hl2:¬ (u.length:Int) = 12:=by omega
  have F:=@hl2
  refine rn F ?_
  repeat' (first
   | with_reducible exact⟨⟩
   | refine vp F (c0) ?_)
  all_goals first
   | (rw[<- hR]; unfold Qb4; rw[if_neg (fun h=>by have h1:=h.2.1; rw[hU] at h1; exact hl h1)]; rfl)
   | (exfalso; omega)
 have h4:4<=u.length:=by omega
 have c3:=QiG u (by omega) 4 8 (by omega) (by omega)
 have hN:IntKind.i64.wrap (Qe3 u 4 8)=Qne u 4 8:=rfl
 rw[hN] at c3
 generalize hn:Qne u 4 8=f at *
 have hl3:(u.length:Int)=12:=by omega
 by_cases hp:u.take 4=[80,77,76,71]
 rotate_left
 ·skip
  have F:=(Ja @h4 (Ja @hl3 @hp))
  refine rn F ?_
  repeat' (first
   | with_reducible exact⟨⟩
   | (refine sG F ?_ ?_<;>intro hZ)
   | (refine sB F ?_ ?_<;>intro hZ)
   | refine vp F (c0) ?_
   | refine vp F (c3) ?_)
  all_goals first
   | (rw[<- hR]; unfold Qb4; rw[if_neg (fun h=>by have h1:=h.2.2.1; rw[hU] at h1; exact hp h1)]; rfl)
   | (exfalso; omega)
   | skip
  all_goals (exfalso; simp_all)
 by_cases hf:1<=f/\f<=1099511627776
 rotate_left
 ·skip
  have F:=(Ja @h4 (Ja @hl3 @hp))
  refine rn F ?_
  repeat' (first
   | with_reducible exact⟨⟩
   | (refine sG F ?_ ?_<;>intro hZ)
   | refine vp F (c0) ?_
   | refine vp F (c3) ?_)
  all_goals first
   | (rw[<- hR]; unfold Qb4; rw[if_neg (fun h=>by have h1:=h.2.2.2; rw[hU,hn] at h1; exact hf h1)]; rfl)
   | (exfalso; omega)
 have F:=(Ja @h4 (Ja @hl3 @hp))
 refine rn F ?_
 repeat' (first
  | with_reducible exact⟨⟩
  | refine vp F (c0) ?_
  | refine vp F (c3) ?_)
 all_goals first | (exfalso; omega) | skip
 refine VLoop.nilOwnC 1 1 57 13 rfl rfl ?_
 refine rn trivial ?_
 refine Qi (fun o:{o:Op s f a0×Int // o.2=f+o.1.l.length-1}=>⟨90,0,[(9,.ptr 1 0),(5,.int .i64 o.1.1.a),(2,.ptr 0 0),(0,.pv (.str s))],[⟨28,true,[.int .i64 0,.pv (.slc []),.int .i64 0]⟩,⟨28,true,[.int .i64 f,.own 2 13 0 o.1.1.l.length,.int .i64 o.1.2]⟩,⟨57,true,cells Q5 o.1.1.l⟩]⟩) (fun o=>4096-o.1.1.l.length) ⟨(Op.start s f a0,f-1),by simp[Op.start]⟩ (gc [0,1,2]) ?_
 rintro⟨⟨o,d⟩,hd⟩
 dsimp only at hd |-
 have hol:=o.hl
 have hst:=o.stop
 have c4:=QiE s hs o.a
 unfold QEQ at c4
 have hu2:=Qyx s o.a
 have hso:QgQ s o.a (f+o.l.length)=if (unf s o.a).2.2=0/\(QqL (unf s o.a).1).2=0/\(QqL (unf s o.a).1).1.lsn=f+o.l.length then some ((QqL (unf s o.a).1).1,(unf s o.a).2.1) else none:=rfl
 generalize unf s o.a=v at *
 obtain⟨v,b,e⟩:=v
 dsimp only at hu2 hso c4
 have c5:=QpT v (by omega)
 generalize QqL v=D at *
 have hb:(o.l.length+1)*128<=140737488355328:=by omega
 have fin:(o.l.length<4096->QgQ s o.a (f+o.l.length)=none)->DV.tup [.agg [.int .i64 f,.pv (.sl (fz Q5 o.l)),.int .i64 d],.int .i64 0]=lgD R:=fun h=>by
  have h1:hdO s:=by unfold hdO; rw[hU,hn]; exact⟨rfl,hl,hp,hf⟩
  have h2:QCy s=o.l:=by unfold QCy; rw[hU,hn]; exact hst h
  rw[<- hR,hd]
  unfold Qb4
  rw[if_pos h1,h2,hU,hn]
  rfl
 have F:=@hb
 refine rn F ?_
 repeat' (first
  | with_reducible exact⟨⟩
  | (refine sG F ?_ ?_<;>intro hZ)
  | (refine sB F ?_ ?_<;>intro hZ)
  | refine vp F (c4) ?_
  | refine vp F (c5) ?_)
 ·exact fin fun _=>by rw[hso,if_neg fun h=>by have h1:=h.1; omega]
 ·exact fin fun _=>by rw[hso,if_neg fun h=>by have h1:=h.2.1; have h2:=h.2.2; omega]
 ·have hl1:(o.l ++ [D.1]).length = o.l.length + 1:=by simp
  refine⟨⟨(o.next (by omega) (x:=D.1) (b:=b) (by rw[hso,if_pos ⟨by omega,by omega,by omega⟩]),D.1.lsn),?_⟩,?_,?_⟩
  ·dsimp only[Op.next]; rw[hl1]; omega
  ·dsimp only[Op.next]; rw[hl1]; omega
  ·dsimp only [Op.next]
   rw[hl1]
   exact(gc [0,1,5])
 ·exact fin fun _=>by rw[hso,if_neg fun h=>by have h1:=h.2.1; omega]
 ·exact fin fun h=>by omega
def QlF:∀ {k:Nat},(∀ i,i<k->s.getD (a+i) 0=t.getD (b+i) 0)->leN s a k=leN t b k
 | 0,_=>rfl
 | k+1,h=>by rw[leN,leN,QlF (fun i hi=>h i (by omega)),h k (by omega)]
def Qty(s t:List UInt8)(n:Int)(k:Nat)(hk:k<=8):leN (Qk s n k++t) s.length k=u64N n % 2 ^ (8*k):=by
 have h:=QhM s t n k hk k (Jq _)
 rw[Qe2 _ _ _ hk] at h
 omega
def frq(q:List UInt8):List UInt8:=Qk [] q.length 4++q
def Qnu(q:List UInt8):(frq q).length=q.length+4:=by rw[frq,Jb,Qb]; simp; omega
def Qt7(h:q.length<=8392):frm q=Qk (frq q) (QmN (frq q)) 4:=by rw[frm,if_pos h]; rfl
def Qhp(h:q.length<=8392):(frm q).length=q.length+8:=by rw[Qt7 h,Qb,Qnu]
def Qs0(p q:List UInt8)(n:Int)(k:Nat):p++Qk q n k=Qk (p++q) n k:=by simp[Qk]
def Qt6(h:q.length<=8392)(p r:List UInt8):p++(frm q++r)=Qk (p++frq q) (QmN (frq q)) 4++r:=by
 rw[Qt7 h,<- Qs0,Jf]
def QDG(h:q.length<=8392)(p r:List UInt8):n4 (p++(frm q++r)) p.length=q.length:=by
 have:=Qty p (q++((Ke 4).map (Qma (QmN (frq q)))++r)) q.length 4 (by omega)
 have e:p++(frm q++r)=Qk p q.length 4++(q++((Ke 4).map (Qma (QmN (frq q)))++r)):=by
  rw[Qt7 h]
  generalize QmN (frq q)=z
  simp only[frq,Qk,JO,Jf]
 rw[n4,e,this]
 unfold u64N; omega
def QDF(h:q.length<=8392)(p r:List UInt8):(n4 (p++(frm q++r)) (p.length+4+q.length):Int)=QmN (frq q):=by
 have:=Qty (p++frq q) r (QmN (frq q)) 4 (by omega)
 have hx:=QmM (frq q)
 have hl:(p++frq q).length=p.length+4+q.length:=by rw[Jb,Qnu]; omega
 rw[Qt6 h,n4,<- hl,this]
 unfold u64N; omega
def QD1(h:q.length<=8392)(p r:List UInt8):((p++(frm q++r)).take (p.length+4+q.length)).drop p.length=frq q:=by
 have hl:(p++frq q).length=p.length+4+q.length:=by rw[Jb,Qnu]; omega
 rw[Qt6 h,Qk,Jf,List.take_left' hl,JV]
def Qyy(h:q.length<=8392)(p r:List UInt8):unf (p++(frm q++r)) p.length=(q,((p.length+(q.length+8):Nat):Int),0):=by
 have h1:=QDG h p r
 have h2:=QDF h p r
 have h3:=QD1 h p r
 have hl:=Qhp h
 have hs:(p++(frm q++r)).length=p.length+(q.length+8)+r.length:=by rw[Jb,Jb,hl]; omega
 unfold unf
 rw[Jo,if_neg (by omega),if_neg (by omega),h1,if_neg (by omega),if_neg (by omega),h2,h3,if_neg (by simp)]
 have e:((p++(frm q++r)).take (p.length+4+q.length)).drop (p.length+4)=q:=by
  rw[<- List.drop_drop,h3,frq,List.drop_left' (by rw[Qb]; rfl)]
 rw[e]
 congr 2
 omega
def QzU(h:q.length<=8392)(p:List UInt8)(k:Nat)(hk:k<q.length+8):(unf (p++(frm q).take k) p.length).2.2=5:=by
 have hl:=Qhp h
 have hs:(p++(frm q).take k).length=p.length+k:=by rw[Jb,Jk]; omega
 unfold unf
 rw[Jo,if_neg (by omega)]
 by_cases h4:k<4
 ·rw[if_pos (by omega)]
 have h1:=QDG h p []
 have h0:n4 (p++(frm q).take k) p.length=q.length:=by
  rw[<- h1]
  refine QlF fun i hi=>?_
  rw[Jj,Jj,JT (by omega),JT (by omega),Kc,if_pos (by omega),Jn]
 rw[if_neg (by omega),h0,if_neg (by omega),if_pos (by omega)]
def QzT(p:List UInt8):(unf p p.length).2.2=5:=by
 unfold unf
 rw[Jo,if_neg (by omega),if_pos (by omega)]
def Qtl(s p:List UInt8)(n:Int)(k:Nat)(hk:k<=8)(hp:Qk p n k <+: s)(h:0<=n/\n<2 ^ (8*k)/\n<=9223372036854775807):Qne s p.length k=n:=by
 obtain⟨t,rfl⟩:=hp
 unfold Qne
 rw[QhM p t n k hk k (Jq _)]
 have e:u64N n % 2 ^ (8*k)=n.toNat:=by
  have h1:u64N n=n.toNat:=by unfold u64N; omega
  have h2:((2:Int) ^ (8*k))=((2 ^ (8*k):Nat):Int):=by rw[J1]; rfl
  rw[h1]
  exact Ki (by omega)
 rw[e,IntKind.wrap_i64]
 omega
def At{t:List UInt8}(r:RS t)(p:List UInt8):Prop:=(r.e=5/\t.length<p.length)\/(r.e=0/\r.at_=p.length)
def Qbf(p:List UInt8)(n:Int)(k:Nat):p <+: Qk p n k:=JH _ _
def QyJ{t s p:List UInt8}(ht:t <+: s)(hp:p <+: s)(hl:p.length<=t.length):p <+: t:=List.prefix_of_prefix_length_le hp ht hl
def Qc1(ht:t <+: s)(n:Int)(k:Nat)(hk:k<=8)(hp:Qk p n k <+: s)(h:0<=n/\n<2 ^ (8*k)/\n<=9223372036854775807)(ha:At r p):
 At (QcJ t r k).2 (Qk p n k)/\((QcJ t r k).2.e=0->(QcJ t r k).1=n):=by
 have hl:=Qb p n k
 unfold QcJ
 rcases ha with⟨h1,h2⟩ | ⟨h1,h2⟩
 ·rw [if_neg (by omega)]
  refine⟨.inl ⟨h1,by omega⟩,fun h=>absurd (h1.symm.trans h) (by decide)⟩
 ·rw [if_pos h1]
  split
  ·rename_i hb
   refine⟨.inr ⟨rfl,by dsimp only; omega⟩,fun _=>?_⟩
   have e:r.at_.toNat=p.length:=by omega
   dsimp only
   rw[e]
   exact Qtl t p n k hk (QyJ ht hp (by omega)) h
  ·refine⟨.inl ⟨rfl,by omega⟩,fun h=>absurd (show(5:Int)=0 from h) (by decide)⟩
def QrI(ht:t <+: s)(hp:p++d <+: s){n:Int}(ha:At r p)(hn:r.e=0->n=d.length):
 At (Qfg t r n).2 (p++d)/\((Qfg t r n).2.e=0->(Qfg t r n).1=d):=by
 have hl:(p++d).length=p.length+d.length:=Jb
 unfold Qfg
 rcases ha with⟨h1,h2⟩ | ⟨h1,h2⟩
 ·rw [if_neg (by omega)]
  refine⟨.inl ⟨h1,by omega⟩,fun h=>absurd (h1.symm.trans h) (by decide)⟩
 ·rw [if_pos h1]
  have hn:=hn h1
  split
  ·rename_i hb
   refine⟨.inr ⟨rfl,by dsimp only; omega⟩,fun _=>?_⟩
   have e:r.at_.toNat=p.length:=by omega
   have e2:(r.at_+n).toNat=(p++d).length:=by omega
   dsimp only
   rw[e,e2]
   have:=QyJ ht hp (by omega)
   rw[<- List.prefix_iff_eq_take.1 this,JV]
  ·refine⟨.inl ⟨rfl,by omega⟩,fun h=>absurd (show(5:Int)=0 from h) (by decide)⟩
def QuU(ht:t <+: s)(c:Ce)(hc:c.okB=true)(hp:Qag p c <+: s)(ha:At r p):
 At (Qfw t r).2 (Qag p c)/\((Qfw t r).2.e=0->(Qfw t r).1=c):=by
 obtain⟨set,data⟩:=c
 simp only[Ce.okB,Jd,decide_eq_true_eq,J2,beq_iff_eq] at hc
 unfold Qfw Qqr
 unfold Qag at hp |-
 cases set
 ·simp only [Bool.false_eq_true,if_false] at hp |-
  obtain⟨h1,h2⟩:=Qc1 (r:=r) ht 255 1 (by omega) hp ⟨by omega,by omega,by omega⟩ ha
  have hd:data=[]:=by rcases hc.2 with h | h; cases h; exact h
  subst hd
  split
  ·rename_i h
   exact absurd (h2 h.1) h.2
  ·exact⟨h1,fun _=>rfl⟩
 ·simp only [if_true] at hp |-
  obtain⟨h1,h2⟩:=Qc1 (r:=r) ht data.length 1 (by omega) ((JH _ _).trans hp) ⟨by omega,by omega,by omega⟩ ha
  split
  ·rename_i h
   have h3:=h2 h.1
   rw[if_neg (by omega)]
   obtain⟨h4,h5⟩:=QrI ht hp h1 (n:=(QcJ t r 1).1) (fun _=>h3)
   exact⟨h4,fun h=>by rw[h5 h]⟩
  ·rename_i h
   have h3:(QcJ t r 1).2.e≠0:=fun e=>h ⟨e,by rw[h2 e]; omega⟩
   rcases h1 with⟨h4,h5⟩ | ⟨h4,h5⟩
   ·refine ⟨.inl ⟨h4,?_⟩,fun e=>absurd e h3⟩
    rw[Jb]; omega
   ·exact absurd h4 h3
def Qic(h:(QcJ t r k).2.e=0):r.e=0:=by
 unfold QcJ at h
 split at h
 ·assumption
 ·exact h
def QCW(h:(Qfg t r n).2.e=0):r.e=0:=by
 unfold Qfg at h
 split at h
 ·assumption
 ·exact h
def Qza(h:(Qfw t r).2.e=0):r.e=0:=by
 unfold Qfw Qqr at h
 split at h
 ·rename_i hc
  exact Qic hc.1
 ·exact Qic h
def QFu(e:E)(h:e.okB=true):(0<=e.lsn/\e.lsn<=1099511627776)/\(0<=e.kind/\e.kind<256)/\(0<=e.tx/\e.tx<4294967296)/\(0<=e.ptx/\e.ptx<=1099511627776)/\(0<=e.ppg/\e.ppg<=1099511627776)/\(0<=e.ref/\e.ref<=1099511627776)/\(0<=e.c.pg/\e.c.pg<64)/\(0<=e.c.sl/\e.c.sl<16)/\e.c.b.okB=true/\e.c.a.okB=true:=by
 obtain⟨lsn,kind,tx,ptx,ppg,ref,⟨pg,sl,⟨b1,b2⟩,⟨a1,a2⟩⟩,blob⟩:=e
 simp only[E.okB,Jd,bef,decide_eq_true_eq] at h
 obtain⟨h0,h⟩:=h
 unfold E.kindB at h
 dsimp only at h0 h |-
 split at h
 ·simp[Ch.okB,Ce.okB,txB] at h |-; grind
 split at h
 ·simp[Ch.okB,Ce.okB,txB] at h |-; grind
 split at h
 ·simp[Ch.no,Ce.no,Ce.okB,txB] at h |-; grind
 split at h
 ·simp[Ch.no,Ce.no,Ce.okB] at h |-; grind
 split at h
 ·simp[Ch.ix,Ce.no,Ce.okB] at h |-; grind
 ·simp at h
def Qi1(p:List UInt8)(c:Ce):p <+: Qag p c:=by
 unfold Qag
 split
 ·exact(Qbf _ _ _).trans (JH _ _)
 ·exact Qbf _ _ _
def QD8(x:E)(h:x.okB=true)(ht:t <+: s)(hx:Ql3 x <+: s):At (Quy t).2 (Ql3 x)/\((Quy t).2.e=0->(Quy t).1=x):=by
 obtain⟨i1,i2,i3,i4,i5,i6,i7,i8,i9,i10⟩:=QFu x h
 obtain⟨l1,l2,l3⟩:=QeG h
 have a0:At (rs0 t) []:=.inr ⟨rfl,rfl⟩
 have P10:Qk (Qag (Qag (QaZ x) x.c.b) x.c.a) x.blob.length 4 <+: s:=(JH _ _).trans hx
 have P9:Qag (Qag (QaZ x) x.c.b) x.c.a <+: s:=(Qbf _ _ _).trans P10
 have P8:Qag (QaZ x) x.c.b <+: s:=(Qi1 _ _).trans P9
 have PH:QaZ x <+: s:=(Qi1 _ _).trans P8
 unfold QaZ at PH P8 P9 P10
 have P7:=(Qbf _ _ _).trans PH
 have P6:=(Qbf _ _ _).trans P7
 have P5:=(Qbf _ _ _).trans P6
 have P4:=(Qbf _ _ _).trans P5
 have P3:=(Qbf _ _ _).trans P4
 have P2:=(Qbf _ _ _).trans P3
 have P1:=(Qbf _ _ _).trans P2
 obtain⟨b1,c1⟩:=Qc1 (r:=rs0 t) ht x.lsn 8 (by omega) P1 ⟨by omega,by omega,by omega⟩ a0
 obtain⟨b2,c2⟩:=Qc1 ht x.kind 1 (by omega) P2 ⟨by omega,by omega,by omega⟩ b1
 obtain⟨b3,c3⟩:=Qc1 ht x.tx 4 (by omega) P3 ⟨by omega,by omega,by omega⟩ b2
 obtain⟨b4,c4⟩:=Qc1 ht x.ptx 8 (by omega) P4 ⟨by omega,by omega,by omega⟩ b3
 obtain⟨b5,c5⟩:=Qc1 ht x.ppg 8 (by omega) P5 ⟨by omega,by omega,by omega⟩ b4
 obtain⟨b6,c6⟩:=Qc1 ht x.ref 8 (by omega) P6 ⟨by omega,by omega,by omega⟩ b5
 obtain⟨b7,c7⟩:=Qc1 ht x.c.pg 4 (by omega) P7 ⟨by omega,by omega,by omega⟩ b6
 obtain⟨b8,c8⟩:=Qc1 ht x.c.sl 1 (by omega) PH ⟨by omega,by omega,by omega⟩ b7
 obtain⟨b9,c9⟩:=QuU ht x.c.b i9 P8 b8
 obtain⟨b10,c10⟩:=QuU ht x.c.a i10 P9 b9
 obtain⟨b11,c11⟩:=Qc1 ht x.blob.length 4 (by omega) P10 ⟨by omega,by omega,by omega⟩ b10
 obtain⟨b12,c12⟩:=QrI ht hx b11 c11
 unfold Quy
 dsimp only
 refine⟨b12,fun e12=>?_⟩
 have e11:=QCW e12
 have e10:=Qic e11
 have e9:=Qza e10
 have e8:=Qza e9
 have e7:=Qic e8
 have e6:=Qic e7
 have e5:=Qic e6
 have e4:=Qic e5
 have e3:=Qic e4
 have e2:=Qic e3
 have e1:=Qic e2
 rw[c1 e1,c2 e2,c3 e3,c4 e4,c5 e5,c6 e6,c7 e7,c8 e8,c9 e9,c10 e10,c12 e12]
def QD7(x:E)(h:x.okB=true):QqL (Ql3 x)=(x,0):=by
 obtain⟨h1,h2⟩:=QD8 x h (J0 _) (J0 _)
 unfold QqL
 rcases h1 with⟨h3,h4⟩ | ⟨h3,h4⟩
 ·omega
 ·rw[if_pos h3,if_pos h4,h2 h3,if_pos h]
def QeY(h:e.okB=true):(Ql3 e).length<=8392:=by
 obtain⟨l1,l2,l3⟩:=QeG h
 have n1:=QbI (QaZ e) e.c.b
 have n2:=QbI (Qag (QaZ e) e.c.b) e.c.a
 rw[QdF] at n1
 unfold Ql3
 rw[Jb,Qb]
 omega
def Qy1(h:e.okB=true):frE e=frm (Ql3 e):=by unfold frE Qii; rw[if_pos h]
def Qv5(h:e.okB=true)(p r:List UInt8):QgQ (p++(frE e++r)) p.length e.lsn=some (e,((p.length+(frE e).length:Nat):Int)):=by
 have h1:=Qyy (QeY h) p r
 have h2:=QD7 e h
 have hl:=Qhp (QeY h)
 rw[Qy1 h]
 unfold QgQ
 rw[h1]
 dsimp only
 rw[h2,if_pos ⟨rfl,rfl,rfl⟩,hl]
def QyD(l:Int)(es:List E):Prop:=∀ i:Nat,i<es.length->(es.getD i E0).lsn=l+i/\(es.getD i E0).okB=true
def Qk0(h:QyD l (e::r)):e.lsn=l/\e.okB=true/\QyD (l+1) r:=by
 have h0:=h 0 (by simp)
 refine⟨by simpa using h0.1,by simpa using h0.2,fun i hi=>?_⟩
 have:=h (i+1) (by simpa using hi)
 simp only[JS] at this
 exact⟨by omega,this.2⟩
def QiM (r:List UInt8):∀ (es:List E) (p:List UInt8) (l:Int) (n:Nat),QyD l es->es.length<=n ->
 opn (p++(es.flatMap frE++r)) n p.length l=es++opn (p++(es.flatMap frE++r)) (n-es.length) ((p.length+(es.flatMap frE).length:Nat):Int) (l+es.length)
 | [],p,l,n,_,_=>by simp
 | e :: t,p,l,n,h,hn=>by
   obtain⟨h1,h2,h3⟩:=Qk0 h
   rw[Jm] at hn
   obtain⟨m,rfl⟩:∃ m,n=m+1:=⟨n-1,by omega⟩
   have hs:p++((e::t).flatMap frE++r)=p++(frE e++(t.flatMap frE++r)):=by rw[Js]; simp only[Jf]
   have hs2:p++((e::t).flatMap frE++r)=(p++frE e)++(t.flatMap frE++r):=by rw[Js]; simp only[Jf]
   have h4:=Qv5 h2 p (t.flatMap frE++r)
   rw[<- hs,h1] at h4
   have ih:=QiM r t (p++frE e) (l+1) m h3 (by omega)
   rw[<- hs2] at ih
   have e1:opn (p++((e::t).flatMap frE++r)) (m+1) p.length l=e::opn (p++((e::t).flatMap frE++r)) m ((p.length+(frE e).length:Nat):Int) (l+1):=by
    conv=>lhs; unfold opn
    rw[h4]
   rw[e1,<- Jb,ih,Jm,Js,Jb,Jb]
   rw[show m+1-(t.length+1)=m-t.length by omega,List.cons_append]
   congr 3
   ·omega
   ·omega
def QlO(r:List UInt8):unf (Qc9 f++r) 0=(Qk [80,77,76,71] f 8,20,0):=by
 have:=Qyy (q:=Qk [80,77,76,71] f 8) (by rw[Qb]; simp) [] r
 rw[JO] at this
 unfold Qc9
 rw[show(([]:List UInt8).length:Int)=0 from rfl] at this
 rw[this,Qb]
 rfl
def Qfp(f:Int):(Qc9 f).length=20:=by
 unfold Qc9
 rw[Qhp (by rw[Qb]; simp),Qb]; rfl
def Qxy(h:1<=f/\f<=1099511627776)(r:List UInt8):hdO (Qc9 f++r)/\Qne (unf (Qc9 f++r) 0).1 4 8=f:=by
 have h1:=QlO (f:=f) r
 have h2:Qne (Qk [80,77,76,71] f 8) 4 8=f:=Qtl _ [80,77,76,71] f 8 (by omega) (J0 _) ⟨by omega,by omega,by omega⟩
 unfold hdO
 rw[h1]
 dsimp only
 refine⟨⟨rfl,by rw[Qb]; rfl,?_,by omega,by omega⟩,h2⟩
 simp[Qk]
def Qlj(h:1<=f/\f<=1099511627776)(he:QyD f es)(hl:es.length<=4096)(r:List UInt8)(hr:es.length<4096->QgQ (Qc9 f++(es.flatMap frE++r)) ((20+(es.flatMap frE).length:Nat):Int) (f+es.length)=none):Qb4 (Qc9 f++(es.flatMap frE++r))=(⟨f,es,f+es.length-1⟩,0):=by
 obtain⟨h1,h2⟩:=Qxy h (es.flatMap frE++r)
 have h3:=QlO (f:=f) (es.flatMap frE++r)
 have h4:=QiM r es (Qc9 f) f 4096 he hl
 rw[Qfp] at h4
 have h5:QCy (Qc9 f++(es.flatMap frE++r))=es:=by
  unfold QCy
  rw[h2,h3]
  dsimp only
  refine h4.trans ?_
  by_cases hc:es.length<4096
  ·rw[Qop _ (hr hc),Jn]
  ·rw[show 4096-es.length=0 by omega]; exact Jn _
 unfold Qb4
 rw[if_pos h1,h2,h5]
def Qtv(h:lgB x=true):QyD x.f x.es:=by
 unfold lgB at h
 simp only[Jd,Ju,Jw] at h
 intro i hi
 have:=h.2 i hi
 simpa [lgC] using this
def QtX{α:Type}(l:List α)(n i:Nat)(h:i<n)(d:α):(l.take n).getD i d=l.getD i d:=by
 rw[Jj,Jj,Kc,if_pos h]
def Qr0(h:QyD l es)(n:Nat):QyD l (es.take n):=fun i hi=>by
 rw[Jk] at hi
 rw[QtX _ _ _ (by omega)]
 exact h i (by omega)
def Qhr:∀ (es:List E) (t:Nat),∃ j m,j<=es.length/\(es.flatMap frE).take t = (es.take j).flatMap frE ++ (frE (es.getD j E0)).take m/\(j < es.length->m < (frE (es.getD j E0)).length)/\(j = es.length->m = 0)
 | [],t=>⟨0,0,Jq _,by simp,fun h=>absurd h (by simp),fun _=>rfl⟩
 | e :: r,t=>by
   by_cases h:t<(frE e).length
   ·refine ⟨0,t,Jc _,?_,fun _=>by simpa using h,fun h=>absurd h (by simp)⟩
    rw[Js,List.take_append_of_le_length (by omega)]
    simp
   ·obtain ⟨j,m,h1,h2,h3,h4⟩:=Qhr r (t - (frE e).length)
    refine⟨j+1,m,by rw[Jm]; omega,?_,fun h=>?_,fun h=>?_⟩
    ·rw[Js,List.take_append,Ji (by omega),h2,Ka,Js,JS,Jf]
    ·rw [Jm] at h
     rw[JS]; exact h3 (by omega)
    ·rw [Jm] at h
     exact h4 (by omega)
def QfP:∀ (es:List E),QyD l es->l - 1<=d->d<=l + es.length - 1->(es.filter fun e=>decide (e.lsn<=d)) = es.take (d - l + 1).toNat/\(es.filter fun e=>!decide (e.lsn<=d)) = es.drop (d - l + 1).toNat
 | [],_,h1,h2=>by simp
 | e :: r,h,h1,h2=>by
   obtain⟨a1,a2,a3⟩:=Qk0 h
   rw[Jm] at h2
   by_cases hc:l<=d
   ·obtain ⟨b1,b2⟩:=QfP (d:=d) (l:=l + 1) r a3 (by omega) (by omega)
    obtain⟨k,hk,hk2⟩:∃ k,(d-l+1).toNat=k+1/\(d-(l+1)+1).toNat=k:=⟨(d-l).toNat,by omega,by omega⟩
    rw[hk2] at b1 b2
    rw[hk,Ka,List.drop_succ_cons,JG,JG,if_pos (by simp; omega),if_neg (by simp; omega),b1,b2]
    exact⟨rfl,rfl⟩
   ·have hk:(d - l + 1).toNat = 0:=by omega
    rw[hk,JD,List.drop_zero]
    have hall:∀ x∈(e::r),¬ x.lsn<=d:=fun x hx=>by
     obtain⟨i,hi,rfl⟩:=JP hx
     have:=(h i hi).1
     rw[Qd _ _ hi] at this
     omega
    refine⟨List.filter_eq_nil_iff.2 fun x hx=>by have:=hall x hx; simp; omega,Jt.2 fun x hx=>by have:=hall x hx; simp; omega⟩
def Qqh(h:lgB x=true)(torn:Int):∃ n,(x.d-x.f+1).toNat<=n/\n<=x.es.length/\Qb4 (Qdf x torn)=(⟨x.f,x.es.take n,x.f+n-1⟩,0):=by
 have hh:=Q9 h
 simp only[Lg.hd] at hh
 have hs:=Qtv h
 obtain⟨f1,f2⟩:=QfP (d:=x.d) (l:=x.f) x.es hs (by omega) (by omega)
 unfold Qdf
 rw[if_pos h]
 unfold QqK QsA
 rw[f1,f2]
 generalize hk:(x.d-x.f+1).toNat=k
 obtain⟨j,m,h1,h2,h3,h4⟩:=Qhr (x.es.drop k) torn.toNat
 rw[JF] at h1 h3 h4
 have hget:(x.es.drop k).getD j E0=x.es.getD (k+j) E0:=by
  rw[Jj,Jj,List.getElem?_drop]
 have htk:x.es.take k++(x.es.drop k).take j=x.es.take (k+j):=by rw[<- List.take_add]
 have hlen:(x.es.take (k+j)).length=k+j:=by rw[Jk]; omega
 refine⟨k+j,by omega,by omega,?_⟩
 rw[h2,hget,Jf,<- Jf,<- Jf,Jf,Jf,<- Jf (List.flatMap frE _),<- JQ,htk]
 have:=Qlj (f:=x.f) ⟨by omega,by omega⟩ (Qr0 hs (k+j)) (by rw[hlen]; omega) ((frE (x.es.getD (k+j) E0)).take m) (fun _=>QrW (by
  by_cases hc:j<x.es.length-k
  ·have h5:=h3 hc
   rw[hget] at h5
   have hok:=(hs (k+j) (by omega)).2
   rw[Qy1 hok] at h5 |-
   rw[Qhp (QeY hok)] at h5
   have:=QzU (QeY hok) (Qc9 x.f++(x.es.take (k+j)).flatMap frE) m h5
   rw[Jb,Qfp,Jf] at this
   rw[this]; decide
  ·rw [h4 (by omega),JD,Jn]
   have:=QzT (Qc9 x.f++(x.es.take (k+j)).flatMap frE)
   rw[Jb,Qfp] at this
   rw[this]; decide))
 rw[hlen] at this
 exact this
def Qth(s:List UInt8):(Qb4 s).1.es.length<=4096:=by
 unfold Qb4
 split
 ·exact Qtg _ _ _ _
 ·exact Jc _
def CrR(x:Lg)(n m:Int)(k:Kn):Prop:=lgB x=true/\(1<=n/\n<=64)/\∃ a lk,AnC x n x.es.length a/\kB (adK x (loF a lk) m)=true/\(adK x (loF a lk) m).pl.fs=[]/\Str 0 (adK x (loF a lk) m) k
def Qsm(v:Dv)(hv:v.ps.length<=64)(s:List UInt8)(hs:s.length<=100000000)(n m:Int):VCalls prog 110 [.agg v.d,.pv (.str s),.int .i64 n,.int .i64 m] [] (QG svD fun r=>r.1.sm/\(r.2=0->(Qb4 s).2=0/\CrR (Qb4 s).1 n m r.1.k)):=by
 refine dk Tryz.func110 ?_
 have c1:=QAu s hs
 have hl:=Qth s
 generalize Qb4 s=o at *
 obtain⟨x,e0⟩:=o
 dsimp only at hl c1 |-
 have c2:=QpI x hl n
 have c3:=fun a ha=>QwU x hl a ha m
 have err:∀ z,z≠0->QG svD (fun r=>r.1.sm/\(r.2=0->e0=0/\CrR x n m r.1.k)) (svD (Sv0,z)) []:=fun z hz=>⟨rfl,rfl,(Sv0,z),rfl,Qdk,fun h=>absurd h hz⟩
 (unfold Tryz.f110; refine rn trivial ?_)
 refine rn F ?_
 repeat' (first
  | with_reducible exact⟨⟩
  | (refine sB F ?_ ?_<;>intro hZ)
  | refine vp F (c1) ?_
  | (refine Qo (c2) rfl ?_; rintro⟨a,e1⟩ ha; refine rn F ?_)
  | (refine Qo (c3 a ha.1) rfl ?_; rintro⟨k,e2⟩ hk; refine rn F ?_))
 all_goals first
  | exact err _ (by assumption)
  | exact⟨rfl,rfl,(⟨k,v⟩,0),rfl,⟨hk.1,hv⟩,fun _=>⟨by assumption,by
   obtain⟨g1,g2,a0,lk,g3,g4⟩:=ha.2 (by assumption)
   have g5:=hk.2 (by assumption)
   dsimp only at g4
   subst g4
   exact⟨g1,g2,a0,lk,g3,g5⟩⟩⟩
  | skip
def Qsl(v:Dv)(hv:v.ps.length<=64)(s:List UInt8)(hs:s.length<=100000000)(n m:Int):VCalls prog 86 [.agg v.d,.pv (.str s),.int .i64 n,.int .i64 m] [] (QG svD fun r=>r.1.sm/\(r.2=0->(Qb4 s).2=0/\CrR (Qb4 s).1 n m r.1.k)):=by
 refine dk Tryz.func86 ?_
 have c1:=Qsm v hv s hs n m
 generalize Qb4 s=o at *
 (unfold Tryz.f86; refine rn trivial ?_)
 refine rn F ?_
 repeat' (first
  | with_reducible exact⟨⟩
  | (refine Qo (c1) rfl ?_; rintro⟨k,e⟩ hk; refine rn F ?_))
 all_goals first
  | exact⟨rfl,rfl,(k,e),rfl,hk⟩
  | skip
section
attribute [local go_sem] Qba
@[go_sem] def crD(a:Dv×Lg×Int):DV:=.tup [.agg a.1.d,.pv (.str (Qdf a.2.1 a.2.2))]
def crQ(s:Sv)(a:Dv×Lg×Int):Prop:=a.1.ps.length<=64/\a.2.1.f=s.k.lg.f/\a.2.1.es=s.k.lg.es/\(lgB s.k.lg=true->lgB a.2.1=true)
def Qsf(s:Sv)(hs:s.sm)(torn id cut:Int):VCalls prog 85 [.agg s.d,.int .i64 torn,.int .i64 id,.int .i64 cut] [] (QG crD (crQ s)):=by
 refine dk Tryz.func85 ?_
 have c1:=Qcz s.k.pl (Jh hs.1.2.1 (by decide)) id
 have hl:=hs.1.1
 have c2:=Qof s.k.lg (by omega) torn
 have c3:=fun d=>Qof ⟨s.k.lg.f,s.k.lg.es,d⟩ (by dsimp only; omega) torn
 have h0:crQ s (s.v,s.k.lg,torn):=⟨hs.2,rfl,rfl,fun h=>h⟩
 (unfold Tryz.f85; refine rn trivial ?_)
 refine rn F ?_
 repeat' (first
  | with_reducible exact⟨⟩
  | (refine Qc (id:=1) [0,1,2,3] [⟨[4,5],[4],6,[2,3],[]⟩,⟨[5],[5],7,[],[]⟩] (by kernel_rfl) (by kernel_rfl) ?_; refine rn F ?_))
 refine vp hl c1 ?_
 rcases QbT s.k.pl id with hn | ⟨_,i,hi,hfi,_⟩
 ·rw [hn]
  refine rn @hl ?_
  refine rn F ?_
  repeat' (first
   | with_reducible exact⟨⟩
   | refine vp F (c2) ?_
   | (refine Qc (id:=9) [0,1,2,3] [⟨[],[],4,[0,1],[]⟩,⟨[],[],5,[1,2,3],[]⟩,⟨[],[],6,[],[]⟩] (by kernel_rfl) (by kernel_rfl) ?_; refine rn F ?_))
  exact⟨rfl,rfl,(s.v,s.k.lg,torn),rfl,h0⟩
 ·rw [hfi]
  have hg:=Qb0 s.k.pl.fs i hi
  generalize s.k.pl.fs.getD i Fm0=f at *
  have c4:=QmV f.pg
  have c5:=Qew s.k hs.1 f.pg.lsn
  refine rn @hg ?_
  have c6:=fun b (hb:b.length<=256)=>QAg s.v (Jh hs.2 (by decide)) id b (Jh hb (by decide)) cut
  have F:=@hg
  refine rn F ?_
  repeat' (first
   | with_reducible exact⟨⟩
   | (refine sB F ?_ ?_<;>intro hZ)
   | refine vp F (c2) ?_
   | (refine Qo (c4) rfl ?_; rintro⟨b,e1⟩ hb; refine rn F ?_)
   | (refine Qo (c5) rfl ?_; rintro d hd; refine rn F ?_)
   | (refine Qo (c6 b hb) rfl ?_; rintro⟨v2,e2⟩ hv; refine rn F ?_)
   | refine vp F (c3 d) ?_
   | (refine Qc (id:=5) [0,1,2,3,4,5,6,7,8] [⟨[],[],9,[1,2,3,4,5,6,7],[]⟩,⟨[],[],10,[],[]⟩] (by kernel_rfl) (by kernel_rfl) ?_; refine rn F ?_)
   | (refine Qc (id:=9) [0,1,2,3] [⟨[],[],4,[0,1],[]⟩,⟨[],[],5,[1,2,3],[]⟩,⟨[],[],6,[],[]⟩] (by kernel_rfl) (by kernel_rfl) ?_; refine rn F ?_))
  all_goals first
   | exact⟨rfl,rfl,(s.v,s.k.lg,torn),rfl,h0⟩
   | exact⟨rfl,rfl,(v2,⟨s.k.lg.f,s.k.lg.es,d⟩,torn),rfl,hv,rfl,rfl,hd⟩
   | exact⟨rfl,rfl,(s.v,⟨s.k.lg.f,s.k.lg.es,d⟩,torn),rfl,hs.2,rfl,rfl,hd⟩
   | skip
end
section
attribute [local go_sem] Qba
def CrK(k k':Kn):Prop:=∃ j,j<=k.lg.es.length/\CrR ⟨k.lg.f,k.lg.es.take j,k.lg.f+j-1⟩ k.pg k.pl.size k'
structure ICr(I:Nat->Kn->Prop):Prop where
 st:QqN I
 ok:∀ m k,I m k->lgB k.lg=true
 cr:∀ m k k',CrK k k'->I m k->I (m+1) k'
def QBY(hI:ICr I)(hf:y.f=k.lg.f)(he:y.es=k.lg.es)(hv:lgB k.lg=true->lgB y=true)(h:CrR (Qb4 (Qdf y t)).1 k.pg k.pl.size k')(m:Nat)(hm:I m k):I (m+1) k':=by
 obtain⟨n,h1,h2,h3⟩:=Qqh (hv (hI.ok m k hm)) t
 rw[h3] at h
 dsimp only at h
 rw[hf,he] at h
 exact hI.cr m k k' ⟨n,by rw[<- he]; omega,h⟩ hm
def QuG(hx:x.es.length<=4096)(t:Int):(Qdf x t).length<=100000000:=by
 have h9:=QlP x.f
 have h8:=QoM x.es x.d
 have h7:=Qoe x.es x.d
 unfold Qdf
 split
 ·rw [Jb,Jb,Jk]
  omega
 ·exact Jc _
structure Tz(n:Nat) where
 i:Nat
 l:List Int
 hi:i<=n
 hl:l.length=n
def crI(I:Nat->Kn->Prop)(c:Sc)(n m:Nat)(c':Sc)(_:Rs):Prop:=m=0/\c'.sm n/\∀ q,I q c.s.k->I (q+1) c'.s.k
def QsM(I:Nat->Kn->Prop)(hIc:ICr I)(c:Sc)(n:Nat)(hn:n<=2000)(hc:c.sm n)(t:Sp):VCalls prog 71 [.ptr 0 0,.agg t.d] [scB c 1 2,scT c.tx,scR c.rd] (ScEnd rsD (crI I c n)):=by
 refine QK (fn:=Tryz.f71) Tryz.func71 rfl (by kernel_rfl) (by simp[Tryz.f71]) ?_
 have c1:=Qsf c.s hc.1 t.torn t.pg t.cut
 (unfold Tryz.f71; refine rn trivial ?_)
 refine rn F ?_
 repeat' (first
  | with_reducible exact⟨⟩
  | (refine Qo (c1) rfl ?_; rintro⟨v,y,tn⟩ hq; refine rn F ?_)
  | (refine Qa5 (id:=1) [[],[0],[0,1],[0,1,2],[],[4],[],[6],[],[8],[0,1,2,3,4,5,6,7,8,9],[0,1,2,3,4,5,6,7,8,9,10],[0,1,2,3,4,5,6,7,8,9,10,11],[0,1,2,3,4,5,6,7,8,9,10,11],[],[0,1,2,3,4,5,6,7,8,9,10,11,12,14],[0,1,2,3,4,5,6,7,8,9,10,11,12,13,14,15]] [0,1,2,3,4,5,6,7,8,9] [⟨[14],[],10,[],[11,12,13]⟩,⟨[14],[14],15,[13],[]⟩,⟨[],[],16,[],[]⟩] (by kernel_rfl) (by kernel_rfl) (by kernel_rfl) ?_; refine rn F ?_)
  | (refine Qa5 (id:=2) [[],[],[],[2],[2,3],[2,3,4],[2,3,4,5],[2,3,4,5,6],[],[8],[8,9],[8,9,10],[8,9,10,11],[8,9,10,11,12],[8,9,10,11,12,13],[0,1,2,3,4,5,6,7,8,9,10,11,12,13,14],[0,1,2,3,4,5,6,7,8,9,10,11,12,13,14,15],[0,1,2,3,4,5,6,7,8,9,10,11,12,13,14,15,16],[0,1,2,3,4,5,6,7,8,9,10,11,12,13,14,15,16],[],[0,1,2,3,4,5,6,7,8,9,10,11,12,13,14,15,16,17,19],[0,1,2,3,4,5,6,7,8,9,10,11,12,13,14,15,16,17,18,19,20]] [0,1,2,3,4,5,6,7,8,9,10,11,12,13,14] [⟨[19],[],15,[],[16,17,18]⟩,⟨[19],[19],20,[18],[]⟩,⟨[],[],21,[],[]⟩] (by kernel_rfl) (by kernel_rfl) (by kernel_rfl) ?_; refine rn F ?_))
 obtain⟨q1,q2,q3,q4⟩:=hq
 dsimp only at q1 q2 q3 q4
 have c2:=Qsl v q1 (Qdf y tn) (QuG (by rw[q3]; exact hc.1.1.1) tn) c.s.k.pg c.s.k.pl.size
 have hI:=fun(k':Kn) (h:CrR (Qb4 (Qdf y tn)).1 c.s.k.pg c.s.k.pl.size k')=>QBY hIc q2 q3 q4 h
 generalize Qdf y tn=str at *
 generalize Qb4 str=o at *
 refine rn F ?_
 repeat' (first
  | with_reducible exact⟨⟩
  | (refine Qo (c2) rfl ?_; rintro⟨s2,e⟩ hk; refine rn F ?_))
 obtain⟨k1,k2⟩:=hk
 dsimp only at k1 k2
 refine Qi (fun r:Tz c.tx.length=>⟨70,3,[(9,.int .i64 r.i),(8,.int .i64 e),(7,.ptr 4 0),(4,.ptr 3 0),(0,.ptr 0 0)],[scB ⟨c.s,r.l,c.rd,c.dead⟩ 1 2,scT r.l,scR c.rd,⟨118,true,[.int .i64 0,.int .i64 0,.int .i64 0,.bool false,.pv (.str []),.int .i64 0]⟩,⟨74,true,s2.d⟩]⟩) (fun r=>c.tx.length-r.i) ⟨0,c.tx,Jc _,rfl⟩ (gc [0,1,2,4,6]) ?_
 rintro⟨i,l,hi,hl⟩
 dsimp only
 have hsm:∀ (z:Sv) (d:Bool),z.sm->(⟨z,l,c.rd,d⟩:Sc).sm n:=fun z d hz=>⟨hz,by dsimp only; rw[hl]; exact hc.2.1,hc.2.2⟩
 have htx:=hc.2.1
 by_cases hil:i<c.tx.length
 ·have hil2:i < l.length:=by omega
  have hset:=QdK l i 0
  have F:=@hil2
  refine rn F ?_
  refine⟨⟨i+1,l.set i 0,hil,by rw[Km]; exact hl⟩,by dsimp only; omega,?_⟩
  dsimp only
  rw[Km]
  exact(gc [0,1,2,3,4])
 have hil2:¬ i<l.length:=by omega
 by_cases he:e=0
 ·subst he
  have c3:=Qev 0
  have F:=trivial
  refine rn F ?_
  repeat' (first
   | with_reducible exact⟨⟩
   | refine vp F (c3) ?_)
  exact QA ⟨70,3,[(4,.ptr 3 0)],[scB ⟨s2,l,c.rd,c.dead⟩ 1 2,scT l,scR c.rd,⟨118,true,(Qf2 0).d⟩]⟩ (gc [0,1,2,3]) ⟨⟨s2,l,c.rd,c.dead⟩,Qf2 0,_,rfl,rfl,.inl ⟨⟨rfl,hsm s2 _ k1,hI s2.k (k2 rfl).2⟩,rfl⟩⟩
 ·have c3:=Qev e
  have F:=@he
  refine rn F ?_
  repeat' (first
   | with_reducible exact⟨⟩
   | refine vp F (c3) ?_)
  exact QA ⟨70,3,[(4,.ptr 3 0)],[scB ⟨c.s,l,c.rd,true⟩ 1 2,scT l,scR c.rd,⟨118,true,(Qf2 e).d⟩]⟩ (gc [0,1,2,3]) ⟨⟨c.s,l,c.rd,true⟩,Qf2 e,_,rfl,rfl,.inl ⟨⟨rfl,hsm c.s _ hc.1,fun q=>hIc.st q 1 _ _ (Str.refl _)⟩,rfl⟩⟩
def Qwi(I:Nat->Kn->Prop)(hIc:ICr I)(c:Sc)(n:Nat)(hn:n<=2000)(hc:c.sm n)(t:Sp)(ht:t.kind=6):QhN I c n t:=by
 refine QK (fn:=Tryz.f46) Tryz.func46 rfl (by kernel_rfl) (by simp[Tryz.f46]) ?_
 obtain⟨k,tx,pg,torn,cut,a⟩:=t
 dsimp only at ht
 subst ht
 (unfold Tryz.f46; refine rn trivial ?_)
 refine QkI (c:=c) 0 1 2 (QsM I hIc c n hn hc ⟨6,tx,pg,torn,cut,a⟩) rfl rfl rfl (by decide) (by decide) (by decide) rfl rfl ?_ (fun _ _ h=>absurd h.1 (by decide)) (fun _ _ h=>absurd h.1 (by decide))
 rintro c1 r1 ⟨-,q1,q2⟩ B
 refine rn trivial ?_
 exact QA ⟨132,3,[(4,.ptr 3 0)],[scB c1 1 2,scT (Sc.tx c1),scR (Sc.rd c1),⟨118,true,Rs.d (r1)⟩]⟩ (gc [0,1,2,4]) ⟨c1,r1,_,rfl,rfl,.inl ⟨⟨⟨q1.1,Jg q1.2.1,Jg q1.2.2⟩,q2⟩,rfl⟩⟩
end
def QxS(hc:CkV c)(hd:CkV d)(h:QaI c=QaI d):c.nx=d.nx:=by
 have h1:=(Ql8 hc).1.2.2.1
 have h2:=(Ql8 hd).1.2.2.1
 rw[h,h2] at h1
 exact h1.symm
def Cor.ckE(h:Cor es pg nx tx ix L)(h1:e.tx=0)(h2:e.kind=6)(hn:0<nx)(ht:Qbw tx=true):Cor (es++[e]) pg nx tx ix L:=
 ⟨h.pgr,fun x hx=>by
  rcases Jp.1 hx with hx | hx
  ·exact h.ids x hx
  ·rw[Jl.1 hx,h1]; exact hn,fun t q=>(h.ok t q).other (by have:=QnV ht q; omega),fun x hx h0=>by
  rcases Jp.1 hx with hx | hx
  ·exact(h.all x hx h0).imp id fun q=>(Qdb _ _ _).2 (.inl q)
  ·rw[Jl.1 hx] at h0; omega,h.len,fun p hp=>by
  rw[Qa9 _ _ _ fun q=>by omega]; exact h.row p hp,fun p n q=>by
  rw[Qa9 _ _ _ fun q=>by omega]; exact h.la p n q,h.lt,fun x hx h7=>by
  rcases Jp.1 hx with hx | hx
  ·exact h.w7 x hx h7
  ·rw[Jl.1 hx] at h7; omega⟩
def Cor.zero(h1:1<=pg/\pg<=64)(L:Int->Int->Prop)(hL:∀ p n,¬ L p n):Cor [] pg nx [] (JJ pg.toNat Rw0) L:=
 ⟨h1,fun e h=>by simp at h,fun t h=>by simp at h,fun x h=>by simp at h,by rw [List.length_replicate]; omega,fun p hp=>by
  have:(JJ pg.toNat Rw0).getD p Rw0=Rw0:=by
   rw[Jj,List.getElem?_replicate]; split<;>rfl
  rw[this]
  exact⟨JR _,fun _=>rfl⟩,fun p n h=>absurd h (hL p n),fun p n h=>absurd h (hL p n),fun e h=>by simp at h⟩
def QA1(h1:1<=n)(h2:n<=64):KI (QqI n m):=
 ⟨QEz,rfl,LogOk.nil,Cor.zero ⟨h1,h2⟩ _ fun p n h=>by rcases h with⟨d,q,_⟩ | ⟨f,q,_⟩<;>simp[QqI] at q,fun f q=>by simp[QqI] at q⟩
def CkN(b:Int)(es:List E):Prop:=∀ e∈es,e.kind=6->∀ c,CkV c->e.blob=QaI c->c.nx<=b
def NoteR.cor(h:NoteR a e b)(hc:Cor es a.pg a.nx a.lo a.ix (LD a.la))(he:EnOk es e)(hlt:∀ x∈es,x.lsn<e.lsn):Cor (es++[e]) b.pg b.nx b.lo b.ix (LD b.la):=by
 obtain⟨h1,h2,h3,h4,h5,h6,h7,h8⟩:=h
 rw[h1,h3,h6]
 have h1':∀ p n,LD b.la p n->((e.kind=1\/e.kind=2)/\p=e.c.pg/\n=e.lsn)\/(LD a.la p n/\((e.kind=1\/e.kind=2)->p≠e.c.pg)):=fun p n q=>by
  by_cases hk:(e.kind=1\/e.kind=2)\/e.kind=7
  ·have D:=h8.2 hk
   obtain⟨d,d1,d2,d3⟩:=q
   rcases D.ha d d1 with⟨q1,q2⟩ | ⟨q1,q2,q3⟩ | ⟨q1,q2,z,q3,q4,q5,q6⟩
   ·exact .inr ⟨⟨d,q1,d2,d3⟩,fun _=>by rw[<- d2]; exact q2⟩
   ·exact .inl ⟨by simpa using q2,by omega,by omega⟩
   ·exact .inr ⟨⟨z,q3,by omega,by omega⟩,fun h=>by
    have:(e.kind==1||e.kind==2)=true:=by simpa using h
    rw[this] at q2; cases q2⟩
  ·rw [h8.1 (fun h=>hk (.inl h)) (fun h=>hk (.inr h))] at q
   exact .inr ⟨q,fun h=>absurd (.inl h) hk⟩
 have h2':∀ p,(∀ n,¬ LD b.la p n)->((∀ n,¬ LD a.la p n)\/(e.kind=7/\p=e.c.pg))/\((e.kind=1\/e.kind=2)->p≠e.c.pg):=fun p q=>by
  by_cases hk:(e.kind=1\/e.kind=2)\/e.kind=7
  ·have D:=h8.2 hk
   refine⟨?_,fun h hp=>?_⟩
   ·by_cases hp:p = e.c.pg
    ·by_cases h7':e.kind = 7
     ·exact .inr ⟨h7',hp⟩
     ·have hc1:e.kind = 1\/e.kind = 2:=hk.resolve_right h7'
      obtain⟨y,y1,y2⟩:=D.hc rfl (by simpa using hc1)
      exact absurd ⟨y,y1,by omega,rfl⟩ (q y.last)
    ·refine .inl fun n ⟨d,d1,d2,d3⟩=>q n ⟨d,?_,d2,d3⟩
     exact D.hb d (by rw[Kj]; exact d1) (by omega)
   ·obtain ⟨y,y1,y2⟩:=D.hc rfl (by simpa using h)
    exact q y.last ⟨y,y1,by omega,rfl⟩
  ·rw [h8.1 (fun h=>hk (.inl h)) (fun h=>hk (.inr h))] at q
   exact⟨.inl q,fun h=>absurd (.inl h) hk⟩
 have h3':e.kind=7->∀ n,¬ LD b.la e.c.pg n:=fun h7' n ⟨d,d1,d2,d3⟩=>by
  have D:=h8.2 (.inr h7')
  rcases D.ha d d1 with⟨q1,q2⟩ | ⟨q1,q2,q3⟩ | ⟨q1,q2,z,q3,q4,q5,q6⟩
  ·exact q2 d2
  ·have:e.kind = 1\/e.kind = 2:=by simpa using q2
   omega
  ·have:=hc.la e.c.pg z.last ⟨z,q3,q4,rfl⟩
   have:=he.ix h7'
   omega
 have hn:a.nx<=max a.nx (e.tx+1):=by omega
 rcases h4 with⟨q1,q2,q3⟩ | ⟨q1,q0,q2,q3⟩
 ·have hl1:=(Qti (Qc2 q2).2)
  have hls:=Qtj (Qc2 q2).2
  rw[q3]
  exact hc.add he.ix hlt (by omega) q2 h5 hn (by omega) h1' h2' h3'
 ·have hls:=Qtj (Qc2 q2).2
  rw[q3]
  have hfr:∀ x∈es,x.tx≠e.tx:=fun x hx hxe=>by
   rcases hc.all x hx (by omega) with⟨t,t1,t2⟩ | q
   ·have:=(Qj2 (l:=a.lo) (a:=e.tx)).2 (Kq.2 ⟨t,t1,by omega⟩)
    omega
   ·rw[hxe] at q; exact he.ne q1.1 q
  exact(hc.beginT (JR _) q0 hfr).add he.ix hlt (by omega) q2 h5 hn (by omega) h1' h2' h3'
section
attribute [local go_sem] cb cc
def Qz3(c:C)(m n:Nat)(h1:1<=m)(h2:m<=1000)(h3:1<=n)(h4:n<=1000):VCalls prog 47 [.ptr 0 0,.int .i64 m,.int .i64 n,.bool true] [cb c] (CX fun r=>∃ t:Sp,r=.agg t.d):=by
 refine dd Tryz.func47 ?_
 (unfold Tryz.f47; refine rn trivial ?_)
 refine rn F ?_
 repeat' (first
  | with_reducible exact⟨⟩
  | (refine sB F ?_ ?_<;>intro hZ)
  | (refine QaL (k:=0) (QaB _ 16 (by omega) (by omega)) rfl rfl ?_; rintro _ _ ⟨_,rfl,_⟩; refine rn F ?_)
  | (refine QaL (k:=0) (QaB _ 4 (by omega) (by omega)) rfl rfl ?_; rintro _ _ ⟨_,rfl,_⟩; refine rn F ?_)
  | (refine QaL (k:=0) (QaB _ 90 (by omega) (by omega)) rfl rfl ?_; rintro _ _ ⟨_,rfl,_⟩; refine rn F ?_)
  | (refine QaL (k:=0) (QaB _ 257 (by omega) (by omega)) rfl rfl ?_; rintro _ _ ⟨_,rfl,_⟩; refine rn F ?_)
  | (refine QaL (k:=0) (QaB _ m (by omega) (by omega)) rfl rfl ?_; rintro _ _ ⟨_,rfl,_⟩; refine rn F ?_)
  | (refine QaL (k:=0) (QaB _ n (by omega) (by omega)) rfl rfl ?_; rintro _ _ ⟨_,rfl,_⟩; refine rn F ?_)
  | (refine QaL (k:=0) (QyP _ ((m:Int)+1) (by omega) (by omega)) rfl rfl ?_; rintro _ _ ⟨_,rfl,_⟩; refine rn F ?_)
  | (refine QaL (k:=0) (Qyo _ m h1 h2) rfl rfl ?_; rintro _ _ ⟨_,rfl,_⟩; refine rn F ?_))
 all_goals exact⟨_,rfl,rfl,Qca _,rfl,⟨⟨_,_,_,_,_,⟨_,_,_,_⟩⟩,rfl⟩,_,rfl⟩
structure Sd1(most:Nat) where
 k:Nat
 c:C
 l:List Sp
 hk:k+l.length<=most+2
def Qwa(c:C)(m most:Nat)(h1:1<=m)(h2:m<=1000)(hm:most<=1000):VCalls prog 36 [.ptr 0 0,.int .i64 m,.int .i64 most,.bool true] [cb c] (CX fun r=>∃ l:List Sp,r=.pv (.sl (fz QnA l))/\l.length<=most+2):=by
 refine dd Tryz.func36 ?_
 (unfold Tryz.f36; refine rn trivial ?_)
 refine QaL (k:=0) (c:=c) (QyP c ((most:Int)+1) (by omega) (by omega)) rfl rfl ?_
 rintro _ c1 ⟨k,rfl,hk⟩
 refine rn trivial ?_
 refine Qi (fun s:Sd1 most=>⟨30,1,[(10,.int .i64 s.k),(9,.own 1 9 0 s.l.length),(3,.bool true),(1,.int .i64 m),(0,.ptr 0 0)],[cb s.c,⟨123,true,cells QnA s.l⟩]⟩) (fun s=>s.k) ⟨k,c1,[spB,spB],by simp; omega⟩ (gc [0,1]) ?_
 rintro⟨k,c2,l,hk⟩
 dsimp only
 have hb:(l.length+1)*80<=140737488355328:=by omega
 by_cases hc:0<k
 ·obtain ⟨k,rfl⟩:∃ k':Nat,k = k' + 1:=⟨k - 1,by omega⟩
  have hkk:((k+1:Nat):Int)-1=k:=by omega
  have F:=(Ja @hb @hkk)
  refine rn F ?_
  refine QaL (k:=0) (c:=c2) (Qz3 c2 m 5 h1 h2 (by omega) (by omega)) rfl rfl ?_
  rintro _ c3 ⟨t,rfl⟩
  have F:=(Ja @hb (Ja @QFS @hkk))
  refine rn F ?_
  have hl2:(l++[t]).length=l.length+1:=by simp
  refine⟨⟨k,c3,l++[t],by rw[hl2]; omega⟩,by dsimp only; omega,?_⟩
  dsimp only
  rw[hl2]
  exact(gc [0,3])
 ·skip
  have F:=@hb
  refine rn F ?_
  exact⟨_,rfl,rfl,Qca _,rfl,⟨l,rfl,by omega⟩,_,rfl⟩
def Qpu(I:Nat->Kn->Prop)(hI:ICr I)(h0:∀ n m:Int,1<=n->n<=4->1<=m->m<=64->I 0 (QqI n m))(c:C)(most:Nat)(hm:most<=1000):VCalls prog 20 [.ptr 0 0,.int .i64 most,.bool true] [cb c] (CX fun r=>∃ s:Sv,r=.agg s.d/\s.sm/\∃ i,i<=most+2/\I i s.k):=by
 refine dd Tryz.func20 ?_
 (unfold Tryz.f20; refine rn trivial ?_)
 refine QaL (k:=0) (c:=c) (QaB c 4 (by omega) (by omega)) rfl rfl ?_
 rintro _ c1 ⟨x,rfl,hx⟩
 obtain⟨m,hm1,hm2⟩:∃ m:Nat,1+(x:Int)=m/\m<=4:=⟨1+x,by omega,by omega⟩
 refine rn @hm1 ?_
 refine QaL (k:=0) (c:=c1) (QaB c1 3 (by omega) (by omega)) rfl rfl ?_
 rintro _ c2 ⟨y,rfl,hy⟩
 refine rn trivial ?_
 refine Qo (QC9 m (1+y) (by omega) (by omega)) rfl ?_
 rintro⟨s,e⟩ ⟨hs,he,hg⟩
 dsimp only at hs he hg
 subst he
 refine rn F ?_
 repeat' (first
  | with_reducible exact⟨⟩
  | (refine Qc (id:=3) [0,1,2,3,4] [⟨[],[],5,[0],[]⟩,⟨[],[],6,[1,2,3,4],[7,8,9,10]⟩,⟨[],[],11,[9,10],[]⟩] (by kernel_rfl) (by kernel_rfl) ?_; refine rn F ?_))
 refine QaL (k:=0) (c:=c2) (Qwa c2 m most (by omega) (by omega) hm) rfl rfl ?_
 rintro _ c3 ⟨l,rfl,hl⟩
 have c9:=QDb I hI.st s hs l (fun i _ hk c n hn hc=>Qwi I hI c n hn hc _ hk)
 refine rn trivial ?_
 refine Qo c9 rfl ?_
 rintro⟨s1,out,rd⟩ ⟨q1,q2⟩
 refine rn trivial ?_
 exact⟨_,rfl,rfl,Qca _,rfl,⟨s1,rfl,q1,by
  obtain⟨i,q3,q4⟩:=q2 (by rw[hg]; exact h0 _ _ (by omega) (by omega) (by omega) (by omega))
  exact⟨i,by omega,q4⟩⟩,_,rfl⟩
def QtD(I:Nat->Kn->Prop)(hI:ICr I)(h0:∀ n m:Int,1<=n->n<=4->1<=m->m<=64->I 0 (QqI n m))(c:C)(most:Nat)(hm:most<=1000):VCalls prog 7 [.ptr 0 0,.int .i64 most,.bool true] [cb c] (CX fun r=>∃ k:Kn,r=.agg k.d/\k.sm/\∃ i,i<=most+2/\I i k):=by
 refine dd Tryz.func7 ?_
 (unfold Tryz.f7; refine rn trivial ?_)
 refine QaL (k:=0) (c:=c) (Qpu I hI h0 c most hm) rfl rfl ?_
 rintro _ c1 ⟨s,rfl,hs,hi⟩
 refine rn trivial ?_
 exact⟨_,rfl,rfl,Qca _,rfl,⟨s.k,rfl,hs.1,hi⟩,_,rfl⟩
end
def AnC.cor (h:AnC x n i a) (hv:lgB x = true) (hf:x.f = 1) (hlog:LogOk x.es) (hb1:1<=b) (hb2:∀ e ∈ x.es,e.tx < b) (hb3:CkN b x.es) (hn:1<=n/\n<=64):
 a.pg=n/\a.nx<=b/\∃ m:Nat,a.cp=m/\m<=x.es.length/\Cor (x.es.take (max i m)) n a.nx a.lo a.ix (LD a.la):=by
 induction h with
 | @init a h =>
   obtain⟨h1,h2⟩:=h
   refine⟨h1,?_⟩
   rcases h2 with⟨_,q2,q3,q4,q5,q6⟩ | ⟨i0,l1,l2,l3,l4,l5⟩
   ·refine ⟨by omega,0,by omega,Jc _,?_⟩
    rw[Nat.max_self,JD,q4,q6]
    exact Cor.zero hn _ fun p m ⟨d,q,_⟩=>by rw[q5] at q; simp at q
   ·have hat:=Qbv hv l1
    have hm:x.es.getD i0 E0∈x.es:=by rw[Qd _ _ l1]; exact Jv l1
    rcases(hlog i0 l1).ck l2 with q | ⟨c,c1,c2,c3⟩
    ·exact absurd q l4
    obtain⟨g1,g2,g3,g4,g5⟩:=l5 c c1 c2
    have hnx:=hb3 _ hm l2 c c1 c2
    refine⟨by omega,i0+1,by rw[l3,hat.1,hf]; omega,l1,?_⟩
    rw[Nat.max_eq_right (Jc _),Je l1,<- Qd _ _ l1 E0,g2,g3,g4,g5,<- g1]
    refine c3.ckE ?_ l2 (by have:=c1.2.1; omega) c1.2.2.1
    by_cases h:(x.es.getD i0 E0).tx=0
    ·exact h
    ·have:=QeH hat.2 h; omega
 | @skip i a h hi hl ih =>
   obtain⟨h1,h2,m,h3,h4,h5⟩:=ih
   have hat:=(Qbv hv hi).1
   refine⟨h1,h2,m,h3,h4,?_⟩
   rw[show max (i+1) m=max i m by omega]
   exact h5
 | @note i a b' h hi hl hr ih =>
   obtain⟨h1,h2,m,h3,h4,h5⟩:=ih
   have hat:=(Qbv hv hi).1
   obtain⟨r1,r2,r3,_⟩:=id hr
   have hm:x.es.getD i E0∈x.es:=by rw[Qd _ _ hi]; exact Jv hi
   have:=hb2 _ hm
   refine⟨by omega,by omega,m,by omega,h4,?_⟩
   rw[show max i m=i by omega,<- h1] at h5
   rw[show max (i+1) m=i+1 by omega,Je hi,<- Qd _ _ hi E0]
   have hc:=hr.cor h5 (hlog i hi) fun y hy=>by
    obtain⟨j,hj,rfl⟩:=J8.1 hy
    rw[Jk] at hj
    rw[Kf]
    have:=(Qbv hv (i:=j) (by omega)).1
    rw[Qd _ _ (by omega)] at this
    omega
   rw[r1,h1] at hc
   exact hc
def QEu(hv:lgB x=true)(hf:x.f=1)(hlog:LogOk x.es)(hfs:(adK x (loF a lk) m).pl.fs=[])(hc:Cor x.es a.pg a.nx a.lo a.ix (LD a.la)):KI (adK x (loF a lk) m):=by
 have hL:∀ p n,LkK (adK x (loF a lk) m) p n ↔ LD a.la p n:=fun p n=>by
  unfold LkK
  rw[hfs]
  constructor
  ·rintro (h | ⟨f,h,_⟩)
   ·exact h
   ·simp at h
  ·intro h; exact .inl h
 have hc2:=hc.weak (JR _) (L':=LkK (adK x (loF a lk) m)) (fun p n q=>(hL p n).1 q) fun p q n h=>q n ((hL p n).2 h)
 refine⟨hv,hf,hlog,hc2.same (JR _) (fun t q=>hc.ok t (JI.1 q).1) fun y hy h0 ⟨t,q1,q2⟩=>⟨t,JI.2 ⟨q1,?_⟩,q2⟩,fun f q=>by rw[hfs] at q; simp at q⟩
 have:=QlG x.es (a:=t.id) (fun z hz=>(Qhi hv hf hz).1) ⟨y,hy,q2.symm⟩
 have:=(hc.ok t q1).n
 simp
 omega
def CkN.snoc(h:CkN b es)(he:e.kind=6->∀ c,CkV c->e.blob=QaI c->c.nx<=b):CkN b (es++[e]):=fun x hx=>by
 rcases Jp.1 hx with hx | hx
 ·exact h x hx
 ·rw[Jl.1 hx]; exact he
def CkN.mono(h:CkN b es)(hb:b<=b'):CkN b' es:=fun e he h6 c hc hq=>Int.le_trans (h e he h6 c hc hq) hb
def c16(e:E):Bool:=decide (e.kind=1)||decide (e.kind=6)
structure CI(m:Nat)(k:Kn):Prop where
 nx:k.nx<=1+m
 ck:CkN (1+m) k.lg.es
 n16:(k.lg.es.filter c16).length<=m
 no8:∀ e∈k.lg.es,e.kind≠8
def CI.mono(h:CI m k)(hm:m<=m'):CI m' k:=⟨by have:=h.nx; omega,h.ck.mono (by omega),Jh h.n16 hm,h.no8⟩
def CI.app(h:CI m k)(ha:AddOk k e e')(h1:k'.nx=k.nx)(h2:k'.lg.es=k.lg.es++[e'])(h6:e'.kind=6->∀ c,CkV c->e'.blob=QaI c->c.nx<=1+(m+n:Nat))(hn:e.kind=1\/e.kind=6->1<=n)(h8:e.kind≠8):CI (m+n) k':=by
 have s:=ha.2.1.1
 refine⟨by rw[h1]; have:=h.nx; omega,by rw[h2]; exact(h.ck.mono (by omega)).snoc h6,?_,fun x hx=>?_⟩
 ·rw [h2,JB,Jb]
  have:=h.n16
  by_cases hc:c16 e'=true
  ·have hk:e.kind = 1\/e.kind = 6:=by unfold c16 at hc; rw [s] at hc; simpa using hc
   have:=hn hk
   rw[List.filter_cons_of_pos hc,J5,Jr]
   omega
  ·rw [List.filter_cons_of_neg hc,J5,JC]
   omega
 ·rw [h2] at hx
  rcases Jp.1 hx with hx | hx
  ·exact h.no8 x hx
  ·rw[Jl.1 hx,s]; exact h8
def CI.add(h:CI m k)(ha:AddOk k e e')(h1:k'.nx=k.nx)(h2:k'.lg.es=k.lg.es++[e'])(hk:e.kind=2\/e.kind=3\/e.kind=4\/e.kind=5\/e.kind=7):CI m k':=
 h.app (n:=0) ha h1 h2 (fun q=>by have:=ha.2.1.1; omega) (fun q=>by omega) (by omega)
def Stp.ci (h:Stp n k k') (hc:CI m k):CI (m + n) k':=by
 cases h with
 | begin v hb=>exact⟨by have:=hc.nx; show k.nx+1<=_; omega,hc.ck.mono (by omega),Jg hc.n16,hc.no8⟩
 | fin ha h3 hf=>exact hc.add ha rfl rfl (by omega)
 | ckpt ha h6 hk =>
   refine hc.app ha rfl rfl (fun _ c c1 c2=>?_) (fun _=>Jq _) (by omega)
   rw[ha.2.1.2.2.2.2] at c2
   rcases hk with q | ⟨c0,q1,q2,q3⟩
   ·have:=(Ql8 c1).1.1
    rw[<- c2,q] at this
    simp at this
   ·have:=QxS c1 q2 (c2.symm.trans q3)
    rw[this,q1.nx]
    have:=hc.nx
    omega
 | @change _ e e' ha h1 hs hu=>exact hc.app (k':=k.set e') ha rfl rfl (fun q=>by have:=ha.2.1.1; omega) (fun _=>Jq _) (by omega)
 | undo ha h2 hs hu=>exact hc.add ha rfl rfl (by omega)
 | wrt ha h7 hw=>exact hc.add ha rfl rfl (by omega)
 | lock u=>exact⟨hc.nx,hc.ck,hc.n16,hc.no8⟩
 | save a h=>exact⟨hc.nx,hc.ck,hc.n16,hc.no8⟩
 | back a b h=>exact⟨hc.nx,hc.ck,hc.n16,hc.no8⟩
 | rem a hi hn=>exact⟨hc.nx,hc.ck,hc.n16,hc.no8⟩
 | pool p hs=>exact⟨hc.nx,hc.ck,hc.n16,hc.no8⟩
 | drop a h=>exact⟨hc.nx,hc.ck,hc.n16,hc.no8⟩
 | put x v hr hl _ _=>exact⟨hc.nx,hc.ck,hc.n16,hc.no8⟩
 | putl x v hr hl _ _=>exact⟨hc.nx,hc.ck,hc.n16,hc.no8⟩
 | force d h=>exact⟨hc.nx,hc.ck,hc.n16,hc.no8⟩
def Str.ci(h:Str n k k')(hc:CI m k):CI (m+n) k':=by
 induction h generalizing m with
 | refl k=>exact hc.mono (by omega)
 | step _ h2 ih=>rw[<- Nat.add_assoc]; exact h2.ci (ih hc)
def CrK.go(h:CrK k k')(hk:KI k)(hc:CI m k):KI k'/\CI m k':=by
 obtain⟨j,hj,hv,hn,a,lk,h1,h2,h3,h4⟩:=h
 have hsub:∀ e∈k.lg.es.take j,e∈k.lg.es:=fun e he=>List.mem_of_mem_take he
 have hckn:CkN (1+m) (k.lg.es.take j):=fun e he=>hc.ck e (hsub e he)
 have hnx:=hc.nx
 obtain⟨g1,g2,mm,g3,g4,g5⟩:=h1.cor hv hk.f (hk.log.take j) (b:=1+m) (by omega) (fun e he=>by have:=hk.cor.ids e (hsub e he); omega) hckn hn
 dsimp only at g4 g5
 rw[Ji (l:=k.lg.es.take j) (by omega),<- g1] at g5
 have hK:=QEu (lk:=lk) (m:=k.pl.size) hv hk.f (hk.log.take j) h3 g5
 have:=h4.ci (m:=m) ⟨g2,hckn,Jh ((List.take_sublist j k.lg.es).filter _).length_le hc.n16,fun e he=>hc.no8 e (hsub e he)⟩
 exact⟨h4.KI hK,this⟩
def I0(m:Nat)(k:Kn):Prop:=KI k/\CI m k
def QF1:ICr I0:=
 ⟨fun n m k k' h hi=>⟨h.KI hi.1,h.ci hi.2⟩,fun m k h=>h.1.lg,fun m k k' h hi=>by
  obtain⟨h1,h2⟩:=h.go hi.1 hi.2
  exact⟨h1,h2.mono (by omega)⟩⟩
def QEB(n m:Int)(h1:1<=n)(h2:n<=4):I0 0 (QqI n m):=⟨QA1 h1 (by omega),⟨by show(1:Int)<=_; omega,fun e he=>by simp[QqI,Lg1] at he,by simp[QqI,Lg1],fun e he=>by simp[QqI,Lg1] at he⟩⟩
def QtC(c:C)(most:Nat)(hm:most<=1000):VCalls prog 7 [.ptr 0 0,.int .i64 most,.bool true] [cb c] (CX fun r=>∃ k:Kn,r=.agg k.d/\k.sm/\KI k/\CI (most+2) k):=
 (QtD I0 QF1 (fun n m h1 h2 _ _=>QEB n m h1 h2) c most hm).mono fun r h' ⟨B',e1,e2,e3,e4,⟨k,q1,q2,i,q3,q4,q5⟩,e5⟩=>⟨B',e1,e2,e3,e4,⟨k,q1,q2,q4,q5.mono q3⟩,e5⟩
def Qbj(es:List E)(h:j<es.length):es.take (j+1)=es.take j++[es.getD j E0]:=by
 rw[Je h,Qd _ _ h]
def Qxd{es:List E}(h:y∈es.take j):∃ k,k<j/\k<es.length/\es.getD k E0=y:=by
 obtain⟨k,hk,rfl⟩:=J8.1 h
 rw[Jk] at hk
 exact⟨k,by omega,by omega,by rw[Qd _ _ (by omega),Kf]⟩
section
attribute [local go_sem] Ce.d Ch.d E.d
theorem Qvt:vt prog 79=some none:=by kernel_rfl
theorem Qvs:vt prog 80=some none:=by kernel_rfl
theorem um1:prog.underlying 79=some (.map 3 99):=by kernel_rfl
theorem um2:prog.underlying 80=some (.map 3 3):=by kernel_rfl
def QDO:KeyT prog 3 kI:=Qxq (by kernel_rfl)
theorem z1:QqO prog 99=some (.pointer none):=by kernel_rfl
theorem z2:QqO prog 3=some (.int .i64 0):=by kernel_rfl
theorem z3:QqO prog 4=some (.bool false):=by kernel_rfl
attribute [local go_sem] Qvt Qvs
def ckC(f:Int)(bt bp bu:Nat):List DV:=[.int .i64 f,.pv (.lit (.map (some bt))),.pv (.lit (.map (some bp))),.pv (.lit (.map (some bu)))]
def QlR:List (Int×Int)->Int->Option Int
 | [],_=>none
 | (a,x)::r,k=>if a=k then some x else QlR r k
def Qvl:List (Int×Int)->Int->Int->List (Int×Int)
 | [],k,v=>[(k,v)]
 | (a,x)::r,k,v=>if a=k then (a,v)::r else (a,x)::Qvl r k v
def Qnl(L:List (Int×Int)):List (Int×DV):=L.map fun p=>(p.1,.int .i64 p.2)
def QyY (L:List (Int × Int)) (k:Int):QhP (Qnl L) k = (QlR L k).map fun x=>DV.int .i64 x:=by
 induction L with
 | nil=>rfl
 | cons p r ih =>
   obtain⟨a,x⟩:=p
   unfold Qnl at ih |-
   simp only[JM,QhP,QlR,ih]
   split<;>rfl
def QDt (L:List (Int × Int)) (k v:Int):QiL (Qnl L) k (.int .i64 v) = Qnl (Qvl L k v):=by
 induction L with
 | nil=>rfl
 | cons p r ih =>
   obtain⟨a,x⟩:=p
   unfold Qnl at ih |-
   simp only[JM,QiL,Qvl]
   split
   ·rfl
   ·rw[ih]; rfl
def QDV(L:List (Int×Int))(k:Int):(QhP (Qnl L) k).getD (.int .i64 0)=.int .i64 ((QlR L k).getD 0):=by rw[QyY]; cases QlR L k<;>rfl
def QDU(L:List (Int×Int))(k:Int):(QhP (Qnl L) k).isSome=(QlR L k).isSome:=by rw[QyY]; cases QlR L k<;>rfl
def pagedB(f:Int)(L:List (Int×Int))(e:E):Bool:=match QlR L e.c.pg with
 | none=>decide (e.ppg<f)
 | some x=>decide (e.ppg=x)
def Qx1(hp:Qa)(g:MapsD)(kc bt bp bu:Nat)(f:Int)(e:E)(L:List (Int×Int))(hk:kc<hp.length)(hc:Qg hp kc=some (ckC f bt bp bu))(hg:(bp,QdQ kI (Qnl L))∈g) :
 VCallsG prog 39 [.ptr kc 0,.agg e.d] hp g (fun r h' g'=>r=.bool (pagedB f L e)/\(∃ x,h'=hp++[x])/\g'=g.map fun p=>if p.1=bp then (bp,QdQ kI (Qnl (Qvl L e.c.pg e.lsn))) else p):=by
 refine Qfb (fn:=Tryz.f39) Tryz.func39 rfl (by kernel_rfl) (by simp[Tryz.f39]) (fun c=>?_)
 unfold ckC at hc
 refine VWpG.first (Ql c) ?_
 (unfold Tryz.f39; refine rn trivial ?_)
 refine VWpG.seq ?_
 refine VWpG.drawn (k:=7) (f:=6) (Ql c) (by kernel_rfl) (by kernel_rfl) (by kernel_rfl) (by kernel_rfl) rfl ?_; refine Qgu (by kernel_rfl) ?_
 refine rn (Ja @hk @hc) ?_
 refine Qhy (zv:=.int .i64 0) (L:=Qnl L) (k:=e.c.pg) rfl rfl um2 QDO (QgV z2) (Qi9 rfl) rfl hg (Qhl rfl) ?_
 rw[QDV,QDU]
 refine rn trivial ?_
 refine VWpG.seq ?_
 refine VWpG.drawn (k:=9) (f:=6) (Ql c) (by kernel_rfl) (by kernel_rfl) (by kernel_rfl) (by kernel_rfl) rfl ?_; refine Qgu (by kernel_rfl) ?_
 refine rn (Ja @hk @hc) ?_
 refine QoP (L:=Qnl L) (k:=e.c.pg) rfl rfl um2 QDO rfl hg (Qhl rfl) ?_
 refine rn trivial ?_
 rw[QDt]
 refine VWpG.seq ?_
 refine VWpG.first (Ql c) ?_
 refine rn trivial ?_
 refine VWpG.cond rfl (fun hZ=>?_) (fun hZ=>?_)
 ·refine VWpG.plain (Ql c) ?_
  refine rn trivial ?_
  refine QfZ (by kernel_rfl) (by kernel_rfl) ?_
  refine rn (Ja @hk @hc) ?_
  refine⟨?_,_,rfl⟩
  unfold pagedB
  cases h:QlR L e.c.pg with
  | none=>rfl
  | some x=>simp[h] at hZ
 ·refine VWpG.plain (Ql c) ?_
  refine rn trivial ?_
  refine VWpG.plain (Ql c) ?_
  refine rn trivial ?_
  refine⟨?_,_,rfl⟩
  unfold pagedB
  cases h:QlR L e.c.pg with
  | none=>simp[h] at hZ
  | some x=>exact congrArg DV.bool (Bool.beq_eq_decide_eq _ _)
def rnC(last:Int)(ea ab en:Bool)(p:DV):List DV:=[.int .i64 last,.bool ea,.bool ab,.bool en,p]
def QuA(hp:Qa)(g:MapsD)(kc bt bp bu:Nat)(f:Int)(e:E)(L:List (Int×DV))(hk:kc<hp.length)(hc:Qg hp kc=some (ckC f bt bp bu))(hg:(bt,QdQ kI L)∈g)(hn:QhP L e.tx=none) :
 VCallsG prog 38 [.ptr kc 0,.agg e.d] hp g (fun r h' g'=>r=.bool (decide (e.ptx<f))/\(∃ x,h'=hp++[x]++[⟨101,true,rnC e.lsn (decide (0<e.ptx)) false false (.pv (.slc []))⟩])/\g'=g.map fun p=>if p.1=bt then (bt,QdQ kI (QiL L e.tx (.ptr (hp.length+1) 0))) else p):=by
 refine Qfb (fn:=Tryz.f38) Tryz.func38 rfl (by kernel_rfl) (by simp[Tryz.f38]) (fun c=>?_)
 unfold ckC at hc
 refine VWpG.first (Ql c) ?_
 (unfold Tryz.f38; refine rn trivial ?_)
 refine VWpG.seq ?_
 refine VWpG.drawn (k:=6) (f:=6) (Ql c) (by kernel_rfl) (by kernel_rfl) (by kernel_rfl) (by kernel_rfl) rfl ?_; refine Qgu (by kernel_rfl) ?_
 refine rn (Ja @hk @hc) ?_
 refine Qhy (zv:=.pointer none) (L:=L) (k:=e.tx) rfl rfl um1 QDO (QgV z1) (Qi9 rfl) rfl hg (Qhl rfl) ?_
 rw[hn]
 refine rn trivial ?_
 refine VWpG.seq ?_
 refine VWpG.first (Ql c) ?_
 refine rn trivial ?_
 refine VWpG.cond rfl (fun hZ=>?_) (fun hZ=>?_)
 ·refine VWpG.seq ?_
  refine VWpG.drawn (k:=13) (f:=6) (Ql c) (by kernel_rfl) (by kernel_rfl) (by kernel_rfl) (by kernel_rfl) rfl ?_; refine Qqz [0,1,2,3,4,5,6,7,8,9,10,11] [⟨[],[],12,[0,1,2,3,4,5,6,7,8,9,10],[]⟩] (by kernel_rfl) ?_
  refine rn (Ja @hk @hc) ?_
  refine QoP (L:=L) (k:=e.tx) rfl rfl um1 QDO rfl hg (Qhl rfl) ?_
  refine rn trivial ?_
  refine VWpG.plain (Ql c) ?_
  refine rn trivial ?_
  refine QfZ (by kernel_rfl) (by kernel_rfl) ?_
  refine rn (Ja @hk @hc) ?_
  exact⟨_,rfl⟩
 ·simp at hZ
end
section
attribute [local go_sem] Ce.d Ch.d E.d QhO Qi6 Qiz Qix QiS Qdi
@[local go_sem] def Ch.inv (x:Ch):Ch:=⟨x.pg,x.sl,x.a,x.b⟩
@[local go_sem] def E.q (x:E):List PV:=[.lit (.int .i64 x.lsn),.lit (.int .i64 x.kind),.lit (.int .i64 x.tx),.lit (.int .i64 x.ptx),.lit (.int .i64 x.ppg),.lit (.int .i64 x.ref),.lit (.int .i64 x.c.pg),.lit (.int .i64 x.c.sl),.lit (.bool x.c.b.set),.str x.c.b.data,.lit (.bool x.c.a.set),.str x.c.a.data,.str x.blob]
@[local go_sem] def l2 (a b:List E):List (List PV):=[[.sl (fz Q5 a)],[.sl (fz Q5 b)]]
structure C2(a b:List E) where
 i:Nat
 hi:i<=2
def C2.n{a b:List E}(s:C2 a b):Nat:=match s.i with | 0=>0 | 1=>a.length | _=>a.length+b.length
def C2.l{a b:List E}(s:C2 a b):List E:=match s.i with | 0=>[] | 1=>a | _=>a++b
theorem C2.n1(a b:List E)(h:1<=2):(⟨1,h⟩:C2 a b).n=a.length:=rfl
theorem C2.n2(a b:List E)(h:2<=2):(⟨2,h⟩:C2 a b).n=a.length+b.length:=rfl
theorem C2.l0(a b:List E)(h:0<=2):(⟨0,h⟩:C2 a b).l=[]:=rfl
theorem C2.l1(a b:List E)(h:1<=2):(⟨1,h⟩:C2 a b).l=a:=rfl
theorem C2.l2(a b:List E)(h:2<=2):(⟨2,h⟩:C2 a b).l=a++b:=rfl
end
section
attribute [local go_sem] Ce.d Ch.d E.d QhO Qi6 Qiz Qix QiS Qdi Qvt Qvs E.q Ch.inv JA
def QGJ(U:List Int):List (Int×DV):=U.map fun x=>(x,.bool true)
def QFs(U:List Int)(x:Int):List Int:=if x∈U then U else U++[x]
def QcK(e x:E):Bool:=decide (x.lsn >= e.ref)
def QC8(e x:E):Bool:=decide (x.c.pg=e.c.pg)&&decide (x.c.sl=e.c.sl)
def QER(P:List E)(j:Nat):List E:=P.take j++P.drop (j+1)
def eqC(x y:Ch):Bool:=x.pg==y.pg&&(x.sl==y.sl&&(x.b.set==y.b.set&&(x.b.data==y.b.data&&(x.a.set==y.a.set&&x.a.data==y.a.data))))
end
section
attribute [local go_sem] Ce.d Ch.d E.d QhO Qi6 Qiz Qix QiS Qdi Qvt Qvs E.q Ch.inv JA QI Q7
end
section
attribute [local go_sem] Ce.d Ch.d E.d QhO Qi6 Qiz Qix QiS Qdi Qvt Qvs E.q JA QaE Qal
def QEy(hp:Qa)(kp:Nat)(P:List E)(p:DV):Prop:=(P=[]/\p=.pv (.slc []))\/(p=.own kp 13 0 P.length/\kp<hp.length/\hp[kp]?=some ⟨57,true,cells Q5 P⟩)
def RunOk(hp:Qa)(k kp:Nat)(la:Int)(ea ab en:Bool)(P:List E):Prop:=k<hp.length/\∃ p,Qg hp k=some (rnC la ea ab en p)/\QEy hp kp P p
def QGN(e:E)(ea ab:Bool)(P:List E):Bool:=(!ab||decide (e.kind=5))&&(!decide (e.kind=5)||(ab||ea)&&P.isEmpty)
def nP(e:E)(P:List E):List E:=if e.kind=1 then P++[e] else P
def nab(e:E)(ab:Bool):Bool:=ab||decide (e.kind=4)
def nen(e:E)(en:Bool):Bool:=en||decide (e.kind=3)||decide (e.kind=5)
end
section
attribute [local go_sem] Ce.d Ch.d E.d QhO Qi6 Qiz Qix QiS Qdi Qvt Qvs E.q JA QaE Qal
end
section
attribute [local go_sem] Ce.d Ch.d E.d QhO Qi6 Qiz Qix QiS Qdi Qvt Qvs E.q JA QaE Qal
def QES (f:Int) (U:List Int) (P:List E) (e:E):Bool:=!decide (e.ref ∈ U) && (if P.any (QcK e) = true then
    (if f<=e.ref then decide ((P.getD (P.findIdx (QcK e)) E0).lsn=e.ref)&&(eqC (P.getD (P.findIdx (QcK e)) E0).c.inv e.c&&!(P.drop (P.findIdx (QcK e)+1)).any (QC8 e)) else !(P.drop (P.findIdx (QcK e))).any (QC8 e))
 else decide (e.ref<f))
def QF8(f:Int)(P:List E)(e:E):List E:=if f<=e.ref then QER P (P.findIdx (QcK e)) else P
def RunOk.app(h:RunOk hp k kp la ea ab en P):RunOk (hp++r) k kp la ea ab en P:=by
 obtain⟨h1,p,h2,h3⟩:=h
 refine⟨by rw[Jb]; omega,p,by rw[Qbt h1]; exact h2,?_⟩
 rcases h3 with h | ⟨e1,e2,e3⟩
 ·exact .inl h
 ·exact .inr ⟨e1,by rw[Jb]; omega,by rw[List.getElem?_append_left e2]; exact e3⟩
end
section
attribute [local go_sem] Ce.d Ch.d E.d QhO Qi6 Qiz Qix QiS Qdi Qvt Qvs E.q JA QaE Qal
def QdV(x:E):Bool:=x.kind==1||x.kind==2
def ckG(bt bp bu:Nat)(L:List (Int×DV))(Pg:List (Int×Int))(U:List Int):MapsD:=[(bt,QdQ kI L),(bp,QdQ kI (Qnl Pg)),(bu,QdQ kI (QGJ U))]
def Qv0(f:Int)(U:List Int)(e:E)(ea ab:Bool)(P:List E):Bool:=if e.kind=2 then QES f U P e else QGN e ea ab P
def QvZ(f:Int)(e:E)(P:List E):List E:=if e.kind=2 then QF8 f P e else nP e P
def QvY(U:List Int)(e:E):List Int:=if e.kind=2 then QFs U e.ref else U
end
def RunP(hp:Qa)(k:Nat)(kpo:Option Nat)(la:Int)(ea ab en:Bool)(P:List E):Prop:=k<hp.length/\match kpo with
 | none=>P=[]/\Qg hp k=some (rnC la ea ab en (.pv (.slc [])))
 | some kp=>Qg hp k=some (rnC la ea ab en (.own kp 13 0 P.length))/\kp<hp.length/\hp[kp]?=some ⟨57,true,cells Q5 P⟩
def RunP.ok(h:RunP hp k kpo la ea ab en P):RunOk hp k (kpo.getD (hp.length+7)) la ea ab en P:=by
 obtain⟨h1,h2⟩:=h
 cases kpo with
 | none=>exact⟨h1,_,h2.2,.inl ⟨h2.1,rfl⟩⟩
 | some kp=>exact⟨h1,_,h2.1,.inr ⟨rfl,h2.2.1,h2.2.2⟩⟩
def RunP.fr(h:RunP hp k kpo la ea ab en P)(hf:FrH hp h' A)(hk:¬ A k)(hkp:∀ kp,kpo=some kp->¬ A kp):RunP h' k kpo la ea ab en P:=by
 obtain⟨h1,h2⟩:=h
 have hb:=Qqu (hf.same k h1 hk)
 refine⟨Kd h1 hf.len,?_⟩
 cases kpo with
 | none=>exact⟨h2.1,by rw[hb]; exact h2.2⟩
 | some kp=>exact⟨by rw[hb]; exact h2.1,Kd h2.2.1 hf.len,by rw[hf.same kp h2.2.1 (hkp kp rfl)]; exact h2.2.2⟩
structure Tr where
 tx:Int
 last:Int
 ea:Bool
 ab:Bool
 en:Bool
 P:List E
structure Ck where
 T:List Tr
 Pg:List (Int×Int)
 U:List Int
def setT:List Tr->Tr->List Tr
 | [],t=>[t]
 | a::r,t=>if a.tx=t.tx then t::r else a::setT r t
def Ql0(T:List Tr)(x:Int):Option Tr:=T.find? fun t=>decide (t.tx=x)
def ckB(f:Int)(A:Ck)(e:E):Bool:=if e.tx=0 then true else match Ql0 A.T e.tx with
 | some t=>(decide (e.ptx=t.last)&&!t.en)&&((!QdV e||pagedB f A.Pg e)&&Qv0 f A.U e t.ea t.ab t.P)
 | none=>decide (e.ptx<f)&&((!QdV e||pagedB f A.Pg e)&&Qv0 f A.U e (decide (0<e.ptx)) false [])
def ckS(f:Int)(A:Ck)(e:E):Ck:=if e.tx=0 then A else match Ql0 A.T e.tx with
 | some t=>⟨setT A.T ⟨e.tx,e.lsn,t.ea,nab e t.ab,nen e t.en,QvZ f e t.P⟩,if QdV e=true then Qvl A.Pg e.c.pg e.lsn else A.Pg,QvY A.U e⟩
 | none=>⟨setT A.T ⟨e.tx,e.lsn,decide (0<e.ptx),nab e false,nen e false,QvZ f e []⟩,if QdV e=true then Qvl A.Pg e.c.pg e.lsn else A.Pg,QvY A.U e⟩
structure TX where
 t:Tr
 k:Nat
 kp:Option Nat
def TX.pos(x:TX):List Nat:=x.k::x.kp.toList
def QGO(X:List TX):List (Int×DV):=X.map fun x=>(x.t.tx,.ptr x.k 0)
structure RepX(f:Int)(kc bt bp bu:Nat)(hp:Qa)(X:List TX):Prop where
 hk:kc<hp.length
 hc:Qg hp kc=some (ckC f bt bp bu)
 run:∀ x∈X,RunP hp x.k x.kp x.t.last x.t.ea x.t.ab x.t.en x.t.P
 nd:(kc::X.flatMap TX.pos).Nodup
def Rep(f:Int)(kc bt bp bu:Nat)(n:Nat)(hp:Qa)(g:MapsD)(A:Ck):Prop:=∃ X:List TX,X.map (·.t)=A.T/\g=ckG bt bp bu (QGO X) A.Pg A.U/\RepX f kc bt bp bu hp X/\∀ t∈A.T,t.P.length<=n
def RunP.ne(h:RunP hp k (some kp) la ea ab en P):kp≠k:=fun e=>by
 obtain⟨_,h1,_,h2⟩:=h
 rw[e] at h2
 have:=Qye h2
 rw[h1] at this
 have:=congrArg List.length (Kt.inj this)
 rw[QhO] at this
 simp[rnC] at this
 omega
section
attribute [local go_sem] Ce.d Ch.d E.d QhO Qi6 Qiz Qix QiS Qdi Qvt Qvs E.q JA
attribute [local go_sem] Lg.c
theorem QF3:QO prog 83=some [.pv (.lit (.int .i64 0)),.pv (.lit (.map none)),.pv (.lit (.map none)),.pv (.lit (.map none))]:=by kernel_rfl
attribute [local go_sem] QF3
def Rep.app(h:Rep f kc bt bp bu n hp g A)(r:Qa):Rep f kc bt bp bu n (hp++r) g A:=by
 obtain⟨X,h1,h2,h3,h4⟩:=h
 refine⟨X,h1,h2,⟨by rw[Jb]; have:=h3.hk; omega,by rw[Qbt h3.hk]; exact h3.hc,fun x hx=>(h3.run x hx).fr ((FrH.refl hp (fun _=>False)).app r) id fun _ _=>id,h3.nd⟩,h4⟩
def Rep.le(h:Rep f kc bt bp bu n hp g A)(hm:n<=m):Rep f kc bt bp bu m hp g A:=by
 obtain⟨X,h1,h2,h3,h4⟩:=h
 exact⟨X,h1,h2,h3,fun t ht=>Jh (h4 t ht) hm⟩
def ckL(f:Int):Ck->List E->Bool
 | _,[]=>true
 | A,e::r=>ckB f A e&&ckL f (ckS f A e) r
def ckA(f:Int):Ck->List E->Ck
 | A,[]=>A
 | A,e::r=>ckA f (ckS f A e) r
def Ck0:Ck:=⟨[],[],[]⟩
def WeakG.trans(h:WeakG Γ S g S' g')(h':WeakG Γ S' g' S'' g''):WeakG Γ S g S'' g'':=fun O β a w hs=>by
 obtain⟨β',hs'⟩:=h O β a w hs
 exact h' O β' a w hs'
structure CL(x:Lg)(bt bp bu:Nat) where
 i:Nat
 hi:i<=x.es.length
 hp:Qa
 g:MapsD
 rep:Rep x.f 1 bt bp bu i hp g (ckA x.f Ck0 (x.es.take i))
 ok:ckL x.f Ck0 (x.es.take i)=true
end
section
attribute [local go_sem] Ce.d Ch.d E.d Lg.c QI Q7
def exE(es:List E)(i:Nat)(p:E->Bool):Bool:=!(Ke i).all fun k=>!p (es.getD k E0)
def QeT(es:List E)(i:Nat)(p:E->Bool):exE es (i+1) p=(exE es i p||p (es.getD i E0)):=by
 unfold exE
 rw[Ko,List.all_append]
 simp[Bool.not_and]
def undp(n:Int)(x:E):Bool:=decide (x.kind=2)&&decide (x.ref=n)
def Qyz(es:List E)(i:Nat)(n:Int):Bool:=exE es i (undp n)
def Qc6(es:List E)(pg:Int):Nat->Int
 | 0=>0
 | k+1=>if QdV (es.getD k E0)=true/\(es.getD k E0).c.pg=pg then (es.getD k E0).lsn else Qc6 es pg k
def QcD(es:List E)(tx:Int):Nat->Int
 | 0=>0
 | k+1=>if (es.getD k E0).tx=tx then (es.getD k E0).lsn else QcD es tx k
def Qvf(es:List E)(tx:Int):Nat->Bool
 | 0=>false
 | k+1=>if (es.getD k E0).tx=tx then (Qvf es tx k||decide ((es.getD k E0).kind=4)) else Qvf es tx k
def QxR(tx:Int)(x:E):Bool:=decide (x.tx=tx)&&(decide (x.kind=3)||decide (x.kind=5))
def Qvp(f tx:Int)(x:E):Bool:=decide (x.tx=tx)&&(decide (0<x.ptx)&&decide (x.ptx<f))
attribute [local go_sem] QhH Qc8 Qcn QaE Qal
end
section
attribute [local go_sem] Ce.d Ch.d E.d Lg.c QI Q7
attribute [local go_sem] QhH Qc8 Qcn QaE Qal
end
section
attribute [local go_sem] Ce.d Ch.d E.d Lg.c QI Q7
attribute [local go_sem] QhH Qc8 Qcn QaE Qal
end
section
attribute [local go_sem] Ce.d Ch.d E.d Lg.c QI Q7
end
structure EOk(f:Int)(k:Nat)(e:E):Prop where
 lsn:e.lsn=f+k
 ptx:0<=e.ptx/\e.ptx<e.lsn
 ref:0<=e.ref/\e.ref<e.lsn
 tx:(1<=e.tx/\(e.kind=1\/e.kind=2\/e.kind=3\/e.kind=4\/e.kind=5))\/(e.tx=0/\e.kind≠1/\e.kind≠2/\e.kind≠3/\e.kind≠4/\e.kind≠5)
 sl:e.kind=2->0<=e.c.sl
structure Wf(f:Int)(es:List E):Prop where
 f1:1<=f
 ok:∀ k,k<es.length->EOk f k (es.getD k E0)
def Wf.of(h:lgB x=true):Wf x.f x.es:=by
 refine⟨(Q9 h).1,fun k hk=>?_⟩
 unfold lgB at h
 rw[Jd,Ju] at h
 have h2:=h.2 k (Jw.2 hk)
 unfold lgC at h2
 rw[Jd] at h2
 have h3:=of_decide_eq_true h2.1
 have h4:=h2.2
 generalize x.es.getD k E0=e at *
 unfold E.okB bef at h4
 simp only[Jd,decide_eq_true_eq] at h4
 obtain⟨⟨⟨⟨_,a1⟩,_⟩,a2⟩,a3⟩:=h4
 refine⟨h3,a1,a2,?_,?_⟩
 ·unfold E.kindB txB at a3
  split at a3
  ·simp at a3; omega
  split at a3
  ·simp at a3; omega
  split at a3
  ·simp at a3; omega
  split at a3
  ·simp at a3; omega
  split at a3
  ·simp at a3; omega
  ·cases a3
 ·intro hk
  unfold E.kindB at a3
  rw[if_neg (by omega),if_pos hk] at a3
  unfold Ch.okB at a3
  simp at a3
  omega
def QBR:exE es i p=true ↔ ∃ k,k<i/\p (es.getD k E0)=true:=by
 unfold exE
 rw[Bool.not_eq_true',List.all_eq_false]
 simp
def exE_iff':exE es i p=false ↔ ∀ k,k<i->p (es.getD k E0)=false:=by
 rw[Bool.eq_false_iff,Ne,QBR]
 simp
def Qem(es:List E)(i:Nat)(n:Int):Qyz es (i+1) n=(Qyz es i n||undp n (es.getD i E0)):=QeT _ _ _
def before(es:List E)(i:Nat):List E:=(Ke i).map fun k=>es.getD k E0
def QnF(es:List E)(i:Nat):before es (i+1)=before es i++[es.getD i E0]:=by
 unfold before
 rw[Ko,List.map_append]
 rfl
def QpP:y∈before es i ↔ ∃ k,k<i/\es.getD k E0=y:=by
 unfold before
 simp
def Qkc(W:Wf f es)(hi:i<=es.length):(before es i).Pairwise fun a b=>a.lsn<b.lsn:=by
 unfold before
 rw[List.pairwise_map]
 refine List.Pairwise.imp_of_mem ?_ List.pairwise_lt_range
 intro a b ha hb h
 have ha:=Jw.1 ha
 have hb:=Jw.1 hb
 rw[(W.ok a (by omega)).lsn,(W.ok b (by omega)).lsn]
 omega
def QjL(es:List E)(i:Nat)(x:Int):List E:=(before es i).filter fun e=>decide (e.kind=1)&&(decide (e.tx=x)&&!Qyz es i e.lsn)
def mem_penL:y∈QjL es i x ↔ (∃ k,k<i/\es.getD k E0=y)/\y.kind=1/\y.tx=x/\Qyz es i y.lsn=false:=by
 unfold QjL
 rw[JI,QpP]
 simp
def Qg7(W:Wf f es)(hi:i<=es.length)(x:Int):(QjL es i x).Pairwise fun a b=>a.lsn<b.lsn:=(Qkc W hi).filter _
def QvU(W:Wf f es)(hi:i<es.length):Qyz es i (f+i)=false:=by
 unfold Qyz
 rw[exE_iff']
 intro k hk
 have h:=W.ok k (by omega)
 unfold undp
 have h1:=h.ref.2
 rw[h.lsn] at h1
 rw[Bool.and_eq_false_iff]
 exact .inr (decide_eq_false (by omega))
def QiO (W:Wf f es) (x:Int):∀ i,i<=es.length->(QcD es x i = 0/\∀ k,k < i->(es.getD k E0).tx ≠ x)\/(f<=QcD es x i/\∃ k,k < i/\(es.getD k E0).tx = x)
 | 0,_=>.inl ⟨rfl,fun k hk=>by omega⟩
 | i + 1,hi=>by
   rw[QcD]
   have h:=(W.ok i (by omega)).lsn
   by_cases hx:(es.getD i E0).tx=x
   ·rw [if_pos hx]
    exact .inr ⟨by omega,i,by omega,hx⟩
   ·rw [if_neg hx]
    rcases QiO W x i (by omega) with⟨h1,h2⟩ | ⟨h1,k,h2,h3⟩
    ·refine .inl ⟨h1,fun k hk=>?_⟩
     by_cases hki:k=i
     ·rw[hki]; exact hx
     ·exact h2 k (by omega)
    ·exact .inr ⟨h1,k,by omega,h3⟩
def QxE (L:List (Int × Int)) (a v b:Int):QlR (Qvl L a v) b = if a = b then some v else QlR L b:=by
 induction L with
 | nil=>simp[Qvl,QlR]
 | cons q r ih =>
   obtain⟨k,x⟩:=q
   unfold Qvl
   by_cases h:k=a
   ·subst h
    simp only[if_pos,QlR]
    split<;>simp
   ·rw [if_neg h]
    simp only[QlR]
    rw[ih]
    by_cases h2:k=b
    ·subst h2
     rw[if_pos rfl,if_neg (fun e=>h e.symm),if_pos rfl]
    ·rw[if_neg h2,if_neg h2]
def Qxe(U:List Int)(a b:Int):b∈QFs U a ↔ b∈U\/b=a:=by
 unfold QFs
 split
 ·constructor
  ·exact .inl
  ·rintro (h | rfl)
   ·exact h
   ·assumption
 ·simp
def QlZ (T:List Tr) (t:Tr) (x:Int):Ql0 (setT T t) x = if t.tx = x then some t else Ql0 T x:=by
 unfold Ql0
 induction T with
 | nil=>simp[setT,J6]; split<;>simp_all
 | cons a r ih =>
   unfold setT
   by_cases h:a.tx=t.tx
   ·rw [if_pos h]
    simp only[J6]
    rw[h]
    by_cases h2:t.tx=x
    ·simp[h2]
    ·simp[h2]
   ·rw [if_neg h]
    simp only[J6]
    rw[ih]
    by_cases h2:a.tx=x
    ·subst h2
     simp[Ne.symm h]
    ·simp[h2]
def QoN (e:E):∀ (P:List E),P.Pairwise (fun a b=>a.lsn < b.lsn)->P.drop (P.findIdx (QcK e)) = P.filter (QcK e)
 | [],_=>rfl
 | a :: r,h=>by
   rw[JU] at h
   rw[Kg,JG]
   cases ha:QcK e a
   ·simpa using QoN e r h.2
   ·have:r.filter (QcK e) = r:=Jt.2 fun b hb=>by
     have:=h.1 b hb
     unfold QcK at ha |-
     simp at ha |-
     omega
    simp[this]
def QnO (e:E):∀ (P:List E),P.Pairwise (fun a b=>a.lsn < b.lsn)->P.any (QcK e) = true->(P.getD (P.findIdx (QcK e)) E0).lsn = e.ref->QER P (P.findIdx (QcK e)) = P.filter fun y=>!decide (y.lsn = e.ref)
 | [],_,h,_=>by cases h
 | a :: r,h,hq,hl=>by
   rw[JU] at h
   rw[Kg] at hl |-
   rw[JG]
   cases ha:QcK e a
   ·rw [ha] at hl
    have hq:r.any (QcK e)=true:=by simpa [ha] using hq
    have hl:(r.getD (r.findIdx (QcK e)) E0).lsn=e.ref:=by simpa using hl
    have:=QnO e r h.2 hq hl
    unfold QER at this |-
    have hne:a.lsn≠e.ref:=by unfold QcK at ha; simp at ha; omega
    simp[hne]
    simpa using this
   ·rw [ha] at hl
    have hl:a.lsn=e.ref:=by simpa using hl
    have:r.filter (fun y=>!decide (y.lsn=e.ref))=r:=Jt.2 fun b hb=>by
     have:=h.1 b hb
     simp
     omega
    simp[QER,hl,this]
structure Inv(f:Int)(es:List E)(i:Nat)(A:Ck):Prop where
 pg:∀ p,QlR A.Pg p=if Qc6 es p i=0 then none else some (Qc6 es p i)
 un:∀ n,n∈A.U ↔ Qyz es i n=true
 no:∀ x,1<=x->Ql0 A.T x=none->∀ k,k<i->(es.getD k E0).tx≠x
 so:∀ x t,1<=x->Ql0 A.T x=some t->QcD es x i≠0/\t.last=QcD es x i/\t.ab=Qvf es x i/\t.en=exE es i (QxR x)/\t.ea=exE es i (Qvp f x)/\t.P=QjL es i x
def Qos:∀ {i:Nat},(∀ k,k < i->(es.getD k E0).tx ≠ x)->QcD es x i = 0/\Qvf es x i = false
 | 0,_=>⟨rfl,rfl⟩
 | i + 1,h=>by
   rw[QcD,Qvf,if_neg (h i (by omega)),if_neg (h i (by omega))]
   exact Qos fun k hk=>h k (by omega)
def QyO(h:∀ k,k<i->(es.getD k E0).tx≠x):exE es i (QxR x)=false/\exE es i (Qvp f x)=false/\QjL es i x=[]:=by
 refine⟨exE_iff'.2 fun k hk=>?_,exE_iff'.2 fun k hk=>?_,?_⟩
 ·unfold QxR; rw[decide_eq_false (h k hk)]; rfl
 ·unfold Qvp; rw[decide_eq_false (h k hk)]; rfl
 ·rw [List.eq_nil_iff_forall_not_mem]
  intro y hy
  obtain⟨⟨k,hk,rfl⟩,_,h2,_⟩:=mem_penL.1 hy
  exact h k hk h2
def QEd (W:Wf f es) (I:Inv f es i A) (e:E) (ht:1<=e.tx):
 ckB f A e=((if QcD es e.tx i=0 then decide (e.ptx<f) else decide (e.ptx=QcD es e.tx i)&&!exE es i (QxR e.tx))&&((!QdV e||pagedB f A.Pg e)&&Qv0 f A.U e (if QcD es e.tx i=0 then decide (0<e.ptx) else exE es i (Qvp f e.tx)) (Qvf es e.tx i) (QjL es i e.tx))) /\
 ckS f A e=⟨setT A.T ⟨e.tx,e.lsn,if QcD es e.tx i=0 then decide (0<e.ptx) else exE es i (Qvp f e.tx),nab e (Qvf es e.tx i),nen e (exE es i (QxR e.tx)),QvZ f e (QjL es i e.tx)⟩,if QdV e=true then Qvl A.Pg e.c.pg e.lsn else A.Pg,QvY A.U e⟩:=by
 unfold ckB ckS
 have h0:e.tx≠0:=by omega
 rw[if_neg h0,if_neg h0]
 cases hT:Ql0 A.T e.tx with
 | none =>
   have hn:=I.no e.tx ht hT
   obtain⟨h1,h2⟩:=Qos hn
   obtain⟨h3,h4,h5⟩:=QyO (f:=f) hn
   rw[h1,h2,h3,h5]
   exact⟨rfl,rfl⟩
 | some t =>
   obtain⟨h0,h1,h2,h3,h4,h5⟩:=I.so e.tx t ht hT
   simp only[h1,h2,h3,h4,h5,if_neg h0]
   exact⟨trivial,trivial⟩
def QjK(W:Wf f es)(hi:i<=es.length)(h:y∈QjL es i x):∃ k,k<i/\es.getD k E0=y/\y.lsn=f+k:=by
 obtain⟨⟨k,hk,rfl⟩,_⟩:=mem_penL.1 h
 exact⟨k,hk,rfl,(W.ok k (by omega)).lsn⟩
def Qw2(W:Wf f es)(hi:i<=es.length)(h:y∈QjL es i x)(h':y'∈QjL es i x')(e:y.lsn=y'.lsn):y=y':=by
 obtain⟨k,_,rfl,h1⟩:=QjK W hi h
 obtain⟨k',_,rfl,h2⟩:=QjK W hi h'
 obtain rfl:k=k':=by omega
 rfl
def Qxv{P:List E}{e:E}(hs:P.Pairwise fun a b=>a.lsn<b.lsn)(ha:P.any (QcK e)=true) :
 P.getD (P.findIdx (QcK e)) E0∈P/\QcK e (P.getD (P.findIdx (QcK e)) E0)=true/\P.filter (QcK e)=P.getD (P.findIdx (QcK e)) E0::P.drop (P.findIdx (QcK e)+1)/\∀ y∈P.drop (P.findIdx (QcK e)+1),(P.getD (P.findIdx (QcK e)) E0).lsn<y.lsn:=by
 have hj:P.findIdx (QcK e)<P.length:=List.findIdx_lt_length_of_exists (by simpa using ha)
 have hd:=QoN e P hs
 have hc:P.drop (P.findIdx (QcK e))=P.getD (P.findIdx (QcK e)) E0::P.drop (P.findIdx (QcK e)+1):=by
  rw[Qd P _ hj,List.drop_eq_getElem_cons hj]
 rw[hc] at hd
 have hm:P.getD (P.findIdx (QcK e)) E0∈P.filter (QcK e):=by rw[<- hd]; exact List.mem_cons_self
 have hsf:=hs.filter (QcK e)
 rw[<- hd,JU] at hsf
 exact⟨(JI.1 hm).1,(JI.1 hm).2,hd.symm,hsf.1⟩
def Qlf(W:Wf f es)(hi:i<es.length)(x:Int):QjL es (i+1) x=(QjL es i x).filter (fun y=>!undp y.lsn (es.getD i E0))++(if (es.getD i E0).kind=1/\(es.getD i E0).tx=x then [es.getD i E0] else []):=by
 unfold QjL
 rw[QnF,JB,List.filter_filter]
 congr 1
 ·refine Kh fun y _=>?_
  rw[Qem]
  cases decide (y.kind=1)<;>cases decide (y.tx=x)<;>cases Qyz es i y.lsn<;>cases undp y.lsn (es.getD i E0)<;>rfl
 ·have hf:=QvU W hi
  have hl:=(W.ok i hi).lsn
  rw[<- hl] at hf
  rw[JG,J5,Qem,hf]
  generalize es.getD i E0=e at *
  by_cases h1:e.kind=1
  ·by_cases h2:e.tx = x
   ·simp[h1,h2,undp]
   ·simp[h1,h2]
  ·simp[h1]
def Qlg(W:Wf f es)(hi:i<es.length)(x:Int)(h1:¬ ((es.getD i E0).kind=1/\(es.getD i E0).tx=x))(h2:(es.getD i E0).kind=2->∀ y∈QjL es i x,y.lsn≠(es.getD i E0).ref):QjL es (i+1) x=QjL es i x:=by
 rw[Qlf W hi,if_neg h1,Jn]
 refine Jt.2 fun y hy=>?_
 unfold undp
 by_cases hk:(es.getD i E0).kind=2
 ·rw [decide_eq_false (show ¬ (es.getD i E0).ref = y.lsn from fun h=>h2 hk y hy h.symm),JW]
  rfl
 ·rw [decide_eq_false hk]
  rfl
def QnP(h:QES f U P e=true)(hf:f<=e.ref):P.any (QcK e)=true/\(P.getD (P.findIdx (QcK e)) E0).lsn=e.ref:=by
 unfold QES at h
 rw[if_pos hf] at h
 by_cases ha:P.any (QcK e)=true
 ·rw [if_pos ha] at h
  simp only[Jd,decide_eq_true_eq] at h
  exact⟨ha,h.2.1⟩
 ·rw [if_neg ha,decide_eq_false (show ¬ e.ref < f by omega),JW] at h
  cases h
def QFv{es:List E}(h:(es.getD i E0).kind≠1/\(es.getD i E0).kind≠2):QdV (es.getD i E0)=false:=by
 unfold QdV
 rw[Bool.or_eq_false_iff]
 exact⟨beq_eq_false_iff_ne.2 h.1,beq_eq_false_iff_ne.2 h.2⟩
def Qj1(W:Wf f es)(hi:i<es.length)(I:Inv f es i A)(h:ckB f A (es.getD i E0)=true):Inv f es (i+1) (ckS f A (es.getD i E0)):=by
 have hok:=W.ok i hi
 have hil:=Nat.le_of_lt hi
 have other:∀ x,(es.getD i E0).tx≠x->QcD es x (i+1)=QcD es x i/\Qvf es x (i+1)=Qvf es x i/\exE es (i+1) (QxR x)=exE es i (QxR x)/\exE es (i+1) (Qvp f x)=exE es i (Qvp f x):=fun x hx=>by
  refine⟨by rw[QcD,if_neg hx],by rw[Qvf,if_neg hx],?_,?_⟩
  ·rw[QeT]; unfold QxR; rw[decide_eq_false hx,JX,JN]
  ·rw[QeT]; unfold Qvp; rw[decide_eq_false hx,JX,JN]
 rcases hok.tx with⟨ht,hk⟩ | ⟨ht,hk⟩
 ·obtain ⟨eB,eS⟩:=QEd W I _ ht
  rw[eB] at h
  rw[eS]
  have hlast:=QiO W (es.getD i E0).tx i hil
  have hund:(es.getD i E0).kind=2->QES f A.U (QjL es i (es.getD i E0).tx) (es.getD i E0)=true:=fun hk2=>by
   unfold Qv0 at h
   rw[if_pos hk2] at h
   simp only[Jd] at h
   exact h.2.2
  have hptx:if QcD es (es.getD i E0).tx i=0 then (es.getD i E0).ptx<f else (es.getD i E0).ptx=QcD es (es.getD i E0).tx i:=by
   have:=h
   simp only[Jd] at this
   have:=this.1
   split at this
   ·rename_i h0; rw[if_pos h0]; exact of_decide_eq_true this
   ·rename_i h0; rw[if_neg h0]; simp only[Jd,decide_eq_true_eq] at this; exact this.1
  refine⟨fun p=>?_,fun n=>?_,fun x hx hn k hk'=>?_,fun x t hx hsome=>?_⟩
  ·dsimp only
   rw[Qc6]
   by_cases hc:QdV (es.getD i E0)=true
   ·rw [if_pos hc,QxE,I.pg]
    by_cases hp:(es.getD i E0).c.pg=p
    ·rw[if_pos hp,if_pos (show QdV (es.getD i E0)=true/\(es.getD i E0).c.pg=p from ⟨hc,hp⟩),if_neg (show ¬ (es.getD i E0).lsn=0 by have:=hok.lsn; have:=W.f1; omega)]
    ·rw[if_neg hp,if_neg (show ¬ (QdV (es.getD i E0)=true/\(es.getD i E0).c.pg=p) from fun h=>hp h.2)]
   ·rw[if_neg hc,if_neg (show ¬ (QdV (es.getD i E0)=true/\(es.getD i E0).c.pg=p) from fun h=>hc h.1),I.pg]
  ·dsimp only
   rw[Qem]
   unfold QvY undp
   by_cases hk2:(es.getD i E0).kind=2
   ·rw [if_pos hk2,Qxe,I.un,decide_eq_true hk2,JY,J2,decide_eq_true_eq]
    constructor
    ·rintro (h | h)
     ·exact .inl h
     ·exact .inr h.symm
    ·rintro (h | h)
     ·exact .inl h
     ·exact .inr h.symm
   ·rw[if_neg hk2,I.un,decide_eq_false hk2,JX,JN]
  ·dsimp only at hn
   rw[QlZ] at hn
   dsimp only at hn
   split at hn
   ·cases hn
   ·rename_i hne
    by_cases hki:k=i
    ·rw[hki]; exact hne
    ·exact I.no x hx hn k (by omega)
  ·dsimp only at hsome
   rw[QlZ] at hsome
   dsimp only at hsome
   by_cases hxe:(es.getD i E0).tx=x
   ·rw [if_pos hxe] at hsome
    obtain rfl:=Kt.inj hsome
    subst hxe
    dsimp only
    rw[QcD,if_pos rfl,Qvf,if_pos rfl,QeT,QeT,Qlf W hi]
    refine⟨by have:=hok.lsn; have:=W.f1; omega,rfl,rfl,?_,?_,?_⟩
    ·unfold nen QxR
     rw[decide_eq_true rfl,JY,Bool.or_assoc]
    ·unfold Qvp
     rw[decide_eq_true rfl,JY]
     rcases hlast with⟨h0,hno⟩ | ⟨h0,_⟩
     ·rw [if_pos h0] at hptx |-
      have:=(QyO (f:=f) hno).2.1
      unfold Qvp at this
      rw[this,decide_eq_true hptx,Bool.false_or,Bool.and_true]
     ·have hne:QcD es (es.getD i E0).tx i ≠ 0:=by have:=W.f1; omega
      rw[if_neg hne] at hptx |-
      rw[decide_eq_false (show ¬ (es.getD i E0).ptx<f by omega),JW,JN]
    ·unfold QvZ
     by_cases hk2:(es.getD i E0).kind=2
     ·rw [if_pos hk2,if_neg (by omega),Jn]
      unfold QF8
      by_cases hf:f<=(es.getD i E0).ref
      ·obtain ⟨a1,a2⟩:=QnP (hund hk2) hf
       rw[if_pos hf,QnO _ _ (Qg7 W hil _) a1 a2]
       refine Kh fun y _=>?_
       unfold undp
       rw[decide_eq_true hk2,JY]
       congr 1
       rw[decide_eq_decide]
       exact eq_comm
      ·rw [if_neg hf]
       refine(Jt.2 fun y hy=>?_).symm
       obtain⟨k,_,_,hl⟩:=QjK W hil hy
       unfold undp
       rw[decide_eq_false (show ¬ (es.getD i E0).ref=y.lsn by omega),JW]
       rfl
     ·rw [if_neg hk2]
      have hid:(QjL es i (es.getD i E0).tx).filter (fun y=>!undp y.lsn (es.getD i E0))=QjL es i (es.getD i E0).tx:=Jt.2 fun y _=>by
       unfold undp
       rw[decide_eq_false hk2]
       rfl
      rw[hid]
      unfold nP
      by_cases hk1:(es.getD i E0).kind=1
      ·rw[if_pos hk1,if_pos ⟨hk1,rfl⟩]
      ·rw[if_neg hk1,if_neg (fun h=>hk1 h.1),Jn]
   ·rw [if_neg hxe] at hsome
    obtain⟨o1,o2,o3,o4⟩:=other x hxe
    rw[o1,o2,o3,o4,Qlg W hi x (fun h=>hxe h.2) ?_]
    ·exact I.so x t hx hsome
    ·intro hk2 y hy hl
     by_cases hf:f<=(es.getD i E0).ref
     ·obtain ⟨a1,a2⟩:=QnP (hund hk2) hf
      obtain⟨b1,_⟩:=Qxv (Qg7 W hil _) a1
      have:=Qw2 W hil hy b1 (by rw[hl,a2])
      rw[<- this] at b1
      have h1:=(mem_penL.1 hy).2.2.1
      have h2:=(mem_penL.1 b1).2.2.1
      exact hxe (h2.symm.trans h1)
     ·obtain ⟨k,_,_,hl'⟩:=QjK W hil hy
      omega
 ·have hc:=QFv ⟨hk.1,hk.2.1⟩
  rw[ckS,if_pos ht]
  refine⟨fun p=>?_,fun n=>?_,fun x hx hn k hk'=>?_,fun x t hx hsome=>?_⟩
  ·rw[Qc6,if_neg (show ¬ (QdV (es.getD i E0)=true/\(es.getD i E0).c.pg=p) from fun h=>by rw[hc] at h; cases h.1),I.pg]
  ·rw [Qem,I.un]
   unfold undp
   rw[decide_eq_false hk.2.1,JX,JN]
  ·by_cases hki:k = i
   ·rw[hki]; omega
   ·exact I.no x hx hn k (by omega)
  ·obtain ⟨o1,o2,o3,o4⟩:=other x (by omega)
   rw[o1,o2,o3,o4,Qlg W hi x (fun h=>hk.1 h.1) (fun h=>absurd h hk.2.1)]
   exact I.so x t hx hsome
section
section
variable {x:Lg} (hv:lgB x=true) (hf:x.f=1) (hlog:LogOk x.es) (m:Nat)
include hv hf in
include hv hf in
include hv hf in
include hv hf in
include hv hf hlog in
include hv hf hlog in
include hv hf hlog in
include hv hf hlog in
include hv hf hlog in
end
end
end Go.Proofs.YtdnbdbgdfocpgaaGreat
