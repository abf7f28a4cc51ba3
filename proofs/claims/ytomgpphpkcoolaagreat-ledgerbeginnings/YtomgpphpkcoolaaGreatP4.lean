/-
  Contracts of functions and plain laws. No condition.
-/
import Derived.Test.YtomgpphpkcoolaaGreatP3
import Derived.Test.YtomgpphpkcoolaaGreatP1
import Derived.Test.YtomgpphpkcoolaaGreatV3
import Derived.Test.YtomgpphpkcoolaaGreatV4
import Derived.Test.YtomgpphpkcoolaaGreatP2
set_option linter.unusedSimpArgs false
set_option linter.unusedVariables false
set_option linter.defProp false
set_option maxRecDepth 100000
set_option maxHeartbeats 8000000
set_option autoImplicit true
set_option relaxedAutoImplicit true
open And renaming intro->Ja
open Bool renaming and_eq_true->Jg,or_eq_true->Ju,or_false->Jv,and_false->JF,false_and->JG,true_and->JI,false_or->Kg
open Int renaming toNat_natCast->Jq,le_refl->JJ,tmod_lt_of_pos->J5,natCast_pow->Ka,tmod_nonneg->Ke
open List renaming getD_eq_getElem?_getD->Jb,length_append->Jd,append_assoc->Je,mem_singleton->Jh,length_take->Ji,mem_cons->Jj,not_mem_nil->Jk,filter_eq_self->Jl,append_nil->Jm,take_of_length_le->Jn,length_cons->Jo,mem_cons_of_mem->Jp,flatMap_cons->Jr,mem_filter->Js,mem_cons_self->Jt,mem_range->Jw,getElem_map->Jx,all_eq_true->Jy,filter_cons->Jz,prefix_append->JA,map_cons->JB,take_succ_eq_append_getElem->JC,filter_congr->JE,getElem_mem->JH,getD_cons_succ->JK,getElem?_append_right->JL,pairwise_cons->JN,replicate->JO,getElem?_eq_some_iff->JP,getElem?_map->JQ,getElem?_eq_getElem->JR,getElem?_take_of_lt->JS,length_drop->JT,prefix_refl->JU,mem_append->JV,find?_cons->JW,nodup_cons->JX,mem_iff_getElem?->JY,range->JZ,mem_iff_getElem->J0,take_zero->J1,take_succ_cons->J2,getElem?_take->J3,filter_filter->J4,getElem_take->J6,findIdx_cons->J7,mem_map->J8,nil_append->Kb,length_set->Kc,drop_left->Kf
open Nat renaming zero_le->Jc,le_succ_of_le->Jf,le_refl->JD,le_trans->JM,lt_succ_self->J9
open Option renaming some->Kd
namespace Go.Proofs.YtomgpphpkcoolaaGreat
open Go.V Go
open Tryz (prog)
section
attribute [local go_sem] Qbm
def scI(I:Nat->Kn->Prop)(c:Sc)(n _:Nat)(c':Sc)(_:Rs):Prop:=c'.sm n/\∀ m,I m c.s.k->I (m+1) c'.s.k
abbrev QrR(I:Nat->Kn->Prop):Prop:=∀ n m k k',Str m k k'->I n k->I (n+m) k'
def QoE(I:Nat->Kn->Prop)(hI:QrR I)(c:Sc)(n:Nat)(hc:c.sm n)(r:Rs):scI I c (n+1) 0 c r:=⟨⟨hc.1,Jf hc.2.1,Jf hc.2.2⟩,fun m=>hI m 1 _ _ (Str.refl _)⟩
abbrev QhW(I:Nat->Kn->Prop)(c:Sc)(n:Nat)(t:Sp):Prop:=VCalls prog 29 [.ptr 0 0,.agg t.d] [scB c 1 2,scT c.tx,scR c.rd] (ScEnd rsD (scI I c (n+1)))
def QqW(k:Kn)(h:(Q8 k.lg n).2=0):Str 1 k ⟨k.pg,k.nx,(Q8 k.lg n).1,k.pl,k.lk,k.tx,k.ix,k.la⟩:=by
 have qf:=Stp.force (k:=k) (Q8 k.lg n).1.d fun hv=>by
  have:=(Qmq h).ok hv
  rw[Qe6 h] at this
  exact this
 rw[<- Qe6 h] at qf
 exact(Str.one qf).mono (by omega)
def QuX(I:Nat->Kn->Prop)(hI:QrR I){s s2:Sv}{e:Int}(hs:s.sm)(hq:s2.sm/\(e=0->Str 1 s.k s2.k)):(if e=0 then s2 else s).sm/\(∀ m,I m s.k->I (m+1) (if e=0 then s2 else s).k):=by
 split
 ·rename_i h; exact⟨hq.1,fun m=>hI m 1 _ _ (hq.2 h)⟩
 ·exact⟨hs,fun m=>hI m 1 _ _ (Str.refl _)⟩
def QxI(I:Nat->Kn->Prop)(hI:QrR I)(c:Sc)(n:Nat)(hn:n<=2000)(hc:c.sm n)(t:Sp)(ht:t.kind=3):QhW I c n t:=by
 refine QR (fn:=Tryz.f29) Tryz.func29 rfl (by kernel_rfl) (by simp[Tryz.f29]) ?_
 obtain⟨k,tx,pg,torn,cut,a⟩:=t
 dsimp only at ht
 subst ht
 have c1:=Qtq c.s hc.1 pg
 (unfold Tryz.f29; refine rn trivial ?_)
 refine rn F ?_
 repeat' (first
  | with_reducible exact⟨⟩
  | (refine Qp (c1) rfl ?_; rintro⟨s2,e2⟩ hq; refine rn F ?_)
  | (refine Qbd (id:=12) [[],[],[1],[1,2],[1,2,3],[],[5],[1,2,3,4,5,6],[1,2,3,4,5,6,7],[1,2,3,4,5,6,7],[0,1,2,3,4,5,6,7,8,9],[0,1,2,3,4,5,6,7,8,9,10]] [0,1,2,3,4,5,6] [⟨[],[],7,[0],[8,9]⟩,⟨[],[],10,[],[]⟩,⟨[],[],11,[],[]⟩] (by kernel_rfl) (by kernel_rfl) (by kernel_rfl) ?_; refine rn F ?_))
 refine QkW (c:=c) 0 1 2 (Qhc c s2 e2) rfl rfl rfl (by decide) (by decide) (by decide) rfl rfl ?_ (fun _ _ h=>absurd h.1 (by decide)) (fun _ _ h=>absurd h.1 (by decide))
 rintro _ _ ⟨-,rfl,rfl⟩ B
 obtain⟨k1,k2⟩:=QuX I hI hc.1 ⟨hq.1,fun h=>(hq.2 h).mono (by omega)⟩
 generalize (if e2=0 then s2 else c.s)=s' at *
 refine rn trivial ?_
 exact QF ⟨132,3,[(4,.ptr 3 0)],[scB ⟨s',c.tx,c.rd,c.dead⟩ 1 2,scT (Sc.tx ⟨s',c.tx,c.rd,c.dead⟩),scR (Sc.rd ⟨s',c.tx,c.rd,c.dead⟩),⟨107,true,Rs.d (Qgg e2)⟩]⟩ (gc [0,1,2,4]) ⟨⟨s',c.tx,c.rd,c.dead⟩,Qgg e2,_,rfl,rfl,.inl ⟨⟨⟨k1,Jf hc.2.1,Jf hc.2.2⟩,k2⟩,rfl⟩⟩
def QxH(I:Nat->Kn->Prop)(hI:QrR I)(c:Sc)(n:Nat)(hn:n<=2000)(hc:c.sm n)(t:Sp)(ht:t.kind=4):QhW I c n t:=by
 refine QR (fn:=Tryz.f29) Tryz.func29 rfl (by kernel_rfl) (by simp[Tryz.f29]) ?_
 obtain⟨k,tx,pg,torn,cut,a⟩:=t
 dsimp only at ht
 subst ht
 have c1:=Qtt c.s hc.1
 (unfold Tryz.f29; refine rn trivial ?_)
 refine rn F ?_
 repeat' (first
  | with_reducible exact⟨⟩
  | (refine Qp (c1) rfl ?_; rintro⟨s2,n2,e2⟩ hq; refine rn F ?_))
 refine QkW (c:=c) 0 1 2 (Qhc c s2 e2) rfl rfl rfl (by decide) (by decide) (by decide) rfl rfl ?_ (fun _ _ h=>absurd h.1 (by decide)) (fun _ _ h=>absurd h.1 (by decide))
 rintro _ _ ⟨-,rfl,rfl⟩ B
 obtain⟨k1,k2⟩:=QuX I hI hc.1 hq
 generalize (if e2=0 then s2 else c.s)=s' at *
 refine rn trivial ?_
 exact QF ⟨132,3,[(4,.ptr 3 0)],[scB ⟨s',c.tx,c.rd,c.dead⟩ 1 2,scT (Sc.tx ⟨s',c.tx,c.rd,c.dead⟩),scR (Sc.rd ⟨s',c.tx,c.rd,c.dead⟩),⟨107,true,Rs.d (Qgg e2)⟩]⟩ (gc [0,1,2,4]) ⟨⟨s',c.tx,c.rd,c.dead⟩,Qgg e2,_,rfl,rfl,.inl ⟨⟨⟨k1,Jf hc.2.1,Jf hc.2.2⟩,k2⟩,rfl⟩⟩
def QxE(I:Nat->Kn->Prop)(hI:QrR I)(c:Sc)(n:Nat)(hn:n<=2000)(hc:c.sm n)(t:Sp)(ht:t.kind=7):QhW I c n t:=by
 refine QR (fn:=Tryz.f29) Tryz.func29 rfl (by kernel_rfl) (by simp[Tryz.f29]) ?_
 obtain⟨k,tx,pg,torn,cut,a⟩:=t
 dsimp only at ht
 subst ht
 have c1:=QBC c.s hc.1
 (unfold Tryz.f29; refine rn trivial ?_)
 refine rn F ?_
 repeat' (first
  | with_reducible exact⟨⟩
  | (refine Qp (c1) rfl ?_; rintro⟨s2,n2,e2⟩ hq; refine rn F ?_))
 refine QkW (c:=c) 0 1 2 (Qhc c s2 e2) rfl rfl rfl (by decide) (by decide) (by decide) rfl rfl ?_ (fun _ _ h=>absurd h.1 (by decide)) (fun _ _ h=>absurd h.1 (by decide))
 rintro _ _ ⟨-,rfl,rfl⟩ B
 obtain⟨k1,k2⟩:=QuX I hI hc.1 ⟨hq.1,fun h=>(hq.2 h).mono (by omega)⟩
 generalize (if e2=0 then s2 else c.s)=s' at *
 refine rn trivial ?_
 exact QF ⟨132,3,[(4,.ptr 3 0)],[scB ⟨s',c.tx,c.rd,c.dead⟩ 1 2,scT (Sc.tx ⟨s',c.tx,c.rd,c.dead⟩),scR (Sc.rd ⟨s',c.tx,c.rd,c.dead⟩),⟨107,true,Rs.d (Qgg e2)⟩]⟩ (gc [0,1,2,4]) ⟨⟨s',c.tx,c.rd,c.dead⟩,Qgg e2,_,rfl,rfl,.inl ⟨⟨⟨k1,Jf hc.2.1,Jf hc.2.2⟩,k2⟩,rfl⟩⟩
def QxG(I:Nat->Kn->Prop)(hI:QrR I)(c:Sc)(n:Nat)(hn:n<=2000)(hc:c.sm n)(t:Sp)(ht:t.kind=5):QhW I c n t:=by
 refine QR (fn:=Tryz.f29) Tryz.func29 rfl (by kernel_rfl) (by simp[Tryz.f29]) ?_
 obtain⟨k,tx,pg,torn,cut,a⟩:=t
 dsimp only at ht
 subst ht
 have c1:=Qgq c.s.k.lg (JM hc.1.1.1 (by decide))
 have c2:=QjJ c.s.k.lg (JM hc.1.1.1 (by decide)) (Qht c.s.k.lg)
 have c3:=fun e=>QeL e
 (unfold Tryz.f29; refine rn trivial ?_)
 refine rn F ?_
 repeat' (first
  | with_reducible exact⟨⟩
  | (refine sB F ?_ ?_<;>intro hZ)
  | refine vp F (c1) ?_
  | refine vp F (c2) ?_
  | refine vp F (c3 _) ?_
  | (refine Qbd (id:=17) [[],[0],[0,1],[0,1,2],[0,1,2,3],[0,1,2,3,4],[],[6],[6,7],[6,7,8],[6,7,8,9],[6,7,8,9,10],[6,7,8,9,10,11],[0,1,2,3,4,5,6,7,8,9,10,11,12],[0,1,2,3,4,5,6,7,8,9,10,11,12,13],[0,1,2,3,4,5,6,7,8,9,10,11,12,13,14],[0,1,2,3,4,5,6,7,8,9,10,11,12,13,14],[],[0,1,2,3,4,5,6,7,8,9,10,11,12,13,14,15,17],[0,1,2,3,4,5,6,7,8,9,10,11,12,13,14,15,16,17,18]] [0,1,2,3,4,5,6,7,8,9,10,11] [⟨[17],[],12,[0,1,2,3,4,5],[]⟩,⟨[17],[],13,[],[14,15,16]⟩,⟨[17],[17],18,[16],[]⟩,⟨[],[],19,[],[]⟩] (by kernel_rfl) (by kernel_rfl) (by kernel_rfl) ?_; refine rn F ?_))
 ·exact QF ⟨132,3,[(4,.ptr 3 0)],[scB ⟨⟨⟨c.s.k.pg,c.s.k.nx,(Q8 c.s.k.lg (Qht c.s.k.lg)).1,c.s.k.pl,c.s.k.lk,c.s.k.tx,c.s.k.ix,c.s.k.la⟩,c.s.v⟩,c.tx,c.rd,c.dead⟩ 1 2,scT (Sc.tx ⟨⟨⟨c.s.k.pg,c.s.k.nx,(Q8 c.s.k.lg (Qht c.s.k.lg)).1,c.s.k.pl,c.s.k.lk,c.s.k.tx,c.s.k.ix,c.s.k.la⟩,c.s.v⟩,c.tx,c.rd,c.dead⟩),scR (Sc.rd ⟨⟨⟨c.s.k.pg,c.s.k.nx,(Q8 c.s.k.lg (Qht c.s.k.lg)).1,c.s.k.pl,c.s.k.lk,c.s.k.tx,c.s.k.ix,c.s.k.la⟩,c.s.v⟩,c.tx,c.rd,c.dead⟩),⟨107,true,Rs.d (Qgg _)⟩]⟩ (gc [0,1,2,4]) ⟨⟨⟨⟨c.s.k.pg,c.s.k.nx,(Q8 c.s.k.lg (Qht c.s.k.lg)).1,c.s.k.pl,c.s.k.lk,c.s.k.tx,c.s.k.ix,c.s.k.la⟩,c.s.v⟩,c.tx,c.rd,c.dead⟩,Qgg _,_,rfl,rfl,.inl ⟨⟨⟨⟨⟨QiX _ _ hc.1.1.1,hc.1.1.2⟩,hc.1.2⟩,Jf hc.2.1,Jf hc.2.2⟩,fun m=>hI m 1 _ _ (QqW _ (by assumption))⟩,rfl⟩⟩
 ·exact QF ⟨132,3,[(4,.ptr 3 0)],[scB c 1 2,scT (Sc.tx c),scR (Sc.rd c),⟨107,true,Rs.d (Qgg _)⟩]⟩ (gc [0,1,2,4]) ⟨c,Qgg _,_,rfl,rfl,.inl ⟨QoE I hI c n hc _,rfl⟩⟩
def QxJ(I:Nat->Kn->Prop)(hI:QrR I)(c:Sc)(n:Nat)(hn:n<=2000)(hc:c.sm n)(t:Sp)(ht:t.kind=2):QhW I c n t:=by
 refine QR (fn:=Tryz.f29) Tryz.func29 rfl (by kernel_rfl) (by simp[Tryz.f29]) ?_
 obtain⟨k,tx,pg,torn,cut,a⟩:=t
 dsimp only at ht
 subst ht
 (unfold Tryz.f29; refine rn trivial ?_)
 refine QkW (c:=c) 0 1 2 (QEW c n hn hc ⟨2,tx,pg,torn,cut,a⟩) rfl rfl rfl (by decide) (by decide) (by decide) rfl rfl ?_ (fun _ _ h=>absurd rfl h.1) ?_
 ·rintro c1 r1 ⟨-,q1,-,q2⟩ B
  refine rn trivial ?_
  exact QF ⟨132,3,[(4,.ptr 3 0)],[scB c1 1 2,scT (Sc.tx c1),scR (Sc.rd c1),⟨107,true,Rs.d (r1)⟩]⟩ (gc [0,1,2,4]) ⟨c1,r1,_,rfl,rfl,.inl ⟨⟨q1,fun m=>hI m 1 _ _ q2⟩,rfl⟩⟩
 ·rintro c1 r1 ⟨-,q1,-,q2⟩ B
  refine rn trivial ?_
  exact QF ⟨132,3,[(4,.ptr 4 0)],[scB c1 1 3,scT c1.tx,Qq8,scR c1.rd,⟨107,true,r1.d⟩]⟩ (gc [0,1,2,5,4]) ⟨c1,r1,_,rfl,rfl,.inr (.inr ⟨⟨q1,fun m=>hI m 1 _ _ q2⟩,rfl⟩)⟩
def QxK(I:Nat->Kn->Prop)(hI:QrR I)(c:Sc)(n:Nat)(hn:n<=2000)(hc:c.sm n)(t:Sp)(ht:t.kind=1):QhW I c n t:=by
 refine QR (fn:=Tryz.f29) Tryz.func29 rfl (by kernel_rfl) (by simp[Tryz.f29]) ?_
 obtain⟨k,tx,pg,torn,cut,a⟩:=t
 dsimp only at ht
 subst ht
 have c1:=Qtu c.s hc.1
 (unfold Tryz.f29; refine rn trivial ?_)
 have hb:(c.tx.length+1)*8<=140737488355328:=by have:=hc.2.1; omega
 have F:=@hb
 refine rn F ?_
 repeat' (first
  | with_reducible exact⟨⟩
  | (refine sB F ?_ ?_<;>intro hZ)
  | (refine Qp (c1) rfl ?_; rintro⟨s2,n2,e2⟩ hq; refine rn F ?_))
 rotate_left
 ·refine QkW (c:=c) 0 1 2 (Qhc c s2 e2) rfl rfl rfl (by decide) (by decide) (by decide) rfl rfl ?_ (fun _ _ h=>absurd h.1 (by decide)) (fun _ _ h=>absurd h.1 (by decide))
  rintro _ _ ⟨-,rfl,rfl⟩ B
  obtain⟨k1,k2⟩:=QuX I hI hc.1 hq
  generalize (if e2=0 then s2 else c.s)=s' at *
  refine rn trivial ?_
  exact QF ⟨132,3,[(4,.ptr 3 0)],[scB ⟨s',c.tx,c.rd,c.dead⟩ 1 2,scT (Sc.tx ⟨s',c.tx,c.rd,c.dead⟩),scR (Sc.rd ⟨s',c.tx,c.rd,c.dead⟩),⟨107,true,Rs.d ({ Qgg e2 with tx:=n2 })⟩]⟩ (gc [0,1,2,4]) ⟨⟨s',c.tx,c.rd,c.dead⟩,{ Qgg e2 with tx:=n2 },_,rfl,rfl,.inl ⟨⟨⟨k1,Jf hc.2.1,Jf hc.2.2⟩,k2⟩,rfl⟩⟩
 have hl:(c.tx++[n2]).length=c.tx.length+1:=by simp
 generalize c.tx++[n2]=l at *
 rw[<- hl]
 refine QkW (c:=⟨c.s,l,c.rd,c.dead⟩) 0 7 2 (Qhc ⟨c.s,l,c.rd,c.dead⟩ s2 e2) rfl rfl rfl (by decide) (by decide) (by decide) rfl rfl ?_ (fun _ _ h=>absurd h.1 (by decide)) (fun _ _ h=>absurd h.1 (by decide))
 rintro _ _ ⟨-,rfl,rfl⟩ B
 obtain⟨k1,k2⟩:=QuX I hI hc.1 hq
 generalize (if e2=0 then s2 else c.s)=s' at *
 have h1:=hc.2.1
 refine rn trivial ?_
 exact QF ⟨132,3,[(4,.ptr 4 0)],[scB ⟨s',l,c.rd,c.dead⟩ 3 2,QvU,scR c.rd,scT l,⟨107,true,Rs.d { Qgg e2 with tx:=n2 }⟩]⟩ (gc [0,1,2,7,4]) ⟨⟨s',l,c.rd,c.dead⟩,{ Qgg e2 with tx:=n2 },_,rfl,rfl,.inr (.inl ⟨⟨⟨k1,by dsimp only; omega,Jf hc.2.2⟩,k2⟩,rfl⟩)⟩
end
section
attribute [local go_sem] Qbm
def QxC(I:Nat->Kn->Prop)(hI:QrR I)(c:Sc)(n:Nat)(hc:c.sm n)(t:Sp)(h1:t.kind≠1)(h2:t.kind≠2)(h3:t.kind≠3)(h4:t.kind≠4)(h5:t.kind≠5)(h6:t.kind≠6)(h7:t.kind≠7):QhW I c n t:=by
 refine QR (fn:=Tryz.f29) Tryz.func29 rfl (by kernel_rfl) (by simp[Tryz.f29]) ?_
 have c1:=Qak 1
 (unfold Tryz.f29; refine rn (Ja @h1 (Ja @h2 (Ja @h3 (Ja @h4 (Ja @h5 (Ja @h6 @h7)))))) ?_)
 have F:=(Ja @h1 (Ja @h2 (Ja @h3 (Ja @h4 (Ja @h5 (Ja @h6 @h7))))))
 refine rn F ?_
 repeat' (first
  | with_reducible exact⟨⟩
  | refine vp F (c1) ?_)
 exact QF ⟨132,3,[(4,.ptr 3 0)],[scB c 1 2,scT (Sc.tx c),scR (Sc.rd c),⟨107,true,Rs.d (QaF 1)⟩]⟩ (gc [0,1,2,4]) ⟨c,QaF 1,_,rfl,rfl,.inl ⟨QoE I hI c n hc _,rfl⟩⟩
def QxD(I:Nat->Kn->Prop)(hI:QrR I)(c:Sc)(n:Nat)(hn:n<=2000)(hc:c.sm n)(t:Sp)(h6:t.kind=6->QhW I c n t):QhW I c n t:=by
 by_cases q1:t.kind=1
 ·exact QxK I hI c n hn hc t q1
 by_cases q2:t.kind=2
 ·exact QxJ I hI c n hn hc t q2
 by_cases q3:t.kind=3
 ·exact QxI I hI c n hn hc t q3
 by_cases q4:t.kind=4
 ·exact QxH I hI c n hn hc t q4
 by_cases q5:t.kind=5
 ·exact QxG I hI c n hn hc t q5
 by_cases q6:t.kind=6
 ·exact h6 q6
 by_cases q7:t.kind=7
 ·exact QxE I hI c n hn hc t q7
 exact QxC I hI c n hc t q1 q2 q3 q4 q5 q6 q7
def Qoc:Enc Sp:=⟨9,fun t=>[.lit (.int .i64 t.kind),.lit (.int .i64 t.tx),.lit (.int .i64 t.pg),.lit (.int .i64 t.torn),.lit (.int .i64 t.cut),.lit (.int .i64 t.a.kind),.lit (.int .i64 t.a.pg),.lit (.int .i64 t.a.sl),.str t.a.data],by decide,fun _=>rfl⟩
def QHO(l:List Sp):(cells Qoc l).length=l.length*9:=QJ Qoc l
def QII(l:List Sp)(n:Nat)(h:l.length*9<=n):(cells Qoc l).take n=cells Qoc l:=by rw[Jn]; rw[QHO]; exact h
def QIu(h:l.length=len):QgF n hp 0 9 len (some (cells Qoc l))=some (.sl (fz Qoc l)):=QX Qoc h
def Sp0:Sp:=⟨0,0,0,0,0,0,0,0,[]⟩
def QFB(l:List Sp)(i:Nat)(h:i<l.length):(fz Qoc l)[i]?=some [.lit (.int .i64 (l.getD i Sp0).kind),.lit (.int .i64 (l.getD i Sp0).tx),.lit (.int .i64 (l.getD i Sp0).pg),.lit (.int .i64 (l.getD i Sp0).torn),.lit (.int .i64 (l.getD i Sp0).cut),.lit (.int .i64 (l.getD i Sp0).a.kind),.lit (.int .i64 (l.getD i Sp0).a.pg),.lit (.int .i64 (l.getD i Sp0).a.sl),.str (l.getD i Sp0).a.data]:=Qb5 Qoc l Sp0 i h
attribute [go_sem] QHO QII QIu
def Qet:Enc Rs:=⟨6,fun r=>[.lit (.int .i64 r.st),.lit (.int .i64 r.tx),.lit (.int .i64 r.pg),.lit (.bool r.cell.set),.str r.cell.data,.lit (.int .i64 r.er)],by decide,fun _=>rfl⟩
def QFk(l:List Rs):(cells Qet l).length=l.length*6:=QJ Qet l
def QHy(l:List Rs)(n:Nat)(h:l.length*6<=n):(cells Qet l).take n=cells Qet l:=by rw[Jn]; rw[QFk]; exact h
def QHe(h:l.length=len):QgF n hp 0 6 len (some (cells Qet l))=some (.sl (fz Qet l)):=QX Qet h
def QF1(l:List Rs)(a b c:Int)(x:Bool)(s:List UInt8)(d:Int):cells Qet l++[.pv (.lit (.int .i64 a)),.pv (.lit (.int .i64 b)),.pv (.lit (.int .i64 c)),.pv (.lit (.bool x)),.pv (.str s),.pv (.lit (.int .i64 d))]=cells Qet (l++[⟨a,b,c,⟨x,s⟩,d⟩]):=by rw[QA]; rfl
attribute [go_sem] QFk QHy QHe QF1
def QH5(l:List Rd):DV.wk.go (cells QmY l)=cells QmY l:=Qbo QmY l fun a p hp=>by
 simp[QmY] at hp
 rcases hp with h | h | h | h | h | h<;>subst h<;>rfl
def QGC(l:List Rs):DV.wk.go (cells Qet l)=cells Qet l:=Qbo Qet l fun a p hp=>by
 simp[Qet] at hp
 rcases hp with h | h | h | h | h | h<;>subst h<;>rfl
attribute [go_sem] QH5 QGC
structure Ru(I:Nat->Kn->Prop)(s:Sv)(l:List Sp) where
 i:Nat
 c:Sc
 out:List Rs
 hi:i<=l.length
 h1:i<=1000
 hc:c.sm i
 ho:out.length=i
 hI:I 0 s.k->I i c.s.k
@[go_sem] def QIn(a:Sv×List Rs×List Rd):DV:=.tup [.agg a.1.d,.pv (.sl (fz Qet a.2.1)),.pv (.sl (fz QmY a.2.2))]
def QEG(I:Nat->Kn->Prop)(hI:QrR I)(s:Sv)(hs:s.sm)(l:List Sp)(h6:∀ i,i<l.length->(l.getD i Sp0).kind=6->∀ c n,n<=2000->c.sm n->QhW I c n (l.getD i Sp0)):VCalls prog 23 [.agg s.d,.pv (.sl (fz Qoc l))] [] (QL QIn fun a=>a.1.sm/\(I 0 s.k->∃ i,i<=l.length/\I i a.1.k)):=by
 refine dk Tryz.func23 ?_
 (unfold Tryz.f23; refine rn trivial ?_)
 refine VLoop.nilOwnC 2 18 3 1 rfl rfl ?_
 refine VLoop.nilOwnC 2 19 153 6 rfl rfl ?_
 refine VLoop.nilOwn 8 107 6 rfl ?_
 refine rn trivial ?_
 refine Qj (fun r:Ru I s l=>⟨48,0,[(9,.int .i64 r.i),(8,.own 4 6 0 r.out.length),(7,.ptr 1 0),(4,.ptr 0 0),(1,.pv (.sl (fz Qoc l)))],[⟨68,true,Zv⟩,scB r.c 2 3,scT r.c.tx,scR r.c.rd,⟨107,true,cells Qet r.out⟩]⟩) (fun r=>l.length-r.i) ⟨0,⟨s,[],[],false⟩,[],Jc _,by decide,⟨hs,Jc _,Jc _⟩,rfl,id⟩ (gc [1,2,3,4,5]) ?_
 rintro⟨i,c,out,hi,h1,hc,ho,h⟩
 dsimp only
 unfold Zv
 have hg:=fun h:i<l.length=>QFB l i h
 have hb:(out.length+1)*72<=140737488355328:=by omega
 obtain⟨sv,tx,rd,dead⟩:=c
 cases dead
 rotate_left
 ·skip
  have F:=@hg
  refine rn F ?_
  repeat' (first
   | with_reducible exact⟨⟩
   | (refine sG F ?_ ?_<;>intro hZ)
   | (refine Qbd (id:=7) [[],[0],[0,1],[0,1,2],[],[],[5],[5,6],[5,6,7],[0,1,2,3],[0,1,2,3,4,9],[0,1,2,3,4,5,6,7,8,9,10]] [0,1,2,3,4,5,6,7,8] [⟨[],[],9,[4,5,6,7,8],[]⟩,⟨[],[],10,[5,6,7,8],[]⟩,⟨[],[],11,[],[]⟩] (by kernel_rfl) (by kernel_rfl) (by kernel_rfl) ?_; refine rn F ?_))
  all_goals exact⟨rfl,rfl,(sv,out,rd),rfl,hc.1,fun x=>⟨i,hi,h x⟩⟩
 have F:=@hg
 refine rn F ?_
 repeat' (first
  | with_reducible exact⟨⟩
  | (refine sG F ?_ ?_<;>intro hZ)
  | (refine Qbd (id:=7) [[],[0],[0,1],[0,1,2],[],[],[5],[5,6],[5,6,7],[0,1,2,3],[0,1,2,3,4,9],[0,1,2,3,4,5,6,7,8,9,10]] [0,1,2,3,4,5,6,7,8] [⟨[],[],9,[4,5,6,7,8],[]⟩,⟨[],[],10,[5,6,7,8],[]⟩,⟨[],[],11,[],[]⟩] (by kernel_rfl) (by kernel_rfl) (by kernel_rfl) ?_; refine rn F ?_))
 all_goals first | exact⟨rfl,rfl,(sv,out,rd),rfl,hc.1,fun x=>⟨i,hi,h x⟩⟩ | skip
 have hil:i<l.length:=by omega
 refine QkW (c:=⟨sv,tx,rd,false⟩) 1 2 3 (QxD I hI _ i (by omega) hc (l.getD i Sp0) (fun hk=>h6 i hil hk _ i (by omega) hc)) rfl rfl rfl (by decide) (by decide) (by decide) rfl rfl ?_ ?_ ?_
 all_goals
  rintro c1 r1 ⟨q1,q2⟩ B
  refine rn @hb ?_
  have hl2:(out++[r1]).length=out.length+1:=by simp
  refine⟨⟨i+1,c1,out++[r1],hil,by omega,q1,by rw[hl2]; omega,fun x=>q2 i (h x)⟩,by dsimp only; omega,?_⟩
  dsimp only
  rw[hl2]
 ·exact(gc [0,1,2,3,7])
 ·exact(gc [0,1,5,3,8])
 ·exact(gc [0,1,2,5,8])
end
section
attribute [local go_sem] cb cc
def QFW(b:Int)(hb:0<=b/\b<=255):∃ y:UInt8,b=(y.toNat:Int):=⟨UInt8.ofNat b.toNat,by simp only[UInt8.toNat_ofNat']; omega⟩
def QuL{α:Type}{n:Nat}{A B:α}(hn:n<=1000000000):(if 0<=(n:Int)/\((1:Nat):Int)*n<=281474976710656/\(n:Int)<=9223372036854775807 then A else B)=A:=
 if_pos ⟨by omega,by omega,by omega⟩
abbrev Dx(n:Nat):DV->Prop:=fun r=>∃ t:List UInt8,r=.pv (.str t)/\t.length<=n
structure DSt(n:Nat) where
 c:C
 l:List UInt8
 hl:l.length<=n
def QFN(c:C):VCalls prog 75 [.ptr 0 0] [cb c] (CX (Dx 13)):=by
 refine dd Tryz.func75 ?_
 (unfold Tryz.f75; refine rn trivial ?_)
 refine QaP (k:=0) (c:=c) (QaN c 5 (by omega) (by omega)) rfl rfl ?_
 rintro _ c1 ⟨z,rfl,hz⟩
 refine rn trivial ?_
 refine QaP (k:=0) (c:=c1) (QaN c1 6 (by omega) (by omega)) rfl rfl ?_
 rintro _ c2 ⟨z2,rfl,hz2⟩
 have hcw:=fun(hp:Qb) (k o n:Nat)=>QgH (hp:=hp) (k:=k) (off:=o) (len:=n) QHn
 have mk:=fun(n:Nat) (h:n<=1000000000) (A B:Option (DV×Qb))=>QuL (n:=n) (A:=A) (B:=B) h
 refine rn F ?_
 repeat' (first
  | with_reducible exact⟨⟩
  | (refine sB F ?_ ?_<;>intro hZ))
 case' refine_1=>
  refine QaP (k:=0) (c:=c2) (QaN c2 14 (by omega) (by omega)) rfl rfl ?_
  rintro _ c3 ⟨n,rfl,hn⟩
 case' refine_2=>
  obtain⟨n,rfl,hn⟩:∃ n:Nat,n=z/\n<14:=⟨z,rfl,by omega⟩
  obtain⟨c3,rfl⟩:∃ c3,c3=c2:=⟨c2,rfl⟩
 all_goals
  have hm:=fun A B=>mk n (by omega) A B
  have hr:JO 0 (0:UInt8)=[]:=rfl
  refine rn (Ja @hm @hr) ?_
  refine Qj (fun i:DSt n=>⟨29,1,[(5,.int .i64 i.l.length),(3,.int .i64 n),(4,.own 1 1 0 i.l.length),(0,.ptr 0 0)],[cb i.c,⟨5,true,cells Qfl i.l⟩]⟩) (fun i=>n-i.l.length) ⟨c3,[],Jc _⟩ (gc [0,1]) ?_
  rintro⟨c4,l,hl⟩
  dsimp only
  have hvc:=fun hp:Qb=>@Qfs hp l _ rfl
  by_cases hc:l.length<n
  ·skip
   refine rn F ?_
   refine QaP (k:=0) (c:=c4) (QaN c4 3 (by omega) (by omega)) rfl rfl ?_
   rintro r c5 ⟨y,rfl,hy⟩
   obtain⟨u,hu⟩:∃ u:UInt8,97+(y:Int)=(u.toNat:Int):=QFW _ (by omega)
   have e2:cells Qfl l++[.pv (.lit (.int .u8 u.toNat))]=cells Qfl (l++[u]):=(QA Qfl l [u]).symm
   have e3:(cells Qfl l).take l.length=cells Qfl l:=by rw[Jn]; rw[Qd0]; exact JD _
   have hub:u.toNat<256:=u.toNat_lt
   have hs2:l.length<=140737488355327:=by omega
   refine rn (Ja @hu (Ja @hs2 (Ja @e3 @e2))) ?_
   have hl2:(l++[u]).length=l.length+1:=by simp
   refine⟨⟨c5,l++[u],by rw[hl2]; omega⟩,by dsimp only; rw[hl2]; omega,?_⟩
   dsimp only
   rw[hl2]
   exact(gc [0,3])
  ·skip
   have F:=(Ja @hcw @hvc)
   refine rn F ?_
   exact⟨_,rfl,rfl,Qcp _,rfl,⟨_,rfl,by omega⟩,c4,rfl⟩
end
section
attribute [local go_sem] cb cc
def QuU(i:Nat)(h:i<12):∃ n:Int,([.pv (.lit (.int .i64 1)),.pv (.lit (.int .i64 1)),.pv (.lit (.int .i64 2)),.pv (.lit (.int .i64 2)),.pv (.lit (.int .i64 2)),.pv (.lit (.int .i64 3)),.pv (.lit (.int .i64 4)),.pv (.lit (.int .i64 5)),.pv (.lit (.int .i64 6)),.pv (.lit (.int .i64 7)),.pv (.lit (.int .i64 2)),.pv (.lit (.int .i64 4))]:List DV)[i]?=some (.int .i64 n):=by
 have e:([.pv (.lit (.int .i64 1)),.pv (.lit (.int .i64 1)),.pv (.lit (.int .i64 2)),.pv (.lit (.int .i64 2)),.pv (.lit (.int .i64 2)),.pv (.lit (.int .i64 3)),.pv (.lit (.int .i64 4)),.pv (.lit (.int .i64 5)),.pv (.lit (.int .i64 6)),.pv (.lit (.int .i64 7)),.pv (.lit (.int .i64 2)),.pv (.lit (.int .i64 4))]:List DV)=([1,1,2,2,2,3,4,5,6,7,2,4]:List Int).map (DV.int .i64):=rfl
 refine⟨([1,1,2,2,2,3,4,5,6,7,2,4]:List Int)[i]'h,?_⟩
 rw[e,JQ,JR h]; rfl
def QzW(c:C)(m:Nat)(h1:1<=m)(h2:m<=1000):VCalls prog 51 [.ptr 0 0,.int .i64 m] [cb c] (CX fun r=>∃ a:Ac,r=.agg a.d):=by
 refine dd Tryz.func51 ?_
 (unfold Tryz.f51; refine rn trivial ?_)
 refine QaP (k:=0) (c:=c) (QaN c 12 (by omega) (by omega)) rfl rfl ?_
 rintro _ c1 ⟨y,rfl,hy⟩
 obtain⟨n,hn⟩:=QuU y hy
 have F:=@hn
 refine rn F ?_
 repeat' (first
  | with_reducible exact⟨⟩
  | (refine sB F ?_ ?_<;>intro hZ)
  | (refine QaP (k:=0) (QaN _ 2 (by omega) (by omega)) rfl rfl ?_; rintro _ _ ⟨_,rfl,_⟩; refine rn F ?_)
  | (refine QaP (k:=0) (QaN _ 40 (by omega) (by omega)) rfl rfl ?_; rintro _ _ ⟨_,rfl,_⟩; refine rn F ?_)
  | (refine QaP (k:=0) (QaN _ m (by omega) (by omega)) rfl rfl ?_; rintro _ _ ⟨_,rfl,_⟩; refine rn F ?_)
  | (refine QaP (k:=0) (QFN _) rfl rfl ?_; rintro _ _ ⟨_,rfl,_⟩; refine rn F ?_)
  | (refine QaP (k:=0) (QHa _) rfl rfl ?_; rintro _ _ ⟨_,rfl,_⟩; refine rn F ?_))
 all_goals first
  | exact⟨_,rfl,rfl,Qcp _,rfl,⟨⟨_,_,_,_⟩,rfl⟩,_,rfl⟩
  | skip
end
section
attribute [local go_sem] cb cc
def QER(n:Int)(h:1<=n/\n<=64):VCalls prog 28 [.int .i64 n] [] (QL dvD fun a=>dvQ a/\a.2=0):=by
 refine dk Tryz.func28 ?_
 have c1:=Qt8 n
 (unfold Tryz.f28; refine rn trivial ?_)
 refine rn F ?_
 repeat' (first
  | with_reducible exact⟨⟩
  | (refine Qp (c1 (by omega)) rfl ?_; rintro l hl; refine rn F ?_))
 all_goals first
  | (exfalso; omega)
  | exact⟨rfl,rfl,(⟨l,0,false⟩,0),rfl,hl,rfl⟩
  | skip
def QwG(n m:Int):Kn:=⟨n,1,Lg1,⟨m,[],0⟩,Lk0,[],JO n.toNat Rw0,[]⟩
def QEJ(n m:Int)(h:1<=n/\n<=64)(h2:1<=m/\m<=64):VCalls prog 27 [.int .i64 n,.int .i64 m] [] (QL kiD fun a=>a.1.sm/\a.2=0/\a.1=QwG n m):=by
 refine dk Tryz.func27 ?_
 have c1:=Qtw m
 have c2:=QoM n
 have c3:=QBV
 have hf:Qic m=(⟨m,[],0⟩,0):=by unfold Qic; rw[if_neg (by omega)]
 rw[hf] at c1
 (unfold Tryz.f27; refine rn trivial ?_)
 refine rn F ?_
 repeat' (first
  | with_reducible exact⟨⟩
  | refine vp F (c1) ?_
  | (refine Qp (c2) rfl ?_; rintro⟨l,e⟩ hl; refine rn F ?_)
  | refine vp F (c3) ?_
  | (refine Qd (id:=5) [0,2,3] [⟨[],[],1,[0,2,3],[4]⟩,⟨[],[],5,[],[]⟩,⟨[],[],6,[],[]⟩] (by kernel_rfl) (by kernel_rfl) ?_; refine rn F ?_))
 all_goals first
  | (exfalso; omega)
  | skip
 have e1:=hl.2.1 (hl.2.2 h.1 h.2)
 dsimp only at e1
 subst e1
 exact⟨rfl,rfl,(QwG n m,0),rfl,⟨Jc _,Jc _,Jc _,Q3 _,hl.1,Jc _⟩,rfl,rfl⟩
def QEE(n m:Int)(h:1<=n/\n<=64)(h2:1<=m/\m<=64):VCalls prog 22 [.int .i64 n,.int .i64 m] [] (QL svD fun a=>a.1.sm/\a.2=0/\a.1.k=QwG n m):=by
 refine dk Tryz.func22 ?_
 have c1:=QEJ n m h h2
 have c2:=QER n h
 (unfold Tryz.f22; refine rn trivial ?_)
 refine Qp c1 rfl ?_
 rintro⟨k,e⟩ ⟨hk,he,hg⟩
 dsimp only at hk he hg
 subst he
 refine rn trivial ?_
 refine Qp c2 rfl ?_
 rintro⟨v,e⟩ ⟨hv,he⟩
 dsimp only at he
 subst he
 refine rn trivial ?_
 exact⟨rfl,rfl,(⟨k,v⟩,0),rfl,⟨hk,hv⟩,rfl,hg⟩
def QHr(l:List Sp)(a b c d e f g h:Int)(s:List UInt8):cells Qoc l++[.pv (.lit (.int .i64 a)),.pv (.lit (.int .i64 b)),.pv (.lit (.int .i64 c)),.pv (.lit (.int .i64 d)),.pv (.lit (.int .i64 e)),.pv (.lit (.int .i64 f)),.pv (.lit (.int .i64 g)),.pv (.lit (.int .i64 h)),.pv (.str s)]=cells Qoc (l++[⟨a,b,c,d,e,⟨f,g,h,s⟩⟩]):=by rw[QA]; rfl
def spB:Sp:=⟨1,0,0,0,0,⟨0,0,0,[]⟩⟩
end
def QtG(t:Lk)(h:1024<t.sum)(h2:t.held.length<=10000000/\t.wait.length<=10000000):VCalls prog 151 [.agg t.d] [] (Ret (.bool false)):=by
 refine dd Tryz.func151 ?_
 unfold Lk.sum at h
 have h':(1024:Int)<t.held.length+t.wait.length:=by omega
 (unfold Tryz.f151; refine rn @h' ?_; try with_reducible exact⟨⟩)
def Kn.smX(k:Kn):Prop:=k.lg.es.length<=4096/\k.pl.fs.length<=64/\smN 65 k.tx/\k.ix.length<=64/\k.la.length<=10000
def QBS(k:Kn)(hk:k.smX)(h:1024<k.lk.sum)(hq:k.lk.held.length<=10000000/\k.lk.wait.length<=10000000):VCalls prog 101 [.agg k.d] [] (Ret (.bool false)):=by
 refine dd Tryz.func101 ?_
 obtain⟨h1,h2,h4,h5,h6⟩:=hk
 have c1:=Qax k.lg (by omega)
 have c2:=Qas k.pl (by omega)
 have c3:=QtG k.lk h hq
 generalize lgB k.lg=b1 at *
 generalize plB k.pl=b2 at *
 (unfold Tryz.f101; refine rn trivial ?_)
 refine rn F ?_
 repeat' (first
  | with_reducible exact⟨⟩
  | (refine sG F ?_ ?_<;>intro hZ)
  | refine vp F (c1) ?_
  | refine vp F (c2) ?_
  | refine vp F (c3) ?_)
 all_goals first | rfl | skip
def QxY(k:Kn)(hk:k.smX)(h:1024<k.lk.sum)(hq:k.lk.held.length<=10000000/\k.lk.wait.length<=10000000):VCalls prog 71 [.agg k.d] [] (Ret (.bool false)):=by
 refine dd Tryz.func71 ?_
 have c1:=QBS k hk h hq
 (unfold Tryz.f71; refine rn trivial ?_)
 refine rn F ?_
 repeat' (first
  | with_reducible exact⟨⟩
  | refine vp F (c1) ?_)
 all_goals first | rfl | skip
def adK(x:Lg)(a:An)(n:Int):Kn:=⟨a.pg,a.nx,x,(Qic n).1,⟨a.lk,[]⟩,a.lo,a.ix,a.la⟩
def QCT(h:l.map (·.id)=m.map (·.id))(a:Int):idT l a=idT m a:=by
 have e:∀ l:List Tx,idT l a=QgA (l.map (·.id)) fun n=>n==a:=fun l=>by
  unfold idT QgA
  rw[List.any_map,List.findIdx_map]
  rfl
 rw[e,e,h]
def QfH(h:QbD l=true)(hi:i<l.length):idT l (l.getD i Tx0).id=i:=by
 have hs:=Qef h
 rw[Qf _ _ hi]
 rcases QI l l[i].id with hn | ⟨j,hj,h1,h2⟩
 ·have:=(Qj7 (l:=l) (a:=l[i].id)).2 (J8.2 ⟨l[i],JH hi,rfl⟩)
  omega
 ·rw [h1]
  rw[List.pairwise_iff_getElem] at hs
  rcases Nat.lt_trichotomy i j with h3 | h3 | h3
  ·have:=hs i j (by simpa using hi) (by simpa using hj) h3
   rw[Jx,Jx] at this
   omega
  ·omega
  ·have:=hs j i (by simpa using hj) (by simpa using hi) h3
   rw[Jx,Jx] at this
   omega
def QnR(h:(QZ l e).2=0)(hk:e.kind=4)(ht:0<e.tx)(ha:a≠e.tx)(h0:0<=idT l a):Qbh (QZ l e).1 a=Qbh l a:=by
 have hid:=QCT (QlT h ⟨by omega,by omega⟩) a
 unfold Qbh
 rw[hid]
 unfold QZ at h |-
 split at h
 ·simp at h
 rename_i q1
 split at h
 ·simp at h
 rename_i q2
 split at h
 ·omega
 rename_i q3
 split at h
 ·simp at h
 rename_i q4
 rw[if_neg q1,if_neg q2,if_neg q3,if_neg q4]
 rcases QI l e.tx with hn | ⟨i,hi,hid2,he⟩
 ·omega
 rcases QI l a with hn | ⟨j,hj,hjd,hja⟩
 ·omega
 rw[hid2,Jq] at h |-
 unfold QlW at h |-
 split at h
 ·simp at h
 rename_i q5
 split at h
 ·rename_i q6; omega
 rename_i q6
 rw[if_neg q5,if_neg q6,hjd,Jq]
 have hij:i≠j:=fun h=>ha (by subst h; rw[<- hja,<- he])
 simp only[Jb,List.getElem?_set_ne hij]
structure AdS(x:Lg)(a:An)(n:Int) where
 i:Nat
 k:Kn
 hi:i<=a.lo.length
 hk:k.sm
 he:Str 0 (adK x a n) k
 hl:∀ j,i<=j->j<a.lo.length->0<=idT k.tx (a.lo.getD j Tx0).id/\Qbh k.tx (a.lo.getD j Tx0).id=a.lo.getD j Tx0
def AdS.nx{a:An}{i:Nat}{k k1:Kn}(ht:QbD a.lo=true)(hq:QwL k e (k1,n1,e1))(h:e1=0)(hk:e.kind=4)(hil:i<a.lo.length)(he:e.tx=(a.lo.getD i Tx0).id)(hl:∀ j,i<=j->j<a.lo.length->0<=idT k.tx (a.lo.getD j Tx0).id/\Qbh k.tx (a.lo.getD j Tx0).id=a.lo.getD j Tx0):∀ j,i+1<=j->j<a.lo.length->0<=idT k1.tx (a.lo.getD j Tx0).id/\Qbh k1.tx (a.lo.getD j Tx0).id=a.lo.getD j Tx0:=fun j h1 h2=>by
 obtain⟨q1,q2⟩:=hl j (by omega) h2
 refine⟨QmS hq h ⟨by omega,by omega⟩ q1,?_⟩
 obtain⟨e',⟨v,s,_,_,_,hn,_⟩,hk1,_,_⟩:=hq.2 h
 dsimp only at hk1
 subst hk1
 have i1:=QfH ht hil
 have i2:=QfH ht h2
 have ho:=QuA (Qdj hn).2
 have hne:(a.lo.getD j Tx0).id≠e'.tx:=fun q=>by
  rw[s.2.1,he] at q
  rw[q,i1] at i2
  omega
 have hpos:0<e'.tx:=by
  have:=Qbz ht hil
  rw[s.2.1,he,Qf _ _ hil]
  simp only[Tx.okB,Tx.hdB,Jg,decide_eq_true_eq] at this
  omega
 exact(QnR hn (by rw[s.1]; exact hk) hpos hne q1).trans q2
def adQ(x:Lg)(a:An)(n:Int)(r:Kn×Int):Prop:=r.1.sm/\(r.2=0->kB (adK x a n)=true/\(adK x a n).pl.fs=[]/\Str 0 (adK x a n) r.1)
def Qyi(x:Lg)(hx:x.es.length<=4096)(a:An)(ha:a.sm 10000)(n:Int):VCalls prog 150 [.agg x.c,.agg a.d,.int .i64 n] [] (QL kiD (adQ x a n)):=by
 refine dk Tryz.func150 ?_
 obtain⟨h1,h2,h3,h4⟩:=ha
 have c1:=Qtw n
 have hf:=Qyq n
 have had:adK x a n=⟨a.pg,a.nx,x,(Qic n).1,⟨a.lk,[]⟩,a.lo,a.ix,a.la⟩:=rfl
 unfold adQ
 have hst0:=fun k=>Str 0 (adK x a n) k
 clear hst0
 generalize hpn:Qic n=p at *
 obtain⟨p,e0⟩:=p
 dsimp only at c1 hf had
 have err:∀ z,z≠0->QL kiD (fun r:Kn×Int=>r.1.sm/\(r.2=0->kB (adK x a n)=true/\(adK x a n).pl.fs=[]/\Str 0 (adK x a n) r.1)) (kiD (Kn0,z)) []:=fun z hz=>⟨rfl,rfl,(Kn0,z),rfl,Qcb,fun h=>absurd h hz⟩
 (unfold Tryz.f150; refine rn trivial ?_)
 refine rn F ?_
 repeat' (first
  | with_reducible exact⟨⟩
  | (refine sB F ?_ ?_<;>intro hZ)
  | refine vp F (c1) ?_)
 all_goals first | exact err 1 (by decide) | skip
 by_cases hs:a.lk.length<=1024
 rotate_left
 ·have c2:=QxY ⟨a.pg,a.nx,x,p,⟨a.lk,[]⟩,a.lo,a.ix,a.la⟩ ⟨hx,by dsimp only; rw [hf]; exact Jc _,h1,h4,h3⟩ (by unfold Lk.sum; simp; omega) ⟨by dsimp only; omega,Jc _⟩
  refine rn F ?_
  refine VCalls.wkH ?_; simp only[QgB,Qe2,Qev,QdD,DV.wk,PV.wk,QGE]
  refine rn F ?_
  repeat' (first
   | with_reducible exact⟨⟩
   | refine vp F (c2) ?_)
  exact err 15 (by decide)
 have hk0:(⟨a.pg,a.nx,x,p,⟨a.lk,[]⟩,a.lo,a.ix,a.la⟩:Kn).sm:=⟨hx,by dsimp only; rw[hf]; exact Jc _,by unfold Lk.sum; simp; omega,h1,h4,h3⟩
 have c2:=QbX ⟨a.pg,a.nx,x,p,⟨a.lk,[]⟩,a.lo,a.ix,a.la⟩ hk0
 refine rn F ?_
 refine VCalls.wkH ?_; simp only[QgB,Qe2,Qev,QdD,DV.wk,PV.wk,QGE]
 cases hv:kB ⟨a.pg,a.nx,x,p,⟨a.lk,[]⟩,a.lo,a.ix,a.la⟩
 ·rw [hv] at c2
  refine rn F ?_
  repeat' (first
   | with_reducible exact⟨⟩
   | refine vp F (c2) ?_)
  exact err 15 (by decide)
 rw[hv] at c2
 rw[<- had] at hv
 have htb:QbD a.lo=true:=by have:=(Qmb hv).2.2.2.2.1; rw[had] at this; exact this
 refine rn F ?_
 repeat' (first
  | with_reducible exact⟨⟩
  | refine vp F (c2) ?_)
 have hlo:=h1.1
 have hpf:(adK x a n).pl.fs=[]:=by rw[had]; exact hf
 refine Qj (fun s:AdS x a n=>⟨72,0,[(11,.int .i64 s.i),(10,.ptr 4 0),(6,.ptr 2 0),(4,.ptr 1 0)],[⟨26,true,x.c⟩,⟨255,true,a.d⟩,⟨39,true,Kn.d Kn0⟩,⟨29,true,p.d⟩,⟨39,true,s.k.d⟩]⟩) (fun s=>a.lo.length-s.i) ⟨0,⟨a.pg,a.nx,x,p,⟨a.lk,[]⟩,a.lo,a.ix,a.la⟩,Jc _,hk0,by rw[had]; exact Str.refl _,fun j _ hj=>by
  have i1:=QfH htb hj
  exact⟨by dsimp only; rw[i1]; omega,Qee i1⟩⟩ (gc [0,1,2,3,4]) ?_
 rintro⟨i,k,hi,hk,he,hl⟩
 dsimp only
 by_cases hil:i<a.lo.length
 rotate_left
 ·skip
  refine rn F ?_
  exact⟨rfl,rfl,(k,0),rfl,hk,fun _=>⟨hv,hpf,he⟩⟩
 have hg:=Qeq a.lo i hil
 have hl0:=hl i (JD _) hil
 have hfp:(a.lo.getD i Tx0).st≠3->QGc k ⟨0,4,(a.lo.getD i Tx0).id,0,0,0,Ch0,[]⟩:=fun h=>⟨hl0.1,fun _=>by dsimp only; rw[hl0.2]; exact h,fun h=>by simp at h⟩
 have hnx:=fun k1 n1 e1 hq h=>AdS.nx (k1:=k1) (n1:=n1) (e1:=e1) htb (e:=⟨0,4,(a.lo.getD i Tx0).id,0,0,0,Ch0,[]⟩) hq h rfl hil rfl hl
 generalize htt:a.lo.getD i Tx0=t at *
 have c3:=Qel k hk ⟨0,4,t.id,0,0,0,Ch0,[]⟩
 have F:=@hg
 refine rn F ?_
 repeat' (first
  | with_reducible exact⟨⟩
  | (refine sB F ?_ ?_<;>intro hZ)
  | (refine Qp (c3) rfl ?_; rintro⟨k1,n1,e1⟩ hq; refine rn F ?_)
  | (refine Qd (id:=11) [0,1,2,3,4,5,6,7] [⟨[],[],8,[1,2,3,4,5,6],[9,10,11,12]⟩,⟨[],[],13,[11,12],[]⟩,⟨[],[],14,[],[]⟩] (by kernel_rfl) (by kernel_rfl) ?_; refine rn F ?_))
 all_goals first
  | exact err _ (by assumption)
  | exact⟨⟨i+1,k,hil,hk,he,fun j h1 h2=>hl j (by omega) h2⟩,by dsimp only; omega,(gc [0,1,2,3,4])⟩
  | exact⟨⟨i+1,k1,hil,hq.1,he.trans (QgI hq (by assumption) (.inr (.inl rfl)) (hfp (by assumption))),hnx k1 n1 e1 hq (by assumption)⟩,by dsimp only; omega,(gc [0,1,2,3,4])⟩
  | skip
def unf(s:List UInt8)(a:Int):List UInt8×Int×Int:=
 if a<0\/(s.length:Int)<a then ([],0,1)
 else if ¬ a.toNat+4<=s.length then ([],0,5)
 else if 8392<n4 s a.toNat then ([],0,2)
 else if ¬ a.toNat+4+n4 s a.toNat+4<=s.length then ([],0,5)
 else if ¬ (n4 s (a.toNat+4+n4 s a.toNat):Int)=Qnn ((s.take (a.toNat+4+n4 s a.toNat)).drop a.toNat) then ([],0,3)
 else ((s.take (a.toNat+4+n4 s a.toNat)).drop (a.toNat+4),(a.toNat+4+n4 s a.toNat+4:Nat),0)
def Qz3(s:List UInt8)(a:Int):(unf s a).1.length<=s.length/\((unf s a).2.2=0->0<=a/\0<=(unf s a).2.1/\(unf s a).2.1<=s.length):=by
 unfold unf
 split
 ·exact⟨Jc _,fun h=>by simp at h⟩
 rename_i h1
 split
 ·exact⟨Jc _,fun h=>by simp at h⟩
 split
 ·exact⟨Jc _,fun h=>by simp at h⟩
 split
 ·exact⟨Jc _,fun h=>by simp at h⟩
 rename_i h2
 split
 ·exact⟨Jc _,fun h=>by simp at h⟩
 ·refine⟨by dsimp only; rw[JT,Ji]; omega,fun _=>⟨by omega,by dsimp only; omega,by dsimp only; omega⟩⟩
def QGp(s:List UInt8)(a:Int):DV:=.tup [.pv (.str (unf s a).1),.int .i64 (unf s a).2.1,.int .i64 (unf s a).2.2]
def QiI(s:List UInt8)(hs:s.length<=100000000)(a:Int):VCalls prog 192 [.pv (.str s),.int .i64 a] [] (Ret (QGp s a)):=by
 refine dd Tryz.func192 ?_
 unfold QGp unf
 by_cases h1:a<0
 ·rw [if_pos (.inl h1)]
  (unfold Tryz.f192; refine rn @h1 ?_; try with_reducible exact⟨⟩)
 ·by_cases h2:(s.length:Int) < a
  ·rw [if_pos (.inr h2)]
   (unfold Tryz.f192; refine rn (Ja @h1 @h2) ?_; try with_reducible exact⟨⟩)
  ·rw [if_neg (by omega)]
   obtain⟨k,rfl⟩:∃ k:Nat,a=k:=⟨a.toNat,by omega⟩
   rw[Jq]
   by_cases h3:k+4<=s.length
   ·rw [if_neg (by omega)]
    have hn:=QCp s k
    (unfold Tryz.f192; refine rn (Ja @h1 @h2) ?_)
    refine Qae (QEO s (by omega) k h3) rfl ?_
    by_cases h4:8392<n4 s k
    ·rw [if_pos h4]
     have h4':8392<(n4 s k:Int):=by omega
     (refine rn @h4' ?_; try with_reducible exact⟨⟩)
    ·rw [if_neg h4]
     have h4':¬ 8392<(n4 s k:Int):=by omega
     have hw:IntKind.u32.wrap (n4 s (k+4+n4 s k):Int)=(n4 s (k+4+n4 s k):Int):=by
      have:=QCp s (k+4+n4 s k)
      simp[IntKind.wrap,IntKind.signed,IntKind.bits]; omega
     by_cases h5:k+4+n4 s k+4<=s.length
     ·rw [if_neg (by omega)]
      have hg:=QEO s (by omega) (k+4+n4 s k) h5
      have e:(((k+4+n4 s k:Nat)):Int)=(k:Int)+4+(n4 s k:Int):=by omega
      rw[e] at hg
      have h5':¬ (s.length:Int)-(k:Int)<(n4 s k:Int)+8:=by omega
      refine rn (Ja @h4' @h5') ?_
      refine Qae hg rfl ?_
      have ht:((k:Int)+4+(n4 s k:Int)).toNat=k+4+n4 s k:=by omega
      have q1:(0:Int)<=(k:Int)+4+(n4 s k:Int):=by omega
      have q2:k<=k+4+n4 s k:=by omega
      have q3:k+4+n4 s k<=s.length:=by omega
      have hx:=Qnm ((s.take (k+4+n4 s k)).drop k)
      refine rn (Ja @ht (Ja @q1 (Ja @q2 (Ja @q3 @hw)))) ?_
      refine Qae (QoG _ (by rw[JT,Ji]; omega)) rfl ?_
      by_cases h6:(n4 s (k+4+n4 s k):Int)=Qnn ((s.take (k+4+n4 s k)).drop k)
      ·rw [if_neg (by omega)]
       have q4:((k:Int)+4).toNat=k+4:=by omega
       have q5:k+4<=k+4+n4 s k:=by omega
       have q6:(0:Int)<=(k:Int)+4:=by omega
       have e8:(((k+4+n4 s k+4:Nat)):Int)=(k:Int)+8+(n4 s k:Int):=by omega
       refine rn (Ja @h6 (Ja @ht (Ja @q1 (Ja @q2 (Ja @q3 (Ja @q4 (Ja @q5 @q6))))))) ?_
       rw[e8]
      ·rw [if_pos h6]
       (refine rn @h6 ?_; try with_reducible exact⟨⟩)
     ·rw [if_pos (by omega)]
      have h5':(s.length:Int)-(k:Int)<(n4 s k:Int)+8:=by omega
      (refine rn (Ja @h4' @h5') ?_; try with_reducible exact⟨⟩)
   ·rw [if_pos h3]
    (unfold Tryz.f192; refine rn (Ja @h1 @h2) ?_)
    refine Qae (QdO s k 4 (by omega) (by omega) (by omega)) rfl ?_
    (refine rn trivial ?_; try with_reducible exact⟨⟩)
section
structure RS(s:List UInt8) where
 at_:Int
 e:Int
 h:0<=at_/\at_<=s.length
def QnQ(s:List UInt8)(a k:Nat):Int:=IntKind.i64.wrap (Qfi s a k)
def Qc3(s:List UInt8)(r:RS s)(k:Nat):Int×RS s:=
 if r.e=0 then if h:r.at_+k<=s.length then (QnQ s r.at_.toNat k,⟨r.at_+k,0,by have:=r.h; omega⟩) else (0,⟨r.at_,5,r.h⟩) else (0,r)
def Qfy(s:List UInt8)(r:RS s)(n:Int):List UInt8×RS s:=
 if r.e=0 then if h:0<=n/\r.at_+n<=s.length then ((s.take (r.at_+n).toNat).drop r.at_.toNat,⟨r.at_+n,0,by have:=r.h; omega⟩) else ([],⟨r.at_,5,r.h⟩) else ([],r)
def Qrs(s:List UInt8)(p:Int×RS s):Ce×RS s :=
 if p.2.e=0/\¬ p.1=255 then
  if 12<p.1 then (Ce0,⟨p.2.at_,4,p.2.h⟩) else (⟨true,(Qfy s p.2 p.1).1⟩,(Qfy s p.2 p.1).2)
 else (Ce0,p.2)
def QfP(s:List UInt8)(r:RS s):Ce×RS s:=Qrs s (Qc3 s r 1)
def QnP(s:List UInt8)(a k:Nat)(h:k<=7):0<=QnQ s a k/\QnQ s a k<2 ^ (8*k):=by
 have h1:=Qfh s a k (by omega)
 have h2:=Ql5 s a k
 have h3:(2:Nat) ^ (8*k)<=2 ^ 56:=Nat.pow_le_pow_right (by omega) (by omega)
 have h4:((2:Int) ^ (8*k))=((2 ^ (8*k):Nat):Int):=by rw[Ka]; rfl
 unfold QnQ
 rw[h1,IntKind.wrap_i64,h4]
 omega
def QuE(s:List UInt8)(r:RS s)(k:Nat)(h:k<=7):0<=(Qc3 s r k).1:=by
 unfold Qc3
 split
 ·split
  ·exact(QnP s _ k h).1
  ·exact JJ _
 ·exact JJ _
abbrev RC(B:Blk)(d:DV):DV->Qb->Prop:=fun r h'=>∃ B',h'=[B']/\B'.live=true/\DV.nums.go (fun _=>false) B'.cells=true/\r.nums (fun _=>false)=true/\(r=d/\B'=B)
def rdB(T:TypeId)(s:List UInt8)(r:RS s):Blk:=⟨T,true,[.pv (.str s),.int .i64 r.at_,.int .i64 r.e]⟩
attribute [go_sem] rdB
attribute [local go_sem] Ce.d
def Qez(h:VCalls prog g (args.map (DV.ren fun _=>0)) [rdB T s r0] (RC (rdB T s r1) d))(hk:hp[k]?=some (rdB T s r0))(ha:DV.nums.go (fun i=>i==k) args=true)(hK:K d (hp.set k (rdB T s r1))):VCalls prog g args hp K:=
 (VCalls.ptr1 (R:=fun r B'=>r=d/\B'=rdB T s r1) hk rfl rfl h ha).mono fun r h' ⟨B',e1,_,_,e2,e3⟩=>by subst e1 e2 e3; exact hK
def Qcn(s:List UInt8)(hs:s.length<=100000000)(r:RS s)(k:Nat)(hk:1<=k/\k<=8):VCalls prog 224 [.ptr 0 0,.int .i64 k] [rdB 329 s r] (RC (rdB 329 s (Qc3 s r k).2) (.int .i64 (Qc3 s r k).1)):=by
 refine dd Tryz.func224 ?_
 obtain⟨a,e,ha⟩:=r
 obtain⟨n,rfl⟩:∃ n:Nat,a=n:=⟨a.toNat,by omega⟩
 unfold Qc3
 dsimp only
 by_cases he:e=0
 ·subst he
  rw[if_pos rfl]
  by_cases h:(n:Int)+k<=s.length
  ·rw [dif_pos h]
   have hg:=QiK s (by omega) n k hk (by omega)
   (unfold Tryz.f224; refine rn trivial ?_)
   refine Qd (id:=3) [0,1,2,3,4,5,6,7,8] [⟨[],[],9,[0,1,2,4,5,6],[10,11,12]⟩,⟨[],[],13,[12],[]⟩,⟨[],[],14,[],[]⟩] (by kernel_rfl) (by kernel_rfl) ?_
   refine rn trivial ?_
   refine Qae hg rfl ?_
   refine rn trivial ?_
   exact⟨_,rfl,rfl,rfl,rfl,rfl,rfl⟩
  ·rw [dif_neg h]
   have hg:=QdO s n k (by omega) (by omega) h
   (unfold Tryz.f224; refine rn trivial ?_)
   refine Qd (id:=3) [0,1,2,3,4,5,6,7,8] [⟨[],[],9,[0,1,2,4,5,6],[10,11,12]⟩,⟨[],[],13,[12],[]⟩,⟨[],[],14,[],[]⟩] (by kernel_rfl) (by kernel_rfl) ?_
   refine rn trivial ?_
   refine Qae hg rfl ?_
   refine rn trivial ?_
   exact⟨_,rfl,rfl,rfl,rfl,rfl,rfl⟩
 ·rw [if_neg he]
  (unfold Tryz.f224; refine rn @he ?_)
  exact⟨_,rfl,rfl,rfl,rfl,rfl,rfl⟩
def Qpk(s:List UInt8)(hs:s.length<=100000000)(r:RS s)(n:Int)(hn:0<=n/\n<=4294967296):VCalls prog 226 [.ptr 0 0,.int .i64 n] [rdB 329 s r] (RC (rdB 329 s (Qfy s r n).2) (.pv (.str (Qfy s r n).1))):=by
 refine dd Tryz.func226 ?_
 obtain⟨a,e,ha⟩:=r
 obtain⟨n,rfl⟩:∃ m:Nat,n=m:=⟨n.toNat,by omega⟩
 obtain⟨a,rfl⟩:∃ m:Nat,a=m:=⟨a.toNat,by omega⟩
 unfold Qfy
 dsimp only
 by_cases he:e=0
 ·subst he
  rw[if_pos rfl]
  by_cases h:0<=(n:Int)/\(a:Int)+n<=s.length
  ·rw [dif_pos h]
   have q1:¬ (s.length:Int)-a<n:=by omega
   have q2:¬ (s.length:Int)-a<n:=by omega
   have q3:¬ (s.length:Int)-(a:Int)<(n:Int):=by omega
   have q4:((a:Int)+n).toNat=a+n:=by omega
   have q5:(a:Int)+n-n=a:=by omega
   have q6:a<=a+n:=by omega
   have q7:a+n<=s.length:=by omega
   have q8:0<=(a:Int)+n:=by omega
   have q9:(a:Int).toNat=a:=by omega
   have q10:¬ (n:Int) > (s.length:Int)-a:=by omega
   (unfold Tryz.f226; refine rn @q3 ?_)
   refine Qfr (by kernel_rfl) (by kernel_rfl) ?_
   refine rn (Ja @q3 @q10) ?_
   refine Qfr (by kernel_rfl) (by kernel_rfl) ?_
   refine rn (Ja @q4 (Ja @q5 (Ja @q6 (Ja @q7 @q8)))) ?_
   exact⟨_,rfl,rfl,rfl,rfl,rfl,rfl⟩
  ·rw [dif_neg h]
   have q3:(s.length:Int)-(a:Int)<(n:Int):=by omega
   (unfold Tryz.f226; refine rn @q3 ?_)
   refine Qfr (by kernel_rfl) (by kernel_rfl) ?_
   refine rn @q3 ?_
   exact⟨_,rfl,rfl,rfl,rfl,rfl,rfl⟩
 ·rw [if_neg he]
  (unfold Tryz.f226; refine rn @he ?_)
  exact⟨_,rfl,rfl,rfl,rfl,rfl,rfl⟩
def Qmc(s:List UInt8)(hs:s.length<=100000000)(r:RS s):VCalls prog 225 [.ptr 0 0] [rdB 329 s r] (RC (rdB 329 s (QfP s r).2) (.agg (QfP s r).1.d)):=by
 refine dd Tryz.func225 ?_
 have hn:=Qcn s hs r 1 (by omega)
 have h0:=QuE s r 1 (by omega)
 have h1:(Qc3 s r 1).1<=255:=by
  unfold Qc3
  split
  ·split
   ·have:=(QnP s r.at_.toNat 1 (by omega)).2; dsimp only; omega
   ·simp
  ·simp
 unfold QfP
 generalize Qc3 s r 1=p at hn h0 h1 |-
 obtain⟨n,r1⟩:=p
 unfold Qrs
 dsimp only at hn h0 h1 |-
 (unfold Tryz.f225; refine rn trivial ?_)
 refine Qez (k:=0) hn rfl rfl ?_
 by_cases he:r1.e=0
 ·by_cases h2:n = 255
  ·subst h2
   rw[if_neg (by simp)]
   refine rn @he ?_
   exact⟨_,rfl,rfl,rfl,rfl,rfl,by rw[<- he]⟩
  ·rw [if_pos ⟨he,h2⟩]
   by_cases h3:12<n
   ·rw [if_pos h3]
    refine rn (Ja @he (Ja @h2 @h3)) ?_
    exact⟨_,rfl,rfl,rfl,rfl,rfl,rfl⟩
   ·rw [if_neg h3]
    have ht:=Qpk s hs r1 n (by omega)
    refine rn (Ja @he (Ja @h2 @h3)) ?_
    have e9:(⟨329,true,[.pv (.str s),.int .i64 r1.at_,.int .i64 0]⟩:Blk)=rdB 329 s r1:=by rw[rdB,he]
    rw[e9]
    refine Qez (k:=0) ht rfl rfl ?_
    refine rn trivial ?_
    exact⟨_,rfl,rfl,rfl,rfl,rfl,rfl⟩
 ·rw [if_neg (fun h=>he h.1)]
  refine rn @he ?_
  exact⟨_,rfl,rfl,rfl,rfl,rfl,rfl⟩
end
section
attribute [local go_sem] Ce.d
def rs0(s:List UInt8):RS s:=⟨0,0,by omega⟩
def QyD(s:List UInt8)(r:RS s):(Qc3 s r 4).1<=4294967296:=by
 unfold Qc3
 split
 ·split
  ·have:=(QnP s r.at_.toNat 4 (by omega)).2; dsimp only; omega
  ·simp
 ·simp
def QvS(s:List UInt8):E×RS s:=
 let p1:=Qc3 s (rs0 s) 8
 let p2:=Qc3 s p1.2 1
 let p3:=Qc3 s p2.2 4
 let p4:=Qc3 s p3.2 8
 let p5:=Qc3 s p4.2 8
 let p6:=Qc3 s p5.2 8
 let p7:=Qc3 s p6.2 4
 let p8:=Qc3 s p7.2 1
 let c1:=QfP s p8.2
 let c2:=QfP s c1.2
 let p9:=Qc3 s c2.2 4
 let t:=Qfy s p9.2 p9.1
 (⟨p1.1,p2.1,p3.1,p4.1,p5.1,p6.1,⟨p7.1,p8.1,c1.1,c2.1⟩,t.1⟩,t.2)
def QrQ(s:List UInt8):E×Int:=
 if (QvS s).2.e=0 then if (QvS s).2.at_=s.length then if (QvS s).1.okB=true then ((QvS s).1,0) else (E0,12) else (E0,4) else (E0,(QvS s).2.e)
def QqM(s:List UInt8)(hs:s.length<=100000000):VCalls prog 194 [.pv (.str s)] [] (Ret (.tup [.agg (QrQ s).1.d,.int .i64 (QrQ s).2])):=by
 have hp1:=Qcn s hs (rs0 s) 8 (by omega)
 generalize hqp1:Qc3 s (rs0 s) 8=p1 at hp1
 have hp2:=Qcn s hs p1.2 1 (by omega)
 generalize hqp2:Qc3 s p1.2 1=p2 at hp2
 have hp3:=Qcn s hs p2.2 4 (by omega)
 generalize hqp3:Qc3 s p2.2 4=p3 at hp3
 have hp4:=Qcn s hs p3.2 8 (by omega)
 generalize hqp4:Qc3 s p3.2 8=p4 at hp4
 have hp5:=Qcn s hs p4.2 8 (by omega)
 generalize hqp5:Qc3 s p4.2 8=p5 at hp5
 have hp6:=Qcn s hs p5.2 8 (by omega)
 generalize hqp6:Qc3 s p5.2 8=p6 at hp6
 have hp7:=Qcn s hs p6.2 4 (by omega)
 generalize hqp7:Qc3 s p6.2 4=p7 at hp7
 have hp8:=Qcn s hs p7.2 1 (by omega)
 generalize hqp8:Qc3 s p7.2 1=p8 at hp8
 have hc1:=Qmc s hs p8.2
 generalize hqc1:QfP s p8.2  = c1 at hc1
 have hc2:=Qmc s hs c1.2
 generalize hqc2:QfP s c1.2  = c2 at hc2
 have hp9:=Qcn s hs c2.2 4 (by omega)
 generalize hqp9:Qc3 s c2.2 4=p9 at hp9
 have ht:=Qpk s hs p9.2 p9.1 ⟨by rw[<- hqp9]; exact QuE s _ 4 (by omega),by rw[<- hqp9]; exact QyD s _⟩
 generalize hqt:Qfy s p9.2 p9.1=t at ht
 have hd:QvS s=(⟨p1.1,p2.1,p3.1,p4.1,p5.1,p6.1,⟨p7.1,p8.1,c1.1,c2.1⟩,t.1⟩,t.2):=by
  unfold QvS
  simp only[hqp1,hqp2,hqp3,hqp4,hqp5,hqp6,hqp7,hqp8,hqc1,hqc2,hqp9,hqt]
 have hv:=QcQ ⟨p1.1,p2.1,p3.1,p4.1,p5.1,p6.1,⟨p7.1,p8.1,c1.1,c2.1⟩,t.1⟩
 unfold QrQ
 rw[hd]
 clear hqt hqp9 hqc2 hqc1 hqp8 hqp7 hqp6 hqp5 hqp4 hqp3 hqp2 hqp1 hd
 obtain⟨n1,r1⟩:=p1
 obtain⟨n2,r2⟩:=p2
 obtain⟨n3,r3⟩:=p3
 obtain⟨n4,r4⟩:=p4
 obtain⟨n5,r5⟩:=p5
 obtain⟨n6,r6⟩:=p6
 obtain⟨n7,r7⟩:=p7
 obtain⟨n8,r8⟩:=p8
 obtain⟨x1,r9⟩:=c1
 obtain⟨x2,r10⟩:=c2
 obtain⟨n9,r11⟩:=p9
 obtain⟨tt,r12⟩:=t
 dsimp only at *
 refine dd Tryz.func194 ?_
 (unfold Tryz.f194; refine rn trivial ?_)
 have e0:(⟨329,true,[.pv (.str s),.int .i64 0,.int .i64 0]⟩:Blk)=rdB 329 s (rs0 s):=rfl
 rw[e0]
 refine Qez (k:=1) hp1 rfl rfl ?_
 refine rn trivial ?_
 refine Qez (k:=1) hp2 rfl rfl ?_
 refine rn trivial ?_
 refine Qez (k:=1) hp3 rfl rfl ?_
 refine rn trivial ?_
 refine Qez (k:=1) hp4 rfl rfl ?_
 refine rn trivial ?_
 refine Qez (k:=1) hp5 rfl rfl ?_
 refine rn trivial ?_
 refine Qez (k:=1) hp6 rfl rfl ?_
 refine rn trivial ?_
 refine Qez (k:=1) hp7 rfl rfl ?_
 refine rn trivial ?_
 refine Qez (k:=1) hp8 rfl rfl ?_
 refine rn trivial ?_
 refine Qez (k:=1) hc1 rfl rfl ?_
 refine rn trivial ?_
 refine Qez (k:=1) hc2 rfl rfl ?_
 refine rn trivial ?_
 refine Qez (k:=1) hp9 rfl rfl ?_
 refine rn trivial ?_
 refine Qez (k:=1) ht rfl rfl ?_
 refine rn trivial ?_
 by_cases he:r12.e=0
 ·rw [if_pos he]
  by_cases ha:r12.at_=s.length
  ·rw [if_pos ha]
   refine rn (Ja @he @ha) ?_
   by_cases hb:E.okB ⟨n1,n2,n3,n4,n5,n6,⟨n7,n8,x1,x2⟩,tt⟩=true
   ·rw [if_pos hb]
    rw[hb] at hv
    refine Qae hv rfl ?_
    refine rn trivial ?_
    first | exact⟨⟩ | rfl
   ·rw [if_neg hb]
    have hb:E.okB ⟨n1,n2,n3,n4,n5,n6,⟨n7,n8,x1,x2⟩,tt⟩=false:=by simpa using hb
    rw[hb] at hv
    refine Qae hv rfl ?_
    refine rn trivial ?_
    rfl
  ·rw [if_neg ha]
   refine rn (Ja @he @ha) ?_
   rfl
 ·rw [if_neg he]
  refine rn @he ?_
  refine Qfr (by kernel_rfl) (by kernel_rfl) ?_
  refine rn trivial ?_
  rfl
end
def Qg3(s:List UInt8)(a l:Int):Option (E×Int):=if (unf s a).2.2=0/\(QrQ (unf s a).1).2=0/\(QrQ (unf s a).1).1.lsn=l then some ((QrQ (unf s a).1).1,(unf s a).2.1) else none
def opn (s:List UInt8):Nat->Int->Int->List E
 | 0,_,_=>[]
 | n + 1,a,l=>match Qg3 s a l with
   | some (x,b)=>x::opn s n b (l+1)
   | none=>[]
def QD3(s:List UInt8):List E:=opn s 4096 (unf s 0).2.1 (QnQ (unf s 0).1 4 8)
def hdO(s:List UInt8):Prop:=(unf s 0).2.2=0/\(unf s 0).1.length=12/\(unf s 0).1.take 4=[80,77,76,71]/\1<=QnQ (unf s 0).1 4 8/\QnQ (unf s 0).1 4 8<=1099511627776
instance (s:List UInt8):Decidable (hdO s):=by unfold hdO; infer_instance
def Qcl(s:List UInt8):Lg×Int:=if hdO s then (⟨QnQ (unf s 0).1 4 8,QD3 s,QnQ (unf s 0).1 4 8+(QD3 s).length-1⟩,0) else (Lg0,4)
def Quy (s:List UInt8):∀ n a l,(opn s n a l).length<=n
 | 0,_,_=>JD _
 | n + 1,a,l=>by
   unfold opn
   split
   ·rw[Jo]; have:=Quy s n; exact Nat.succ_le_succ (this _ _)
   ·exact Jc _
def Qo1(n:Nat)(h:Qg3 s a l=none):opn s n a l=[]:=by
 cases n
 ·rfl
 ·unfold opn; rw[h]
def Qs5(h:(unf s a).2.2≠0):Qg3 s a l=none:=if_neg fun x=>h x.1
structure Op(s:List UInt8)(f a0:Int) where
 l:List E
 a:Int
 hl:l.length<=4096
 h:l++opn s (4096-l.length) a (f+l.length)=opn s 4096 a0 f
def Op.start(s:List UInt8)(f a0:Int):Op s f a0:=⟨[],a0,Jc _,by simp⟩
def Qyy(hn:n<4096)(h:Qg3 s a l=some (x,b)):opn s (4096-n) a l=x::opn s (4096-(n+1)) b (l+1):=by
 obtain⟨m,hm⟩:∃ m,4096-n=m+1:=⟨4095-n,by omega⟩
 rw[hm,show 4096-(n+1)=m by omega]
 conv=>lhs; unfold opn
 rw[h]
def Op.next{s:List UInt8}{f a0:Int}(o:Op s f a0)(hn:o.l.length<4096){x:E}{b:Int}(h:Qg3 s o.a (f+o.l.length)=some (x,b)):Op s f a0:=⟨o.l++[x],b,by simp; omega,by
 have:=o.h
 rw[Qyy hn h] at this
 rw[<- this,Jd,List.length_singleton,Je,List.singleton_append]
 congr 3
 omega⟩
def Op.stop(o:Op s f a0)(h:o.l.length<4096->Qg3 s o.a (f+o.l.length)=none):opn s 4096 a0 f=o.l:=by
 rw[<- o.h]
 by_cases hc:o.l.length<4096
 ·rw[Qo1 _ (h hc),Jm]
 ·have:=o.hl
  rw[show 4096-o.l.length=0 by omega]; exact Jm _
def QBT(s:List UInt8)(hs:s.length<=100000000):VCalls prog 148 [.pv (.str s)] [] (Ret (lgD (Qcl s))):=by
 refine VCalls.unwk ?_
 refine dd Tryz.func148 ?_
 have c0:=QiI s hs 0
 have hu:=Qz3 s 0
 generalize hR:Qcl s=R
 unfold QGp at c0
 generalize hU:unf s 0=u at *
 obtain⟨u,a0,e0⟩:=u
 dsimp only at hu c0
 (unfold Tryz.f148; refine rn trivial ?_)
 by_cases he:e0=0
 rotate_left
 ·skip
  have F:=@he
  refine rn F ?_
  repeat' (first
   | with_reducible exact⟨⟩
   | refine vp F (c0) ?_)
  all_goals
   rw[<- hR]
   unfold Qcl
   rw[if_neg (fun h=>by have h1:=h.1; rw[hU] at h1; exact he h1)]
   rfl
 subst he
 by_cases hl:u.length=12
 rotate_left
 ·have hl2:¬ (u.length:Int) = 12:=by omega
  have F:=@hl2
  refine rn F ?_
  repeat' (first
   | with_reducible exact⟨⟩
   | refine vp F (c0) ?_)
  all_goals first
   | (rw[<- hR]; unfold Qcl; rw[if_neg (fun h=>by have h1:=h.2.1; rw[hU] at h1; exact hl h1)]; rfl)
   | (exfalso; omega)
 have h4:4<=u.length:=by omega
 have c3:=QiK u (by omega) 4 8 (by omega) (by omega)
 have hN:IntKind.i64.wrap (Qfi u 4 8)=QnQ u 4 8:=rfl
 rw[hN] at c3
 generalize hn:QnQ u 4 8=f at *
 have hl3:(u.length:Int)=12:=by omega
 by_cases hp:u.take 4=[80,77,76,71]
 rotate_left
 ·skip
  have F:=(Ja @h4 (Ja @hl3 @hp))
  refine rn F ?_
  repeat' (first
   | with_reducible exact⟨⟩
   | (refine sG F ?_ ?_<;>intro hZ)
   | (refine sB F ?_ ?_<;>intro hZ)
   | refine vp F (c0) ?_
   | refine vp F (c3) ?_)
  all_goals first
   | (rw[<- hR]; unfold Qcl; rw[if_neg (fun h=>by have h1:=h.2.2.1; rw[hU] at h1; exact hp h1)]; rfl)
   | (exfalso; omega)
   | skip
  all_goals (exfalso; simp_all)
 by_cases hf:1<=f/\f<=1099511627776
 rotate_left
 ·skip
  have F:=(Ja @h4 (Ja @hl3 @hp))
  refine rn F ?_
  repeat' (first
   | with_reducible exact⟨⟩
   | (refine sG F ?_ ?_<;>intro hZ)
   | refine vp F (c0) ?_
   | refine vp F (c3) ?_)
  all_goals first
   | (rw[<- hR]; unfold Qcl; rw[if_neg (fun h=>by have h1:=h.2.2.2; rw[hU,hn] at h1; exact hf h1)]; rfl)
   | (exfalso; omega)
 have F:=(Ja @h4 (Ja @hl3 @hp))
 refine rn F ?_
 repeat' (first
  | with_reducible exact⟨⟩
  | refine vp F (c0) ?_
  | refine vp F (c3) ?_)
 all_goals first | (exfalso; omega) | skip
 refine VLoop.nilOwnC 1 1 52 13 rfl rfl ?_
 refine rn trivial ?_
 refine Qj (fun o:{o:Op s f a0×Int // o.2=f+o.1.l.length-1}=>⟨90,0,[(9,.ptr 1 0),(5,.int .i64 o.1.1.a),(2,.ptr 0 0),(0,.pv (.str s))],[⟨26,true,[.int .i64 0,.pv (.slc []),.int .i64 0]⟩,⟨26,true,[.int .i64 f,.own 2 13 0 o.1.1.l.length,.int .i64 o.1.2]⟩,⟨52,true,cells encE o.1.1.l⟩]⟩) (fun o=>4096-o.1.1.l.length) ⟨(Op.start s f a0,f-1),by simp[Op.start]⟩ (gc [0,1,2]) ?_
 rintro⟨⟨o,d⟩,hd⟩
 dsimp only at hd |-
 have hol:=o.hl
 have hst:=o.stop
 have c4:=QiI s hs o.a
 unfold QGp at c4
 have hu2:=Qz3 s o.a
 have hso:Qg3 s o.a (f+o.l.length)=if (unf s o.a).2.2=0/\(QrQ (unf s o.a).1).2=0/\(QrQ (unf s o.a).1).1.lsn=f+o.l.length then some ((QrQ (unf s o.a).1).1,(unf s o.a).2.1) else none:=rfl
 generalize unf s o.a=v at *
 obtain⟨v,b,e⟩:=v
 dsimp only at hu2 hso c4
 have c5:=QqM v (by omega)
 generalize QrQ v=D at *
 have hb:(o.l.length+1)*128<=140737488355328:=by omega
 have fin:(o.l.length<4096->Qg3 s o.a (f+o.l.length)=none)->DV.tup [.agg [.int .i64 f,.pv (.sl (fz encE o.l)),.int .i64 d],.int .i64 0]=lgD R:=fun h=>by
  have h1:hdO s:=by unfold hdO; rw[hU,hn]; exact⟨rfl,hl,hp,hf⟩
  have h2:QD3 s=o.l:=by unfold QD3; rw[hU,hn]; exact hst h
  rw[<- hR,hd]
  unfold Qcl
  rw[if_pos h1,h2,hU,hn]
  rfl
 have F:=@hb
 refine rn F ?_
 repeat' (first
  | with_reducible exact⟨⟩
  | (refine sG F ?_ ?_<;>intro hZ)
  | (refine sB F ?_ ?_<;>intro hZ)
  | refine vp F (c4) ?_
  | refine vp F (c5) ?_)
 ·exact fin fun _=>by rw[hso,if_neg fun h=>by have h1:=h.1; omega]
 ·exact fin fun _=>by rw[hso,if_neg fun h=>by have h1:=h.2.1; have h2:=h.2.2; omega]
 ·have hl1:(o.l ++ [D.1]).length = o.l.length + 1:=by simp
  refine⟨⟨(o.next (by omega) (x:=D.1) (b:=b) (by rw[hso,if_pos ⟨by omega,by omega,by omega⟩]),D.1.lsn),?_⟩,?_,?_⟩
  ·dsimp only[Op.next]; rw[hl1]; omega
  ·dsimp only[Op.next]; rw[hl1]; omega
  ·dsimp only [Op.next]
   rw[hl1]
   exact(gc [0,1,5])
 ·exact fin fun _=>by rw[hso,if_neg fun h=>by have h1:=h.2.1; omega]
 ·exact fin fun h=>by omega
def Ql6:∀ {k:Nat},(∀ i,i<k->s.getD (a+i) 0=t.getD (b+i) 0)->leN s a k=leN t b k
 | 0,_=>rfl
 | k+1,h=>by rw[leN,leN,Ql6 (fun i hi=>h i (by omega)),h k (by omega)]
def QuT(s t:List UInt8)(n:Int)(k:Nat)(hk:k<=8):leN (Qn s n k++t) s.length k=u64N n % 2 ^ (8*k):=by
 have h:=QhV s t n k hk k (JD _)
 rw[Qfh _ _ _ hk] at h
 omega
def frq(q:List UInt8):List UInt8:=Qn [] q.length 4++q
def Qn6(q:List UInt8):(frq q).length=q.length+4:=by rw[frq,Jd,Qe]; simp; omega
def Qvq(h:q.length<=8392):frm q=Qn (frq q) (Qnn (frq q)) 4:=by rw[frm,if_pos h]; rfl
def QhB(h:q.length<=8392):(frm q).length=q.length+8:=by rw[Qvq h,Qe,Qn6]
def Quj(p q:List UInt8)(n:Int)(k:Nat):p++Qn q n k=Qn (p++q) n k:=by simp[Qn]
def Qvp(h:q.length<=8392)(p r:List UInt8):p++(frm q++r)=Qn (p++frq q) (Qnn (frq q)) 4++r:=by
 rw[Qvq h,<- Quj,Je]
def QFd(h:q.length<=8392)(p r:List UInt8):n4 (p++(frm q++r)) p.length=q.length:=by
 have:=QuT p (q++((JZ 4).map (QmG (Qnn (frq q)))++r)) q.length 4 (by omega)
 have e:p++(frm q++r)=Qn p q.length 4++(q++((JZ 4).map (QmG (Qnn (frq q)))++r)):=by
  rw[Qvq h]
  generalize Qnn (frq q)=z
  simp only[frq,Qn,Kb,Je]
 rw[n4,e,this]
 unfold u64N; omega
def QFc(h:q.length<=8392)(p r:List UInt8):(n4 (p++(frm q++r)) (p.length+4+q.length):Int)=Qnn (frq q):=by
 have:=QuT (p++frq q) r (Qnn (frq q)) 4 (by omega)
 have hx:=Qnm (frq q)
 have hl:(p++frq q).length=p.length+4+q.length:=by rw[Jd,Qn6]; omega
 rw[Qvp h,n4,<- hl,this]
 unfold u64N; omega
def QFE(h:q.length<=8392)(p r:List UInt8):((p++(frm q++r)).take (p.length+4+q.length)).drop p.length=frq q:=by
 have hl:(p++frq q).length=p.length+4+q.length:=by rw[Jd,Qn6]; omega
 rw[Qvp h,Qn,Je,List.take_left' hl,Kf]
def Qz4(h:q.length<=8392)(p r:List UInt8):unf (p++(frm q++r)) p.length=(q,((p.length+(q.length+8):Nat):Int),0):=by
 have h1:=QFd h p r
 have h2:=QFc h p r
 have h3:=QFE h p r
 have hl:=QhB h
 have hs:(p++(frm q++r)).length=p.length+(q.length+8)+r.length:=by rw[Jd,Jd,hl]; omega
 unfold unf
 rw[Jq,if_neg (by omega),if_neg (by omega),h1,if_neg (by omega),if_neg (by omega),h2,h3,if_neg (by simp)]
 have e:((p++(frm q++r)).take (p.length+4+q.length)).drop (p.length+4)=q:=by
  rw[<- List.drop_drop,h3,frq,List.drop_left' (by rw[Qe]; rfl)]
 rw[e]
 congr 2
 omega
def QBm(h:q.length<=8392)(p:List UInt8)(k:Nat)(hk:k<q.length+8):(unf (p++(frm q).take k) p.length).2.2=5:=by
 have hl:=QhB h
 have hs:(p++(frm q).take k).length=p.length+k:=by rw[Jd,Ji]; omega
 unfold unf
 rw[Jq,if_neg (by omega)]
 by_cases h4:k<4
 ·rw[if_pos (by omega)]
 have h1:=QFd h p []
 have h0:n4 (p++(frm q).take k) p.length=q.length:=by
  rw[<- h1]
  refine Ql6 fun i hi=>?_
  rw[Jb,Jb,JL (by omega),JL (by omega),J3,if_pos (by omega),Jm]
 rw[if_neg (by omega),h0,if_neg (by omega),if_pos (by omega)]
def QBl(p:List UInt8):(unf p p.length).2.2=5:=by
 unfold unf
 rw[Jq,if_neg (by omega),if_pos (by omega)]
def QuD(s p:List UInt8)(n:Int)(k:Nat)(hk:k<=8)(hp:Qn p n k <+: s)(h:0<=n/\n<2 ^ (8*k)/\n<=9223372036854775807):QnQ s p.length k=n:=by
 obtain⟨t,rfl⟩:=hp
 unfold QnQ
 rw[QhV p t n k hk k (JD _)]
 have e:u64N n % 2 ^ (8*k)=n.toNat:=by
  have h1:u64N n=n.toNat:=by unfold u64N; omega
  have h2:((2:Int) ^ (8*k))=((2 ^ (8*k):Nat):Int):=by rw[Ka]; rfl
  rw[h1]
  exact Nat.mod_eq_of_lt (by omega)
 rw[e,IntKind.wrap_i64]
 omega
def At{t:List UInt8}(r:RS t)(p:List UInt8):Prop:=(r.e=5/\t.length<p.length)\/(r.e=0/\r.at_=p.length)
def Qbq(p:List UInt8)(n:Int)(k:Nat):p <+: Qn p n k:=JA _ _
def QAe{t s p:List UInt8}(ht:t <+: s)(hp:p <+: s)(hl:p.length<=t.length):p <+: t:=List.prefix_of_prefix_length_le hp ht hl
def Qdi(ht:t <+: s)(n:Int)(k:Nat)(hk:k<=8)(hp:Qn p n k <+: s)(h:0<=n/\n<2 ^ (8*k)/\n<=9223372036854775807)(ha:At r p):
 At (Qc3 t r k).2 (Qn p n k)/\((Qc3 t r k).2.e=0->(Qc3 t r k).1=n):=by
 have hl:=Qe p n k
 unfold Qc3
 rcases ha with⟨h1,h2⟩ | ⟨h1,h2⟩
 ·rw [if_neg (by omega)]
  refine⟨.inl ⟨h1,by omega⟩,fun h=>absurd (h1.symm.trans h) (by decide)⟩
 ·rw [if_pos h1]
  split
  ·rename_i hb
   refine⟨.inr ⟨rfl,by dsimp only; omega⟩,fun _=>?_⟩
   have e:r.at_.toNat=p.length:=by omega
   dsimp only
   rw[e]
   exact QuD t p n k hk (QAe ht hp (by omega)) h
  ·refine⟨.inl ⟨rfl,by omega⟩,fun h=>absurd (show(5:Int)=0 from h) (by decide)⟩
def QsR(ht:t <+: s)(hp:p++d <+: s){n:Int}(ha:At r p)(hn:r.e=0->n=d.length):
 At (Qfy t r n).2 (p++d)/\((Qfy t r n).2.e=0->(Qfy t r n).1=d):=by
 have hl:(p++d).length=p.length+d.length:=Jd
 unfold Qfy
 rcases ha with⟨h1,h2⟩ | ⟨h1,h2⟩
 ·rw [if_neg (by omega)]
  refine⟨.inl ⟨h1,by omega⟩,fun h=>absurd (h1.symm.trans h) (by decide)⟩
 ·rw [if_pos h1]
  have hn:=hn h1
  split
  ·rename_i hb
   refine⟨.inr ⟨rfl,by dsimp only; omega⟩,fun _=>?_⟩
   have e:r.at_.toNat=p.length:=by omega
   have e2:(r.at_+n).toNat=(p++d).length:=by omega
   dsimp only
   rw[e,e2]
   have:=QAe ht hp (by omega)
   rw[<- List.prefix_iff_eq_take.1 this,Kf]
  ·refine⟨.inl ⟨rfl,by omega⟩,fun h=>absurd (show(5:Int)=0 from h) (by decide)⟩
def Qwh(ht:t <+: s)(c:Ce)(hc:c.okB=true)(hp:Qaq p c <+: s)(ha:At r p):
 At (QfP t r).2 (Qaq p c)/\((QfP t r).2.e=0->(QfP t r).1=c):=by
 obtain⟨set,data⟩:=c
 simp only[Ce.okB,Jg,decide_eq_true_eq,Ju,beq_iff_eq] at hc
 unfold QfP Qrs
 unfold Qaq at hp |-
 cases set
 ·simp only [Bool.false_eq_true,if_false] at hp |-
  obtain⟨h1,h2⟩:=Qdi (r:=r) ht 255 1 (by omega) hp ⟨by omega,by omega,by omega⟩ ha
  have hd:data=[]:=by rcases hc.2 with h | h; cases h; exact h
  subst hd
  split
  ·rename_i h
   exact absurd (h2 h.1) h.2
  ·exact⟨h1,fun _=>rfl⟩
 ·simp only [if_true] at hp |-
  obtain⟨h1,h2⟩:=Qdi (r:=r) ht data.length 1 (by omega) ((JA _ _).trans hp) ⟨by omega,by omega,by omega⟩ ha
  split
  ·rename_i h
   have h3:=h2 h.1
   rw[if_neg (by omega)]
   obtain⟨h4,h5⟩:=QsR ht hp h1 (n:=(Qc3 t r 1).1) (fun _=>h3)
   exact⟨h4,fun h=>by rw[h5 h]⟩
  ·rename_i h
   have h3:(Qc3 t r 1).2.e≠0:=fun e=>h ⟨e,by rw[h2 e]; omega⟩
   rcases h1 with⟨h4,h5⟩ | ⟨h4,h5⟩
   ·refine ⟨.inl ⟨h4,?_⟩,fun e=>absurd e h3⟩
    rw[Jd]; omega
   ·exact absurd h4 h3
def Qii(h:(Qc3 t r k).2.e=0):r.e=0:=by
 unfold Qc3 at h
 split at h
 ·assumption
 ·exact h
def QEr(h:(Qfy t r n).2.e=0):r.e=0:=by
 unfold Qfy at h
 split at h
 ·assumption
 ·exact h
def QAD(h:(QfP t r).2.e=0):r.e=0:=by
 unfold QfP Qrs at h
 split at h
 ·rename_i hc
  exact Qii hc.1
 ·exact Qii h
def QGZ(e:E)(h:e.okB=true):(0<=e.lsn/\e.lsn<=1099511627776)/\(0<=e.kind/\e.kind<256)/\(0<=e.tx/\e.tx<4294967296)/\(0<=e.ptx/\e.ptx<=1099511627776)/\(0<=e.ppg/\e.ppg<=1099511627776)/\(0<=e.ref/\e.ref<=1099511627776)/\(0<=e.c.pg/\e.c.pg<64)/\(0<=e.c.sl/\e.c.sl<16)/\e.c.b.okB=true/\e.c.a.okB=true:=by
 obtain⟨lsn,kind,tx,ptx,ppg,ref,⟨pg,sl,⟨b1,b2⟩,⟨a1,a2⟩⟩,blob⟩:=e
 simp only[E.okB,Jg,bef,decide_eq_true_eq] at h
 obtain⟨h0,h⟩:=h
 unfold E.kindB at h
 dsimp only at h0 h |-
 split at h
 ·simp[Ch.okB,Ce.okB,txB] at h |-; grind
 split at h
 ·simp[Ch.okB,Ce.okB,txB] at h |-; grind
 split at h
 ·simp[Ch.no,Ce.no,Ce.okB,txB] at h |-; grind
 split at h
 ·simp[Ch.no,Ce.no,Ce.okB] at h |-; grind
 split at h
 ·simp[Ch.ix,Ce.no,Ce.okB] at h |-; grind
 ·simp at h
def Qi4(p:List UInt8)(c:Ce):p <+: Qaq p c:=by
 unfold Qaq
 split
 ·exact(Qbq _ _ _).trans (JA _ _)
 ·exact Qbq _ _ _
def QFM(x:E)(h:x.okB=true)(ht:t <+: s)(hx:Qmw x <+: s):At (QvS t).2 (Qmw x)/\((QvS t).2.e=0->(QvS t).1=x):=by
 obtain⟨i1,i2,i3,i4,i5,i6,i7,i8,i9,i10⟩:=QGZ x h
 obtain⟨l1,l2,l3⟩:=QeV h
 have a0:At (rs0 t) []:=.inr ⟨rfl,rfl⟩
 have P10:Qn (Qaq (Qaq (Qa7 x) x.c.b) x.c.a) x.blob.length 4 <+: s:=(JA _ _).trans hx
 have P9:Qaq (Qaq (Qa7 x) x.c.b) x.c.a <+: s:=(Qbq _ _ _).trans P10
 have P8:Qaq (Qa7 x) x.c.b <+: s:=(Qi4 _ _).trans P9
 have PH:Qa7 x <+: s:=(Qi4 _ _).trans P8
 unfold Qa7 at PH P8 P9 P10
 have P7:=(Qbq _ _ _).trans PH
 have P6:=(Qbq _ _ _).trans P7
 have P5:=(Qbq _ _ _).trans P6
 have P4:=(Qbq _ _ _).trans P5
 have P3:=(Qbq _ _ _).trans P4
 have P2:=(Qbq _ _ _).trans P3
 have P1:=(Qbq _ _ _).trans P2
 obtain⟨b1,c1⟩:=Qdi (r:=rs0 t) ht x.lsn 8 (by omega) P1 ⟨by omega,by omega,by omega⟩ a0
 obtain⟨b2,c2⟩:=Qdi ht x.kind 1 (by omega) P2 ⟨by omega,by omega,by omega⟩ b1
 obtain⟨b3,c3⟩:=Qdi ht x.tx 4 (by omega) P3 ⟨by omega,by omega,by omega⟩ b2
 obtain⟨b4,c4⟩:=Qdi ht x.ptx 8 (by omega) P4 ⟨by omega,by omega,by omega⟩ b3
 obtain⟨b5,c5⟩:=Qdi ht x.ppg 8 (by omega) P5 ⟨by omega,by omega,by omega⟩ b4
 obtain⟨b6,c6⟩:=Qdi ht x.ref 8 (by omega) P6 ⟨by omega,by omega,by omega⟩ b5
 obtain⟨b7,c7⟩:=Qdi ht x.c.pg 4 (by omega) P7 ⟨by omega,by omega,by omega⟩ b6
 obtain⟨b8,c8⟩:=Qdi ht x.c.sl 1 (by omega) PH ⟨by omega,by omega,by omega⟩ b7
 obtain⟨b9,c9⟩:=Qwh ht x.c.b i9 P8 b8
 obtain⟨b10,c10⟩:=Qwh ht x.c.a i10 P9 b9
 obtain⟨b11,c11⟩:=Qdi ht x.blob.length 4 (by omega) P10 ⟨by omega,by omega,by omega⟩ b10
 obtain⟨b12,c12⟩:=QsR ht hx b11 c11
 unfold QvS
 dsimp only
 refine⟨b12,fun e12=>?_⟩
 have e11:=QEr e12
 have e10:=Qii e11
 have e9:=QAD e10
 have e8:=QAD e9
 have e7:=Qii e8
 have e6:=Qii e7
 have e5:=Qii e6
 have e4:=Qii e5
 have e3:=Qii e4
 have e2:=Qii e3
 have e1:=Qii e2
 rw[c1 e1,c2 e2,c3 e3,c4 e4,c5 e5,c6 e6,c7 e7,c8 e8,c9 e9,c10 e10,c12 e12]
def QFL(x:E)(h:x.okB=true):QrQ (Qmw x)=(x,0):=by
 obtain⟨h1,h2⟩:=QFM x h (JU _) (JU _)
 unfold QrQ
 rcases h1 with⟨h3,h4⟩ | ⟨h3,h4⟩
 ·omega
 ·rw[if_pos h3,if_pos h4,h2 h3,if_pos h]
def Qfb(h:e.okB=true):(Qmw e).length<=8392:=by
 obtain⟨l1,l2,l3⟩:=QeV h
 have n1:=QbO (Qa7 e) e.c.b
 have n2:=QbO (Qaq (Qa7 e) e.c.b) e.c.a
 rw[QdW] at n1
 unfold Qmw
 rw[Jd,Qe]
 omega
def QAt(h:e.okB=true):frE e=frm (Qmw e):=by unfold frE Qiq; rw[if_pos h]
def Qxq(h:e.okB=true)(p r:List UInt8):Qg3 (p++(frE e++r)) p.length e.lsn=some (e,((p.length+(frE e).length:Nat):Int)):=by
 have h1:=Qz4 (Qfb h) p r
 have h2:=QFL e h
 have hl:=QhB (Qfb h)
 rw[QAt h]
 unfold Qg3
 rw[h1]
 dsimp only
 rw[h2,if_pos ⟨rfl,rfl,rfl⟩,hl]
def QwE(l:Int)(es:List E):Prop:=∀ i:Nat,i<es.length->(es.getD i E0).lsn=l+i/\(es.getD i E0).okB=true
def Qll(h:QwE l (e::r)):e.lsn=l/\e.okB=true/\QwE (l+1) r:=by
 have h0:=h 0 (by simp)
 refine⟨by simpa using h0.1,by simpa using h0.2,fun i hi=>?_⟩
 have:=h (i+1) (by simpa using hi)
 simp only[JK] at this
 exact⟨by omega,this.2⟩
def QiO (r:List UInt8):∀ (es:List E) (p:List UInt8) (l:Int) (n:Nat),QwE l es->es.length<=n ->
 opn (p++(es.flatMap frE++r)) n p.length l=es++opn (p++(es.flatMap frE++r)) (n-es.length) ((p.length+(es.flatMap frE).length:Nat):Int) (l+es.length)
 | [],p,l,n,_,_=>by simp
 | e :: t,p,l,n,h,hn=>by
   obtain⟨h1,h2,h3⟩:=Qll h
   rw[Jo] at hn
   obtain⟨m,rfl⟩:∃ m,n=m+1:=⟨n-1,by omega⟩
   have hs:p++((e::t).flatMap frE++r)=p++(frE e++(t.flatMap frE++r)):=by rw[Jr]; simp only[Je]
   have hs2:p++((e::t).flatMap frE++r)=(p++frE e)++(t.flatMap frE++r):=by rw[Jr]; simp only[Je]
   have h4:=Qxq h2 p (t.flatMap frE++r)
   rw[<- hs,h1] at h4
   have ih:=QiO r t (p++frE e) (l+1) m h3 (by omega)
   rw[<- hs2] at ih
   have e1:opn (p++((e::t).flatMap frE++r)) (m+1) p.length l=e::opn (p++((e::t).flatMap frE++r)) m ((p.length+(frE e).length:Nat):Int) (l+1):=by
    conv=>lhs; unfold opn
    rw[h4]
   rw[e1,<- Jd,ih,Jo,Jr,Jd,Jd]
   rw[show m+1-(t.length+1)=m-t.length by omega,List.cons_append]
   congr 3
   ·omega
   ·omega
def Qmh(r:List UInt8):unf (Qdq f++r) 0=(Qn [80,77,76,71] f 8,20,0):=by
 have:=Qz4 (q:=Qn [80,77,76,71] f 8) (by rw[Qe]; simp) [] r
 rw[Kb] at this
 unfold Qdq
 rw[show(([]:List UInt8).length:Int)=0 from rfl] at this
 rw[this,Qe]
 rfl
def QfJ(f:Int):(Qdq f).length=20:=by
 unfold Qdq
 rw[QhB (by rw[Qe]; simp),Qe]; rfl
def Qy6(h:1<=f/\f<=1099511627776)(r:List UInt8):hdO (Qdq f++r)/\QnQ (unf (Qdq f++r) 0).1 4 8=f:=by
 have h1:=Qmh (f:=f) r
 have h2:QnQ (Qn [80,77,76,71] f 8) 4 8=f:=QuD _ [80,77,76,71] f 8 (by omega) (JU _) ⟨by omega,by omega,by omega⟩
 unfold hdO
 rw[h1]
 dsimp only
 refine⟨⟨rfl,by rw[Qe]; rfl,?_,by omega,by omega⟩,h2⟩
 simp[Qn]
def QlH(h:1<=f/\f<=1099511627776)(he:QwE f es)(hl:es.length<=4096)(r:List UInt8)(hr:es.length<4096->Qg3 (Qdq f++(es.flatMap frE++r)) ((20+(es.flatMap frE).length:Nat):Int) (f+es.length)=none):Qcl (Qdq f++(es.flatMap frE++r))=(⟨f,es,f+es.length-1⟩,0):=by
 obtain⟨h1,h2⟩:=Qy6 h (es.flatMap frE++r)
 have h3:=Qmh (f:=f) (es.flatMap frE++r)
 have h4:=QiO r es (Qdq f) f 4096 he hl
 rw[QfJ] at h4
 have h5:QD3 (Qdq f++(es.flatMap frE++r))=es:=by
  unfold QD3
  rw[h2,h3]
  dsimp only
  refine h4.trans ?_
  by_cases hc:es.length<4096
  ·rw[Qo1 _ (hr hc),Jm]
  ·rw[show 4096-es.length=0 by omega]; exact Jm _
 unfold Qcl
 rw[if_pos h1,h2,h5]
def QuQ(h:lgB x=true):QwE x.f x.es:=by
 unfold lgB at h
 simp only[Jg,Jy,Jw] at h
 intro i hi
 have:=h.2 i hi
 simpa [lgC] using this
def QFi(h:x.hd)(hs:QwE x.f x.es):lgB x=true:=by
 unfold lgB
 rw[decide_eq_true h,JI,Jy]
 intro i hi
 have:=hs i (Jw.1 hi)
 simpa [lgC] using this
def Qve{α:Type}(l:List α)(n i:Nat)(h:i<n)(d:α):(l.take n).getD i d=l.getD i d:=by
 rw[Jb,Jb,J3,if_pos h]
def Qlk(h:QwE l es)(n:Nat):QwE l (es.take n):=fun i hi=>by
 rw[Ji] at hi
 rw[Qve _ _ _ (by omega)]
 exact h i (by omega)
def QhD:∀ (es:List E) (t:Nat),∃ j m,j<=es.length/\(es.flatMap frE).take t = (es.take j).flatMap frE ++ (frE (es.getD j E0)).take m/\(j < es.length->m < (frE (es.getD j E0)).length)/\(j = es.length->m = 0)
 | [],t=>⟨0,0,JD _,by simp,fun h=>absurd h (by simp),fun _=>rfl⟩
 | e :: r,t=>by
   by_cases h:t<(frE e).length
   ·refine ⟨0,t,Jc _,?_,fun _=>by simpa using h,fun h=>absurd h (by simp)⟩
    rw[Jr,List.take_append_of_le_length (by omega)]
    simp
   ·obtain ⟨j,m,h1,h2,h3,h4⟩:=QhD r (t - (frE e).length)
    refine⟨j+1,m,by rw[Jo]; omega,?_,fun h=>?_,fun h=>?_⟩
    ·rw[Jr,List.take_append,Jn (by omega),h2,J2,Jr,JK,Je]
    ·rw [Jo] at h
     rw[JK]; exact h3 (by omega)
    ·rw [Jo] at h
     exact h4 (by omega)
def Qf2:∀ (es:List E),QwE l es->l - 1<=d->d<=l + es.length - 1->(es.filter fun e=>decide (e.lsn<=d)) = es.take (d - l + 1).toNat/\(es.filter fun e=>!decide (e.lsn<=d)) = es.drop (d - l + 1).toNat
 | [],_,h1,h2=>by simp
 | e :: r,h,h1,h2=>by
   obtain⟨a1,a2,a3⟩:=Qll h
   rw[Jo] at h2
   by_cases hc:l<=d
   ·obtain ⟨b1,b2⟩:=Qf2 (d:=d) (l:=l + 1) r a3 (by omega) (by omega)
    obtain⟨k,hk,hk2⟩:∃ k,(d-l+1).toNat=k+1/\(d-(l+1)+1).toNat=k:=⟨(d-l).toNat,by omega,by omega⟩
    rw[hk2] at b1 b2
    rw[hk,J2,List.drop_succ_cons,Jz,Jz,if_pos (by simp; omega),if_neg (by simp; omega),b1,b2]
    exact⟨rfl,rfl⟩
   ·have hk:(d - l + 1).toNat = 0:=by omega
    rw[hk,J1,List.drop_zero]
    have hall:∀ x∈(e::r),¬ x.lsn<=d:=fun x hx=>by
     obtain⟨i,hi,rfl⟩:=List.getElem_of_mem hx
     have:=(h i hi).1
     rw[Qf _ _ hi] at this
     omega
    refine⟨List.filter_eq_nil_iff.2 fun x hx=>by have:=hall x hx; simp; omega,Jl.2 fun x hx=>by have:=hall x hx; simp; omega⟩
def Qrh(h:lgB x=true)(torn:Int):∃ n,(x.d-x.f+1).toNat<=n/\n<=x.es.length/\Qcl (Qdx x torn)=(⟨x.f,x.es.take n,x.f+n-1⟩,0):=by
 have hh:=QaG h
 simp only[Lg.hd] at hh
 have hs:=QuQ h
 obtain⟨f1,f2⟩:=Qf2 (d:=x.d) (l:=x.f) x.es hs (by omega) (by omega)
 unfold Qdx
 rw[if_pos h]
 unfold QrP QtP
 rw[f1,f2]
 generalize hk:(x.d-x.f+1).toNat=k
 obtain⟨j,m,h1,h2,h3,h4⟩:=QhD (x.es.drop k) torn.toNat
 rw[JT] at h1 h3 h4
 have hget:(x.es.drop k).getD j E0=x.es.getD (k+j) E0:=by
  rw[Jb,Jb,List.getElem?_drop]
 have htk:x.es.take k++(x.es.drop k).take j=x.es.take (k+j):=by rw[<- List.take_add]
 have hlen:(x.es.take (k+j)).length=k+j:=by rw[Ji]; omega
 refine⟨k+j,by omega,by omega,?_⟩
 rw[h2,hget,Je,<- Je,<- Je,Je,Je,<- Je (List.flatMap frE _),<- List.flatMap_append,htk]
 have:=QlH (f:=x.f) ⟨by omega,by omega⟩ (Qlk hs (k+j)) (by rw[hlen]; omega) ((frE (x.es.getD (k+j) E0)).take m) (fun _=>Qs5 (by
  by_cases hc:j<x.es.length-k
  ·have h5:=h3 hc
   rw[hget] at h5
   have hok:=(hs (k+j) (by omega)).2
   rw[QAt hok] at h5 |-
   rw[QhB (Qfb hok)] at h5
   have:=QBm (Qfb hok) (Qdq x.f++(x.es.take (k+j)).flatMap frE) m h5
   rw[Jd,QfJ,Je] at this
   rw[this]; decide
  ·rw [h4 (by omega),J1,Jm]
   have:=QBl (Qdq x.f++(x.es.take (k+j)).flatMap frE)
   rw[Jd,QfJ] at this
   rw[this]; decide))
 rw[hlen] at this
 exact this
def Quz(s:List UInt8):(Qcl s).1.es.length<=4096:=by
 unfold Qcl
 split
 ·exact Quy _ _ _ _
 ·exact Jc _
def CrR(x:Lg)(n m:Int)(k:Kn):Prop:=lgB x=true/\(1<=n/\n<=64)/\∃ a lk,AnC x n x.es.length a/\kB (adK x (loF a lk) m)=true/\(adK x (loF a lk) m).pl.fs=[]/\Str 0 (adK x (loF a lk) m) k
def QtC(v:Dv)(hv:v.ps.length<=64)(s:List UInt8)(hs:s.length<=100000000)(n m:Int):VCalls prog 100 [.agg v.d,.pv (.str s),.int .i64 n,.int .i64 m] [] (QL svD fun r=>r.1.sm/\(r.2=0->(Qcl s).2=0/\CrR (Qcl s).1 n m r.1.k)):=by
 refine dk Tryz.func100 ?_
 have c1:=QBT s hs
 have hl:=Quz s
 generalize Qcl s=o at *
 obtain⟨x,e0⟩:=o
 dsimp only at hl c1 |-
 have c2:=QqA x hl n
 have c3:=fun a ha=>Qyi x hl a ha m
 have err:∀ z,z≠0->QL svD (fun r=>r.1.sm/\(r.2=0->e0=0/\CrR x n m r.1.k)) (svD (Sv0,z)) []:=fun z hz=>⟨rfl,rfl,(Sv0,z),rfl,QdC,fun h=>absurd h hz⟩
 (unfold Tryz.f100; refine rn trivial ?_)
 refine rn F ?_
 repeat' (first
  | with_reducible exact⟨⟩
  | (refine sB F ?_ ?_<;>intro hZ)
  | refine vp F (c1) ?_
  | (refine Qp (c2) rfl ?_; rintro⟨a,e1⟩ ha; refine rn F ?_)
  | (refine Qp (c3 a ha.1) rfl ?_; rintro⟨k,e2⟩ hk; refine rn F ?_))
 all_goals first
  | exact err _ (by assumption)
  | exact⟨rfl,rfl,(⟨k,v⟩,0),rfl,⟨hk.1,hv⟩,fun _=>⟨by assumption,by
   obtain⟨g1,g2,a0,lk,g3,g4⟩:=ha.2 (by assumption)
   have g5:=hk.2 (by assumption)
   dsimp only at g4
   subst g4
   exact⟨g1,g2,a0,lk,g3,g5⟩⟩⟩
  | skip
def QtB(v:Dv)(hv:v.ps.length<=64)(s:List UInt8)(hs:s.length<=100000000)(n m:Int):VCalls prog 70 [.agg v.d,.pv (.str s),.int .i64 n,.int .i64 m] [] (QL svD fun r=>r.1.sm/\(r.2=0->(Qcl s).2=0/\CrR (Qcl s).1 n m r.1.k)):=by
 refine dk Tryz.func70 ?_
 have c1:=QtC v hv s hs n m
 generalize Qcl s=o at *
 (unfold Tryz.f70; refine rn trivial ?_)
 refine rn F ?_
 repeat' (first
  | with_reducible exact⟨⟩
  | (refine Qp (c1) rfl ?_; rintro⟨k,e⟩ hk; refine rn F ?_))
 all_goals first
  | exact⟨rfl,rfl,(k,e),rfl,hk⟩
  | skip
section
attribute [local go_sem] Qbm
@[go_sem] def crD(a:Dv×Lg×Int):DV:=.tup [.agg a.1.d,.pv (.str (Qdx a.2.1 a.2.2))]
def crQ(s:Sv)(a:Dv×Lg×Int):Prop:=a.1.ps.length<=64/\a.2.1.f=s.k.lg.f/\a.2.1.es=s.k.lg.es/\(lgB s.k.lg=true->lgB a.2.1=true)
def Qts(s:Sv)(hs:s.sm)(torn id cut:Int):VCalls prog 69 [.agg s.d,.int .i64 torn,.int .i64 id,.int .i64 cut] [] (QL crD (crQ s)):=by
 refine dk Tryz.func69 ?_
 have c1:=QcR s.k.pl (JM hs.1.2.1 (by decide)) id
 have hl:=hs.1.1
 have c2:=QoR s.k.lg (by omega) torn
 have c3:=fun d=>QoR ⟨s.k.lg.f,s.k.lg.es,d⟩ (by dsimp only; omega) torn
 have h0:crQ s (s.v,s.k.lg,torn):=⟨hs.2,rfl,rfl,fun h=>h⟩
 (unfold Tryz.f69; refine rn trivial ?_)
 refine rn F ?_
 repeat' (first
  | with_reducible exact⟨⟩
  | (refine Qd (id:=1) [0,1,2,3] [⟨[4,5],[4],6,[2,3],[]⟩,⟨[5],[5],7,[],[]⟩] (by kernel_rfl) (by kernel_rfl) ?_; refine rn F ?_))
 refine vp hl c1 ?_
 rcases Qb6 s.k.pl id with hn | ⟨_,i,hi,hfi,_⟩
 ·rw [hn]
  refine rn @hl ?_
  refine rn F ?_
  repeat' (first
   | with_reducible exact⟨⟩
   | refine vp F (c2) ?_
   | (refine Qd (id:=9) [0,1,2,3] [⟨[],[],4,[0,1],[]⟩,⟨[],[],5,[1,2,3],[]⟩,⟨[],[],6,[],[]⟩] (by kernel_rfl) (by kernel_rfl) ?_; refine rn F ?_))
  exact⟨rfl,rfl,(s.v,s.k.lg,torn),rfl,h0⟩
 ·rw [hfi]
  have hg:=Qcg s.k.pl.fs i hi
  generalize s.k.pl.fs.getD i Fm0=f at *
  have c4:=Qnw f.pg
  have c5:=QeM s.k hs.1 f.pg.lsn
  refine rn @hg ?_
  have c6:=fun b (hb:b.length<=256)=>QBG s.v (JM hs.2 (by decide)) id b (JM hb (by decide)) cut
  have F:=@hg
  refine rn F ?_
  repeat' (first
   | with_reducible exact⟨⟩
   | (refine sB F ?_ ?_<;>intro hZ)
   | refine vp F (c2) ?_
   | (refine Qp (c4) rfl ?_; rintro⟨b,e1⟩ hb; refine rn F ?_)
   | (refine Qp (c5) rfl ?_; rintro d hd; refine rn F ?_)
   | (refine Qp (c6 b hb) rfl ?_; rintro⟨v2,e2⟩ hv; refine rn F ?_)
   | refine vp F (c3 d) ?_
   | (refine Qd (id:=5) [0,1,2,3,4,5,6,7,8] [⟨[],[],9,[1,2,3,4,5,6,7],[]⟩,⟨[],[],10,[],[]⟩] (by kernel_rfl) (by kernel_rfl) ?_; refine rn F ?_)
   | (refine Qd (id:=9) [0,1,2,3] [⟨[],[],4,[0,1],[]⟩,⟨[],[],5,[1,2,3],[]⟩,⟨[],[],6,[],[]⟩] (by kernel_rfl) (by kernel_rfl) ?_; refine rn F ?_))
  all_goals first
   | exact⟨rfl,rfl,(s.v,s.k.lg,torn),rfl,h0⟩
   | exact⟨rfl,rfl,(v2,⟨s.k.lg.f,s.k.lg.es,d⟩,torn),rfl,hv,rfl,rfl,hd⟩
   | exact⟨rfl,rfl,(s.v,⟨s.k.lg.f,s.k.lg.es,d⟩,torn),rfl,hs.2,rfl,rfl,hd⟩
   | skip
end
section
attribute [local go_sem] Qbm
def CrK(k k':Kn):Prop:=∃ j,j<=k.lg.es.length/\CrR ⟨k.lg.f,k.lg.es.take j,k.lg.f+j-1⟩ k.pg k.pl.size k'
structure ICr(I:Nat->Kn->Prop):Prop where
 st:QrR I
 ok:∀ m k,I m k->lgB k.lg=true
 cr:∀ m k k',CrK k k'->I m k->I (m+1) k'
def QDo(hI:ICr I)(hf:y.f=k.lg.f)(he:y.es=k.lg.es)(hv:lgB k.lg=true->lgB y=true)(h:CrR (Qcl (Qdx y t)).1 k.pg k.pl.size k')(m:Nat)(hm:I m k):I (m+1) k':=by
 obtain⟨n,h1,h2,h3⟩:=Qrh (hv (hI.ok m k hm)) t
 rw[h3] at h
 dsimp only at h
 rw[hf,he] at h
 exact hI.cr m k k' ⟨n,by rw[<- he]; omega,h⟩ hm
def Qv4(hx:x.es.length<=4096)(t:Int):(Qdx x t).length<=100000000:=by
 have h9:=Qmi x.f
 have h8:=QpB x.es x.d
 have h7:=QoQ x.es x.d
 unfold Qdx
 split
 ·rw [Jd,Jd,Ji]
  omega
 ·exact Jc _
structure Tz(n:Nat) where
 i:Nat
 l:List Int
 hi:i<=n
 hl:l.length=n
def crI(I:Nat->Kn->Prop)(c:Sc)(n m:Nat)(c':Sc)(_:Rs):Prop:=m=0/\c'.sm n/\∀ q,I q c.s.k->I (q+1) c'.s.k
def Qt3(I:Nat->Kn->Prop)(hIc:ICr I)(c:Sc)(n:Nat)(hn:n<=2000)(hc:c.sm n)(t:Sp):VCalls prog 48 [.ptr 0 0,.agg t.d] [scB c 1 2,scT c.tx,scR c.rd] (ScEnd rsD (crI I c n)):=by
 refine QR (fn:=Tryz.f48) Tryz.func48 rfl (by kernel_rfl) (by simp[Tryz.f48]) ?_
 have c1:=Qts c.s hc.1 t.torn t.pg t.cut
 (unfold Tryz.f48; refine rn trivial ?_)
 refine rn F ?_
 repeat' (first
  | with_reducible exact⟨⟩
  | (refine Qp (c1) rfl ?_; rintro⟨v,y,tn⟩ hq; refine rn F ?_)
  | (refine Qbd (id:=1) [[],[0],[0,1],[0,1,2],[],[4],[],[6],[],[8],[0,1,2,3,4,5,6,7,8,9],[0,1,2,3,4,5,6,7,8,9,10],[0,1,2,3,4,5,6,7,8,9,10,11],[0,1,2,3,4,5,6,7,8,9,10,11],[],[0,1,2,3,4,5,6,7,8,9,10,11,12,14],[0,1,2,3,4,5,6,7,8,9,10,11,12,13,14,15]] [0,1,2,3,4,5,6,7,8,9] [⟨[14],[],10,[],[11,12,13]⟩,⟨[14],[14],15,[13],[]⟩,⟨[],[],16,[],[]⟩] (by kernel_rfl) (by kernel_rfl) (by kernel_rfl) ?_; refine rn F ?_)
  | (refine Qbd (id:=2) [[],[],[],[2],[2,3],[2,3,4],[2,3,4,5],[2,3,4,5,6],[],[8],[8,9],[8,9,10],[8,9,10,11],[8,9,10,11,12],[8,9,10,11,12,13],[0,1,2,3,4,5,6,7,8,9,10,11,12,13,14],[0,1,2,3,4,5,6,7,8,9,10,11,12,13,14,15],[0,1,2,3,4,5,6,7,8,9,10,11,12,13,14,15,16],[0,1,2,3,4,5,6,7,8,9,10,11,12,13,14,15,16],[],[0,1,2,3,4,5,6,7,8,9,10,11,12,13,14,15,16,17,19],[0,1,2,3,4,5,6,7,8,9,10,11,12,13,14,15,16,17,18,19,20]] [0,1,2,3,4,5,6,7,8,9,10,11,12,13,14] [⟨[19],[],15,[],[16,17,18]⟩,⟨[19],[19],20,[18],[]⟩,⟨[],[],21,[],[]⟩] (by kernel_rfl) (by kernel_rfl) (by kernel_rfl) ?_; refine rn F ?_))
 obtain⟨q1,q2,q3,q4⟩:=hq
 dsimp only at q1 q2 q3 q4
 have c2:=QtB v q1 (Qdx y tn) (Qv4 (by rw[q3]; exact hc.1.1.1) tn) c.s.k.pg c.s.k.pl.size
 have hI:=fun(k':Kn) (h:CrR (Qcl (Qdx y tn)).1 c.s.k.pg c.s.k.pl.size k')=>QDo hIc q2 q3 q4 h
 generalize Qdx y tn=str at *
 generalize Qcl str=o at *
 refine rn F ?_
 repeat' (first
  | with_reducible exact⟨⟩
  | (refine Qp (c2) rfl ?_; rintro⟨s2,e⟩ hk; refine rn F ?_))
 obtain⟨k1,k2⟩:=hk
 dsimp only at k1 k2
 refine Qj (fun r:Tz c.tx.length=>⟨70,3,[(9,.int .i64 r.i),(8,.int .i64 e),(7,.ptr 4 0),(4,.ptr 3 0),(0,.ptr 0 0)],[scB ⟨c.s,r.l,c.rd,c.dead⟩ 1 2,scT r.l,scR c.rd,⟨107,true,[.int .i64 0,.int .i64 0,.int .i64 0,.bool false,.pv (.str []),.int .i64 0]⟩,⟨68,true,s2.d⟩]⟩) (fun r=>c.tx.length-r.i) ⟨0,c.tx,Jc _,rfl⟩ (gc [0,1,2,4,6]) ?_
 rintro⟨i,l,hi,hl⟩
 dsimp only
 have hsm:∀ (z:Sv) (d:Bool),z.sm->(⟨z,l,c.rd,d⟩:Sc).sm n:=fun z d hz=>⟨hz,by dsimp only; rw[hl]; exact hc.2.1,hc.2.2⟩
 have htx:=hc.2.1
 by_cases hil:i<c.tx.length
 ·have hil2:i < l.length:=by omega
  have hset:=Qi3 l i 0
  have F:=@hil2
  refine rn F ?_
  refine⟨⟨i+1,l.set i 0,hil,by rw[Kc]; exact hl⟩,by dsimp only; omega,?_⟩
  dsimp only
  rw[Kc]
  exact(gc [0,1,2,3,4])
 have hil2:¬ i<l.length:=by omega
 by_cases he:e=0
 ·subst he
  have c3:=QeL 0
  have F:=trivial
  refine rn F ?_
  repeat' (first
   | with_reducible exact⟨⟩
   | refine vp F (c3) ?_)
  exact QF ⟨70,3,[(4,.ptr 3 0)],[scB ⟨s2,l,c.rd,c.dead⟩ 1 2,scT l,scR c.rd,⟨107,true,(Qgg 0).d⟩]⟩ (gc [0,1,2,3]) ⟨⟨s2,l,c.rd,c.dead⟩,Qgg 0,_,rfl,rfl,.inl ⟨⟨rfl,hsm s2 _ k1,hI s2.k (k2 rfl).2⟩,rfl⟩⟩
 ·have c3:=QeL e
  have F:=@he
  refine rn F ?_
  repeat' (first
   | with_reducible exact⟨⟩
   | refine vp F (c3) ?_)
  exact QF ⟨70,3,[(4,.ptr 3 0)],[scB ⟨c.s,l,c.rd,true⟩ 1 2,scT l,scR c.rd,⟨107,true,(Qgg e).d⟩]⟩ (gc [0,1,2,3]) ⟨⟨c.s,l,c.rd,true⟩,Qgg e,_,rfl,rfl,.inl ⟨⟨rfl,hsm c.s _ hc.1,fun q=>hIc.st q 1 _ _ (Str.refl _)⟩,rfl⟩⟩
def QxF(I:Nat->Kn->Prop)(hIc:ICr I)(c:Sc)(n:Nat)(hn:n<=2000)(hc:c.sm n)(t:Sp)(ht:t.kind=6):QhW I c n t:=by
 refine QR (fn:=Tryz.f29) Tryz.func29 rfl (by kernel_rfl) (by simp[Tryz.f29]) ?_
 obtain⟨k,tx,pg,torn,cut,a⟩:=t
 dsimp only at ht
 subst ht
 (unfold Tryz.f29; refine rn trivial ?_)
 refine QkW (c:=c) 0 1 2 (Qt3 I hIc c n hn hc ⟨6,tx,pg,torn,cut,a⟩) rfl rfl rfl (by decide) (by decide) (by decide) rfl rfl ?_ (fun _ _ h=>absurd h.1 (by decide)) (fun _ _ h=>absurd h.1 (by decide))
 rintro c1 r1 ⟨-,q1,q2⟩ B
 refine rn trivial ?_
 exact QF ⟨132,3,[(4,.ptr 3 0)],[scB c1 1 2,scT (Sc.tx c1),scR (Sc.rd c1),⟨107,true,Rs.d (r1)⟩]⟩ (gc [0,1,2,4]) ⟨c1,r1,_,rfl,rfl,.inl ⟨⟨⟨q1.1,Jf q1.2.1,Jf q1.2.2⟩,q2⟩,rfl⟩⟩
end
def Qzq(hc:CkV c)(hd:CkV d)(h:QaR c=QaR d):c.nx=d.nx:=by
 have h1:=(QmC hc).1.2.2.1
 have h2:=(QmC hd).1.2.2.1
 rw[h,h2] at h1
 exact h1.symm
def Cor.ckE(h:Cor es pg nx tx ix L)(h1:e.tx=0)(h2:e.kind=6)(hn:0<nx)(ht:QbD tx=true):Cor (es++[e]) pg nx tx ix L:=
 ⟨h.pgr,fun x hx=>by
  rcases JV.1 hx with hx | hx
  ·exact h.ids x hx
  ·rw[Jh.1 hx,h1]; exact hn,fun t q=>(h.ok t q).other (by have:=Qoz ht q; omega),fun x hx h0=>by
  rcases JV.1 hx with hx | hx
  ·exact(h.all x hx h0).imp id fun q=>(Qdr _ _ _).2 (.inl q)
  ·rw[Jh.1 hx] at h0; omega,h.len,fun p hp=>by
  rw[Qbk _ _ _ fun q=>by omega]; exact h.row p hp,fun p n q=>by
  rw[Qbk _ _ _ fun q=>by omega]; exact h.la p n q⟩
def Cor.zero(h1:1<=pg/\pg<=64)(L:Int->Int->Prop)(hL:∀ p n,¬ L p n):Cor [] pg nx [] (JO pg.toNat Rw0) L:=
 ⟨h1,fun e h=>by simp at h,fun t h=>by simp at h,fun x h=>by simp at h,by rw [List.length_replicate]; omega,fun p hp=>by
  have:(JO pg.toNat Rw0).getD p Rw0=Rw0:=by
   rw[Jb,List.getElem?_replicate]; split<;>rfl
  rw[this]
  exact⟨JJ _,fun _=>rfl⟩,fun p n h=>absurd h (hL p n)⟩
def QCo(h1:1<=n)(h2:n<=64):KI (QwG n m):=
 ⟨QGa,rfl,LogOk.nil,Cor.zero ⟨h1,h2⟩ _ fun p n h=>by rcases h with⟨d,q,_⟩ | ⟨f,q,_⟩<;>simp[QwG] at q,fun f q=>by simp[QwG] at q⟩
def CkN(b:Int)(es:List E):Prop:=∀ e∈es,e.kind=6->∀ c,CkV c->e.blob=QaR c->c.nx<=b
def NoteR.cor(h:NoteR a e b)(hc:Cor es a.pg a.nx a.lo a.ix (LD a.la))(he:EnOk es e)(hlt:∀ x∈es,x.lsn<e.lsn):Cor (es++[e]) b.pg b.nx b.lo b.ix (LD b.la):=by
 obtain⟨h1,h2,h3,h4,h5,h6,h7,h8⟩:=h
 rw[h1,h3,h6]
 have h1':∀ p n,LD b.la p n->((e.kind=1\/e.kind=2)/\p=e.c.pg/\n=e.lsn)\/(LD a.la p n/\((e.kind=1\/e.kind=2)->p≠e.c.pg)):=fun p n q=>by
  by_cases hk:(e.kind=1\/e.kind=2)\/e.kind=7
  ·have D:=h8.2 hk
   obtain⟨d,d1,d2,d3⟩:=q
   rcases D.ha d d1 with⟨q1,q2⟩ | ⟨q1,q2,q3⟩ | ⟨q1,q2,z,q3,q4,q5,q6⟩
   ·exact .inr ⟨⟨d,q1,d2,d3⟩,fun _=>by rw[<- d2]; exact q2⟩
   ·exact .inl ⟨by simpa using q2,by omega,by omega⟩
   ·exact .inr ⟨⟨z,q3,by omega,by omega⟩,fun h=>by
    have:(e.kind==1||e.kind==2)=true:=by simpa using h
    rw[this] at q2; cases q2⟩
  ·rw [h8.1 (fun h=>hk (.inl h)) (fun h=>hk (.inr h))] at q
   exact .inr ⟨q,fun h=>absurd (.inl h) hk⟩
 have h2':∀ p,(∀ n,¬ LD b.la p n)->((∀ n,¬ LD a.la p n)\/(e.kind=7/\p=e.c.pg))/\((e.kind=1\/e.kind=2)->p≠e.c.pg):=fun p q=>by
  by_cases hk:(e.kind=1\/e.kind=2)\/e.kind=7
  ·have D:=h8.2 hk
   refine⟨?_,fun h hp=>?_⟩
   ·by_cases hp:p = e.c.pg
    ·by_cases h7':e.kind = 7
     ·exact .inr ⟨h7',hp⟩
     ·have hc1:e.kind = 1\/e.kind = 2:=hk.resolve_right h7'
      obtain⟨y,y1,y2⟩:=D.hc rfl (by simpa using hc1)
      exact absurd ⟨y,y1,by omega,rfl⟩ (q y.last)
    ·refine .inl fun n ⟨d,d1,d2,d3⟩=>q n ⟨d,?_,d2,d3⟩
     exact D.hb d (by rw[List.take_length]; exact d1) (by omega)
   ·obtain ⟨y,y1,y2⟩:=D.hc rfl (by simpa using h)
    exact q y.last ⟨y,y1,by omega,rfl⟩
  ·rw [h8.1 (fun h=>hk (.inl h)) (fun h=>hk (.inr h))] at q
   exact⟨.inl q,fun h=>absurd (.inl h) hk⟩
 have hn:a.nx<=max a.nx (e.tx+1):=by omega
 rcases h4 with⟨q1,q2,q3⟩ | ⟨q1,q0,q2,q3⟩
 ·have hl1:=(QuA (Qdj q2).2)
  have hls:=QuB (Qdj q2).2
  rw[q3]
  exact hc.add he.ix hlt (by omega) q2 h5 hn (by omega) h1' h2'
 ·have hls:=QuB (Qdj q2).2
  rw[q3]
  have hfr:∀ x∈es,x.tx≠e.tx:=fun x hx hxe=>by
   rcases hc.all x hx (by omega) with⟨t,t1,t2⟩ | q
   ·have:=(Qj7 (l:=a.lo) (a:=e.tx)).2 (J8.2 ⟨t,t1,by omega⟩)
    omega
   ·rw[hxe] at q; exact he.ne q1.1 q
  exact(hc.beginT (JJ _) q0 hfr).add he.ix hlt (by omega) q2 h5 hn (by omega) h1' h2'
section
attribute [local go_sem] cb cc
def QBt(c:C)(m n:Nat)(h1:1<=m)(h2:m<=1000)(h3:1<=n)(h4:n<=1000):VCalls prog 30 [.ptr 0 0,.int .i64 m,.int .i64 n,.bool true] [cb c] (CX fun r=>∃ t:Sp,r=.agg t.d):=by
 refine dd Tryz.func30 ?_
 (unfold Tryz.f30; refine rn trivial ?_)
 refine rn F ?_
 repeat' (first
  | with_reducible exact⟨⟩
  | (refine sB F ?_ ?_<;>intro hZ)
  | (refine QaP (k:=0) (QaN _ 16 (by omega) (by omega)) rfl rfl ?_; rintro _ _ ⟨_,rfl,_⟩; refine rn F ?_)
  | (refine QaP (k:=0) (QaN _ 4 (by omega) (by omega)) rfl rfl ?_; rintro _ _ ⟨_,rfl,_⟩; refine rn F ?_)
  | (refine QaP (k:=0) (QaN _ 90 (by omega) (by omega)) rfl rfl ?_; rintro _ _ ⟨_,rfl,_⟩; refine rn F ?_)
  | (refine QaP (k:=0) (QaN _ 257 (by omega) (by omega)) rfl rfl ?_; rintro _ _ ⟨_,rfl,_⟩; refine rn F ?_)
  | (refine QaP (k:=0) (QaN _ m (by omega) (by omega)) rfl rfl ?_; rintro _ _ ⟨_,rfl,_⟩; refine rn F ?_)
  | (refine QaP (k:=0) (QaN _ n (by omega) (by omega)) rfl rfl ?_; rintro _ _ ⟨_,rfl,_⟩; refine rn F ?_)
  | (refine QaP (k:=0) (QAj _ ((m:Int)+1) (by omega) (by omega)) rfl rfl ?_; rintro _ _ ⟨_,rfl,_⟩; refine rn F ?_)
  | (refine QaP (k:=0) (QzW _ m h1 h2) rfl rfl ?_; rintro _ _ ⟨_,rfl,_⟩; refine rn F ?_))
 all_goals exact⟨_,rfl,rfl,Qcp _,rfl,⟨⟨_,_,_,_,_,⟨_,_,_,_⟩⟩,rfl⟩,_,rfl⟩
structure Sd1(most:Nat) where
 k:Nat
 c:C
 l:List Sp
 hk:k+l.length<=most+2
def Qxy(c:C)(m most:Nat)(h1:1<=m)(h2:m<=1000)(hm:most<=1000):VCalls prog 24 [.ptr 0 0,.int .i64 m,.int .i64 most,.bool true] [cb c] (CX fun r=>∃ l:List Sp,r=.pv (.sl (fz Qoc l))/\l.length<=most+2):=by
 refine dd Tryz.func24 ?_
 (unfold Tryz.f24; refine rn trivial ?_)
 refine QaP (k:=0) (c:=c) (QAj c ((most:Int)+1) (by omega) (by omega)) rfl rfl ?_
 rintro _ c1 ⟨k,rfl,hk⟩
 refine rn trivial ?_
 refine Qj (fun s:Sd1 most=>⟨30,1,[(10,.int .i64 s.k),(9,.own 1 9 0 s.l.length),(3,.bool true),(1,.int .i64 m),(0,.ptr 0 0)],[cb s.c,⟨112,true,cells Qoc s.l⟩]⟩) (fun s=>s.k) ⟨k,c1,[spB,spB],by simp; omega⟩ (gc [0,1]) ?_
 rintro⟨k,c2,l,hk⟩
 dsimp only
 have hb:(l.length+1)*80<=140737488355328:=by omega
 by_cases hc:0<k
 ·obtain ⟨k,rfl⟩:∃ k':Nat,k = k' + 1:=⟨k - 1,by omega⟩
  have hkk:((k+1:Nat):Int)-1=k:=by omega
  have F:=(Ja @hb @hkk)
  refine rn F ?_
  refine QaP (k:=0) (c:=c2) (QBt c2 m 5 h1 h2 (by omega) (by omega)) rfl rfl ?_
  rintro _ c3 ⟨t,rfl⟩
  have F:=(Ja @hb (Ja @QHr @hkk))
  refine rn F ?_
  have hl2:(l++[t]).length=l.length+1:=by simp
  refine⟨⟨k,c3,l++[t],by rw[hl2]; omega⟩,by dsimp only; omega,?_⟩
  dsimp only
  rw[hl2]
  exact(gc [0,3])
 ·skip
  have F:=@hb
  refine rn F ?_
  exact⟨_,rfl,rfl,Qcp _,rfl,⟨l,rfl,by omega⟩,_,rfl⟩
def Qql(I:Nat->Kn->Prop)(hI:ICr I)(h0:∀ n m:Int,1<=n->n<=4->1<=m->m<=64->I 0 (QwG n m))(c:C)(most:Nat)(hm:most<=1000):VCalls prog 13 [.ptr 0 0,.int .i64 most,.bool true] [cb c] (CX fun r=>∃ s:Sv,r=.agg s.d/\s.sm/\∃ i,i<=most+2/\I i s.k):=by
 refine dd Tryz.func13 ?_
 (unfold Tryz.f13; refine rn trivial ?_)
 refine QaP (k:=0) (c:=c) (QaN c 4 (by omega) (by omega)) rfl rfl ?_
 rintro _ c1 ⟨x,rfl,hx⟩
 obtain⟨m,hm1,hm2⟩:∃ m:Nat,1+(x:Int)=m/\m<=4:=⟨1+x,by omega,by omega⟩
 refine rn @hm1 ?_
 refine QaP (k:=0) (c:=c1) (QaN c1 3 (by omega) (by omega)) rfl rfl ?_
 rintro _ c2 ⟨y,rfl,hy⟩
 refine rn trivial ?_
 refine Qp (QEE m (1+y) (by omega) (by omega)) rfl ?_
 rintro⟨s,e⟩ ⟨hs,he,hg⟩
 dsimp only at hs he hg
 subst he
 refine rn F ?_
 repeat' (first
  | with_reducible exact⟨⟩
  | (refine Qd (id:=3) [0,1,2,3,4] [⟨[],[],5,[0],[]⟩,⟨[],[],6,[1,2,3,4],[7,8,9,10]⟩,⟨[],[],11,[9,10],[]⟩] (by kernel_rfl) (by kernel_rfl) ?_; refine rn F ?_))
 refine QaP (k:=0) (c:=c2) (Qxy c2 m most (by omega) (by omega) hm) rfl rfl ?_
 rintro _ c3 ⟨l,rfl,hl⟩
 have c9:=QEG I hI.st s hs l (fun i _ hk c n hn hc=>QxF I hI c n hn hc _ hk)
 refine rn trivial ?_
 refine Qp c9 rfl ?_
 rintro⟨s1,out,rd⟩ ⟨q1,q2⟩
 refine rn trivial ?_
 exact⟨_,rfl,rfl,Qcp _,rfl,⟨s1,rfl,q1,by
  obtain⟨i,q3,q4⟩:=q2 (by rw[hg]; exact h0 _ _ (by omega) (by omega) (by omega) (by omega))
  exact⟨i,by omega,q4⟩⟩,_,rfl⟩
def QuW(I:Nat->Kn->Prop)(hI:ICr I)(h0:∀ n m:Int,1<=n->n<=4->1<=m->m<=64->I 0 (QwG n m))(c:C)(most:Nat)(hm:most<=1000):VCalls prog 7 [.ptr 0 0,.int .i64 most,.bool true] [cb c] (CX fun r=>∃ k:Kn,r=.agg k.d/\k.sm/\∃ i,i<=most+2/\I i k):=by
 refine dd Tryz.func7 ?_
 (unfold Tryz.f7; refine rn trivial ?_)
 refine QaP (k:=0) (c:=c) (Qql I hI h0 c most hm) rfl rfl ?_
 rintro _ c1 ⟨s,rfl,hs,hi⟩
 refine rn trivial ?_
 exact⟨_,rfl,rfl,Qcp _,rfl,⟨s.k,rfl,hs.1,hi⟩,_,rfl⟩
end
def AnC.cor (h:AnC x n i a) (hv:lgB x = true) (hf:x.f = 1) (hlog:LogOk x.es) (hb1:1<=b) (hb2:∀ e ∈ x.es,e.tx < b) (hb3:CkN b x.es) (hn:1<=n/\n<=64):
 a.pg=n/\a.nx<=b/\∃ m:Nat,a.cp=m/\m<=x.es.length/\Cor (x.es.take (max i m)) n a.nx a.lo a.ix (LD a.la):=by
 induction h with
 | @init a h =>
   obtain⟨h1,h2⟩:=h
   refine⟨h1,?_⟩
   rcases h2 with⟨_,q2,q3,q4,q5,q6⟩ | ⟨i0,l1,l2,l3,l4,l5⟩
   ·refine ⟨by omega,0,by omega,Jc _,?_⟩
    rw[Nat.max_self,J1,q4,q6]
    exact Cor.zero hn _ fun p m ⟨d,q,_⟩=>by rw[q5] at q; simp at q
   ·have hat:=Qf1 hv l1
    have hm:x.es.getD i0 E0∈x.es:=by rw[Qf _ _ l1]; exact JH l1
    rcases(hlog i0 l1).ck l2 with q | ⟨c,c1,c2,c3⟩
    ·exact absurd q l4
    obtain⟨g1,g2,g3,g4,g5⟩:=l5 c c1 c2
    have hnx:=hb3 _ hm l2 c c1 c2
    refine⟨by omega,i0+1,by rw[l3,hat.1,hf]; omega,l1,?_⟩
    rw[Nat.max_eq_right (Jc _),JC l1,<- Qf _ _ l1 E0,g2,g3,g4,g5,<- g1]
    refine c3.ckE ?_ l2 (by have:=c1.2.1; omega) c1.2.2.1
    by_cases h:(x.es.getD i0 E0).tx=0
    ·exact h
    ·have:=QeW hat.2 h; omega
 | @skip i a h hi hl ih =>
   obtain⟨h1,h2,m,h3,h4,h5⟩:=ih
   have hat:=(Qf1 hv hi).1
   refine⟨h1,h2,m,h3,h4,?_⟩
   rw[show max (i+1) m=max i m by omega]
   exact h5
 | @note i a b' h hi hl hr ih =>
   obtain⟨h1,h2,m,h3,h4,h5⟩:=ih
   have hat:=(Qf1 hv hi).1
   obtain⟨r1,r2,r3,_⟩:=id hr
   have hm:x.es.getD i E0∈x.es:=by rw[Qf _ _ hi]; exact JH hi
   have:=hb2 _ hm
   refine⟨by omega,by omega,m,by omega,h4,?_⟩
   rw[show max i m=i by omega,<- h1] at h5
   rw[show max (i+1) m=i+1 by omega,JC hi,<- Qf _ _ hi E0]
   have hc:=hr.cor h5 (hlog i hi) fun y hy=>by
    obtain⟨j,hj,rfl⟩:=J0.1 hy
    rw[Ji] at hj
    rw[J6]
    have:=(Qf1 hv (i:=j) (by omega)).1
    rw[Qf _ _ (by omega)] at this
    omega
   rw[r1,h1] at hc
   exact hc
def QF7(hv:lgB x=true)(hf:x.f=1)(hlog:LogOk x.es)(hfs:(adK x (loF a lk) m).pl.fs=[])(hc:Cor x.es a.pg a.nx a.lo a.ix (LD a.la)):KI (adK x (loF a lk) m):=by
 have hL:∀ p n,LkK (adK x (loF a lk) m) p n ↔ LD a.la p n:=fun p n=>by
  unfold LkK
  rw[hfs]
  constructor
  ·rintro (h | ⟨f,h,_⟩)
   ·exact h
   ·simp at h
  ·intro h; exact .inl h
 have hc2:=hc.weak (JJ _) (L':=LkK (adK x (loF a lk) m)) (fun p n q=>(hL p n).1 q) fun p q n h=>q n ((hL p n).2 h)
 refine⟨hv,hf,hlog,hc2.same (JJ _) (fun t q=>hc.ok t (Js.1 q).1) fun y hy h0 ⟨t,q1,q2⟩=>⟨t,Js.2 ⟨q1,?_⟩,q2⟩,fun f q=>by rw[hfs] at q; simp at q⟩
 have:=Ql7 x.es (a:=t.id) (fun z hz=>(QnV hv hf hz).1) ⟨y,hy,q2.symm⟩
 have:=(hc.ok t q1).n
 simp
 omega
def CkN.snoc(h:CkN b es)(he:e.kind=6->∀ c,CkV c->e.blob=QaR c->c.nx<=b):CkN b (es++[e]):=fun x hx=>by
 rcases JV.1 hx with hx | hx
 ·exact h x hx
 ·rw[Jh.1 hx]; exact he
def CkN.mono(h:CkN b es)(hb:b<=b'):CkN b' es:=fun e he h6 c hc hq=>Int.le_trans (h e he h6 c hc hq) hb
structure CI(m:Nat)(k:Kn):Prop where
 nx:k.nx<=1+m
 ck:CkN (1+m) k.lg.es
def CI.mono(h:CI m k)(hm:m<=m'):CI m' k:=⟨by have:=h.nx; omega,h.ck.mono (by omega)⟩
def CI.add(h:CI m k)(ha:AddOk k e e')(h1:k'.nx=k.nx)(h2:k'.lg.es=k.lg.es++[e'])(h6:e.kind≠6):CI m k':=
 ⟨by rw[h1]; exact h.nx,by rw[h2]; exact h.ck.snoc fun q=>absurd (ha.2.1.1.symm.trans q) h6⟩
def Stp.ci (h:Stp n k k') (hc:CI m k):CI (m + n) k':=by
 cases h with
 | begin v hb=>exact⟨by have:=hc.nx; show k.nx+1<=_; omega,hc.ck.mono (by omega)⟩
 | fin ha h3 hf=>exact hc.add ha rfl rfl (by omega)
 | ckpt ha h6 hk =>
   refine⟨by have:=hc.nx; show k.nx<=_; omega,CkN.snoc (hc.ck.mono (by omega)) fun _ c c1 c2=>?_⟩
   rw[ha.2.1.2.2.2.2] at c2
   rcases hk with q | ⟨c0,q1,q2,q3⟩
   ·have:=(QmC c1).1.1
    rw[<- c2,q] at this
    simp at this
   ·have:=Qzq c1 q2 (c2.symm.trans q3)
    rw[this,q1.nx]
    have:=hc.nx
    omega
 | @change _ e e' ha h1 hs hu =>
   have:CI m (k.set e'):=hc.add ha rfl rfl (by omega)
   exact this.mono (by omega)
 | undo ha h2 hs hu=>exact hc.add ha rfl rfl (by omega)
 | wrt ha h7 hw=>exact hc.add ha rfl rfl (by omega)
 | lock u=>exact⟨hc.nx,hc.ck⟩
 | save a h=>exact⟨hc.nx,hc.ck⟩
 | back a b h=>exact⟨hc.nx,hc.ck⟩
 | rem a hi hn=>exact⟨hc.nx,hc.ck⟩
 | pool p hs=>exact⟨hc.nx,hc.ck⟩
 | drop a h=>exact⟨hc.nx,hc.ck⟩
 | put x v hr hl _ _=>exact⟨hc.nx,hc.ck⟩
 | putl x v hr hl _ _=>exact⟨hc.nx,hc.ck⟩
 | force d h=>exact⟨hc.nx,hc.ck⟩
def Str.ci(h:Str n k k')(hc:CI m k):CI (m+n) k':=by
 induction h generalizing m with
 | refl k=>exact hc.mono (by omega)
 | step _ h2 ih=>rw[<- Nat.add_assoc]; exact h2.ci (ih hc)
def CrK.go(h:CrK k k')(hk:KI k)(hc:CI m k):KI k'/\CI m k':=by
 obtain⟨j,hj,hv,hn,a,lk,h1,h2,h3,h4⟩:=h
 have hsub:∀ e∈k.lg.es.take j,e∈k.lg.es:=fun e he=>List.mem_of_mem_take he
 have hckn:CkN (1+m) (k.lg.es.take j):=fun e he=>hc.ck e (hsub e he)
 have hnx:=hc.nx
 obtain⟨g1,g2,mm,g3,g4,g5⟩:=h1.cor hv hk.f (hk.log.take j) (b:=1+m) (by omega) (fun e he=>by have:=hk.cor.ids e (hsub e he); omega) hckn hn
 dsimp only at g4 g5
 rw[Jn (l:=k.lg.es.take j) (by omega),<- g1] at g5
 have hK:=QF7 (lk:=lk) (m:=k.pl.size) hv hk.f (hk.log.take j) h3 g5
 have:=h4.ci (m:=m) ⟨g2,hckn⟩
 exact⟨h4.KI hK,this⟩
def I0(m:Nat)(k:Kn):Prop:=KI k/\CI m k
def QHA:ICr I0:=
 ⟨fun n m k k' h hi=>⟨h.KI hi.1,h.ci hi.2⟩,fun m k h=>h.1.lg,fun m k k' h hi=>by
  obtain⟨h1,h2⟩:=h.go hi.1 hi.2
  exact⟨h1,h2.mono (by omega)⟩⟩
def QGb(n m:Int)(h1:1<=n)(h2:n<=4):I0 0 (QwG n m):=⟨QCo h1 (by omega),⟨by show(1:Int)<=_; omega,fun e he=>by simp[QwG,Lg1] at he⟩⟩
def Qma(c:C)(most:Nat)(hm:most<=1000):VCalls prog 7 [.ptr 0 0,.int .i64 most,.bool true] [cb c] (CX fun r=>∃ k:Kn,r=.agg k.d/\k.sm/\KI k/\CI (most+2) k):=
 (QuW I0 QHA (fun n m h1 h2 _ _=>QGb n m h1 h2) c most hm).mono fun r h' ⟨B',e1,e2,e3,e4,⟨k,q1,q2,i,q3,q4,q5⟩,e5⟩=>⟨B',e1,e2,e3,e4,⟨k,q1,q2,q4,q5.mono q3⟩,e5⟩
def Qpx:exE es n p = true ↔ ∃ i,i < n/\p (es.getD i E0) = true:=by
 induction n with
 | zero=>simp[exE]
 | succ n ih =>
   rw[QbF,Ju,ih]
   constructor
   ·rintro (⟨i,h1,h2⟩ | h)
    ·exact⟨i,by omega,h2⟩
    ·exact⟨n,by omega,h⟩
   ·rintro ⟨i,h1,h2⟩
    by_cases h:i=n
    ·subst h; exact .inr h2
    ·exact .inl ⟨i,by omega,h2⟩
def comB_true:Qby es n tx=true ↔ ∃ i,i<n/\(es.getD i E0).kind=3/\(es.getD i E0).tx=tx:=by
 unfold Qby
 rw[Qpx]
 simp[comp]
def QhK(es:List E)(n:Nat)(tx:Int):Qby es (n+1) tx=(Qby es n tx||comp tx (es.getD n E0)):=QbF _ _ _
def QfQ:∀ n,(∀ i,i < n->QdY (es.getD i E0) = true->(es.getD i E0).c.pg = p->(es.getD i E0).c.sl = s->c (es.getD i E0).tx = c' (es.getD i E0).tx)->Qky es c p s n = Qky es c' p s n
 | 0,_=>rfl
 | n + 1,h=>by
   have ih:=QfQ n fun i hi=>h i (by omega)
   unfold Qky
   rw[ih]
   by_cases q:QdY (es.getD n E0)=true/\(es.getD n E0).c.pg=p/\(es.getD n E0).c.sl=s
   ·have:=h n (by omega) q.1 q.2.1 q.2.2
    rw[this]
   ·rw[if_neg fun r=>q ⟨r.1,r.2.2.1,r.2.2.2⟩,if_neg fun r=>q ⟨r.1,r.2.2.1,r.2.2.2⟩]
def Qxl{es:List E}(h:i<k)(hk:k<=es.length):es.getD i E0∈es.take k:=by
 rw[J0]
 exact⟨i,by rw[Ji]; omega,by rw[J6,Qf _ _ (by omega)]⟩
def QFP(h:LogOk es)(hk:k<es.length)(ht:0<(es.getD k E0).tx):Qby es k (es.getD k E0).tx=false:=by
 by_cases hc:Qby es k (es.getD k E0).tx=true
 ·obtain ⟨i,h1,h2,h3⟩:=comB_true.1 hc
  exact absurd ⟨_,Qxl h1 (by omega),h3,.inl h2⟩ ((h k hk).ne ht)
 ·simpa using hc
def QwH(es:List E)(tx p s:Int)(n:Nat):Bool:=exE es n fun y=>decide (y.tx=tx)&&(decide (y.c.pg=p)&&decide (y.c.sl=s))
def QDs(hv:lgB x=true)(hi:i<x.es.length)(h:QdY (x.es.getD i E0)=true):0<(x.es.getD i E0).tx:=by
 have:=(QAB hv hi h).2.2
 omega
def Qyz(hv:lgB x=true)(h:LogOk x.es)(hk:k<x.es.length)(hne:Qky x.es (Qby x.es k) p s k≠Qky x.es (Qby x.es (k+1)) p s (k+1)):(x.es.getD k E0).kind=3/\QwH x.es (x.es.getD k E0).tx p s k=true:=by
 have e2:Qky x.es (Qby x.es (k+1)) p s (k+1)=Qky x.es (Qby x.es (k+1)) p s k:=by
  show(if _ then _ else _)=_
  rw[if_neg]
  rintro⟨q1,q2,_⟩
  have ht:=QDs hv hk q1
  rw[QhK,QFP h hk ht,Kg] at q2
  simp only[comp,Jg,decide_eq_true_eq] at q2
  unfold QdY at q1
  simp only[Ju,beq_iff_eq] at q1
  omega
 rw[e2] at hne
 by_cases h3:(x.es.getD k E0).kind=3
 ·refine ⟨h3,?_⟩
  by_cases hi:QwH x.es (x.es.getD k E0).tx p s k=true
  ·exact hi
  ·refine absurd (QfQ k fun i h1 h2 h4 h5=>?_) hne
   rw[QhK]
   have:comp (x.es.getD i E0).tx (x.es.getD k E0)=false:=by
    unfold comp
    by_cases hq:(x.es.getD k E0).tx=(x.es.getD i E0).tx
    ·refine absurd ?_ hi
     unfold QwH
     rw[Qpx]
     exact⟨i,h1,by simp only[Jg,decide_eq_true_eq]; exact⟨hq.symm,h4,h5⟩⟩
    ·rw[decide_eq_false hq,JF]
   rw[this,Jv]
 ·refine absurd (QfQ k fun i h1 h2 h4 h5=>?_) hne
  rw[QhK]
  unfold comp
  rw[decide_eq_false h3,JG,Jv]
section
attribute [local go_sem] Ce.d Ch.d E.d QV Qao Qhr QmP QmM Qlc Qk9 Qmo QdB QFl QF3 QEy QEw Qkq Lg.c
def Qoh(x:Lg)(hx:x.es.length<=9223372036854775807)(pg sl tx at_:Int):VCalls prog 10 [.agg x.c,.int .i64 pg,.int .i64 sl,.int .i64 tx,.int .i64 at_] [] (Ret (.tup [.agg (Qtd x pg sl tx at_).1.1.d,.int .i64 (Qtd x pg sl tx at_).2])):=by
 refine dd Tryz.func10 ?_
 have c1:=QDn x hx pg sl tx at_
 generalize Qtd x pg sl tx at_=r at *
 unfold Lg.c Ce.d at c1
 (unfold Tryz.f10; refine rn trivial ?_)
 refine rn F ?_
 repeat' (first
  | with_reducible exact⟨⟩
  | refine vp F (c1) ?_)
structure Rg where
 tx:Int
 pg:Int
 sl:Int
 at_:Int
 c:Ce
def Rg.d(r:Rg):List DV:=[.int .i64 r.tx,.int .i64 r.pg,.int .i64 r.sl,.int .i64 r.at_,.bool r.c.set,.pv (.str r.c.data)]
attribute [local go_sem] Rg.d
end
section
attribute [local go_sem] Ce.d Ch.d E.d Lg.c QV Qao
attribute [local go_sem] Qfg Qdp QcE Qa3 QaB
end
section
attribute [local go_sem] Ce.d Ch.d E.d Lg.c QV Qao
attribute [local go_sem] Qfg Qdp QcE Qa3 QaB
end
section
attribute [local go_sem] Ce.d Ch.d E.d Lg.c QV Qao
end
structure EOk(f:Int)(k:Nat)(e:E):Prop where
 lsn:e.lsn=f+k
 ptx:0<=e.ptx/\e.ptx<e.lsn
 ref:0<=e.ref/\e.ref<e.lsn
 tx:(1<=e.tx/\(e.kind=1\/e.kind=2\/e.kind=3\/e.kind=4\/e.kind=5))\/(e.tx=0/\e.kind≠1/\e.kind≠2/\e.kind≠3/\e.kind≠4/\e.kind≠5)
 sl:e.kind=2->0<=e.c.sl
structure Wf(f:Int)(es:List E):Prop where
 f1:1<=f
 ok:∀ k,k<es.length->EOk f k (es.getD k E0)
def Wf.of(h:lgB x=true):Wf x.f x.es:=by
 refine⟨(QaG h).1,fun k hk=>?_⟩
 unfold lgB at h
 rw[Jg,Jy] at h
 have h2:=h.2 k (Jw.2 hk)
 unfold lgC at h2
 rw[Jg] at h2
 have h3:=of_decide_eq_true h2.1
 have h4:=h2.2
 generalize x.es.getD k E0=e at *
 unfold E.okB bef at h4
 simp only[Jg,decide_eq_true_eq] at h4
 obtain⟨⟨⟨⟨_,a1⟩,_⟩,a2⟩,a3⟩:=h4
 refine⟨h3,a1,a2,?_,?_⟩
 ·unfold E.kindB txB at a3
  split at a3
  ·simp at a3; omega
  split at a3
  ·simp at a3; omega
  split at a3
  ·simp at a3; omega
  split at a3
  ·simp at a3; omega
  split at a3
  ·simp at a3; omega
  ·cases a3
 ·intro hk
  unfold E.kindB at a3
  rw[if_neg (by omega),if_pos hk] at a3
  unfold Ch.okB at a3
  simp at a3
  omega
def QDg:exE es i p=true ↔ ∃ k,k<i/\p (es.getD k E0)=true:=by
 unfold exE
 rw[Bool.not_eq_true',List.all_eq_false]
 simp
def exE_iff':exE es i p=false ↔ ∀ k,k<i->p (es.getD k E0)=false:=by
 rw[Bool.eq_false_iff,Ne,QDg]
 simp
def QeB(es:List E)(i:Nat)(n:Int):Qz5 es (i+1) n=(Qz5 es i n||undp n (es.getD i E0)):=QbF _ _ _
def before(es:List E)(i:Nat):List E:=(JZ i).map fun k=>es.getD k E0
def Qoj(es:List E)(i:Nat):before es (i+1)=before es i++[es.getD i E0]:=by
 unfold before
 rw[List.range_succ,List.map_append]
 rfl
def QqH:y∈before es i ↔ ∃ k,k<i/\es.getD k E0=y:=by
 unfold before
 simp
def Qkp(W:Wf f es)(hi:i<=es.length):(before es i).Pairwise fun a b=>a.lsn<b.lsn:=by
 unfold before
 rw[List.pairwise_map]
 refine List.Pairwise.imp_of_mem ?_ List.pairwise_lt_range
 intro a b ha hb h
 have ha:=Jw.1 ha
 have hb:=Jw.1 hb
 rw[(W.ok a (by omega)).lsn,(W.ok b (by omega)).lsn]
 omega
def QjR(es:List E)(i:Nat)(x:Int):List E:=(before es i).filter fun e=>decide (e.kind=1)&&(decide (e.tx=x)&&!Qz5 es i e.lsn)
def mem_penL:y∈QjR es i x ↔ (∃ k,k<i/\es.getD k E0=y)/\y.kind=1/\y.tx=x/\Qz5 es i y.lsn=false:=by
 unfold QjR
 rw[Js,QqH]
 simp
def Qhi(W:Wf f es)(hi:i<=es.length)(x:Int):(QjR es i x).Pairwise fun a b=>a.lsn<b.lsn:=(Qkp W hi).filter _
def Qxg(W:Wf f es)(hi:i<es.length):Qz5 es i (f+i)=false:=by
 unfold Qz5
 rw[exE_iff']
 intro k hk
 have h:=W.ok k (by omega)
 unfold undp
 have h1:=h.ref.2
 rw[h.lsn] at h1
 rw[Bool.and_eq_false_iff]
 exact .inr (decide_eq_false (by omega))
def QiS (W:Wf f es) (x:Int):∀ i,i<=es.length->(QcX es x i = 0/\∀ k,k < i->(es.getD k E0).tx ≠ x)\/(f<=QcX es x i/\∃ k,k < i/\(es.getD k E0).tx = x)
 | 0,_=>.inl ⟨rfl,fun k hk=>by omega⟩
 | i + 1,hi=>by
   rw[QcX]
   have h:=(W.ok i (by omega)).lsn
   by_cases hx:(es.getD i E0).tx=x
   ·rw [if_pos hx]
    exact .inr ⟨by omega,i,by omega,hx⟩
   ·rw [if_neg hx]
    rcases QiS W x i (by omega) with⟨h1,h2⟩ | ⟨h1,k,h2,h3⟩
    ·refine .inl ⟨h1,fun k hk=>?_⟩
     by_cases hki:k=i
     ·rw[hki]; exact hx
     ·exact h2 k (by omega)
    ·exact .inr ⟨h1,k,by omega,h3⟩
def Qza (L:List (Int × Int)) (a v b:Int):QmW (QrL L a v) b = if a = b then some v else QmW L b:=by
 induction L with
 | nil=>simp[QrL,QmW]
 | cons q r ih =>
   obtain⟨k,x⟩:=q
   unfold QrL
   by_cases h:k=a
   ·subst h
    simp only[if_pos,QmW]
    split<;>simp
   ·rw [if_neg h]
    simp only[QmW]
    rw[ih]
    by_cases h2:k=b
    ·subst h2
     rw[if_pos rfl,if_neg (fun e=>h e.symm),if_pos rfl]
    ·rw[if_neg h2,if_neg h2]
def QyG(U:List Int)(a b:Int):b∈QoY U a ↔ b∈U\/b=a:=by
 unfold QoY
 split
 ·constructor
  ·exact .inl
  ·rintro (h | rfl)
   ·exact h
   ·assumption
 ·simp
def Qmt (T:List Tr) (t:Tr) (x:Int):Qio (setT T t) x = if t.tx = x then some t else Qio T x:=by
 unfold Qio
 induction T with
 | nil=>simp[setT,JW]; split<;>simp_all
 | cons a r ih =>
   unfold setT
   by_cases h:a.tx=t.tx
   ·rw [if_pos h]
    simp only[JW]
    rw[h]
    by_cases h2:t.tx=x
    ·simp[h2]
    ·simp[h2]
   ·rw [if_neg h]
    simp only[JW]
    rw[ih]
    by_cases h2:a.tx=x
    ·subst h2
     simp[Ne.symm h]
    ·simp[h2]
def QpC (e:E):∀ (P:List E),P.Pairwise (fun a b=>a.lsn < b.lsn)->P.drop (P.findIdx (Qat e)) = P.filter (Qat e)
 | [],_=>rfl
 | a :: r,h=>by
   rw[JN] at h
   rw[J7,Jz]
   cases ha:Qat e a
   ·simpa using QpC e r h.2
   ·have:r.filter (Qat e) = r:=Jl.2 fun b hb=>by
     have:=h.1 b hb
     unfold Qat at ha |-
     simp at ha |-
     omega
    simp[this]
def Qos (e:E):∀ (P:List E),P.Pairwise (fun a b=>a.lsn < b.lsn)->P.any (Qat e) = true->(P.getD (P.findIdx (Qat e)) E0).lsn = e.ref->Qqc P (P.findIdx (Qat e)) = P.filter fun y=>!decide (y.lsn = e.ref)
 | [],_,h,_=>by cases h
 | a :: r,h,hq,hl=>by
   rw[JN] at h
   rw[J7] at hl |-
   rw[Jz]
   cases ha:Qat e a
   ·rw [ha] at hl
    have hq:r.any (Qat e)=true:=by simpa [ha] using hq
    have hl:(r.getD (r.findIdx (Qat e)) E0).lsn=e.ref:=by simpa using hl
    have:=Qos e r h.2 hq hl
    unfold Qqc at this |-
    have hne:a.lsn≠e.ref:=by unfold Qat at ha; simp at ha; omega
    simp[hne]
    simpa using this
   ·rw [ha] at hl
    have hl:a.lsn=e.ref:=by simpa using hl
    have:r.filter (fun y=>!decide (y.lsn=e.ref))=r:=Jl.2 fun b hb=>by
     have:=h.1 b hb
     simp
     omega
    simp[Qqc,hl,this]
structure Inv(f:Int)(es:List E)(i:Nat)(A:Ck):Prop where
 pg:∀ p,QmW A.Pg p=if Ql8 es p i=0 then none else some (Ql8 es p i)
 un:∀ n,n∈A.U ↔ Qz5 es i n=true
 no:∀ x,1<=x->Qio A.T x=none->∀ k,k<i->(es.getD k E0).tx≠x
 so:∀ x t,1<=x->Qio A.T x=some t->QcX es x i≠0/\t.last=QcX es x i/\t.ab=Qwz es x i/\t.en=exE es i (Qzp x)/\t.ea=exE es i (QwK f x)/\t.P=QjR es i x
def Qo7:∀ {i:Nat},(∀ k,k < i->(es.getD k E0).tx ≠ x)->QcX es x i = 0/\Qwz es x i = false
 | 0,_=>⟨rfl,rfl⟩
 | i + 1,h=>by
   rw[QcX,Qwz,if_neg (h i (by omega)),if_neg (h i (by omega))]
   exact Qo7 fun k hk=>h k (by omega)
def QAi(h:∀ k,k<i->(es.getD k E0).tx≠x):exE es i (Qzp x)=false/\exE es i (QwK f x)=false/\QjR es i x=[]:=by
 refine⟨exE_iff'.2 fun k hk=>?_,exE_iff'.2 fun k hk=>?_,?_⟩
 ·unfold Qzp; rw[decide_eq_false (h k hk)]; rfl
 ·unfold QwK; rw[decide_eq_false (h k hk)]; rfl
 ·rw [List.eq_nil_iff_forall_not_mem]
  intro y hy
  obtain⟨⟨k,hk,rfl⟩,_,h2,_⟩:=mem_penL.1 hy
  exact h k hk h2
def QFR (W:Wf f es) (I:Inv f es i A) (e:E) (ht:1<=e.tx):
 ckB f A e=((if QcX es e.tx i=0 then decide (e.ptx<f) else decide (e.ptx=QcX es e.tx i)&&!exE es i (Qzp e.tx))&&((!QdY e||pagedB f A.Pg e)&&QjB f A.U e (if QcX es e.tx i=0 then decide (0<e.ptx) else exE es i (QwK f e.tx)) (Qwz es e.tx i) (QjR es i e.tx))) /\
 ckS f A e=⟨setT A.T ⟨e.tx,e.lsn,if QcX es e.tx i=0 then decide (0<e.ptx) else exE es i (QwK f e.tx),nab e (Qwz es e.tx i),nen e (exE es i (Qzp e.tx)),Qeg f e (QjR es i e.tx)⟩,if QdY e=true then QrL A.Pg e.c.pg e.lsn else A.Pg,QjA A.U e⟩:=by
 unfold ckB ckS
 have h0:e.tx≠0:=by omega
 rw[if_neg h0,if_neg h0]
 cases hT:Qio A.T e.tx with
 | none =>
   have hn:=I.no e.tx ht hT
   obtain⟨h1,h2⟩:=Qo7 hn
   obtain⟨h3,h4,h5⟩:=QAi (f:=f) hn
   rw[h1,h2,h3,h5]
   exact⟨rfl,rfl⟩
 | some t =>
   obtain⟨h0,h1,h2,h3,h4,h5⟩:=I.so e.tx t ht hT
   simp only[h1,h2,h3,h4,h5,if_neg h0]
   exact⟨trivial,trivial⟩
def QjQ(W:Wf f es)(hi:i<=es.length)(h:y∈QjR es i x):∃ k,k<i/\es.getD k E0=y/\y.lsn=f+k:=by
 obtain⟨⟨k,hk,rfl⟩,_⟩:=mem_penL.1 h
 exact⟨k,hk,rfl,(W.ok k (by omega)).lsn⟩
def Qys(W:Wf f es)(hi:i<=es.length)(h:y∈QjR es i x)(h':y'∈QjR es i x')(e:y.lsn=y'.lsn):y=y':=by
 obtain⟨k,_,rfl,h1⟩:=QjQ W hi h
 obtain⟨k',_,rfl,h2⟩:=QjQ W hi h'
 obtain rfl:k=k':=by omega
 rfl
def Qy4{P:List E}{e:E}(hs:P.Pairwise fun a b=>a.lsn<b.lsn)(ha:P.any (Qat e)=true) :
 P.getD (P.findIdx (Qat e)) E0∈P/\Qat e (P.getD (P.findIdx (Qat e)) E0)=true/\P.filter (Qat e)=P.getD (P.findIdx (Qat e)) E0::P.drop (P.findIdx (Qat e)+1)/\∀ y∈P.drop (P.findIdx (Qat e)+1),(P.getD (P.findIdx (Qat e)) E0).lsn<y.lsn:=by
 have hj:P.findIdx (Qat e)<P.length:=List.findIdx_lt_length_of_exists (by simpa using ha)
 have hd:=QpC e P hs
 have hc:P.drop (P.findIdx (Qat e))=P.getD (P.findIdx (Qat e)) E0::P.drop (P.findIdx (Qat e)+1):=by
  rw[Qf P _ hj,List.drop_eq_getElem_cons hj]
 rw[hc] at hd
 have hm:P.getD (P.findIdx (Qat e)) E0∈P.filter (Qat e):=by rw[<- hd]; exact Jt
 have hsf:=hs.filter (Qat e)
 rw[<- hd,JN] at hsf
 exact⟨(Js.1 hm).1,(Js.1 hm).2,hd.symm,hsf.1⟩
def QlD(W:Wf f es)(hi:i<es.length)(x:Int):QjR es (i+1) x=(QjR es i x).filter (fun y=>!undp y.lsn (es.getD i E0))++(if (es.getD i E0).kind=1/\(es.getD i E0).tx=x then [es.getD i E0] else []):=by
 unfold QjR
 rw[Qoj,List.filter_append,J4]
 congr 1
 ·refine JE fun y _=>?_
  rw[QeB]
  cases decide (y.kind=1)<;>cases decide (y.tx=x)<;>cases Qz5 es i y.lsn<;>cases undp y.lsn (es.getD i E0)<;>rfl
 ·have hf:=Qxg W hi
  have hl:=(W.ok i hi).lsn
  rw[<- hl] at hf
  rw[Jz,List.filter_nil,QeB,hf]
  generalize es.getD i E0=e at *
  by_cases h1:e.kind=1
  ·by_cases h2:e.tx = x
   ·simp[h1,h2,undp]
   ·simp[h1,h2]
  ·simp[h1]
def QlE(W:Wf f es)(hi:i<es.length)(x:Int)(h1:¬ ((es.getD i E0).kind=1/\(es.getD i E0).tx=x))(h2:(es.getD i E0).kind=2->∀ y∈QjR es i x,y.lsn≠(es.getD i E0).ref):QjR es (i+1) x=QjR es i x:=by
 rw[QlD W hi,if_neg h1,Jm]
 refine Jl.2 fun y hy=>?_
 unfold undp
 by_cases hk:(es.getD i E0).kind=2
 ·rw [decide_eq_false (show ¬ (es.getD i E0).ref = y.lsn from fun h=>h2 hk y hy h.symm),JF]
  rfl
 ·rw [decide_eq_false hk]
  rfl
def Qot(h:QsO f U P e=true)(hf:f<=e.ref):P.any (Qat e)=true/\(P.getD (P.findIdx (Qat e)) E0).lsn=e.ref:=by
 unfold QsO at h
 rw[if_pos hf] at h
 by_cases ha:P.any (Qat e)=true
 ·rw [if_pos ha] at h
  simp only[Jg,decide_eq_true_eq] at h
  exact⟨ha,h.2.1⟩
 ·rw [if_neg ha,decide_eq_false (show ¬ e.ref < f by omega),JF] at h
  cases h
def QG0{es:List E}(h:(es.getD i E0).kind≠1/\(es.getD i E0).kind≠2):QdY (es.getD i E0)=false:=by
 unfold QdY
 rw[Bool.or_eq_false_iff]
 exact⟨beq_eq_false_iff_ne.2 h.1,beq_eq_false_iff_ne.2 h.2⟩
def Qj6(W:Wf f es)(hi:i<es.length)(I:Inv f es i A)(h:ckB f A (es.getD i E0)=true):Inv f es (i+1) (ckS f A (es.getD i E0)):=by
 have hok:=W.ok i hi
 have hil:=Nat.le_of_lt hi
 have other:∀ x,(es.getD i E0).tx≠x->QcX es x (i+1)=QcX es x i/\Qwz es x (i+1)=Qwz es x i/\exE es (i+1) (Qzp x)=exE es i (Qzp x)/\exE es (i+1) (QwK f x)=exE es i (QwK f x):=fun x hx=>by
  refine⟨by rw[QcX,if_neg hx],by rw[Qwz,if_neg hx],?_,?_⟩
  ·rw[QbF]; unfold Qzp; rw[decide_eq_false hx,JG,Jv]
  ·rw[QbF]; unfold QwK; rw[decide_eq_false hx,JG,Jv]
 rcases hok.tx with⟨ht,hk⟩ | ⟨ht,hk⟩
 ·obtain ⟨eB,eS⟩:=QFR W I _ ht
  rw[eB] at h
  rw[eS]
  have hlast:=QiS W (es.getD i E0).tx i hil
  have hund:(es.getD i E0).kind=2->QsO f A.U (QjR es i (es.getD i E0).tx) (es.getD i E0)=true:=fun hk2=>by
   unfold QjB at h
   rw[if_pos hk2] at h
   simp only[Jg] at h
   exact h.2.2
  have hptx:if QcX es (es.getD i E0).tx i=0 then (es.getD i E0).ptx<f else (es.getD i E0).ptx=QcX es (es.getD i E0).tx i:=by
   have:=h
   simp only[Jg] at this
   have:=this.1
   split at this
   ·rename_i h0; rw[if_pos h0]; exact of_decide_eq_true this
   ·rename_i h0; rw[if_neg h0]; simp only[Jg,decide_eq_true_eq] at this; exact this.1
  refine⟨fun p=>?_,fun n=>?_,fun x hx hn k hk'=>?_,fun x t hx hsome=>?_⟩
  ·dsimp only
   rw[Ql8]
   by_cases hc:QdY (es.getD i E0)=true
   ·rw [if_pos hc,Qza,I.pg]
    by_cases hp:(es.getD i E0).c.pg=p
    ·rw[if_pos hp,if_pos (show QdY (es.getD i E0)=true/\(es.getD i E0).c.pg=p from ⟨hc,hp⟩),if_neg (show ¬ (es.getD i E0).lsn=0 by have:=hok.lsn; have:=W.f1; omega)]
    ·rw[if_neg hp,if_neg (show ¬ (QdY (es.getD i E0)=true/\(es.getD i E0).c.pg=p) from fun h=>hp h.2)]
   ·rw[if_neg hc,if_neg (show ¬ (QdY (es.getD i E0)=true/\(es.getD i E0).c.pg=p) from fun h=>hc h.1),I.pg]
  ·dsimp only
   rw[QeB]
   unfold QjA undp
   by_cases hk2:(es.getD i E0).kind=2
   ·rw [if_pos hk2,QyG,I.un,decide_eq_true hk2,JI,Ju,decide_eq_true_eq]
    constructor
    ·rintro (h | h)
     ·exact .inl h
     ·exact .inr h.symm
    ·rintro (h | h)
     ·exact .inl h
     ·exact .inr h.symm
   ·rw[if_neg hk2,I.un,decide_eq_false hk2,JG,Jv]
  ·dsimp only at hn
   rw[Qmt] at hn
   dsimp only at hn
   split at hn
   ·cases hn
   ·rename_i hne
    by_cases hki:k=i
    ·rw[hki]; exact hne
    ·exact I.no x hx hn k (by omega)
  ·dsimp only at hsome
   rw[Qmt] at hsome
   dsimp only at hsome
   by_cases hxe:(es.getD i E0).tx=x
   ·rw [if_pos hxe] at hsome
    obtain rfl:=Kd.inj hsome
    subst hxe
    dsimp only
    rw[QcX,if_pos rfl,Qwz,if_pos rfl,QbF,QbF,QlD W hi]
    refine⟨by have:=hok.lsn; have:=W.f1; omega,rfl,rfl,?_,?_,?_⟩
    ·unfold nen Qzp
     rw[decide_eq_true rfl,JI,Bool.or_assoc]
    ·unfold QwK
     rw[decide_eq_true rfl,JI]
     rcases hlast with⟨h0,hno⟩ | ⟨h0,_⟩
     ·rw [if_pos h0] at hptx |-
      have:=(QAi (f:=f) hno).2.1
      unfold QwK at this
      rw[this,decide_eq_true hptx,Kg,Bool.and_true]
     ·have hne:QcX es (es.getD i E0).tx i ≠ 0:=by have:=W.f1; omega
      rw[if_neg hne] at hptx |-
      rw[decide_eq_false (show ¬ (es.getD i E0).ptx<f by omega),JF,Jv]
    ·unfold Qeg
     by_cases hk2:(es.getD i E0).kind=2
     ·rw [if_pos hk2,if_neg (by omega),Jm]
      unfold QsN
      by_cases hf:f<=(es.getD i E0).ref
      ·obtain ⟨a1,a2⟩:=Qot (hund hk2) hf
       rw[if_pos hf,Qos _ _ (Qhi W hil _) a1 a2]
       refine JE fun y _=>?_
       unfold undp
       rw[decide_eq_true hk2,JI]
       congr 1
       rw[decide_eq_decide]
       exact eq_comm
      ·rw [if_neg hf]
       refine(Jl.2 fun y hy=>?_).symm
       obtain⟨k,_,_,hl⟩:=QjQ W hil hy
       unfold undp
       rw[decide_eq_false (show ¬ (es.getD i E0).ref=y.lsn by omega),JF]
       rfl
     ·rw [if_neg hk2]
      have hid:(QjR es i (es.getD i E0).tx).filter (fun y=>!undp y.lsn (es.getD i E0))=QjR es i (es.getD i E0).tx:=Jl.2 fun y _=>by
       unfold undp
       rw[decide_eq_false hk2]
       rfl
      rw[hid]
      unfold nP
      by_cases hk1:(es.getD i E0).kind=1
      ·rw[if_pos hk1,if_pos ⟨hk1,rfl⟩]
      ·rw[if_neg hk1,if_neg (fun h=>hk1 h.1),Jm]
   ·rw [if_neg hxe] at hsome
    obtain⟨o1,o2,o3,o4⟩:=other x hxe
    rw[o1,o2,o3,o4,QlE W hi x (fun h=>hxe h.2) ?_]
    ·exact I.so x t hx hsome
    ·intro hk2 y hy hl
     by_cases hf:f<=(es.getD i E0).ref
     ·obtain ⟨a1,a2⟩:=Qot (hund hk2) hf
      obtain⟨b1,_⟩:=Qy4 (Qhi W hil _) a1
      have:=Qys W hil hy b1 (by rw[hl,a2])
      rw[<- this] at b1
      have h1:=(mem_penL.1 hy).2.2.1
      have h2:=(mem_penL.1 b1).2.2.1
      exact hxe (h2.symm.trans h1)
     ·obtain ⟨k,_,_,hl'⟩:=QjQ W hil hy
      omega
 ·have hc:=QG0 ⟨hk.1,hk.2.1⟩
  rw[ckS,if_pos ht]
  refine⟨fun p=>?_,fun n=>?_,fun x hx hn k hk'=>?_,fun x t hx hsome=>?_⟩
  ·rw[Ql8,if_neg (show ¬ (QdY (es.getD i E0)=true/\(es.getD i E0).c.pg=p) from fun h=>by rw[hc] at h; cases h.1),I.pg]
  ·rw [QeB,I.un]
   unfold undp
   rw[decide_eq_false hk.2.1,JG,Jv]
  ·by_cases hki:k = i
   ·rw[hki]; omega
   ·exact I.no x hx hn k (by omega)
  ·obtain ⟨o1,o2,o3,o4⟩:=other x (by omega)
   rw[o1,o2,o3,o4,QlE W hi x (fun h=>hk.1 h.1) (fun h=>absurd h hk.2.1)]
   exact I.so x t hx hsome
def ovp(lsn tx:Int)(e:E):Bool:=(decide (e.kind=2)&&decide (e.ref=lsn))||(decide (e.tx=tx)&&(decide (e.kind=3)||decide (e.kind=5)))
def ovB(es:List E)(k n:Nat):Bool:=(JZ n).any fun j=>decide (k<j)&&ovp (es.getD k E0).lsn (es.getD k E0).tx (es.getD j E0)
def QHL(es:List E)(n:Nat)(c:Int×Int)(k:Nat):Bool:=decide ((es.getD k E0).kind=1)&&(decide (((es.getD k E0).c.pg,(es.getD k E0).c.sl)=c)&&!ovB es k n)
def QIq(es:List E)(n:Nat)(c:Int×Int):Nat:=(JZ n).countP (QHL es n c)
abbrev Own:=List ((Int×Int)×(Int×Int))
def Qhy(o:Own)(c:Int×Int):Int×Int:=match o with
 | []=>(0,0)
 | (a,x)::r=>if a=c then x else Qhy r c
def QjP(o:Own)(c:Int×Int)(v:Int×Int):Own:=match o with
 | []=>[(c,v)]
 | (a,x)::r=>if a=c then (a,v)::r else (a,x)::QjP r c v
def Quf (o:Own) (c:Int × Int) (v:Int × Int) (hn:(o.map (·.1)).Nodup):((QjP o c v).map (·.1)).Nodup/\∀ y ∈ (QjP o c v).map (·.1),y = c\/y ∈ o.map (·.1):=by
 induction o with
 | nil=>simp[QjP]
 | cons p r ih =>
   obtain⟨a,x⟩:=p
   simp only[JB,JX] at hn
   obtain⟨i1,i2⟩:=ih hn.2
   rw[QjP]
   by_cases h:a=c
   ·rw [if_pos h]
    simp only[JB,JX]
    exact⟨hn,fun y hy=>.inr hy⟩
   ·rw [if_neg h]
    simp only[JB,JX]
    refine⟨⟨fun hm=>?_,i1⟩,fun y hy=>?_⟩
    ·rcases i2 a hm with e | e
     ·exact h e
     ·exact hn.1 e
    ·rcases Jj.1 hy with rfl | hy
     ·exact .inr (Jt)
     ·exact(i2 y hy).imp id fun e=>Jp _ e
def QGv(o:Own)(e:E):Option Own :=
 if e.kind=1 then (if 0<(Qhy o (e.c.pg,e.c.sl)).2/\(Qhy o (e.c.pg,e.c.sl)).1≠e.tx then none
  else some (QjP o (e.c.pg,e.c.sl) (if (Qhy o (e.c.pg,e.c.sl)).1≠e.tx then (e.tx,1) else (e.tx,(Qhy o (e.c.pg,e.c.sl)).2+1))))
 else if e.kind=2 then some (QjP o (e.c.pg,e.c.sl) ((Qhy o (e.c.pg,e.c.sl)).1,(Qhy o (e.c.pg,e.c.sl)).2-1))
 else if e.kind=3\/e.kind=5 then some (o.filter fun p=>!decide (p.2.1=e.tx))
 else some o
def QrM(es:List E):Nat->Option Own
 | 0=>some []
 | n+1=>(QrM es n).bind fun o=>QGv o (es.getD n E0)
structure OwI(es:List E)(n:Nat)(o:Own):Prop where
 nd:(o.map (·.1)).Nodup
 cnt:∀ c,(Qhy o c).2=QIq es n c
 tx:∀ c k,k<n->QHL es n c k=true->(es.getD k E0).tx=(Qhy o c).1
section
theorem umO:prog.underlying 79=some (.map 81 83):=by kernel_rfl
theorem zO:Qm0 prog 83=some (k2 (0,0)):=by kernel_rfl
def kLock:KeyT prog 81 k2:=QCB Tryz.underlying81 Tryz.underlying3 Tryz.underlying3 (by kernel_rfl) (by kernel_rfl) rfl rfl (by kernel_rfl) (by kernel_rfl)
attribute [local go_sem] Ce.d Ch.d E.d Qhr QmP QmM Qlc Qk9 Qmo QdB QrI QrH QrG Nat.not_lt_zero Lg.c
def Qc1(o:Own):List ((Int×Int)×DV):=o.map fun p=>(p.1,k2D p.2)
def Qyu (o:Own) (c:Int × Int):(Qcc (Qc1 o) c).getD (k2D (0,0)) = k2D (Qhy o c):=by
 induction o with
 | nil=>rfl
 | cons p r ih =>
   obtain⟨a,x⟩:=p
   unfold Qc1 at ih |-
   simp only[JB,Qcc,Qhy]
   split
   ·rfl
   ·exact ih
def Qgw (o:Own) (c v:Int × Int):Qen (Qc1 o) c (k2D v) = Qc1 (QjP o c v):=by
 induction o with
 | nil=>rfl
 | cons p r ih =>
   obtain⟨a,x⟩:=p
   unfold Qc1 at ih |-
   simp only[JB,Qen,QjP]
   split
   ·rfl
   ·rw[ih]; rfl
def Qyv(o:Own)(c:Int×Int):QpF (Qc1 o) c=Qc1 (o.filter fun p=>!decide (p.1=c)):=by
 unfold QpF Qc1
 rw[List.filter_map]
 rfl
def Quv(o:Own):(Qah k2 (Qc1 o)).map (·.1)=(o.map (·.1)).map k2:=by
 simp[Qah,Qc1]
def OwB(n:Nat)(o:Own):Prop:=(o.map (·.1)).Nodup/\∀ p∈o,-(n:Int)<=p.2.2/\p.2.2<=n
def Qpp {n:Nat}:∀ {o:Own},(∀ p ∈ o,-(n:Int)<=p.2.2/\p.2.2<=n)->∀ c,-(n:Int)<=(Qhy o c).2/\(Qhy o c).2<=n
 | [],_,c=>⟨by show -(n:Int)<=0; omega,by show(0:Int)<=n; omega⟩
 | (a,x) :: r,h,c=>by
   rw[Qhy]
   split
   ·exact h (a,x) Jt
   ·exact Qpp (fun p hp=>h p (Jp _ hp)) c
def QCX(h:OwB n o)(c:Int×Int): -(n:Int)<=(Qhy o c).2/\(Qhy o c).2<=n:=Qpp h.2 c
def Qo0 (c v:Int × Int) (h1 : -((n + 1:Nat):Int)<=v.2) (h2:v.2<=((n + 1:Nat):Int)):∀ {o:Own},(∀ p ∈ o,-(n:Int)<=p.2.2/\p.2.2<=n)->∀ p ∈ QjP o c v,-((n + 1:Nat):Int)<=p.2.2/\p.2.2<=((n + 1:Nat):Int)
 | [],_,p,hp=>by rw[QjP] at hp; simp at hp; subst hp; exact⟨h1,h2⟩
 | (a,x) :: r,h,p,hp=>by
   rw[QjP] at hp
   split at hp
   ·rcases Jj.1 hp with rfl | hp
    ·exact⟨h1,h2⟩
    ·have:=h p (Jp _ hp); omega
   ·rcases Jj.1 hp with rfl | hp
    ·have:=h _ (Jt (a:=(a,x))); dsimp only at this |-; omega
    ·exact Qo0 c v h1 h2 (fun p hp=>h p (Jp _ hp)) p hp
def QjO(h:OwB n o)(c v:Int×Int)(h1 : -((n+1:Nat):Int)<=v.2)(h2:v.2<=((n+1:Nat):Int)):OwB (n+1) (QjP o c v):=⟨(Quf o c v h.1).1,Qo0 c v h1 h2 h.2⟩
def OwB.sub(h:OwB n o)(q:(Int×Int)×(Int×Int)->Bool):OwB (n+1) (o.filter q):=
 ⟨(List.Sublist.map _ List.filter_sublist).nodup h.1,fun p hp=>by have:=h.2 p (Js.1 hp).1; omega⟩
def OwB.up(h:OwB n o):OwB (n+1) o:=⟨h.1,fun p hp=>by have:=h.2 p hp; omega⟩
def QlG (h:QrM es (i + 1) = none):∀ {n:Nat},i < n->(QrM es n).isSome = false
 | n + 1,hi=>by
   by_cases hin:i=n
   ·subst hin; rw[h]; rfl
   ·have:=QlG h (n:=n) (by omega)
    rw[QrM]
    cases hq:QrM es n
    ·rfl
    ·rw[hq] at this; cases this
def QnG(o:Own)(tx:Int)(left:List (Int×Int)):Own:=o.filter fun p=>decide (p.1∈left)||!decide (p.2.1=tx)
def Qyx(o:Own)(tx:Int):QnG o tx (o.map (·.1))=o:=by
 unfold QnG
 rw[Jl]
 intro p hp
 simp only[Ju,decide_eq_true_eq]
 exact .inl (J8.2 ⟨p,hp,rfl⟩)
def Qyw(o:Own)(tx:Int):QnG o tx []=o.filter fun p=>!decide (p.2.1=tx):=by
 unfold QnG
 congr 1
def Qpr:∀ {o:Own} {k:Int × Int} {d:DV},Qcc (Qc1 o) k = some d->∃ v,d = k2D v/\(k,v) ∈ o
 | (a,x) :: r,k,d,h=>by
   unfold Qc1 at h
   simp only[JB,Qcc] at h
   split at h
   ·rename_i e
    subst e
    exact⟨x,(Kd.inj h).symm,Jt⟩
   ·obtain ⟨v,h1,h2⟩:=Qpr (o:=r) h
    exact⟨v,h1,Jp _ h2⟩
def QCf(hn:(o.map (·.1)).Nodup)(tx:Int)(left:List (Int×Int))(h:Qcc (Qc1 (QnG o tx left)) k=some d):
 ∃ v,d=k2D v/\(v.1=tx->QpF (Qc1 (QnG o tx left)) k=Qc1 (QnG o tx (left.filter fun x=>!decide (x=k))))/\(¬ v.1=tx->QnG o tx left=QnG o tx (left.filter fun x=>!decide (x=k))):=by
 obtain⟨v,h1,h2⟩:=Qpr h
 have hv:(k,v)∈o:=(Js.1 h2).1
 have uni:∀ p∈o,p.1=k->p.2=v:=fun p hp e=>by
  obtain⟨i,hi⟩:=JY.1 hp
  obtain⟨j,hj⟩:=JY.1 hv
  obtain⟨li,mi⟩:=JP.1 hi
  obtain⟨lj,mj⟩:=JP.1 hj
  have:i=j:=(List.getElem_inj (h₀:=by simpa using li) (h₁:=by simpa using lj) hn).1 (by simp only[Jx]; rw[mi,mj]; exact e)
  subst this
  rw[hi] at hj
  rw[Kd.inj hj]
 refine⟨v,h1,fun ht=>?_,fun ht=>?_⟩
 ·rw [Qyv]
  congr 1
  unfold QnG
  rw[J4]
  refine JE fun p hp=>?_
  by_cases hk:p.1=k
  ·have:=uni p hp hk
   simp[hk,this,ht]
  ·simp[hk]
 ·unfold QnG
  refine JE fun p hp=>?_
  by_cases hk:p.1=k
  ·have:=uni p hp hk
   simp[hk,this,ht]
  ·simp[hk]
structure InS(o:Own)(tx:Int)(k:Nat)(cs:List DV) where
 H:Qb
 hk:k<H.length
 hc:Qc H k=some cs
 left:List (Int×Int)
 cur:Option Value
 o':Own
 ho:o'=QnG o tx left
structure StS(x:Lg) where
 i:Nat
 hi:i<=x.es.length
 H:Qb
 h0:0<H.length
 o:Own
 ho:QrM x.es i=some o
 bd:OwB i o
def QGt(x:Lg):Bool:=decide (QzE x=0)&&(decide (x.f=1)&&(QrM x.es x.es.length).isSome)
def Qfz(c:Qfj)(x:Lg)(i b:Nat)(hlt:i<x.es.length)(S:St)(o:Own)(h0:0<S.hp.length)(ho:QrM x.es (i+1)=some o)(bd:OwB (i+1) o)(hn:S.nt=92)
 (ht:∀ q∈[(22,DV.int .i64 ((i+1:Nat):Int)),(21,DV.int .i64 x.es.length),(20,DV.pv (.sl (fz encE x.es))),(3,DV.pv (.lit (.map (some b))))],V.look S.tm q.1=q.2\/q.2=.any) :
 ∃ j:StS x,x.es.length-j.i<x.es.length-i/\WeakG (MapsIn c) S [(b,Qah k2 (Qc1 o))] ⟨92,j.H.length,[(22,.int .i64 j.i),(21,.int .i64 x.es.length),(20,.pv (.sl (fz encE x.es))),(3,.pv (.lit (.map (some b))))],j.H⟩ [(b,Qah k2 (Qc1 j.o))]:=
 ⟨⟨i+1,hlt,S.hp,h0,o,ho,bd⟩,by dsimp only; omega,WeakG.slots hn rfl ht⟩
def QvW(x:Lg)(hx:x.es.length<=9223372036854775807):VCalls prog 12 [.agg x.c] [] (Ret (.bool (QGt x))):=by
 refine QcP (fn:=Tryz.f12) Tryz.func12 rfl (by kernel_rfl) (by simp[Tryz.f12]) (fun c=>?_)
 have hc:=QzI x hx
 have eS:QGt x=(decide (QzE x=0)&&(decide (x.f=1)&&(QrM x.es x.es.length).isSome)):=rfl
 have hck:QzE x=0->lgB x=true:=fun h=>by
  unfold QzE at h
  split at h
  ·assumption
  ·cases h
 generalize QGt x=res at *
 generalize QzE x=ck at *
 unfold Lg.c at hc
 refine VWpG.first (Qa c) ?_
 (unfold Tryz.f12; refine rn trivial ?_)
 refine VWpG.seq ?_
 refine VWpG.first (Qa c) ?_
 refine rn trivial ?_
 refine Qae hc rfl ?_
 by_cases h1:ck=0
 rotate_left
 ·rw [eS,decide_eq_false h1]
  refine rn @h1 ?_
  refine VWpG.cond rfl (fun hZ=>?_) (fun hZ=>?_)
  ·refine VWpG.plain (Qa c) ?_
   (refine rn trivial ?_; try with_reducible exact⟨⟩)
  ·cases hZ
 by_cases h2:x.f=1
 rotate_left
 ·rw [eS,decide_eq_false h2]
  refine rn (Ja @h1 @h2) ?_
  refine VWpG.cond rfl (fun hZ=>?_) (fun hZ=>?_)
  ·refine VWpG.plain (Qa c) ?_
   (refine rn trivial ?_; try with_reducible exact⟨⟩)
  ·cases hZ
 rw[eS,decide_eq_true h1,decide_eq_true h2]
 have hes:x.es.length<=4096:=(QaG (hck h1)).2.2.1
 have hlg:=hck h1
 refine rn (Ja @h1 @h2) ?_
 refine VWpG.cond rfl (fun hZ=>?_) (fun hZ=>?_)
 ·cases hZ
 refine VWpG.plain (Qa c) ?_
 refine rn trivial ?_
 refine VWpG.seq ?_
 refine VWpG.cut1 (Qa c) 0 [] ?_
 refine rn trivial ?_
 refine QP rfl (fun c=>by simp) (Qdt rfl rfl fun b hb=>?_)
 refine rn trivial ?_
 refine VWpG.seq ?_
 refine VWpG.first (Qa c) ?_
 refine rn trivial ?_
 refine VWpG.block ?_
 refine VWpG.loop (fun s:StS x=>⟨92,s.H.length,[(22,.int .i64 s.i),(21,.int .i64 x.es.length),(20,.pv (.sl (fz encE x.es))),(3,.pv (.lit (.map (some b))))],s.H⟩) (fun s=>[(b,Qah k2 (Qc1 s.o))]) (fun s=>x.es.length-s.i) ⟨0,Jc _,([⟨26,true,[.int .i64 1,.pv (.sl (fz encE x.es)),.int .i64 x.d]⟩]:Qb),Nat.succ_pos _,[],rfl,List.nodup_nil,fun p hp=>by cases hp⟩ ?_ ?_
 ·refine WeakG.slots rfl rfl ?_
  intro p hp
  simp only[Jj,Jk,or_false] at hp
  rcases hp with rfl | rfl | rfl | rfl<;>exact .inl rfl
 rintro⟨i,hi,H,h0,o,ho,bd⟩
 dsimp only
 refine VWpG.first (Qa c) ?_
 refine rn trivial ?_
 refine VWpG.seq ?_
 by_cases hlt:i<x.es.length
 rotate_left
 ·have hd:decide ((i:Int) < x.es.length) = false:=by simp; omega
  obtain rfl:i=x.es.length:=by omega
  refine VWpG.cond (t:=false) (by rw[<- hd]; rfl) (fun h=>by cases h) (fun _=>?_)
  refine VWpG.plain (Qa c) ?_
  refine rn trivial ?_
  refine VWpG.plain (Qa c) ?_
  refine rn trivial ?_
  rw[ho]; rfl
 have hg:=Qn4 x.es i hlt
 have hd:decide ((i:Int)<x.es.length)=true:=by simp; omega
 refine VWpG.cond (t:=true) (by rw[<- hd]; rfl) (fun _=>?_) (fun h=>by cases h)
 refine VWpG.plain (Qa c) ?_
 refine rn trivial ?_
 refine VWpG.seq ?_
 refine VWpG.block ?_
 have hstep:QrM x.es (i+1)=QGv o (x.es.getD i E0):=by rw[QrM,ho]; rfl
 have hnone:QGv o (x.es.getD i E0)=none->(QrM x.es x.es.length).isSome=false:=fun h=>QlG (hstep.trans h) hlt
 generalize x.es.getD i E0=e at *
 have hgb:=QCX bd (e.c.pg,e.c.sl)
 refine VWpG.first (Qa c) ?_
 refine rn @hg ?_
 refine VWpG.first (Qa c) ?_
 refine rn trivial ?_
 refine VWpG.seq ?_
 refine VWpG.cut1 (Qa c) 2 [] ?_
 refine rn trivial ?_
 refine QP rfl (fun c=>by simp) (Qa9 (zv:=k2 (0,0)) (z:=k2D (0,0)) (L:=Qc1 o) (k:=(e.c.pg,e.c.sl)) rfl rfl umO kLock (Q7 zO) (fun w β hp=>Qpi w β hp _) rfl (Jh.2 rfl) (fun w β hp v h=>QqL h) ?_)
 rw[Qyu]
 have hm0:∀ p∈([]:MapsD),p.1≠b:=fun p hp=>by cases hp
 have hS:QGv o e=if e.kind=1 then (if 0<(Qhy o (e.c.pg,e.c.sl)).2/\(Qhy o (e.c.pg,e.c.sl)).1≠e.tx then none
  else some (QjP o (e.c.pg,e.c.sl) (if (Qhy o (e.c.pg,e.c.sl)).1≠e.tx then (e.tx,1) else (e.tx,(Qhy o (e.c.pg,e.c.sl)).2+1))))
  else if e.kind=2 then some (QjP o (e.c.pg,e.c.sl) ((Qhy o (e.c.pg,e.c.sl)).1,(Qhy o (e.c.pg,e.c.sl)).2-1))
  else if e.kind=3\/e.kind=5 then some (o.filter fun p=>!decide (p.2.1=e.tx))
  else some o:=rfl
 obtain⟨q,hq⟩:∃ q,Qhy o (e.c.pg,e.c.sl)=q:=⟨_,rfl⟩
 rw[hq] at hgb hS |-
 obtain⟨t,p⟩:=q
 dsimp only at hgb hS
 unfold k2D
 refine rn trivial ?_
 refine VWpG.first (Qa c) ?_
 refine rn trivial ?_
 refine VWpG.block ?_
 by_cases hk1:e.kind=1
 ·rw [if_pos hk1] at hS
  refine VWpG.first (Qa c) ?_
  refine rn @hk1 ?_
  refine VWpG.cond rfl (fun hZ=>?_) (fun hZ=>?_)
  rotate_left
  ·cases hZ
  by_cases hp0:0<p
  ·by_cases htt:t = e.tx
   ·rw [if_neg (fun h=>h.2 htt),if_neg (fun h=>h htt)] at hS
    have bd':=QjO bd (e.c.pg,e.c.sl) (e.tx,p+1) (by dsimp only; omega) (by dsimp only; omega)
    rw[<- hstep] at hS
    refine VWpG.first (Qa c) ?_
    refine rn (Ja @hp0 @htt) ?_
    refine VWpG.seq ?_
    refine VWpG.plain (Qa c) ?_
    refine rn @htt ?_
    refine VWpG.first (Qa c) ?_
    refine rn trivial ?_
    refine VWpG.cut1 (Qa c) 3 [] ?_
    refine rn trivial ?_
    refine QP rfl (fun c=>by simp) (QaO (enc:=k2) (L:=Qc1 o) (k:=(e.c.pg,e.c.sl)) rfl rfl umO kLock rfl (Jh.2 rfl) (fun w β hp v h=>QqL h) ?_)
    rw[QqI hm0]
    refine rn trivial ?_
    rw[show Qen (Qc1 o) (e.c.pg,e.c.sl) (.agg [.int .i64 (e.tx),.int .i64 (p+1)])=Qc1 (QjP o (e.c.pg,e.c.sl) (e.tx,p+1)) from Qgw o _ (e.tx,p+1)]
    refine VWpG.plain (Qa c) ?_
    refine rn trivial ?_
    refine Qfz c x i b hlt _ _ ?_ hS bd' rfl ?_
    ·simp
    ·intro q hq
     simp only[Jj,Jk,or_false] at hq
     rcases hq with rfl | rfl | rfl | rfl<;>exact .inl rfl
   ·rw [if_pos ⟨hp0,htt⟩] at hS
    refine VWpG.first (Qa c) ?_
    refine rn (Ja @hp0 @htt) ?_
    rw[hnone hS]
  ·by_cases htt:t = e.tx
   ·rw [if_neg (fun h=>h.2 htt),if_neg (fun h=>h htt)] at hS
    have bd':=QjO bd (e.c.pg,e.c.sl) (e.tx,p+1) (by dsimp only; omega) (by dsimp only; omega)
    rw[<- hstep] at hS
    refine VWpG.first (Qa c) ?_
    refine rn (Ja @hp0 @htt) ?_
    refine VWpG.seq ?_
    refine VWpG.plain (Qa c) ?_
    refine rn @htt ?_
    refine VWpG.first (Qa c) ?_
    refine rn trivial ?_
    refine VWpG.cut1 (Qa c) 3 [] ?_
    refine rn trivial ?_
    refine QP rfl (fun c=>by simp) (QaO (enc:=k2) (L:=Qc1 o) (k:=(e.c.pg,e.c.sl)) rfl rfl umO kLock rfl (Jh.2 rfl) (fun w β hp v h=>QqL h) ?_)
    rw[QqI hm0]
    refine rn trivial ?_
    rw[show Qen (Qc1 o) (e.c.pg,e.c.sl) (.agg [.int .i64 (e.tx),.int .i64 (p+1)])=Qc1 (QjP o (e.c.pg,e.c.sl) (e.tx,p+1)) from Qgw o _ (e.tx,p+1)]
    refine VWpG.plain (Qa c) ?_
    refine rn trivial ?_
    refine Qfz c x i b hlt _ _ ?_ hS bd' rfl ?_
    ·simp
    ·intro q hq
     simp only[Jj,Jk,or_false] at hq
     rcases hq with rfl | rfl | rfl | rfl<;>exact .inl rfl
   ·rw [if_neg (fun h=>hp0 h.1),if_pos htt] at hS
    have bd':=QjO bd (e.c.pg,e.c.sl) (e.tx,1) (by dsimp only; omega) (by dsimp only; omega)
    rw[<- hstep] at hS
    refine VWpG.first (Qa c) ?_
    refine rn (Ja @hp0 @htt) ?_
    refine VWpG.seq ?_
    refine VWpG.plain (Qa c) ?_
    refine rn @htt ?_
    refine VWpG.first (Qa c) ?_
    refine rn trivial ?_
    refine VWpG.cut1 (Qa c) 3 [] ?_
    refine rn trivial ?_
    refine QP rfl (fun c=>by simp) (QaO (enc:=k2) (L:=Qc1 o) (k:=(e.c.pg,e.c.sl)) rfl rfl umO kLock rfl (Jh.2 rfl) (fun w β hp v h=>QqL h) ?_)
    rw[QqI hm0]
    refine rn trivial ?_
    rw[show Qen (Qc1 o) (e.c.pg,e.c.sl) (.agg [.int .i64 (e.tx),.int .i64 (1)])=Qc1 (QjP o (e.c.pg,e.c.sl) (e.tx,1)) from Qgw o _ (e.tx,1)]
    refine VWpG.plain (Qa c) ?_
    refine rn trivial ?_
    refine Qfz c x i b hlt _ _ ?_ hS bd' rfl ?_
    ·simp
    ·intro q hq
     simp only[Jj,Jk,or_false] at hq
     rcases hq with rfl | rfl | rfl | rfl<;>exact .inl rfl
 rw[if_neg hk1] at hS
 have nk1:decide (e.kind=1)=false:=decide_eq_false hk1
 refine VWpG.first (Qa c) ?_
 refine rn @hk1 ?_
 refine VWpG.cond rfl (fun hZ=>?_) (fun hZ=>?_)
 ·cases hZ
 by_cases hk2:e.kind=2
 ·rw [if_pos hk2] at hS
  have bd':=QjO bd (e.c.pg,e.c.sl) (t,p-1) (by dsimp only; omega) (by dsimp only; omega)
  rw[<- hstep] at hS
  refine VWpG.first (Qa c) ?_
  refine rn @hk2 ?_
  refine VWpG.cond rfl (fun hZ=>?_) (fun hZ=>?_)
  rotate_left
  ·cases hZ
  refine VWpG.first (Qa c) ?_
  refine rn trivial ?_
  refine VWpG.cut1 (Qa c) 3 [] ?_
  refine rn trivial ?_
  refine QP rfl (fun c=>by simp) (QaO (enc:=k2) (L:=Qc1 o) (k:=(e.c.pg,e.c.sl)) rfl rfl umO kLock rfl (Jh.2 rfl) (fun w β hp v h=>QqL h) ?_)
  rw[QqI hm0]
  refine rn trivial ?_
  rw[show Qen (Qc1 o) (e.c.pg,e.c.sl) (.agg [.int .i64 (t),.int .i64 (p-1)])=Qc1 (QjP o (e.c.pg,e.c.sl) (t,p-1)) from Qgw o _ (t,p-1)]
  refine VWpG.plain (Qa c) ?_
  refine rn trivial ?_
  refine Qfz c x i b hlt _ _ ?_ hS bd' rfl ?_
  ·simp
  ·intro q hq
   simp only[Jj,Jk,or_false] at hq
   rcases hq with rfl | rfl | rfl | rfl<;>exact .inl rfl
 rw[if_neg hk2] at hS
 refine VWpG.first (Qa c) ?_
 refine rn @hk2 ?_
 refine VWpG.cond rfl (fun hZ=>?_) (fun hZ=>?_)
 ·cases hZ
 by_cases h35:e.kind=3\/e.kind=5
 rotate_left
 ·rw [if_neg h35] at hS
  have hk3:¬ e.kind=3:=fun h=>h35 (.inl h)
  have hk5:¬ e.kind=5:=fun h=>h35 (.inr h)
  have bd':=bd.up
  rw[<- hstep] at hS
  refine VWpG.first (Qa c) ?_
  refine rn (Ja @hk3 @hk5) ?_
  refine VWpG.cond rfl (fun hZ=>?_) (fun hZ=>?_)
  ·cases hZ
  refine VWpG.plain (Qa c) ?_
  refine rn trivial ?_
  refine VWpG.plain (Qa c) ?_
  refine rn trivial ?_
  refine Qfz c x i b hlt _ _ ?_ hS bd' rfl ?_
  ·simp
  ·intro q hq
   simp only[Jj,Jk,or_false] at hq
   rcases hq with rfl | rfl | rfl | rfl<;>exact .inl rfl
 rw[if_pos h35] at hS
 have bd':=bd.sub (fun p=>!decide (p.2.1=e.tx))
 rw[<- hstep] at hS
 refine VWpG.seq ?_
 refine VWpG.first (Qa c) ?_
 rcases h35 with hkk | hkk
 rotate_left
 refine rn @hkk ?_
 refine VWpG.cond rfl (fun hZ=>by cases hZ) (fun hZ=>?_)
 refine VWpG.plain (Qa c) ?_
 refine rn @hkk ?_
 refine VWpG.cond rfl (fun hZ=>?_) (fun hZ=>by cases hZ)
 rotate_left
 refine rn @hkk ?_
 refine VWpG.cond rfl (fun hZ=>?_) (fun hZ=>by cases hZ)
 refine VWpG.plain (Qa c) ?_
 refine rn trivial ?_
 refine VWpG.cond rfl (fun hZ=>?_) (fun hZ=>by cases hZ)
 all_goals
  refine VWpG.its ?_
  refine VWpG.seq ?_
  refine VWpG.cut1 (Qbu c) 1 [] ?_
  refine rn trivial ?_
  refine QP rfl (fun c=>by simp) (Qq5 rfl rfl umO rfl (Jh.2 rfl) fun r=>?_)
  rw[show(Qah k2 (Qc1 o)).map (·.1)=(o.map (·.1)).map k2 from Quv o]
  refine rn trivial ?_
  refine VWpG.block ?_
  have fin:∀ (left:List (Int×Int)) (S:St) (o2:Own) (cur:Option Value) (n:Nat),o2=QnG o e.tx left->left.length<n->H.length<S.hp.length->Qc S.hp H.length=some e.d->S.nt=92->(∀ q∈[(78,DV.pv (.lit (.pointer (some ⟨r,0,none⟩)))),(22,.int .i64 i),(21,.int .i64 x.es.length),(20,.pv (.sl (fz encE x.es))),(5,.ptr H.length 0),(3,.pv (.lit (.map (some b))))],V.look S.tm q.1=q.2\/q.2=.any)->∃ j:InS o e.tx H.length e.d,j.left.length<n/\WeakG (QhY c) S ([(b,Qah k2 (Qc1 o2))],[⟨r,b,left.map k2,cur⟩]) ⟨92,j.H.length,[(78,.pv (.lit (.pointer (some ⟨r,0,none⟩)))),(22,.int .i64 i),(21,.int .i64 x.es.length),(20,.pv (.sl (fz encE x.es))),(5,.ptr H.length 0),(3,.pv (.lit (.map (some b))))],j.H⟩ ([(b,Qah k2 (Qc1 j.o'))],[⟨r,b,j.left.map k2,j.cur⟩]):=fun left S o2 cur n a1 a2 a3 a4 a5 a6=>⟨⟨S.hp,a3,a4,left,cur,o2,a1⟩,a2,WeakG.slots a5 rfl a6⟩
  refine Exists.elim (fin (o.map (·.1)) _ o none (o.map (·.1)).length.succ (Qyx o e.tx).symm (J9 _) ?_ ?_ ?_ ?_) fun j0 hj=>VWpG.loop (fun s:InS o e.tx H.length e.d=>⟨92,s.H.length,[(78,.pv (.lit (.pointer (some ⟨r,0,none⟩)))),(22,.int .i64 i),(21,.int .i64 x.es.length),(20,.pv (.sl (fz encE x.es))),(5,.ptr H.length 0),(3,.pv (.lit (.map (some b))))],s.H⟩) (fun s=>([(b,Qah k2 (Qc1 s.o'))],[⟨r,b,s.left.map k2,s.cur⟩])) (fun s=>s.left.length) j0 hj.2 ?_
  ·simp
  ·rw [Je,Je,Qkn]
   simp[E.d,hkk]
   rfl
  ·rfl
  ·intro p hp
   simp only[Jj,Jk,or_false] at hp
   rcases hp with rfl | rfl | rfl | rfl | rfl | rfl<;>exact .inl rfl
  rintro⟨H',hk',hc',left,cur,o',ho'⟩
  dsimp only
  unfold E.d at hc'
  refine VWpG.seq ?_
  refine VWpG.cut1 (Qbu c) 0 [] ?_
  refine rn trivial ?_
  refine QP rfl (fun c=>by simp) (QvQ (enc:=k2) (L:=Qc1 o') (fun _ _=>kLock.inj _ _) rfl rfl rfl (Jh.2 rfl) (fun hl=>?_) (fun k d hkl hkd=>?_))
  ·subst hl
   subst ho'
   refine rn trivial ?_
   refine VWpG.seq ?_
   refine VWpG.cond rfl (fun hZ=>?_) (fun hZ=>?_)
   ·cases hZ
   refine VWpG.plain (Qbu c) ?_
   refine rn trivial ?_
   rw[Qyw]
   refine VWpG.plain (Qa c) ?_
   refine rn trivial ?_
   refine Qfz c x i b hlt _ _ ?_ hS bd' rfl ?_
   ·simp; try omega
   ·intro q hq
    simp only[Jj,Jk,or_false] at hq
    rcases hq with rfl | rfl | rfl | rfl<;>exact .inl rfl
  subst ho'
  obtain⟨v,rfl,hdel,hkeep⟩:=QCf bd.1 e.tx left hkd
  have hlt':(left.filter fun x=>!decide (x=k)).length<left.length:=List.length_filter_lt_length_iff_exists.2 ⟨k,hkl,by simp⟩
  refine rn trivial ?_
  refine VWpG.seq ?_
  refine VWpG.cond rfl (fun hZ=>?_) (fun hZ=>?_)
  rotate_left
  ·cases hZ
  refine VWpG.plain (Qbu c) ?_
  refine rn trivial ?_
  refine VWpG.block ?_
  refine VWpG.seq ?_
  refine VWpG.cut1 (Qbu c) 0 [] ?_
  refine rn trivial ?_
  refine QP rfl (fun c=>by simp) (Qq6 (enc:=k2) (kD:=k2D) (L:=Qc1 (QnG o e.tx left)) (fun _ _=>kLock.inj _ _) Qpi rfl rfl rfl (Jh.2 rfl) hkd ?_)
  unfold k2D
  refine rn (Ja @hc' @hk') ?_
  refine VWpG.seq ?_
  refine VWpG.plain (Qbu c) ?_
  refine rn (Ja @hc' @hk') ?_
  by_cases hv:v.1=e.tx
  rotate_left
  ·(refine rn @hv ?_; try with_reducible exact ⟨⟩)
   refine VWpG.cond rfl (fun hZ=>?_) (fun hZ=>?_)
   ·cases hZ
   refine VWpG.plain (Qbu c) ?_
   refine rn trivial ?_
   refine fin _ _ _ _ _ (hkeep hv) hlt' ?_ ?_ rfl ?_
   ·simp; omega
   ·rw[Je,Qs hk']; exact hc'
   ·intro q hq
    simp only[Jj,Jk,or_false] at hq
    rcases hq with rfl | rfl | rfl | rfl | rfl | rfl<;>exact .inl rfl
  refine rn @hv ?_
  refine VWpG.cond rfl (fun hZ=>?_) (fun hZ=>?_)
  rotate_left
  ·cases hZ
  refine VWpG.cut1 (Qbu c) 2 [] ?_
  refine rn trivial ?_
  refine QP rfl (fun c=>by simp) (Qzw (enc:=k2) (L:=Qc1 (QnG o e.tx left)) (lk:=left.filter fun x=>!decide (x=k)) rfl rfl rfl rfl rfl umO kLock rfl (Jh.2 rfl) (fun w β hp v h=>QqL h) (by simp) ?_)
  rw[QqI hm0,hdel hv]
  refine rn trivial ?_
  refine fin _ _ _ _ _ rfl hlt' ?_ ?_ rfl ?_
  ·simp; omega
  ·rw[Je,Qs hk']; exact hc'
  ·intro q hq
   simp only[Jj,Jk,or_false] at hq
   rcases hq with rfl | rfl | rfl | rfl | rfl | rfl<;>exact .inl rfl
end
section
attribute [local go_sem] Ce.d Ch.d E.d Lg.c Rg.d QV Qao Qhr QmP QmM Qlc Qk9 Qmo
def QHC(tx ptx ppg:Int)(b a:List UInt8):E:=⟨0,1,tx,ptx,ppg,0,⟨0,0,⟨!(b==[]),b⟩,⟨true,a⟩⟩,[]⟩
def Qkz(tx ptx ppg:Int)(b a:List UInt8)(hb:b.length<=1000):VCalls prog 11 [.int .i64 tx,.int .i64 ptx,.int .i64 ppg,.pv (.str b),.pv (.str a)] [] (Ret (.agg (QHC tx ptx ppg b a).d)):=by
 refine dd Tryz.func11 ?_
 (unfold Tryz.f11; refine rn trivial ?_)
 rfl
def QAy(n:Nat):List E:=[⟨if 0<n then 1 else 0,1,1,0,0,0,⟨0,0,⟨false,[]⟩,⟨true,[97]⟩⟩,[]⟩,⟨if 1<n then 2 else 0,3,1,1,0,0,Ch0,[]⟩,⟨if 2<n then 3 else 0,1,2,0,1,0,⟨0,0,⟨true,[97]⟩,⟨true,[98]⟩⟩,[]⟩]
def Lg22:Lg:=⟨1,QAy 3,0⟩
def QED(tx:Int)(h:tx=3\/tx=2):Qtd Lg22 0 0 tx 3=((⟨true,if tx=3 then [97] else [98]⟩,if tx=3 then 1 else 3),0):=by
 rcases h with rfl | rfl<;>rfl
def QGR:QGt Lg22=true:=by decide
def QIz(n:Nat)(h:n<3):(cells encE (QAy n)).set (n*13) (.pv (.lit (.int .i64 (n+1))))=cells encE (QAy (n+1)):=by
 rcases(show n=0\/n=1\/n=2 by omega) with rfl | rfl | rfl<;>rfl
def QmJ:VCalls prog 5 [] [] (Ret (.bool true)):=by
 refine dd Tryz.func5 ?_
 have w1:=Qkz 1 0 0 [] [97] (by decide)
 have w2:=Qkz 2 0 1 [97] [98] (by decide)
 unfold QHC at w1 w2
 dsimp only[E.d] at w1 w2
 (unfold Tryz.f5; refine rn trivial ?_)
 refine rn F ?_
 repeat' (first
  | with_reducible exact⟨⟩
  | refine vp F (w1) ?_
  | refine vp F (w2) ?_)
 refine Qj (fun s:To 3=>⟨53,0,[(2,.int .i64 s.i),(1,.ptr 1 0)],[⟨52,true,cells encE (QAy s.i)⟩,⟨26,true,[.int .i64 1,.own 0 13 0 3,.int .i64 0]⟩]⟩) (fun s=>3-s.i) ⟨0,Jc _⟩ (gc [0,1]) ?_
 rintro⟨i,hi⟩
 dsimp only
 have hcl:(cells encE (QAy i)).length=39:=rfl
 have hle:(QAy i).length=3:=rfl
 by_cases hc:i<3
 ·have hc':(i:Int) < 3:=by omega
  have hset:=QIz i hc
  have h1:i*13<39:=by omega
  have F:=(Ja @hc' (Ja @hcl (Ja @hle (Ja @h1 @hset))))
  refine rn F ?_
  exact⟨⟨i+1,hc⟩,by dsimp only; omega,(gc [0,1])⟩
 obtain rfl:i=3:=by omega
 have s1:=Qoh Lg22 (by decide) 0 0 3 3
 have s2:=Qoh Lg22 (by decide) 0 0 2 3
 have s3:=QvW Lg22 (by decide)
 rw[QGR] at s3
 rw[QED 3 (.inl rfl)] at s1
 rw[QED 2 (.inr rfl)] at s2
 have hd:Lg22.c=[.int .i64 1,.pv (.sl (fz encE (QAy 3))),.int .i64 0]:=rfl
 rw[hd] at s1 s2 s3
 dsimp only[Ce.d] at s1 s2
 generalize QAy 3=es at *
 have F:=(Ja @hcl @hle)
 refine rn F ?_
 repeat' (first
  | with_reducible exact⟨⟩
  | refine vl F (s1) ?_
  | refine vl F (s2) ?_
  | refine vl F (s3) ?_)
end
section
attribute [local go_sem] cb cc Lg.c Ce.d QV Qao
def Qoe(hv:lgB x=true)(hf:x.f=1)(hk:k<=x.es.length):QD6 x 4 k=(Qej x.es (Qby x.es k) 4 k,0):=by
 unfold QD6
 have hw:QbS x=true:=by unfold QbS; rw[hv,hf]; rfl
 have hu:QbC x k=true:=by unfold QbC; simp; omega
 rw[if_neg (by rw[hw]; decide),if_neg (by rw[hu]; simp)]
 rfl
def Qkd(r:Row)(s:Nat)(h:s<16):((encYr.enc r).drop (s*2)).take 2=[.lit (.bool (r s).set),.str (r s).data]:=by
 have:s=0\/s=1\/s=2\/s=3\/s=4\/s=5\/s=6\/s=7\/s=8\/s=9\/s=10\/s=11\/s=12\/s=13\/s=14\/s=15:=by omega
 rcases this with h | h | h | h | h | h | h | h | h | h | h | h | h | h | h | h<;>subst h<;>rfl
def Qny(es:List E)(com:Int->Bool)(n i:Nat)(hp:p<n)(s:Nat):(Qej es com n i).getD p Qgf s=Qky es com (p:Nat) (s:Nat) i:=by
 unfold Qej
 rw[Jb,JQ,List.getElem?_range hp]
 rfl
def QyO(l:List UInt8)(hl:l.length<=9223372036854775807)(b:Int)(hb:0<=b/\b<=255):VCalls prog 3 [.pv (.sl (fz Qfl l)),.int .u8 b] [] (Ret (.bool true)):=by
 refine dd Tryz.func3 ?_
 have c0:=QmJ
 (unfold Tryz.f3; refine rn trivial ?_)
 refine rn F ?_
 repeat' (first
  | with_reducible exact⟨⟩
  | refine vp F (c0) ?_)
 refine QsG (most:=600) (by omega) (by omega) hl fun c=>?_
 refine rn trivial ?_
 refine QaP (k:=0) (c:=c) (Qma c 50 (by omega)) rfl rfl ?_
 rintro _ c1 ⟨k,rfl,hk,hK,-⟩
 have hxl:k.lg.es.length<=4096:=hk.1
 have hv:=hK.lg
 have hf:=hK.f
 have hlog:=hK.log
 clear hK
 generalize hkx:k.lg=x at *
 have F:=@hkx
 refine rn F ?_
 repeat' (first
  | with_reducible exact⟨⟩
  | (refine sB F ?_ ?_<;>intro hZ))
 have hpos:0<x.es.length:=by omega
 obtain⟨j,hj,hjl⟩:∃ j:Nat,b.tmod x.es.length=j/\j<x.es.length:=by
  have h1:=Ke (a:=b) (b:=(x.es.length:Int)) hb.1
  have h2:=J5 b (b:=(x.es.length:Int)) (by omega)
  exact⟨(b.tmod x.es.length).toNat,by omega,by omega⟩
 have q1:=Qkl x (by omega) 4 j
 have q2:=Qkl x (by omega) 4 (j+1:Nat)
 rw[Qoe hv hf (by omega)] at q1 q2
 have hj1:((j+1:Nat):Int)=(j:Int)+1:=by omega
 rw[hj1] at q2
 have hg:=Qmm x.es j hjl
 have hrl:=QcS x.es (Qby x.es j) 4 j
 have hrl2:=QcS x.es (Qby x.es (j+1)) 4 (j+1)
 have F:=(Ja @hj (Ja @hg (Ja @hrl @hrl2)))
 refine rn F ?_
 repeat' (first
  | with_reducible exact⟨⟩
  | refine vp F (q1) ?_
  | refine vp F (q2) ?_)
 have hlaw:=fun p s=>Qyz hv hlog hjl (p:=p) (s:=s)
 generalize hA:Qej x.es (Qby x.es j) 4 j=A at *
 generalize hB:Qej x.es (Qby x.es (j+1)) 4 (j+1)=B at *
 generalize x.es.getD j E0=e at *
 refine Qj (fun s:To 4=>⟨127,0,[(12,.int .i64 s.i),(11,.ptr 1 0),(9,.pv (.sl (fz encYr B))),(7,.pv (.sl (fz encYr A))),(6,.int .i64 j),(5,.ptr 0 0)],[⟨26,true,x.c⟩,⟨52,true,e.d⟩]⟩) (fun s=>4-s.i) ⟨0,Jc _⟩ (gc [1,2]) ?_
 rintro⟨p,hp⟩
 dsimp only
 by_cases hpc:p<4
 rotate_left
 ·have hpc':¬ (p:Int) < 4:=by omega
  have F:=@hpc'
  (refine rn F ?_; try with_reducible exact⟨⟩)
 have hpc':(p:Int)<4:=by omega
 have F:=@hpc'
 refine rn F ?_
 refine Qj (fun s:To 16=>⟨127,0,[(13,.int .i64 s.i),(12,.int .i64 p),(11,.ptr 1 0),(9,.pv (.sl (fz encYr B))),(7,.pv (.sl (fz encYr A))),(6,.int .i64 j),(5,.ptr 0 0)],[⟨26,true,x.c⟩,⟨52,true,e.d⟩]⟩) (fun s=>16-s.i) ⟨0,Jc _⟩ (gc [0,1]) ?_
 rintro⟨s,hs⟩
 dsimp only
 by_cases hsc:s<16
 rotate_left
 ·have hsc':¬ (s:Int) < 16:=by omega
  have F:=@hsc'
  refine rn F ?_
  exact⟨⟨p+1,by omega⟩,by dsimp only; omega,(gc [0,1])⟩
 have hsc':(s:Int)<16:=by omega
 have hgA:(fz encYr A)[p]?=some (encYr.enc (A.getD p Qgf)):=Qb5 encYr A Qgf p (by omega)
 have hgB:(fz encYr B)[p]?=some (encYr.enc (B.getD p Qgf)):=Qb5 encYr B Qgf p (by omega)
 have hpA:(p:Int)<A.length:=by omega
 have hpB:(p:Int)<B.length:=by omega
 have hlA:(encYr.enc (A.getD p Qgf)).length=32:=encYr.hlen _
 have hlB:(encYr.enc (B.getD p Qgf)).length=32:=encYr.hlen _
 have hdA:=Qkd (A.getD p Qgf) s hsc
 have hdB:=Qkd (B.getD p Qgf) s hsc
 have hrA:=Qny x.es (Qby x.es j) 4 j hpc s
 have hrB:=Qny x.es (Qby x.es (j+1)) 4 (j+1) hpc s
 rw[hA] at hrA
 rw[hB] at hrB
 have hl2:=hlaw p s
 rw[<- hrA,<- hrB] at hl2
 have htl:(x.es.take j).length=j:=by rw[Ji]; omega
 have hmn:min j x.es.length=j:=by omega
 have h32:(2<=32-s*2)=True:=eq_true (by omega)
 generalize hYA:encYr.enc (A.getD p Qgf)=YA at *
 generalize hYB:encYr.enc (B.getD p Qgf)=YB at *
 generalize A.getD p Qgf s=ca at *
 generalize B.getD p Qgf s=cb2 at *
 have F:=(Ja @hsc' (Ja @hgA (Ja @hgB (Ja @hpA (Ja @hpB (Ja @hlA (Ja @hlB (Ja @h32 (Ja @hdA (Ja @hdB (Ja @htl @hmn)))))))))))
 refine rn F ?_
 repeat' (first
  | with_reducible exact⟨⟩
  | (refine sB F ?_ ?_<;>intro hZ)
  | (refine Qd (id:=18) [0,1,2,3,4,5,6,7,8,9,10,11,12] [] (by kernel_rfl) (by kernel_rfl) ?_; refine rn F ?_))
 ·exact⟨⟨s+1,by omega⟩,by dsimp only; omega,(gc [0,1])⟩
 rename_i hZ
 have hne:ca≠cb2:=fun h=>by subst h; simp_all
 obtain⟨hk3,hits⟩:=hl2 hne
 refine Qj (fun r:To j=>⟨127,0,[(93,.int .i64 r.i),(92,.int .i64 j),(91,.pv (.sl (fz encE (x.es.take j)))),(14,.bool (QwH x.es e.tx p s r.i)),(13,.int .i64 s),(12,.int .i64 p),(11,.ptr 1 0),(9,.pv (.sl (fz encYr B))),(7,.pv (.sl (fz encYr A))),(6,.int .i64 j),(5,.ptr 0 0)],[⟨26,true,x.c⟩,⟨52,true,e.d⟩]⟩) (fun r=>j-r.i) ⟨0,Jc _⟩ (gc [0,1]) ?_
 rintro⟨i,hi⟩
 dsimp only
 by_cases hic:i<j
 rotate_left
 ·have hic':¬ (i:Int) < j:=by omega
  obtain rfl:i=j:=by omega
  rw[hits]
  have F:=(Ja @hic' @hk3)
  refine rn F ?_
  exact⟨⟨s+1,by omega⟩,by dsimp only; omega,(gc [0,1])⟩
 have hic':(i:Int)<j:=by omega
 have hgi:=Qmm (x.es.take j) i (by omega)
 have hge:(x.es.take j).getD i E0=x.es.getD i E0:=by rw[Jb,JS hic,<- Jb]
 rw[hge] at hgi
 have hsu:QwH x.es e.tx p s (i+1)=(QwH x.es e.tx p s i||(decide ((x.es.getD i E0).tx=e.tx)&&(decide ((x.es.getD i E0).c.pg=p)&&decide ((x.es.getD i E0).c.sl=s)))):=QbF _ _ _
 generalize QwH x.es e.tx p s i=ib at *
 generalize x.es.getD i E0=y at *
 cases ib
 all_goals
  have F:=(Ja @hic' (Ja @hgi @htl))
  refine rn F ?_
  repeat' (first
   | with_reducible exact⟨⟩
   | (refine sG F ?_ ?_<;>intro hZ))
 all_goals
  refine⟨⟨i+1,by omega⟩,by dsimp only; omega,?_⟩
  dsimp only
  first
   | (rw[show QwH x.es e.tx p s (i+1)=true by rw[hsu]; simp[*]]; exact(gc [0,1]))
   | (rw[show QwH x.es e.tx p s (i+1)=false by rw[hsu]; simp[*]]; exact(gc [0,1]))
   | (rw[show QwH x.es e.tx p s (i+1)=decide (y.c.sl=s) by rw[hsu]; simp[*]]; exact(gc [0,1]))
end
section
attribute [local go_sem] cb cc Lg.c Ce.d QV Qao
def QFA(l:List Row)(i:Nat)(h:i<l.length):∃ r:Row,(fz encYr l)[i]?=some [.lit (.bool (r 0).set),.str (r 0).data,.lit (.bool (r 1).set),.str (r 1).data,.lit (.bool (r 2).set),.str (r 2).data,.lit (.bool (r 3).set),.str (r 3).data,.lit (.bool (r 4).set),.str (r 4).data,.lit (.bool (r 5).set),.str (r 5).data,.lit (.bool (r 6).set),.str (r 6).data,.lit (.bool (r 7).set),.str (r 7).data,.lit (.bool (r 8).set),.str (r 8).data,.lit (.bool (r 9).set),.str (r 9).data,.lit (.bool (r 10).set),.str (r 10).data,.lit (.bool (r 11).set),.str (r 11).data,.lit (.bool (r 12).set),.str (r 12).data,.lit (.bool (r 13).set),.str (r 13).data,.lit (.bool (r 14).set),.str (r 14).data,.lit (.bool (r 15).set),.str (r 15).data]:=⟨l.getD i Qgf,by
 unfold fz
 rw[JQ,JR h,Qf l i h]
 rfl⟩
def Qxh(l:List Row)(hl:l.length<=1000000):VCalls prog 18 [.pv (.sl (fz encYr l)),.pv (.sl (fz encYr l))] [] (Ret (.bool true)):=by
 refine dd Tryz.func18 ?_
 (unfold Tryz.f18; refine rn trivial ?_)
 refine Qj (fun s:To l.length=>⟨26,0,[(5,.int .i64 s.i),(1,.pv (.sl (fz encYr l))),(0,.pv (.sl (fz encYr l)))],[]⟩) (fun s=>l.length-s.i) ⟨0,Jc _⟩ (gc []) ?_
 rintro⟨i,hi⟩
 dsimp only
 by_cases hc:i<l.length
 ·have hc':(i:Int) < l.length:=by omega
  obtain⟨r,hg⟩:=QFA l i hc
  have F:=(Ja @hc' @hg)
  refine rn F ?_
  repeat' (first
   | with_reducible exact⟨⟩
   | (refine Qd (id:=6) [0,1,2,3,4,5,6,7,8] [] (by kernel_rfl) (by kernel_rfl) ?_; refine rn F ?_))
  all_goals exact⟨⟨i+1,hc⟩,by dsimp only; omega,(gc [])⟩
 ·have hc':¬ (i:Int) < l.length:=by omega
  have F:=@hc'
  (refine rn F ?_; try with_reducible exact⟨⟩)
def Qyj(l:List Row)(hl:l.length<=1000000):VCalls prog 9 [.pv (.sl (fz encYr l)),.pv (.sl (fz encYr l))] [] (Ret (.bool true)):=by
 refine dd Tryz.func9 ?_
 have h:=Qxh l hl
 (unfold Tryz.f9; refine rn trivial ?_)
 refine rn F ?_
 repeat' (first
  | with_reducible exact⟨⟩
  | refine vp F (h) ?_)
def Qte (com:Int->Bool) (pg sl tx:Int):∀ n,(∀ i,i < n->(es.getD i E0).tx ≠ tx)->(QwF es com pg sl tx n).1 = Qky es com pg sl n
 | 0,_=>rfl
 | n + 1,h=>by
   have ih:=Qte com pg sl tx n fun i hi=>h i (by omega)
   rw[QwF,Qky]
   have hx:=h n (J9 n)
   generalize es.getD n E0=e at *
   have:(QoD com pg sl tx e=true) ↔ (QdY e=true/\com e.tx=true/\e.c.pg=pg/\e.c.sl=sl):=by
    unfold QoD
    simp only[Jg,Ju,decide_eq_true_eq]
    constructor
    ·rintro ⟨a,b,c,d⟩
     exact⟨a,d.resolve_right hx,b,c⟩
    ·rintro ⟨a,b,c,d⟩
     exact⟨a,c,d,.inl b⟩
   by_cases hs:QoD com pg sl tx e=true
   ·rw[if_pos hs,if_pos (this.1 hs)]
   ·rw[if_neg hs,if_neg (fun q=>hs (this.2 q))]; exact ih
def Qg1(es:List E)(h:i<k):(es.take k).getD i E0=es.getD i E0:=by
 rw[Jb,JS h,<- Jb]
def Qv6(es:List E)(k:Nat):Qby (es.take k) k=Qby es k:=by
 funext tx
 unfold Qby exE
 congr 1
 rw[Bool.eq_iff_iff,Jy,Jy]
 constructor<;>intro h i hi<;>have:=h i hi<;>rw[Jw] at hi
 ·rwa [Qg1 es hi] at this
 ·rw[Qg1 es hi]; exact this
def QmD (es:List E) (com:Int->Bool) (p s:Int) (k:Nat):∀ n,n<=k->Qky (es.take k) com p s n = Qky es com p s n
 | 0,_=>rfl
 | n + 1,h=>by
   unfold Qky
   rw[Qg1 es (by omega),QmD es com p s k n (by omega)]
def Qtz(es:List E)(n k:Nat):Qej (es.take k) (Qby (es.take k) k) n k=Qej es (Qby es k) n k:=by
 rw[Qv6]
 unfold Qej
 congr 1
 funext p
 funext s
 exact QmD es _ _ _ k k (JD _)
def QBB(hv:lgB x=true)(hf:x.f=1){k:Nat}(hk:k<=x.es.length){p s:Nat}(hp:p<4)(hs:s<3)(tx:Int):Qtd x p s tx k=(QwF x.es (Qby x.es k) p s tx k,0):=by
 unfold Qtd
 have hw:QbS x=true:=by unfold QbS; rw[hv,hf]; rfl
 have hu:QbC x k=true:=by unfold QbC; simp; omega
 rw[if_neg (by rw[hw]; decide),if_neg (by rw[hu]; simp; omega)]
 rfl
def QCs(hv:lgB x=true)(hf:x.f=1)(hk:k<=x.es.length):lgB ⟨x.f,x.es.take k,0⟩=true:=by
 have hd:=QaG hv
 simp only[Lg.hd] at hd
 have hl:(x.es.take k).length=k:=by rw[Ji]; omega
 have hs:QwE x.f (x.es.take k):=Qlk (QuQ hv) k
 exact QFi (x:=⟨x.f,x.es.take k,0⟩) ⟨by dsimp only; omega,by dsimp only; omega,by dsimp only; omega,by dsimp only; omega,by dsimp only; omega⟩ hs
def QFm(l:List UInt8)(hl:l.length<=9223372036854775807)(b:Int)(hb:0<=b/\b<=255):VCalls prog 4 [.pv (.sl (fz Qfl l)),.int .u8 b] [] (Ret (.bool true)):=by
 refine dd Tryz.func4 ?_
 have c0:=QmJ
 (unfold Tryz.f4; refine rn trivial ?_)
 refine rn F ?_
 repeat' (first
  | with_reducible exact⟨⟩
  | refine vp F (c0) ?_)
 refine QsG (most:=600) (by omega) (by omega) hl fun c=>?_
 refine rn trivial ?_
 refine QaP (k:=0) (c:=c) (Qma c 50 (by omega)) rfl rfl ?_
 rintro _ c1 ⟨k,rfl,hk,hK,hC⟩
 have hxl:k.lg.es.length<=4096:=hk.1
 have hv:=hK.lg
 have hf:=hK.f
 have hnt:∀ i,i<k.lg.es.length->(k.lg.es.getD i E0).tx≠900:=fun i hi=>by
  have h1:=hK.cor.ids (k.lg.es.getD i E0) (by rw[Qf _ _ hi]; exact JH hi)
  have h2:=hC.nx
  omega
 clear hK hC
 generalize hkx:k.lg=x at *
 obtain⟨j,hj,hjl⟩:∃ j:Nat,b.tmod (x.es.length+1)=j/\j<=x.es.length:=by
  have h1:=Ke (a:=b) (b:=(x.es.length:Int)+1) hb.1
  have h2:=J5 b (b:=(x.es.length:Int)+1) (by omega)
  exact⟨(b.tmod (x.es.length+1)).toNat,by omega,by omega⟩
 have q1:=Qkl x (by omega) 4 j
 have htl:(x.es.take j).length=j:=by rw[Ji]; omega
 have hmn:min j x.es.length=j:=by omega
 have q2:=Qkl ⟨x.f,x.es.take j,0⟩ (by dsimp only; omega) 4 j
 rw[Qoe hv hf hjl] at q1
 rw[Qoe (QCs hv hf hjl) hf (by dsimp only; omega)] at q2
 dsimp only at q2
 rw[Qtz] at q2
 have hrl:=QcS x.es (Qby x.es j) 4 j
 have q3:=Qyj (Qej x.es (Qby x.es j) 4 j) (by omega)
 have F:=(Ja @hkx (Ja @hj (Ja @htl (Ja @hmn @hrl))))
 refine rn F ?_
 repeat' (first
  | with_reducible exact⟨⟩
  | refine vp F (q1) ?_
  | refine vp F (q2) ?_
  | refine vp F (q3) ?_)
 have hcel:=fun p s=>Qte (es:=x.es) (Qby x.es j) p s 900 j fun i hi=>hnt i (by omega)
 have hrow:=fun(p:Nat) (hp:p<4) s=>Qny x.es (Qby x.es j) 4 j hp s
 generalize hA:Qej x.es (Qby x.es j) 4 j=A at *
 clear q1 q2 q3
 refine Qj (fun s:To 4=>⟨95,0,[(13,.int .i64 s.i),(9,.pv (.sl (fz encYr A))),(7,.int .i64 j),(6,.ptr 0 0)],[⟨26,true,x.c⟩]⟩) (fun s=>4-s.i) ⟨0,Jc _⟩ (gc [1]) ?_
 rintro⟨p,hp⟩
 dsimp only
 by_cases hpc:p<4
 rotate_left
 ·have hpc':¬ (p:Int) < 4:=by omega
  have F:=@hpc'
  (refine rn F ?_; try with_reducible exact⟨⟩)
 have hpc':(p:Int)<4:=by omega
 have F:=@hpc'
 refine rn F ?_
 refine Qj (fun s:To 3=>⟨95,0,[(14,.int .i64 s.i),(13,.int .i64 p),(9,.pv (.sl (fz encYr A))),(7,.int .i64 j),(6,.ptr 0 0)],[⟨26,true,x.c⟩]⟩) (fun s=>3-s.i) ⟨0,Jc _⟩ (gc [0]) ?_
 rintro⟨s,hs⟩
 dsimp only
 by_cases hsc:s<3
 rotate_left
 ·have hsc':¬ (s:Int) < 3:=by omega
  have F:=@hsc'
  refine rn F ?_
  exact⟨⟨p+1,by omega⟩,by dsimp only; omega,(gc [0])⟩
 have hsc':(s:Int)<3:=by omega
 have hsc2:(s:Int)<16:=by omega
 have hgA:(fz encYr A)[p]?=some (encYr.enc (A.getD p Qgf)):=Qb5 encYr A Qgf p (by omega)
 have hpA:(p:Int)<A.length:=by omega
 have hlA:(encYr.enc (A.getD p Qgf)).length=32:=encYr.hlen _
 have hdA:=Qkd (A.getD p Qgf) s (by omega)
 have h32:(2<=32-s*2)=True:=eq_true (by omega)
 have q4:=Qoh x (by omega) p s 900 j
 rw[QBB hv hf hjl hpc hsc] at q4
 dsimp only at q4
 rw[hcel p s,<- hrow p hpc s] at q4
 generalize encYr.enc (A.getD p Qgf)=YA at *
 generalize A.getD p Qgf s=ca at *
 have F:=(Ja @hsc' (Ja @hsc2 (Ja @hgA (Ja @hpA (Ja @hlA (Ja @hdA @h32))))))
 refine rn F ?_
 repeat' (first
  | with_reducible exact⟨⟩
  | refine vp F (q4) ?_
  | (refine Qd (id:=19) [0,1,2,3,4,5,6,7,8,9,10,11] [] (by kernel_rfl) (by kernel_rfl) ?_; refine rn F ?_))
 all_goals first
  | exact⟨⟨s+1,by omega⟩,by dsimp only; omega,(gc [0])⟩
  | skip
end
end Go.Proofs.YtomgpphpkcoolaaGreat
