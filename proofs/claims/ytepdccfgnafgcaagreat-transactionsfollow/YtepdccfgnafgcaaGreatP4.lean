/-
  Contracts of functions and plain laws. No condition.
-/
import Derived.Test.YtepdccfgnafgcaaGreatP3
import Derived.Test.YtepdccfgnafgcaaGreatV3
import Derived.Test.YtepdccfgnafgcaaGreatP1
import Derived.Test.YtepdccfgnafgcaaGreatP2
import Derived.Test.YtepdccfgnafgcaaGreatV4
import Derived.Test.YtepdccfgnafgcaaGreatV2
set_option linter.unusedSimpArgs false
set_option linter.unusedVariables false
set_option linter.defProp false
set_option maxRecDepth 100000
set_option maxHeartbeats 8000000
set_option autoImplicit true
set_option relaxedAutoImplicit true
open And renaming intro->Jb
open Bool renaming and_eq_true->Jc,eq_false_iff->JM,or_false->JR,and_false->JX,false_and->JY,true_and->J3,or_eq_true->J6,and_eq_false_iff->Ka,or_eq_false_iff->Kd,and_true->Kv
open Int renaming le_refl->JC
open List renaming length_append->Ja,getElem_mem->Jd,mem_singleton->Je,getD_eq_getElem?_getD->Jf,mem_filter->Jg,append_assoc->Jh,pairwise_cons->Jj,mem_cons->Jk,length_cons->Jl,pairwise_iff_getElem->Jm,length_take->Jo,not_mem_nil->Jp,mem_iff_getElem->Jq,append_nil->Js,filter_eq_self->Jt,mem_append->Ju,take_succ_eq_append_getElem->Jv,flatMap_cons->Jw,take_length->Jy,mem_range->JA,length_set->JB,mem_append_left->JD,take_zero->JE,all_eq_true->JF,filter_cons->JG,mem_map->JI,prefix_append->JJ,filter_nil->JK,getElem_take->JL,length_singleton->JN,mem_cons_of_mem->JO,pairwise_append->JP,map_cons->JQ,getD_cons_succ->JS,take_succ_cons->JT,filter_sublist->JU,filter_append->JV,getElem?_append_left->JW,filter_cons_of_pos->J1,filter_cons_of_neg->J2,prefix_refl->J4,take_of_length_le->J5,length_nil->J7,length_map->J8,range_succ->J9,find?_cons->Kb,mem_of_mem_take->Kc,drop_succ_cons->Ke,length_reverse->Kf,reverse_append->Kg,getElem?_take->Kh,range->Kj,findIdx_cons->Kk,filter_congr->Kl,getElem?_set->Ko,getElem_map->Kp,ext_getElem->Ks,drop_zero->Kt,replicate->Ku
open Nat renaming zero_le->Ji,not_lt_zero->Jn,le_refl->Jr,lt_succ_self->Jz,le_trans->JH,le_succ_of_le->JZ,lt_succ_iff_lt_or_eq->J0,lt_of_lt_of_le->Ki,lt_succ_of_lt->Km
open Option renaming getD_some->Kq,some->Kw
namespace Go.Proofs.YtepdccfgnafgcaaGreat
open Go.V Go
open Tryz (prog)
def Qt4(s p:List UInt8)(n:Int)(k:Nat)(hk:k<=8)(hp:Ql p n k <+: s)(h:0<=n/\n<2 ^ (8*k)/\n<=9223372036854775807):QnI s p.length k=n:=by
 obtain⟨t,rfl⟩:=hp
 unfold QnI
 rw[QhO p t n k hk k (Jr _)]
 have e:u64N n % 2 ^ (8*k)=n.toNat:=by
  have h1:u64N n=n.toNat:=by unfold u64N; omega
  have h2:((2:Int) ^ (8*k))=((2 ^ (8*k):Nat):Int):=by rw[Int.natCast_pow]; rfl
  rw[h1]
  exact Nat.mod_eq_of_lt (by omega)
 rw[e,IntKind.wrap_i64]
 omega
def At{t:List UInt8}(r:RS t)(p:List UInt8):Prop:=(r.e=5/\t.length<p.length)\/(r.e=0/\r.at_=p.length)
def Qbt(p:List UInt8)(n:Int)(k:Nat):p <+: Ql p n k:=JJ _ _
def QzU{t s p:List UInt8}(ht:t <+: s)(hp:p <+: s)(hl:p.length<=t.length):p <+: t:=List.prefix_of_prefix_length_le hp ht hl
def Qdg(ht:t <+: s)(n:Int)(k:Nat)(hk:k<=8)(hp:Ql p n k <+: s)(h:0<=n/\n<2 ^ (8*k)/\n<=9223372036854775807)(ha:At r p):
 At (QcW t r k).2 (Ql p n k)/\((QcW t r k).2.e=0->(QcW t r k).1=n):=by
 have hl:=Qd p n k
 unfold QcW
 rcases ha with⟨h1,h2⟩ | ⟨h1,h2⟩
 ·rw [if_neg (by omega)]
  refine⟨.inl ⟨h1,by omega⟩,fun h=>absurd (h1.symm.trans h) (by decide)⟩
 ·rw [if_pos h1]
  split
  ·rename_i hb
   refine⟨.inr ⟨rfl,by dsimp only; omega⟩,fun _=>?_⟩
   have e:r.at_.toNat=p.length:=by omega
   dsimp only
   rw[e]
   exact Qt4 t p n k hk (QzU ht hp (by omega)) h
  ·refine⟨.inl ⟨rfl,by omega⟩,fun h=>absurd (show(5:Int)=0 from h) (by decide)⟩
def Qss(ht:t <+: s)(hp:p++d <+: s){n:Int}(ha:At r p)(hn:r.e=0->n=d.length):
 At (Qfj t r n).2 (p++d)/\((Qfj t r n).2.e=0->(Qfj t r n).1=d):=by
 have hl:(p++d).length=p.length+d.length:=Ja
 unfold Qfj
 rcases ha with⟨h1,h2⟩ | ⟨h1,h2⟩
 ·rw [if_neg (by omega)]
  refine⟨.inl ⟨h1,by omega⟩,fun h=>absurd (h1.symm.trans h) (by decide)⟩
 ·rw [if_pos h1]
  have hn:=hn h1
  split
  ·rename_i hb
   refine⟨.inr ⟨rfl,by dsimp only; omega⟩,fun _=>?_⟩
   have e:r.at_.toNat=p.length:=by omega
   have e2:(r.at_+n).toNat=(p++d).length:=by omega
   dsimp only
   rw[e,e2]
   have:=QzU ht hp (by omega)
   rw[<- List.prefix_iff_eq_take.1 this,List.drop_left]
  ·refine⟨.inl ⟨rfl,by omega⟩,fun h=>absurd (show(5:Int)=0 from h) (by decide)⟩
def QvL(ht:t <+: s)(c:Ce)(hc:c.okB=true)(hp:Qam p c <+: s)(ha:At r p):
 At (QfB t r).2 (Qam p c)/\((QfB t r).2.e=0->(QfB t r).1=c):=by
 obtain⟨set,data⟩:=c
 simp only[Ce.okB,Jc,decide_eq_true_eq,J6,beq_iff_eq] at hc
 unfold QfB Qq5
 unfold Qam at hp |-
 cases set
 ·simp only [Bool.false_eq_true,if_false] at hp |-
  obtain⟨h1,h2⟩:=Qdg (r:=r) ht 255 1 (by omega) hp ⟨by omega,by omega,by omega⟩ ha
  have hd:data=[]:=by rcases hc.2 with h | h; cases h; exact h
  subst hd
  split
  ·rename_i h
   exact absurd (h2 h.1) h.2
  ·exact⟨h1,fun _=>rfl⟩
 ·simp only [if_true] at hp |-
  obtain⟨h1,h2⟩:=Qdg (r:=r) ht data.length 1 (by omega) ((JJ _ _).trans hp) ⟨by omega,by omega,by omega⟩ ha
  split
  ·rename_i h
   have h3:=h2 h.1
   rw[if_neg (by omega)]
   obtain⟨h4,h5⟩:=Qss ht hp h1 (n:=(QcW t r 1).1) (fun _=>h3)
   exact⟨h4,fun h=>by rw[h5 h]⟩
  ·rename_i h
   have h3:(QcW t r 1).2.e≠0:=fun e=>h ⟨e,by rw[h2 e]; omega⟩
   rcases h1 with⟨h4,h5⟩ | ⟨h4,h5⟩
   ·refine ⟨.inl ⟨h4,?_⟩,fun e=>absurd e h3⟩
    rw[Ja]; omega
   ·exact absurd h4 h3
def Qic(h:(QcW t r k).2.e=0):r.e=0:=by
 unfold QcW at h
 split at h
 ·assumption
 ·exact h
def QEn(h:(Qfj t r n).2.e=0):r.e=0:=by
 unfold Qfj at h
 split at h
 ·assumption
 ·exact h
def QAl(h:(QfB t r).2.e=0):r.e=0:=by
 unfold QfB Qq5 at h
 split at h
 ·rename_i hc
  exact Qic hc.1
 ·exact Qic h
def QGZ(e:E)(h:e.okB=true):(0<=e.lsn/\e.lsn<=1099511627776)/\(0<=e.kind/\e.kind<256)/\(0<=e.tx/\e.tx<4294967296)/\(0<=e.ptx/\e.ptx<=1099511627776)/\(0<=e.ppg/\e.ppg<=1099511627776)/\(0<=e.ref/\e.ref<=1099511627776)/\(0<=e.c.pg/\e.c.pg<64)/\(0<=e.c.sl/\e.c.sl<16)/\e.c.b.okB=true/\e.c.a.okB=true:=by
 obtain⟨lsn,kind,tx,ptx,ppg,ref,⟨pg,sl,⟨b1,b2⟩,⟨a1,a2⟩⟩,blob⟩:=e
 simp only[E.okB,Jc,bef,decide_eq_true_eq] at h
 obtain⟨h0,h⟩:=h
 unfold E.kindB at h
 dsimp only at h0 h |-
 split at h
 ·simp[Ch.okB,Ce.okB,txB] at h |-; grind
 split at h
 ·simp[Ch.okB,Ce.okB,txB] at h |-; grind
 split at h
 ·simp[Ch.no,Ce.no,Ce.okB,txB] at h |-; grind
 split at h
 ·simp[Ch.no,Ce.no,Ce.okB] at h |-; grind
 split at h
 ·simp[Ch.ix,Ce.no,Ce.okB] at h |-; grind
 ·simp at h
def Qi7(p:List UInt8)(c:Ce):p <+: Qam p c:=by
 unfold Qam
 split
 ·exact(Qbt _ _ _).trans (JJ _ _)
 ·exact Qbt _ _ _
def QFz(x:E)(h:x.okB=true)(ht:t <+: s)(hx:Qms x <+: s):At (Qvr t).2 (Qms x)/\((Qvr t).2.e=0->(Qvr t).1=x):=by
 obtain⟨i1,i2,i3,i4,i5,i6,i7,i8,i9,i10⟩:=QGZ x h
 obtain⟨l1,l2,l3⟩:=QeL h
 have a0:At (rs0 t) []:=.inr ⟨rfl,rfl⟩
 have P10:Ql (Qam (Qam (Qbd x) x.c.b) x.c.a) x.blob.length 4 <+: s:=(JJ _ _).trans hx
 have P9:Qam (Qam (Qbd x) x.c.b) x.c.a <+: s:=(Qbt _ _ _).trans P10
 have P8:Qam (Qbd x) x.c.b <+: s:=(Qi7 _ _).trans P9
 have PH:Qbd x <+: s:=(Qi7 _ _).trans P8
 unfold Qbd at PH P8 P9 P10
 have P7:=(Qbt _ _ _).trans PH
 have P6:=(Qbt _ _ _).trans P7
 have P5:=(Qbt _ _ _).trans P6
 have P4:=(Qbt _ _ _).trans P5
 have P3:=(Qbt _ _ _).trans P4
 have P2:=(Qbt _ _ _).trans P3
 have P1:=(Qbt _ _ _).trans P2
 obtain⟨b1,c1⟩:=Qdg (r:=rs0 t) ht x.lsn 8 (by omega) P1 ⟨by omega,by omega,by omega⟩ a0
 obtain⟨b2,c2⟩:=Qdg ht x.kind 1 (by omega) P2 ⟨by omega,by omega,by omega⟩ b1
 obtain⟨b3,c3⟩:=Qdg ht x.tx 4 (by omega) P3 ⟨by omega,by omega,by omega⟩ b2
 obtain⟨b4,c4⟩:=Qdg ht x.ptx 8 (by omega) P4 ⟨by omega,by omega,by omega⟩ b3
 obtain⟨b5,c5⟩:=Qdg ht x.ppg 8 (by omega) P5 ⟨by omega,by omega,by omega⟩ b4
 obtain⟨b6,c6⟩:=Qdg ht x.ref 8 (by omega) P6 ⟨by omega,by omega,by omega⟩ b5
 obtain⟨b7,c7⟩:=Qdg ht x.c.pg 4 (by omega) P7 ⟨by omega,by omega,by omega⟩ b6
 obtain⟨b8,c8⟩:=Qdg ht x.c.sl 1 (by omega) PH ⟨by omega,by omega,by omega⟩ b7
 obtain⟨b9,c9⟩:=QvL ht x.c.b i9 P8 b8
 obtain⟨b10,c10⟩:=QvL ht x.c.a i10 P9 b9
 obtain⟨b11,c11⟩:=Qdg ht x.blob.length 4 (by omega) P10 ⟨by omega,by omega,by omega⟩ b10
 obtain⟨b12,c12⟩:=Qss ht hx b11 c11
 unfold Qvr
 dsimp only
 refine⟨b12,fun e12=>?_⟩
 have e11:=QEn e12
 have e10:=Qic e11
 have e9:=QAl e10
 have e8:=QAl e9
 have e7:=Qic e8
 have e6:=Qic e7
 have e5:=Qic e6
 have e4:=Qic e5
 have e3:=Qic e4
 have e2:=Qic e3
 have e1:=Qic e2
 rw[c1 e1,c2 e2,c3 e3,c4 e4,c5 e5,c6 e6,c7 e7,c8 e8,c9 e9,c10 e10,c12 e12]
def QFy(x:E)(h:x.okB=true):Qrn (Qms x)=(x,0):=by
 obtain⟨h1,h2⟩:=QFz x h (J4 _) (J4 _)
 unfold Qrn
 rcases h1 with⟨h3,h4⟩ | ⟨h3,h4⟩
 ·omega
 ·rw[if_pos h3,if_pos h4,h2 h3,if_pos h]
def Qe2(h:e.okB=true):(Qms e).length<=8392:=by
 obtain⟨l1,l2,l3⟩:=QeL h
 have n1:=QbN (Qbd e) e.c.b
 have n2:=QbN (Qam (Qbd e) e.c.b) e.c.a
 rw[QdR] at n1
 unfold Qms
 rw[Ja,Qd]
 omega
def QAb(h:e.okB=true):frE e=frm (Qms e):=by unfold frE Qil; rw[if_pos h]
def Qw5(h:e.okB=true)(p r:List UInt8):QgT (p++(frE e++r)) p.length e.lsn=some (e,((p.length+(frE e).length:Nat):Int)):=by
 have h1:=QzL (Qe2 h) p r
 have h2:=QFy e h
 have hl:=Qhu (Qe2 h)
 rw[QAb h]
 unfold QgT
 rw[h1]
 dsimp only
 rw[h2,if_pos ⟨rfl,rfl,rfl⟩,hl]
def QzO(l:Int)(es:List E):Prop:=∀ i:Nat,i<es.length->(es.getD i E0).lsn=l+i/\(es.getD i E0).okB=true
def Qlr(h:QzO l (e::r)):e.lsn=l/\e.okB=true/\QzO (l+1) r:=by
 have h0:=h 0 (by simp)
 refine⟨by simpa using h0.1,by simpa using h0.2,fun i hi=>?_⟩
 have:=h (i+1) (by simpa using hi)
 simp only[JS] at this
 exact⟨by omega,this.2⟩
def QiQ (r:List UInt8):∀ (es:List E) (p:List UInt8) (l:Int) (n:Nat),QzO l es->es.length<=n ->
 opn (p++(es.flatMap frE++r)) n p.length l=es++opn (p++(es.flatMap frE++r)) (n-es.length) ((p.length+(es.flatMap frE).length:Nat):Int) (l+es.length)
 | [],p,l,n,_,_=>by simp
 | e :: t,p,l,n,h,hn=>by
   obtain⟨h1,h2,h3⟩:=Qlr h
   rw[Jl] at hn
   obtain⟨m,rfl⟩:∃ m,n=m+1:=⟨n-1,by omega⟩
   have hs:p++((e::t).flatMap frE++r)=p++(frE e++(t.flatMap frE++r)):=by rw[Jw]; simp only[Jh]
   have hs2:p++((e::t).flatMap frE++r)=(p++frE e)++(t.flatMap frE++r):=by rw[Jw]; simp only[Jh]
   have h4:=Qw5 h2 p (t.flatMap frE++r)
   rw[<- hs,h1] at h4
   have ih:=QiQ r t (p++frE e) (l+1) m h3 (by omega)
   rw[<- hs2] at ih
   have e1:opn (p++((e::t).flatMap frE++r)) (m+1) p.length l=e::opn (p++((e::t).flatMap frE++r)) m ((p.length+(frE e).length:Nat):Int) (l+1):=by
    conv=>lhs; unfold opn
    rw[h4]
   rw[e1,<- Ja,ih,Jl,Jw,Ja,Ja]
   rw[show m+1-(t.length+1)=m-t.length by omega,List.cons_append]
   congr 3
   ·omega
   ·omega
def Qme(r:List UInt8):unf (Qdn f++r) 0=(Ql [80,77,76,71] f 8,20,0):=by
 have:=QzL (q:=Ql [80,77,76,71] f 8) (by rw[Qd]; simp) [] r
 rw[List.nil_append] at this
 unfold Qdn
 rw[show(([]:List UInt8).length:Int)=0 from rfl] at this
 rw[this,Qd]
 rfl
def Qfs(f:Int):(Qdn f).length=20:=by
 unfold Qdn
 rw[Qhu (by rw[Qd]; simp),Qd]; rfl
def QyG(h:1<=f/\f<=1099511627776)(r:List UInt8):hdO (Qdn f++r)/\QnI (unf (Qdn f++r) 0).1 4 8=f:=by
 have h1:=Qme (f:=f) r
 have h2:QnI (Ql [80,77,76,71] f 8) 4 8=f:=Qt4 _ [80,77,76,71] f 8 (by omega) (J4 _) ⟨by omega,by omega,by omega⟩
 unfold hdO
 rw[h1]
 dsimp only
 refine⟨⟨rfl,by rw[Qd]; rfl,?_,by omega,by omega⟩,h2⟩
 simp[Ql]
def QlN(h:1<=f/\f<=1099511627776)(he:QzO f es)(hl:es.length<=4096)(r:List UInt8)(hr:es.length<4096->QgT (Qdn f++(es.flatMap frE++r)) ((20+(es.flatMap frE).length:Nat):Int) (f+es.length)=none):Qce (Qdn f++(es.flatMap frE++r))=(⟨f,es,f+es.length-1⟩,0):=by
 obtain⟨h1,h2⟩:=QyG h (es.flatMap frE++r)
 have h3:=Qme (f:=f) (es.flatMap frE++r)
 have h4:=QiQ r es (Qdn f) f 4096 he hl
 rw[Qfs] at h4
 have h5:QDY (Qdn f++(es.flatMap frE++r))=es:=by
  unfold QDY
  rw[h2,h3]
  dsimp only
  refine h4.trans ?_
  by_cases hc:es.length<4096
  ·rw[QoX _ (hr hc),Js]
  ·rw[show 4096-es.length=0 by omega]; exact Js _
 unfold Qce
 rw[if_pos h1,h2,h5]
def QCl(h:lgB x=true):QzO x.f x.es:=by
 unfold lgB at h
 simp only[Jc,JF,JA] at h
 intro i hi
 have:=h.2 i hi
 simpa [lgC] using this
def QuL{α:Type}(l:List α)(n i:Nat)(h:i<n)(d:α):(l.take n).getD i d=l.getD i d:=by
 rw[Jf,Jf,Kh,if_pos h]
def QsL(h:QzO l es)(n:Nat):QzO l (es.take n):=fun i hi=>by
 rw[Jo] at hi
 rw[QuL _ _ _ (by omega)]
 exact h i (by omega)
def Qhw:∀ (es:List E) (t:Nat),∃ j m,j<=es.length/\(es.flatMap frE).take t = (es.take j).flatMap frE ++ (frE (es.getD j E0)).take m/\(j < es.length->m < (frE (es.getD j E0)).length)/\(j = es.length->m = 0)
 | [],t=>⟨0,0,Jr _,by simp,fun h=>absurd h (by simp),fun _=>rfl⟩
 | e :: r,t=>by
   by_cases h:t<(frE e).length
   ·refine ⟨0,t,Ji _,?_,fun _=>by simpa using h,fun h=>absurd h (by simp)⟩
    rw[Jw,List.take_append_of_le_length (by omega)]
    simp
   ·obtain ⟨j,m,h1,h2,h3,h4⟩:=Qhw r (t - (frE e).length)
    refine⟨j+1,m,by rw[Jl]; omega,?_,fun h=>?_,fun h=>?_⟩
    ·rw[Jw,List.take_append,J5 (by omega),h2,JT,Jw,JS,Jh]
    ·rw [Jl] at h
     rw[JS]; exact h3 (by omega)
    ·rw [Jl] at h
     exact h4 (by omega)
def QfV:∀ (es:List E),QzO l es->l - 1<=d->d<=l + es.length - 1->(es.filter fun e=>decide (e.lsn<=d)) = es.take (d - l + 1).toNat/\(es.filter fun e=>!decide (e.lsn<=d)) = es.drop (d - l + 1).toNat
 | [],_,h1,h2=>by simp
 | e :: r,h,h1,h2=>by
   obtain⟨a1,a2,a3⟩:=Qlr h
   rw[Jl] at h2
   by_cases hc:l<=d
   ·obtain ⟨b1,b2⟩:=QfV (d:=d) (l:=l + 1) r a3 (by omega) (by omega)
    obtain⟨k,hk,hk2⟩:∃ k,(d-l+1).toNat=k+1/\(d-(l+1)+1).toNat=k:=⟨(d-l).toNat,by omega,by omega⟩
    rw[hk2] at b1 b2
    rw[hk,JT,Ke,JG,JG,if_pos (by simp; omega),if_neg (by simp; omega),b1,b2]
    exact⟨rfl,rfl⟩
   ·have hk:(d - l + 1).toNat = 0:=by omega
    rw[hk,JE,Kt]
    have hall:∀ x∈(e::r),¬ x.lsn<=d:=fun x hx=>by
     obtain⟨i,hi,rfl⟩:=List.getElem_of_mem hx
     have:=(h i hi).1
     rw[Qc _ _ hi] at this
     omega
    refine⟨List.filter_eq_nil_iff.2 fun x hx=>by have:=hall x hx; simp; omega,Jt.2 fun x hx=>by have:=hall x hx; simp; omega⟩
def QqZ(h:lgB x=true)(torn:Int):∃ n,(x.d-x.f+1).toNat<=n/\n<=x.es.length/\Qce (Qdu x torn)=(⟨x.f,x.es.take n,x.f+n-1⟩,0):=by
 have hh:=Qat h
 simp only[Lg.hd] at hh
 have hs:=QCl h
 obtain⟨f1,f2⟩:=QfV (d:=x.d) (l:=x.f) x.es hs (by omega) (by omega)
 unfold Qdu
 rw[if_pos h]
 unfold Qrm Qtl
 rw[f1,f2]
 generalize hk:(x.d-x.f+1).toNat=k
 obtain⟨j,m,h1,h2,h3,h4⟩:=Qhw (x.es.drop k) torn.toNat
 rw[List.length_drop] at h1 h3 h4
 have hget:(x.es.drop k).getD j E0=x.es.getD (k+j) E0:=by
  rw[Jf,Jf,List.getElem?_drop]
 have htk:x.es.take k++(x.es.drop k).take j=x.es.take (k+j):=by rw[<- List.take_add]
 have hlen:(x.es.take (k+j)).length=k+j:=by rw[Jo]; omega
 refine⟨k+j,by omega,by omega,?_⟩
 rw[h2,hget,Jh,<- Jh,<- Jh,Jh,Jh,<- Jh (List.flatMap frE _),<- List.flatMap_append,htk]
 have:=QlN (f:=x.f) ⟨by omega,by omega⟩ (QsL hs (k+j)) (by rw[hlen]; omega) ((frE (x.es.getD (k+j) E0)).take m) (fun _=>QsG (by
  by_cases hc:j<x.es.length-k
  ·have h5:=h3 hc
   rw[hget] at h5
   have hok:=(hs (k+j) (by omega)).2
   rw[QAb hok] at h5 |-
   rw[Qhu (Qe2 hok)] at h5
   have:=QA6 (Qe2 hok) (Qdn x.f++(x.es.take (k+j)).flatMap frE) m h5
   rw[Ja,Qfs,Jh] at this
   rw[this]; decide
  ·rw [h4 (by omega),JE,Js]
   have:=QA5 (Qdn x.f++(x.es.take (k+j)).flatMap frE)
   rw[Ja,Qfs] at this
   rw[this]; decide))
 rw[hlen] at this
 exact this
def Qt1(s:List UInt8):(Qce s).1.es.length<=4096:=by
 unfold Qce
 split
 ·exact Qt0 _ _ _ _
 ·exact Ji _
def CrR(x:Lg)(n m:Int)(k:Kn):Prop:=lgB x=true/\(1<=n/\n<=64)/\∃ a lk,AnC x n x.es.length a/\kB (adK x (loF a lk) m)=true/\(adK x (loF a lk) m).pl.fs=[]/\Str 0 (adK x (loF a lk) m) k
def Qs7(v:Dv)(hv:v.ps.length<=64)(s:List UInt8)(hs:s.length<=100000000)(n m:Int):VCalls prog 153 [.agg v.d,.pv (.str s),.int .i64 n,.int .i64 m] [] (QL svD fun r=>r.1.sm/\(r.2=0->(Qce s).2=0/\CrR (Qce s).1 n m r.1.k)):=by
 refine dk Tryz.func153 ?_
 have c1:=QBH s hs
 have hl:=Qt1 s
 generalize Qce s=o at *
 obtain⟨x,e0⟩:=o
 dsimp only at hl c1 |-
 have c2:=Qqp x hl n
 have c3:=fun a ha=>Qx0 x hl a ha m
 have err:∀ z,z≠0->QL svD (fun r=>r.1.sm/\(r.2=0->e0=0/\CrR x n m r.1.k)) (svD (Sv0,z)) []:=fun z hz=>⟨rfl,rfl,(Sv0,z),rfl,Qdy,fun h=>absurd h hz⟩
 (unfold Tryz.f153; refine rn trivial ?_)
 refine rn F ?_
 repeat' (first
  | with_reducible exact⟨⟩
  | (refine sB F ?_ ?_<;>intro hZ)
  | refine vp F (c1) ?_
  | (refine Qr (c2) rfl ?_; rintro⟨a,e1⟩ ha; refine rn F ?_)
  | (refine Qr (c3 a ha.1) rfl ?_; rintro⟨k,e2⟩ hk; refine rn F ?_))
 all_goals first
  | exact err _ (by assumption)
  | exact⟨rfl,rfl,(⟨k,v⟩,0),rfl,⟨hk.1,hv⟩,fun _=>⟨by assumption,by
   obtain⟨g1,g2,a0,lk,g3,g4⟩:=ha.2 (by assumption)
   have g5:=hk.2 (by assumption)
   dsimp only at g4
   subst g4
   exact⟨g1,g2,a0,lk,g3,g5⟩⟩⟩
  | skip
def Qs6(v:Dv)(hv:v.ps.length<=64)(s:List UInt8)(hs:s.length<=100000000)(n m:Int):VCalls prog 130 [.agg v.d,.pv (.str s),.int .i64 n,.int .i64 m] [] (QL svD fun r=>r.1.sm/\(r.2=0->(Qce s).2=0/\CrR (Qce s).1 n m r.1.k)):=by
 refine dk Tryz.func130 ?_
 have c1:=Qs7 v hv s hs n m
 generalize Qce s=o at *
 (unfold Tryz.f130; refine rn trivial ?_)
 refine rn F ?_
 repeat' (first
  | with_reducible exact⟨⟩
  | (refine Qr (c1) rfl ?_; rintro⟨k,e⟩ hk; refine rn F ?_))
 all_goals first
  | exact⟨rfl,rfl,(k,e),rfl,hk⟩
  | skip
section
attribute [local go_sem] Qbo
@[go_sem] def crD(a:Dv×Lg×Int):DV:=.tup [.agg a.1.d,.pv (.str (Qdu a.2.1 a.2.2))]
def crQ(s:Sv)(a:Dv×Lg×Int):Prop:=a.1.ps.length<=64/\a.2.1.f=s.k.lg.f/\a.2.1.es=s.k.lg.es/\(lgB s.k.lg=true->lgB a.2.1=true)
def Qs0(s:Sv)(hs:s.sm)(torn id cut:Int):VCalls prog 129 [.agg s.d,.int .i64 torn,.int .i64 id,.int .i64 cut] [] (QL crD (crQ s)):=by
 refine dk Tryz.func129 ?_
 have c1:=QcK s.k.pl (JH hs.1.2.1 (by decide)) id
 have hl:=hs.1.1
 have c2:=QoO s.k.lg (by omega) torn
 have c3:=fun d=>QoO ⟨s.k.lg.f,s.k.lg.es,d⟩ (by dsimp only; omega) torn
 have h0:crQ s (s.v,s.k.lg,torn):=⟨hs.2,rfl,rfl,fun h=>h⟩
 (unfold Tryz.f129; refine rn trivial ?_)
 refine rn F ?_
 repeat' (first
  | with_reducible exact⟨⟩
  | (refine Qb (id:=1) [0,1,2,3] [⟨[4,5],[4],6,[2,3],[]⟩,⟨[5],[5],7,[],[]⟩] (by kernel_rfl) (by kernel_rfl) ?_; refine rn F ?_))
 refine vp hl c1 ?_
 rcases QbY s.k.pl id with hn | ⟨_,i,hi,hfi,_⟩
 ·rw [hn]
  refine rn @hl ?_
  refine rn F ?_
  repeat' (first
   | with_reducible exact⟨⟩
   | refine vp F (c2) ?_
   | (refine Qb (id:=9) [0,1,2,3] [⟨[],[],4,[0,1],[]⟩,⟨[],[],5,[1,2,3],[]⟩,⟨[],[],6,[],[]⟩] (by kernel_rfl) (by kernel_rfl) ?_; refine rn F ?_))
  exact⟨rfl,rfl,(s.v,s.k.lg,torn),rfl,h0⟩
 ·rw [hfi]
  have hg:=Qb9 s.k.pl.fs i hi
  generalize s.k.pl.fs.getD i Fm0=f at *
  have c4:=Qno f.pg
  have c5:=QeE s.k hs.1 f.pg.lsn
  refine rn @hg ?_
  have c6:=fun b (hb:b.length<=256)=>QBt s.v (JH hs.2 (by decide)) id b (JH hb (by decide)) cut
  have F:=@hg
  refine rn F ?_
  repeat' (first
   | with_reducible exact⟨⟩
   | (refine sB F ?_ ?_<;>intro hZ)
   | refine vp F (c2) ?_
   | (refine Qr (c4) rfl ?_; rintro⟨b,e1⟩ hb; refine rn F ?_)
   | (refine Qr (c5) rfl ?_; rintro d hd; refine rn F ?_)
   | (refine Qr (c6 b hb) rfl ?_; rintro⟨v2,e2⟩ hv; refine rn F ?_)
   | refine vp F (c3 d) ?_
   | (refine Qb (id:=5) [0,1,2,3,4,5,6,7,8] [⟨[],[],9,[1,2,3,4,5,6,7],[]⟩,⟨[],[],10,[],[]⟩] (by kernel_rfl) (by kernel_rfl) ?_; refine rn F ?_)
   | (refine Qb (id:=9) [0,1,2,3] [⟨[],[],4,[0,1],[]⟩,⟨[],[],5,[1,2,3],[]⟩,⟨[],[],6,[],[]⟩] (by kernel_rfl) (by kernel_rfl) ?_; refine rn F ?_))
  all_goals first
   | exact⟨rfl,rfl,(s.v,s.k.lg,torn),rfl,h0⟩
   | exact⟨rfl,rfl,(v2,⟨s.k.lg.f,s.k.lg.es,d⟩,torn),rfl,hv,rfl,rfl,hd⟩
   | exact⟨rfl,rfl,(s.v,⟨s.k.lg.f,s.k.lg.es,d⟩,torn),rfl,hs.2,rfl,rfl,hd⟩
   | skip
end
section
attribute [local go_sem] Qbo
def CrK(k k':Kn):Prop:=∃ j,j<=k.lg.es.length/\CrR ⟨k.lg.f,k.lg.es.take j,k.lg.f+j-1⟩ k.pg k.pl.size k'
structure ICr(I:Nat->Kn->Prop):Prop where
 st:Qrp I
 ok:∀ m k,I m k->lgB k.lg=true
 cr:∀ m k k',CrK k k'->I m k->I (m+1) k'
def QDi(hI:ICr I)(hf:y.f=k.lg.f)(he:y.es=k.lg.es)(hv:lgB k.lg=true->lgB y=true)(h:CrR (Qce (Qdu y t)).1 k.pg k.pl.size k')(m:Nat)(hm:I m k):I (m+1) k':=by
 obtain⟨n,h1,h2,h3⟩:=QqZ (hv (hI.ok m k hm)) t
 rw[h3] at h
 dsimp only at h
 rw[hf,he] at h
 exact hI.cr m k k' ⟨n,by rw[<- he]; omega,h⟩ hm
def Qvz(hx:x.es.length<=4096)(t:Int):(Qdu x t).length<=100000000:=by
 have h9:=Qmf x.f
 have h8:=Qpp x.es x.d
 have h7:=QoN x.es x.d
 unfold Qdu
 split
 ·rw [Ja,Ja,Jo]
  omega
 ·exact Ji _
structure Tz(n:Nat) where
 i:Nat
 l:List Int
 hi:i<=n
 hl:l.length=n
def crI(I:Nat->Kn->Prop)(c:Sc)(n m:Nat)(c':Sc)(_:Rs):Prop:=m=0/\c'.sm n/\∀ q,I q c.s.k->I (q+1) c'.s.k
def Qty(I:Nat->Kn->Prop)(hIc:ICr I)(c:Sc)(n:Nat)(hn:n<=2000)(hc:c.sm n)(t:Sp):VCalls prog 116 [.ptr 0 0,.agg t.d] [scB c 1 2,scT c.tx,scR c.rd] (ScEnd rsD (crI I c n)):=by
 refine QT (fn:=Tryz.f116) Tryz.func116 rfl (by kernel_rfl) (by simp[Tryz.f116]) ?_
 have c1:=Qs0 c.s hc.1 t.torn t.pg t.cut
 (unfold Tryz.f116; refine rn trivial ?_)
 refine rn F ?_
 repeat' (first
  | with_reducible exact⟨⟩
  | (refine Qr (c1) rfl ?_; rintro⟨v,y,tn⟩ hq; refine rn F ?_)
  | (refine Qbh (id:=1) [[],[0],[0,1],[0,1,2],[],[4],[],[6],[],[8],[0,1,2,3,4,5,6,7,8,9],[0,1,2,3,4,5,6,7,8,9,10],[0,1,2,3,4,5,6,7,8,9,10,11],[0,1,2,3,4,5,6,7,8,9,10,11],[],[0,1,2,3,4,5,6,7,8,9,10,11,12,14],[0,1,2,3,4,5,6,7,8,9,10,11,12,13,14,15]] [0,1,2,3,4,5,6,7,8,9] [⟨[14],[],10,[],[11,12,13]⟩,⟨[14],[14],15,[13],[]⟩,⟨[],[],16,[],[]⟩] (by kernel_rfl) (by kernel_rfl) (by kernel_rfl) ?_; refine rn F ?_)
  | (refine Qbh (id:=2) [[],[],[],[2],[2,3],[2,3,4],[2,3,4,5],[2,3,4,5,6],[],[8],[8,9],[8,9,10],[8,9,10,11],[8,9,10,11,12],[8,9,10,11,12,13],[0,1,2,3,4,5,6,7,8,9,10,11,12,13,14],[0,1,2,3,4,5,6,7,8,9,10,11,12,13,14,15],[0,1,2,3,4,5,6,7,8,9,10,11,12,13,14,15,16],[0,1,2,3,4,5,6,7,8,9,10,11,12,13,14,15,16],[],[0,1,2,3,4,5,6,7,8,9,10,11,12,13,14,15,16,17,19],[0,1,2,3,4,5,6,7,8,9,10,11,12,13,14,15,16,17,18,19,20]] [0,1,2,3,4,5,6,7,8,9,10,11,12,13,14] [⟨[19],[],15,[],[16,17,18]⟩,⟨[19],[19],20,[18],[]⟩,⟨[],[],21,[],[]⟩] (by kernel_rfl) (by kernel_rfl) (by kernel_rfl) ?_; refine rn F ?_))
 obtain⟨q1,q2,q3,q4⟩:=hq
 dsimp only at q1 q2 q3 q4
 have c2:=Qs6 v q1 (Qdu y tn) (Qvz (by rw[q3]; exact hc.1.1.1) tn) c.s.k.pg c.s.k.pl.size
 have hI:=fun(k':Kn) (h:CrR (Qce (Qdu y tn)).1 c.s.k.pg c.s.k.pl.size k')=>QDi hIc q2 q3 q4 h
 generalize Qdu y tn=str at *
 generalize Qce str=o at *
 refine rn F ?_
 repeat' (first
  | with_reducible exact⟨⟩
  | (refine Qr (c2) rfl ?_; rintro⟨s2,e⟩ hk; refine rn F ?_))
 obtain⟨k1,k2⟩:=hk
 dsimp only at k1 k2
 refine Qj (fun r:Tz c.tx.length=>⟨70,3,[(9,.int .i64 r.i),(8,.int .i64 e),(7,.ptr 4 0),(4,.ptr 3 0),(0,.ptr 0 0)],[scB ⟨c.s,r.l,c.rd,c.dead⟩ 1 2,scT r.l,scR c.rd,⟨173,true,[.int .i64 0,.int .i64 0,.int .i64 0,.bool false,.pv (.str []),.int .i64 0]⟩,⟨101,true,s2.d⟩]⟩) (fun r=>c.tx.length-r.i) ⟨0,c.tx,Ji _,rfl⟩ (gc [0,1,2,4,6]) ?_
 rintro⟨i,l,hi,hl⟩
 dsimp only
 have hsm:∀ (z:Sv) (d:Bool),z.sm->(⟨z,l,c.rd,d⟩:Sc).sm n:=fun z d hz=>⟨hz,by dsimp only; rw[hl]; exact hc.2.1,hc.2.2⟩
 have htx:=hc.2.1
 by_cases hil:i<c.tx.length
 ·have hil2:i < l.length:=by omega
  have hset:=QdV l i 0
  have F:=@hil2
  refine rn F ?_
  refine⟨⟨i+1,l.set i 0,hil,by rw[JB]; exact hl⟩,by dsimp only; omega,?_⟩
  dsimp only
  rw[JB]
  exact(gc [0,1,2,3,4])
 have hil2:¬ i<l.length:=by omega
 by_cases he:e=0
 ·subst he
  have c3:=QeD 0
  have F:=trivial
  refine rn F ?_
  repeat' (first
   | with_reducible exact⟨⟩
   | refine vp F (c3) ?_)
  exact QI ⟨70,3,[(4,.ptr 3 0)],[scB ⟨s2,l,c.rd,c.dead⟩ 1 2,scT l,scR c.rd,⟨173,true,(Qf8 0).d⟩]⟩ (gc [0,1,2,3]) ⟨⟨s2,l,c.rd,c.dead⟩,Qf8 0,_,rfl,rfl,.inl ⟨⟨rfl,hsm s2 _ k1,hI s2.k (k2 rfl).2⟩,rfl⟩⟩
 ·have c3:=QeD e
  have F:=@he
  refine rn F ?_
  repeat' (first
   | with_reducible exact⟨⟩
   | refine vp F (c3) ?_)
  exact QI ⟨70,3,[(4,.ptr 3 0)],[scB ⟨c.s,l,c.rd,true⟩ 1 2,scT l,scR c.rd,⟨173,true,(Qf8 e).d⟩]⟩ (gc [0,1,2,3]) ⟨⟨c.s,l,c.rd,true⟩,Qf8 e,_,rfl,rfl,.inl ⟨⟨rfl,hsm c.s _ hc.1,fun q=>hIc.st q 1 _ _ (Str.refl _)⟩,rfl⟩⟩
def Qxl(I:Nat->Kn->Prop)(hIc:ICr I)(c:Sc)(n:Nat)(hn:n<=2000)(hc:c.sm n)(t:Sp)(ht:t.kind=6):QhP I c n t:=by
 refine QT (fn:=Tryz.f94) Tryz.func94 rfl (by kernel_rfl) (by simp[Tryz.f94]) ?_
 obtain⟨k,tx,pg,torn,cut,a⟩:=t
 dsimp only at ht
 subst ht
 (unfold Tryz.f94; refine rn trivial ?_)
 refine Qk3 (c:=c) 0 1 2 (Qty I hIc c n hn hc ⟨6,tx,pg,torn,cut,a⟩) rfl rfl rfl (by decide) (by decide) (by decide) rfl rfl ?_ (fun _ _ h=>absurd h.1 (by decide)) (fun _ _ h=>absurd h.1 (by decide))
 rintro c1 r1 ⟨-,q1,q2⟩ B
 refine rn trivial ?_
 exact QI ⟨132,3,[(4,.ptr 3 0)],[scB c1 1 2,scT (Sc.tx c1),scR (Sc.rd c1),⟨173,true,Rs.d (r1)⟩]⟩ (gc [0,1,2,4]) ⟨c1,r1,_,rfl,rfl,.inl ⟨⟨⟨q1.1,JZ q1.2.1,JZ q1.2.2⟩,q2⟩,rfl⟩⟩
end
def Qy2(hc:CkV c)(hd:CkV d)(h:QaP c=QaP d):c.nx=d.nx:=by
 have h1:=(Qmy hc).1.2.2.1
 have h2:=(Qmy hd).1.2.2.1
 rw[h,h2] at h1
 exact h1.symm
def Cor.ckE(h:Cor es pg nx tx ix L)(h1:e.tx=0)(h2:e.kind=6)(hn:0<nx)(ht:QaF tx=true):Cor (es++[e]) pg nx tx ix L:=
 ⟨h.pgr,fun x hx=>by
  rcases Ju.1 hx with hx | hx
  ·exact h.ids x hx
  ·rw[Je.1 hx,h1]; exact hn,fun t q=>(h.ok t q).other (by have:=Qov ht q; omega),fun x hx h0=>by
  rcases Ju.1 hx with hx | hx
  ·exact(h.all x hx h0).imp id fun q=>(Qdp _ _ _).2 (.inl q)
  ·rw[Je.1 hx] at h0; omega,h.len,fun p hp=>by
  rw[Qbn _ _ _ fun q=>by omega]; exact h.row p hp,fun p n q=>by
  rw[Qbn _ _ _ fun q=>by omega]; exact h.la p n q,h.lt,fun x hx h7=>by
  rcases Ju.1 hx with hx | hx
  ·exact h.w7 x hx h7
  ·rw[Je.1 hx] at h7; omega⟩
def Cor.zero(h1:1<=pg/\pg<=64)(L:Int->Int->Prop)(hL:∀ p n,¬ L p n):Cor [] pg nx [] (Ku pg.toNat Rw0) L:=
 ⟨h1,fun e h=>by simp at h,fun t h=>by simp at h,fun x h=>by simp at h,by rw [List.length_replicate]; omega,fun p hp=>by
  have:(Ku pg.toNat Rw0).getD p Rw0=Rw0:=by
   rw[Jf,List.getElem?_replicate]; split<;>rfl
  rw[this]
  exact⟨JC _,fun _=>rfl⟩,fun p n h=>absurd h (hL p n),fun p n h=>absurd h (hL p n),fun e h=>by simp at h⟩
def QCg(h1:1<=n)(h2:n<=64):KI (Qrl n m):=
 ⟨QF5,rfl,LogOk.nil,Cor.zero ⟨h1,h2⟩ _ fun p n h=>by rcases h with⟨d,q,_⟩ | ⟨f,q,_⟩<;>simp[Qrl] at q,fun f q=>by simp[Qrl] at q⟩
def CkN(b:Int)(es:List E):Prop:=∀ e∈es,e.kind=6->∀ c,CkV c->e.blob=QaP c->c.nx<=b
def NoteR.cor(h:NoteR a e b)(hc:Cor es a.pg a.nx a.lo a.ix (LD a.la))(he:EnOk es e)(hlt:∀ x∈es,x.lsn<e.lsn):Cor (es++[e]) b.pg b.nx b.lo b.ix (LD b.la):=by
 obtain⟨h1,h2,h3,h4,h5,h6,h7,h8⟩:=h
 rw[h1,h3,h6]
 have h1':∀ p n,LD b.la p n->((e.kind=1\/e.kind=2)/\p=e.c.pg/\n=e.lsn)\/(LD a.la p n/\((e.kind=1\/e.kind=2)->p≠e.c.pg)):=fun p n q=>by
  by_cases hk:(e.kind=1\/e.kind=2)\/e.kind=7
  ·have D:=h8.2 hk
   obtain⟨d,d1,d2,d3⟩:=q
   rcases D.ha d d1 with⟨q1,q2⟩ | ⟨q1,q2,q3⟩ | ⟨q1,q2,z,q3,q4,q5,q6⟩
   ·exact .inr ⟨⟨d,q1,d2,d3⟩,fun _=>by rw[<- d2]; exact q2⟩
   ·exact .inl ⟨by simpa using q2,by omega,by omega⟩
   ·exact .inr ⟨⟨z,q3,by omega,by omega⟩,fun h=>by
    have:(e.kind==1||e.kind==2)=true:=by simpa using h
    rw[this] at q2; cases q2⟩
  ·rw [h8.1 (fun h=>hk (.inl h)) (fun h=>hk (.inr h))] at q
   exact .inr ⟨q,fun h=>absurd (.inl h) hk⟩
 have h2':∀ p,(∀ n,¬ LD b.la p n)->((∀ n,¬ LD a.la p n)\/(e.kind=7/\p=e.c.pg))/\((e.kind=1\/e.kind=2)->p≠e.c.pg):=fun p q=>by
  by_cases hk:(e.kind=1\/e.kind=2)\/e.kind=7
  ·have D:=h8.2 hk
   refine⟨?_,fun h hp=>?_⟩
   ·by_cases hp:p = e.c.pg
    ·by_cases h7':e.kind = 7
     ·exact .inr ⟨h7',hp⟩
     ·have hc1:e.kind = 1\/e.kind = 2:=hk.resolve_right h7'
      obtain⟨y,y1,y2⟩:=D.hc rfl (by simpa using hc1)
      exact absurd ⟨y,y1,by omega,rfl⟩ (q y.last)
    ·refine .inl fun n ⟨d,d1,d2,d3⟩=>q n ⟨d,?_,d2,d3⟩
     exact D.hb d (by rw[Jy]; exact d1) (by omega)
   ·obtain ⟨y,y1,y2⟩:=D.hc rfl (by simpa using h)
    exact q y.last ⟨y,y1,by omega,rfl⟩
  ·rw [h8.1 (fun h=>hk (.inl h)) (fun h=>hk (.inr h))] at q
   exact⟨.inl q,fun h=>absurd (.inl h) hk⟩
 have h3':e.kind=7->∀ n,¬ LD b.la e.c.pg n:=fun h7' n ⟨d,d1,d2,d3⟩=>by
  have D:=h8.2 (.inr h7')
  rcases D.ha d d1 with⟨q1,q2⟩ | ⟨q1,q2,q3⟩ | ⟨q1,q2,z,q3,q4,q5,q6⟩
  ·exact q2 d2
  ·have:e.kind = 1\/e.kind = 2:=by simpa using q2
   omega
  ·have:=hc.la e.c.pg z.last ⟨z,q3,q4,rfl⟩
   have:=he.ix h7'
   omega
 have hn:a.nx<=max a.nx (e.tx+1):=by omega
 rcases h4 with⟨q1,q2,q3⟩ | ⟨q1,q0,q2,q3⟩
 ·have hl1:=(QoY (Qdh q2).2)
  have hls:=Qt3 (Qdh q2).2
  rw[q3]
  exact hc.add he.ix hlt (by omega) q2 h5 hn (by omega) h1' h2' h3'
 ·have hls:=Qt3 (Qdh q2).2
  rw[q3]
  have hfr:∀ x∈es,x.tx≠e.tx:=fun x hx hxe=>by
   rcases hc.all x hx (by omega) with⟨t,t1,t2⟩ | q
   ·have:=(idT_mem (l:=a.lo) (a:=e.tx)).2 (JI.2 ⟨t,t1,by omega⟩)
    omega
   ·rw[hxe] at q; exact he.ne q1.1 q
  exact(hc.beginT (JC _) q0 hfr).add he.ix hlt (by omega) q2 h5 hn (by omega) h1' h2' h3'
section
attribute [local go_sem] cb cc
def QBf(c:C)(m n:Nat)(h1:1<=m)(h2:m<=1000)(h3:1<=n)(h4:n<=1000):VCalls prog 95 [.ptr 0 0,.int .i64 m,.int .i64 n,.bool true] [cb c] (CX fun r=>∃ t:Sp,r=.agg t.d):=by
 refine dd Tryz.func95 ?_
 (unfold Tryz.f95; refine rn trivial ?_)
 refine rn F ?_
 repeat' (first
  | with_reducible exact⟨⟩
  | (refine sB F ?_ ?_<;>intro hZ)
  | (refine Qa2 (k:=0) (QaM _ 16 (by omega) (by omega)) rfl rfl ?_; rintro _ _ ⟨_,rfl,_⟩; refine rn F ?_)
  | (refine Qa2 (k:=0) (QaM _ 4 (by omega) (by omega)) rfl rfl ?_; rintro _ _ ⟨_,rfl,_⟩; refine rn F ?_)
  | (refine Qa2 (k:=0) (QaM _ 90 (by omega) (by omega)) rfl rfl ?_; rintro _ _ ⟨_,rfl,_⟩; refine rn F ?_)
  | (refine Qa2 (k:=0) (QaM _ 257 (by omega) (by omega)) rfl rfl ?_; rintro _ _ ⟨_,rfl,_⟩; refine rn F ?_)
  | (refine Qa2 (k:=0) (QaM _ m (by omega) (by omega)) rfl rfl ?_; rintro _ _ ⟨_,rfl,_⟩; refine rn F ?_)
  | (refine Qa2 (k:=0) (QaM _ n (by omega) (by omega)) rfl rfl ?_; rintro _ _ ⟨_,rfl,_⟩; refine rn F ?_)
  | (refine Qa2 (k:=0) (Qz1 _ ((m:Int)+1) (by omega) (by omega)) rfl rfl ?_; rintro _ _ ⟨_,rfl,_⟩; refine rn F ?_)
  | (refine Qa2 (k:=0) (QzB _ m h1 h2) rfl rfl ?_; rintro _ _ ⟨_,rfl,_⟩; refine rn F ?_))
 all_goals exact⟨_,rfl,rfl,Qcj _,rfl,⟨⟨_,_,_,_,_,⟨_,_,_,_⟩⟩,rfl⟩,_,rfl⟩
structure Sd1(most:Nat) where
 k:Nat
 c:C
 l:List Sp
 hk:k+l.length<=most+2
def Qxe(c:C)(m most:Nat)(h1:1<=m)(h2:m<=1000)(hm:most<=1000):VCalls prog 74 [.ptr 0 0,.int .i64 m,.int .i64 most,.bool true] [cb c] (CX fun r=>∃ l:List Sp,r=.pv (.sl (fz Qn3 l))/\l.length<=most+2):=by
 refine dd Tryz.func74 ?_
 (unfold Tryz.f74; refine rn trivial ?_)
 refine Qa2 (k:=0) (c:=c) (Qz1 c ((most:Int)+1) (by omega) (by omega)) rfl rfl ?_
 rintro _ c1 ⟨k,rfl,hk⟩
 refine rn trivial ?_
 refine Qj (fun s:Sd1 most=>⟨30,1,[(10,.int .i64 s.k),(9,.own 1 9 0 s.l.length),(3,.bool true),(1,.int .i64 m),(0,.ptr 0 0)],[cb s.c,⟨178,true,cells Qn3 s.l⟩]⟩) (fun s=>s.k) ⟨k,c1,[spB,spB],by simp; omega⟩ (gc [0,1]) ?_
 rintro⟨k,c2,l,hk⟩
 dsimp only
 have hb:(l.length+1)*80<=140737488355328:=by omega
 by_cases hc:0<k
 ·obtain ⟨k,rfl⟩:∃ k':Nat,k = k' + 1:=⟨k - 1,by omega⟩
  have hkk:((k+1:Nat):Int)-1=k:=by omega
  have F:=(Jb @hb @hkk)
  refine rn F ?_
  refine Qa2 (k:=0) (c:=c2) (QBf c2 m 5 h1 h2 (by omega) (by omega)) rfl rfl ?_
  rintro _ c3 ⟨t,rfl⟩
  have F:=(Jb @hb (Jb @QHp @hkk))
  refine rn F ?_
  have hl2:(l++[t]).length=l.length+1:=by simp
  refine⟨⟨k,c3,l++[t],by rw[hl2]; omega⟩,by dsimp only; omega,?_⟩
  dsimp only
  rw[hl2]
  exact(gc [0,3])
 ·skip
  have F:=@hb
  refine rn F ?_
  exact⟨_,rfl,rfl,Qcj _,rfl,⟨l,rfl,by omega⟩,_,rfl⟩
def Qqb(I:Nat->Kn->Prop)(hI:ICr I)(h0:∀ n m:Int,1<=n->n<=4->1<=m->m<=64->I 0 (Qrl n m))(c:C)(most:Nat)(hm:most<=1000):VCalls prog 42 [.ptr 0 0,.int .i64 most,.bool true] [cb c] (CX fun r=>∃ s:Sv,r=.agg s.d/\s.sm/\∃ i,i<=most+2/\I i s.k):=by
 refine dd Tryz.func42 ?_
 (unfold Tryz.f42; refine rn trivial ?_)
 refine Qa2 (k:=0) (c:=c) (QaM c 4 (by omega) (by omega)) rfl rfl ?_
 rintro _ c1 ⟨x,rfl,hx⟩
 obtain⟨m,hm1,hm2⟩:∃ m:Nat,1+(x:Int)=m/\m<=4:=⟨1+x,by omega,by omega⟩
 refine rn @hm1 ?_
 refine Qa2 (k:=0) (c:=c1) (QaM c1 3 (by omega) (by omega)) rfl rfl ?_
 rintro _ c2 ⟨y,rfl,hy⟩
 refine rn trivial ?_
 refine Qr (QEx m (1+y) (by omega) (by omega)) rfl ?_
 rintro⟨s,e⟩ ⟨hs,he,hg⟩
 dsimp only at hs he hg
 subst he
 refine rn F ?_
 repeat' (first
  | with_reducible exact⟨⟩
  | (refine Qb (id:=3) [0,1,2,3,4] [⟨[],[],5,[0],[]⟩,⟨[],[],6,[1,2,3,4],[7,8,9,10]⟩,⟨[],[],11,[9,10],[]⟩] (by kernel_rfl) (by kernel_rfl) ?_; refine rn F ?_))
 refine Qa2 (k:=0) (c:=c2) (Qxe c2 m most (by omega) (by omega) hm) rfl rfl ?_
 rintro _ c3 ⟨l,rfl,hl⟩
 have c9:=QEz I hI.st s hs l (fun i _ hk c n hn hc=>Qxl I hI c n hn hc _ hk)
 refine rn trivial ?_
 refine Qr c9 rfl ?_
 rintro⟨s1,out,rd⟩ ⟨q1,q2⟩
 refine rn trivial ?_
 exact⟨_,rfl,rfl,Qcj _,rfl,⟨s1,rfl,q1,by
  obtain⟨i,q3,q4⟩:=q2 (by rw[hg]; exact h0 _ _ (by omega) (by omega) (by omega) (by omega))
  exact⟨i,by omega,q4⟩⟩,_,rfl⟩
def Qun(I:Nat->Kn->Prop)(hI:ICr I)(h0:∀ n m:Int,1<=n->n<=4->1<=m->m<=64->I 0 (Qrl n m))(c:C)(most:Nat)(hm:most<=1000):VCalls prog 15 [.ptr 0 0,.int .i64 most,.bool true] [cb c] (CX fun r=>∃ k:Kn,r=.agg k.d/\k.sm/\∃ i,i<=most+2/\I i k):=by
 refine dd Tryz.func15 ?_
 (unfold Tryz.f15; refine rn trivial ?_)
 refine Qa2 (k:=0) (c:=c) (Qqb I hI h0 c most hm) rfl rfl ?_
 rintro _ c1 ⟨s,rfl,hs,hi⟩
 refine rn trivial ?_
 exact⟨_,rfl,rfl,Qcj _,rfl,⟨s.k,rfl,hs.1,hi⟩,_,rfl⟩
end
def AnC.cor (h:AnC x n i a) (hv:lgB x = true) (hf:x.f = 1) (hlog:LogOk x.es) (hb1:1<=b) (hb2:∀ e ∈ x.es,e.tx < b) (hb3:CkN b x.es) (hn:1<=n/\n<=64):
 a.pg=n/\a.nx<=b/\∃ m:Nat,a.cp=m/\m<=x.es.length/\Cor (x.es.take (max i m)) n a.nx a.lo a.ix (LD a.la):=by
 induction h with
 | @init a h =>
   obtain⟨h1,h2⟩:=h
   refine⟨h1,?_⟩
   rcases h2 with⟨_,q2,q3,q4,q5,q6⟩ | ⟨i0,l1,l2,l3,l4,l5⟩
   ·refine ⟨by omega,0,by omega,Ji _,?_⟩
    rw[Nat.max_self,JE,q4,q6]
    exact Cor.zero hn _ fun p m ⟨d,q,_⟩=>by rw[q5] at q; simp at q
   ·have hat:=Qaw hv l1
    have hm:x.es.getD i0 E0∈x.es:=by rw[Qc _ _ l1]; exact Jd l1
    rcases(hlog i0 l1).ck l2 with q | ⟨c,c1,c2,c3⟩
    ·exact absurd q l4
    obtain⟨g1,g2,g3,g4,g5⟩:=l5 c c1 c2
    have hnx:=hb3 _ hm l2 c c1 c2
    refine⟨by omega,i0+1,by rw[l3,hat.1,hf]; omega,l1,?_⟩
    rw[Nat.max_eq_right (Ji _),Jv l1,<- Qc _ _ l1 E0,g2,g3,g4,g5,<- g1]
    refine c3.ckE ?_ l2 (by have:=c1.2.1; omega) c1.2.2.1
    by_cases h:(x.es.getD i0 E0).tx=0
    ·exact h
    ·have:=QdN hat.2 h; omega
 | @skip i a h hi hl ih =>
   obtain⟨h1,h2,m,h3,h4,h5⟩:=ih
   have hat:=(Qaw hv hi).1
   refine⟨h1,h2,m,h3,h4,?_⟩
   rw[show max (i+1) m=max i m by omega]
   exact h5
 | @note i a b' h hi hl hr ih =>
   obtain⟨h1,h2,m,h3,h4,h5⟩:=ih
   have hat:=(Qaw hv hi).1
   obtain⟨r1,r2,r3,_⟩:=id hr
   have hm:x.es.getD i E0∈x.es:=by rw[Qc _ _ hi]; exact Jd hi
   have:=hb2 _ hm
   refine⟨by omega,by omega,m,by omega,h4,?_⟩
   rw[show max i m=i by omega,<- h1] at h5
   rw[show max (i+1) m=i+1 by omega,Jv hi,<- Qc _ _ hi E0]
   have hc:=hr.cor h5 (hlog i hi) fun y hy=>by
    obtain⟨j,hj,rfl⟩:=Jq.1 hy
    rw[Jo] at hj
    rw[JL]
    have:=(Qaw hv (i:=j) (by omega)).1
    rw[Qc _ _ (by omega)] at this
    omega
   rw[r1,h1] at hc
   exact hc
def QF0(hv:lgB x=true)(hf:x.f=1)(hlog:LogOk x.es)(hfs:(adK x (loF a lk) m).pl.fs=[])(hc:Cor x.es a.pg a.nx a.lo a.ix (LD a.la)):KI (adK x (loF a lk) m):=by
 have hL:∀ p n,LkK (adK x (loF a lk) m) p n ↔ LD a.la p n:=fun p n=>by
  unfold LkK
  rw[hfs]
  constructor
  ·rintro (h | ⟨f,h,_⟩)
   ·exact h
   ·simp at h
  ·intro h; exact .inl h
 have hc2:=hc.weak (JC _) (L':=LkK (adK x (loF a lk) m)) (fun p n q=>(hL p n).1 q) fun p q n h=>q n ((hL p n).2 h)
 refine⟨hv,hf,hlog,hc2.same (JC _) (fun t q=>hc.ok t (Jg.1 q).1) fun y hy h0 ⟨t,q1,q2⟩=>⟨t,Jg.2 ⟨q1,?_⟩,q2⟩,fun f q=>by rw[hfs] at q; simp at q⟩
 have:=Ql6 x.es (a:=t.id) (fun z hz=>(QnN hv hf hz).1) ⟨y,hy,q2.symm⟩
 have:=(hc.ok t q1).n
 simp
 omega
def CkN.snoc(h:CkN b es)(he:e.kind=6->∀ c,CkV c->e.blob=QaP c->c.nx<=b):CkN b (es++[e]):=fun x hx=>by
 rcases Ju.1 hx with hx | hx
 ·exact h x hx
 ·rw[Je.1 hx]; exact he
def CkN.mono(h:CkN b es)(hb:b<=b'):CkN b' es:=fun e he h6 c hc hq=>Int.le_trans (h e he h6 c hc hq) hb
def c16(e:E):Bool:=decide (e.kind=1)||decide (e.kind=6)
structure CI(m:Nat)(k:Kn):Prop where
 nx:k.nx<=1+m
 ck:CkN (1+m) k.lg.es
 n16:(k.lg.es.filter c16).length<=m
 no8:∀ e∈k.lg.es,e.kind≠8
def CI.mono(h:CI m k)(hm:m<=m'):CI m' k:=⟨by have:=h.nx; omega,h.ck.mono (by omega),JH h.n16 hm,h.no8⟩
def CI.app(h:CI m k)(ha:AddOk k e e')(h1:k'.nx=k.nx)(h2:k'.lg.es=k.lg.es++[e'])(h6:e'.kind=6->∀ c,CkV c->e'.blob=QaP c->c.nx<=1+(m+n:Nat))(hn:e.kind=1\/e.kind=6->1<=n)(h8:e.kind≠8):CI (m+n) k':=by
 have s:=ha.2.1.1
 refine⟨by rw[h1]; have:=h.nx; omega,by rw[h2]; exact(h.ck.mono (by omega)).snoc h6,?_,fun x hx=>?_⟩
 ·rw [h2,JV,Ja]
  have:=h.n16
  by_cases hc:c16 e'=true
  ·have hk:e.kind = 1\/e.kind = 6:=by unfold c16 at hc; rw [s] at hc; simpa using hc
   have:=hn hk
   rw[J1 hc,JK,JN]
   omega
  ·rw [J2 hc,JK,J7]
   omega
 ·rw [h2] at hx
  rcases Ju.1 hx with hx | hx
  ·exact h.no8 x hx
  ·rw[Je.1 hx,s]; exact h8
def CI.add(h:CI m k)(ha:AddOk k e e')(h1:k'.nx=k.nx)(h2:k'.lg.es=k.lg.es++[e'])(hk:e.kind=2\/e.kind=3\/e.kind=4\/e.kind=5\/e.kind=7):CI m k':=
 h.app (n:=0) ha h1 h2 (fun q=>by have:=ha.2.1.1; omega) (fun q=>by omega) (by omega)
def Stp.ci (h:Stp n k k') (hc:CI m k):CI (m + n) k':=by
 cases h with
 | begin v hb=>exact⟨by have:=hc.nx; show k.nx+1<=_; omega,hc.ck.mono (by omega),JZ hc.n16,hc.no8⟩
 | fin ha h3 hf=>exact hc.add ha rfl rfl (by omega)
 | ckpt ha h6 hk =>
   refine hc.app ha rfl rfl (fun _ c c1 c2=>?_) (fun _=>Jr _) (by omega)
   rw[ha.2.1.2.2.2.2] at c2
   rcases hk with q | ⟨c0,q1,q2,q3⟩
   ·have:=(Qmy c1).1.1
    rw[<- c2,q] at this
    simp at this
   ·have:=Qy2 c1 q2 (c2.symm.trans q3)
    rw[this,q1.nx]
    have:=hc.nx
    omega
 | @change _ e e' ha h1 hs hu=>exact hc.app (k':=k.set e') ha rfl rfl (fun q=>by have:=ha.2.1.1; omega) (fun _=>Jr _) (by omega)
 | undo ha h2 hs hu=>exact hc.add ha rfl rfl (by omega)
 | wrt ha h7 hw=>exact hc.add ha rfl rfl (by omega)
 | lock u=>exact⟨hc.nx,hc.ck,hc.n16,hc.no8⟩
 | save a h=>exact⟨hc.nx,hc.ck,hc.n16,hc.no8⟩
 | back a b h=>exact⟨hc.nx,hc.ck,hc.n16,hc.no8⟩
 | rem a hi hn=>exact⟨hc.nx,hc.ck,hc.n16,hc.no8⟩
 | pool p hs=>exact⟨hc.nx,hc.ck,hc.n16,hc.no8⟩
 | drop a h=>exact⟨hc.nx,hc.ck,hc.n16,hc.no8⟩
 | put x v hr hl _ _=>exact⟨hc.nx,hc.ck,hc.n16,hc.no8⟩
 | putl x v hr hl _ _=>exact⟨hc.nx,hc.ck,hc.n16,hc.no8⟩
 | force d h=>exact⟨hc.nx,hc.ck,hc.n16,hc.no8⟩
def Str.ci(h:Str n k k')(hc:CI m k):CI (m+n) k':=by
 induction h generalizing m with
 | refl k=>exact hc.mono (by omega)
 | step _ h2 ih=>rw[<- Nat.add_assoc]; exact h2.ci (ih hc)
def CrK.go(h:CrK k k')(hk:KI k)(hc:CI m k):KI k'/\CI m k':=by
 obtain⟨j,hj,hv,hn,a,lk,h1,h2,h3,h4⟩:=h
 have hsub:∀ e∈k.lg.es.take j,e∈k.lg.es:=fun e he=>Kc he
 have hckn:CkN (1+m) (k.lg.es.take j):=fun e he=>hc.ck e (hsub e he)
 have hnx:=hc.nx
 obtain⟨g1,g2,mm,g3,g4,g5⟩:=h1.cor hv hk.f (hk.log.take j) (b:=1+m) (by omega) (fun e he=>by have:=hk.cor.ids e (hsub e he); omega) hckn hn
 dsimp only at g4 g5
 rw[J5 (l:=k.lg.es.take j) (by omega),<- g1] at g5
 have hK:=QF0 (lk:=lk) (m:=k.pl.size) hv hk.f (hk.log.take j) h3 g5
 have:=h4.ci (m:=m) ⟨g2,hckn,JH ((List.take_sublist j k.lg.es).filter _).length_le hc.n16,fun e he=>hc.no8 e (hsub e he)⟩
 exact⟨h4.KI hK,this⟩
def I0(m:Nat)(k:Kn):Prop:=KI k/\CI m k
def QHy:ICr I0:=
 ⟨fun n m k k' h hi=>⟨h.KI hi.1,h.ci hi.2⟩,fun m k h=>h.1.lg,fun m k k' h hi=>by
  obtain⟨h1,h2⟩:=h.go hi.1 hi.2
  exact⟨h1,h2.mono (by omega)⟩⟩
def QF6(n m:Int)(h1:1<=n)(h2:n<=4):I0 0 (Qrl n m):=⟨QCg h1 (by omega),⟨by show(1:Int)<=_; omega,fun e he=>by simp[Qrl,Lg1] at he,by simp[Qrl,Lg1],fun e he=>by simp[Qrl,Lg1] at he⟩⟩
def Qum(c:C)(most:Nat)(hm:most<=1000):VCalls prog 15 [.ptr 0 0,.int .i64 most,.bool true] [cb c] (CX fun r=>∃ k:Kn,r=.agg k.d/\k.sm/\KI k/\CI (most+2) k):=
 (Qun I0 QHy (fun n m h1 h2 _ _=>QF6 n m h1 h2) c most hm).mono fun r h' ⟨B',e1,e2,e3,e4,⟨k,q1,q2,i,q3,q4,q5⟩,e5⟩=>⟨B',e1,e2,e3,e4,⟨k,q1,q2,q4,q5.mono q3⟩,e5⟩
def Qcp(es:List E)(h:j<es.length):es.take (j+1)=es.take j++[es.getD j E0]:=by
 rw[Jv h,Qc _ _ h]
def Qkd{es:List E}(h:y∈es.take j):∃ k,k<j/\k<es.length/\es.getD k E0=y:=by
 obtain⟨k,hk,rfl⟩:=Jq.1 h
 rw[Jo] at hk
 exact⟨k,by omega,by omega,by rw[Qc _ _ (by omega),JL]⟩
def QoW (hv:lgB x = true) (hf:x.f = 1) (hlog:LogOk x.es) (a n:Int):∀ j,j<=x.es.length->(n ∈ Qbb (x.es.take j) a ↔ (∃ k,k < j/\(x.es.getD k E0).lsn = n/\(x.es.getD k E0).kind = 1/\(x.es.getD k E0).tx = a)/\∀ q,q < j->(x.es.getD q E0).kind = 2->(x.es.getD q E0).ref ≠ n)
 | 0,_=>by simp[Qbb]
 | j + 1,hj=>by
   have ih:=QoW hv hf hlog a n j (by omega)
   have hat:=(Qaw hv (i:=j) (by omega)).1
   have ho:=(Qaw hv (i:=j) (by omega)).2
   have he:=hlog j (by omega)
   rw[Qcp _ (by omega),QbL]
   have hu:∀ k,k<j->(x.es.getD k E0).lsn≠(x.es.getD j E0).lsn:=fun k hk=>by
    have:=(Qaw hv (i:=k) (by omega)).1
    omega
   have hr:(x.es.getD j E0).kind=2->∃ k,k<j/\(x.es.getD k E0).lsn=(x.es.getD j E0).ref/\(x.es.getD k E0).tx=(x.es.getD j E0).tx:=fun q=>by
    obtain⟨_,y,y1,y2,_,y3,_⟩:=he.un q
    obtain⟨k,k1,_,rfl⟩:=Qkd y1
    exact⟨k,k1,y2,y3⟩
   have hlt:∀ q,q<x.es.length->(x.es.getD q E0).kind=2->(x.es.getD q E0).ref<1+q:=fun q hq h2=>by
    obtain⟨_,y,y1,y2,_⟩:=(hlog q hq).un h2
    obtain⟨k,k1,_,rfl⟩:=Qkd y1
    have:=(Qaw hv (i:=k) (by omega)).1
    omega
   constructor
   ·intro h
    have old:n∈Qbb (x.es.take j) a->((x.es.getD j E0).kind=2->(x.es.getD j E0).ref≠n)->(∃ k,k<j+1/\(x.es.getD k E0).lsn=n/\(x.es.getD k E0).kind=1/\(x.es.getD k E0).tx=a)/\∀ q,q<j+1->(x.es.getD q E0).kind=2->(x.es.getD q E0).ref≠n:=fun h h'=>by
     obtain⟨⟨k,k1,k2⟩,q⟩:=ih.1 h
     refine⟨⟨k,by omega,k2⟩,fun r hr=>?_⟩
     by_cases hrj:r=j
     ·subst hrj; exact h'
     ·exact q r (by omega)
    split at h
    ·rename_i ht
     split at h
     ·rename_i hk
      rcases Ju.1 h with h | h
      ·exact old h fun q=>by omega
      ·rw [Je.1 h]
       exact⟨⟨j,by omega,rfl,hk,ht⟩,fun q hq h2=>by have:=hlt q (by omega) h2; omega⟩
     split at h
     ·obtain ⟨h3,h4⟩:=Jg.1 h
      exact old h3 fun _ q=>of_decide_eq_true h4 q.symm
     ·rename_i hk hk2
      exact old h fun q=>absurd q hk2
    ·rename_i ht
     refine old h fun q hq=>?_
     obtain⟨k,k1,k2,k3⟩:=hr q
     obtain⟨⟨k',r1,r2,_,r4⟩,_⟩:=ih.1 h
     have e1:=(Qaw hv (i:=k) (by omega)).1
     have e2:=(Qaw hv (i:=k') (by omega)).1
     obtain rfl:k=k':=by omega
     exact ht (by rw[<- k3,r4])
   ·rintro ⟨⟨k,k1,k2,k3,k4⟩,q⟩
    by_cases hkj:k=j
    ·subst hkj
     rw[if_pos k4,if_pos k3,k2]
     simp
    ·have hm:n ∈ Qbb (x.es.take j) a:=ih.2 ⟨⟨k,by omega,k2,k3,k4⟩,fun r hr=>q r (by omega)⟩
     split
     ·split
      ·exact JD _ hm
      split
      ·rename_i h2
       exact Jg.2 ⟨hm,decide_eq_true fun h=>q j (by omega) h2 h.symm⟩
      ·exact hm
     ·exact hm
section
def QyU(T:List Tx)(e:E):List Tx:=if 0<e.tx/\idT T e.tx<0 then (QN T e.tx).1 else T
def QeW(es:List E):Nat->List Tx
 | 0=>[]
 | i+1=>(QJ (QyU (QeW es i) (es.getD i E0)) (es.getD i E0)).1
structure AscE(es:List E):Prop where
 lt:es.Pairwise fun a b=>a.lsn<b.lsn
 lo:∀ e∈es,1<=e.lsn/\e.lsn<=1099511627776
def QvW:∀ {l:List Int} {a m:Int},l.Pairwise (· < ·)->(∀ x ∈ l,a < x/\x<=m)->a<=m->(l.length:Int)<=m - a
 | [],a,m,_,_,h=>by simp; omega
 | x :: l,a,m,hp,hb,h=>by
   rw[Jj] at hp
   have h1:=hb x (by simp)
   have:=QvW (l:=l) (a:=x) (m:=m) hp.2 (fun y hy=>⟨hp.1 y hy,(hb y (JO _ hy)).2⟩) h1.2
   rw[Jl]
   omega
def QvY:∀ {l m:List Int},l.Pairwise (· < ·)->m.Pairwise (· < ·)->(∀ n,n ∈ l ↔ n ∈ m)->l = m
 | [],[],_,_,_=>rfl
 | [],y::m,_,_,h=>absurd ((h y).2 (by simp)) (by simp)
 | x::l,[],_,_,h=>absurd ((h x).1 (by simp)) (by simp)
 | x :: l,y :: m,hl,hm,h=>by
   rw[Jj] at hl hm
   have hxy:x=y:=by
    have h1:=(h x).1 (by simp)
    have h2:=(h y).2 (by simp)
    rw[Jk] at h1 h2
    rcases h1 with h1 | h1
    ·exact h1
    ·rcases h2 with h2 | h2
     ·exact h2.symm
     ·have:=hm.1 x h1
      have:=hl.1 y h2
      omega
   subst hxy
   congr 1
   refine QvY hl.2 hm.2 fun n=>⟨fun q=>?_,fun q=>?_⟩
   ·have h1:=(h n).1 (JO _ q)
    rw[Jk] at h1
    rcases h1 with rfl | h1
    ·have:=hl.1 n q; omega
    ·exact h1
   ·have h1:=(h n).2 (JO _ q)
    rw[Jk] at h1
    rcases h1 with rfl | h1
    ·have:=hm.1 n q; omega
    ·exact h1
def AscE.snoc(h:AscE (es++[e])):AscE es/\(∀ x∈es,x.lsn<e.lsn)/\1<=e.lsn/\e.lsn<=1099511627776:=by
 have h1:=JP.1 h.lt
 exact⟨⟨h1.1,fun x hx=>h.lo x (JD _ hx)⟩,fun x hx=>h1.2.2 x hx e (by simp),h.lo e (by simp)⟩
def Ql7(a:Int):∀ es:List E,AscE es->0<=Qbm es a/\Qbm es a<=1099511627776/\∀ n,(∀ x∈es,x.lsn<n)->0<n->Qbm es a<n:=by
 refine Qb4 (fun _=>⟨JC _,by simp[Qbm],fun n _ h=>h⟩) fun l e ih h=>?_
 obtain⟨h1,h2,h3,h4⟩:=h.snoc
 rw[QaA]
 split
 ·exact⟨by omega,h4,fun n hn _=>hn e (by simp)⟩
 ·exact⟨(ih h1).1,(ih h1).2.1,fun n hn h0=>(ih h1).2.2 n (fun x hx=>hn x (JD _ hx)) h0⟩
def QlI(a:Int):∀ es:List E,AscE es->(Qbb es a).Pairwise (·<·)/\(∀ n∈Qbb es a,1<=n/\n<=Qbm es a)/\(Qbb es a).length<=es.length:=by
 refine Qb4 (fun _=>⟨by simp[Qbb],fun n h=>by simp[Qbb] at h,by simp[Qbb]⟩) fun l e ih h=>?_
 obtain⟨h1,h2,h3,h4⟩:=h.snoc
 obtain⟨i1,i2,i3⟩:=ih h1
 have hb:=Ql7 a l h1
 rw[QbL,QaA,Ja,JN]
 by_cases ht:e.tx=a
 ·rw [if_pos ht,if_pos ht]
  have hlt:∀ n∈Qbb l a,n<e.lsn:=fun n hn=>Int.lt_of_le_of_lt (i2 n hn).2 (hb.2.2 e.lsn h2 (by omega))
  split
  ·refine ⟨JP.2 ⟨i1,by simp,fun x hx y hy=>by rw [Je.1 hy]; exact hlt x hx⟩,fun n hn=>?_,by rw [Ja,JN]; omega⟩
   rcases Ju.1 hn with hn | hn
   ·have:=hlt n hn; have:=i2 n hn; omega
   ·rw[Je.1 hn]; omega
  split
  ·refine ⟨i1.sublist JU,fun n hn=>?_,JH (List.length_filter_le _ _) (by omega)⟩
   have hn:=(Jg.1 hn).1
   have:=hlt n hn; have:=i2 n hn; omega
  ·exact⟨i1,fun n hn=>by have:=hlt n hn; have:=i2 n hn; omega,by omega⟩
 ·rw [if_neg ht,if_neg ht]
  exact⟨i1,i2,by omega⟩
def QDA(h:l.Pairwise (·<·))(hb:∀ n∈l,1<=n/\n<=hi):Qgy l 1 hi 1=true:=by
 unfold Qgy
 rw[JF]
 intro i hi'
 rw[JA] at hi'
 rw[Qbu]
 have h1:=hb l[i] (Jd hi')
 rw[Qc _ _ hi']
 refine⟨h1.1,h1.2,?_⟩
 by_cases h0:i=0
 ·exact .inl h0
 ·right
  rw[Qc _ _ (by omega)]
  have:=Jm.1 h (i-1) i (by omega) hi' (by omega)
  omega
structure FT(es:List E)(T:List Tx)(m:Int):Prop where
 ok:∀ t∈T,TxOk es t
 all:∀ x∈es,0<x.tx->(∃ t∈T,t.id=x.tx)\/Qvf es x.tx
 srt:(T.map (·.id)).Pairwise (·<·)
 idr:∀ t∈T,1<=t.id/\t.id<=m
 st:∀ t∈T,(t.st=1\/t.st=3)/\t.b=0/\t.s=[]
def FT.len(h:FT es T m)(hm:0<=m):(T.length:Int)<=m:=by
 have:=QvW (a:=0) (m:=m) h.srt (fun x hx=>by
  obtain⟨t,ht,rfl⟩:=JI.1 hx
  have:=h.idr t ht
  omega) hm
 rw[J8] at this
 omega
def FT.tbl(h:FT es T m)(ha:AscE es)(hl:es.length<=4096)(hm:0<=m/\m<=64):QaF T=true:=by
 have hlen:=h.len hm.1
 unfold QaF
 rw[Jc,JF]
 refine⟨decide_eq_true (by omega),fun i hi=>?_⟩
 rw[JA] at hi
 rw[Qd4,Qc _ _ hi]
 have hm':T[i]∈T:=Jd hi
 have h1:=h.ok _ hm'
 have h2:=h.idr _ hm'
 have h3:=h.st _ hm'
 have p:=QlI T[i].id es ha
 have q:=Ql7 T[i].id es ha
 refine⟨?_,?_⟩
 ·generalize T[i] = t at *
  obtain⟨id,st,n,b,l,s⟩:=t
  obtain⟨g1,g2,g3⟩:=h3
  have e1:=h1.n
  have e2:=h1.l
  dsimp only at *
  subst g2 g3 e1 e2
  unfold Tx.okB Tx.hdB
  dsimp only
  rw[QDA p.1 p.2.1]
  have:Qgy [] 0 (Qbm es id) 0=true:=rfl
  rw[this]
  simp only[Kv,Jc,decide_eq_true_eq,J6,J7]
  exact⟨⟨⟨⟨⟨⟨⟨⟨by omega,by omega⟩,by omega⟩,by omega⟩,q.1⟩,q.2.1⟩,.inl trivial⟩,by omega⟩,by omega⟩
 ·by_cases h0:i = 0
  ·exact .inl h0
  ·right
   rw[Qc _ _ (by omega)]
   have:=Jm.1 h.srt (i-1) i (by rw[J8]; omega) (by rw[J8]; omega) (by omega)
   rw[Kp,Kp] at this
   exact this
def FT.nil(m:Int):FT [] [] m:=⟨fun t h=>by simp at h,fun x h=>by simp at h,by simp,fun t h=>by simp at h,fun t h=>by simp at h⟩
def Qpd:∀ {l:List Tx} {t:Tx},(l.map (·.id)).Pairwise (· < ·)->t.id ∉ l.map (·.id)->((Qpe l t).map (·.id)).Pairwise (· < ·)
 | [],t,_,_=>by simp[Qpe,QmN,lo]
 | u :: l,t,h,hn=>by
   rw[JQ,Jj] at h
   rw[JQ,Jk] at hn
   by_cases hu:u.id<t.id
   ·have e:Qpe (u :: l) t = u :: Qpe l t:=by
     unfold Qpe QmN lo
     rw[List.takeWhile_cons_of_pos (by simpa using hu),Jl,JT,Ke]
     rfl
    rw[e,JQ,Jj]
    refine⟨fun x hx=>?_,Qpd h.2 fun q=>hn (.inr q)⟩
    obtain⟨v,hv,rfl⟩:=JI.1 hx
    rcases mem_insT.1 hv with rfl | hv
    ·exact hu
    ·exact h.1 _ (JI.2 ⟨v,hv,rfl⟩)
   ·have e:Qpe (u :: l) t = t :: u :: l:=by
     unfold Qpe QmN lo
     rw[List.takeWhile_cons_of_neg (by simpa using hu)]
     rfl
    have hlt:t.id<u.id:=by
     have:t.id≠u.id:=fun q=>hn (.inl q)
     omega
    rw[e,JQ,JQ,Jj,Jj]
    refine⟨fun x hx=>?_,h⟩
    rw[Jk] at hx
    rcases hx with rfl | hx
    ·exact hlt
    ·exact Int.lt_trans hlt (h.1 x hx)
def FT.begin(h:FT es T m)(ha:AscE es)(hl:es.length<=4096)(hm:0<=m/\m<64)(he:EnOk es e)(h0:0<e.tx)(hem:e.tx<=m)(hid:idT T e.tx<0):(QN T e.tx).2=0/\FT es (QN T e.tx).1 m:=by
 have ht:=h.tbl ha hl ⟨hm.1,by omega⟩
 have hlen:=h.len hm.1
 have e1:QN T e.tx=(Qpe T ⟨e.tx,1,0,0,[],[]⟩,0):=by
  unfold QN
  rw[if_neg (by rw[ht]; decide),if_neg (by omega),if_neg (by omega),if_neg (by omega)]
 have hno:e.tx ∉ T.map (·.id):=fun q=>by have:=idT_mem.2 q; omega
 have hfr:∀ x∈es,x.tx≠e.tx:=fun x hx q=>by
  rcases h.all x hx (by omega) with⟨t,t1,t2⟩ | q2
  ·exact hno (JI.2 ⟨t,t1,by omega⟩)
  ·rw[q] at q2; exact he.ne h0 q2
 rw[e1]
 refine⟨rfl,fun t q=>?_,fun x hx hx0=>(h.all x hx hx0).imp (fun⟨t,t1,t2⟩=>⟨t,mem_insT.2 (.inr t1),t2⟩) id,Qpd h.srt hno,fun t q=>?_,fun t q=>?_⟩
 ·rcases mem_insT.1 q with rfl | q
  ·exact TxOk.fresh hfr
  ·exact h.ok t q
 ·rcases mem_insT.1 q with rfl | q
  ·exact⟨by show 1<=e.tx; omega,hem⟩
  ·exact h.idr t q
 ·rcases mem_insT.1 q with rfl | q
  ·exact⟨.inl rfl,rfl,rfl⟩
  ·exact h.st t q
def FT.note{es:List E}{T:List Tx}{m:Int}(h:FT es T m)(ha:AscE es)(hl:es.length<=4096)(hm:0<=m/\m<64){e:E}(he:EnOk es e)(ho:e.okB=true)(hin:0<e.tx->0<=idT T e.tx):(QJ T e).2=0/\FT (es++[e]) (QJ T e).1 m:=by
 have ht:=h.tbl ha hl ⟨hm.1,by omega⟩
 have ok : (QJ T e).2=0:=by
  by_cases h0:e.tx=0
  ·unfold QJ
   rw[if_neg (by rw[ht]; decide),if_neg (by rw[ho]; decide),if_pos h0]
  ·have hp:0 < e.tx:=by have:=QoY ho; omega
   rcases Qy T e.tx with q | ⟨i,hi,q1,q2⟩
   ·have:=hin hp; omega
   ·rw [Qka ht ho h0 hi q1]
    have k:=h.ok _ (Jd hi)
    unfold Qhl
    have n1:¬ (e.ptx≠T[i].n\/(e.kind=2/\e.ref ∉ T[i].l)):=by
     rintro(q | ⟨q3,q4⟩)
     ·exact q (by rw[k.n,q2]; exact he.ptx hp)
     ·exact q4 (by rw[k.l,q2]; exact(he.un q3).1)
    rw[if_neg n1]
    split<;>rfl
 obtain⟨t1,t2⟩:=Qso h.ok h.all ok
 have key:∀ t∈(QJ T e).1,(1<=t.id/\t.id<=m)/\(t.st=1\/t.st=3)/\t.b=0/\t.s=[]:=fun t q=>by
  by_cases h0:e.tx=0
  ·rw[QdO ok h0] at q; exact⟨h.idr t q,h.st t q⟩
  ·obtain ⟨i,hi,q1,q2,_,_,q3⟩:=Qhk ok h0
   rcases q3 with⟨_,q3⟩ | ⟨q4,q3⟩
   ·rw [q3] at q; unfold QhR Qal at q
    have q:=(Jg.1 q).1
    exact⟨h.idr t q,h.st t q⟩
   ·rw [q3] at q
    rcases List.mem_or_eq_of_mem_set q with q | rfl
    ·exact⟨h.idr t q,h.st t q⟩
    ·have hm':T[i] ∈ T:=Jd hi
     have a1:=h.idr _ hm'
     have a2:=h.st _ hm'
     generalize T[i]=u at *
     have key2:(QaU u e).id=u.id/\((QaU u e).st=1\/(QaU u e).st=3)/\(QaU u e).b=0/\(QaU u e).s=[]:=by
      unfold QaU
      split
      ·exact⟨rfl,a2⟩
      split
      ·exact⟨rfl,a2⟩
      ·exact⟨rfl,.inr rfl,rfl,rfl⟩
     have:QF (QaU u e)=QaU u e:=by
      unfold QF
      rw[if_neg (by rintro⟨g,_⟩; have:=key2.2.1; omega)]
     rw[this]
     exact⟨by rw[key2.1]; exact a1,key2.2⟩
 refine⟨ok,t1,t2,?_,fun t q=>(key t q).1,fun t q=>(key t q).2⟩
 by_cases h0:e.tx=0
 ·rw[QdO ok h0]; exact h.srt
 ·obtain ⟨i,hi,q1,q2,_,_,q3⟩:=Qhk ok h0
  rcases q3 with⟨_,q3⟩ | ⟨q4,q3⟩
  ·rw [q3]; unfold QhR Qal
   exact h.srt.sublist (JU.map _)
  ·rw[Qhj ok (by omega)]; exact h.srt
section
variable {x:Lg} (hv:lgB x=true) (hf:x.f=1) (hlog:LogOk x.es)
include hv in
theorem Qgx(i:Nat)(hf:x.f=1):AscE (x.es.take i):=by
 have hd:=Qat hv
 simp only[Lg.hd] at hd
 refine⟨?_,fun e he=>?_⟩
 ·rw [Jm]
  intro a b ha hb hab
  rw[Jo] at ha hb
  have h1:=(Qaw hv (i:=a) (by omega)).1
  have h2:=(Qaw hv (i:=b) (by omega)).1
  rw[Qc _ _ (by omega)] at h1 h2
  rw[JL,JL]
  omega
 ·obtain ⟨k,k1,k2,rfl⟩:=Qkd he
  have h1:=(Qaw hv k2).1
  omega
include hv hf hlog in
theorem Qu8 {m:Int} (hm:0<=m/\m < 64) (hid:∀ e ∈ x.es,e.tx<=m):∀ i,i<=x.es.length->FT (x.es.take i) (QeW x.es i) m
 | 0,_=>by rw[JE]; exact FT.nil m
 | i + 1,hi=>by
   have hd:=Qat hv
   simp only[Lg.hd] at hd
   have ih:=Qu8 hm hid i (by omega)
   have ha:=Qgx hv i hf
   have hl:(x.es.take i).length<=4096:=by rw[Jo]; omega
   have hmem:x.es.getD i E0∈x.es:=by rw[Qc _ _ (by omega)]; exact Jd _
   have ho:=(Qaw hv (i:=i) (by omega)).2
   have he:=hlog i (by omega)
   rw[QeW,Qcp _ (by omega)]
   unfold QyU
   split
   ·rename_i hb
    obtain⟨b1,b2⟩:=ih.begin ha hl hm he hb.1 (hid _ hmem) hb.2
    refine(b2.note ha hl hm he ho fun _=>?_).2
    rw[QfC b1]
    exact idT_mem.2 (JI.2 ⟨_,mem_insT.2 (.inl rfl),rfl⟩)
   ·rename_i hb
    exact(ih.note ha hl hm he ho fun q=>by
     by_cases h:idT (QeW x.es i) (x.es.getD i E0).tx<0
     ·exact absurd ⟨q,h⟩ hb
     ·omega).2
end
end
section
attribute [local go_sem] Ce.d Ch.d E.d
theorem um3:prog.underlying 116=some (.map 3 4):=by kernel_rfl
def QHP:KeyT prog 3 kI:=Qyw (by kernel_rfl)
theorem z2:Qwl prog 3=some (.int .i64 0):=by kernel_rfl
theorem z3:Qwl prog 4=some (.bool false):=by kernel_rfl
def ckC(f:Int)(bt bp bu:Nat):List DV:=[.int .i64 f,.pv (.lit (.map (some bt))),.pv (.lit (.map (some bp))),.pv (.lit (.map (some bu)))]
def Qz8:List (Int×Int)->Int->Option Int
 | [],_=>none
 | (a,x)::r,k=>if a=k then some x else Qz8 r k
def QB0:List (Int×Int)->Int->Int->List (Int×Int)
 | [],k,v=>[(k,v)]
 | (a,x)::r,k,v=>if a=k then (a,v)::r else (a,x)::QB0 r k v
def QIn(L:List (Int×Int)):List (Int×DV):=L.map fun p=>(p.1,.int .i64 p.2)
def pagedB(f:Int)(L:List (Int×Int))(e:E):Bool:=match Qz8 L e.c.pg with
 | none=>decide (e.ppg<f)
 | some x=>decide (e.ppg=x)
def rnC(last:Int)(ea ab en:Bool)(p:DV):List DV:=[.int .i64 last,.bool ea,.bool ab,.bool en,p]
end
section
attribute [local go_sem] Ce.d Ch.d E.d QhS Qjc QiC QiW Qep
@[local go_sem] def Ch.inv (x:Ch):Ch:=⟨x.pg,x.sl,x.a,x.b⟩
@[local go_sem] def E.q (x:E):List PV:=[.lit (.int .i64 x.lsn),.lit (.int .i64 x.kind),.lit (.int .i64 x.tx),.lit (.int .i64 x.ptx),.lit (.int .i64 x.ppg),.lit (.int .i64 x.ref),.lit (.int .i64 x.c.pg),.lit (.int .i64 x.c.sl),.lit (.bool x.c.b.set),.str x.c.b.data,.lit (.bool x.c.a.set),.str x.c.a.data,.str x.blob]
@[local go_sem] def l2 (a b:List E):List (List PV):=[[.sl (fz QaR a)],[.sl (fz QaR b)]]
structure C2(a b:List E) where
 i:Nat
 hi:i<=2
def C2.n{a b:List E}(s:C2 a b):Nat:=match s.i with | 0=>0 | 1=>a.length | _=>a.length+b.length
def C2.l{a b:List E}(s:C2 a b):List E:=match s.i with | 0=>[] | 1=>a | _=>a++b
theorem C2.n1(a b:List E)(h:1<=2):(⟨1,h⟩:C2 a b).n=a.length:=rfl
theorem C2.n2(a b:List E)(h:2<=2):(⟨2,h⟩:C2 a b).n=a.length+b.length:=rfl
theorem C2.l0(a b:List E)(h:0<=2):(⟨0,h⟩:C2 a b).l=[]:=rfl
theorem C2.l1(a b:List E)(h:1<=2):(⟨1,h⟩:C2 a b).l=a:=rfl
theorem C2.l2(a b:List E)(h:2<=2):(⟨2,h⟩:C2 a b).l=a++b:=rfl
end
section
attribute [local go_sem] Ce.d Ch.d E.d QhS Qjc QiC QiW Qep E.q Ch.inv Jn
def QIg(U:List Int):List (Int×DV):=U.map fun x=>(x,.bool true)
def QGY(U:List Int)(x:Int):List Int:=if x∈U then U else U++[x]
def QcY(e x:E):Bool:=decide (x.lsn >= e.ref)
def QEw(e x:E):Bool:=decide (x.c.pg=e.c.pg)&&decide (x.c.sl=e.c.sl)
def QGl(P:List E)(j:Nat):List E:=P.take j++P.drop (j+1)
def eqC(x y:Ch):Bool:=x.pg==y.pg&&(x.sl==y.sl&&(x.b.set==y.b.set&&(x.b.data==y.b.data&&(x.a.set==y.a.set&&x.a.data==y.a.data))))
end
section
attribute [local go_sem] Ce.d Ch.d E.d QhS Qjc QiC QiW Qep E.q Ch.inv Jn QQ Q9
end
section
attribute [local go_sem] Ce.d Ch.d E.d QhS Qjc QiC QiW Qep E.q Jn Qa8 Qay
def QF4(hp:Qa)(kp:Nat)(P:List E)(p:DV):Prop:=(P=[]/\p=.pv (.slc []))\/(p=.own kp 13 0 P.length/\kp<hp.length/\hp[kp]?=some ⟨44,true,cells QaR P⟩)
def RunOk(hp:Qa)(k kp:Nat)(la:Int)(ea ab en:Bool)(P:List E):Prop:=k<hp.length/\∃ p,Qh hp k=some (rnC la ea ab en p)/\QF4 hp kp P p
def QIk(e:E)(ea ab:Bool)(P:List E):Bool:=(!ab||decide (e.kind=5))&&(!decide (e.kind=5)||(ab||ea)&&P.isEmpty)
def nP(e:E)(P:List E):List E:=if e.kind=1 then P++[e] else P
def nab(e:E)(ab:Bool):Bool:=ab||decide (e.kind=4)
def nen(e:E)(en:Bool):Bool:=en||decide (e.kind=3)||decide (e.kind=5)
end
section
attribute [local go_sem] Ce.d Ch.d E.d QhS Qjc QiC QiW Qep E.q Jn Qa8 Qay
end
section
attribute [local go_sem] Ce.d Ch.d E.d QhS Qjc QiC QiW Qep E.q Jn Qa8 Qay
def QGm (f:Int) (U:List Int) (P:List E) (e:E):Bool:=!decide (e.ref ∈ U) && (if P.any (QcY e) = true then
    (if f<=e.ref then decide ((P.getD (P.findIdx (QcY e)) E0).lsn=e.ref)&&(eqC (P.getD (P.findIdx (QcY e)) E0).c.inv e.c&&!(P.drop (P.findIdx (QcY e)+1)).any (QEw e)) else !(P.drop (P.findIdx (QcY e))).any (QEw e))
 else decide (e.ref<f))
def QHF(f:Int)(P:List E)(e:E):List E:=if f<=e.ref then QGl P (P.findIdx (QcY e)) else P
def RunOk.app(h:RunOk hp k kp la ea ab en P):RunOk (hp++r) k kp la ea ab en P:=by
 obtain⟨h1,p,h2,h3⟩:=h
 refine⟨by rw[Ja]; omega,p,by rw[QvP h1]; exact h2,?_⟩
 rcases h3 with h | ⟨e1,e2,e3⟩
 ·exact .inl h
 ·exact .inr ⟨e1,by rw[Ja]; omega,by rw[JW e2]; exact e3⟩
end
section
attribute [local go_sem] Ce.d Ch.d E.d QhS Qjc QiC QiW Qep E.q Jn Qa8 Qay
def QmQ(x:E):Bool:=x.kind==1||x.kind==2
def ckG(bt bp bu:Nat)(L:List (Int×DV))(Pg:List (Int×Int))(U:List Int):MapsD:=[(bt,QhA kI L),(bp,QhA kI (QIn Pg)),(bu,QhA kI (QIg U))]
def Qw0(f:Int)(U:List Int)(e:E)(ea ab:Bool)(P:List E):Bool:=if e.kind=2 then QGm f U P e else QIk e ea ab P
def QwZ(f:Int)(e:E)(P:List E):List E:=if e.kind=2 then QHF f P e else nP e P
def QwY(U:List Int)(e:E):List Int:=if e.kind=2 then QGY U e.ref else U
end
def RunP(hp:Qa)(k:Nat)(kpo:Option Nat)(la:Int)(ea ab en:Bool)(P:List E):Prop:=k<hp.length/\match kpo with
 | none=>P=[]/\Qh hp k=some (rnC la ea ab en (.pv (.slc [])))
 | some kp=>Qh hp k=some (rnC la ea ab en (.own kp 13 0 P.length))/\kp<hp.length/\hp[kp]?=some ⟨44,true,cells QaR P⟩
def RunP.ok(h:RunP hp k kpo la ea ab en P):RunOk hp k (kpo.getD (hp.length+7)) la ea ab en P:=by
 obtain⟨h1,h2⟩:=h
 cases kpo with
 | none=>exact⟨h1,_,h2.2,.inl ⟨h2.1,rfl⟩⟩
 | some kp=>exact⟨h1,_,h2.1,.inr ⟨rfl,h2.2.1,h2.2.2⟩⟩
def RunP.fr(h:RunP hp k kpo la ea ab en P)(hf:FrH hp h' A)(hk:¬ A k)(hkp:∀ kp,kpo=some kp->¬ A kp):RunP h' k kpo la ea ab en P:=by
 obtain⟨h1,h2⟩:=h
 have hb:=Qq9 (hf.same k h1 hk)
 refine⟨Ki h1 hf.len,?_⟩
 cases kpo with
 | none=>exact⟨h2.1,by rw[hb]; exact h2.2⟩
 | some kp=>exact⟨by rw[hb]; exact h2.1,Ki h2.2.1 hf.len,by rw[hf.same kp h2.2.1 (hkp kp rfl)]; exact h2.2.2⟩
structure Tr where
 tx:Int
 last:Int
 ea:Bool
 ab:Bool
 en:Bool
 P:List E
structure Ck where
 T:List Tr
 Pg:List (Int×Int)
 U:List Int
def setT:List Tr->Tr->List Tr
 | [],t=>[t]
 | a::r,t=>if a.tx=t.tx then t::r else a::setT r t
def Qmp(T:List Tr)(x:Int):Option Tr:=T.find? fun t=>decide (t.tx=x)
def ckB(f:Int)(A:Ck)(e:E):Bool:=if e.tx=0 then true else match Qmp A.T e.tx with
 | some t=>(decide (e.ptx=t.last)&&!t.en)&&((!QmQ e||pagedB f A.Pg e)&&Qw0 f A.U e t.ea t.ab t.P)
 | none=>decide (e.ptx<f)&&((!QmQ e||pagedB f A.Pg e)&&Qw0 f A.U e (decide (0<e.ptx)) false [])
def ckS(f:Int)(A:Ck)(e:E):Ck:=if e.tx=0 then A else match Qmp A.T e.tx with
 | some t=>⟨setT A.T ⟨e.tx,e.lsn,t.ea,nab e t.ab,nen e t.en,QwZ f e t.P⟩,if QmQ e=true then QB0 A.Pg e.c.pg e.lsn else A.Pg,QwY A.U e⟩
 | none=>⟨setT A.T ⟨e.tx,e.lsn,decide (0<e.ptx),nab e false,nen e false,QwZ f e []⟩,if QmQ e=true then QB0 A.Pg e.c.pg e.lsn else A.Pg,QwY A.U e⟩
structure TX where
 t:Tr
 k:Nat
 kp:Option Nat
def TX.pos(x:TX):List Nat:=x.k::x.kp.toList
def QIl(X:List TX):List (Int×DV):=X.map fun x=>(x.t.tx,.ptr x.k 0)
structure RepX(f:Int)(kc bt bp bu:Nat)(hp:Qa)(X:List TX):Prop where
 hk:kc<hp.length
 hc:Qh hp kc=some (ckC f bt bp bu)
 run:∀ x∈X,RunP hp x.k x.kp x.t.last x.t.ea x.t.ab x.t.en x.t.P
 nd:(kc::X.flatMap TX.pos).Nodup
def Rep(f:Int)(kc bt bp bu:Nat)(n:Nat)(hp:Qa)(g:MapsD)(A:Ck):Prop:=∃ X:List TX,X.map (·.t)=A.T/\g=ckG bt bp bu (QIl X) A.Pg A.U/\RepX f kc bt bp bu hp X/\∀ t∈A.T,t.P.length<=n
def RunP.ne(h:RunP hp k (some kp) la ea ab en P):kp≠k:=fun e=>by
 obtain⟨_,h1,_,h2⟩:=h
 rw[e] at h2
 have:=Qkw h2
 rw[h1] at this
 have:=congrArg List.length (Kw.inj this)
 rw[QhS] at this
 simp[rnC] at this
 omega
section
attribute [local go_sem] Ce.d Ch.d E.d QhS Qjc QiC QiW Qep E.q Jn
attribute [local go_sem] Lg.c
def Rep.app(h:Rep f kc bt bp bu n hp g A)(r:Qa):Rep f kc bt bp bu n (hp++r) g A:=by
 obtain⟨X,h1,h2,h3,h4⟩:=h
 refine⟨X,h1,h2,⟨by rw[Ja]; have:=h3.hk; omega,by rw[QvP h3.hk]; exact h3.hc,fun x hx=>(h3.run x hx).fr ((FrH.refl hp (fun _=>False)).app r) id fun _ _=>id,h3.nd⟩,h4⟩
def Rep.le(h:Rep f kc bt bp bu n hp g A)(hm:n<=m):Rep f kc bt bp bu m hp g A:=by
 obtain⟨X,h1,h2,h3,h4⟩:=h
 exact⟨X,h1,h2,h3,fun t ht=>JH (h4 t ht) hm⟩
def ckL(f:Int):Ck->List E->Bool
 | _,[]=>true
 | A,e::r=>ckB f A e&&ckL f (ckS f A e) r
def ckA(f:Int):Ck->List E->Ck
 | A,[]=>A
 | A,e::r=>ckA f (ckS f A e) r
def Ck0:Ck:=⟨[],[],[]⟩
def WeakG.trans(h:WeakG Γ S g S' g')(h':WeakG Γ S' g' S'' g''):WeakG Γ S g S'' g'':=fun O β a w hs=>by
 obtain⟨β',hs'⟩:=h O β a w hs
 exact h' O β' a w hs'
structure CL(x:Lg)(bt bp bu:Nat) where
 i:Nat
 hi:i<=x.es.length
 hp:Qa
 g:MapsD
 rep:Rep x.f 1 bt bp bu i hp g (ckA x.f Ck0 (x.es.take i))
 ok:ckL x.f Ck0 (x.es.take i)=true
end
section
attribute [local go_sem] Ce.d Ch.d E.d Lg.c QQ Q9
def exE(es:List E)(i:Nat)(p:E->Bool):Bool:=!(Kj i).all fun k=>!p (es.getD k E0)
def QeX(es:List E)(i:Nat)(p:E->Bool):exE es (i+1) p=(exE es i p||p (es.getD i E0)):=by
 unfold exE
 rw[J9,List.all_append]
 simp[Bool.not_and]
def undp(n:Int)(x:E):Bool:=decide (x.kind=2)&&decide (x.ref=n)
def QmM(es:List E)(i:Nat)(n:Int):Bool:=exE es i (undp n)
def Ql8(es:List E)(pg:Int):Nat->Int
 | 0=>0
 | k+1=>if QmQ (es.getD k E0)=true/\(es.getD k E0).c.pg=pg then (es.getD k E0).lsn else Ql8 es pg k
def QcO(es:List E)(tx:Int):Nat->Int
 | 0=>0
 | k+1=>if (es.getD k E0).tx=tx then (es.getD k E0).lsn else QcO es tx k
def Qv8(es:List E)(tx:Int):Nat->Bool
 | 0=>false
 | k+1=>if (es.getD k E0).tx=tx then (Qv8 es tx k||decide ((es.getD k E0).kind=4)) else Qv8 es tx k
def Qy1(tx:Int)(x:E):Bool:=decide (x.tx=tx)&&(decide (x.kind=3)||decide (x.kind=5))
def Qwg(f tx:Int)(x:E):Bool:=decide (x.tx=tx)&&(decide (0<x.ptx)&&decide (x.ptx<f))
attribute [local go_sem] Qim Qdm Qcz Qa8 Qay
end
section
attribute [local go_sem] Ce.d Ch.d E.d Lg.c QQ Q9
attribute [local go_sem] Qim Qdm Qcz Qa8 Qay
end
section
attribute [local go_sem] Ce.d Ch.d E.d Lg.c QQ Q9
attribute [local go_sem] Qim Qdm Qcz Qa8 Qay
end
section
attribute [local go_sem] Ce.d Ch.d E.d Lg.c QQ Q9
end
structure EOk(f:Int)(k:Nat)(e:E):Prop where
 lsn:e.lsn=f+k
 ptx:0<=e.ptx/\e.ptx<e.lsn
 ref:0<=e.ref/\e.ref<e.lsn
 tx:(1<=e.tx/\(e.kind=1\/e.kind=2\/e.kind=3\/e.kind=4\/e.kind=5))\/(e.tx=0/\e.kind≠1/\e.kind≠2/\e.kind≠3/\e.kind≠4/\e.kind≠5)
 sl:e.kind=2->0<=e.c.sl
structure Wf(f:Int)(es:List E):Prop where
 f1:1<=f
 ok:∀ k,k<es.length->EOk f k (es.getD k E0)
def Wf.of(h:lgB x=true):Wf x.f x.es:=by
 refine⟨(Qat h).1,fun k hk=>?_⟩
 unfold lgB at h
 rw[Jc,JF] at h
 have h2:=h.2 k (JA.2 hk)
 unfold lgC at h2
 rw[Jc] at h2
 have h3:=of_decide_eq_true h2.1
 have h4:=h2.2
 generalize x.es.getD k E0=e at *
 unfold E.okB bef at h4
 simp only[Jc,decide_eq_true_eq] at h4
 obtain⟨⟨⟨⟨_,a1⟩,_⟩,a2⟩,a3⟩:=h4
 refine⟨h3,a1,a2,?_,?_⟩
 ·unfold E.kindB txB at a3
  split at a3
  ·simp at a3; omega
  split at a3
  ·simp at a3; omega
  split at a3
  ·simp at a3; omega
  split at a3
  ·simp at a3; omega
  split at a3
  ·simp at a3; omega
  ·cases a3
 ·intro hk
  unfold E.kindB at a3
  rw[if_neg (by omega),if_pos hk] at a3
  unfold Ch.okB at a3
  simp at a3
  omega
def QC8:exE es i p=true ↔ ∃ k,k<i/\p (es.getD k E0)=true:=by
 unfold exE
 rw[Bool.not_eq_true',List.all_eq_false]
 simp
def exE_iff':exE es i p=false ↔ ∀ k,k<i->p (es.getD k E0)=false:=by
 rw[JM,Ne,QC8]
 simp
def Qda(es:List E)(i:Nat)(n:Int):QmM es (i+1) n=(QmM es i n||undp n (es.getD i E0)):=QeX _ _ _
def before(es:List E)(i:Nat):List E:=(Kj i).map fun k=>es.getD k E0
def Qn8(es:List E)(i:Nat):before es (i+1)=before es i++[es.getD i E0]:=by
 unfold before
 rw[J9,List.map_append]
 rfl
def Qqx:y∈before es i ↔ ∃ k,k<i/\es.getD k E0=y:=by
 unfold before
 simp
def Qky(W:Wf f es)(hi:i<=es.length):(before es i).Pairwise fun a b=>a.lsn<b.lsn:=by
 unfold before
 rw[List.pairwise_map]
 refine List.Pairwise.imp_of_mem ?_ List.pairwise_lt_range
 intro a b ha hb h
 have ha:=JA.1 ha
 have hb:=JA.1 hb
 rw[(W.ok a (by omega)).lsn,(W.ok b (by omega)).lsn]
 omega
def QjY(es:List E)(i:Nat)(x:Int):List E:=(before es i).filter fun e=>decide (e.kind=1)&&(decide (e.tx=x)&&!QmM es i e.lsn)
def mem_penL:y∈QjY es i x ↔ (∃ k,k<i/\es.getD k E0=y)/\y.kind=1/\y.tx=x/\QmM es i y.lsn=false:=by
 unfold QjY
 rw[Jg,Qqx]
 simp
def Qg9(W:Wf f es)(hi:i<=es.length)(x:Int):(QjY es i x).Pairwise fun a b=>a.lsn<b.lsn:=(Qky W hi).filter _
def QwS(W:Wf f es)(hi:i<es.length):QmM es i (f+i)=false:=by
 unfold QmM
 rw[exE_iff']
 intro k hk
 have h:=W.ok k (by omega)
 unfold undp
 have h1:=h.ref.2
 rw[h.lsn] at h1
 rw[Ka]
 exact .inr (decide_eq_false (by omega))
def QiT (W:Wf f es) (x:Int):∀ i,i<=es.length->(QcO es x i = 0/\∀ k,k < i->(es.getD k E0).tx ≠ x)\/(f<=QcO es x i/\∃ k,k < i/\(es.getD k E0).tx = x)
 | 0,_=>.inl ⟨rfl,fun k hk=>by omega⟩
 | i + 1,hi=>by
   rw[QcO]
   have h:=(W.ok i (by omega)).lsn
   by_cases hx:(es.getD i E0).tx=x
   ·rw [if_pos hx]
    exact .inr ⟨by omega,i,by omega,hx⟩
   ·rw [if_neg hx]
    rcases QiT W x i (by omega) with⟨h1,h2⟩ | ⟨h1,k,h2,h3⟩
    ·refine .inl ⟨h1,fun k hk=>?_⟩
     by_cases hki:k=i
     ·rw[hki]; exact hx
     ·exact h2 k (by omega)
    ·exact .inr ⟨h1,k,by omega,h3⟩
def QyM (L:List (Int × Int)) (a v b:Int):Qz8 (QB0 L a v) b = if a = b then some v else Qz8 L b:=by
 induction L with
 | nil=>simp[QB0,Qz8]
 | cons q r ih =>
   obtain⟨k,x⟩:=q
   unfold QB0
   by_cases h:k=a
   ·subst h
    simp only[if_pos,Qz8]
    split<;>simp
   ·rw [if_neg h]
    simp only[Qz8]
    rw[ih]
    by_cases h2:k=b
    ·subst h2
     rw[if_pos rfl,if_neg (fun e=>h e.symm),if_pos rfl]
    ·rw[if_neg h2,if_neg h2]
def Qyj(U:List Int)(a b:Int):b∈QGY U a ↔ b∈U\/b=a:=by
 unfold QGY
 split
 ·constructor
  ·exact .inl
  ·rintro (h | rfl)
   ·exact h
   ·assumption
 ·simp
def Qmo (T:List Tr) (t:Tr) (x:Int):Qmp (setT T t) x = if t.tx = x then some t else Qmp T x:=by
 unfold Qmp
 induction T with
 | nil=>simp[setT,Kb]; split<;>simp_all
 | cons a r ih =>
   unfold setT
   by_cases h:a.tx=t.tx
   ·rw [if_pos h]
    simp only[Kb]
    rw[h]
    by_cases h2:t.tx=x
    ·simp[h2]
    ·simp[h2]
   ·rw [if_neg h]
    simp only[Kb]
    rw[ih]
    by_cases h2:a.tx=x
    ·subst h2
     simp[Ne.symm h]
    ·simp[h2]
def Qpq (e:E):∀ (P:List E),P.Pairwise (fun a b=>a.lsn < b.lsn)->P.drop (P.findIdx (QcY e)) = P.filter (QcY e)
 | [],_=>rfl
 | a :: r,h=>by
   rw[Jj] at h
   rw[Kk,JG]
   cases ha:QcY e a
   ·simpa using Qpq e r h.2
   ·have:r.filter (QcY e) = r:=Jt.2 fun b hb=>by
     have:=h.1 b hb
     unfold QcY at ha |-
     simp at ha |-
     omega
    simp[this]
def Qol (e:E):∀ (P:List E),P.Pairwise (fun a b=>a.lsn < b.lsn)->P.any (QcY e) = true->(P.getD (P.findIdx (QcY e)) E0).lsn = e.ref->QGl P (P.findIdx (QcY e)) = P.filter fun y=>!decide (y.lsn = e.ref)
 | [],_,h,_=>by cases h
 | a :: r,h,hq,hl=>by
   rw[Jj] at h
   rw[Kk] at hl |-
   rw[JG]
   cases ha:QcY e a
   ·rw [ha] at hl
    have hq:r.any (QcY e)=true:=by simpa [ha] using hq
    have hl:(r.getD (r.findIdx (QcY e)) E0).lsn=e.ref:=by simpa using hl
    have:=Qol e r h.2 hq hl
    unfold QGl at this |-
    have hne:a.lsn≠e.ref:=by unfold QcY at ha; simp at ha; omega
    simp[hne]
    simpa using this
   ·rw [ha] at hl
    have hl:a.lsn=e.ref:=by simpa using hl
    have:r.filter (fun y=>!decide (y.lsn=e.ref))=r:=Jt.2 fun b hb=>by
     have:=h.1 b hb
     simp
     omega
    simp[QGl,hl,this]
structure Inv(f:Int)(es:List E)(i:Nat)(A:Ck):Prop where
 pg:∀ p,Qz8 A.Pg p=if Ql8 es p i=0 then none else some (Ql8 es p i)
 un:∀ n,n∈A.U ↔ QmM es i n=true
 no:∀ x,1<=x->Qmp A.T x=none->∀ k,k<i->(es.getD k E0).tx≠x
 so:∀ x t,1<=x->Qmp A.T x=some t->QcO es x i≠0/\t.last=QcO es x i/\t.ab=Qv8 es x i/\t.en=exE es i (Qy1 x)/\t.ea=exE es i (Qwg f x)/\t.P=QjY es i x
def Qo2:∀ {i:Nat},(∀ k,k < i->(es.getD k E0).tx ≠ x)->QcO es x i = 0/\Qv8 es x i = false
 | 0,_=>⟨rfl,rfl⟩
 | i + 1,h=>by
   rw[QcO,Qv8,if_neg (h i (by omega)),if_neg (h i (by omega))]
   exact Qo2 fun k hk=>h k (by omega)
def Qz0(h:∀ k,k<i->(es.getD k E0).tx≠x):exE es i (Qy1 x)=false/\exE es i (Qwg f x)=false/\QjY es i x=[]:=by
 refine⟨exE_iff'.2 fun k hk=>?_,exE_iff'.2 fun k hk=>?_,?_⟩
 ·unfold Qy1; rw[decide_eq_false (h k hk)]; rfl
 ·unfold Qwg; rw[decide_eq_false (h k hk)]; rfl
 ·rw [List.eq_nil_iff_forall_not_mem]
  intro y hy
  obtain⟨⟨k,hk,rfl⟩,_,h2,_⟩:=mem_penL.1 hy
  exact h k hk h2
def QFH (W:Wf f es) (I:Inv f es i A) (e:E) (ht:1<=e.tx):
 ckB f A e=((if QcO es e.tx i=0 then decide (e.ptx<f) else decide (e.ptx=QcO es e.tx i)&&!exE es i (Qy1 e.tx))&&((!QmQ e||pagedB f A.Pg e)&&Qw0 f A.U e (if QcO es e.tx i=0 then decide (0<e.ptx) else exE es i (Qwg f e.tx)) (Qv8 es e.tx i) (QjY es i e.tx))) /\
 ckS f A e=⟨setT A.T ⟨e.tx,e.lsn,if QcO es e.tx i=0 then decide (0<e.ptx) else exE es i (Qwg f e.tx),nab e (Qv8 es e.tx i),nen e (exE es i (Qy1 e.tx)),QwZ f e (QjY es i e.tx)⟩,if QmQ e=true then QB0 A.Pg e.c.pg e.lsn else A.Pg,QwY A.U e⟩:=by
 unfold ckB ckS
 have h0:e.tx≠0:=by omega
 rw[if_neg h0,if_neg h0]
 cases hT:Qmp A.T e.tx with
 | none =>
   have hn:=I.no e.tx ht hT
   obtain⟨h1,h2⟩:=Qo2 hn
   obtain⟨h3,h4,h5⟩:=Qz0 (f:=f) hn
   rw[h1,h2,h3,h5]
   exact⟨rfl,rfl⟩
 | some t =>
   obtain⟨h0,h1,h2,h3,h4,h5⟩:=I.so e.tx t ht hT
   simp only[h1,h2,h3,h4,h5,if_neg h0]
   exact⟨trivial,trivial⟩
def QjX(W:Wf f es)(hi:i<=es.length)(h:y∈QjY es i x):∃ k,k<i/\es.getD k E0=y/\y.lsn=f+k:=by
 obtain⟨⟨k,hk,rfl⟩,_⟩:=mem_penL.1 h
 exact⟨k,hk,rfl,(W.ok k (by omega)).lsn⟩
def Qya(W:Wf f es)(hi:i<=es.length)(h:y∈QjY es i x)(h':y'∈QjY es i x')(e:y.lsn=y'.lsn):y=y':=by
 obtain⟨k,_,rfl,h1⟩:=QjX W hi h
 obtain⟨k',_,rfl,h2⟩:=QjX W hi h'
 obtain rfl:k=k':=by omega
 rfl
def QyE{P:List E}{e:E}(hs:P.Pairwise fun a b=>a.lsn<b.lsn)(ha:P.any (QcY e)=true) :
 P.getD (P.findIdx (QcY e)) E0∈P/\QcY e (P.getD (P.findIdx (QcY e)) E0)=true/\P.filter (QcY e)=P.getD (P.findIdx (QcY e)) E0::P.drop (P.findIdx (QcY e)+1)/\∀ y∈P.drop (P.findIdx (QcY e)+1),(P.getD (P.findIdx (QcY e)) E0).lsn<y.lsn:=by
 have hj:P.findIdx (QcY e)<P.length:=List.findIdx_lt_length_of_exists (by simpa using ha)
 have hd:=Qpq e P hs
 have hc:P.drop (P.findIdx (QcY e))=P.getD (P.findIdx (QcY e)) E0::P.drop (P.findIdx (QcY e)+1):=by
  rw[Qc P _ hj,List.drop_eq_getElem_cons hj]
 rw[hc] at hd
 have hm:P.getD (P.findIdx (QcY e)) E0∈P.filter (QcY e):=by rw[<- hd]; exact List.mem_cons_self
 have hsf:=hs.filter (QcY e)
 rw[<- hd,Jj] at hsf
 exact⟨(Jg.1 hm).1,(Jg.1 hm).2,hd.symm,hsf.1⟩
def QlK(W:Wf f es)(hi:i<es.length)(x:Int):QjY es (i+1) x=(QjY es i x).filter (fun y=>!undp y.lsn (es.getD i E0))++(if (es.getD i E0).kind=1/\(es.getD i E0).tx=x then [es.getD i E0] else []):=by
 unfold QjY
 rw[Qn8,JV,List.filter_filter]
 congr 1
 ·refine Kl fun y _=>?_
  rw[Qda]
  cases decide (y.kind=1)<;>cases decide (y.tx=x)<;>cases QmM es i y.lsn<;>cases undp y.lsn (es.getD i E0)<;>rfl
 ·have hf:=QwS W hi
  have hl:=(W.ok i hi).lsn
  rw[<- hl] at hf
  rw[JG,JK,Qda,hf]
  generalize es.getD i E0=e at *
  by_cases h1:e.kind=1
  ·by_cases h2:e.tx = x
   ·simp[h1,h2,undp]
   ·simp[h1,h2]
  ·simp[h1]
def QlL(W:Wf f es)(hi:i<es.length)(x:Int)(h1:¬ ((es.getD i E0).kind=1/\(es.getD i E0).tx=x))(h2:(es.getD i E0).kind=2->∀ y∈QjY es i x,y.lsn≠(es.getD i E0).ref):QjY es (i+1) x=QjY es i x:=by
 rw[QlK W hi,if_neg h1,Js]
 refine Jt.2 fun y hy=>?_
 unfold undp
 by_cases hk:(es.getD i E0).kind=2
 ·rw [decide_eq_false (show ¬ (es.getD i E0).ref = y.lsn from fun h=>h2 hk y hy h.symm),JX]
  rfl
 ·rw [decide_eq_false hk]
  rfl
def Qon(h:QGm f U P e=true)(hf:f<=e.ref):P.any (QcY e)=true/\(P.getD (P.findIdx (QcY e)) E0).lsn=e.ref:=by
 unfold QGm at h
 rw[if_pos hf] at h
 by_cases ha:P.any (QcY e)=true
 ·rw [if_pos ha] at h
  simp only[Jc,decide_eq_true_eq] at h
  exact⟨ha,h.2.1⟩
 ·rw [if_neg ha,decide_eq_false (show ¬ e.ref < f by omega),JX] at h
  cases h
def QG0{es:List E}(h:(es.getD i E0).kind≠1/\(es.getD i E0).kind≠2):QmQ (es.getD i E0)=false:=by
 unfold QmQ
 rw[Kd]
 exact⟨beq_eq_false_iff_ne.2 h.1,beq_eq_false_iff_ne.2 h.2⟩
def Qki(W:Wf f es)(hi:i<es.length)(I:Inv f es i A)(h:ckB f A (es.getD i E0)=true):Inv f es (i+1) (ckS f A (es.getD i E0)):=by
 have hok:=W.ok i hi
 have hil:=Nat.le_of_lt hi
 have other:∀ x,(es.getD i E0).tx≠x->QcO es x (i+1)=QcO es x i/\Qv8 es x (i+1)=Qv8 es x i/\exE es (i+1) (Qy1 x)=exE es i (Qy1 x)/\exE es (i+1) (Qwg f x)=exE es i (Qwg f x):=fun x hx=>by
  refine⟨by rw[QcO,if_neg hx],by rw[Qv8,if_neg hx],?_,?_⟩
  ·rw[QeX]; unfold Qy1; rw[decide_eq_false hx,JY,JR]
  ·rw[QeX]; unfold Qwg; rw[decide_eq_false hx,JY,JR]
 rcases hok.tx with⟨ht,hk⟩ | ⟨ht,hk⟩
 ·obtain ⟨eB,eS⟩:=QFH W I _ ht
  rw[eB] at h
  rw[eS]
  have hlast:=QiT W (es.getD i E0).tx i hil
  have hund:(es.getD i E0).kind=2->QGm f A.U (QjY es i (es.getD i E0).tx) (es.getD i E0)=true:=fun hk2=>by
   unfold Qw0 at h
   rw[if_pos hk2] at h
   simp only[Jc] at h
   exact h.2.2
  have hptx:if QcO es (es.getD i E0).tx i=0 then (es.getD i E0).ptx<f else (es.getD i E0).ptx=QcO es (es.getD i E0).tx i:=by
   have:=h
   simp only[Jc] at this
   have:=this.1
   split at this
   ·rename_i h0; rw[if_pos h0]; exact of_decide_eq_true this
   ·rename_i h0; rw[if_neg h0]; simp only[Jc,decide_eq_true_eq] at this; exact this.1
  refine⟨fun p=>?_,fun n=>?_,fun x hx hn k hk'=>?_,fun x t hx hsome=>?_⟩
  ·dsimp only
   rw[Ql8]
   by_cases hc:QmQ (es.getD i E0)=true
   ·rw [if_pos hc,QyM,I.pg]
    by_cases hp:(es.getD i E0).c.pg=p
    ·rw[if_pos hp,if_pos (show QmQ (es.getD i E0)=true/\(es.getD i E0).c.pg=p from ⟨hc,hp⟩),if_neg (show ¬ (es.getD i E0).lsn=0 by have:=hok.lsn; have:=W.f1; omega)]
    ·rw[if_neg hp,if_neg (show ¬ (QmQ (es.getD i E0)=true/\(es.getD i E0).c.pg=p) from fun h=>hp h.2)]
   ·rw[if_neg hc,if_neg (show ¬ (QmQ (es.getD i E0)=true/\(es.getD i E0).c.pg=p) from fun h=>hc h.1),I.pg]
  ·dsimp only
   rw[Qda]
   unfold QwY undp
   by_cases hk2:(es.getD i E0).kind=2
   ·rw [if_pos hk2,Qyj,I.un,decide_eq_true hk2,J3,J6,decide_eq_true_eq]
    constructor
    ·rintro (h | h)
     ·exact .inl h
     ·exact .inr h.symm
    ·rintro (h | h)
     ·exact .inl h
     ·exact .inr h.symm
   ·rw[if_neg hk2,I.un,decide_eq_false hk2,JY,JR]
  ·dsimp only at hn
   rw[Qmo] at hn
   dsimp only at hn
   split at hn
   ·cases hn
   ·rename_i hne
    by_cases hki:k=i
    ·rw[hki]; exact hne
    ·exact I.no x hx hn k (by omega)
  ·dsimp only at hsome
   rw[Qmo] at hsome
   dsimp only at hsome
   by_cases hxe:(es.getD i E0).tx=x
   ·rw [if_pos hxe] at hsome
    obtain rfl:=Kw.inj hsome
    subst hxe
    dsimp only
    rw[QcO,if_pos rfl,Qv8,if_pos rfl,QeX,QeX,QlK W hi]
    refine⟨by have:=hok.lsn; have:=W.f1; omega,rfl,rfl,?_,?_,?_⟩
    ·unfold nen Qy1
     rw[decide_eq_true rfl,J3,Bool.or_assoc]
    ·unfold Qwg
     rw[decide_eq_true rfl,J3]
     rcases hlast with⟨h0,hno⟩ | ⟨h0,_⟩
     ·rw [if_pos h0] at hptx |-
      have:=(Qz0 (f:=f) hno).2.1
      unfold Qwg at this
      rw[this,decide_eq_true hptx,Bool.false_or,Kv]
     ·have hne:QcO es (es.getD i E0).tx i ≠ 0:=by have:=W.f1; omega
      rw[if_neg hne] at hptx |-
      rw[decide_eq_false (show ¬ (es.getD i E0).ptx<f by omega),JX,JR]
    ·unfold QwZ
     by_cases hk2:(es.getD i E0).kind=2
     ·rw [if_pos hk2,if_neg (by omega),Js]
      unfold QHF
      by_cases hf:f<=(es.getD i E0).ref
      ·obtain ⟨a1,a2⟩:=Qon (hund hk2) hf
       rw[if_pos hf,Qol _ _ (Qg9 W hil _) a1 a2]
       refine Kl fun y _=>?_
       unfold undp
       rw[decide_eq_true hk2,J3]
       congr 1
       rw[decide_eq_decide]
       exact eq_comm
      ·rw [if_neg hf]
       refine(Jt.2 fun y hy=>?_).symm
       obtain⟨k,_,_,hl⟩:=QjX W hil hy
       unfold undp
       rw[decide_eq_false (show ¬ (es.getD i E0).ref=y.lsn by omega),JX]
       rfl
     ·rw [if_neg hk2]
      have hid:(QjY es i (es.getD i E0).tx).filter (fun y=>!undp y.lsn (es.getD i E0))=QjY es i (es.getD i E0).tx:=Jt.2 fun y _=>by
       unfold undp
       rw[decide_eq_false hk2]
       rfl
      rw[hid]
      unfold nP
      by_cases hk1:(es.getD i E0).kind=1
      ·rw[if_pos hk1,if_pos ⟨hk1,rfl⟩]
      ·rw[if_neg hk1,if_neg (fun h=>hk1 h.1),Js]
   ·rw [if_neg hxe] at hsome
    obtain⟨o1,o2,o3,o4⟩:=other x hxe
    rw[o1,o2,o3,o4,QlL W hi x (fun h=>hxe h.2) ?_]
    ·exact I.so x t hx hsome
    ·intro hk2 y hy hl
     by_cases hf:f<=(es.getD i E0).ref
     ·obtain ⟨a1,a2⟩:=Qon (hund hk2) hf
      obtain⟨b1,_⟩:=QyE (Qg9 W hil _) a1
      have:=Qya W hil hy b1 (by rw[hl,a2])
      rw[<- this] at b1
      have h1:=(mem_penL.1 hy).2.2.1
      have h2:=(mem_penL.1 b1).2.2.1
      exact hxe (h2.symm.trans h1)
     ·obtain ⟨k,_,_,hl'⟩:=QjX W hil hy
      omega
 ·have hc:=QG0 ⟨hk.1,hk.2.1⟩
  rw[ckS,if_pos ht]
  refine⟨fun p=>?_,fun n=>?_,fun x hx hn k hk'=>?_,fun x t hx hsome=>?_⟩
  ·rw[Ql8,if_neg (show ¬ (QmQ (es.getD i E0)=true/\(es.getD i E0).c.pg=p) from fun h=>by rw[hc] at h; cases h.1),I.pg]
  ·rw [Qda,I.un]
   unfold undp
   rw[decide_eq_false hk.2.1,JY,JR]
  ·by_cases hki:k = i
   ·rw[hki]; omega
   ·exact I.no x hx hn k (by omega)
  ·obtain ⟨o1,o2,o3,o4⟩:=other x (by omega)
   rw[o1,o2,o3,o4,QlL W hi x (fun h=>hk.1 h.1) (fun h=>absurd h hk.2.1)]
   exact I.so x t hx hsome
section
section
variable {x:Lg} (hv:lgB x=true) (hf:x.f=1) (hlog:LogOk x.es) (m:Nat)
include hv hf in
include hv hf in
include hv hf in
include hv hf in
include hv hf hlog in
include hv hf hlog in
include hv hf hlog in
include hv hf hlog in
include hv hf hlog in
end
end
section
attribute [local go_sem] Ce.d Ch.d E.d Lg.c QQ Q9 QhS Qjc QiC QiW
def Qin(f:Int)(es:List E)(a:Int):Bool:=decide (a<f)||decide ((es.length:Int)<=a-f)
def Qd0(f:Int)(es:List E)(a:Int):E:=es.getD (a-f).toNat E0
def QaJ(f:Int)(es:List E)(pv:E->Int):Int->Nat->Int
 | a,0=>a
 | a,k+1=>QaJ f es pv (pv (Qd0 f es a)) k
def QfX(f:Int)(es:List E)(pv:E->Int)(above:Int):Nat->Int->Nat
 | 0,_=>0
 | n+1,a=>if above<a then (if Qin f es a=true then 1 else QfX f es pv above n (pv (Qd0 f es a))+1) else 0
def QbU(f:Int)(es:List E)(pv:E->Int):∀ (a:Int) (k:Nat),QaJ f es pv a (k+1)=pv (Qd0 f es (QaJ f es pv a k))
 | _,0=>rfl
 | a,k+1=>QbU f es pv (pv (Qd0 f es a)) k
def Bef(f:Int)(es:List E)(pv:E->Int):Prop:=∀ i,i<es.length->0<=pv (es.getD i E0)/\pv (es.getD i E0)<f+i
def QfE(h:Qin f es a=false):f<=a/\a-f<es.length:=by
 unfold Qin at h
 simp only[Kd,decide_eq_false_iff_not] at h
 omega
def QvT(hb:Bef f es pv)(h:Qin f es a=false):0<=pv (Qd0 f es a)/\pv (Qd0 f es a)<a:=by
 obtain⟨h1,h2⟩:=QfE h
 have:=hb (a-f).toNat (by omega)
 unfold Qd0
 omega
def Qfw:∀ {n:Nat} {a:Int} {k:Nat},k < QfX f es pv above n a->above < QaJ f es pv a k
 | n + 1,a,k,h=>by
   rw[QfX] at h
   split at h
   ·rename_i ha
    split at h
    ·obtain rfl:k = 0:=by omega
     exact ha
    ·cases k with
     | zero=>exact ha
     | succ k=>exact Qfw (n:=n) (a:=pv (Qd0 f es a)) (by omega)
   ·omega
def Qn7:∀ {n:Nat} {a:Int} {k:Nat},k < QfX f es pv above n a->Qin f es (QaJ f es pv a k) = true->k + 1 = QfX f es pv above n a
 | n + 1,a,k,h,hb=>by
   rw[QfX] at h |-
   split at h
   ·rename_i ha
    rw[if_pos ha]
    split at h
    ·rename_i hb2
     rw[if_pos hb2]; omega
    ·rename_i hb2
     rw[if_neg hb2]
     cases k with
     | zero=>exact absurd hb hb2
     | succ k=>rw[Qn7 (above:=above) (n:=n) (a:=pv (Qd0 f es a)) (by omega) hb]
   ·omega
def Qkr (hpv:Bef f es pv) (h0:0<=above):∀ {n:Nat} {a:Int},a.toNat < n->(∀ j,j < QfX f es pv above n a->Qin f es (QaJ f es pv a j) = false)->¬ above < QaJ f es pv a (QfX f es pv above n a)
 | n + 1,a,hn,hb=>by
   rw[QfX] at hb |-
   split
   ·rename_i ha
    rw[if_pos ha] at hb
    split
    ·rename_i hb2
     rw[if_pos hb2] at hb
     have:=hb 0 (by omega)
     rw[QaJ] at this
     rw[this] at hb2; cases hb2
    ·rename_i hb2
     rw[if_neg hb2] at hb
     have hl:=QvT hpv (JM.2 hb2)
     rw[QaJ]
     exact Qkr hpv h0 (by omega) fun j hj=>hb (j+1) (by omega)
   ·rename_i ha
    rw[if_neg ha] at hb
    exact ha
def QFG(hpv:Bef f es pv)(h0:0<=above)(hn:a.toNat<n)(hk:k<=QfX f es pv above n a)(hb:∀ j,j<k->Qin f es (QaJ f es pv a j)=false):decide (above<QaJ f es pv a k)=decide (k<QfX f es pv above n a):=by
 by_cases h:k<QfX f es pv above n a
 ·rw[decide_eq_true h,decide_eq_true (Qfw h)]
 ·obtain rfl:k = QfX f es pv above n a:=by omega
  rw[decide_eq_false h,decide_eq_false (Qkr hpv h0 hn hb)]
def Qei (hpv:Bef f es pv):∀ {k:Nat},(∀ j,j < k->Qin f es (QaJ f es pv a j) = false)->QaJ f es pv a k + k<=a/\(k = 0\/0<=QaJ f es pv a k)
 | 0,_=>⟨by rw[QaJ]; omega,.inl rfl⟩
 | k + 1,h=>by
   have:=Qei hpv (fun j hj=>h j (Km hj))
   have hl:=QvT hpv (h k (Jz k))
   rw[QbU]
   omega
def QvG(hk:k<QfX f es pv above n a):∀ j,j<k->Qin f es (QaJ f es pv a j)=false:=fun j hj=>by
 cases h:Qin f es (QaJ f es pv a j)
 ·rfl
 ·have:=Qn7 (show j < QfX f es pv above n a by omega) h
  omega
def QzV(hpv:Bef f es pv)(hk:k<QfX f es pv above n a):QaJ f es pv a k<=a:=by
 have:=(Qei hpv (QvG hk)).1
 omega
def Qkf(f:Int)(es:List E)(d:Int):List PV:=[.lit (.int .i64 f),.sl (fz QaR es),.lit (.int .i64 d)]
def QGw(x:E):List PV:=[.lit (.int .i64 x.lsn),.lit (.int .i64 x.kind),.lit (.int .i64 x.tx),.lit (.int .i64 x.ptx),.lit (.int .i64 x.ppg),.lit (.int .i64 x.ref),.lit (.int .i64 x.c.pg),.lit (.int .i64 x.c.sl),.lit (.bool x.c.b.set),.str x.c.b.data,.lit (.bool x.c.a.set),.str x.c.a.data,.str x.blob]
def QAd(f:Int)(es:List E)(a:Int):DV:=if Qin f es a=true then .agg (E0.d++[.int .i64 14]) else .agg ((Qd0 f es a).d++[.int .i64 0])
def QDt(hpv:Bef f es pv)(hf:1<=f)(hf2:f<=1099511627776)(hl:es.length<=4096)(h0:0<=above)(hlast:last<=9223372036854775807)(hff:∀ e:E,VCalls prog ff [.agg e.d] [] (Ret (.int .i64 (pv e)))):
 QF2 prog 103 [.ip [.lit (.int .i64 last)],.ip [.lit (.int .i64 above)],.ip (Qkf f es d),.ip [.lit (.func (.func ff) #[] #[])]] (QfX f es pv above (last.toNat+1) last) (fun k=>#[.int .i64 (QaJ f es pv last k),(QAd f es (QaJ f es pv last k)).val]):=by
 refine QEi Tryz.func103 rfl rfl rfl rfl rfl rfl rfl rfl rfl rfl rfl rfl rfl rfl rfl ?_ ?_ (fun k=>QaJ f es pv last k) _ (fun k=>Qin f es (QaJ f es pv last k)) (fun k=>.agg (Qd0 f es (QaJ f es pv last k)).d) (fun k=>QAd f es (QaJ f es pv last k)) (fun k=>QGw (Qd0 f es (QaJ f es pv last k))) ff above ?_ ?_ ?_ ?_ ?_ ?_ ?_ ?_ ?_ ?_ ?_ ?_ ?_ ?_ ?_
 ·decide +kernel
 ·decide +kernel
 ·intro k hk
  unfold QAd
  split<;>rfl
 ·intro k hk hb
  rfl
 ·intro k hk
  rfl
 ·intro k hk hb
  exact Qn7 hk hb
 ·intro k hk
  exact Qfw hk
 ·intro k hk hb
  show QaJ f es pv last (k+1)<QaJ f es pv last k
  exact QbU f es pv last k▸(QvT hpv hb).2
 ·intro l
  rw[QaJ]
  (refine rn trivial ?_; try with_reducible exact⟨⟩)
 ·intro l k hk hre
  unfold bkS Qkf
  rw[<- QFG hpv h0 (Jz _) hk hre]
  (refine rn trivial ?_; try with_reducible exact⟨⟩)
 ·intro l k hk
  have hp:=QzV hpv hk
  have hp1:=Qfw hk
  unfold bkS Qkf Qin
  generalize QaJ f es pv last k=a at *
  by_cases ha:a<f
  ·(refine rn @ha ?_; try with_reducible exact⟨⟩)
  ·(refine rn @ha ?_; try with_reducible exact⟨⟩)
 ·intro l k hk hb
  unfold bkS Qkf QAd
  rw[if_pos hb]
  generalize QaJ f es pv last k=a at *
  refine rn trivial ?_
  rfl
 ·intro l k hk hb
  have hp:=QzV hpv hk
  have hp1:=Qfw hk
  obtain⟨b1,b2⟩:=QfE hb
  unfold bkS Qkf QGw Qd0
  generalize QaJ f es pv last k=a at *
  have hg:=Qkm es (a-f).toNat (by omega)
  refine rn @hg ?_
  exact⟨_,rfl⟩
 ·intro l k hk hb
  unfold bkX Qkf QAd QGw
  rw[if_neg (by rw[hb]; decide)]
  generalize QaJ f es pv last k=a at *
  generalize Qd0 f es a=e at *
  (refine rn trivial ?_; try with_reducible exact⟨⟩)
 ·intro n b
  (refine rn trivial ?_; try with_reducible exact⟨⟩)
 ·intro l k hk hb
  unfold bkX Qkf QGw
  generalize QaJ f es pv last k=a at *
  generalize Qd0 f es a=e at *
  (refine rn trivial ?_; try with_reducible exact⟨⟩)
 ·intro k hk hb
  rw[QbU]
  generalize QaJ f es pv last k=a at *
  generalize Qd0 f es a=e at *
  have hc:=hff e
  unfold E.d at hc
  refine rn F ?_
  repeat' (first
   | with_reducible exact⟨⟩
   | refine vp F (hc) ?_)
end
section
attribute [local go_sem] Ce.d Ch.d E.d Lg.c QQ Q9 QhS Qjc QiC QiW
def Qh6(l:List E):Nat->List E
 | 0=>l
 | i+1=>((Qh6 l i).set i ((Qh6 l i).getD (l.length-1-i) E0)).set (l.length-1-i) ((Qh6 l i).getD i E0)
def QdI(l:List E):∀ i,(Qh6 l i).length=l.length
 | 0=>rfl
 | i+1=>by rw[Qh6,JB,JB,QdI l i]
def QoL (l:List E):∀ (i:Nat),2 * i<=l.length->∀ j,j < l.length->(Qh6 l i).getD j E0 = if j < i\/l.length<=j + i then l.getD (l.length - 1 - j) E0 else l.getD j E0
 | 0,_,j,hj=>by rw[if_neg (by omega)]; rfl
 | i + 1,hi,j,hj=>by
   have ih:=QoL l i (by omega)
   have hlen:=QdI l i
   rw[Qh6,Jf,Ko,JB,hlen]
   by_cases h1:l.length-1-i=j
   ·rw [if_pos h1,if_pos (by omega),if_pos (by omega),Kq,ih i (by omega),if_neg (by omega)]
    congr 1; omega
   ·rw [if_neg h1,Ko,hlen]
    by_cases h2:i=j
    ·rw [if_pos h2,if_pos (by omega),if_pos (by omega),Kq,ih _ (by omega),if_neg (by omega)]
     congr 1; omega
    ·rw [if_neg h2,<- Jf,ih j hj]
     by_cases h3:j<i\/l.length<=j+i
     ·rw[if_pos h3,if_pos (by omega)]
     ·rw[if_neg h3,if_neg (by omega)]
def QxO(hi:2*i<=l.length)(h:l.length<=2*i+1):Qh6 l i=l.reverse:=by
 refine Ks (by rw[QdI,Kf]) fun j h1 h2=>?_
 rw[QdI] at h1
 have:=QoL l i hi j h1
 rw[Qc _ _ (by rw[QdI]; exact h1)] at this
 rw[this,List.getElem_reverse]
 split
 ·rw[Qc _ _ (by omega)]
 ·rw [Qc _ _ h1]
  congr 1; omega
structure RvS(l:List E) where
 i:Nat
 h:2*i<=l.length
 j:Int
 hj:j=l.length-1-i
def QHd(l:List E)(i:Nat)(h:i<l.length):((cells QaR l).drop (i*13)).take 13=(l.getD i E0).d:=by rw[Qc l i h]; exact Qpv QaR l i h
def Qoz(l:List E)(i:Nat)(h:i<l.length)(e:E):(cells QaR l).take (i*13)++[.pv (.lit (.int .i64 e.lsn)),.pv (.lit (.int .i64 e.kind)),.pv (.lit (.int .i64 e.tx)),.pv (.lit (.int .i64 e.ptx)),.pv (.lit (.int .i64 e.ppg)),.pv (.lit (.int .i64 e.ref)),.pv (.lit (.int .i64 e.c.pg)),.pv (.lit (.int .i64 e.c.sl)),.pv (.lit (.bool e.c.b.set)),.pv (.str e.c.b.data),.pv (.lit (.bool e.c.a.set)),.pv (.str e.c.a.data),.pv (.str e.blob)]++(cells QaR l).drop (i*13+13)=cells QaR (l.set i e):=QiF QaR l i e h
abbrev RvX(l:List E):DV->Qa->Prop:=fun r h'=>∃ B',h'=[B']/\B'.live=true/\DV.nums.go (fun _=>false) B'.cells=true/\r.nums (fun _=>false)=true/\(r=.tup []/\B'=⟨44,true,cells QaR l⟩)
def Qtj(l:List E)(hl:l.length<=4096):VCalls prog 87 [.own 0 13 0 l.length] [⟨44,true,cells QaR l⟩] (RvX l.reverse):=by
 refine dk Tryz.func87 ?_
 (unfold Tryz.f87; refine rn trivial ?_)
 refine Qj (fun s:RvS l=>⟨28,1,[(3,.int .i64 s.j),(2,.int .i64 s.i),(0,.own 0 13 0 l.length)],[⟨44,true,cells QaR (Qh6 l s.i)⟩]⟩) (fun s=>l.length-s.i) ⟨0,by omega,(l.length:Int)-1,by simp⟩ (gc [0]) ?_
 rintro⟨i,hi,j,hj⟩
 dsimp only
 have hrl:=QdI l i
 by_cases hc:i<l.length-1-i
 ·obtain ⟨m,rfl⟩:∃ m:Nat,j = m:=⟨l.length - 1 - i,by omega⟩
  have hm:m=l.length-1-i:=by omega
  have hc':(i:Int)<(m:Int):=by omega
  have h1:=QHd (Qh6 l i) i (by omega)
  have h2:=QHd (Qh6 l i) m (by omega)
  have h3:=Qoz (Qh6 l i) i (by omega)
  have h4:=fun e=>Qoz ((Qh6 l i).set i e) m (by rw[JB]; omega)
  have h5:i*13+13<=l.length*13:=by omega
  have h6:m*13+13<=l.length*13:=by omega
  have hr:Qh6 l (i+1)=((Qh6 l i).set i ((Qh6 l i).getD m E0)).set m ((Qh6 l i).getD i E0):=by rw[Qh6,<- hm]
  have h8:=fun e=>@List.length_set _ (Qh6 l i) i e
  generalize (Qh6 l i).getD i E0=x at *
  generalize (Qh6 l i).getD m E0=y at *
  have F:=(Jb @hc' (Jb @h1 (Jb @h2 (Jb @h3 (Jb @h4 (Jb @h5 (Jb @h6 (Jb @h8 @hrl))))))))
  refine rn F ?_
  repeat' (first
   | with_reducible exact⟨⟩
   | (refine Qb (id:=3) [0,1,2,3,4,5,6,7,8,9,10,11,12] [⟨[],[],13,[2,3,8,9,10],[14]⟩,⟨[],[],15,[],[]⟩] (by kernel_rfl) (by kernel_rfl) ?_; refine rn F ?_))
  refine⟨⟨i+1,by omega,(m:Int)-1,by omega⟩,by dsimp only; omega,?_⟩
  dsimp only
  rw[hr]
  exact(gc [0])
 ·have hc':¬ (i:Int) < j:=by omega
  have F:=@hc'
  refine rn F ?_
  rw[QxO hi (by omega)]
  show QwH _ _ _ (some _)
  refine rn trivial ?_
  exact⟨_,rfl,rfl,Qg QaR _ _,rfl,rfl,rfl⟩
def QEf(hl:l.length<=4096)(hk:hp[k]?=some ⟨44,true,cells QaR l⟩)(hK:K (.tup []) (hp.set k ⟨44,true,cells QaR l.reverse⟩)):VCalls prog 87 [.own k 13 0 l.length] hp K:=
 (VCalls.ptr1 (R:=fun r B'=>r=.tup []/\B'=⟨44,true,cells QaR l.reverse⟩) hk rfl (Qg QaR _ _) (Qtj l hl) (by simp[DV.nums.go,DV.nums])).mono fun x h' ⟨B',e1,_,_,e2,e3⟩=>by subst e1 e2 e3; exact hK
def QGO(e:E):VCalls prog 86 [.agg e.d] [] (Ret (.int .i64 e.ptx)):=by
 refine dd Tryz.func86 ?_
 (unfold Tryz.f86; refine rn trivial ?_; try with_reducible exact⟨⟩)
def bkH(x:Lg)(last above:Int)(ff:FuncId):Qa:=[⟨34,true,x.c⟩,⟨3,true,[.int .i64 last]⟩,⟨3,true,[.int .i64 above]⟩,⟨159,true,[.fn (.func ff) [] []]⟩]
def QFS(x:Lg)(last above:Int)(ff:FuncId):VCalls prog 85 [.agg x.c,.int .i64 last,.int .i64 above,.fn (.func ff) [] []] [] (fun r h'=>r=.fn (.func 103) [] [.ptr 1 0,.ptr 2 0,.ptr 0 0,.ptr 3 0]/\h'=bkH x last above ff):=by
 refine QO (fn:=Tryz.f85) Tryz.func85 rfl (by kernel_rfl) (by simp[Tryz.f85]) ?_
 (unfold Tryz.f85; refine rn trivial ?_)
 rfl
def QGL(hK:K (.fn (.func 103) [] [.ptr (hp.length+1) 0,.ptr (hp.length+2) 0,.ptr hp.length 0,.ptr (hp.length+3) 0]) (hp++bkH x last above ff)):VCalls prog 85 [.agg x.c,.int .i64 last,.int .i64 above,.fn (.func ff) [] []] hp K:=by
 refine(VCalls.frame [] (by simp) rfl rfl (QFS x last above ff) rfl rfl).mono ?_
 rintro r h2 ⟨r0,h',⟨rfl,rfl⟩,-,rfl,rfl⟩
 have e0:List.map (fun k=>hp[k]?.getD default) (Kj hp.length)=hp:=by
  apply Ks (by simp)
  intro i h1 h2
  simp[h2]
 have e1:QW hp [] (bkH x last above ff)=hp++bkH x last above ff:=by
  simp[QW,bkH,Lg.c,QcV,DV.ren,DV.ren.go]
  try exact e0
 have e2:DV.ren (V.back [] hp.length) (.fn (.func 103) [] [.ptr 1 0,.ptr 2 0,.ptr 0 0,.ptr 3 0])=.fn (.func 103) [] [.ptr (hp.length+1) 0,.ptr (hp.length+2) 0,.ptr hp.length 0,.ptr (hp.length+3) 0]:=by simp[DV.ren,DV.ren.go,V.back]
 rw[e1,e2]; exact hK
end
section
attribute [local go_sem] Ce.d Ch.d E.d Lg.c QQ Q9 mkI QdW QdV
end
section
attribute [local go_sem] Ce.d Ch.d E.d Lg.c QQ Q9 mkI QdW QdV
end
section
attribute [local go_sem] Ce.d Ch.d E.d Lg.c QQ Q9 QhS Qjc QiC QiW
def QER(h:lgB x=true)(hi:i<x.es.length):0<=(x.es.getD i E0).ppg/\(x.es.getD i E0).ppg<(x.es.getD i E0).lsn:=by
 unfold lgB at h
 rw[Jc,JF] at h
 have h2:=h.2 i (JA.2 hi)
 unfold lgC at h2
 rw[Jc] at h2
 have h4:=h2.2
 generalize x.es.getD i E0=e at *
 unfold E.okB bef at h4
 simp only[Jc,decide_eq_true_eq] at h4
 exact h4.1.1.2
def pgW (f:Int) (es:List E) (page above:Int):Nat->Int->List E->List E × Int
 | 0,_,_=>([],0)
 | n + 1,at_,out=>if above < at_ then
     (if at_ < f\/f + es.length - 1 < at_ then ([],14)
      else if QmQ (es.getD (at_-f).toNat E0)=true/\(es.getD (at_-f).toNat E0).c.pg=page then pgW f es page above n (es.getD (at_-f).toNat E0).ppg (es.getD (at_-f).toNat E0::out)
      else ([],13))
   else if at_<above then ([],13) else (out,0)
structure PW(x:Lg)(page above:Int)(res:List E×Int) where
 n:Nat
 at_:Int
 h0:0<=at_
 hn:at_.toNat<n
 out:List E
 hl:out=[]\/out.length+(at_-x.f+1).toNat<=4096
 eq:pgW x.f x.es page above n at_ out=res
end
section
attribute [local go_sem] Ce.d Ch.d E.d Lg.c QQ Q9 QhS Qjc QiC QiW
def QEQ(h:lgB x=true)(hi:i<x.es.length):0<=(x.es.getD i E0).ptx/\(x.es.getD i E0).ptx<(x.es.getD i E0).lsn:=((Wf.of h).ok i hi).ptx
def Qrk (f:Int) (es:List E):Nat->Int->Int->List E->List E × Int
 | 0,_,_,_=>([],0)
 | n + 1,at_,tx,out=>if 0 < at_ then
     (if at_ < f\/f + es.length - 1 < at_ then ([],14)
      else if (es.getD (at_-f).toNat E0).tx≠0/\(tx=0\/(es.getD (at_-f).toNat E0).tx=tx) then Qrk f es n (es.getD (at_-f).toNat E0).ptx (es.getD (at_-f).toNat E0).tx (es.getD (at_-f).toNat E0::out)
      else ([],13))
   else (out,0)
def Qle(x:Lg)(last:Int):List E×Int:=if lgB x=false then ([],26) else if last<0 then ([],1) else Qrk x.f x.es (last.toNat+1) last 0 []
structure TW(x:Lg)(last:Int)(res:List E×Int) where
 n:Nat
 at_:Int
 h0:0<=at_
 hn:at_.toNat<n
 tx:Int
 ht:(tx=0/\at_=last)\/(tx≠0/\at_<last)
 out:List E
 hl:out=[]\/out.length+(at_-x.f+1).toNat<=4096
 eq:Qrk x.f x.es n at_ tx out=res
end
section
attribute [local go_sem] Ce.d Ch.d E.d Lg.c QQ Q9 QhS Qjc QiC QiW Qep bkH
def Qnz(f:Int)(es:List E)(pv:E->Int)(a:Int)(k:Nat):List E:=(Kj k).map fun j=>Qd0 f es (QaJ f es pv a j)
def Qj0(f:Int)(es:List E)(pv:E->Int)(a:Int)(k:Nat):(Qnz f es pv a k).length=k:=by simp[Qnz]
def Qha(f:Int)(es:List E)(pv:E->Int)(a:Int)(k:Nat):Qnz f es pv a (k+1)=Qnz f es pv a k++[Qd0 f es (QaJ f es pv a k)]:=by
 simp[Qnz,J9]
def Qn9(h:lgB x=true):Bef x.f x.es E.ppg:=fun i hi=>by
 have h1:=QER h hi
 have h2:=((Wf.of h).ok i hi).lsn
 omega
def QfD(h:lgB x=true):Bef x.f x.es E.ptx:=fun i hi=>by
 have h1:=QEQ h hi
 have h2:=((Wf.of h).ok i hi).lsn
 omega
structure PgG(x:Lg)(page above last:Int)(res:List E×Int)(k:Nat):Prop where
 re:∀ j,j<k->Qin x.f x.es (QaJ x.f x.es E.ppg last j)=false
 eq:pgW x.f x.es page above (last.toNat+1-k) (QaJ x.f x.es E.ppg last k) (Qnz x.f x.es E.ppg last k).reverse=res
def PgG.step{x:Lg}{page above last:Int}{res:List E×Int}{k:Nat}(hv:lgB x=true)(h:PgG x page above last res k)(h0:0<=above)(hl:0<=last)(ha:above<QaJ x.f x.es E.ppg last k) :
 if Qin x.f x.es (QaJ x.f x.es E.ppg last k)=true then res=([],14)
 else if QmQ (Qd0 x.f x.es (QaJ x.f x.es E.ppg last k))=true/\(Qd0 x.f x.es (QaJ x.f x.es E.ppg last k)).c.pg=page then PgG x page above last res (k+1) else res=([],13):=by
 have hm:=(Qei (Qn9 hv) h.re).1
 have he:=h.eq
 obtain⟨m,hm2⟩:∃ m,last.toNat+1-k=m+1:=⟨last.toNat-k,by omega⟩
 rw[hm2,pgW,if_pos ha] at he
 split
 ·rename_i hb
  rw[if_pos (by unfold Qin at hb; simp at hb; omega)] at he
  exact he.symm
 ·rename_i hb
  have hb:=JM.2 hb
  have hb2:=QfE hb
  rw[if_neg (by omega)] at he
  split
  ·rename_i hc
   unfold Qd0 at hc
   rw[if_pos hc] at he
   refine⟨fun j hj=>?_,?_⟩
   ·rcases J0.1 hj with q | rfl
    ·exact h.re j q
    ·exact hb
   ·rw [show last.toNat + 1 - (k + 1) = m by omega,QbU,Qha,Kg]
    exact he
  ·rename_i hc
   unfold Qd0 at hc
   rw[if_neg hc] at he
   exact he.symm
def PgG.done(hv:lgB x=true)(h0:0<=above)(hl:0<=last)(h:PgG x page above last res (QfX x.f x.es E.ppg above (last.toNat+1) last)):
 res=if QaJ x.f x.es E.ppg last (QfX x.f x.es E.ppg above (last.toNat+1) last)<above then ([],13) else ((Qnz x.f x.es E.ppg last (QfX x.f x.es E.ppg above (last.toNat+1) last)).reverse,0):=by
 have hm:=(Qei (Qn9 hv) h.re)
 have hn:=Qkr (Qn9 hv) h0 (Jz _) h.re
 have he:=h.eq
 generalize QfX x.f x.es E.ppg above (last.toNat+1) last=N at *
 have hm1:QaJ x.f x.es E.ppg last N+N<=last/\0<=QaJ x.f x.es E.ppg last N:=⟨hm.1,hm.2.elim (fun e=>by subst e; exact hl) id⟩
 obtain⟨m,hm2⟩:∃ m,last.toNat+1-N=m+1:=⟨last.toNat-N,by omega⟩
 rw[hm2,pgW,if_neg hn] at he
 exact he.symm
def QzX (hpv:Bef f es pv) (h:∀ j,j < k->Qin f es (QaJ f es pv a j) = false):k<=es.length:=by
 cases k with
 | zero=>exact Ji _
 | succ k =>
   have h0:=QfE (h 0 (Nat.succ_pos _))
   have hk:=QfE (h k (Jz _))
   have:=(Qei hpv (fun j hj=>h j (Km hj))).1
   rw[QaJ] at h0
   omega
end
section
attribute [local go_sem] Ce.d Ch.d E.d Lg.c QQ Q9 QhS Qjc QiC QiW Qep bkH
def txP(x:Lg)(last:Int)(k:Nat):Int:=if k=0 then 0 else (Qd0 x.f x.es last).tx
structure TxG(x:Lg)(last:Int)(res:List E×Int)(k:Nat):Prop where
 re:∀ j,j<k->Qin x.f x.es (QaJ x.f x.es E.ptx last j)=false
 ne:k≠0->txP x last k≠0
 eq:Qrk x.f x.es (last.toNat+1-k) (QaJ x.f x.es E.ptx last k) (txP x last k) (Qnz x.f x.es E.ptx last k).reverse=res
def TxG.step{x:Lg}{last:Int}{res:List E×Int}{k:Nat}(hv:lgB x=true)(h:TxG x last res k)(hl:0<=last)(ha:0<QaJ x.f x.es E.ptx last k) :
 if Qin x.f x.es (QaJ x.f x.es E.ptx last k)=true then res=([],14)
 else if (Qd0 x.f x.es (QaJ x.f x.es E.ptx last k)).tx≠0/\(k=0\/(Qd0 x.f x.es (QaJ x.f x.es E.ptx last k)).tx=(Qd0 x.f x.es last).tx) then TxG x last res (k+1) else res=([],13):=by
 have hm:=(Qei (QfD hv) h.re).1
 have he:=h.eq
 obtain⟨m,hm2⟩:∃ m,last.toNat+1-k=m+1:=⟨last.toNat-k,by omega⟩
 rw[hm2,Qrk,if_pos ha] at he
 have hk0:k=0->QaJ x.f x.es E.ptx last k=last:=fun e=>by subst e; rfl
 have hcase:txP x last k=0\/(Qd0 x.f x.es (QaJ x.f x.es E.ptx last k)).tx=txP x last k ↔ (k=0\/(Qd0 x.f x.es (QaJ x.f x.es E.ptx last k)).tx=(Qd0 x.f x.es last).tx):=by
  by_cases h0:k=0
  ·simp[txP,h0]
  ·have:=h.ne h0
   simp only[txP,if_neg h0] at this |-
   simp[this,h0]
 split
 ·rename_i hb
  rw[if_pos (by unfold Qin at hb; simp at hb; omega)] at he
  exact he.symm
 ·rename_i hb
  have hb:=JM.2 hb
  have hb2:=QfE hb
  rw[if_neg (by omega)] at he
  have hent:x.es.getD (QaJ x.f x.es E.ptx last k-x.f).toNat E0=Qd0 x.f x.es (QaJ x.f x.es E.ptx last k):=rfl
  rw[hent] at he
  split
  ·rename_i hc
   rw[if_pos ⟨hc.1,hcase.2 hc.2⟩] at he
   have htx:(Qd0 x.f x.es (QaJ x.f x.es E.ptx last k)).tx=txP x last (k+1):=by
    rw[txP,if_neg (Nat.succ_ne_zero k)]
    rcases hc.2 with e | e
    ·rw[hk0 e]
    ·exact e
   refine⟨fun j hj=>?_,fun _=>by rw[<- htx]; exact hc.1,?_⟩
   ·rcases J0.1 hj with q | rfl
    ·exact h.re j q
    ·exact hb
   ·rw [show last.toNat + 1 - (k + 1) = m by omega,QbU,Qha,Kg,<- htx]
    exact he
  ·rename_i hc
   rw[if_neg (fun q=>hc ⟨q.1,hcase.1 q.2⟩)] at he
   exact he.symm
def TxG.done(hv:lgB x=true)(hl:0<=last)(h:TxG x last res (QfX x.f x.es E.ptx 0 (last.toNat+1) last)):
 res=((Qnz x.f x.es E.ptx last (QfX x.f x.es E.ptx 0 (last.toNat+1) last)).reverse,0):=by
 have hm:=(Qei (QfD hv) h.re)
 have hn:=Qkr (QfD hv) (JC 0) (Jz _) h.re
 have he:=h.eq
 generalize QfX x.f x.es E.ptx 0 (last.toNat+1) last=N at *
 have hm1:QaJ x.f x.es E.ptx last N+N<=last/\0<=QaJ x.f x.es E.ptx last N:=⟨hm.1,hm.2.elim (fun e=>by subst e; exact hl) id⟩
 obtain⟨m,hm2⟩:∃ m,last.toNat+1-N=m+1:=⟨last.toNat-N,by omega⟩
 rw[hm2,Qrk,if_neg hn] at he
 exact he.symm
def txI(x:Lg)(last:Int)(k:Nat):Qa:=[⟨34,true,x.c⟩,⟨32,true,[.pv (.slc [])]⟩,⟨35,true,[.int .i64 0]⟩,⟨32,true,[.own 8 13 0 k]⟩]++bkH x last 0 86++[⟨44,true,cells QaR (Qnz x.f x.es E.ptx last k)⟩]
def QIo(l:List E)(h:0<l.length):(cells QaR l)[2]?=some (.pv (.lit (.int .i64 (l.getD 0 E0).tx))):=by
 have:=QHd l 0 h
 rw[Nat.zero_mul,Kt] at this
 have h2:(cells QaR l)[2]?=((cells QaR l).take 13)[2]?:=by rw[Kh]; rfl
 rw[h2,this]
 rfl
def QHh(x:Lg)(hx:x.es.length<=9223372036854775807)(last:Int)(hlast:last<=9223372036854775807):VCalls prog 56 [.agg x.c,.int .i64 last] [] (Ret (.tup [.pv (.sl (fz QaR (Qle x last).1)),.int .i64 (Qle x last).2])):=by
 refine VCalls.unwk ?_
 refine QkX (fn:=Tryz.f56) Tryz.func56 rfl (by kernel_rfl) (by simp[Tryz.f56]) ?_
 have hv:=Qyz x hx
 have eS:Qle x last=if lgB x=false then ([],26) else if last<0 then ([],1) else Qrk x.f x.es (last.toNat+1) last 0 []:=rfl
 unfold Lg.c at hv
 refine VWp0.first ?_
 (unfold Tryz.f56; refine rn trivial ?_)
 refine VWp0.first ?_
 refine rn trivial ?_
 cases hlg:lgB x
 ·rw [hlg] at hv
  refine rn F ?_
  repeat' (first
   | with_reducible exact⟨⟩
   | refine vp F (hv) ?_)
  rw[eS,if_pos hlg]
  rfl
 rw[hlg] at hv
 rw[if_neg (by rw[hlg]; decide)] at eS
 refine rn F ?_
 repeat' (first
  | with_reducible exact⟨⟩
  | (refine sB F ?_ ?_<;>intro hZ)
  | refine vp F (hv) ?_)
 all_goals first
  | (rw[eS,if_pos (by omega)]; rfl)
  | skip
 have hes:x.es.length<=4096:=(Qat hlg).2.2.1
 have hf1:=(Qat hlg).1
 have hfm:=(Qat hlg).2.1
 have hl0:0<=last:=by omega
 rw[if_neg (by omega)] at eS
 generalize Qle x last=res at *
 refine VWp0.first ?_
 refine rn trivial ?_
 refine VWp0.then (VWp0.first ?_)
 refine rn trivial ?_
 refine QGL (x:=x) (ff:=86) ?_
 refine rn trivial ?_
 refine VWp0.block ?_
 refine VWp0.seqK (fn:=Tryz.f103) (caps:=[.ip [.lit (.int .i64 last)],.ip [.lit (.int .i64 0)],.ip (Qkf x.f x.es x.d),.ip [.lit (.func (.func 86) #[] #[])]]) rfl Tryz.func103 (by kernel_rfl) (by kernel_rfl) (QDt (d:=x.d) (QfD hlg) hf1 hfm hes (JC 0) hlast QGO) (by show 19<53; decide) (by show 20<53; decide)
  (fun k=>.int .i64 (QaJ x.f x.es E.ptx last k)) (fun k=>QAd x.f x.es (QaJ x.f x.es E.ptx last k)) _ _ (fun k _=>rfl) (fun k W β1 hp1 _=>.pv _ _ (.lit _ rfl)) (fun k W β1 hp1 _=>DV.fix_rel (by unfold QAd; split<;>rfl))
  (txI x last) (QD3 3 0 44 13 rfl rfl rfl) (TxG x last res) ⟨fun j hj=>absurd hj (Jn _),fun h=>absurd rfl h,eS.symm⟩
  (fun k W β1 us hh hr=>QGX hr (fun v h=>QjW hh rfl h) (fun v h=>QjW hh rfl h) (fun v h=>QjW (cs:=Qkf x.f x.es x.d) hh rfl h) (fun v h=>Qnv hh rfl h))
  (fun k hp'=>res.1=[]/\∃ rest:Qa,hp'=([⟨34,true,x.c⟩,⟨32,true,[.pv (.slc [])]⟩,⟨35,true,[.int .i64 res.2]⟩]++rest:Qa)) (by kernel_rfl) BodyOf.vr ?_ ?_ ?_
 ·intro k hk hG
  have hst:=hG.step hlg hl0 (Qfw hk)
  have hlen:=Qj0 x.f x.es E.ptx last k
  have hle:=QzX (QfD hlg) hG.re
  have hlb:(k+1)*208<=140737488355328:=by omega
  have hsu:=Qha x.f x.es E.ptx last k
  have hps:=QbU x.f x.es E.ptx last k
  have hg0:=QIo (Qnz x.f x.es E.ptx last k)
  have hfi:0<k->(Qnz x.f x.es E.ptx last k).getD 0 E0=Qd0 x.f x.es last:=fun h=>by
   rw[Qc _ _ (by rw[Qj0]; exact h)]
   simp[Qnz,QaJ]
  unfold QjJ txI
  dsimp only
  unfold QAd
  rw[hsu]
  clear hG hps hsu
  generalize hpo:QaJ x.f x.es E.ptx last k=a at *
  generalize hou:Qnz x.f x.es E.ptx last k=out at *
  generalize hen:Qd0 x.f x.es a=e at *
  by_cases hb:Qin x.f x.es a=true
  ·rw [if_pos hb] at hst |-
   subst hst
   refine rn trivial ?_
   refine VR.block (VR.seq (VR.first rfl ?_))
   refine rn trivial ?_
   refine VR.cond rfl (fun hZ=>?_) (fun hZ=>?_)
   ·refine VR.seq (VR.draw (by kernel_rfl) (by decide +kernel) ?_)
    refine rn trivial ?_
    refine VR.plain rfl ?_
    refine rn trivial ?_
    exact⟨_,rfl⟩
   ·cases hZ
  ·rw [if_neg hb] at hst |-
   refine rn trivial ?_
   refine VR.block (VR.seq (VR.first rfl ?_))
   refine rn trivial ?_
   refine VR.cond rfl (fun hZ=>?_) (fun hZ=>?_)
   ·cases hZ
   refine VR.plain rfl ?_
   refine rn trivial ?_
   refine VR.seq (VR.seq (VR.draw (by kernel_rfl) (by decide +kernel) ?_))
   by_cases hk0:k=0
   ·subst hk0
    have F:=@hlen
    refine rn F ?_
    repeat' (first
     | with_reducible exact⟨⟩
     | (refine sD F ?_ ?_<;>intro hZ))
    ·refine VR.cond rfl (fun hY=>?_) (fun hY=>?_)
     ·cases hY
     refine VR.plain rfl ?_
     refine rn trivial ?_
     refine VR.plain rfl ?_
     rw[if_pos ⟨hZ,.inl rfl⟩] at hst
     obtain rfl:out=[]:=List.length_eq_zero_iff.1 hlen
     refine rn trivial ?_
     exact⟨hst,Wk.weak (gc [0,1,2,3,4,5,6,7,11])⟩
    ·refine VR.cond rfl (fun hY=>?_) (fun hY=>?_)
     ·refine VR.plain rfl ?_
      rw[if_neg (fun h=>h.1 hZ)] at hst
      subst hst
      refine rn trivial ?_
      exact⟨_,rfl⟩
     ·cases hY
   ·have hk1:0 < k:=by omega
    rw[hlen] at hg0
    have hg0:=hg0 hk1
    rw[hfi hk1] at hg0
    have F:=(Jb @hlen @hg0)
    refine rn F ?_
    repeat' (first
     | with_reducible exact⟨⟩
     | (refine sD F ?_ ?_<;>intro hZ))
    ·refine VR.cond rfl (fun hY=>?_) (fun hY=>?_)
     ·refine VR.plain rfl ?_
      rw[if_neg (fun h=>by rcases h.2 with q | q; exact hk0 q; simp[q] at hY)] at hst
      subst hst
      refine rn trivial ?_
      exact⟨_,rfl⟩
     refine VR.plain rfl ?_
     refine rn trivial ?_
     refine VR.plain rfl ?_
     rw[if_pos ⟨hZ,.inr (by simpa using hY)⟩] at hst
     refine rn @hlen ?_
     exact⟨hst,Wk.weak (gc [0,1,2,3,4,5,6,7,11])⟩
    ·refine VR.cond rfl (fun hY=>?_) (fun hY=>?_)
     ·refine VR.plain rfl ?_
      rw[if_neg (fun h=>h.1 hZ)] at hst
      subst hst
      refine rn trivial ?_
      exact⟨_,rfl⟩
     ·cases hY
 ·intro hG
  have hdn:=hG.done hlg hl0
  have hle:=QzX (QfD hlg) hG.re
  have hlen:=Qj0 x.f x.es E.ptx last (QfX x.f x.es E.ptx 0 (last.toNat+1) last)
  unfold txI
  dsimp only
  refine VWpE.plain ?_
  clear hG eS
  generalize QfX x.f x.es E.ptx 0 (last.toNat+1) last=N at *
  generalize QaJ x.f x.es E.ptx last N=a at *
  generalize Qnz x.f x.es E.ptx last N=out at *
  subst hlen
  have hlr:out.reverse.length=out.length:=Kf
  subst hdn
  have F:=trivial
  refine rn F ?_
  refine QEf (l:=out) (by omega) rfl ?_
  have F:=@hlr
  (refine rn F ?_; try with_reducible exact⟨⟩)
 ·rintro k hp' hk ⟨e1,rest,rfl⟩
  obtain⟨r1,r2⟩:=res
  dsimp only at e1
  subst e1
  refine rn trivial ?_
  rfl
end
section
def ofT(a:Int)(e:E):Bool:=decide (e.tx=a)
def QwX{es:List E}(h:i<es.length)(q:E->Bool):(es.take (i+1)).filter q=(es.take i).filter q++(if q (es.getD i E0)=true then [es.getD i E0] else []):=by
 rw[Qcp es h,JV]
 congr 1
 by_cases h2:q (es.getD i E0)=true
 ·rw[if_pos h2,J1 h2,JK]
 ·rw[if_neg h2,J2 h2,JK]
section
variable {x:Lg} (hv:lgB x=true) (hf:x.f=1) (hlog:LogOk x.es)
include hv hf in
include hv hf in
theorem Qkg (a:Int):∀ i,i<=x.es.length->0<=Qbm (x.es.take i) a/\Qbm (x.es.take i) a<=i
 | 0,_=>by rw[JE]; exact⟨JC _,JC _⟩
 | i + 1,h=>by
   have ih:=Qkg a i (by omega)
   have h1:=(Qaw hv (i:=i) (by omega)).1
   rw[Qcp _ (by omega),QaA]
   split<;>omega
include hv hf hlog in
include hv hf hlog in
theorem Qnc (a:Int) (ha:0 < a):∀ i,i<=x.es.length->∀ n (tx:Int) (out:List E),(tx = 0\/tx = a)->(Qbm (x.es.take i) a).toNat < n ->
 Qrk 1 x.es n (Qbm (x.es.take i) a) tx out=(((x.es.take i).filter (ofT a))++out,0)
 | 0,_,n + 1,tx,out,_,hn=>by
   rw[JE,Qrk,if_neg (by simp[Qbm])]
   rfl
 | i + 1,hi,n,tx,out,ht,hn=>by
   have h1:=(Qaw hv (i:=i) (by omega)).1
   rw[QwX (by omega)]
   by_cases hq:(x.es.getD i E0).tx=a
   ·have hl:Qbm (x.es.take (i + 1)) a = (i:Int) + 1:=by
     rw[Qcp _ (by omega),QaA,if_pos hq]; omega
    rw[hl] at hn |-
    have hidx:((i:Int)+1-1).toNat=i:=by omega
    cases n with
    | zero=>omega
    | succ n=>
    rw[Qrk,if_pos (by omega),if_neg (by omega),hidx,if_pos (by rw[hq]; omega)]
    have hpp:=(hlog i (by omega)).ptx (by omega)
    rw[hq] at hpp
    have hb:=Qkg hv hf a i (by omega)
    rw[hpp,Qnc a ha i (by omega) n _ _ (.inr hq) (by omega),if_pos (show ofT a _=true from decide_eq_true hq),Jh]
    rfl
   ·have hl:Qbm (x.es.take (i + 1)) a = Qbm (x.es.take i) a:=by rw [Qcp _ (by omega),QaA,if_neg hq]
    rw[hl] at hn |-
    rw[Qnc a ha i (by omega) n tx out ht hn,if_neg (by unfold ofT; simpa using hq),Js]
include hv hf hlog in
include hv hf hlog in
theorem QBa(a:Int)(ha:0<a):Qle x (Qbm x.es a)=(x.es.filter (ofT a),0):=by
 have hb:=Qkg hv hf a x.es.length (Jr _)
 have h:=Qnc hv hf hlog a ha x.es.length (Jr _) ((Qbm (x.es.take x.es.length) a).toNat+1) 0 [] (.inl rfl) (Jz _)
 rw[Jy] at h hb
 unfold Qle
 rw[if_neg (by rw[hv]; decide),if_neg (by omega),hf,h,Js]
end
def Qn1{α:Type}{R:α->α->Prop}{l:List α}(h:l.Pairwise R)(p:α->Bool):(l.filter p).Pairwise R:=h.sublist JU
def QCm(hv:lgB x=true):x.es.Pairwise (fun a b=>a.lsn<b.lsn):=by
 rw[Jm]
 intro i j hi hj hij
 have h1:=(Qaw hv hi).1
 have h2:=(Qaw hv hj).1
 rw[Qc _ _ hi] at h1
 rw[Qc _ _ hj] at h2
 omega
section
variable {x:Lg} (hv:lgB x=true) (hf:x.f=1) (hlog:LogOk x.es)
include hv hf hlog in
include hv hf hlog in
include hv in
include hv hf hlog in
end
end
section
attribute [local go_sem] Ce.d Ch.d E.d Lg.c QQ Q9 QhS Qjc QiC QiW Qwe Qwi Qwd Qwc Qgg
def Qot (W:Wf f es) (hl:es.length<=4096):∀ (n:Nat) (a tx:Int) (out:List E),(out = []\/out.length + (a - f + 1).toNat<=4096)->(Qrk f es n a tx out).1.length<=4096
 | 0,_,_,_,_=>Ji _
 | n + 1,a,tx,out,h=>by
   rw[Qrk]
   split
   ·split
    ·exact Ji _
    ·rename_i hr
     split
     ·refine Qot W hl n _ _ _ (.inr ?_)
      have hw:=W.ok (a-f).toNat (by omega)
      have h1:=hw.lsn
      have h2:=hw.ptx
      rw[Jl]
      rcases h with rfl | h
      ·rw[J7]; omega
      ·omega
     ·exact Ji _
   ·dsimp only
    rcases h with rfl | h
    ·exact Ji _
    ·omega
def QwV(x:Lg)(last:Int):(Qle x last).1.length<=4096:=by
 unfold Qle
 split
 ·exact Ji _
 ·rename_i hv
  have hv:lgB x=true:=by cases h:lgB x<;>simp_all
  split
  ·exact Ji _
  ·exact Qot (Wf.of hv) (Qat hv).2.2.1 _ _ _ _ (.inl rfl)
def Qcd(es:List E):Nat->List Int
 | 0=>[]
 | k+1=>if (es.getD k E0).kind≠1\/QmM es es.length (es.getD k E0).lsn=true then Qcd es k else Qcd es k++[(es.getD k E0).lsn]
def Qg8 (es:List E):∀ k,(Qcd es k).length<=k
 | 0=>Jr _
 | k + 1=>by
   rw[Qcd]
   have:=Qg8 es k
   split
   ·omega
   ·rw[Ja]; simp; omega
def Qqt(x:Lg)(last:Int):List Int×Int:=if (Qle x last).2≠0 then ([],(Qle x last).2) else (Qcd (Qle x last).1 (Qle x last).1.length,0)
end
section
def Qg7 (es:List E) (n:Int):∀ k,k<=es.length->(n ∈ Qcd es k ↔ ∃ j,j < k/\(es.getD j E0).kind = 1/\QmM es es.length (es.getD j E0).lsn = false/\n = (es.getD j E0).lsn)
 | 0,_=>by simp[Qcd]
 | k + 1,h=>by
   rw[Qcd]
   have ih:=Qg7 es n k (by omega)
   constructor
   ·intro q
    split at q
    ·obtain ⟨j,j1,j2⟩:=ih.1 q
     exact⟨j,by omega,j2⟩
    ·rename_i hc
     rcases Ju.1 q with q | q
     ·obtain ⟨j,j1,j2⟩:=ih.1 q
      exact⟨j,by omega,j2⟩
     ·refine ⟨k,by omega,?_,?_,Je.1 q⟩
      ·by_cases g:(es.getD k E0).kind = 1
       ·exact g
       ·exact absurd (.inl g) hc
      ·cases g:QmM es es.length (es.getD k E0).lsn
       ·rfl
       ·exact absurd (.inr g) hc
   ·rintro ⟨j,j1,j2,j3,j4⟩
    by_cases hj:j=k
    ·subst hj
     rw[if_neg (by rintro(g | g); exact g j2; rw[j3] at g; cases g)]
     exact List.mem_append_right _ (by rw[j4]; simp)
    ·have:=ih.2 ⟨j,by omega,j2,j3,j4⟩
     split
     ·exact this
     ·exact JD _ this
def QlJ (es:List E) (ha:es.Pairwise fun a b=>a.lsn < b.lsn):∀ k,k<=es.length->(Qcd es k).Pairwise (· < ·)
 | 0,_=>by simp[Qcd]
 | k + 1,h=>by
   rw[Qcd]
   have ih:=QlJ es ha k (by omega)
   split
   ·exact ih
   ·refine JP.2 ⟨ih,by simp,fun a h1 b h2=>?_⟩
    rw[Je.1 h2]
    obtain⟨j,j1,_,_,rfl⟩:=(Qg7 es a k (by omega)).1 h1
    have:=Jm.1 ha j k (by omega) (by omega) j1
    rw[Qc _ _ (by omega),Qc _ _ (by omega)]
    exact this
def undR_no:QmM es es.length n=false ↔ ∀ u∈es,u.kind=2->u.ref≠n:=by
 unfold QmM
 rw[exE_iff']
 constructor
 ·intro h u hu h2 hr
  obtain⟨q,hq,rfl⟩:=Jq.1 hu
  have:=h q hq
  rw[Qc _ _ hq] at this
  unfold undp at this
  simp[h2,hr] at this
 ·intro h k hk
  have:=h (es.getD k E0) (by rw[Qc _ _ hk]; exact Jd hk)
  unfold undp
  simp only[Ka,decide_eq_false_iff_not]
  by_cases g:(es.getD k E0).kind=2
  ·exact .inr (this g)
  ·exact .inl g
section
variable {x:Lg} (hv:lgB x=true) (hf:x.f=1) (hlog:LogOk x.es)
include hv hf hlog in
theorem Qx9(a:Int)(ha:0<a):Qqt x (Qbm x.es a)=(Qbb x.es a,0):=by
 unfold Qqt
 rw[QBa hv hf hlog a ha,if_neg (by simp)]
 dsimp only
 congr 1
 have hasc:(x.es.filter (ofT a)).Pairwise fun a b=>a.lsn<b.lsn:=Qn1 (QCm hv) _
 have ht:=Qgx hv x.es.length hf
 rw[Jy] at ht
 refine QvY (QlJ _ hasc _ (Jr _)) (QlI a x.es ht).1 fun n=>?_
 rw[Qg7 _ _ _ (Jr _)]
 have hp:=QoW hv hf hlog a n x.es.length (Jr _)
 rw[Jy] at hp
 rw[hp]
 constructor
 ·rintro ⟨j,j1,j2,j3,rfl⟩
  have hm:(x.es.filter (ofT a)).getD j E0∈x.es.filter (ofT a):=by rw[Qc _ _ j1]; exact Jd j1
  generalize (x.es.filter (ofT a)).getD j E0=e at *
  obtain⟨m1,m2⟩:=Jg.1 hm
  have m2:e.tx=a:=of_decide_eq_true m2
  obtain⟨k,k1,k2⟩:=Jq.1 m1
  refine⟨⟨k,k1,?_⟩,fun q q1 q2 q3=>?_⟩
  ·rw[Qc _ _ k1,k2]; exact⟨rfl,j2,m2⟩
  ·obtain ⟨_,y,y1,y2,_,y3,_⟩:=(hlog q q1).un q2
   have:y=e:=Qo6 hv (Kc y1) m1 (by omega)
   subst this
   refine undR_no.1 j3 (x.es.getD q E0) (Jg.2 ⟨?_,decide_eq_true (by omega)⟩) q2 q3
   rw[Qc _ _ q1]; exact Jd q1
 ·rintro ⟨⟨k,k1,k2,k3,k4⟩,hu⟩
  have hm:x.es.getD k E0∈x.es.filter (ofT a):=Jg.2 ⟨by rw[Qc _ _ k1]; exact Jd k1,decide_eq_true k4⟩
  obtain⟨j,j1,j2⟩:=Jq.1 hm
  refine⟨j,j1,?_,?_,?_⟩
  ·rw[Qc _ _ j1,j2]; exact k3
  ·rw [undR_no]
   intro u hu1 hu2
   rw[Qc _ _ j1,j2,k2]
   obtain⟨q,q1,rfl⟩:=Jq.1 (Jg.1 hu1).1
   have:=hu q q1
   rw[Qc _ _ q1] at this
   exact this hu2
  ·rw[Qc _ _ j1,j2,k2]
theorem QC1(h:FT x.es (QeW x.es x.es.length) m):
 (∀ t∈QeW x.es x.es.length,t.n=Qbm x.es t.id/\t.l=Qbb x.es t.id/\0<t.id)/\∀ e∈x.es,0<e.tx->(e.kind=3\/e.kind=5)->idT (QeW x.es x.es.length) e.tx<0:=
 ⟨fun t q=>⟨(h.ok t q).n,(h.ok t q).l,by have:=h.idr t q; omega⟩,fun e he h0 hk=>by
  rcases Qy (QeW x.es x.es.length) e.tx with q | ⟨i,hi,_,q2⟩
  ·omega
  ·exact absurd ⟨e,he,by omega,hk⟩ (h.ok _ (Jd hi)).ne⟩
end
end
section
attribute [local go_sem] Ce.d Ch.d E.d QhS Qjc QiC QiW Qep Qwe Qwi Qwd Qwc Qgg E.q Jn Lg.c
def Qsn(es:List E):Nat->List (Int×DV)
 | 0=>[]
 | i+1=>if (es.getD i E0).kind=2 then QlE (Qsn es i) (es.getD i E0).ref (.bool true) else Qsn es i
def Qom (es:List E) (n:Int):∀ i,QqH (Qsn es i) n = if QmM es i n = true then some (.bool true) else none
 | 0=>rfl
 | i + 1=>by
   rw[Qsn,Qda]
   have ih:=Qom es n i
   generalize es.getD i E0=e at *
   by_cases hk:e.kind=2
   ·rw [if_pos hk,QyK,ih]
    by_cases hr:e.ref=n
    ·rw [if_pos hr]
     simp[undp,hk,hr]
    ·rw [if_neg hr]
     simp[undp,hr]
   ·rw [if_neg hk,ih]
    simp[undp,hk]
structure PA(b:Nat)(n:Nat) where
 i:Nat
 hi:i<=n
 hp:Qa
def OutOk(hp:Qa)(l:List Int)(p:DV):Prop:=(l=[]/\p=.pv (.slc []))\/∃ k,p=.own k 1 0 l.length/\k<hp.length/\hp[k]?=some ⟨3,true,cells Qx l⟩
structure PB(es:List E) where
 i:Nat
 hi:i<=es.length
 hp:Qa
 p:DV
 ok:OutOk hp (Qcd es i) p
def OutOk.app(h:OutOk hp l p)(r:Qa):OutOk (hp++r) l p:=by
 rcases h with h | ⟨k,e1,e2,e3⟩
 ·exact .inl h
 ·exact .inr ⟨k,e1,by rw[Ja]; omega,by rw[JW e2]; exact e3⟩
def QjZ(c:QzD)(es:List E)(bu b0 i:Nat)(hlt:i<es.length)(S:St)(p:DV)(g:MapsD)(ok:OutOk S.hp (Qcd es (i+1)) p)(hn:S.nt=60)
 (ht:∀ q∈[(39,DV.int .i64 ((i+1:Nat):Int)),(38,DV.int .i64 es.length),(37,DV.pv (.sl (fz QaR es))),(11,p),(8,DV.pv (.lit (.map (some bu))))],V.look S.tm q.1=q.2\/q.2=.any) :
 ∃ j:PB es,es.length-j.i<es.length-i/\WeakG (Qje c) S g ⟨60,b0,[(39,.int .i64 j.i),(38,.int .i64 es.length),(37,.pv (.sl (fz QaR es))),(11,j.p),(8,.pv (.lit (.map (some bu))))],j.hp⟩ g:=
 ⟨⟨i+1,hlt,S.hp,p,ok⟩,by dsimp only; omega,WeakG.slots hn rfl ht⟩
def QDj(x:Lg)(hx:x.es.length<=9223372036854775807)(last:Int)(hlast:last<=9223372036854775807):VCalls prog 19 [.agg x.c,.int .i64 last] [] (Ret (.tup [.pv (.sl (fz Qx (Qqt x last).1)),.int .i64 (Qqt x last).2])):=by
 refine VCalls.unwk ?_
 refine Qm4 (fn:=Tryz.f19) Tryz.func19 rfl (by kernel_rfl) (by simp[Tryz.f19]) (fun c=>?_)
 have ht:=QHh x hx last hlast
 have hl:=QwV x last
 have eS:Qqt x last=if (Qle x last).2≠0 then ([],(Qle x last).2) else (Qcd (Qle x last).1 (Qle x last).1.length,0):=rfl
 unfold Lg.c at ht
 generalize Qqt x last=res at *
 generalize Qle x last=t at *
 obtain⟨es,er⟩:=t
 dsimp only at ht hl eS
 refine VWpG.first (Qm c) ?_
 (unfold Tryz.f19; refine rn trivial ?_)
 refine VWpG.seq ?_
 refine VWpG.plain (Qm c) ?_
 refine rn trivial ?_
 refine Qav ht rfl ?_
 refine rn trivial ?_
 by_cases he:er=0
 rotate_left
 ·rw [if_pos he] at eS
  subst eS
  refine VWpG.seq ?_
  refine VWpG.first (Qm c) ?_
  refine rn @he ?_
  refine VWpG.cond rfl (fun hZ=>?_) (fun hZ=>?_)
  ·refine VWpG.plain (Qm c) ?_
   refine rn trivial ?_
   rfl
  ·cases hZ
 subst he
 rw[if_neg (fun h=>h rfl)] at eS
 subst eS
 refine VWpG.seq ?_
 refine VWpG.first (Qm c) ?_
 refine rn trivial ?_
 refine VWpG.cond rfl (fun hZ=>?_) (fun hZ=>?_)
 ·cases hZ
 refine VWpG.plain (Qm c) ?_
 refine rn trivial ?_
 refine VWpG.seq ?_
 refine VWpG.cut1 (Qm c) 0 [] ?_
 refine rn trivial ?_
 refine Qj1 rfl (fun c=>by simp) (Qvo rfl rfl fun bu h3=>?_)
 refine rn trivial ?_
 refine VWpG.seq ?_
 refine VWpG.first (Qm c) ?_
 refine rn trivial ?_
 refine VWpG.block ?_
 refine VWpG.loop (fun s:PA bu es.length=>⟨60,1,[(26,.int .i64 s.i),(25,.int .i64 es.length),(24,.pv (.sl (fz QaR es))),(8,.pv (.lit (.map (some bu)))),(6,.pv (.sl (fz QaR es)))],s.hp⟩) (fun s=>[(bu,QhA kI (Qsn es s.i))]) (fun s=>es.length-s.i) ⟨0,Ji _,[⟨34,true,[.int .i64 x.f,.pv (.sl (fz QaR x.es)),.int .i64 x.d]⟩]⟩ ?_ ?_
 ·refine WeakG.slots rfl rfl ?_
  intro p hp
  simp only[Jk,Jp,or_false] at hp
  rcases hp with rfl | rfl | rfl | rfl | rfl<;>exact .inl rfl
 rintro⟨i,hi,hp⟩
 dsimp only
 refine VWpG.first (Qm c) ?_
 refine rn trivial ?_
 refine VWpG.seq ?_
 by_cases hlt:i<es.length
 ·have hg:=QCQ es i hlt
  have hd:decide ((i:Int)<es.length)=true:=by simp; omega
  refine VWpG.cond (t:=true) (by rw[<- hd]; rfl) (fun _=>?_) (fun h=>by cases h)
  refine VWpG.plain (Qm c) ?_
  refine rn trivial ?_
  refine VWpG.seq ?_
  refine VWpG.block ?_
  have hu:Qsn es (i+1)=if (es.getD i E0).kind=2 then QlE (Qsn es i) (es.getD i E0).ref (.bool true) else Qsn es i:=rfl
  generalize es.getD i E0=e at *
  refine VWpG.first (Qm c) ?_
  refine rn @hg ?_
  refine VWpG.first (Qm c) ?_
  refine rn trivial ?_
  by_cases hk:e.kind=2
  ·rw [if_pos hk] at hu
   refine VWpG.cond (t:=true) (by rw[hk]; rfl) (fun hZ=>?_) (fun hZ=>?_)
   rotate_left
   ·cases hZ
   refine VWpG.cut1 (Qm c) 3 [] ?_
   refine rn trivial ?_
   refine Qj1 rfl (fun c=>by simp) (Qza (L:=Qsn es i) (k:=e.ref) rfl rfl um3 QHP rfl (Je.2 rfl) (Qul rfl) ?_)
   refine rn trivial ?_
   refine VWpG.plain (Qm c) ?_
   refine rn trivial ?_
   refine⟨⟨i+1,hlt,hp++[⟨44,true,e.d⟩]⟩,by dsimp only; omega,?_⟩
   dsimp only
   rw[hu]
   refine WeakG.slots rfl rfl ?_
   intro p hp
   simp only[Jk,Jp,or_false] at hp
   rcases hp with rfl | rfl | rfl | rfl | rfl<;>exact .inl rfl
  ·rw [if_neg hk] at hu
   have hd2:decide (e.kind=2)=false:=decide_eq_false hk
   refine VWpG.cond (t:=false) (by rw[<- hd2]; rfl) (fun hZ=>?_) (fun hZ=>?_)
   ·cases hZ
   refine VWpG.plain (Qm c) ?_
   refine rn trivial ?_
   refine VWpG.plain (Qm c) ?_
   refine rn trivial ?_
   refine⟨⟨i+1,hlt,hp++[⟨44,true,e.d⟩]⟩,by dsimp only; omega,?_⟩
   dsimp only
   rw[hu]
   refine WeakG.slots rfl rfl ?_
   intro p hp
   simp only[Jk,Jp,or_false] at hp
   rcases hp with rfl | rfl | rfl | rfl | rfl<;>exact .inl rfl
 ·have hd:decide ((i:Int) < es.length) = false:=by simp; omega
  have hie:i=es.length:=by omega
  subst hie
  refine VWpG.cond (t:=false) (by rw[<- hd]; rfl) (fun h=>by cases h) (fun _=>?_)
  refine VWpG.plain (Qm c) ?_
  refine rn trivial ?_
  refine VWpG.first (Qm c) ?_
  refine rn trivial ?_
  refine VWpG.seq ?_
  refine VWpG.first (Qm c) ?_
  refine rn trivial ?_
  refine VWpG.block ?_
  refine VWpG.loop (fun s:PB es=>⟨60,hp.length,[(39,.int .i64 s.i),(38,.int .i64 es.length),(37,.pv (.sl (fz QaR es))),(11,s.p),(8,.pv (.lit (.map (some bu))))],s.hp⟩) (fun s=>[(bu,QhA kI (Qsn es es.length))]) (fun s=>es.length-s.i) ⟨0,Ji _,hp,.pv (.slc []),.inl ⟨rfl,rfl⟩⟩ ?_ ?_
  ·refine WeakG.slots rfl rfl ?_
   intro p hp
   simp only[Jk,Jp,or_false] at hp
   rcases hp with rfl | rfl | rfl | rfl | rfl<;>exact .inl rfl
  rintro⟨i,hi,hp2,p,ok⟩
  dsimp only
  refine VWpG.first (Qm c) ?_
  refine rn trivial ?_
  refine VWpG.seq ?_
  by_cases hlt:i<es.length
  ·have hg:=QCQ es i hlt
   have hd:decide ((i:Int)<es.length)=true:=by simp; omega
   refine VWpG.cond (t:=true) (by rw[<- hd]; rfl) (fun _=>?_) (fun h=>by cases h)
   refine VWpG.plain (Qm c) ?_
   refine rn trivial ?_
   refine VWpG.seq ?_
   refine VWpG.block ?_
   have hpn:Qcd es (i+1)=if (es.getD i E0).kind≠1\/QmM es es.length (es.getD i E0).lsn=true then Qcd es i else Qcd es i++[(es.getD i E0).lsn]:=rfl
   generalize es.getD i E0=e at *
   refine VWpG.first (Qm c) ?_
   refine rn @hg ?_
   by_cases hk1:e.kind=1
   rotate_left
   ·rw [if_pos (.inl hk1)] at hpn
    refine VWpG.first (Qm c) ?_
    refine rn @hk1 ?_
    refine VWpG.cond rfl (fun hZ=>?_) (fun hZ=>?_)
    ·cases hZ
    refine VWpG.plain (Qm c) ?_
    refine rn trivial ?_
    refine VWpG.plain (Qm c) ?_
    refine rn trivial ?_
    refine QjZ c es bu _ i hlt _ p _ ?_ rfl ?_
    ·rw[hpn]; exact ok.app _
    ·skip
     intro q hq
     simp only[Jk,Jp,or_false] at hq
     rcases hq with rfl | rfl | rfl | rfl | rfl<;>exact .inl rfl
   refine VWpG.seq ?_
   refine VWpG.cut1 (Qm c) 7 [] ?_
   refine rn @hk1 ?_
   refine Qj1 rfl (fun c=>by simp) (Qvp (zv:=.bool false) (L:=Qsn es es.length) (k:=e.lsn) rfl rfl um3 QHP (QsQ z3) (Qwk rfl) rfl (Je.2 rfl) (Qul rfl) ?_)
   rw[Qom]
   cases hun:QmM es es.length e.lsn
   rotate_left
   ·rw [if_pos (.inr hun)] at hpn
    refine rn trivial ?_
    refine VWpG.cond rfl (fun hZ=>?_) (fun hZ=>?_)
    ·cases hZ
    refine VWpG.plain (Qm c) ?_
    refine rn trivial ?_
    refine VWpG.plain (Qm c) ?_
    refine rn trivial ?_
    refine QjZ c es bu _ i hlt _ p _ ?_ rfl ?_
    ·rw[hpn]; exact ok.app _
    ·skip
     intro q hq
     simp only[Jk,Jp,or_false] at hq
     rcases hq with rfl | rfl | rfl | rfl | rfl<;>exact .inl rfl
   rw[if_neg (by rw[hun]; simp[hk1])] at hpn
   refine rn trivial ?_
   refine VWpG.cond rfl (fun hZ=>?_) (fun hZ=>?_)
   rotate_left
   ·cases hZ
   have hpl:=Qg8 es i
   have hlb:((Qcd es i).length+1)*8<=140737488355328:=by omega
   rcases ok with⟨h0,rfl⟩ | ⟨k,rfl,hk,hkb⟩
   ·refine VWpG.plain (Qm c) ?_
    refine rn trivial ?_
    refine VWpG.plain (Qm c) ?_
    refine rn trivial ?_
    refine QjZ c es bu _ i hlt _ (.own (hp2.length+1+1) 1 0 1) _ ?_ rfl ?_
    ·rw [hpn,h0]
     exact .inr ⟨_,rfl,by simp,by rw[QuJ (by simp)]; simp; rfl⟩
    ·skip
     intro q hq
     simp only[Jk,Jp,or_false] at hq
     rcases hq with rfl | rfl | rfl | rfl | rfl<;>exact .inl rfl
   ·have hkc:Qh hp2 k = some (cells Qx (Qcd es i)):=Qkw hkb
    refine VWpG.plain (Qm c) ?_
    refine rn (Jb @hk (Jb @hkb @hkc)) ?_
    refine VWpG.plain (Qm c) ?_
    refine rn trivial ?_
    refine QjZ c es bu _ i hlt _ (.own (hp2.length+1+1) 1 0 ((Qcd es i).length+1)) _ ?_ rfl ?_
    ·rw [hpn]
     exact .inr ⟨_,by rw[Ja]; rfl,by simp,by rw[QuJ (by simp)]; simp⟩
    ·skip
     intro q hq
     simp only[Jk,Jp,or_false] at hq
     rcases hq with rfl | rfl | rfl | rfl | rfl<;>exact .inl rfl
  ·have hd:decide ((i:Int) < es.length) = false:=by simp; omega
   have hie:i=es.length:=by omega
   subst hie
   refine VWpG.cond (t:=false) (by rw[<- hd]; rfl) (fun h=>by cases h) (fun _=>?_)
   refine VWpG.plain (Qm c) ?_
   refine rn trivial ?_
   have hpl:=Qg8 es es.length
   rcases ok with⟨h0,rfl⟩ | ⟨k,rfl,hk,hkb⟩
   ·refine VWpG.plain (Qm c) ?_
    refine rn trivial ?_
    rw[h0]
    rfl
   ·have hkc:Qh hp2 k = some (cells Qx (Qcd es es.length)):=Qkw hkb
    refine VWpG.plain (Qm c) ?_
    (refine rn (Jb @hk (Jb @hkb @hkc)) ?_; try with_reducible exact⟨⟩)
end
section
attribute [local go_sem] cb cc Lg.c E.d Qou Quf Qwh Qzw Qw8 Qw6 QmO QhS Qjc QiC QiW Qwe Qwi Qwd Qwc
def QxI(l:List Int)(hl:l.length<=1000000):VCalls prog 20 [.pv (.sl (fz Qx l)),.pv (.sl (fz Qx l))] [] (Ret (.bool true)):=by
 refine dd Tryz.func20 ?_
 (unfold Tryz.f20; refine rn trivial ?_)
 refine Qj (fun s:To l.length=>⟨26,0,[(5,.int .i64 s.i),(1,.pv (.sl (fz Qx l))),(0,.pv (.sl (fz Qx l)))],[]⟩) (fun s=>l.length-s.i) ⟨0,Ji _⟩ (gc []) ?_
 rintro⟨i,hi⟩
 dsimp only
 by_cases hc:i<l.length
 ·have hc':(i:Int) < l.length:=by omega
  have hg:(fz Qx l)[i]?=some [.lit (.int .i64 (l.getD i 0))]:=by
   unfold fz
   rw[List.getElem?_map,List.getElem?_eq_getElem hc,Qc l i hc]
   rfl
  have F:=(Jb @hc' @hg)
  refine rn F ?_
  repeat' (first
   | with_reducible exact⟨⟩
   | (refine Qb (id:=6) [0,1,2,3,4,5,6,7,8] [] (by kernel_rfl) (by kernel_rfl) ?_; refine rn F ?_))
  all_goals exact⟨⟨i+1,hc⟩,by dsimp only; omega,(gc [])⟩
 ·have hc':¬ (i:Int) < l.length:=by omega
  have F:=@hc'
  (refine rn F ?_; try with_reducible exact⟨⟩)
section
variable {x:Lg} (hv:lgB x=true) (hf:x.f=1) (hlog:LogOk x.es)
include hv hf hlog in
theorem QFr{m:Int}(hm:0<=m/\m<64)(hid:∀ e∈x.es,e.tx<=m){i:Nat}(hi:i<x.es.length):QaF (QeW x.es i)=true/\QaF (QyU (QeW x.es i) (x.es.getD i E0))=true/\(0<(x.es.getD i E0).tx->idT (QeW x.es i) (x.es.getD i E0).tx<0->QN (QeW x.es i) (x.es.getD i E0).tx=(QyU (QeW x.es i) (x.es.getD i E0),0))/\(¬ (0<(x.es.getD i E0).tx/\idT (QeW x.es i) (x.es.getD i E0).tx<0)->QyU (QeW x.es i) (x.es.getD i E0)=QeW x.es i)/\QJ (QyU (QeW x.es i) (x.es.getD i E0)) (x.es.getD i E0)=(QeW x.es (i+1),0):=by
 have hd:=Qat hv
 simp only[Lg.hd] at hd
 have ih:=Qu8 hv hf hlog hm hid i (by omega)
 have ha:=Qgx hv i hf
 have hl:(x.es.take i).length<=4096:=by rw[Jo]; omega
 have hmem:x.es.getD i E0∈x.es:=by rw[Qc _ _ (by omega)]; exact Jd _
 have ho:=(Qaw hv (i:=i) (by omega)).2
 have he:=hlog i (by omega)
 have e1:QeW x.es (i+1)=(QJ (QyU (QeW x.es i) (x.es.getD i E0)) (x.es.getD i E0)).1:=rfl
 rw[e1]
 have hem:=hid _ hmem
 generalize x.es.getD i E0=e at *
 generalize QeW x.es i=T at *
 have e2:QyU T e=if 0<e.tx/\idT T e.tx<0 then (QN T e.tx).1 else T:=rfl
 refine⟨ih.tbl ha hl ⟨hm.1,by omega⟩,?_,fun h1 h2=>?_,fun h=>by rw[e2,if_neg h],?_⟩
 ·rw [e2]; split
  ·rename_i hb
   exact(ih.begin ha hl hm he hb.1 hem hb.2).2.tbl ha hl ⟨hm.1,by omega⟩
  ·exact ih.tbl ha hl ⟨hm.1,by omega⟩
 ·rw [e2,if_pos ⟨h1,h2⟩]
  have:=(ih.begin ha hl hm he h1 hem h2).1
  generalize QN T e.tx=r at *
  obtain⟨a,b⟩:=r
  obtain rfl:b=0:=this
  rfl
 ·rw [e2]
  have key:∀ r:List Tx×Int,r.2=0->r=(r.1,0):=fun r h=>by obtain⟨a,b⟩:=r; obtain rfl:b=0:=h; rfl
  split
  ·rename_i hb
   obtain⟨b1,b2⟩:=ih.begin ha hl hm he hb.1 hem hb.2
   refine key _ (b2.note ha hl hm he ho fun _=>?_).1
   rw[QfC b1]
   exact idT_mem.2 (JI.2 ⟨_,mem_insT.2 (.inl rfl),rfl⟩)
  ·rename_i hb
   exact key _ (ih.note ha hl hm he ho fun q=>by
    by_cases h:idT T e.tx<0
    ·exact absurd ⟨q,h⟩ hb
    ·omega).1
end
def Qsr(l:List UInt8)(hl:l.length<=9223372036854775807):VCalls prog 4 [.pv (.sl (fz Qfv l))] [] (Ret (.bool true)):=by
 refine dd Tryz.func4 ?_
 have c0:=QHl
 (unfold Tryz.f4; refine rn trivial ?_)
 refine rn F ?_
 repeat' (first
  | with_reducible exact⟨⟩
  | refine vp F (c0) ?_)
 refine QAY (most:=400) (by omega) (by omega) hl fun c=>?_
 refine rn trivial ?_
 refine Qa2 (k:=0) (c:=c) (Qum c 40 (by omega)) rfl rfl ?_
 rintro _ c1 ⟨k,rfl,hk,hK,hC⟩
 have hxl:k.lg.es.length<=4096:=hk.1
 have hv:=hK.lg
 have hf:=hK.f
 have hlog:=hK.log
 have hid:∀ e∈k.lg.es,e.tx<=42:=fun e he=>by
  have:=hK.cor.ids e he
  have:=hC.nx
  omega
 clear hK hC
 generalize hkx:k.lg=x at *
 have hat:=fun(i:Nat) (hi:i<x.es.length)=>QFr hv hf hlog (m:=42) (by omega) hid hi
 have hF:=Qu8 hv hf hlog (m:=42) (by omega) hid x.es.length (Jr _)
 rw[Jy] at hF
 have hT:QaF (QeW x.es x.es.length)=true:=hF.tbl (by have:=Qgx hv x.es.length hf; rwa [Jy] at this) hxl (by omega)
 obtain⟨e1,e2⟩:=QC1 hF
 have hpd:=fun(a:Int) (ha:0<a)=>Qx9 hv hf hlog a ha
 have F:=@hkx
 refine rn F ?_
 refine VLoop.wkS ?_
 refine rn trivial ?_
 refine Qj (fun s:{i:Nat // i<=x.es.length}=>⟨132,0,[(5,.int .i64 s.1),(4,.pv (.sl (fz Qu (QeW x.es s.1)))),(3,.ptr 0 0)],[⟨34,true,x.c⟩]⟩) (fun s=>x.es.length-s.1) ⟨0,Ji _⟩ (gc [1]) ?_
 rintro⟨i,hi⟩
 dsimp only
 by_cases hc:i<x.es.length
 ·have hc':(i:Int) < x.es.length:=by omega
  obtain⟨t1,t2,t3,t4,t5⟩:=hat i hc
  have hg:=Qkm x.es i hc
  have d1:=Qi1 (QeW x.es i) (QjD t1).1 (x.es.getD i E0).tx
  change VCalls _ _ _ _ (Ret (.int .i64 (idT (QeW x.es i) (x.es.getD i E0).tx))) at d1
  have d2:=QvS (QeW x.es i) (QjD t1) (x.es.getD i E0).tx
  have d3:=Qo0 (QyU (QeW x.es i) (x.es.getD i E0)) (QjD t2) (x.es.getD i E0)
  rw[t5] at d3
  unfold Qou at d3 d2
  unfold E.d at d3
  by_cases h0:0<(x.es.getD i E0).tx
  ·by_cases h1:idT (QeW x.es i) (x.es.getD i E0).tx < 0
   ·rw [t3 h0 h1] at d2
    have F:=(Jb @hc' (Jb @hg (Jb @h0 @h1)))
    refine rn F ?_
    repeat' (first
     | with_reducible exact⟨⟩
     | refine vp F (d1) ?_
     | refine vp F (d2) ?_
     | refine vp F (d3) ?_)
    exact⟨⟨i+1,hc⟩,by dsimp only; omega,(gc [0])⟩
   ·rw [t4 (fun q=>h1 q.2)] at d3
    have F:=(Jb @hc' (Jb @hg (Jb @h0 @h1)))
    refine rn F ?_
    repeat' (first
     | with_reducible exact⟨⟩
     | refine vp F (d1) ?_
     | refine vp F (d3) ?_)
    exact⟨⟨i+1,hc⟩,by dsimp only; omega,(gc [0])⟩
  ·rw [t4 (fun q=>h0 q.1)] at d3
   have F:=(Jb @hc' (Jb @hg @h0))
   refine rn F ?_
   repeat' (first
    | with_reducible exact⟨⟩
    | refine vp F (d3) ?_)
   exact⟨⟨i+1,hc⟩,by dsimp only; omega,(gc [0])⟩
 obtain rfl:i=x.es.length:=by omega
 clear hat hF hlog hid
 generalize QeW x.es x.es.length=T at *
 have hTl:=QdC hT
 have hc':¬ ((x.es.length:Nat):Int)<x.es.length:=by omega
 have v1:=Qgh T (QjD hT)
 rw[hT] at v1
 have v2:=Qaj x (by omega)
 rw[hv] at v2
 have v3:=fun a=>Qi1 T (by omega) a
 change ∀ a,VCalls _ _ _ _ (Ret (.int .i64 (idT T a))) at v3
 have v4:=fun n (h:n<=9223372036854775807)=>QDj x (by omega) n h
 have F:=@hc'
 refine rn F ?_
 refine Qj (fun s:To T.length=>⟨132,0,[(11,.int .i64 s.i),(4,.pv (.sl (fz Qu T))),(3,.ptr 0 0)],[⟨34,true,x.c⟩]⟩) (fun s=>T.length-s.i) ⟨0,Ji _⟩ (gc [0]) ?_
 rintro⟨j,hj⟩
 dsimp only
 by_cases hjc:j<T.length
 ·have hj':(j:Int) < T.length:=by omega
  have hg:=QdZ T j hjc
  have hm:T.getD j Tx0∈T:=by rw[Qc T j hjc]; exact Jd hjc
  obtain⟨n1,n2,n3⟩:=e1 _ hm
  have hok:=QaE hT hjc
  rw[<- Qc T j hjc Tx0] at hok
  have hnl:(T.getD j Tx0).n<=1099511627776/\(T.getD j Tx0).l.length<=4096:=by
   simp only[Tx.okB,Tx.hdB,Jc,decide_eq_true_eq] at hok
   omega
  have hpj:=hpd _ n3
  rw[<- n1,<- n2] at hpj
  have d1:=v4 (T.getD j Tx0).n (by omega)
  rw[hpj] at d1
  have d2:=QxI (T.getD j Tx0).l (by omega)
  have F:=(Jb @hj' @hg)
  refine rn F ?_
  repeat' (first
   | with_reducible exact⟨⟩
   | refine vp F (d1) ?_
   | refine vp F (d2) ?_
   | (refine Qb (id:=21) [0,1,2,3,4,5] [⟨[],[],6,[1,2,3,4],[7,8,9]⟩,⟨[],[],10,[9],[]⟩,⟨[],[],11,[],[]⟩] (by kernel_rfl) (by kernel_rfl) ?_; refine rn F ?_))
  all_goals exact⟨⟨j+1,hjc⟩,by dsimp only; omega,(gc [0])⟩
 have hj':¬ ((j:Nat):Int)<T.length:=by omega
 have F:=@hj'
 refine rn F ?_
 refine Qj (fun s:To x.es.length=>⟨132,0,[(14,.int .i64 ((s.i:Int)-1)),(4,.pv (.sl (fz Qu T))),(3,.ptr 0 0)],[⟨34,true,x.c⟩]⟩) (fun s=>s.i) ⟨x.es.length,Jr _⟩ (gc [0]) ?_
 rintro⟨n,hn⟩
 dsimp only
 by_cases hn0:n=0
 ·subst hn0
  have F:=trivial
  refine rn F ?_
  repeat' (first
   | with_reducible exact⟨⟩
   | refine vp F (v1) ?_
   | refine vp F (v2) ?_)
 obtain⟨m,rfl⟩:∃ m,n=m+1:=⟨n-1,by omega⟩
 have em:((m+1:Nat):Int)-1=m:=by omega
 have hm':(m:Int)<x.es.length:=by omega
 have hg:=Qkm x.es m (by omega)
 have hmem:x.es.getD m E0∈x.es:=by rw[Qc _ _ (by omega)]; exact Jd _
 have hov:=e2 _ hmem
 have d1:=v3 (x.es.getD m E0).tx
 rw[em]
 have hm0:(0:Int)<=m:=by omega
 by_cases h0:0<(x.es.getD m E0).tx
 ·by_cases h3:(x.es.getD m E0).kind = 3\/(x.es.getD m E0).kind = 5
  ·have hneg:=hov h0 h3
   have F:=(Jb @hm' (Jb @hm0 (Jb @hg (Jb @h0 @hneg))))
   refine rn F ?_
   repeat' (first
    | with_reducible exact⟨⟩
    | (refine sG F ?_ ?_<;>intro hZ)
    | refine vp F (d1) ?_)
   all_goals first
    | exact⟨⟨m,by omega⟩,by dsimp only; omega,(gc [0])⟩
    | (exfalso; omega)
  ·skip
   have F:=(Jb @hm' (Jb @hm0 (Jb @hg @h0)))
   (refine rn F ?_; try with_reducible exact⟨⟩)
   all_goals first
    | exact⟨⟨m,by omega⟩,by dsimp only; omega,(gc [0])⟩
    | (exfalso; omega)
 ·skip
  have F:=(Jb @hm' (Jb @hm0 (Jb @hg @h0)))
  refine rn F ?_
  repeat' (first
   | with_reducible exact⟨⟩
   | (refine sG F ?_ ?_<;>intro hZ))
  all_goals first
   | exact⟨⟨m,by omega⟩,by dsimp only; omega,(gc [0])⟩
   | (exfalso; omega)
end
end Go.Proofs.YtepdccfgnafgcaaGreat
