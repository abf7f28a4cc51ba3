/-
  Contracts of functions and plain laws. No condition.
-/
import Derived.Test.YtdnbdbgdfocpgaaGreatP3
import Derived.Test.YtdnbdbgdfocpgaaGreatP1
import Derived.Test.YtdnbdbgdfocpgaaGreatV4
import Derived.Test.YtdnbdbgdfocpgaaGreatV2
import Derived.Test.YtdnbdbgdfocpgaaGreatV3
import Derived.Test.YtdnbdbgdfocpgaaGreatP2
set_option linter.unusedSimpArgs false
set_option linter.unusedVariables false
set_option linter.defProp false
set_option maxRecDepth 100000
set_option maxHeartbeats 8000000
set_option autoImplicit true
set_option relaxedAutoImplicit true
open And renaming intro->Ja
open Bool renaming and_eq_true->Jb,eq_false_iff->Jm,or_eq_true->Jz
open Int renaming le_refl->Jq
open List renaming append_nil->Jc,getD_eq_getElem?_getD->Jd,filter_cons_of_neg->Jg,take_length->Ji,length_filter_le->Jj,length_append->Jl,take_zero->Jn,length_set->Jo,length_reverse->Jp,filter_nil->Jr,filter_cons_of_pos->Js,ext_getElem->Jt,all_eq_true->Ju,getElem_mem->Jv,not_mem_nil->Jw,mem_map->Jy,length_singleton->JB,range->JD,reverse_append->JE,filter_append->JF,pairwise_cons->JG,mem_cons->JH,getElem?_set->JJ,append_assoc->JK,filter_congr->JL,length_take->JN,mem_filter->JO,mem_range->JP
open Nat renaming lt_succ_self->Je,zero_le->Jf,le_refl->Jh,lt_succ_iff_lt_or_eq->Jk,not_lt_zero->JA,le_trans->JC,lt_succ_of_lt->JI
open Option renaming getD_some->JM
namespace Go.Proofs.YtdnbdbgdfocpgaaGreat
open Go.V Go
open Tryz (prog)
section
attribute [local go_sem] Ce.d Ch.d E.d Lg.c QI Q7 QhO Qi6 Qiz Qix QiS
def QhQ(f:Int)(es:List E)(a:Int):Bool:=decide (a<f)||decide ((es.length:Int)<=a-f)
def QdH(f:Int)(es:List E)(a:Int):E:=es.getD (a-f).toNat E0
def Qau(f:Int)(es:List E)(pv:E->Int):Int->Nat->Int
 | a,0=>a
 | a,k+1=>Qau f es pv (pv (QdH f es a)) k
def Qe4(f:Int)(es:List E)(pv:E->Int)(above:Int):Nat->Int->Nat
 | 0,_=>0
 | n+1,a=>if above<a then (if QhQ f es a=true then 1 else Qe4 f es pv above n (pv (QdH f es a))+1) else 0
def Qbl(f:Int)(es:List E)(pv:E->Int):∀ (a:Int) (k:Nat),Qau f es pv a (k+1)=pv (QdH f es (Qau f es pv a k))
 | _,0=>rfl
 | a,k+1=>Qbl f es pv (pv (QdH f es a)) k
def Bef(f:Int)(es:List E)(pv:E->Int):Prop:=∀ i,i<es.length->0<=pv (es.getD i E0)/\pv (es.getD i E0)<f+i
def Qfz(h:QhQ f es a=false):f<=a/\a-f<es.length:=by
 unfold QhQ at h
 simp only[Bool.or_eq_false_iff,decide_eq_false_iff_not] at h
 omega
def Qu1(hb:Bef f es pv)(h:QhQ f es a=false):0<=pv (QdH f es a)/\pv (QdH f es a)<a:=by
 obtain⟨h1,h2⟩:=Qfz h
 have:=hb (a-f).toNat (by omega)
 unfold QdH
 omega
def Qef:∀ {n:Nat} {a:Int} {k:Nat},k < Qe4 f es pv above n a->above < Qau f es pv a k
 | n + 1,a,k,h=>by
   rw[Qe4] at h
   split at h
   ·rename_i ha
    split at h
    ·obtain rfl:k = 0:=by omega
     exact ha
    ·cases k with
     | zero=>exact ha
     | succ k=>exact Qef (n:=n) (a:=pv (QdH f es a)) (by omega)
   ·omega
def QnD:∀ {n:Nat} {a:Int} {k:Nat},k < Qe4 f es pv above n a->QhQ f es (Qau f es pv a k) = true->k + 1 = Qe4 f es pv above n a
 | n + 1,a,k,h,hb=>by
   rw[Qe4] at h |-
   split at h
   ·rename_i ha
    rw[if_pos ha]
    split at h
    ·rename_i hb2
     rw[if_pos hb2]; omega
    ·rename_i hb2
     rw[if_neg hb2]
     cases k with
     | zero=>exact absurd hb hb2
     | succ k=>rw[QnD (above:=above) (n:=n) (a:=pv (QdH f es a)) (by omega) hb]
   ·omega
def Qj8 (hpv:Bef f es pv) (h0:0<=above):∀ {n:Nat} {a:Int},a.toNat < n->(∀ j,j < Qe4 f es pv above n a->QhQ f es (Qau f es pv a j) = false)->¬ above < Qau f es pv a (Qe4 f es pv above n a)
 | n + 1,a,hn,hb=>by
   rw[Qe4] at hb |-
   split
   ·rename_i ha
    rw[if_pos ha] at hb
    split
    ·rename_i hb2
     rw[if_pos hb2] at hb
     have:=hb 0 (by omega)
     rw[Qau] at this
     rw[this] at hb2; cases hb2
    ·rename_i hb2
     rw[if_neg hb2] at hb
     have hl:=Qu1 hpv (Jm.2 hb2)
     rw[Qau]
     exact Qj8 hpv h0 (by omega) fun j hj=>hb (j+1) (by omega)
   ·rename_i ha
    rw[if_neg ha] at hb
    exact ha
def QEc(hpv:Bef f es pv)(h0:0<=above)(hn:a.toNat<n)(hk:k<=Qe4 f es pv above n a)(hb:∀ j,j<k->QhQ f es (Qau f es pv a j)=false):decide (above<Qau f es pv a k)=decide (k<Qe4 f es pv above n a):=by
 by_cases h:k<Qe4 f es pv above n a
 ·rw[decide_eq_true h,decide_eq_true (Qef h)]
 ·obtain rfl:k = Qe4 f es pv above n a:=by omega
  rw[decide_eq_false h,decide_eq_false (Qj8 hpv h0 hn hb)]
def Qd7 (hpv:Bef f es pv):∀ {k:Nat},(∀ j,j < k->QhQ f es (Qau f es pv a j) = false)->Qau f es pv a k + k<=a/\(k = 0\/0<=Qau f es pv a k)
 | 0,_=>⟨by rw[Qau]; omega,.inl rfl⟩
 | k + 1,h=>by
   have:=Qd7 hpv (fun j hj=>h j (JI hj))
   have hl:=Qu1 hpv (h k (Je k))
   rw[Qbl]
   omega
def QuO(hk:k<Qe4 f es pv above n a):∀ j,j<k->QhQ f es (Qau f es pv a j)=false:=fun j hj=>by
 cases h:QhQ f es (Qau f es pv a j)
 ·rfl
 ·have:=QnD (show j < Qe4 f es pv above n a by omega) h
  omega
def QyK(hpv:Bef f es pv)(hk:k<Qe4 f es pv above n a):Qau f es pv a k<=a:=by
 have:=(Qd7 hpv (QuO hk)).1
 omega
def Qhh(f:Int)(es:List E)(d:Int):List PV:=[.lit (.int .i64 f),.sl (fz Q5 es),.lit (.int .i64 d)]
def QE4(x:E):List PV:=[.lit (.int .i64 x.lsn),.lit (.int .i64 x.kind),.lit (.int .i64 x.tx),.lit (.int .i64 x.ptx),.lit (.int .i64 x.ppg),.lit (.int .i64 x.ref),.lit (.int .i64 x.c.pg),.lit (.int .i64 x.c.sl),.lit (.bool x.c.b.set),.str x.c.b.data,.lit (.bool x.c.a.set),.str x.c.a.data,.str x.blob]
def Qui(f:Int)(es:List E)(a:Int):DV:=if QhQ f es a=true then .agg (E0.d++[.int .i64 14]) else .agg ((QdH f es a).d++[.int .i64 0])
def QuZ(hpv:Bef f es pv)(hf:1<=f)(hf2:f<=1099511627776)(hl:es.length<=4096)(h0:0<=above)(hlast:last<=9223372036854775807)(hff:∀ e:E,VCalls prog ff [.agg e.d] [] (Ret (.int .i64 (pv e)))):
 QEw prog 41 [.ip [.lit (.int .i64 last)],.ip [.lit (.int .i64 above)],.ip (Qhh f es d),.ip [.lit (.func (.func ff) #[] #[])]] (Qe4 f es pv above (last.toNat+1) last) (fun k=>#[.int .i64 (Qau f es pv last k),(Qui f es (Qau f es pv last k)).val]):=by
 refine QCQ Tryz.func41 rfl rfl rfl rfl rfl rfl rfl rfl rfl rfl rfl rfl rfl rfl rfl ?_ ?_ (fun k=>Qau f es pv last k) _ (fun k=>QhQ f es (Qau f es pv last k)) (fun k=>.agg (QdH f es (Qau f es pv last k)).d) (fun k=>Qui f es (Qau f es pv last k)) (fun k=>QE4 (QdH f es (Qau f es pv last k))) ff above ?_ ?_ ?_ ?_ ?_ ?_ ?_ ?_ ?_ ?_ ?_ ?_ ?_ ?_ ?_
 ·decide +kernel
 ·decide +kernel
 ·intro k hk
  unfold Qui
  split<;>rfl
 ·intro k hk hb
  rfl
 ·intro k hk
  rfl
 ·intro k hk hb
  exact QnD hk hb
 ·intro k hk
  exact Qef hk
 ·intro k hk hb
  show Qau f es pv last (k+1)<Qau f es pv last k
  exact Qbl f es pv last k▸(Qu1 hpv hb).2
 ·intro l
  rw[Qau]
  (refine rn trivial ?_; try with_reducible exact⟨⟩)
 ·intro l k hk hre
  unfold bkS Qhh
  rw[<- QEc hpv h0 (Je _) hk hre]
  (refine rn trivial ?_; try with_reducible exact⟨⟩)
 ·intro l k hk
  have hp:=QyK hpv hk
  have hp1:=Qef hk
  unfold bkS Qhh QhQ
  generalize Qau f es pv last k=a at *
  by_cases ha:a<f
  ·(refine rn @ha ?_; try with_reducible exact⟨⟩)
  ·(refine rn @ha ?_; try with_reducible exact⟨⟩)
 ·intro l k hk hb
  unfold bkS Qhh Qui
  rw[if_pos hb]
  generalize Qau f es pv last k=a at *
  refine rn trivial ?_
  rfl
 ·intro l k hk hb
  have hp:=QyK hpv hk
  have hp1:=Qef hk
  obtain⟨b1,b2⟩:=Qfz hb
  unfold bkS Qhh QE4 QdH
  generalize Qau f es pv last k=a at *
  have hg:=QeR es (a-f).toNat (by omega)
  refine rn @hg ?_
  exact⟨_,rfl⟩
 ·intro l k hk hb
  unfold bkX Qhh Qui QE4
  rw[if_neg (by rw[hb]; decide)]
  generalize Qau f es pv last k=a at *
  generalize QdH f es a=e at *
  (refine rn trivial ?_; try with_reducible exact⟨⟩)
 ·intro n b
  (refine rn trivial ?_; try with_reducible exact⟨⟩)
 ·intro l k hk hb
  unfold bkX Qhh QE4
  generalize Qau f es pv last k=a at *
  generalize QdH f es a=e at *
  (refine rn trivial ?_; try with_reducible exact⟨⟩)
 ·intro k hk hb
  rw[Qbl]
  generalize Qau f es pv last k=a at *
  generalize QdH f es a=e at *
  have hc:=hff e
  unfold E.d at hc
  refine rn F ?_
  repeat' (first
   | with_reducible exact⟨⟩
   | refine vp F (hc) ?_)
end
section
attribute [local go_sem] Ce.d Ch.d E.d Lg.c QI Q7 QhO Qi6 Qiz Qix QiS
def Qh4(l:List E):Nat->List E
 | 0=>l
 | i+1=>((Qh4 l i).set i ((Qh4 l i).getD (l.length-1-i) E0)).set (l.length-1-i) ((Qh4 l i).getD i E0)
def Qdw(l:List E):∀ i,(Qh4 l i).length=l.length
 | 0=>rfl
 | i+1=>by rw[Qh4,Jo,Jo,Qdw l i]
def Qoc (l:List E):∀ (i:Nat),2 * i<=l.length->∀ j,j < l.length->(Qh4 l i).getD j E0 = if j < i\/l.length<=j + i then l.getD (l.length - 1 - j) E0 else l.getD j E0
 | 0,_,j,hj=>by rw[if_neg (by omega)]; rfl
 | i + 1,hi,j,hj=>by
   have ih:=Qoc l i (by omega)
   have hlen:=Qdw l i
   rw[Qh4,Jd,JJ,Jo,hlen]
   by_cases h1:l.length-1-i=j
   ·rw [if_pos h1,if_pos (by omega),if_pos (by omega),JM,ih i (by omega),if_neg (by omega)]
    congr 1; omega
   ·rw [if_neg h1,JJ,hlen]
    by_cases h2:i=j
    ·rw [if_pos h2,if_pos (by omega),if_pos (by omega),JM,ih _ (by omega),if_neg (by omega)]
     congr 1; omega
    ·rw [if_neg h2,<- Jd,ih j hj]
     by_cases h3:j<i\/l.length<=j+i
     ·rw[if_pos h3,if_pos (by omega)]
     ·rw[if_neg h3,if_neg (by omega)]
def QwK(hi:2*i<=l.length)(h:l.length<=2*i+1):Qh4 l i=l.reverse:=by
 refine Jt (by rw[Qdw,Jp]) fun j h1 h2=>?_
 rw[Qdw] at h1
 have:=Qoc l i hi j h1
 rw[Qd _ _ (by rw[Qdw]; exact h1)] at this
 rw[this,List.getElem_reverse]
 split
 ·rw[Qd _ _ (by omega)]
 ·rw [Qd _ _ h1]
  congr 1; omega
structure RvS(l:List E) where
 i:Nat
 h:2*i<=l.length
 j:Int
 hj:j=l.length-1-i
def QFJ(l:List E)(i:Nat)(h:i<l.length):((cells Q5 l).drop (i*13)).take 13=(l.getD i E0).d:=by rw[Qd l i h]; exact Qx7 Q5 l i h
def Qn0(l:List E)(i:Nat)(h:i<l.length)(e:E):(cells Q5 l).take (i*13)++[.pv (.lit (.int .i64 e.lsn)),.pv (.lit (.int .i64 e.kind)),.pv (.lit (.int .i64 e.tx)),.pv (.lit (.int .i64 e.ptx)),.pv (.lit (.int .i64 e.ppg)),.pv (.lit (.int .i64 e.ref)),.pv (.lit (.int .i64 e.c.pg)),.pv (.lit (.int .i64 e.c.sl)),.pv (.lit (.bool e.c.b.set)),.pv (.str e.c.b.data),.pv (.lit (.bool e.c.a.set)),.pv (.str e.c.a.data),.pv (.str e.blob)]++(cells Q5 l).drop (i*13+13)=cells Q5 (l.set i e):=QnY Q5 l i e h
abbrev RvX(l:List E):DV->Qa->Prop:=fun r h'=>∃ B',h'=[B']/\B'.live=true/\DV.nums.go (fun _=>false) B'.cells=true/\r.nums (fun _=>false)=true/\(r=.tup []/\B'=⟨57,true,cells Q5 l⟩)
def Qsy(l:List E)(hl:l.length<=4096):VCalls prog 30 [.own 0 13 0 l.length] [⟨57,true,cells Q5 l⟩] (RvX l.reverse):=by
 refine dk Tryz.func30 ?_
 (unfold Tryz.f30; refine rn trivial ?_)
 refine Qi (fun s:RvS l=>⟨28,1,[(3,.int .i64 s.j),(2,.int .i64 s.i),(0,.own 0 13 0 l.length)],[⟨57,true,cells Q5 (Qh4 l s.i)⟩]⟩) (fun s=>l.length-s.i) ⟨0,by omega,(l.length:Int)-1,by simp⟩ (gc [0]) ?_
 rintro⟨i,hi,j,hj⟩
 dsimp only
 have hrl:=Qdw l i
 by_cases hc:i<l.length-1-i
 ·obtain ⟨m,rfl⟩:∃ m:Nat,j = m:=⟨l.length - 1 - i,by omega⟩
  have hm:m=l.length-1-i:=by omega
  have hc':(i:Int)<(m:Int):=by omega
  have h1:=QFJ (Qh4 l i) i (by omega)
  have h2:=QFJ (Qh4 l i) m (by omega)
  have h3:=Qn0 (Qh4 l i) i (by omega)
  have h4:=fun e=>Qn0 ((Qh4 l i).set i e) m (by rw[Jo]; omega)
  have h5:i*13+13<=l.length*13:=by omega
  have h6:m*13+13<=l.length*13:=by omega
  have hr:Qh4 l (i+1)=((Qh4 l i).set i ((Qh4 l i).getD m E0)).set m ((Qh4 l i).getD i E0):=by rw[Qh4,<- hm]
  have h8:=fun e=>@List.length_set _ (Qh4 l i) i e
  generalize (Qh4 l i).getD i E0=x at *
  generalize (Qh4 l i).getD m E0=y at *
  have F:=(Ja @hc' (Ja @h1 (Ja @h2 (Ja @h3 (Ja @h4 (Ja @h5 (Ja @h6 (Ja @h8 @hrl))))))))
  refine rn F ?_
  repeat' (first
   | with_reducible exact⟨⟩
   | (refine Qc (id:=3) [0,1,2,3,4,5,6,7,8,9,10,11,12] [⟨[],[],13,[2,3,8,9,10],[14]⟩,⟨[],[],15,[],[]⟩] (by kernel_rfl) (by kernel_rfl) ?_; refine rn F ?_))
  refine⟨⟨i+1,by omega,(m:Int)-1,by omega⟩,by dsimp only; omega,?_⟩
  dsimp only
  rw[hr]
  exact(gc [0])
 ·have hc':¬ (i:Int) < j:=by omega
  have F:=@hc'
  refine rn F ?_
  rw[QwK hi (by omega)]
  show QvI _ _ _ (some _)
  refine rn trivial ?_
  exact⟨_,rfl,rfl,Qs Q5 _ _,rfl,rfl,rfl⟩
def Qyw(hl:l.length<=4096)(hk:hp[k]?=some ⟨57,true,cells Q5 l⟩)(hK:K (.tup []) (hp.set k ⟨57,true,cells Q5 l.reverse⟩)):VCalls prog 30 [.own k 13 0 l.length] hp K:=
 (VCalls.ptr1 (R:=fun r B'=>r=.tup []/\B'=⟨57,true,cells Q5 l.reverse⟩) hk rfl (Qs Q5 _ _) (Qsy l hl) (by simp[DV.nums.go,DV.nums])).mono fun x h' ⟨B',e1,_,_,e2,e3⟩=>by subst e1 e2 e3; exact hK
def QAR(e:E):VCalls prog 29 [.agg e.d] [] (Ret (.int .i64 e.ppg)):=by
 refine dd Tryz.func29 ?_
 (unfold Tryz.f29; refine rn trivial ?_; try with_reducible exact⟨⟩)
def QFj(e:E):VCalls prog 31 [.agg e.d] [] (Ret (.int .i64 e.ptx)):=by
 refine dd Tryz.func31 ?_
 (unfold Tryz.f31; refine rn trivial ?_; try with_reducible exact⟨⟩)
def bkH(x:Lg)(last above:Int)(ff:FuncId):Qa:=[⟨28,true,x.c⟩,⟨3,true,[.int .i64 last]⟩,⟨3,true,[.int .i64 above]⟩,⟨87,true,[.fn (.func ff) [] []]⟩]
def QEn(x:Lg)(last above:Int)(ff:FuncId):VCalls prog 28 [.agg x.c,.int .i64 last,.int .i64 above,.fn (.func ff) [] []] [] (fun r h'=>r=.fn (.func 41) [] [.ptr 1 0,.ptr 2 0,.ptr 0 0,.ptr 3 0]/\h'=bkH x last above ff):=by
 refine Qcw (fn:=Tryz.f28) Tryz.func28 rfl (by kernel_rfl) (by simp[Tryz.f28]) ?_
 (unfold Tryz.f28; refine rn trivial ?_)
 rfl
def QCO(hK:K (.fn (.func 41) [] [.ptr (hp.length+1) 0,.ptr (hp.length+2) 0,.ptr hp.length 0,.ptr (hp.length+3) 0]) (hp++bkH x last above ff)):VCalls prog 28 [.agg x.c,.int .i64 last,.int .i64 above,.fn (.func ff) [] []] hp K:=by
 refine(VCalls.frame [] (by simp) rfl rfl (QEn x last above ff) rfl rfl).mono ?_
 rintro r h2 ⟨r0,h',⟨rfl,rfl⟩,-,rfl,rfl⟩
 have e0:List.map (fun k=>hp[k]?.getD default) (JD hp.length)=hp:=by
  apply Jt (by simp)
  intro i h1 h2
  simp[h2]
 have e1:QR hp [] (bkH x last above ff)=hp++bkH x last above ff:=by
  simp[QR,bkH,Lg.c,QdN,DV.ren,DV.ren.go]
  try exact e0
 have e2:DV.ren (V.back [] hp.length) (.fn (.func 41) [] [.ptr 1 0,.ptr 2 0,.ptr 0 0,.ptr 3 0])=.fn (.func 41) [] [.ptr (hp.length+1) 0,.ptr (hp.length+2) 0,.ptr hp.length 0,.ptr (hp.length+3) 0]:=by simp[DV.ren,DV.ren.go,V.back]
 rw[e1,e2]; exact hK
end
section
attribute [local go_sem] Ce.d Ch.d E.d Lg.c QI Q7 mkI Qfu QdK
def QbZ(es:List E)(i:Nat):List Int:=(JD 64).map fun p=>Qc6 es (p:Nat) i
def QfN(x:Lg):List Int:=if lgB x=true then QbZ x.es x.es.length else []
def Qfn(es:List E)(i:Nat):(QbZ es i).length=64:=by simp[QbZ]
def Qnp(es:List E):QbZ es 0=List.replicate 64 0:=by
 unfold QbZ
 rw[List.eq_replicate_iff]
 refine⟨by simp,fun b hb=>?_⟩
 obtain⟨p,_,rfl⟩:=Jy.1 hb
 rfl
def QpW(es:List E)(i:Nat)(hc:QdV (es.getD i E0)=true)(h0:0<=(es.getD i E0).c.pg):QbZ es (i+1)=(QbZ es i).set (es.getD i E0).c.pg.toNat (es.getD i E0).lsn:=by
 refine Jt (by simp[QbZ]) fun p h1 h2=>?_
 rw[Qfn] at h1
 rw[List.getElem_set]
 simp only[QbZ,List.getElem_map,List.getElem_range]
 rw[Qc6]
 by_cases hp:(es.getD i E0).c.pg.toNat=p
 ·rw[if_pos hp,if_pos ⟨hc,by omega⟩]
 ·rw[if_neg hp,if_neg (fun h=>hp (by omega))]
def Qnq(es:List E)(i:Nat)(hc:QdV (es.getD i E0)=false):QbZ es (i+1)=QbZ es i:=by
 unfold QbZ
 refine List.map_congr_left fun p _=>?_
 rw[Qc6,if_neg (fun h=>by rw[hc] at h; cases h.1)]
def QFt(h:lgB x=true)(hi:i<x.es.length)(hc:QdV (x.es.getD i E0)=true):0<=(x.es.getD i E0).c.pg/\(x.es.getD i E0).c.pg<64:=by
 unfold lgB at h
 rw[Jb,Ju] at h
 have h2:=h.2 i (JP.2 hi)
 unfold lgC at h2
 rw[Jb] at h2
 have h4:=h2.2
 generalize x.es.getD i E0=e at *
 unfold E.okB at h4
 rw[Jb] at h4
 have h5:=h4.2
 unfold QdV at hc
 simp only[Jz,beq_iff_eq] at hc
 unfold E.kindB Ch.okB at h5
 rcases hc with hk | hk
 ·rw[if_pos hk] at h5; simp at h5; omega
 ·rw[if_neg (by omega),if_pos hk] at h5; simp at h5; omega
end
section
attribute [local go_sem] Ce.d Ch.d E.d Lg.c QI Q7 mkI Qfu QdK
def Qx6(x:Lg)(hx:x.es.length<=9223372036854775807):VCalls prog 12 [.agg x.c] [] (Ret (.pv (.sl (fz QW (QfN x))))):=by
 refine VCalls.unwk ?_
 refine dd Tryz.func12 ?_
 have hv:=QdE x hx
 unfold Lg.c at hv
 cases hlg:lgB x
 ·rw [hlg] at hv
  (unfold Tryz.f12; refine rn trivial ?_)
  refine rn F ?_
  repeat' (first
   | with_reducible exact⟨⟩
   | refine vp F (hv) ?_)
  rw[QfN,hlg]
  rfl
 rw[hlg] at hv
 have hes:x.es.length<=4096:=(Q9 hlg).2.2.1
 have h8:((8:Nat):Int)*64<=281474976710656:=by decide
 (unfold Tryz.f12; refine rn trivial ?_)
 have F:=@h8
 refine rn F ?_
 repeat' (first
  | with_reducible exact⟨⟩
  | refine vp F (hv) ?_)
 rw[<- Qnp x.es]
 refine Qi (fun s:To x.es.length=>⟨28,0,[(13,.int .i64 s.i),(12,.int .i64 x.es.length),(11,.pv (.sl (fz Q5 x.es))),(3,.own 0 1 0 64)],[⟨3,true,cells QW (QbZ x.es s.i)⟩]⟩) (fun s=>x.es.length-s.i) ⟨0,Jf _⟩ (gc [1]) ?_
 rintro⟨k,hk⟩
 dsimp only
 have hl:=Qfn x.es k
 by_cases hc:k<x.es.length
 ·have hc':((k:Nat):Int) < x.es.length:=by omega
  have hg:=QeR x.es k hc
  have hch:=QFt hlg hc
  have hs:=QpW x.es k
  have hn:=Qnq x.es k
  obtain⟨e,he⟩:∃ e,x.es.getD k E0=e:=⟨_,rfl⟩
  rw[he] at hg hch hs hn
  have hch':VCalls prog 27 [.agg e.d] [] (Ret (.bool (QdV e))):=QhB e
  unfold E.d at hch'
  cases hce:QdV e
  ·rw [hce] at hch'
   have F:=(Ja @hc' @hg)
   refine rn F ?_
   repeat' (first
    | with_reducible exact⟨⟩
    | refine vp F (hch') ?_)
   refine⟨⟨k+1,hc⟩,by dsimp only; omega,?_⟩
   dsimp only
   rw[hn hce]
   exact(gc [0])
  ·rw [hce] at hch'
   obtain⟨p1,p2⟩:=hch hce
   have hs':=hs hce p1
   have p3:¬ 64<=e.c.pg:=by omega
   have p4:e.c.pg.toNat<64:=by omega
   have F:=(Ja @hc' (Ja @hg (Ja @hl (Ja @p1 (Ja @p2 (Ja @p3 @p4))))))
   refine rn F ?_
   repeat' (first
    | with_reducible exact⟨⟩
    | refine vp F (hch') ?_)
   refine⟨⟨k+1,hc⟩,by dsimp only; omega,?_⟩
   dsimp only
   rw[hs']
   exact(gc [0])
 ·have hc':¬ ((k:Nat):Int) < x.es.length:=by omega
  have hki:k=x.es.length:=by omega
  subst hki
  have F:=(Ja @hc' @hl)
  refine rn F ?_
  rw[QfN,if_pos hlg]
end
section
attribute [local go_sem] Ce.d Ch.d E.d Lg.c QI Q7 QhO Qi6 Qiz Qix QiS
def QDv(h:lgB x=true)(hi:i<x.es.length):0<=(x.es.getD i E0).ppg/\(x.es.getD i E0).ppg<(x.es.getD i E0).lsn:=by
 unfold lgB at h
 rw[Jb,Ju] at h
 have h2:=h.2 i (JP.2 hi)
 unfold lgC at h2
 rw[Jb] at h2
 have h4:=h2.2
 generalize x.es.getD i E0=e at *
 unfold E.okB bef at h4
 simp only[Jb,decide_eq_true_eq] at h4
 exact h4.1.1.2
def pgW (f:Int) (es:List E) (page above:Int):Nat->Int->List E->List E × Int
 | 0,_,_=>([],0)
 | n + 1,at_,out=>if above < at_ then
     (if at_ < f\/f + es.length - 1 < at_ then ([],14)
      else if QdV (es.getD (at_-f).toNat E0)=true/\(es.getD (at_-f).toNat E0).c.pg=page then pgW f es page above n (es.getD (at_-f).toNat E0).ppg (es.getD (at_-f).toNat E0::out)
      else ([],13))
   else if at_<above then ([],13) else (out,0)
def Qli(x:Lg)(page last above:Int):List E×Int:=if lgB x=false then ([],26) else if page<0\/64<=page\/last<0\/above<0 then ([],1) else pgW x.f x.es page above (last.toNat+1) last []
structure PW(x:Lg)(page above:Int)(res:List E×Int) where
 n:Nat
 at_:Int
 h0:0<=at_
 hn:at_.toNat<n
 out:List E
 hl:out=[]\/out.length+(at_-x.f+1).toNat<=4096
 eq:pgW x.f x.es page above n at_ out=res
end
section
attribute [local go_sem] Ce.d Ch.d E.d Lg.c QI Q7 QhO Qi6 Qiz Qix QiS
def QDu(h:lgB x=true)(hi:i<x.es.length):0<=(x.es.getD i E0).ptx/\(x.es.getD i E0).ptx<(x.es.getD i E0).lsn:=((Wf.of h).ok i hi).ptx
def Qvk (f:Int) (es:List E):Nat->Int->Int->List E->List E × Int
 | 0,_,_,_=>([],0)
 | n + 1,at_,tx,out=>if 0 < at_ then
     (if at_ < f\/f + es.length - 1 < at_ then ([],14)
      else if (es.getD (at_-f).toNat E0).tx≠0/\(tx=0\/(es.getD (at_-f).toNat E0).tx=tx) then Qvk f es n (es.getD (at_-f).toNat E0).ptx (es.getD (at_-f).toNat E0).tx (es.getD (at_-f).toNat E0::out)
      else ([],13))
   else (out,0)
def QzZ(x:Lg)(last:Int):List E×Int:=if lgB x=false then ([],26) else if last<0 then ([],1) else Qvk x.f x.es (last.toNat+1) last 0 []
structure TW(x:Lg)(last:Int)(res:List E×Int) where
 n:Nat
 at_:Int
 h0:0<=at_
 hn:at_.toNat<n
 tx:Int
 ht:(tx=0/\at_=last)\/(tx≠0/\at_<last)
 out:List E
 hl:out=[]\/out.length+(at_-x.f+1).toNat<=4096
 eq:Qvk x.f x.es n at_ tx out=res
end
section
attribute [local go_sem] Ce.d Ch.d E.d Lg.c QI Q7 QhO Qi6 Qiz Qix QiS Qdi bkH
def Qkk(f:Int)(es:List E)(pv:E->Int)(a:Int)(k:Nat):List E:=(JD k).map fun j=>QdH f es (Qau f es pv a j)
def QeD(f:Int)(es:List E)(pv:E->Int)(a:Int)(k:Nat):(Qkk f es pv a k).length=k:=by simp[Qkk]
def QeC(f:Int)(es:List E)(pv:E->Int)(a:Int)(k:Nat):Qkk f es pv a (k+1)=Qkk f es pv a k++[QdH f es (Qau f es pv a k)]:=by
 simp[Qkk,List.range_succ]
def Qfy(h:lgB x=true):Bef x.f x.es E.ppg:=fun i hi=>by
 have h1:=QDv h hi
 have h2:=((Wf.of h).ok i hi).lsn
 omega
def Qfx(h:lgB x=true):Bef x.f x.es E.ptx:=fun i hi=>by
 have h1:=QDu h hi
 have h2:=((Wf.of h).ok i hi).lsn
 omega
structure PgG(x:Lg)(page above last:Int)(res:List E×Int)(k:Nat):Prop where
 re:∀ j,j<k->QhQ x.f x.es (Qau x.f x.es E.ppg last j)=false
 eq:pgW x.f x.es page above (last.toNat+1-k) (Qau x.f x.es E.ppg last k) (Qkk x.f x.es E.ppg last k).reverse=res
def PgG.step{x:Lg}{page above last:Int}{res:List E×Int}{k:Nat}(hv:lgB x=true)(h:PgG x page above last res k)(h0:0<=above)(hl:0<=last)(ha:above<Qau x.f x.es E.ppg last k) :
 if QhQ x.f x.es (Qau x.f x.es E.ppg last k)=true then res=([],14)
 else if QdV (QdH x.f x.es (Qau x.f x.es E.ppg last k))=true/\(QdH x.f x.es (Qau x.f x.es E.ppg last k)).c.pg=page then PgG x page above last res (k+1) else res=([],13):=by
 have hm:=(Qd7 (Qfy hv) h.re).1
 have he:=h.eq
 obtain⟨m,hm2⟩:∃ m,last.toNat+1-k=m+1:=⟨last.toNat-k,by omega⟩
 rw[hm2,pgW,if_pos ha] at he
 split
 ·rename_i hb
  rw[if_pos (by unfold QhQ at hb; simp at hb; omega)] at he
  exact he.symm
 ·rename_i hb
  have hb:=Jm.2 hb
  have hb2:=Qfz hb
  rw[if_neg (by omega)] at he
  split
  ·rename_i hc
   unfold QdH at hc
   rw[if_pos hc] at he
   refine⟨fun j hj=>?_,?_⟩
   ·rcases Jk.1 hj with q | rfl
    ·exact h.re j q
    ·exact hb
   ·rw [show last.toNat + 1 - (k + 1) = m by omega,Qbl,QeC,JE]
    exact he
  ·rename_i hc
   unfold QdH at hc
   rw[if_neg hc] at he
   exact he.symm
def PgG.done(hv:lgB x=true)(h0:0<=above)(hl:0<=last)(h:PgG x page above last res (Qe4 x.f x.es E.ppg above (last.toNat+1) last)):
 res=if Qau x.f x.es E.ppg last (Qe4 x.f x.es E.ppg above (last.toNat+1) last)<above then ([],13) else ((Qkk x.f x.es E.ppg last (Qe4 x.f x.es E.ppg above (last.toNat+1) last)).reverse,0):=by
 have hm:=(Qd7 (Qfy hv) h.re)
 have hn:=Qj8 (Qfy hv) h0 (Je _) h.re
 have he:=h.eq
 generalize Qe4 x.f x.es E.ppg above (last.toNat+1) last=N at *
 have hm1:Qau x.f x.es E.ppg last N+N<=last/\0<=Qau x.f x.es E.ppg last N:=⟨hm.1,hm.2.elim (fun e=>by subst e; exact hl) id⟩
 obtain⟨m,hm2⟩:∃ m,last.toNat+1-N=m+1:=⟨last.toNat-N,by omega⟩
 rw[hm2,pgW,if_neg hn] at he
 exact he.symm
def Qoo (hpv:Bef f es pv) (h:∀ j,j < k->QhQ f es (Qau f es pv a j) = false):k<=es.length:=by
 cases k with
 | zero=>exact Jf _
 | succ k =>
   have h0:=Qfz (h 0 (Nat.succ_pos _))
   have hk:=Qfz (h k (Je _))
   have:=(Qd7 hpv (fun j hj=>h j (JI hj))).1
   rw[Qau] at h0
   omega
def pgI(x:Lg)(page above last:Int)(k:Nat):Qa:=[⟨28,true,x.c⟩,⟨3,true,[.int .i64 page]⟩,⟨26,true,[.pv (.slc [])]⟩,⟨44,true,[.int .i64 0]⟩,⟨26,true,[.own 10 13 0 k]⟩,⟨3,true,[.int .i64 (Qau x.f x.es E.ppg last k)]⟩]++bkH x last above 29++[⟨57,true,cells Q5 (Qkk x.f x.es E.ppg last k)⟩]
def QuH(x:Lg)(hx:x.es.length<=9223372036854775807)(page last above:Int)(hlast:last<=9223372036854775807):VCalls prog 14 [.agg x.c,.int .i64 page,.int .i64 last,.int .i64 above] [] (Ret (.tup [.pv (.sl (fz Q5 (Qli x page last above).1)),.int .i64 (Qli x page last above).2])):=by
 refine VCalls.unwk ?_
 refine QfE (fn:=Tryz.f14) Tryz.func14 rfl (by kernel_rfl) (by simp[Tryz.f14]) ?_
 have hv:=QdE x hx
 have eS:Qli x page last above=if lgB x=false then ([],26) else if page<0\/64<=page\/last<0\/above<0 then ([],1) else pgW x.f x.es page above (last.toNat+1) last []:=rfl
 unfold Lg.c at hv
 refine VWp0.first ?_
 (unfold Tryz.f14; refine rn trivial ?_)
 refine VWp0.first ?_
 refine rn trivial ?_
 cases hlg:lgB x
 ·rw [hlg] at hv
  refine rn F ?_
  repeat' (first
   | with_reducible exact⟨⟩
   | refine vp F (hv) ?_)
  rw[eS,if_pos hlg]
  rfl
 rw[hlg] at hv
 rw[if_neg (by rw[hlg]; decide)] at eS
 refine rn F ?_
 repeat' (first
  | with_reducible exact⟨⟩
  | (refine sG F ?_ ?_<;>intro hZ)
  | (refine sB F ?_ ?_<;>intro hZ)
  | refine vp F (hv) ?_)
 all_goals first
  | (rw[eS,if_pos (by omega)]; rfl)
  | skip
 have hes:x.es.length<=4096:=(Q9 hlg).2.2.1
 have hf1:=(Q9 hlg).1
 have hfm:=(Q9 hlg).2.1
 have h0:0<=above:=by assumption
 have hl0:0<=last:=by assumption
 rw[if_neg (by omega)] at eS
 generalize Qli x page last above=res at *
 refine VWp0.first ?_
 refine rn trivial ?_
 refine VWp0.first ?_
 refine rn trivial ?_
 refine VWp0.then (VWp0.first ?_)
 refine rn trivial ?_
 refine QCO (x:=x) (ff:=29) ?_
 refine rn trivial ?_
 refine VWp0.block ?_
 refine VWp0.seqK (fn:=Tryz.f41) (caps:=[.ip [.lit (.int .i64 last)],.ip [.lit (.int .i64 above)],.ip (Qhh x.f x.es x.d),.ip [.lit (.func (.func 29) #[] #[])]]) rfl Tryz.func41 (by kernel_rfl) (by kernel_rfl) (QuZ (d:=x.d) (Qfy hlg) hf1 hfm hes h0 hlast QAR) (by show 38<71; decide) (by show 39<71; decide)
  (fun k=>.int .i64 (Qau x.f x.es E.ppg last k)) (fun k=>Qui x.f x.es (Qau x.f x.es E.ppg last k)) _ _ (fun k _=>rfl) (fun k W β1 hp1 _=>.pv _ _ (.lit _ rfl)) (fun k W β1 hp1 _=>DV.fix_rel (by unfold Qui; split<;>rfl))
  (pgI x page above last) (Qyt 4 0 57 13 rfl rfl rfl) (PgG x page above last res) ⟨fun j hj=>absurd hj (JA _),eS.symm⟩
  (fun k W β1 us hh hr=>QDl hr (fun v h=>QdA hh rfl h) (fun v h=>QdA hh rfl h) (fun v h=>QdA (cs:=Qhh x.f x.es x.d) hh rfl h) (fun v h=>Qg4 hh rfl h))
  (fun k hp'=>res.1 = []/\∃ rest:Qa,hp' = ([⟨28,true,x.c⟩,⟨3,true,[.int .i64 page]⟩,⟨26,true,[.pv (.slc [])]⟩,⟨44,true,[.int .i64 res.2]⟩] ++ rest:Qa)) (by kernel_rfl) (BodyOf.cut (K:=77) (by kernel_rfl) ?_ (by
   first
    | (repeat' constructor)
    | skip)) ?_ ?_ ?_
 ·decide +kernel
 ·intro k hk hG
  have hst:=hG.step hlg h0 hl0 (Qef hk)
  have hlen:=QeD x.f x.es E.ppg last k
  have hle:=Qoo (Qfy hlg) hG.re
  have hlb:(k+1)*208<=140737488355328:=by omega
  have hsu:=QeC x.f x.es E.ppg last k
  have hps:=Qbl x.f x.es E.ppg last k
  unfold Qgd QCM pgI
  dsimp only
  unfold Qui
  rw[hps,hsu]
  generalize hpo:Qau x.f x.es E.ppg last k=a at *
  generalize hou:Qkk x.f x.es E.ppg last k=out at *
  generalize hen:QdH x.f x.es a=e at *
  by_cases hb:QhQ x.f x.es a=true
  ·rw [if_pos hb] at hst |-
   subst hst
   have F:=@hlen
   refine rn F ?_
   exact⟨_,rfl⟩
  ·rw [if_neg hb] at hst |-
   have hch':VCalls prog 27 [.agg e.d] [] (Ret (.bool (QdV e))):=QhB e
   unfold E.d at hch'
   cases hce:QdV e
   ·rw [hce] at hch' hst
    rw[if_neg (fun h=>by cases h.1)] at hst
    subst hst
    have F:=@hlen
    refine rn F ?_
    repeat' (first
     | with_reducible exact⟨⟩
     | refine vp F (hch') ?_)
    exact⟨_,rfl⟩
   ·rw [hce] at hch' hst
    have F:=@hlen
    refine rn F ?_
    repeat' (first
     | with_reducible exact⟨⟩
     | (refine sB F ?_ ?_<;>intro hZ)
     | refine vp F (hch') ?_)
    ·rw [if_neg (fun h=>hZ h.2)] at hst
     subst hst
     exact⟨rfl,_,rfl⟩
    ·rw [if_pos ⟨rfl,hZ⟩] at hst
     exact⟨hst,Wk.weak (gc [0,1,2,3,4,5,6,7,8,9,13])⟩
 ·intro hG
  have hdn:=hG.done hlg h0 hl0
  have hle:=Qoo (Qfy hlg) hG.re
  have hlen:=QeD x.f x.es E.ppg last (Qe4 x.f x.es E.ppg above (last.toNat+1) last)
  unfold pgI
  dsimp only
  refine VWpE.plain ?_
  clear hG eS
  generalize Qe4 x.f x.es E.ppg above (last.toNat+1) last=N at *
  generalize Qau x.f x.es E.ppg last N=a at *
  generalize Qkk x.f x.es E.ppg last N=out at *
  subst hlen
  have hlr:out.reverse.length=out.length:=Jp
  by_cases ha:a<above
  ·rw [if_pos ha] at hdn
   subst hdn
   have F:=@ha
   refine rn F ?_
   rfl
  ·rw [if_neg ha] at hdn
   subst hdn
   have F:=@ha
   refine rn F ?_
   refine Qyw (l:=out) (by omega) rfl ?_
   have F:=@hlr
   (refine rn F ?_; try with_reducible exact⟨⟩)
 ·rintro k hp' hk ⟨e1,rest,rfl⟩
  obtain⟨r1,r2⟩:=res
  dsimp only at e1
  subst e1
  refine rn trivial ?_
  rfl
end
section
attribute [local go_sem] Ce.d Ch.d E.d Lg.c QI Q7 QhO Qi6 Qiz Qix QiS Qdi bkH
def txP(x:Lg)(last:Int)(k:Nat):Int:=if k=0 then 0 else (QdH x.f x.es last).tx
structure TxG(x:Lg)(last:Int)(res:List E×Int)(k:Nat):Prop where
 re:∀ j,j<k->QhQ x.f x.es (Qau x.f x.es E.ptx last j)=false
 ne:k≠0->txP x last k≠0
 eq:Qvk x.f x.es (last.toNat+1-k) (Qau x.f x.es E.ptx last k) (txP x last k) (Qkk x.f x.es E.ptx last k).reverse=res
def TxG.step{x:Lg}{last:Int}{res:List E×Int}{k:Nat}(hv:lgB x=true)(h:TxG x last res k)(hl:0<=last)(ha:0<Qau x.f x.es E.ptx last k) :
 if QhQ x.f x.es (Qau x.f x.es E.ptx last k)=true then res=([],14)
 else if (QdH x.f x.es (Qau x.f x.es E.ptx last k)).tx≠0/\(k=0\/(QdH x.f x.es (Qau x.f x.es E.ptx last k)).tx=(QdH x.f x.es last).tx) then TxG x last res (k+1) else res=([],13):=by
 have hm:=(Qd7 (Qfx hv) h.re).1
 have he:=h.eq
 obtain⟨m,hm2⟩:∃ m,last.toNat+1-k=m+1:=⟨last.toNat-k,by omega⟩
 rw[hm2,Qvk,if_pos ha] at he
 have hk0:k=0->Qau x.f x.es E.ptx last k=last:=fun e=>by subst e; rfl
 have hcase:txP x last k=0\/(QdH x.f x.es (Qau x.f x.es E.ptx last k)).tx=txP x last k ↔ (k=0\/(QdH x.f x.es (Qau x.f x.es E.ptx last k)).tx=(QdH x.f x.es last).tx):=by
  by_cases h0:k=0
  ·simp[txP,h0]
  ·have:=h.ne h0
   simp only[txP,if_neg h0] at this |-
   simp[this,h0]
 split
 ·rename_i hb
  rw[if_pos (by unfold QhQ at hb; simp at hb; omega)] at he
  exact he.symm
 ·rename_i hb
  have hb:=Jm.2 hb
  have hb2:=Qfz hb
  rw[if_neg (by omega)] at he
  have hent:x.es.getD (Qau x.f x.es E.ptx last k-x.f).toNat E0=QdH x.f x.es (Qau x.f x.es E.ptx last k):=rfl
  rw[hent] at he
  split
  ·rename_i hc
   rw[if_pos ⟨hc.1,hcase.2 hc.2⟩] at he
   have htx:(QdH x.f x.es (Qau x.f x.es E.ptx last k)).tx=txP x last (k+1):=by
    rw[txP,if_neg (Nat.succ_ne_zero k)]
    rcases hc.2 with e | e
    ·rw[hk0 e]
    ·exact e
   refine⟨fun j hj=>?_,fun _=>by rw[<- htx]; exact hc.1,?_⟩
   ·rcases Jk.1 hj with q | rfl
    ·exact h.re j q
    ·exact hb
   ·rw [show last.toNat + 1 - (k + 1) = m by omega,Qbl,QeC,JE,<- htx]
    exact he
  ·rename_i hc
   rw[if_neg (fun q=>hc ⟨q.1,hcase.1 q.2⟩)] at he
   exact he.symm
def TxG.done(hv:lgB x=true)(hl:0<=last)(h:TxG x last res (Qe4 x.f x.es E.ptx 0 (last.toNat+1) last)):
 res=((Qkk x.f x.es E.ptx last (Qe4 x.f x.es E.ptx 0 (last.toNat+1) last)).reverse,0):=by
 have hm:=(Qd7 (Qfx hv) h.re)
 have hn:=Qj8 (Qfx hv) (Jq 0) (Je _) h.re
 have he:=h.eq
 generalize Qe4 x.f x.es E.ptx 0 (last.toNat+1) last=N at *
 have hm1:Qau x.f x.es E.ptx last N+N<=last/\0<=Qau x.f x.es E.ptx last N:=⟨hm.1,hm.2.elim (fun e=>by subst e; exact hl) id⟩
 obtain⟨m,hm2⟩:∃ m,last.toNat+1-N=m+1:=⟨last.toNat-N,by omega⟩
 rw[hm2,Qvk,if_neg hn] at he
 exact he.symm
def txI(x:Lg)(last:Int)(k:Nat):Qa:=[⟨28,true,x.c⟩,⟨26,true,[.pv (.slc [])]⟩,⟨44,true,[.int .i64 0]⟩,⟨26,true,[.own 8 13 0 k]⟩]++bkH x last 0 31++[⟨57,true,cells Q5 (Qkk x.f x.es E.ptx last k)⟩]
def QGQ(l:List E)(h:0<l.length):(cells Q5 l)[2]?=some (.pv (.lit (.int .i64 (l.getD 0 E0).tx))):=by
 have:=QFJ l 0 h
 rw[Nat.zero_mul,List.drop_zero] at this
 have h2:(cells Q5 l)[2]?=((cells Q5 l).take 13)[2]?:=by rw[List.getElem?_take]; rfl
 rw[h2,this]
 rfl
def QEa(x:Lg)(hx:x.es.length<=9223372036854775807)(last:Int)(hlast:last<=9223372036854775807):VCalls prog 17 [.agg x.c,.int .i64 last] [] (Ret (.tup [.pv (.sl (fz Q5 (QzZ x last).1)),.int .i64 (QzZ x last).2])):=by
 refine VCalls.unwk ?_
 refine QfE (fn:=Tryz.f17) Tryz.func17 rfl (by kernel_rfl) (by simp[Tryz.f17]) ?_
 have hv:=QdE x hx
 have eS:QzZ x last=if lgB x=false then ([],26) else if last<0 then ([],1) else Qvk x.f x.es (last.toNat+1) last 0 []:=rfl
 unfold Lg.c at hv
 refine VWp0.first ?_
 (unfold Tryz.f17; refine rn trivial ?_)
 refine VWp0.first ?_
 refine rn trivial ?_
 cases hlg:lgB x
 ·rw [hlg] at hv
  refine rn F ?_
  repeat' (first
   | with_reducible exact⟨⟩
   | refine vp F (hv) ?_)
  rw[eS,if_pos hlg]
  rfl
 rw[hlg] at hv
 rw[if_neg (by rw[hlg]; decide)] at eS
 refine rn F ?_
 repeat' (first
  | with_reducible exact⟨⟩
  | (refine sB F ?_ ?_<;>intro hZ)
  | refine vp F (hv) ?_)
 all_goals first
  | (rw[eS,if_pos (by omega)]; rfl)
  | skip
 have hes:x.es.length<=4096:=(Q9 hlg).2.2.1
 have hf1:=(Q9 hlg).1
 have hfm:=(Q9 hlg).2.1
 have hl0:0<=last:=by omega
 rw[if_neg (by omega)] at eS
 generalize QzZ x last=res at *
 refine VWp0.first ?_
 refine rn trivial ?_
 refine VWp0.then (VWp0.first ?_)
 refine rn trivial ?_
 refine QCO (x:=x) (ff:=31) ?_
 refine rn trivial ?_
 refine VWp0.block ?_
 refine VWp0.seqK (fn:=Tryz.f41) (caps:=[.ip [.lit (.int .i64 last)],.ip [.lit (.int .i64 0)],.ip (Qhh x.f x.es x.d),.ip [.lit (.func (.func 31) #[] #[])]]) rfl Tryz.func41 (by kernel_rfl) (by kernel_rfl) (QuZ (d:=x.d) (Qfx hlg) hf1 hfm hes (Jq 0) hlast QFj) (by show 19<53; decide) (by show 20<53; decide)
  (fun k=>.int .i64 (Qau x.f x.es E.ptx last k)) (fun k=>Qui x.f x.es (Qau x.f x.es E.ptx last k)) _ _ (fun k _=>rfl) (fun k W β1 hp1 _=>.pv _ _ (.lit _ rfl)) (fun k W β1 hp1 _=>DV.fix_rel (by unfold Qui; split<;>rfl))
  (txI x last) (Qyt 3 0 57 13 rfl rfl rfl) (TxG x last res) ⟨fun j hj=>absurd hj (JA _),fun h=>absurd rfl h,eS.symm⟩
  (fun k W β1 us hh hr=>QDl hr (fun v h=>QdA hh rfl h) (fun v h=>QdA hh rfl h) (fun v h=>QdA (cs:=Qhh x.f x.es x.d) hh rfl h) (fun v h=>Qg4 hh rfl h))
  (fun k hp'=>res.1=[]/\∃ rest:Qa,hp'=([⟨28,true,x.c⟩,⟨26,true,[.pv (.slc [])]⟩,⟨44,true,[.int .i64 res.2]⟩]++rest:Qa)) (by kernel_rfl) BodyOf.vr ?_ ?_ ?_
 ·intro k hk hG
  have hst:=hG.step hlg hl0 (Qef hk)
  have hlen:=QeD x.f x.es E.ptx last k
  have hle:=Qoo (Qfx hlg) hG.re
  have hlb:(k+1)*208<=140737488355328:=by omega
  have hsu:=QeC x.f x.es E.ptx last k
  have hps:=Qbl x.f x.es E.ptx last k
  have hg0:=QGQ (Qkk x.f x.es E.ptx last k)
  have hfi:0<k->(Qkk x.f x.es E.ptx last k).getD 0 E0=QdH x.f x.es last:=fun h=>by
   rw[Qd _ _ (by rw[QeD]; exact h)]
   simp[Qkk,Qau]
  unfold Qgd txI
  dsimp only
  unfold Qui
  rw[hsu]
  clear hG hps hsu
  generalize hpo:Qau x.f x.es E.ptx last k=a at *
  generalize hou:Qkk x.f x.es E.ptx last k=out at *
  generalize hen:QdH x.f x.es a=e at *
  by_cases hb:QhQ x.f x.es a=true
  ·rw [if_pos hb] at hst |-
   subst hst
   refine rn trivial ?_
   refine VR.block (VR.seq (VR.first rfl ?_))
   refine rn trivial ?_
   refine VR.cond rfl (fun hZ=>?_) (fun hZ=>?_)
   ·refine VR.seq (VR.draw (by kernel_rfl) (by decide +kernel) ?_)
    refine rn trivial ?_
    refine VR.plain rfl ?_
    refine rn trivial ?_
    exact⟨_,rfl⟩
   ·cases hZ
  ·rw [if_neg hb] at hst |-
   refine rn trivial ?_
   refine VR.block (VR.seq (VR.first rfl ?_))
   refine rn trivial ?_
   refine VR.cond rfl (fun hZ=>?_) (fun hZ=>?_)
   ·cases hZ
   refine VR.plain rfl ?_
   refine rn trivial ?_
   refine VR.seq (VR.seq (VR.draw (by kernel_rfl) (by decide +kernel) ?_))
   by_cases hk0:k=0
   ·subst hk0
    have F:=@hlen
    refine rn F ?_
    repeat' (first
     | with_reducible exact⟨⟩
     | (refine sD F ?_ ?_<;>intro hZ))
    ·refine VR.cond rfl (fun hY=>?_) (fun hY=>?_)
     ·cases hY
     refine VR.plain rfl ?_
     refine rn trivial ?_
     refine VR.plain rfl ?_
     rw[if_pos ⟨hZ,.inl rfl⟩] at hst
     obtain rfl:out=[]:=List.length_eq_zero_iff.1 hlen
     refine rn trivial ?_
     exact⟨hst,Wk.weak (gc [0,1,2,3,4,5,6,7,11])⟩
    ·refine VR.cond rfl (fun hY=>?_) (fun hY=>?_)
     ·refine VR.plain rfl ?_
      rw[if_neg (fun h=>h.1 hZ)] at hst
      subst hst
      refine rn trivial ?_
      exact⟨_,rfl⟩
     ·cases hY
   ·have hk1:0 < k:=by omega
    rw[hlen] at hg0
    have hg0:=hg0 hk1
    rw[hfi hk1] at hg0
    have F:=(Ja @hlen @hg0)
    refine rn F ?_
    repeat' (first
     | with_reducible exact⟨⟩
     | (refine sD F ?_ ?_<;>intro hZ))
    ·refine VR.cond rfl (fun hY=>?_) (fun hY=>?_)
     ·refine VR.plain rfl ?_
      rw[if_neg (fun h=>by rcases h.2 with q | q; exact hk0 q; simp[q] at hY)] at hst
      subst hst
      refine rn trivial ?_
      exact⟨_,rfl⟩
     refine VR.plain rfl ?_
     refine rn trivial ?_
     refine VR.plain rfl ?_
     rw[if_pos ⟨hZ,.inr (by simpa using hY)⟩] at hst
     refine rn @hlen ?_
     exact⟨hst,Wk.weak (gc [0,1,2,3,4,5,6,7,11])⟩
    ·refine VR.cond rfl (fun hY=>?_) (fun hY=>?_)
     ·refine VR.plain rfl ?_
      rw[if_neg (fun h=>h.1 hZ)] at hst
      subst hst
      refine rn trivial ?_
      exact⟨_,rfl⟩
     ·cases hY
 ·intro hG
  have hdn:=hG.done hlg hl0
  have hle:=Qoo (Qfx hlg) hG.re
  have hlen:=QeD x.f x.es E.ptx last (Qe4 x.f x.es E.ptx 0 (last.toNat+1) last)
  unfold txI
  dsimp only
  refine VWpE.plain ?_
  clear hG eS
  generalize Qe4 x.f x.es E.ptx 0 (last.toNat+1) last=N at *
  generalize Qau x.f x.es E.ptx last N=a at *
  generalize Qkk x.f x.es E.ptx last N=out at *
  subst hlen
  have hlr:out.reverse.length=out.length:=Jp
  subst hdn
  have F:=trivial
  refine rn F ?_
  refine Qyw (l:=out) (by omega) rfl ?_
  have F:=@hlr
  (refine rn F ?_; try with_reducible exact⟨⟩)
 ·rintro k hp' hk ⟨e1,rest,rfl⟩
  obtain⟨r1,r2⟩:=res
  dsimp only at e1
  subst e1
  refine rn trivial ?_
  rfl
end
section
def ofP(p:Int)(e:E):Bool:=QdV e&&decide (e.c.pg=p)
def ofT(a:Int)(e:E):Bool:=decide (e.tx=a)
def QlI (es:List E) (p:Int):∀ i,i<=es.length->Qc6 es p i = Qap (es.take i) p
 | 0,_=>by rw[Jn]; rfl
 | i + 1,h=>by
   rw[Qc6,Qbj es (by omega),Qan,QlI es p i (by omega)]
   unfold QdV
   simp only[Jz,beq_iff_eq]
def Qgc{es:List E}(h:i<es.length)(q:E->Bool):(es.take (i+1)).filter q=(es.take i).filter q++(if q (es.getD i E0)=true then [es.getD i E0] else []):=by
 rw[Qbj es h,JF]
 congr 1
 by_cases h2:q (es.getD i E0)=true
 ·rw[if_pos h2,Js h2,Jr]
 ·rw[if_neg h2,Jg h2,Jr]
section
variable {x:Lg} (hv:lgB x=true) (hf:x.f=1) (hlog:LogOk x.es)
include hv hf in
theorem Qgo (p:Int):∀ i,i<=x.es.length->0<=Qap (x.es.take i) p/\Qap (x.es.take i) p<=i
 | 0,_=>by rw[Jn]; exact⟨Jq _,Jq _⟩
 | i + 1,h=>by
   have ih:=Qgo p i (by omega)
   have h1:=(Qbv hv (i:=i) (by omega)).1
   rw[Qbj _ (by omega),Qan]
   split<;>omega
include hv hf in
theorem QjZ (a:Int):∀ i,i<=x.es.length->0<=Qb7 (x.es.take i) a/\Qb7 (x.es.take i) a<=i
 | 0,_=>by rw[Jn]; exact⟨Jq _,Jq _⟩
 | i + 1,h=>by
   have ih:=QjZ a i (by omega)
   have h1:=(Qbv hv (i:=i) (by omega)).1
   rw[Qbj _ (by omega),QaQ]
   split<;>omega
include hv hf hlog in
theorem Qs8 (p above:Int):∀ i,i<=x.es.length->(above = 0\/∃ j,j < i/\ofP p (x.es.getD j E0) = true/\above = j + 1)->∀ n (out:List E),(Qap (x.es.take i) p).toNat < n ->
 pgW 1 x.es p above n (Qap (x.es.take i) p) out=(((x.es.take i).filter fun e=>ofP p e&&decide (above<e.lsn))++out,0)
 | 0,_,ha,n + 1,out,hn=>by
   have ha:above=0:=ha.elim id fun⟨j,h,_⟩=>absurd h (by omega)
   subst ha
   rw[Jn,pgW,if_neg (by simp[Qap]),if_neg (by simp[Qap])]
   rfl
 | i + 1,hi,ha,n,out,hn=>by
   have h1:=(Qbv hv (i:=i) (by omega)).1
   rw[Qgc (by omega)]
   by_cases hq:ofP p (x.es.getD i E0)=true
   ·have hq':QdV (x.es.getD i E0) = true/\(x.es.getD i E0).c.pg = p:=by unfold ofP at hq; simpa using hq
    have hk:(x.es.getD i E0).kind=1\/(x.es.getD i E0).kind=2:=by have:=hq'.1; unfold QdV at this; simpa using this
    have hl:Qap (x.es.take (i+1)) p=(i:Int)+1:=by
     rw[Qbj _ (by omega),Qan,if_pos ⟨hk,hq'.2⟩]; omega
    rw[hl] at hn |-
    have hidx:((i:Int)+1-1).toNat=i:=by omega
    cases n with
    | zero=>omega
    | succ n=>
    rw[pgW]
    by_cases hab:above<(i:Int)+1
    ·rw [if_pos hab,if_neg (by omega),hidx,if_pos hq']
     have hpp:=(hlog i (by omega)).ppg hk
     rw[hq'.2] at hpp
     have hb:=Qgo hv hf p i (by omega)
     rw[hpp,Qs8 p above i (by omega) (ha.imp id fun⟨j,j1,j2,j3⟩=>⟨j,by omega,j2,j3⟩) n _ (by omega)]
     rw[if_pos (by rw[Jb]; exact⟨hq,decide_eq_true (by omega)⟩),JK]
     rfl
    ·have hj:above = (i:Int) + 1:=by
      rcases ha with ha | ⟨j,j1,j2,j3⟩<;>omega
     rw[if_neg hab,if_neg (by omega),if_neg (by rw[Jb]; intro h; have:=of_decide_eq_true h.2; omega),Jc]
     congr 1
     rw[List.filter_eq_nil_iff.2 fun e he=>?_]
     ·rfl
     ·obtain ⟨k,k1,k2,rfl⟩:=Qxd he
      have:=(Qbv hv k2).1
      simp only[Jb,decide_eq_true_eq,not_and]
      intro _
      omega
   ·have hl:Qap (x.es.take (i + 1)) p = Qap (x.es.take i) p:=by
     rw[Qbj _ (by omega),Qan,if_neg]
     rintro⟨h2,h3⟩
     refine hq ?_
     unfold ofP QdV
     simp only[Jb,Jz,beq_iff_eq,decide_eq_true_eq]
     exact⟨h2,h3⟩
    rw[hl] at hn |-
    rw[Qs8 p above i (by omega) (ha.imp id fun⟨j,j1,j2,j3⟩=>⟨j,by
     rcases Jk.1 j1 with h | rfl
     ·exact h
     ·exact absurd j2 hq,j2,j3⟩) n _ hn,if_neg (by rw[Jb]; exact fun h=>hq h.1),Jc]
include hv hf hlog in
theorem QmK (a:Int) (ha:0 < a):∀ i,i<=x.es.length->∀ n (tx:Int) (out:List E),(tx = 0\/tx = a)->(Qb7 (x.es.take i) a).toNat < n ->
 Qvk 1 x.es n (Qb7 (x.es.take i) a) tx out=(((x.es.take i).filter (ofT a))++out,0)
 | 0,_,n + 1,tx,out,_,hn=>by
   rw[Jn,Qvk,if_neg (by simp[Qb7])]
   rfl
 | i + 1,hi,n,tx,out,ht,hn=>by
   have h1:=(Qbv hv (i:=i) (by omega)).1
   rw[Qgc (by omega)]
   by_cases hq:(x.es.getD i E0).tx=a
   ·have hl:Qb7 (x.es.take (i + 1)) a = (i:Int) + 1:=by
     rw[Qbj _ (by omega),QaQ,if_pos hq]; omega
    rw[hl] at hn |-
    have hidx:((i:Int)+1-1).toNat=i:=by omega
    cases n with
    | zero=>omega
    | succ n=>
    rw[Qvk,if_pos (by omega),if_neg (by omega),hidx,if_pos (by rw[hq]; omega)]
    have hpp:=(hlog i (by omega)).ptx (by omega)
    rw[hq] at hpp
    have hb:=QjZ hv hf a i (by omega)
    rw[hpp,QmK a ha i (by omega) n _ _ (.inr hq) (by omega),if_pos (show ofT a _=true from decide_eq_true hq),JK]
    rfl
   ·have hl:Qb7 (x.es.take (i + 1)) a = Qb7 (x.es.take i) a:=by rw [Qbj _ (by omega),QaQ,if_neg hq]
    rw[hl] at hn |-
    rw[QmK a ha i (by omega) n tx out ht hn,if_neg (by unfold ofT; simpa using hq),Jc]
include hv hf hlog in
theorem Qon(p above:Int)(hp:0<=p/\p<64)(ha:above=0\/∃ j,j<x.es.length/\ofP p (x.es.getD j E0)=true/\above=j+1) :
 Qli x p (Qap x.es p) above=(x.es.filter fun e=>ofP p e&&decide (above<e.lsn),0):=by
 have hb:=Qgo hv hf p x.es.length (Jh _)
 have h:=Qs8 hv hf hlog p above x.es.length (Jh _) ha ((Qap (x.es.take x.es.length) p).toNat+1) [] (Je _)
 rw[Ji] at h hb
 have h0:0<=above:=by rcases ha with h | ⟨j,_,_,h⟩<;>omega
 unfold Qli
 rw[if_neg (by rw[hv]; decide),if_neg (by omega),hf,h,Jc]
include hv hf hlog in
theorem QzY(a:Int)(ha:0<a):QzZ x (Qb7 x.es a)=(x.es.filter (ofT a),0):=by
 have hb:=QjZ hv hf a x.es.length (Jh _)
 have h:=QmK hv hf hlog a ha x.es.length (Jh _) ((Qb7 (x.es.take x.es.length) a).toNat+1) 0 [] (.inl rfl) (Je _)
 rw[Ji] at h hb
 unfold QzZ
 rw[if_neg (by rw[hv]; decide),if_neg (by omega),hf,h,Jc]
end
def QlH(a:Int):∀ es:List E,Qb7 es a=if 0<(es.filter (ofT a)).length then ((es.filter (ofT a)).getD ((es.filter (ofT a)).length-1) E0).lsn else 0:=by
 refine Qcx (by simp[Qb7]) fun l e ih=>?_
 rw[QaQ,JF]
 by_cases h:e.tx=a
 ·rw [if_pos h,Js (by unfold ofT; simpa using h),Jr,if_pos (by rw [Jl,JB]; omega),Jl,JB,Nat.add_sub_cancel,Jd,List.getElem?_append_right (Jh _),Nat.sub_self]
  rfl
 ·rw [if_neg h,Jg (by unfold ofT; simpa using h),Jr,Jc]
  exact ih
def Qny{α:Type}{R:α->α->Prop}{l:List α}(h:l.Pairwise R)(p:α->Bool):(l.filter p).Pairwise R:=h.sublist List.filter_sublist
def Qhw:∀ {l:List E},l.Pairwise (fun a b=>a.lsn < b.lsn)->∀ k (hk:k < l.length),l.filter (fun e=>decide ((l.getD k E0).lsn < e.lsn)) = l.drop (k + 1)
 | e :: l,h,0,_=>by
   rw[JG] at h
   rw[Jg (by simp),List.filter_eq_self.2 fun a ha=>?_]
   ·rfl
   ·exact decide_eq_true (h.1 a ha)
 | e :: l,h,k + 1,hk=>by
   rw[JG] at h
   have hk':k<l.length:=by simpa using hk
   have hm:(l.getD k E0)∈l:=by rw[Qd _ _ hk']; exact Jv _
   have:=h.1 _ hm
   rw[List.getD_cons_succ,Jg (by rw[decide_eq_true_eq]; omega),Qhw h.2 k hk']
   rfl
def QA5(hv:lgB x=true):x.es.Pairwise (fun a b=>a.lsn<b.lsn):=by
 rw[List.pairwise_iff_getElem]
 intro i j hi hj hij
 have h1:=(Qbv hv hi).1
 have h2:=(Qbv hv hj).1
 rw[Qd _ _ hi] at h1
 rw[Qd _ _ hj] at h2
 omega
def Qyp(hv:lgB x=true)(p:Int)(k:Nat)(hk:k<(x.es.filter (ofP p)).length):(x.es.filter fun e=>ofP p e&&decide (((x.es.filter (ofP p)).getD k E0).lsn<e.lsn))=(x.es.filter (ofP p)).drop (k+1):=by
 rw[<- Qhw (Qny (QA5 hv) _) k hk,List.filter_filter]
 refine JL fun e _=>?_
 rw[Bool.and_comm]
def Qvg(hv:lgB x=true)(hf:x.f=1)(p:Int)(k:Nat)(hk:k<(x.es.filter (ofP p)).length):∃ j,j<x.es.length/\ofP p (x.es.getD j E0)=true/\((x.es.filter (ofP p)).getD k E0).lsn=j+1:=by
 have hm:((x.es.filter (ofP p)).getD k E0)∈x.es.filter (ofP p):=by rw[Qd _ _ hk]; exact Jv _
 obtain⟨h1,h2⟩:=JO.1 hm
 obtain⟨j,hj,h3⟩:=List.mem_iff_getElem.1 h1
 have h4:=(Qbv hv hj).1
 rw[<- h3] at h2 |-
 rw[Qd _ _ hj] at h4
 exact⟨j,hj,by rw[Qd _ _ hj]; exact h2,by omega⟩
section
variable {x:Lg} (hv:lgB x=true) (hf:x.f=1) (hlog:LogOk x.es)
include hv hf hlog in
theorem Qw3(p:Nat)(hp:p<64):Qli x p (Qap x.es p) 0=(x.es.filter (ofP p),0):=by
 rw[Qon hv hf hlog p 0 (by omega) (.inl rfl)]
 congr 1
 refine JL fun e he=>?_
 have:=(Qhi hv hf he).1
 rw[decide_eq_true (by omega),Bool.and_true]
include hv hf hlog in
theorem Qtd(p:Nat)(hp:p<64)(k:Nat)(hk:k<(x.es.filter (ofP p)).length):Qli x p (Qap x.es p) ((x.es.filter (ofP p)).getD k E0).lsn=((x.es.filter (ofP p)).drop (k+1),0):=by
 rw[Qon hv hf hlog p _ (by omega) (.inr (Qvg hv hf p k hk)),Qyp hv p k hk]
include hv in
theorem Qxx(p:Nat)(hp:p<64):(QfN x).getD p 0=Qap x.es p:=by
 rw[QfN,if_pos hv,QbZ,Jd,List.getElem?_map,List.getElem?_range hp]
 show Qc6 x.es p x.es.length=_
 rw[QlI _ _ _ (Jh _),Ji]
include hv hf hlog in
theorem QCU(a:Nat)(ha:0<a):QzZ x (if 0<(x.es.filter (ofT a)).length then ((x.es.filter (ofT a)).getD ((x.es.filter (ofT a)).length-1) E0).lsn else 0)=(x.es.filter (ofT a),0):=by
 rw[<- QlH]
 exact QzY hv hf hlog a (by omega)
end
end
section
attribute [local go_sem] cb cc Ce.d Ch.d
end
section
attribute [local go_sem] cb cc Lg.c
end
section
section
variable {x:Lg} (hv:lgB x=true) (hf:x.f=1) (hlog:LogOk x.es) {m:Nat} (hid:∀ e∈x.es,e.tx<=m)
include hv hf hlog in
include hv hlog in
include hv hlog hid in
end
end
section
attribute [local go_sem] cb cc
structure DLg(x:Lg):Prop where
 ok:lgB x=true
 len:x.es.length<=4096
 end_:x.f+x.es.length<=4097
def DLg.lsn(h:DLg x)(i:Nat)(hi:i<x.es.length):1<=(x.es.getD i E0).lsn/\(x.es.getD i E0).lsn<=1000000000:=by
 have h1:=Qtv h.ok i hi
 have h2:=Q9 h.ok
 simp only[Lg.hd] at h2
 have h3:=h.end_
 rw[h1.1]
 omega
end
section
attribute [local go_sem] cb cc Lg.c
end
section
attribute [local go_sem] cb cc Lg.c QhO Qi6 Qiz Qix QiS
def QBd:VCalls prog 19 [] [] (Ret (.agg Lg1.c)):=by
 refine dk Tryz.func19 ?_
 (unfold Tryz.f19; refine rn trivial ?_)
 rfl
def e07:E:=⟨0,1,1,0,0,0,Ch0,[]⟩
def QF0:Lg:=⟨1,[⟨1,1,1,0,0,0,Ch0,[]⟩],0⟩
def QEA:Lg:=⟨1,[⟨1,1,1,0,1,0,Ch0,[]⟩],0⟩
end
section
attribute [local go_sem] Ce.d Ch.d E.d QhO Qi6 Qiz Qix QiS Qdi Qvt Qvs JA QaE Qal Lg.c QF3
def QCY(c:QqM)(hp:Qa)(g:MapsD)(b kb kc bt bp bu:Nat)(f:Int)(e:E)(L:List (Int×DV))(hkb:kb<hp.length)(hb:Qg hp kb=some e.d)(hk:kc<hp.length)(hc:Qg hp kc=some (ckC f bt bp bu))(hg:(bt,QdQ kI L)∈g)
 (k:Nat) (la:Int) (ea en:Bool) (hkk:k<hp.length) (hkc:Qg hp k=some (rnC la ea false en (.pv (.slc [])))) (hn:QhP L e.tx=some (.ptr k 0))
 (h2:k≠kc) (h3:k≠kb) (hq:e.kind=1) :
 VWpG prog (Qdl c) (Qh5 3 (QhH Tryz.f26)) (Qks prog [.tmp 4] fun r h' g'=>r=.bool true) ⟨97,b,[(3,.ptr kb 0),(0,.ptr kc 0)],hp⟩ g:=by
 unfold ckC at hc
 unfold rnC at hkc
 unfold E.d at hb
 show VWpG prog (Qdl c) (.seq _ _) _ _ _
 refine VWpG.seq ?_
 refine VWpG.drawn (k:=6) (f:=6) (Ql c) (by kernel_rfl) (by kernel_rfl) (by kernel_rfl) (by kernel_rfl) rfl ?_; refine Qgu (by kernel_rfl) ?_
 refine rn (Ja @hk (Ja @hc (Ja @hb @hkb))) ?_
 refine Qux (zv:=.pointer none) (L:=L) (k:=e.tx) rfl rfl um1 QDO (QgV z1) (Qi9 rfl) rfl hg (Qhl rfl) ?_
 rw[hn]
 refine rn trivial ?_
 refine VWpG.plain (Ql c) ?_
 have F:=(Ja @hk (Ja @hc (Ja @hb (Ja @hkb (Ja @hkk (Ja @hkc (Ja @h2 (Ja @h3 (Ja @h2.symm (Ja @h3.symm ((eq_true hq))))))))))))
 refine rn F ?_
 repeat' (first
  | with_reducible exact⟨⟩
  | (refine Qc (id:=10) [0,1,2,3,4,5] [⟨[6],[6],7,[0,1,2,3,5],[8,9]⟩,⟨[],[],10,[8],[]⟩] (by kernel_rfl) (by kernel_rfl) ?_; refine rn F ?_))
def Qxc(hp:Qa)(g:MapsD)(kc bt bp bu:Nat)(hbb:bt≠bp)(hk:kc<hp.length)(hc:Qg hp kc=some (ckC 1 bt bp bu))(hgt:(bt,QdQ kI [])∈g)(hgp:(bp,QdQ kI (Qnl []))∈g)(e:E)(hq:e.kind=1)(htx:e.tx≠0)(hpt:e.ptx<1)(hpp:e.ppg<1) :
 VCallsG prog 26 [.ptr kc 0,.agg e.d] hp g (fun r h' g'=>r=.bool true):=by
 have hr0:=fun(B:Blk)=>QuA (hp++[B]) g kc bt bp bu 1 e [] (by simp; omega) ((Qbt hk).trans hc) hgt rfl
 have hcg:VCalls prog 27 [.agg e.d] [] (Ret (.bool (e.kind==1||e.kind==2))):=QhB e
 rw[show(e.kind==1||e.kind==2)=true by simp[hq]] at hcg
 rw[decide_eq_true hpt] at hr0
 refine Qfb (fn:=Tryz.f26) Tryz.func26 rfl (by kernel_rfl) (by simp[Tryz.f26]) (fun c=>?_)
 have hc0:=hc
 unfold ckC at hc
 unfold E.d at hr0 hcg
 refine VWpG.first (Ql c) ?_
 (unfold Tryz.f26; refine rn trivial ?_)
 refine VWpG.seq ?_
 refine VWpG.first (Ql c) ?_
 refine rn @htx ?_
 refine VWpG.cond rfl (fun hZ=>?_) (fun hZ=>?_)
 ·cases hZ
 refine VWpG.plain (Ql c) ?_
 refine rn trivial ?_
 refine VWpG.seq ?_
 refine VWpG.seq ?_
 refine VWpG.cut1 (Ql c) 2 [7] ?_
 refine rn trivial ?_
 refine QjN rfl rfl rfl (hr0 _) ?_
 rintro r h1' g1 ⟨rfl,⟨x,hh⟩,hg1⟩
 refine Qf9 ?_
 have hlen:h1'.length=hp.length+3:=by rw[hh]; simp
 have q1:kc<h1'.length:=by omega
 have q2:Qg h1' kc=some (ckC 1 bt bp bu):=by rw[hh,Qbt (by simp; omega),Qbt (by simp; omega),Qbt hk]; exact hc0
 have q4:Qg h1' hp.length=some e.d:=by rw[hh,Qbt (by simp),Qbt (by simp),Qyf]; rfl
 have q5:Qg h1' (hp.length+2)=some (rnC e.lsn (decide (0<e.ptx)) false false (.pv (.slc []))):=by rw[hh,QnE (by simp)]; simp; rfl
 have hn:QhP (QiL ([]:List (Int×DV)) e.tx (.ptr (hp.length+2) 0)) e.tx=some (.ptr (hp.length+2) 0):=by rw[QxC,if_pos rfl]
 have hgt1:(bt,QdQ kI (QiL [] e.tx (.ptr (hp.length+2) 0)))∈g1:=by
  rw[hg1]
  refine Jy.2 ⟨_,hgt,?_⟩
  simp
 have hgp1:(bp,QdQ kI (Qnl []))∈g1:=by
  rw[hg1]
  refine Jy.2 ⟨_,hgp,?_⟩
  simp[Ne.symm hbb]
 clear hh hg1
 have q4':=q4
 have q2':=q2
 unfold E.d at q4'
 unfold ckC at q2'
 have hl3:hp.length<h1'.length:=by omega
 refine rn (Ja @q4' @hl3) ?_
 refine QaK hcg rfl ?_
 refine rn (Ja @q4' @hl3) ?_
 refine QjN rfl rfl rfl (Qx1 h1' _ kc bt bp bu 1 e [] q1 q2 hgp1) ?_
 rintro r h2' g2 ⟨rfl,⟨y,rfl⟩,rfl⟩
 rw[show pagedB 1 [] e=true by simp[pagedB,QlR,hpp]]
 refine rn trivial ?_
 refine VWpG.cond rfl (fun hZ=>?_) (fun hZ=>?_)
 ·cases hZ
 refine VWpG.plain (Ql c) ?_
 refine rn trivial ?_
 refine VWpG.weakG (QCY c (h1'++[y]) _ (h1'.length+1) hp.length kc bt bp bu 1 e _ (by simp; omega) ((Qbt hl3).trans q4) (by simp; omega) ((Qbt q1).trans q2) (Jy.2 ⟨_,hgt1,by simp[hbb]⟩) (hp.length+2) _ _ _ (by simp; omega) ((Qbt (by omega)).trans q5) hn (by omega) (by omega) hq) (WeakG.slots rfl rfl ?_)
 intro p hp
 simp only[JH,Jw,or_false] at hp
 rcases hp with rfl | rfl<;>exact .inl rfl
structure C07(hp0:Qa)(g0:MapsD) where
 i:Nat
 hi:i<=1
 hp:Qa
 g:MapsD
 h0:i=0->hp=hp0/\g=g0
def QuR(x:Lg)(hl:x.es.length=1)(hv:lgB x=true)(hf:x.f=1)(e:E)(hg:x.es.getD 0 E0=e)(hq:e.kind=1)(htx:e.tx≠0)(hpt:e.ptx<1)(hpp:e.ppg<1):VCalls prog 11 [.agg x.c] [] (Ret (.int .i64 0)):=by
 refine QgF (fn:=Tryz.f11) Tryz.func11 rfl (by kernel_rfl) (by simp[Tryz.f11]) (fun c=>?_)
 have hjv:=QdE x (by omega)
 rw[hv] at hjv
 unfold Lg.c at hjv
 refine VWpG.first (Ql c) ?_
 (unfold Tryz.f11; refine rn trivial ?_)
 refine VWpG.seq ?_
 refine VWpG.first (Ql c) ?_
 refine rn trivial ?_
 refine QaK hjv rfl ?_
 refine rn trivial ?_
 refine VWpG.cond rfl (fun hZ=>?_) (fun hZ=>?_)
 ·cases hZ
 refine VWpG.plain (Ql c) ?_
 refine rn trivial ?_
 refine VWpG.seq ?_
 refine VWpG.cut1 (Ql c) 2 [0,0] ?_
 refine rn trivial ?_
 refine QjM rfl (fun c=>by simp) (Qhx rfl rfl fun bt h1=>Qf9 ?_)
 refine rn trivial ?_
 refine QjM rfl (fun c=>by simp) (Qhx rfl rfl fun bp h2=>Qf9 ?_)
 refine rn trivial ?_
 refine QjM rfl (fun c=>by simp) (Qhx rfl rfl fun bu h3=>?_)
 refine rn trivial ?_
 refine VWpG.seq ?_
 refine VWpG.first (Ql c) ?_
 refine rn trivial ?_
 refine VWpG.block ?_
 have hbb:bt≠bp:=h2 (bt,[]) (by simp)
 generalize hG0:([(bu,[]),(bp,[]),(bt,[])]:MapsD)=g0
 generalize hH0:([⟨28,true,[.int .i64 x.f,.pv (.sl (fz Q5 x.es)),.int .i64 x.d]⟩,⟨83,true,[.int .i64 x.f,.pv (.lit (.map (some bt))),.pv (.lit (.map (some bp))),.pv (.lit (.map (some bu)))]⟩]:Qa)=hp0
 refine VWpG.loop (fun s:C07 hp0 g0=>⟨28,2,[(19,.int .i64 s.i),(18,.int .i64 (1:Nat)),(17,.pv (.sl (fz Q5 x.es))),(3,.ptr 1 0)],s.hp⟩) (fun s=>s.g) (fun s=>1-s.i) ⟨0,Jf _,hp0,g0,fun _=>⟨rfl,rfl⟩⟩ ?_ ?_
 ·refine WeakG.slots rfl rfl ?_
  intro p hp
  simp only[JH,Jw,or_false] at hp
  rcases hp with rfl | rfl | rfl | rfl<;>first | exact .inl rfl | (rw[<- hl]; exact .inl rfl)
 rintro⟨i,hi,hp,g,h0⟩
 dsimp only
 refine VWpG.first (Ql c) ?_
 refine rn trivial ?_
 refine VWpG.seq ?_
 rcases(show i=0\/i=1 by omega) with rfl | rfl
 ·obtain ⟨rfl,rfl⟩:=h0 rfl
  subst hG0 hH0
  have hgz:=QDY x.es 0 (by omega)
  rw[hg] at hgz
  refine VWpG.cond (t:=true) rfl (fun _=>?_) (fun h=>by cases h)
  refine VWpG.plain (Ql c) ?_
  refine rn trivial ?_
  refine VWpG.seq ?_
  refine VWpG.block ?_
  refine VWpG.first (Ql c) ?_
  refine rn @hgz ?_
  refine VWpG.seq ?_
  refine VWpG.cut1 (Ql c) 2 [] ?_
  refine rn trivial ?_
  refine QjN rfl rfl rfl (Qxc _ _ 1 bt bp bu hbb (by simp) (by rw[hf]; rfl) (by simp[QdQ]) (by simp[QdQ,Qnl]) e hq htx hpt hpp) ?_
  rintro r h' g' rfl
  refine rn trivial ?_
  refine VWpG.cond rfl (fun hZ=>?_) (fun hZ=>?_)
  ·cases hZ
  refine VWpG.plain (Ql c) ?_
  refine rn trivial ?_
  refine VWpG.plain (Ql c) ?_
  refine rn trivial ?_
  refine⟨⟨1,Jh _,h',g',fun h=>by cases h⟩,by dsimp only; omega,WeakG.slots rfl rfl ?_⟩
  intro p hp
  simp only[JH,Jw,or_false] at hp
  rcases hp with rfl | rfl | rfl | rfl<;>exact .inl rfl
 ·refine VWpG.cond (t:=false) rfl (fun h=>by cases h) (fun _=>?_)
  refine VWpG.plain (Ql c) ?_
  refine rn trivial ?_
  refine VWpG.plain (Ql c) ?_
  (refine rn trivial ?_; try with_reducible exact⟨⟩)
def Qqm(x:Lg)(hl:x.es.length<=100)(hv:lgB x=false):VCalls prog 11 [.agg x.c] [] (Ret (.int .i64 26)):=by
 refine QgF (fn:=Tryz.f11) Tryz.func11 rfl (by kernel_rfl) (by simp[Tryz.f11]) (fun c=>?_)
 have hjv:=QdE x (by omega)
 rw[hv] at hjv
 unfold Lg.c at hjv
 refine VWpG.first (Ql c) ?_
 (unfold Tryz.f11; refine rn trivial ?_)
 refine VWpG.seq ?_
 refine VWpG.first (Ql c) ?_
 refine rn trivial ?_
 refine QaK hjv rfl ?_
 refine rn trivial ?_
 refine VWpG.cond rfl (fun hZ=>?_) (fun hZ=>?_)
 ·refine VWpG.plain (Ql c) ?_
  (refine rn trivial ?_; try with_reducible exact⟨⟩)
 ·cases hZ
def Qu4:VCalls prog 5 [] [] (Ret (.bool true)):=by
 refine dd Tryz.func5 ?_
 have c1:=Qyk Lg1 (by decide) e07
 rw[show Qeg Lg1 e07=(QF0,1,0) from rfl] at c1
 have c2:=QuR QF0 rfl (by decide) rfl ⟨1,1,1,0,0,0,Ch0,[]⟩ rfl rfl (by decide) (by decide) (by decide)
 have c3:=Qqm QEA (by decide) (by decide)
 have c4:=QBd
 unfold Lg.c QEp at c1
 unfold Lg.c at c2 c3
 dsimp only[QF0,QEA,Lg.c] at c1 c2 c3
 obtain⟨es,hes⟩:∃ es:List E,es=[⟨1,1,1,0,0,0,Ch0,[]⟩]:=⟨_,rfl⟩
 obtain⟨es2,hes2⟩:∃ es2:List E,es2=[⟨1,1,1,0,1,0,Ch0,[]⟩]:=⟨_,rfl⟩
 rw[<- hes] at c1 c2
 rw[<- hes2] at c3
 have hl:es.length=1:=by rw[hes]; rfl
 have hl2:es2.length=1:=by rw[hes2]; rfl
 have hcl:(cells Q5 es).length=13:=by rw[hes]; rfl
 have hset:(cells Q5 es).set 4 (.pv (.lit (.int .i64 1)))=cells Q5 es2:=by rw[hes,hes2]; rfl
 clear hes hes2
 (unfold Tryz.f5; refine rn trivial ?_)
 have F:=(Ja @hl (Ja @hl2 (Ja @hcl @hset)))
 refine rn F ?_
 repeat' (first
  | with_reducible exact⟨⟩
  | refine vp F (c4) ?_
  | refine vp F (c1) ?_
  | refine vp F (c2) ?_
  | refine vl F (c3) ?_)
end
def Qr2(a b:List E)(i:Nat):Bool:=eqE (a.getD i E0) (b.getD i E0)
def Qwd(a b:List E):Bool:=decide (a.length=b.length)&&(JD a.length).all (Qr2 a b)
def QxP(x:E):eqE x x=true:=by simp[eqE]
def Qfh(a:List E):Qwd a a=true:=by
 unfold Qwd
 rw[decide_eq_true rfl,Bool.true_and,Ju]
 exact fun i _=>QxP _
def QjB(a b:List E)(ha:a.length<=1000000):VCalls prog 15 [.pv (.sl (fz Q5 a)),.pv (.sl (fz Q5 b))] [] (Ret (.bool (Qwd a b))):=by
 refine dd Tryz.func15 ?_
 have hB:Qwd a b=(decide (a.length=b.length)&&(JD a.length).all (Qr2 a b)):=rfl
 (unfold Tryz.f15; refine rn trivial ?_)
 by_cases h:a.length=b.length
 rotate_left
 ·have h':¬ (a.length:Int) = b.length:=by omega
  have F:=@h'
  refine rn F ?_
  rw[hB,decide_eq_false h]; rfl
 have h':(a.length:Int)=b.length:=by omega
 have F:=@h'
 refine rn F ?_
 refine Qi (fun s:Okay a.length (Qr2 a b)=>⟨26,0,[(5,.int .i64 s.i),(1,.pv (.sl (fz Q5 b))),(0,.pv (.sl (fz Q5 a)))],[]⟩) (fun s=>a.length-s.i) (Okay.start _ _) (gc []) ?_
 intro s
 have hsi:=s.hi
 have hg:=fun h:s.i<a.length=>QeR a s.i h
 have hg2:=fun h:s.i<b.length=>QeR b s.i h
 have F:=(Ja @hg @hg2)
 refine rn F ?_
 repeat' (first
  | with_reducible exact⟨⟩
  | (refine sB F ?_ ?_<;>intro hZ)
  | (refine Qc (id:=6) [0,1,2,3,4,5,6,7,8] [] (by kernel_rfl) (by kernel_rfl) ?_; refine rn F ?_))
 ·rw [hB,Qax (i:=s.i) (by omega) (Jm.2 fun hq=>by
  unfold Qr2 eqE at hq
  simp only[Jb,beq_iff_eq] at hq
  obtain⟨q1,q2,q3,q4,q5,q6,q7,q8,q9,q10,q11,q12,q13⟩:=hq
  exact absurd (hZ q1 q2 q3 q4 q5 q6 q7 q8 q9 q10 q11 q12 q13) (by simp)),Bool.and_false]
 ·exact⟨s.next (by omega) (by unfold Qr2 eqE; simp_all),by show a.length-(s.i+1)<a.length-s.i; omega,(gc [])⟩
 ·rw[hB,s.all (by omega),decide_eq_true h]; rfl
section
set_option pp.deepTerms true
set_option pp.deepTerms.threshold 100000
set_option pp.maxSteps 1000000
set_option pp.proofs false
attribute [local go_sem] cb cc Lg.c Ce.d Ch.d E.d QhO Qi6 Qiz Qix QiS Qdi
def QoF(hb:Qg hp b=some (cells Q5 out))(hn:n<=b):frz n hp (.own b 13 0 out.length)=some (.pv (.sl (fz Q5 out))):=by
 rw[Qt2]
 show(if b<n then _ else (QlU n hp 4 (.own b 13 0 out.length)).map DV.pv)=_
 rw[if_neg (by omega),QoG,if_neg (by omega),hb]
 exact congrArg (Option.map DV.pv) (QZ Q5 rfl)
def wkT(b n i:Nat)(out:List E):DV:=if i<n then .own b 13 0 out.length else .pv (.sl (fz Q5 out))
def wkH(hp:Qa)(n i:Nat)(out:List E):Qa:=if i<n then hp++[⟨57,true,cells Q5 out⟩] else hp
structure JWk(n:Nat) where
 i:Nat
 hi:i<=n
 c:C
def QuP(l:List UInt8)(hl:l.length<=9223372036854775807):VCalls prog 4 [.pv (.sl (fz Qfs l))] [] (Ret (.bool true)):=by
 refine dd Tryz.func4 ?_
 have c0:=Qu4
 (unfold Tryz.f4; refine rn trivial ?_)
 refine rn F ?_
 repeat' (first
  | with_reducible exact⟨⟩
  | refine vp F (c0) ?_)
 refine QzO (most:=400) (by omega) (by omega) hl fun c=>?_
 refine rn trivial ?_
 refine QaL (k:=0) (c:=c) (QtC c 40 (by omega)) rfl rfl ?_
 rintro _ c1 ⟨k,rfl,hk,hK,-⟩
 have hxl:k.lg.es.length<=4096:=hk.1
 have hv:=hK.lg
 have hf:=hK.f
 have hlog:=hK.log
 clear hK
 generalize hkx:k.lg=x at *
 have hh1:=Qx6 x (by omega)
 have hhl:(QfN x).length=64:=by rw[QfN,if_pos hv]; exact Qfn _ _
 have hhg:=Qxx hv
 have hpa:=Qw3 hv hf hlog
 have hpp:=Qtd hv hf hlog
 have hta:=QCU hv hf hlog
 generalize QfN x=H at *
 have F:=(Ja @hkx @hhl)
 refine rn F ?_
 repeat' (first
  | with_reducible exact⟨⟩
  | refine vp F (hh1) ?_)
 refine Qi (fun s:JWk 4=>⟨170,0,[(6,.int .i64 s.i),(5,.pv (.sl (fz QW H))),(4,.ptr 1 0),(3,.ptr 0 0)],[cb s.c,⟨28,true,x.c⟩]⟩) (fun s=>4-s.i) ⟨0,Jf _,c1⟩ (gc [0,1]) ?_
 rintro⟨p,hp,c2⟩
 dsimp only
 by_cases hpc:p<4
 rotate_left
 ·have hpc':¬ (p:Int) < 4:=by omega
  have F:=@hpc'
  refine rn F ?_
  refine Qi (fun s:To 6=>⟨170,0,[(14,.int .i64 ((s.i:Int)+1)),(4,.ptr 0 0)],[⟨28,true,x.c⟩]⟩) (fun s=>6-s.i) ⟨0,Jf _⟩ (gc [1]) ?_
  rintro⟨a,ha⟩
  dsimp only
  by_cases hac:a<6
  rotate_left
  ·have hac':¬ (a:Int) + 1<=6:=by omega
   have F:=@hac'
   (refine rn F ?_; try with_reducible exact⟨⟩)
  have hac':(a:Int)+1<=6:=by omega
  have F:=@hac'
  refine rn F ?_
  refine VLoop.nilOwn 15 57 13 rfl ?_
  have hta:=hta (a+1) (by omega)
  have htc:((a+1:Nat):Int)=(a:Int)+1:=by omega
  rw[htc] at hta
  have hwk:∀ (i:Nat) (hi:i<=x.es.length) (S:St),QoZ S ⟨170,0,[(16,.int .i64 i),(15,.own 1 13 0 ((x.es.take i).filter (ofT ((a:Int)+1))).length),(14,.int .i64 ((a:Int)+1)),(4,.ptr 0 0)],[⟨28,true,x.c⟩,⟨57,true,cells Q5 ((x.es.take i).filter (ofT ((a:Int)+1)))⟩]⟩ ->
   QqE S ⟨170,0,[(16,.int .i64 i),(15,wkT 1 x.es.length i ((x.es.take i).filter (ofT ((a:Int)+1)))),(14,.int .i64 ((a:Int)+1)),(4,.ptr 0 0)],wkH [⟨28,true,x.c⟩] x.es.length i ((x.es.take i).filter (ofT ((a:Int)+1)))⟩:=fun i hi S h=>by
   unfold wkT wkH
   by_cases hc:i<x.es.length
   ·rw [if_pos hc,if_pos hc]
    exact .inl h
   ·rw [if_neg hc,if_neg hc]
    exact .inr ⟨1,_,h,⟨rfl,rfl,Jf _,by simp,rfl,⟨rfl,QoF rfl (Jh _),rfl,rfl,trivial⟩⟩⟩
  refine Qrj (fun s:To x.es.length=>⟨170,0,[(16,.int .i64 s.i),(15,wkT 1 x.es.length s.i ((x.es.take s.i).filter (ofT ((a:Int)+1)))),(14,.int .i64 ((a:Int)+1)),(4,.ptr 0 0)],wkH [⟨28,true,x.c⟩] x.es.length s.i ((x.es.take s.i).filter (ofT ((a:Int)+1)))⟩) (fun s=>x.es.length-s.i) ⟨0,Jf _⟩ (hwk 0 (Jf _) _ (gc [0,1])) ?_
  rintro⟨i,hi⟩
  dsimp only
  by_cases hc:i<x.es.length
  ·have hc':(i:Int) < x.es.length:=by omega
   have hg:=QeR x.es i hc
   have hti:=Qgc hc (ofT ((a:Int)+1))
   have hlo:((x.es.take i).filter (ofT ((a:Int)+1))).length<=4096:=JC (Jj _ _) (by rw[JN]; omega)
   unfold wkT wkH
   rw[if_pos hc,if_pos hc]
   have hst:=fun S h=>hwk (i+1) hc S h
   generalize (x.es.take i).filter (ofT ((a:Int)+1))=out at *
   generalize x.es.getD i E0=e at *
   have hcl:(cells Q5 out).length=out.length*13:=QV _ _
   by_cases htx:e.tx=(a:Int)+1
   ·have hti':(x.es.take (i + 1)).filter (ofT ((a:Int) + 1)) = out ++ [e]:=by rw [hti,if_pos (show ofT _ e = true from decide_eq_true htx)]
    rw[hti'] at hst
    have hb:(out.length+1)*128<=140737488355328:=by omega
    have F:=(Ja @hc' (Ja @hg (Ja (eq_true htx) (Ja @hb @hcl))))
    refine rn F ?_
    refine⟨⟨i+1,hc⟩,by dsimp only; omega,?_⟩
    dsimp only
    rw[hti']
    rw[Jl] at hst
    exact hst _ (gc [0,3])
   ·have hti':(x.es.take (i + 1)).filter (ofT ((a:Int) + 1)) = out:=by rw [hti,if_neg (by unfold ofT; simpa using htx),Jc]
    rw[hti'] at hst
    have F:=(Ja @hc' (Ja @hg @htx))
    refine rn F ?_
    refine⟨⟨i+1,hc⟩,by dsimp only; omega,?_⟩
    dsimp only
    rw[hti']
    exact hst _ (gc [0,1])
  ·have hc':¬ (i:Int) < x.es.length:=by omega
   obtain rfl:i=x.es.length:=by omega
   unfold wkT wkH
   rw[if_neg hc,if_neg hc,Ji]
   clear hwk
   have hWl:(x.es.filter (ofT ((a:Int)+1))).length<=4096:=JC (Jj _ _) hxl
   have hWm:∀ e∈x.es.filter (ofT ((a:Int)+1)),e.lsn<=1099511627776:=fun e he=>by
    have:=(Qhi hv hf (JO.1 he).1).2.1
    have hd:=Q9 hv
    simp only[Lg.hd] at hd
    unfold Lg.end_ at this
    omega
   generalize x.es.filter (ofT ((a:Int)+1))=W at *
   have q3:=QjB W W (by omega)
   rw[Qfh] at q3
   by_cases hW:0<W.length
   ·have hgu:=QeR W (W.length - 1) (by omega)
    have hle:=hWm (W.getD (W.length-1) E0) (by rw[Qd _ _ (by omega)]; exact Jv _)
    rw[if_pos hW] at hta
    have q1:=QEa x (by omega) (W.getD (W.length-1) E0).lsn (by omega)
    rw[hta] at q1
    generalize W.getD (W.length-1) E0=e at *
    have hsub:((W.length:Int)-1).toNat=W.length-1:=by omega
    have F:=(Ja @hc' (Ja @hW (Ja @hsub @hgu)))
    refine rn F ?_
    repeat' (first
     | with_reducible exact⟨⟩
     | refine vp F (q1) ?_
     | refine vp F (q3) ?_)
    refine⟨⟨a+1,by omega⟩,by dsimp only; omega,?_⟩
    dsimp only
    rw[htc]
    exact(gc [0])
   ·rw [if_neg hW] at hta
    have q1:=QEa x (by omega) 0 (by omega)
    rw[hta] at q1
    have F:=(Ja @hc' @hW)
    refine rn F ?_
    repeat' (first
     | with_reducible exact⟨⟩
     | refine vp F (q1) ?_
     | refine vp F (q3) ?_)
    refine⟨⟨a+1,by omega⟩,by dsimp only; omega,?_⟩
    dsimp only
    rw[htc]
    exact(gc [0])
 have hpc':(p:Int)<4:=by omega
 have F:=@hpc'
 refine rn F ?_
 refine VLoop.nilOwn 7 57 13 rfl ?_
 have hwk:∀ (i:Nat) (hi:i<=x.es.length) (S:St),QoZ S ⟨170,0,[(8,.int .i64 i),(7,.own 2 13 0 ((x.es.take i).filter (ofP p)).length),(6,.int .i64 p),(5,.pv (.sl (fz QW H))),(4,.ptr 1 0),(3,.ptr 0 0)],[cb c2,⟨28,true,x.c⟩,⟨57,true,cells Q5 ((x.es.take i).filter (ofP p))⟩]⟩ ->
  QqE S ⟨170,0,[(8,.int .i64 i),(7,wkT 2 x.es.length i ((x.es.take i).filter (ofP p))),(6,.int .i64 p),(5,.pv (.sl (fz QW H))),(4,.ptr 1 0),(3,.ptr 0 0)],wkH [cb c2,⟨28,true,x.c⟩] x.es.length i ((x.es.take i).filter (ofP p))⟩:=fun i hi S h=>by
  unfold wkT wkH
  by_cases hc:i<x.es.length
  ·rw [if_pos hc,if_pos hc]
   exact .inl h
  ·rw [if_neg hc,if_neg hc]
   exact .inr ⟨2,_,h,⟨rfl,rfl,Jf _,by simp,rfl,⟨rfl,QoF rfl (Jh _),rfl,rfl,rfl,rfl,trivial⟩⟩⟩
 refine Qrj (fun s:To x.es.length=>⟨170,0,[(8,.int .i64 s.i),(7,wkT 2 x.es.length s.i ((x.es.take s.i).filter (ofP p))),(6,.int .i64 p),(5,.pv (.sl (fz QW H))),(4,.ptr 1 0),(3,.ptr 0 0)],wkH [cb c2,⟨28,true,x.c⟩] x.es.length s.i ((x.es.take s.i).filter (ofP p))⟩) (fun s=>x.es.length-s.i) ⟨0,Jf _⟩ (hwk 0 (Jf _) _ (gc [0,1,2])) ?_
 rintro⟨i,hi⟩
 dsimp only
 by_cases hc:i<x.es.length
 ·have hc':(i:Int) < x.es.length:=by omega
  have hg:=QeR x.es i hc
  have hti:=Qgc hc (ofP p)
  have hlo:((x.es.take i).filter (ofP p)).length<=4096:=JC (Jj _ _) (by rw[JN]; omega)
  unfold wkT wkH
  rw[if_pos hc,if_pos hc]
  have hst:=fun S h=>hwk (i+1) hc S h
  generalize (x.es.take i).filter (ofP p)=out at *
  generalize x.es.getD i E0=e at *
  have hch:VCalls prog 13 [.agg e.d] [] (Ret (.bool (QdV e))):=QbG e
  unfold E.d at hch
  have hof:ofP p e=(QdV e&&decide (e.c.pg=p)):=rfl
  have hcl:(cells Q5 out).length=out.length*13:=QV _ _
  cases hce:QdV e
  ·have hti':(x.es.take (i + 1)).filter (ofP p) = out:=by rw [hti,if_neg (by rw [hof,hce]; simp),Jc]
   rw[hce] at hch
   rw[hti'] at hst
   have F:=(Ja @hc' @hg)
   refine rn F ?_
   repeat' (first
    | with_reducible exact⟨⟩
    | refine vp F (hch) ?_)
   refine⟨⟨i+1,hc⟩,by dsimp only; omega,?_⟩
   dsimp only
   rw[hti']
   exact hst _ (gc [0,1,2])
  ·rw [hce] at hch
   by_cases hpg:e.c.pg=p
   ·have hti':(x.es.take (i + 1)).filter (ofP p) = out ++ [e]:=by rw [hti,if_pos (by rw [hof,hce,hpg]; simp)]
    rw[hti'] at hst
    have hb:(out.length+1)*128<=140737488355328:=by omega
    have F:=(Ja @hc' (Ja @hg (Ja (eq_true hpg) (Ja @hb @hcl))))
    refine rn F ?_
    repeat' (first
     | with_reducible exact⟨⟩
     | refine vp F (hch) ?_)
    refine⟨⟨i+1,hc⟩,by dsimp only; omega,?_⟩
    dsimp only
    rw[hti']
    rw[Jl] at hst
    exact hst _ (gc [0,1,4])
   ·have hti':(x.es.take (i + 1)).filter (ofP p) = out:=by rw [hti,if_neg (by rw [hof,hce]; simpa using hpg),Jc]
    rw[hti'] at hst
    have F:=(Ja @hc' (Ja @hg @hpg))
    refine rn F ?_
    repeat' (first
     | with_reducible exact⟨⟩
     | refine vp F (hch) ?_)
    refine⟨⟨i+1,hc⟩,by dsimp only; omega,?_⟩
    dsimp only
    rw[hti']
    exact hst _ (gc [0,1,2])
 ·have hc':¬ (i:Int) < x.es.length:=by omega
  obtain rfl:i=x.es.length:=by omega
  unfold wkT wkH
  rw[if_neg hc,if_neg hc,Ji]
  clear hwk
  have hWl:(x.es.filter (ofP p)).length<=4096:=JC (Jj _ _) hxl
  have hgp:=QY H p (by omega)
  have hb:=Qgo hv hf p x.es.length (Jh _)
  rw[Ji] at hb
  rw[hhg p (by omega)] at hgp
  have q1:=QuH x (by omega) p (Qap x.es p) 0 (by omega)
  have q2:=fun a=>QuH x (by omega) p (Qap x.es p) a (by omega)
  rw[hpa p (by omega)] at q1
  have hpp:=hpp p (by omega)
  generalize x.es.filter (ofP p)=W at *
  have q3:=QjB W W (by omega)
  rw[Qfh] at q3
  generalize Qap x.es p=hd at *
  have F:=(Ja @hc' (Ja @hgp @hhl))
  refine rn F ?_
  repeat' (first
   | with_reducible exact⟨⟩
   | (refine sB F ?_ ?_<;>intro hZ)
   | refine vp F (q1) ?_
   | refine vp F (q3) ?_
   | (refine Qc (id:=17) [0,1,2,3,4,5] [⟨[],[],6,[2,3,4],[7,8,9]⟩,⟨[],[],10,[9],[]⟩,⟨[],[],11,[],[]⟩] (by kernel_rfl) (by kernel_rfl) ?_; refine rn F ?_))
  rotate_left
  ·exact⟨⟨p+1,by omega,c2⟩,by dsimp only; omega,(gc [0,1])⟩
  have hWp:0<W.length:=by omega
  refine QaL (k:=0) (c:=c2) (QaB c2 W.length (by omega) (by omega)) rfl rfl ?_
  rintro _ c3 ⟨u,rfl,hu⟩
  have hgu:=QeR W u hu
  have q4:=q2 (W.getD u E0).lsn
  rw[hpp u hu] at q4
  have q5:=QjB (W.drop (u+1)) (W.drop (u+1)) (by rw[List.length_drop]; omega)
  rw[Qfh] at q5
  generalize (W.getD u E0)=e at *
  have F:=(Ja @hgp (Ja @hhl (Ja @hgu @hu)))
  refine rn F ?_
  repeat' (first
   | with_reducible exact⟨⟩
   | refine vp F (q4) ?_
   | refine vp F (q5) ?_
   | (refine Qc (id:=22) [0,1,2,3,4,5,6,7,8,9,10] [⟨[],[],11,[2,3,4,6,7,8,9],[12,13,14]⟩,⟨[],[],15,[14],[]⟩,⟨[],[],16,[],[]⟩] (by kernel_rfl) (by kernel_rfl) ?_; refine rn F ?_))
  exact⟨⟨p+1,by omega,c3⟩,by dsimp only; omega,(gc [0,1])⟩
end
end Go.Proofs.YtdnbdbgdfocpgaaGreat
