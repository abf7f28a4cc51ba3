/-
  Contracts of functions and plain laws. No condition.
-/
import Derived.Test.YtepdccfgnafgcaaGreatP3
import Derived.Test.YtepdccfgnafgcaaGreatP1
set_option linter.unusedSimpArgs false
set_option linter.unusedVariables false
set_option linter.defProp false
set_option maxRecDepth 100000
set_option maxHeartbeats 8000000
set_option autoImplicit true
set_option relaxedAutoImplicit true
open And renaming intro->Je
open Bool renaming and_eq_true->Jz,or_eq_true->JC
open Int renaming le_refl->JG
open List renaming getD_eq_getElem?_getD->Ja,mem_filter->Jb,mem_iff_getElem->Jc,mem_singleton->Jd,take_succ_eq_append_getElem->Jf,mem_append->Jg,mem_map->Jh,length_map->Jj,getElem?_eq_getElem->Jk,getElem_take->Jl,replicate->Jn,length_singleton->Jo,length_take->Jp,length_cons->Jq,filter_cons->Jr,mem_of_mem_take->Js,countP_eq_length_filter->Jt,getElem?_append_right->Ju,length_append->Jv,filter_cons_of_pos->Jw,length_drop->JA,length_replicate->JB,length_set->JD,mem_append_left->JE,mem_cons_of_mem->JF,getElem?_map->JH,take_length->JJ,getElem_mem->JK,filter_nil->JL,mem_range->JM
open Nat renaming zero_le->Ji,le_refl->Jm,add_sub_cancel_left->Jy,le_trans->JI
namespace Go.Proofs.YtepdccfgnafgcaaGreat
open Go.V Go
open Tryz (prog)
def Qv8(hc:CkV c)(hd:CkV d)(h:QaC c=QaC d):c.nx=d.nx:=by
 have h1:=(QkS hc).1.2.2.1
 have h2:=(QkS hd).1.2.2.1
 rw[h,h2] at h1
 exact h1.symm
def Cor.ckE(h:Cor es pg nx tx ix L)(h1:e.tx=0)(h2:e.kind=6)(hn:0<nx)(ht:Qbm tx=true):Cor (es++[e]) pg nx tx ix L:=
 ⟨h.pgr,fun x hx=>by
  rcases Jg.1 hx with hx | hx
  ·exact h.ids x hx
  ·rw[Jd.1 hx,h1]; exact hn,fun t q=>(h.ok t q).other (by have:=QmB ht q; omega),fun x hx h0=>by
  rcases Jg.1 hx with hx | hx
  ·exact(h.all x hx h0).imp id fun q=>(Qc4 _ _ _).2 (.inl q)
  ·rw[Jd.1 hx] at h0; omega,h.len,fun p hp=>by
  rw[Qa4 _ _ _ fun q=>by omega]; exact h.row p hp,fun p n q=>by
  rw[Qa4 _ _ _ fun q=>by omega]; exact h.la p n q,h.lt,fun x hx h7=>by
  rcases Jg.1 hx with hx | hx
  ·exact h.w7 x hx h7
  ·rw[Jd.1 hx] at h7; omega⟩
def Cor.zero(h1:1<=pg/\pg<=64)(L:Int->Int->Prop)(hL:∀ p n,¬ L p n):Cor [] pg nx [] (Jn pg.toNat Rw0) L:=
 ⟨h1,fun e h=>by simp at h,fun t h=>by simp at h,fun x h=>by simp at h,by rw [JB]; omega,fun p hp=>by
  have:(Jn pg.toNat Rw0).getD p Rw0=Rw0:=by
   rw[Ja,List.getElem?_replicate]; split<;>rfl
  rw[this]
  exact⟨JG _,fun _=>rfl⟩,fun p n h=>absurd h (hL p n),fun p n h=>absurd h (hL p n),fun e h=>by simp at h⟩
def Qy3(h1:1<=n)(h2:n<=64):KI (Qpj n m):=
 ⟨QCB,rfl,LogOk.nil,Cor.zero ⟨h1,h2⟩ _ fun p n h=>by rcases h with⟨d,q,_⟩ | ⟨f,q,_⟩<;>simp[Qpj] at q,fun f q=>by simp[Qpj] at q⟩
def CkN(b:Int)(es:List E):Prop:=∀ e∈es,e.kind=6->∀ c,CkV c->e.blob=QaC c->c.nx<=b
def NoteR.cor(h:NoteR a e b)(hc:Cor es a.pg a.nx a.lo a.ix (LD a.la))(he:EnOk es e)(hlt:∀ x∈es,x.lsn<e.lsn):Cor (es++[e]) b.pg b.nx b.lo b.ix (LD b.la):=by
 obtain⟨h1,h2,h3,h4,h5,h6,h7,h8⟩:=h
 rw[h1,h3,h6]
 have h1':∀ p n,LD b.la p n->((e.kind=1\/e.kind=2)/\p=e.c.pg/\n=e.lsn)\/(LD a.la p n/\((e.kind=1\/e.kind=2)->p≠e.c.pg)):=fun p n q=>by
  by_cases hk:(e.kind=1\/e.kind=2)\/e.kind=7
  ·have D:=h8.2 hk
   obtain⟨d,d1,d2,d3⟩:=q
   rcases D.ha d d1 with⟨q1,q2⟩ | ⟨q1,q2,q3⟩ | ⟨q1,q2,z,q3,q4,q5,q6⟩
   ·exact .inr ⟨⟨d,q1,d2,d3⟩,fun _=>by rw[<- d2]; exact q2⟩
   ·exact .inl ⟨by simpa using q2,by omega,by omega⟩
   ·exact .inr ⟨⟨z,q3,by omega,by omega⟩,fun h=>by
    have:(e.kind==1||e.kind==2)=true:=by simpa using h
    rw[this] at q2; cases q2⟩
  ·rw [h8.1 (fun h=>hk (.inl h)) (fun h=>hk (.inr h))] at q
   exact .inr ⟨q,fun h=>absurd (.inl h) hk⟩
 have h2':∀ p,(∀ n,¬ LD b.la p n)->((∀ n,¬ LD a.la p n)\/(e.kind=7/\p=e.c.pg))/\((e.kind=1\/e.kind=2)->p≠e.c.pg):=fun p q=>by
  by_cases hk:(e.kind=1\/e.kind=2)\/e.kind=7
  ·have D:=h8.2 hk
   refine⟨?_,fun h hp=>?_⟩
   ·by_cases hp:p = e.c.pg
    ·by_cases h7':e.kind = 7
     ·exact .inr ⟨h7',hp⟩
     ·have hc1:e.kind = 1\/e.kind = 2:=hk.resolve_right h7'
      obtain⟨y,y1,y2⟩:=D.hc rfl (by simpa using hc1)
      exact absurd ⟨y,y1,by omega,rfl⟩ (q y.last)
    ·refine .inl fun n ⟨d,d1,d2,d3⟩=>q n ⟨d,?_,d2,d3⟩
     exact D.hb d (by rw[JJ]; exact d1) (by omega)
   ·obtain ⟨y,y1,y2⟩:=D.hc rfl (by simpa using h)
    exact q y.last ⟨y,y1,by omega,rfl⟩
  ·rw [h8.1 (fun h=>hk (.inl h)) (fun h=>hk (.inr h))] at q
   exact⟨.inl q,fun h=>absurd (.inl h) hk⟩
 have h3':e.kind=7->∀ n,¬ LD b.la e.c.pg n:=fun h7' n ⟨d,d1,d2,d3⟩=>by
  have D:=h8.2 (.inr h7')
  rcases D.ha d d1 with⟨q1,q2⟩ | ⟨q1,q2,q3⟩ | ⟨q1,q2,z,q3,q4,q5,q6⟩
  ·exact q2 d2
  ·have:e.kind = 1\/e.kind = 2:=by simpa using q2
   omega
  ·have:=hc.la e.c.pg z.last ⟨z,q3,q4,rfl⟩
   have:=he.ix h7'
   omega
 have hn:a.nx<=max a.nx (e.tx+1):=by omega
 rcases h4 with⟨q1,q2,q3⟩ | ⟨q1,q0,q2,q3⟩
 ·have hl1:=(QrS (QcV q2).2)
  have hls:=QrT (QcV q2).2
  rw[q3]
  exact hc.add he.ix hlt (by omega) q2 h5 hn (by omega) h1' h2' h3'
 ·have hls:=QrT (QcV q2).2
  rw[q3]
  have hfr:∀ x∈es,x.tx≠e.tx:=fun x hx hxe=>by
   rcases hc.all x hx (by omega) with⟨t,t1,t2⟩ | q
   ·have:=(QiZ (l:=a.lo) (a:=e.tx)).2 (Jh.2 ⟨t,t1,by omega⟩)
    omega
   ·rw[hxe] at q; exact he.ne q1.1 q
  exact(hc.beginT (JG _) q0 hfr).add he.ix hlt (by omega) q2 h5 hn (by omega) h1' h2' h3'
def AnC.cor (h:AnC x n i a) (hv:lgB x = true) (hf:x.f = 1) (hlog:LogOk x.es) (hb1:1<=b) (hb2:∀ e ∈ x.es,e.tx < b) (hb3:CkN b x.es) (hn:1<=n/\n<=64):
 a.pg=n/\a.nx<=b/\∃ m:Nat,a.cp=m/\m<=x.es.length/\Cor (x.es.take (max i m)) n a.nx a.lo a.ix (LD a.la):=by
 induction h with
 | @init a h =>
   obtain⟨h1,h2⟩:=h
   refine⟨h1,?_⟩
   rcases h2 with⟨_,q2,q3,q4,q5,q6⟩ | ⟨i0,l1,l2,l3,l4,l5⟩
   ·refine ⟨by omega,0,by omega,Ji _,?_⟩
    rw[Nat.max_self,List.take_zero,q4,q6]
    exact Cor.zero hn _ fun p m ⟨d,q,_⟩=>by rw[q5] at q; simp at q
   ·have hat:=QbI hv l1
    have hm:x.es.getD i0 E0∈x.es:=by rw[Qd _ _ l1]; exact JK l1
    rcases(hlog i0 l1).ck l2 with q | ⟨c,c1,c2,c3⟩
    ·exact absurd q l4
    obtain⟨g1,g2,g3,g4,g5⟩:=l5 c c1 c2
    have hnx:=hb3 _ hm l2 c c1 c2
    refine⟨by omega,i0+1,by rw[l3,hat.1,hf]; omega,l1,?_⟩
    rw[Nat.max_eq_right (Ji _),Jf l1,<- Qd _ _ l1 E0,g2,g3,g4,g5,<- g1]
    refine c3.ckE ?_ l2 (by have:=c1.2.1; omega) c1.2.2.1
    by_cases h:(x.es.getD i0 E0).tx=0
    ·exact h
    ·have:=Qeg hat.2 h; omega
 | @skip i a h hi hl ih =>
   obtain⟨h1,h2,m,h3,h4,h5⟩:=ih
   have hat:=(QbI hv hi).1
   refine⟨h1,h2,m,h3,h4,?_⟩
   rw[show max (i+1) m=max i m by omega]
   exact h5
 | @note i a b' h hi hl hr ih =>
   obtain⟨h1,h2,m,h3,h4,h5⟩:=ih
   have hat:=(QbI hv hi).1
   obtain⟨r1,r2,r3,_⟩:=id hr
   have hm:x.es.getD i E0∈x.es:=by rw[Qd _ _ hi]; exact JK hi
   have:=hb2 _ hm
   refine⟨by omega,by omega,m,by omega,h4,?_⟩
   rw[show max i m=i by omega,<- h1] at h5
   rw[show max (i+1) m=i+1 by omega,Jf hi,<- Qd _ _ hi E0]
   have hc:=hr.cor h5 (hlog i hi) fun y hy=>by
    obtain⟨j,hj,rfl⟩:=Jc.1 hy
    rw[Jp] at hj
    rw[Jl]
    have:=(QbI hv (i:=j) (by omega)).1
    rw[Qd _ _ (by omega)] at this
    omega
   rw[r1,h1] at hc
   exact hc
def QCz(hv:lgB x=true)(hf:x.f=1)(hlog:LogOk x.es)(hfs:(adK x (loF a lk) m).pl.fs=[])(hc:Cor x.es a.pg a.nx a.lo a.ix (LD a.la)):KI (adK x (loF a lk) m):=by
 have hL:∀ p n,LkK (adK x (loF a lk) m) p n ↔ LD a.la p n:=fun p n=>by
  unfold LkK
  rw[hfs]
  constructor
  ·rintro (h | ⟨f,h,_⟩)
   ·exact h
   ·simp at h
  ·intro h; exact .inl h
 have hc2:=hc.weak (JG _) (L':=LkK (adK x (loF a lk) m)) (fun p n q=>(hL p n).1 q) fun p q n h=>q n ((hL p n).2 h)
 refine⟨hv,hf,hlog,hc2.same (JG _) (fun t q=>hc.ok t (Jb.1 q).1) fun y hy h0 ⟨t,q1,q2⟩=>⟨t,Jb.2 ⟨q1,?_⟩,q2⟩,fun f q=>by rw[hfs] at q; simp at q⟩
 have:=Qky x.es (a:=t.id) (fun z hz=>(QiV hv hf hz).1) ⟨y,hy,q2.symm⟩
 have:=(hc.ok t q1).n
 simp
 omega
def CkN.snoc(h:CkN b es)(he:e.kind=6->∀ c,CkV c->e.blob=QaC c->c.nx<=b):CkN b (es++[e]):=fun x hx=>by
 rcases Jg.1 hx with hx | hx
 ·exact h x hx
 ·rw[Jd.1 hx]; exact he
def CkN.mono(h:CkN b es)(hb:b<=b'):CkN b' es:=fun e he h6 c hc hq=>Int.le_trans (h e he h6 c hc hq) hb
def c16(e:E):Bool:=decide (e.kind=1)||decide (e.kind=6)
structure CI(m:Nat)(k:Kn):Prop where
 nx:k.nx<=1+m
 ck:CkN (1+m) k.lg.es
 n16:(k.lg.es.filter c16).length<=m
 no8:∀ e∈k.lg.es,e.kind≠8
def CI.mono(h:CI m k)(hm:m<=m'):CI m' k:=⟨by have:=h.nx; omega,h.ck.mono (by omega),JI h.n16 hm,h.no8⟩
def CI.app(h:CI m k)(ha:AddOk k e e')(h1:k'.nx=k.nx)(h2:k'.lg.es=k.lg.es++[e'])(h6:e'.kind=6->∀ c,CkV c->e'.blob=QaC c->c.nx<=1+(m+n:Nat))(hn:e.kind=1\/e.kind=6->1<=n)(h8:e.kind≠8):CI (m+n) k':=by
 have s:=ha.2.1.1
 refine⟨by rw[h1]; have:=h.nx; omega,by rw[h2]; exact(h.ck.mono (by omega)).snoc h6,?_,fun x hx=>?_⟩
 ·rw [h2,List.filter_append,Jv]
  have:=h.n16
  by_cases hc:c16 e'=true
  ·have hk:e.kind = 1\/e.kind = 6:=by unfold c16 at hc; rw [s] at hc; simpa using hc
   have:=hn hk
   rw[Jw hc,JL,Jo]
   omega
  ·rw [List.filter_cons_of_neg hc,JL,List.length_nil]
   omega
 ·rw [h2] at hx
  rcases Jg.1 hx with hx | hx
  ·exact h.no8 x hx
  ·rw[Jd.1 hx,s]; exact h8
def CI.add(h:CI m k)(ha:AddOk k e e')(h1:k'.nx=k.nx)(h2:k'.lg.es=k.lg.es++[e'])(hk:e.kind=2\/e.kind=3\/e.kind=4\/e.kind=5\/e.kind=7):CI m k':=
 h.app (n:=0) ha h1 h2 (fun q=>by have:=ha.2.1.1; omega) (fun q=>by omega) (by omega)
def Stp.ci (h:Stp n k k') (hc:CI m k):CI (m + n) k':=by
 cases h with
 | begin v hb=>exact⟨by have:=hc.nx; show k.nx+1<=_; omega,hc.ck.mono (by omega),Nat.le_succ_of_le hc.n16,hc.no8⟩
 | fin ha h3 hf=>exact hc.add ha rfl rfl (by omega)
 | ckpt ha h6 hk =>
   refine hc.app ha rfl rfl (fun _ c c1 c2=>?_) (fun _=>Jm _) (by omega)
   rw[ha.2.1.2.2.2.2] at c2
   rcases hk with q | ⟨c0,q1,q2,q3⟩
   ·have:=(QkS c1).1.1
    rw[<- c2,q] at this
    simp at this
   ·have:=Qv8 c1 q2 (c2.symm.trans q3)
    rw[this,q1.nx]
    have:=hc.nx
    omega
 | @change _ e e' ha h1 hs hu=>exact hc.app (k':=k.set e') ha rfl rfl (fun q=>by have:=ha.2.1.1; omega) (fun _=>Jm _) (by omega)
 | undo ha h2 hs hu=>exact hc.add ha rfl rfl (by omega)
 | wrt ha h7 hw=>exact hc.add ha rfl rfl (by omega)
 | lock u=>exact⟨hc.nx,hc.ck,hc.n16,hc.no8⟩
 | save a h=>exact⟨hc.nx,hc.ck,hc.n16,hc.no8⟩
 | back a b h=>exact⟨hc.nx,hc.ck,hc.n16,hc.no8⟩
 | rem a hi hn=>exact⟨hc.nx,hc.ck,hc.n16,hc.no8⟩
 | pool p hs=>exact⟨hc.nx,hc.ck,hc.n16,hc.no8⟩
 | drop a h=>exact⟨hc.nx,hc.ck,hc.n16,hc.no8⟩
 | put x v hr hl _ _=>exact⟨hc.nx,hc.ck,hc.n16,hc.no8⟩
 | putl x v hr hl _ _=>exact⟨hc.nx,hc.ck,hc.n16,hc.no8⟩
 | force d h=>exact⟨hc.nx,hc.ck,hc.n16,hc.no8⟩
def Str.ci(h:Str n k k')(hc:CI m k):CI (m+n) k':=by
 induction h generalizing m with
 | refl k=>exact hc.mono (by omega)
 | step _ h2 ih=>rw[<- Nat.add_assoc]; exact h2.ci (ih hc)
def CrK.go(h:CrK k k')(hk:KI k)(hc:CI m k):KI k'/\CI m k':=by
 obtain⟨j,hj,hv,hn,a,lk,h1,h2,h3,h4⟩:=h
 have hsub:∀ e∈k.lg.es.take j,e∈k.lg.es:=fun e he=>Js he
 have hckn:CkN (1+m) (k.lg.es.take j):=fun e he=>hc.ck e (hsub e he)
 have hnx:=hc.nx
 obtain⟨g1,g2,mm,g3,g4,g5⟩:=h1.cor hv hk.f (hk.log.take j) (b:=1+m) (by omega) (fun e he=>by have:=hk.cor.ids e (hsub e he); omega) hckn hn
 dsimp only at g4 g5
 rw[List.take_of_length_le (l:=k.lg.es.take j) (by omega),<- g1] at g5
 have hK:=QCz (lk:=lk) (m:=k.pl.size) hv hk.f (hk.log.take j) h3 g5
 have:=h4.ci (m:=m) ⟨g2,hckn,JI ((List.take_sublist j k.lg.es).filter _).length_le hc.n16,fun e he=>hc.no8 e (hsub e he)⟩
 exact⟨h4.KI hK,this⟩
def I0(m:Nat)(k:Kn):Prop:=KI k/\CI m k
def QDU:ICr I0:=
 ⟨fun n m k k' h hi=>⟨h.KI hi.1,h.ci hi.2⟩,fun m k h=>h.1.lg,fun m k k' h hi=>by
  obtain⟨h1,h2⟩:=h.go hi.1 hi.2
  exact⟨h1,h2.mono (by omega)⟩⟩
def QCC(n m:Int)(h1:1<=n)(h2:n<=4):I0 0 (Qpj n m):=⟨Qy3 h1 (by omega),⟨by show(1:Int)<=_; omega,fun e he=>by simp[Qpj,Lg1] at he,by simp[Qpj,Lg1],fun e he=>by simp[Qpj,Lg1] at he⟩⟩
def Qsg(c:C)(most:Nat)(hm:most<=1000):VCalls prog 15 [.ptr 0 0,.int .i64 most,.bool true] [cb c] (CX fun r=>∃ k:Kn,r=.agg k.d/\k.sm/\KI k/\CI (most+2) k):=
 (Qsh I0 QDU (fun n m h1 h2 _ _=>QCC n m h1 h2) c most hm).mono fun r h' ⟨B',e1,e2,e3,e4,⟨k,q1,q2,i,q3,q4,q5⟩,e5⟩=>⟨B',e1,e2,e3,e4,⟨k,q1,q2,q4,q5.mono q3⟩,e5⟩
def Qqk(es:List E)(h:j<es.length):es.take (j+1)=es.take j++[es.getD j E0]:=by
 rw[Jf h,Qd _ _ h]
def Qm9{es:List E}(h:y∈es.take j):∃ k,k<j/\k<es.length/\es.getD k E0=y:=by
 obtain⟨k,hk,rfl⟩:=Jc.1 h
 rw[Jp] at hk
 exact⟨k,by omega,by omega,by rw[Qd _ _ (by omega),Jl]⟩
def Qm4 (hv:lgB x = true) (hf:x.f = 1) (hlog:LogOk x.es) (a n:Int):∀ j,j<=x.es.length->(n ∈ Qcb (x.es.take j) a ↔ (∃ k,k < j/\(x.es.getD k E0).lsn = n/\(x.es.getD k E0).kind = 1/\(x.es.getD k E0).tx = a)/\∀ q,q < j->(x.es.getD q E0).kind = 2->(x.es.getD q E0).ref ≠ n)
 | 0,_=>by simp[Qcb]
 | j + 1,hj=>by
   have ih:=Qm4 hv hf hlog a n j (by omega)
   have hat:=(QbI hv (i:=j) (by omega)).1
   have ho:=(QbI hv (i:=j) (by omega)).2
   have he:=hlog j (by omega)
   rw[Qqk _ (by omega),Qca]
   have hu:∀ k,k<j->(x.es.getD k E0).lsn≠(x.es.getD j E0).lsn:=fun k hk=>by
    have:=(QbI hv (i:=k) (by omega)).1
    omega
   have hr:(x.es.getD j E0).kind=2->∃ k,k<j/\(x.es.getD k E0).lsn=(x.es.getD j E0).ref/\(x.es.getD k E0).tx=(x.es.getD j E0).tx:=fun q=>by
    obtain⟨_,y,y1,y2,_,y3,_⟩:=he.un q
    obtain⟨k,k1,_,rfl⟩:=Qm9 y1
    exact⟨k,k1,y2,y3⟩
   have hlt:∀ q,q<x.es.length->(x.es.getD q E0).kind=2->(x.es.getD q E0).ref<1+q:=fun q hq h2=>by
    obtain⟨_,y,y1,y2,_⟩:=(hlog q hq).un h2
    obtain⟨k,k1,_,rfl⟩:=Qm9 y1
    have:=(QbI hv (i:=k) (by omega)).1
    omega
   constructor
   ·intro h
    have old:n∈Qcb (x.es.take j) a->((x.es.getD j E0).kind=2->(x.es.getD j E0).ref≠n)->(∃ k,k<j+1/\(x.es.getD k E0).lsn=n/\(x.es.getD k E0).kind=1/\(x.es.getD k E0).tx=a)/\∀ q,q<j+1->(x.es.getD q E0).kind=2->(x.es.getD q E0).ref≠n:=fun h h'=>by
     obtain⟨⟨k,k1,k2⟩,q⟩:=ih.1 h
     refine⟨⟨k,by omega,k2⟩,fun r hr=>?_⟩
     by_cases hrj:r=j
     ·subst hrj; exact h'
     ·exact q r (by omega)
    split at h
    ·rename_i ht
     split at h
     ·rename_i hk
      rcases Jg.1 h with h | h
      ·exact old h fun q=>by omega
      ·rw [Jd.1 h]
       exact⟨⟨j,by omega,rfl,hk,ht⟩,fun q hq h2=>by have:=hlt q (by omega) h2; omega⟩
     split at h
     ·obtain ⟨h3,h4⟩:=Jb.1 h
      exact old h3 fun _ q=>of_decide_eq_true h4 q.symm
     ·rename_i hk hk2
      exact old h fun q=>absurd q hk2
    ·rename_i ht
     refine old h fun q hq=>?_
     obtain⟨k,k1,k2,k3⟩:=hr q
     obtain⟨⟨k',r1,r2,_,r4⟩,_⟩:=ih.1 h
     have e1:=(QbI hv (i:=k) (by omega)).1
     have e2:=(QbI hv (i:=k') (by omega)).1
     obtain rfl:k=k':=by omega
     exact ht (by rw[<- k3,r4])
   ·rintro ⟨⟨k,k1,k2,k3,k4⟩,q⟩
    by_cases hkj:k=j
    ·subst hkj
     rw[if_pos k4,if_pos k3,k2]
     simp
    ·have hm:n ∈ Qcb (x.es.take j) a:=ih.2 ⟨⟨k,by omega,k2,k3,k4⟩,fun r hr=>q r (by omega)⟩
     split
     ·split
      ·exact JE _ hm
      split
      ·rename_i h2
       exact Jb.2 ⟨hm,decide_eq_true fun h=>q j (by omega) h2 h.symm⟩
      ·exact hm
     ·exact hm
section
def QcY:∀ {l l':List Int},l.Nodup->(∀ x ∈ l,x ∈ l')->l.length<=l'.length
 | [],_,_,_=>Ji _
 | x :: l,l',h,hs=>by
   rw[List.nodup_cons] at h
   have hx:=hs x (by simp)
   have:=QcY (l:=l) (l':=l'.erase x) h.2 fun y hy=>(List.mem_erase_of_ne fun q=>h.1 (by rw[<- q]; exact hy)).2 (hs y (JF _ hy))
   rw[List.length_erase_of_mem hx] at this
   have:0<l'.length:=List.length_pos_of_mem hx
   rw[Jq]
   omega
def Qej{es:List E}{p:E->Bool}{f:E->Int}(h:∀ i j,i<j->j<es.length->p (es.getD i E0)=true->p (es.getD j E0)=true->f (es.getD i E0)≠f (es.getD j E0)):((es.filter p).map f).Nodup:=by
 unfold List.Nodup
 rw[List.pairwise_map,List.pairwise_filter,List.pairwise_iff_getElem]
 intro i j hi hj hij h1 h2
 have:=h i j hij hj
 rw[Qd _ _ hi,Qd _ _ hj] at this
 exact this h1 h2
def Qno (p q r s t:E->Bool):∀ es:List E,(∀ e ∈ es,p e = true\/q e = true\/r e = true\/s e = true\/t e = true)->es.length<=(es.filter p).length + (es.filter q).length + (es.filter r).length + (es.filter s).length + (es.filter t).length
 | [],_=>Ji _
 | e :: es,h=>by
   have ih:=Qno p q r s t es fun x hx=>h x (JF _ hx)
   have mono:∀ f:E->Bool,(es.filter f).length<=((e::es).filter f).length:=fun f=>by
    rw[Jr]; split
    ·rw[Jq]; omega
    ·exact Jm _
   have one:∀ f:E->Bool,f e=true->((e::es).filter f).length=(es.filter f).length+1:=fun f hf=>by rw[Jw hf,Jq]
   have m1:=mono p
   have m2:=mono q
   have m3:=mono r
   have m4:=mono s
   have m5:=mono t
   rw[Jq]
   rcases h e (by simp) with g | g | g | g | g
   ·have:=one p g; omega
   ·have:=one q g; omega
   ·have:=one r g; omega
   ·have:=one s g; omega
   ·have:=one t g; omega
def Qsc(p:Int):∀ es:List E,Qce es p≠0->∃ x∈es,(x.kind=1\/x.kind=2)/\x.c.pg=p/\x.lsn=Qce es p:=by
 refine Qcq (fun h=>absurd rfl h) fun l e ih h=>?_
 rw[Qa3] at h |-
 split at h
 ·rename_i hc
  rw[if_pos hc]
  exact⟨e,by simp,hc.1,hc.2,rfl⟩
 ·rename_i hc
  rw[if_neg hc]
  obtain⟨x,x1,x2⟩:=ih h
  exact⟨x,JE _ x1,x2⟩
def QlU{e:E}(h:e.okB=true)(hk:e.kind=3\/e.kind=4\/e.kind=5):1<=e.tx:=by
 unfold E.okB at h
 rw[Jz] at h
 have h2:=h.2
 unfold E.kindB txB at h2
 rw[if_neg (by omega),if_neg (by omega),if_pos hk] at h2
 simp only[Jz,decide_eq_true_eq] at h2
 omega
def QrU{e:E}(h:e.okB=true):e.kind=1\/e.kind=2\/e.kind=3\/e.kind=4\/e.kind=5\/e.kind=6\/e.kind=7\/e.kind=8:=by
 unfold E.okB at h
 rw[Jz] at h
 have h2:=h.2
 unfold E.kindB at h2
 rcases Qdt e.kind with hk | hk | hk | hk | hk | hk | hk | hk | hk
 ·rw[if_neg (by omega),if_neg (by omega),if_neg (by omega),if_neg (by omega),if_neg (by omega)] at h2; cases h2
 all_goals omega
section
variable {x:Lg} (hv:lgB x=true) (hf:x.f=1) (hlog:LogOk x.es) {m:Nat} (hid:∀ e∈x.es,e.tx<=m)
include hv hf hlog in
theorem Quj:(x.es.filter fun e=>decide (e.kind=2)).length<=(x.es.filter fun e=>decide (e.kind=1)).length:=by
 have h1:((x.es.filter fun e=>decide (e.kind=2)).map (·.ref)).Nodup:=Qej fun i j hij hj h1 h2 he=>by
  have h1:=of_decide_eq_true h1
  have h2:=of_decide_eq_true h2
  obtain⟨u1,_⟩:=(hlog j hj).un h2
  exact((Qm4 hv hf hlog _ _ j (by omega)).1 u1).2 i hij h1 he
 have:=QcY (l':=(x.es.filter fun e=>decide (e.kind=1)).map (·.lsn)) h1 fun n hn=>by
  obtain⟨e,he,rfl⟩:=Jh.1 hn
  obtain⟨e1,e2⟩:=Jb.1 he
  obtain⟨j,hj,hje⟩:=Jc.1 e1
  have hk:=of_decide_eq_true e2
  have:=(hlog j hj).un
  rw[Qd _ _ hj,hje] at this
  obtain⟨_,y,y1,y2,y3,_⟩:=this hk
  exact Jh.2 ⟨y,Jb.2 ⟨Js y1,decide_eq_true y3⟩,y2⟩
 rw[Jj,Jj] at this
 exact this
include hv hlog in
theorem Qsr:(x.es.filter fun e=>decide (e.kind=7)).length<=(x.es.filter fun e=>decide (e.kind=1)||decide (e.kind=2)).length:=by
 have key:∀ j,j<x.es.length->(x.es.getD j E0).kind=7->∃ y∈x.es,(y.kind=1\/y.kind=2)/\y.c.pg=(x.es.getD j E0).c.pg/\y.lsn=(x.es.getD j E0).ref:=fun j hj h7=>by
  have h1:=(hlog j hj).ix h7
  have h2:=((hlog j hj).x7 h7).1
  obtain⟨y,y1,y2,y3,y4⟩:=Qsc (x.es.getD j E0).c.pg (x.es.take j) (by omega)
  exact⟨y,Js y1,y2,y3,by omega⟩
 have h1:((x.es.filter fun e=>decide (e.kind=7)).map (·.ref)).Nodup:=Qej fun i j hij hj h1 h2 he=>by
  have h1:=of_decide_eq_true h1
  have h2:=of_decide_eq_true h2
  obtain⟨y,y1,_,y3,y4⟩:=key i (by omega) h1
  obtain⟨z,z1,_,z3,z4⟩:=key j hj h2
  have:=Qnd hv y1 z1 (by omega)
  subst this
  refine((hlog j hj).x7 h2).2 (x.es.getD i E0) ?_ h1 ⟨by omega,he⟩
  rw[Jc]
  exact⟨i,by rw[Jp]; omega,by rw[Jl,Qd _ _ (by omega)]⟩
 have:=QcY (l':=(x.es.filter fun e=>decide (e.kind=1)||decide (e.kind=2)).map (·.lsn)) h1 fun n hn=>by
  obtain⟨e,he,rfl⟩:=Jh.1 hn
  obtain⟨e1,e2⟩:=Jb.1 he
  obtain⟨j,hj,hje⟩:=Jc.1 e1
  have:=key j hj
  rw[Qd _ _ hj,hje] at this
  obtain⟨y,y1,y2,_,y4⟩:=this (of_decide_eq_true e2)
  exact Jh.2 ⟨y,Jb.2 ⟨y1,by simpa using y2⟩,y4⟩
 rw[Jj,Jj] at this
 exact this
def toM(m:Nat):List Int:=(List.range m).map fun i:Nat=>(i:Int)+1
theorem QxY{m:Nat}{n:Int}(h1:1<=n)(h2:n<=m):n∈toM m:=Jh.2 ⟨(n-1).toNat,JM.2 (by omega),by omega⟩
include hv hlog hid in
theorem Qz1:(x.es.filter fun e=>decide (e.kind = 3) || decide (e.kind = 5)).length<=m/\(x.es.filter fun e=>decide (e.kind = 4)).length<=m:=by
 have hin:∀ i j,i<j->j<x.es.length->x.es.getD i E0∈x.es.take j:=fun i j hij hj=>by
  rw[Jc]
  exact⟨i,by rw[Jp]; omega,by rw[Jl,Qd _ _ (by omega)]⟩
 have hok:∀ j,j<x.es.length->(x.es.getD j E0).okB=true:=fun j hj=>(QbI hv hj).2
 have hpos:∀ e∈x.es,(e.kind=3\/e.kind=4\/e.kind=5)->e.tx∈toM m:=fun e he hk=>by
  obtain⟨j,hj,hje⟩:=Jc.1 he
  have:=hok j hj
  rw[Qd _ _ hj,hje] at this
  exact QxY (QlU this hk) (hid e he)
 constructor
 ·have h1:((x.es.filter fun e=>decide (e.kind = 3) || decide (e.kind = 5)).map (·.tx)).Nodup:=Qej fun i j hij hj h1 h2 he=>by
   have h1:(x.es.getD i E0).kind=3\/(x.es.getD i E0).kind=5:=by simpa only[JC,decide_eq_true_eq] using h1
   have h2:(x.es.getD j E0).kind=3\/(x.es.getD j E0).kind=5:=by simpa only[JC,decide_eq_true_eq] using h2
   exact(hlog j hj).ne (QlU (hok j hj) (by omega)) ⟨_,hin i j hij hj,he,h1⟩
  have:=QcY (l':=toM m) h1 fun n hn=>by
   obtain⟨e,he,rfl⟩:=Jh.1 hn
   obtain⟨e1,e2⟩:=Jb.1 he
   have e2:e.kind=3\/e.kind=5:=by simpa using e2
   exact hpos e e1 (by omega)
  rw[Jj] at this
  simpa [toM] using this
 ·have h1:((x.es.filter fun e=>decide (e.kind = 4)).map (·.tx)).Nodup:=Qej fun i j hij hj h1 h2 he=>by
   have h1:=of_decide_eq_true h1
   have h2:=of_decide_eq_true h2
   have:=(hlog j hj).ab (QlU (hok j hj) (by omega)) ⟨_,hin i j hij hj,he,h1⟩
   omega
  have:=QcY (l':=toM m) h1 fun n hn=>by
   obtain⟨e,he,rfl⟩:=Jh.1 hn
   obtain⟨e1,e2⟩:=Jb.1 he
   exact hpos e e1 (by have:=of_decide_eq_true e2; omega)
  rw[Jj] at this
  simpa [toM] using this
end
def Qy8 (hK:KI k) (hC:CI m k):k.lg.es.length<=6 * m:=by
 have hid:∀ e∈k.lg.es,e.tx<=m:=fun e he=>by have:=hK.cor.ids e he; have:=hC.nx; omega
 have h1:=Quj hK.lg hK.f hK.log
 have h2:=Qsr hK.lg hK.log
 obtain⟨h3,h4⟩:=Qz1 hK.lg hK.log hid
 have h5:=hC.n16
 have le1:(k.lg.es.filter fun e=>decide (e.kind=1)).length<=(k.lg.es.filter c16).length:=by
  rw[<- Jt,<- Jt]
  refine List.countP_mono_left fun e _ he=>?_
  unfold c16
  rw[he]; rfl
 have le2:(k.lg.es.filter fun e=>decide (e.kind = 1) || decide (e.kind = 2)).length<=(k.lg.es.filter fun e=>decide (e.kind = 1)).length + (k.lg.es.filter fun e=>decide (e.kind = 2)).length:=by
  have:∀ es:List E,(es.filter fun e=>decide (e.kind = 1) || decide (e.kind = 2)).length<=(es.filter fun e=>decide (e.kind = 1)).length + (es.filter fun e=>decide (e.kind = 2)).length:=fun es=>by
   induction es with
   | nil=>simp
   | cons e es ih =>
     rw[Jr,Jr,Jr]
     repeat' split
     all_goals simp_all
     all_goals omega
  exact this _
 have:=Qno c16 (fun e=>decide (e.kind=2)) (fun e=>decide (e.kind=3)||decide (e.kind=5)) (fun e=>decide (e.kind=4)) (fun e=>decide (e.kind=7)) k.lg.es fun e he=>by
  have h8:=hC.no8 e he
  have ho:=(QiV hK.lg hK.f he).2.2
  unfold c16
  simp only[JC,decide_eq_true_eq]
  rcases QrU ho with h | h | h | h | h | h | h | h<;>omega
 omega
end
section
attribute [local go_sem] cb cc
def QqF(h:QqG l es)(n:Nat):QqG (l+n) (es.drop n):=fun i hi=>by
 rw[JA] at hi
 have:=h (n+i) (by omega)
 rw[show(es.drop n).getD i E0=es.getD (n+i) E0 by simp[Ja]]
 exact⟨by rw[this.1]; omega,this.2⟩
structure DLg(x:Lg):Prop where
 ok:lgB x=true
 len:x.es.length<=4096
 end_:x.f+x.es.length<=4097
def DLg.lsn(h:DLg x)(i:Nat)(hi:i<x.es.length):1<=(x.es.getD i E0).lsn/\(x.es.getD i E0).lsn<=1000000000:=by
 have h1:=Ql3 h.ok i hi
 have h2:=Qan h.ok
 simp only[Lg.hd] at h2
 have h3:=h.end_
 rw[h1.1]
 omega
def Qz4(hz:lgB z=true)(hf:z.f=1)(h0:0<=u)(hu:z.f+u<=z.d+1):DLg (Qxd z (z.f+u)).1:=by
 have hd:=Qan hz
 simp only[Lg.hd] at hd
 unfold Qxd
 rw[if_neg (by rw[hz]; decide),if_neg (by unfold Lg.end_; omega),if_neg (by omega)]
 have e1:z.f+u-z.f=u:=by omega
 dsimp only
 rw[e1]
 have hs:=QqF (Ql3 hz) u.toNat
 rw[show((u.toNat:Nat):Int)=u by omega] at hs
 have hl:(z.es.drop u.toNat).length=z.es.length-u.toNat:=JA
 exact⟨QBR (x:=⟨z.f+u,z.es.drop u.toNat,z.d⟩) ⟨by dsimp only; omega,by dsimp only; omega,by dsimp only; omega,by dsimp only; omega,by dsimp only; omega⟩ hs,by dsimp only; omega,by dsimp only; omega⟩
def Qwg(x:Lg)(n:Int):(Qxd x n).1.es.length<=x.es.length:=by
 unfold Qxd
 split
 ·exact Ji _
 split
 ·exact Ji _
 split
 ·exact Ji _
 ·dsimp only
  rw[JA]
  omega
def Qz3(c:C)(most:Nat)(hm:most<=1000):VCalls prog 10 [.ptr 0 0,.int .i64 most] [cb c] (CX fun r=>∃ x:Lg,r=.agg x.c/\DLg x/\x.es.length<=6*(most+2)):=by
 refine dd Tryz.func10 ?_
 (unfold Tryz.f10; refine rn trivial ?_)
 refine Q4 (k:=0) (c:=c) (Qsg c most hm) rfl rfl ?_
 rintro _ c1 ⟨k,rfl,hk,hK,hC⟩
 have hln:=Qy8 hK hC
 have hv:=hK.lg
 have hf:=hK.f
 clear hK hC
 obtain⟨pg,nx,x,pl,lk,tx,ix,la⟩:=k
 dsimp only at hv hf hln
 have hl:x.es.length<=4096:=hk.1
 refine rn trivial ?_
 refine Q4 (k:=0) (c:=c1) (QU c1 2 (by omega) (by omega)) rfl rfl ?_
 rintro _ c2 ⟨y,rfl,hy⟩
 have q1:=Qd8 x (by omega)
 have q2:=QfB x (by omega) (QcD x)
 have hF:lgB (QG x (QcD x)).1=true/\(QG x (QcD x)).1.f=1/\(QG x (QcD x)).1.es=x.es:=by
  have hd:=Qan hv
  simp only[Lg.hd] at hd
  have e1:QcD x=x.end_:=if_pos hv
  have h0:(QG x (QcD x)).2=0:=by
   unfold QG
   rw[if_neg (by rw[hv]; decide),if_neg (by rw[e1]; omega)]
  refine⟨(Qes h0).ok hv,(Qes h0).f.trans hf,?_⟩
  unfold QG
  rw[if_neg (by rw[hv]; decide),if_neg (by rw[e1]; omega)]
 generalize QG x (QcD x)=F0 at *
 obtain⟨z0,e0⟩:=F0
 dsimp only at hF
 refine rn F ?_
 repeat' (first
  | with_reducible exact⟨⟩
  | (refine sB F ?_ ?_<;>intro hZ)
  | refine vp F (q1) ?_
  | refine vp F (q2) ?_
  | (refine Qc (id:=3) [0,1] [⟨[],[],2,[0],[]⟩,⟨[],[],3,[1],[4,5,6]⟩,⟨[],[],7,[6],[]⟩] (by kernel_rfl) (by kernel_rfl) ?_; refine rn F ?_))
 case' refine_1=>obtain⟨z,rfl,hz,hzf,hzl⟩:∃ z,z=z0/\lgB z=true/\z.f=1/\z.es.length<=6*(most+2):=⟨z0,rfl,hF.1,hF.2.1,by rw[hF.2.2]; exact hln⟩
 case' refine_2=>obtain⟨z,rfl,hz,hzf,hzl⟩:∃ z,z=x/\lgB z=true/\z.f=1/\z.es.length<=6*(most+2):=⟨x,rfl,hv,hf,hln⟩
 all_goals
  have hd:=Qan hz
  simp only[Lg.hd] at hd
  have hl2:z.es.length<=4096:=hd.2.2.1
  refine Q4 (k:=0) (c:=c2) (QU c2 5 (by omega) (by omega)) rfl rfl ?_
  rintro _ c3 ⟨w,rfl,hw⟩
  by_cases hq:(w:Int)=0/\z.d >= z.f
  ·obtain ⟨hq1,hq2⟩:=hq
   have F:=(Je @hq1 @hq2)
   refine rn F ?_
   repeat' (first
    | with_reducible exact⟨⟩
    | (refine Qc (id:=5) [0,1,2,3,4,5,6,7,8,9] [⟨[],[],10,[0,1,2,4,5,6,7,8],[11]⟩,⟨[],[],12,[1,2,3,4,5,6,7,8,9],[13,14,15]⟩,⟨[],[],16,[15],[]⟩] (by kernel_rfl) (by kernel_rfl) ?_; refine rn F ?_))
   refine Q4 (k:=0) (c:=c3) (Qr0 c3 (z.d-z.f+2) (by omega) (by omega)) rfl rfl ?_
   rintro _ c4 ⟨u,rfl,hu⟩
   have q3:=QBA z (by omega) (z.f+u)
   have F:=trivial
   refine rn F ?_
   repeat' (first
    | with_reducible exact⟨⟩
    | refine vp F (q3) ?_)
   exact⟨_,rfl,rfl,QaW _,rfl,⟨(Qxd z (z.f+u)).1,rfl,Qz4 hz hzf (by omega) (by omega),JI (Qwg _ _) hzl⟩,_,rfl⟩
  ·skip
   have F:=trivial
   refine rn F ?_
   repeat' (first
    | with_reducible exact⟨⟩
    | (refine sG F ?_ ?_<;>intro hZ))
   all_goals first
    | exact⟨_,rfl,rfl,QaW _,rfl,⟨z,rfl,⟨hz,hl2,by omega⟩,hzl⟩,_,rfl⟩
    | (exfalso; omega)
    | skip
end
def QCm:∀ n:Nat,n<=16->(QcE (n:Int) 0).toNat=n:=by
 have:∀ n:Fin 17,(QcE ((n.1:Nat):Int) 0).toNat=n.1:=by decide +kernel
 intro n hn
 exact this ⟨n,by omega⟩
def QAc(b:Bool):(QcE (Qpo b) 0).toNat=if b=true then 1 else 0:=by cases b<;>decide +kernel
def QeE(m:Md):QbR m m.done.length=[77,68,QcE (Qpo m.on) 0,QcE m.done.length 0]++m.done.map fun b=>QcE (Qpo b) 0:=by
 unfold QbR Qj
 rw[JJ]
 rfl
def sbK(m:Md)(i:Nat)(h:i<m.done.length):sb (QbR m m.done.length) (4+i)=if m.done.getD i false=true then 1 else 0:=by
 unfold sb
 rw[QeE,Ja,Ju (by simp),show 4+i-[77,68,QcE (Qpo m.on) 0,QcE m.done.length 0].length=i by simp,JH,Ja,Jk h]
 exact QAc _
def QmV (m:Md) (hm:m.done.length<=16):rdS (QbR m m.done.length) = ⟨m.on,m.done,[]⟩:=by
 have hl:=QeD m m.done.length (Jm _)
 unfold rdS
 congr 1
 ·have:sb (QbR m m.done.length) 2 = if m.on = true then 1 else 0:=by
   unfold sb; rw[QeE]; exact QAc _
  rw[this]
  cases m.on<;>rfl
 ·rw [hl,Jy]
  refine List.ext_getElem (by simp[QdT]) fun i h1 h2=>?_
  simp only[QdT,List.getElem_map,List.getElem_range]
  rw[sbK m i h2,Ja,Jk h2]
  dsimp only[Option.getD_some]
  cases m.done[i]<;>rfl
def Qo6(m:Md)(hm:m.done.length<=16)(hv:vB m.on m.done=true):Qcz (QbR m m.done.length)=true:=by
 have hl:=QeD m m.done.length (Jm _)
 have h3:sb (QbR m m.done.length) 3=m.done.length:=by unfold sb; rw[QeE]; exact QCm _ hm
 have h2:sb (QbR m m.done.length) 2<=1:=by
  have:sb (QbR m m.done.length) 2=if m.on=true then 1 else 0:=by
   unfold sb; rw[QeE]; exact QAc _
  rw[this]; split<;>omega
 unfold Qcz
 rw[QmV m hm]
 dsimp only
 rw[hv,hl,h3]
 have h5:QcS (QbR m m.done.length) (4+m.done.length-4)=true:=by
  rw[Jy]
  unfold QcS
  rw[List.all_eq_true]
  intro i hi
  rw[JM] at hi
  rw[sbK m i hi,decide_eq_true_eq]
  split<;>omega
 have h1:(QbR m m.done.length).take 2=[77,68]:=by rw[QeE]; rfl
 rw[h5,h1,decide_eq_true h2]
 simp
def QvB(m:Md)(hm:m.done.length<=16)(h1:1<=n)(h2:n<=1099511627776):({ QcW m with lsn:=n }:E).okB=true:=by
 have hl:=QeD m m.done.length (Jm _)
 have hl2:(QbR m m.done.length).length<=8192:=by omega
 unfold E.okB E.kindB QcW
 simp[bef,Ch.no,Ce.no,Ch0,Ce0,h1,h2,hl2]
 omega
def Qtz(h:lgB x=true)(he:x.f+x.es.length<=4097)(hl:x.es.length<4096)(hm:m.done.length<=16)(hv:vB m.on m.done=true):QdU x (QcW m)=(⟨x.f,x.es++[{ QcW m with lsn:=x.end_+1 }],x.d⟩,x.end_+1,0)/\QvD ⟨x.f,x.es++[{ QcW m with lsn:=x.end_+1 }],x.d⟩=(⟨m.on,m.done,[]⟩,x.end_+1,true):=by
 have hd:=Qan h
 simp only[Lg.hd] at hd
 have h1:1<=x.end_+1:=by unfold Lg.end_; omega
 have h2:x.end_+1<=1099511627776:=by unfold Lg.end_; omega
 have ho:=QvB m hm h1 h2
 have ha:QdU x (QcW m)=(⟨x.f,x.es++[{ QcW m with lsn:=x.end_+1 }],x.d⟩,x.end_+1,0):=by
  unfold QdU
  rw[if_neg (by rw[h]; decide),if_neg (by omega),if_neg (by rw[ho]; decide)]
 refine⟨ha,?_⟩
 have hlg:=QfR (x:=x) (e:=QcW m) (by rw[ha])
 rw[ha] at hlg
 dsimp only at hlg
 have hg:(x.es++[({ QcW m with lsn:=x.end_+1 }:E)]).getD x.es.length E0={ QcW m with lsn:=x.end_+1 }:=by
  rw[Ja,Ju (Jm _),Nat.sub_self]
  rfl
 have hb:Qcz (QcW m).blob=true:=Qo6 m hm hv
 have hr:rdS (QcW m).blob=⟨m.on,m.done,[]⟩:=QmV m hm
 unfold QvD
 rw[if_pos hlg]
 dsimp only
 rw[Jv,Jo,Qhh,if_pos (by rw[hg]; unfold QtO; dsimp only; rw[hb]; rfl),hg]
 dsimp only
 rw[hr]
section
attribute [local go_sem] QiW Qk1 QjO Qfi Qsa QtB Qqz Qqw Qfh
def Qx6(m:Md)(hm:m.done.length<=16/\m.wait.length<=900)(n:Int):VCalls prog 27 [.agg m.c,.int .i64 n] [] (Qz mdD fun a=>a.1.done.length<=16/\a.1.wait.length<=m.wait.length+1):=by
 refine dk Tryz.func27 ?_
 have c1:=QmH m ⟨hm.1,by have:=hm.2; omega⟩ n
 have c2:=QhB m.wait (by have:=hm.2; omega) n
 obtain⟨on,l,w⟩:=m
 obtain⟨h1,h2⟩:=hm
 dsimp only at h1 h2 c2 |-
 (unfold Tryz.f27; refine rn trivial ?_)
 refine Qbl c1 rfl ?_
 rintro _ ⟨e,rfl,he⟩
 dsimp only at he
 by_cases e0:e=0
 ·obtain ⟨g1,g2⟩:=he e0
  subst e0
  have hd:=Qfd l n.toNat (by omega)
  have hb:(w.length+1)*8<=140737488355328:=by omega
  have F:=(Je @hd (Je @g1 (Je @g2 @hb)))
  refine rn F ?_
  repeat' (first
   | with_reducible exact⟨⟩
   | (refine sG F ?_ ?_<;>intro hZ)
   | (refine sB F ?_ ?_<;>intro hZ)
   | (refine Ql (c2) rfl ?_; rintro w2 hw; refine rn F ?_)
   | (refine Qc (id:=4) [0,1,2,3,4,5,6,7,8,11,12,13] [⟨[],[],9,[0,1,2,3,4,6,11,12,13],[10,14,15]⟩] (by kernel_rfl) (by kernel_rfl) ?_; refine rn F ?_))
  ·exact⟨rfl,rfl,(⟨on,l,w⟩,0),rfl,h1,by dsimp only; omega⟩
  ·exact⟨rfl,rfl,(⟨on,l,w++[n]⟩,0),rfl,h1,by simp⟩
  ·exact⟨rfl,rfl,(⟨on,l,w⟩,0),rfl,h1,by dsimp only; omega⟩
 ·skip
  have F:=@e0
  refine rn F ?_
  exact⟨rfl,rfl,(⟨false,[],[]⟩,e),rfl,by simp,by simp⟩
def Qn2(m:Md)(hm:m.done.length<=16/\m.wait.length<=900)(n:Int):VCalls prog 28 [.agg m.c,.int .i64 n] [] (Qz mdD fun a=>a.1.done.length<=16/\a.1.wait.length<=m.wait.length):=by
 refine dk Tryz.func28 ?_
 have c1:=QmH m ⟨hm.1,by have:=hm.2; omega⟩ n
 have c2:=QhB m.wait (by have:=hm.2; omega) n
 obtain⟨on,l,w⟩:=m
 obtain⟨h1,h2⟩:=hm
 dsimp only at h1 h2 c2 |-
 have c3:=fun b=>Qqx (l.set n.toNat b) (by rw[JD]; omega)
 (unfold Tryz.f28; refine rn trivial ?_)
 refine Qbl c1 rfl ?_
 rintro _ ⟨e,rfl,he⟩
 dsimp only at he
 by_cases e0:e=0
 ·obtain ⟨g1,g2⟩:=he e0
  subst e0
  have hd:=Qfd l n.toNat (by omega)
  have hn:n.toNat<l.length:=by omega
  have F:=(Je @hd (Je @g1 (Je @g2 @hn)))
  refine rn F ?_
  repeat' (first
   | with_reducible exact⟨⟩
   | (refine sB F ?_ ?_<;>intro hZ)
   | refine vl F (c3 true) ?_
   | (refine Ql (c2) rfl ?_; rintro w2 hw; refine rn F ?_)
   | (refine Qc (id:=6) [0,1,3,4,5] [⟨[8],[],2,[0,3,4,5],[]⟩,⟨[8],[],6,[0,1,3],[7]⟩,⟨[8],[8],9,[],[]⟩] (by kernel_rfl) (by kernel_rfl) ?_; refine rn F ?_))
  all_goals first
   | exact⟨rfl,rfl,(⟨false,[],[]⟩,_),rfl,by simp,by simp⟩
   | exact⟨rfl,rfl,(⟨true,l.set n.toNat true,w2⟩,0),rfl,by dsimp only; rw[JD]; omega,by dsimp only; omega⟩
   | skip
 ·skip
  have F:=@e0
  refine rn F ?_
  exact⟨rfl,rfl,(⟨false,[],[]⟩,e),rfl,by simp,by simp⟩
def Md.s1(m:Md):Prop:=m.done.length<=16/\m.wait.length<=20
structure MdS where
 k:Nat
 c:C
 m:Md
 h1:m.done.length<=16
 h2:m.wait.length+k<=8
def Quv(c:C):VCalls prog 7 [.ptr 0 0] [cb c] (CX fun d=>∃ m:Md,d=.agg m.c/\m.s1):=by
 refine dk Tryz.func7 ?_
 (unfold Tryz.f7; refine rn trivial ?_)
 refine Q4 (k:=0) (c:=c) (QU c 30 (by omega) (by omega)) rfl rfl ?_
 rintro _ c1 ⟨z,rfl,hz⟩
 refine rn trivial ?_
 refine Ql (Qx4 (1+z) (by omega) (by omega)) rfl ?_
 rintro⟨m0,e0⟩ ⟨h1,h2⟩
 dsimp only at h1 h2
 refine rn trivial ?_
 refine Q4 (k:=0) (c:=c1) (QU c1 8 (by omega) (by omega)) rfl rfl ?_
 rintro _ c2 ⟨y,rfl,hy⟩
 refine rn trivial ?_
 refine Qg (fun s:MdS=>⟨54,1,[(5,.int .i64 s.k),(3,.ptr 2 0),(2,.ptr 1 0),(0,.ptr 0 0)],[cb s.c,⟨29,true,[.bool false,.pv (.slc []),.pv (.slc [])]⟩,⟨29,true,s.m.c⟩]⟩) (fun s=>s.k) ⟨y,c2,m0,h1,by omega⟩ (gc [0,1,2]) ?_
 rintro⟨k,c3,m,h1,h2⟩
 dsimp only
 by_cases hk:0<k
 ·have hk':(0:Int) < k:=by omega
  obtain⟨j,rfl⟩:∃ j,k=j+1:=⟨k-1,by omega⟩
  have hkk:((j+1:Nat):Int)-1=j:=by omega
  refine rn @hk' ?_
  refine Qc (id:=5) [0,1] [⟨[7],[],2,[0],[]⟩,⟨[7],[],3,[1],[4,5,6]⟩,⟨[7],[7],8,[6],[]⟩,⟨[],[],9,[],[]⟩] (by kernel_rfl) (by kernel_rfl) ?_
  refine rn trivial ?_
  refine Q4 (k:=0) (c:=c3) (QU c3 8 (by omega) (by omega)) rfl rfl ?_
  rintro _ c4 ⟨a,rfl,ha⟩
  refine rn trivial ?_
  refine Ql (Qx6 m ⟨h1,by omega⟩ a) rfl ?_
  rintro⟨m1,e1⟩ ⟨g1,g2⟩
  dsimp only at g1 g2
  refine rn trivial ?_
  refine Q4 (k:=0) (c:=c4) (QU c4 2 (by omega) (by omega)) rfl rfl ?_
  rintro _ c5 ⟨v,rfl,hv⟩
  by_cases v0:(v:Int)=0
  ·(refine rn @v0 ?_; try with_reducible exact ⟨⟩)
   refine Qc (id:=7) [0,1] [⟨[],[],2,[0],[]⟩,⟨[],[],3,[1],[4,5,6]⟩,⟨[],[],7,[6],[]⟩,⟨[],[],8,[],[]⟩] (by kernel_rfl) (by kernel_rfl) ?_
   refine rn trivial ?_
   refine Q4 (k:=0) (c:=c5) (QU c5 8 (by omega) (by omega)) rfl rfl ?_
   rintro _ c6 ⟨b,rfl,hb⟩
   refine rn trivial ?_
   refine Ql (Qn2 m ⟨h1,by omega⟩ b) rfl ?_
   rintro⟨m2,e2⟩ ⟨q1,q2⟩
   dsimp only at q1 q2
   refine rn trivial ?_
   by_cases h0:e2=0
   ·(refine rn (Je @h0 @hkk) ?_; try with_reducible exact ⟨⟩)
    exact⟨⟨j,c6,m2,q1,by omega⟩,by dsimp only; omega,(gc [0,1,2])⟩
   ·(refine rn (Je @h0 @hkk) ?_; try with_reducible exact ⟨⟩)
    exact⟨⟨j,c6,m,h1,by omega⟩,by dsimp only; omega,(gc [0,1,2])⟩
  ·(refine rn @v0 ?_; try with_reducible exact ⟨⟩)
   by_cases h0:e1=0
   ·(refine rn (Je @h0 @hkk) ?_; try with_reducible exact ⟨⟩)
    exact⟨⟨j,c5,m1,g1,by omega⟩,by dsimp only; omega,(gc [0,1,2])⟩
   ·(refine rn (Je @h0 @hkk) ?_; try with_reducible exact ⟨⟩)
    exact⟨⟨j,c5,m,h1,by omega⟩,by dsimp only; omega,(gc [0,1,2])⟩
 ·obtain rfl:k = 0:=by omega
  refine rn trivial ?_
  refine Q4 (k:=0) (c:=c3) (QU c3 6 (by omega) (by omega)) rfl rfl ?_
  rintro _ c4 ⟨a,rfl,ha⟩
  obtain⟨on,l,w⟩:=m
  dsimp only at h1 h2
  by_cases a0:(a:Int)=0
  ·have hb:(w.length + 1) * 8<=140737488355328:=by omega
   refine rn @a0 ?_
   refine Q4 (k:=0) (c:=c4) (QU c4 9 (by omega) (by omega)) rfl rfl ?_
   rintro _ c5 ⟨b,rfl,hb2⟩
   refine rn @hb ?_
   exact⟨_,rfl,rfl,QaW _,rfl,⟨⟨on,l,w++[(b:Int)-1]⟩,rfl,h1,by simp; omega⟩,_,rfl⟩
  ·(refine rn @a0 ?_; try with_reducible exact ⟨⟩)
   exact⟨_,rfl,rfl,QaW _,rfl,⟨⟨on,l,w⟩,rfl,h1,by dsimp only; omega⟩,_,rfl⟩
end
section
attribute [local go_sem] QiW Qk1 QjO Qfi Qsa QtB Qqz Qqw Qfh QCY cb cc E.d QcW Ch0 Ce0
def QD3:∀ n:Nat,V.mk [.pv (.lit (.bool false))] n = cells Qcw (Jn n false)
 | 0=>rfl
 | n + 1=>by
   show _++V.mk _ n=_
   rw[QD3 n,List.replicate_succ]; rfl
def Qmn(l:List Bool):cells Qcw l=l.map DV.bool:=by
 induction l with
 | nil=>rfl
 | cons a r ih=>rw[QK,ih]; rfl
def QDh(l:List Bool)(i:Nat)(b:Bool):(cells Qcw l).set i (.pv (.lit (.bool b)))=cells Qcw (l.set i b):=by rw[Qmn,Qmn,List.map_set]
def Qmm(l:List Bool)(i:Nat)(h:i<l.length):(cells Qcw l)[i]?=some (.pv (.lit (.bool (l.getD i false)))):=by rw[Qmn,JH,Ja,Jk h]; rfl
def Qql (m:Md) (hm:m.s1):VCalls prog 8 [.agg m.c] [] (Qz (fun b:Bool=>.bool b) fun b=>b = true->vB m.on m.done = true):=by
 refine dk Tryz.func8 ?_
 obtain⟨on,l,w⟩:=m
 obtain⟨h1,h2⟩:=hm
 dsimp only at h1 h2 |-
 have c1:=Qgd l (by omega)
 (unfold Tryz.f8; refine rn trivial ?_)
 cases on
 ·skip
  refine rn F ?_
  refine⟨rfl,rfl,_,rfl,fun h=>?_⟩
  have:l.length=0:=by simp at h; omega
  unfold vB
  rw[if_neg (by decide),decide_eq_true this]
 refine rn F ?_
 repeat' (first
  | with_reducible exact⟨⟩
  | (refine sG F ?_ ?_<;>intro hZ)
  | (refine sB F ?_ ?_<;>intro hZ)
  | refine vp F (c1) ?_)
 all_goals first
  | exact⟨rfl,rfl,false,rfl,fun h=>by cases h⟩
  | skip
 have hmk:=QD3 l.length
 have hlr:(Jn l.length false).length=l.length:=JB
 refine Qg (fun s:{s:Nat×List Bool // s.1<=w.length/\s.2.length=l.length}=>⟨70,0,[(40,.int .i64 s.1.1),(39,.int .i64 w.length),(38,.pv (.sl (fz QR w))),(3,.own 1 1 0 l.length),(1,.ptr 0 0)],[⟨29,true,Md.c ⟨true,l,w⟩⟩,⟨4,true,cells Qcw s.1.2⟩]⟩) (fun s=>w.length-s.1.1) ⟨(0,Jn l.length false),Ji _,hlr⟩ (gc [0,1]) ?_
 rintro⟨⟨i,seen⟩,hi,hsn⟩
 dsimp only at hi hsn |-
 have e1:vB true l=(decide (1<=l.length)&&decide (l.length<=16)&&!Qpd l):=rfl
 have hg:=fun h:i<w.length=>QkI w i h
 have hd:=fun(h0:¬ w.getD i 0<0) (h1:¬ (w.getD i 0) >= l.length)=>Qfd l (w.getD i 0).toNat (by omega)
 have hs:=fun(h0:¬ w.getD i 0<0) (h1:¬ (w.getD i 0) >= l.length)=>Qmm seen (w.getD i 0).toNat (by omega)
 have hst:=QDh seen
 have hlt:=fun(h0:¬ w.getD i 0<0) (h1:¬ (w.getD i 0) >= l.length)=>(eq_true (by omega):((w.getD i 0).toNat<seen.length)=True)
 have F:=(Je @hg (Je @hd (Je @hs (Je @hst @hlt))))
 refine rn F ?_
 repeat' (first
  | with_reducible exact⟨⟩
  | (refine sG F ?_ ?_<;>intro hZ)
  | (refine sB F ?_ ?_<;>intro hZ))
 all_goals first
  | exact⟨rfl,rfl,false,rfl,fun h=>by cases h⟩
  | exact⟨⟨(i+1,seen.set (w.getD i 0).toNat true),by dsimp only; omega,by dsimp only; rw[JD]; exact hsn⟩,by dsimp only; omega,(gc [0,1])⟩
  | (refine ⟨rfl,rfl,true,rfl,fun _=>?_⟩
     rw[e1,(by assumption:Qpd l=false),decide_eq_true (by omega),decide_eq_true (by omega)]; rfl)
  | skip
def QqH(l:List UInt8)(hl:l.length<=9223372036854775807):VCalls prog 3 [.pv (.sl (fz Qc5 l))] [] (Ret (.bool true)):=by
 refine dk Tryz.func3 ?_
 (unfold Tryz.f3; refine rn trivial ?_)
 refine Qac QuE rfl ?_
 refine rn trivial ?_
 refine QxK (l:=l) (most:=300) (by omega) (by omega) hl fun c0=>?_
 refine rn trivial ?_
 refine Q4 (k:=0) (c:=c0) (Quv c0) rfl rfl ?_
 rintro _ c1 ⟨m,rfl,hm⟩
 refine rn trivial ?_
 refine Qbl (Qql m hm) rfl ?_
 rintro _ ⟨b,rfl,hb⟩
 cases b
 ·(refine rn trivial ?_; try with_reducible exact⟨⟩)
 have hv:=hb rfl
 refine rn trivial ?_
 refine Qc (id:=7) [0,2] [⟨[9],[],1,[2],[]⟩,⟨[9],[],3,[0],[]⟩,⟨[9],[],4,[0,2],[5,6,7,8]⟩,⟨[9],[9],10,[7,8],[]⟩,⟨[],[],11,[8],[]⟩,⟨[],[],12,[],[]⟩] (by kernel_rfl) (by kernel_rfl) ?_
 refine rn trivial ?_
 refine Q4 (k:=0) (c:=c1) (Qz3 c1 10 (by omega)) rfl rfl ?_
 rintro _ c2 ⟨x,rfl,hx,hxl⟩
 obtain⟨a1,a2⟩:=Qtz hx.ok hx.end_ (by omega) hm.1 hv
 have d1:=Qj3 x (by omega) (QcW m)
 rw[a1] at d1
 have d2:=Qr3 ⟨x.f,x.es++[{ QcW m with lsn:=x.end_+1 }],x.d⟩ (by dsimp only; rw[Jv,Jo]; omega)
 rw[a2] at d2
 have d3:=Qx3 ⟨m.on,m.done,[]⟩ ⟨by have:=hm.1; dsimp only; omega,Ji _⟩
 generalize x.es++[{ QcW m with lsn:=x.end_+1 }]=es2 at *
 have hnn:(x.end_+1==x.end_+1)=true:=by simp
 refine rn trivial ?_
 refine Qac (Qx7 m hm.1) rfl ?_
 refine rn trivial ?_
 refine Qac d1 rfl ?_
 refine rn trivial ?_
 refine Qac d2 rfl ?_
 refine rn @hnn ?_
 have d4:VCalls prog 13 [.agg (Md.c ⟨m.on,m.done,[]⟩),.agg [.bool m.on,.pv (.sl (fz Qcw m.done)),.pv (.slc [])]] [] (Ret (.bool true)):=VCalls.wkA d3
 refine Qac d4 rfl ?_
 (refine rn trivial ?_; try with_reducible exact⟨⟩)
end
end Go.Proofs.YtepdccfgnafgcaaGreat
